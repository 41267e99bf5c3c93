/- Operations put in order: what lies in memory. -/
import Derived.Test.YtfadbihdmohdiaaGreatDoorLA
import Derived.Test.YtfadbihdmohdiaaGreatDoorGA
import Derived.Test.YtfadbihdmohdiaaGreatDoorOsjV
set_option linter.unusedSimpArgs false
set_option linter.unusedVariables false
namespace Go.Osj
/-- a row of dots that lies apart from two others -/
def Apart2 (S : St) (u w v : Value) : Prop := ∀ j, blkOf v = some j → j < S.n ∧ blkOf u ≠ some j ∧ blkOf w ≠ some j
theorem Apart2.ext {S S' : St} {u w v : Value} (h : Apart2 S u w v) (e : S.Ext S') : Apart2 S' u w v := fun j hj => ⟨Nat.lt_of_lt_of_le (h j hj).1 e.n, (h j hj).2⟩
theorem Apart2.mv {S S' : St} {u u' w v : Value} (h : Apart2 S u w v) (n : S.n ≤ S'.n) (hu : blkOf u' = blkOf u ∨ ∃ b, blkOf u' = some b ∧ S.n ≤ b) : Apart2 S' u' w v := fun j hj => by
  obtain ⟨h1, h2, h3⟩ := h j hj
  refine ⟨by omega, ?_, h3⟩
  rcases hu with hu | ⟨b, hu, hb⟩
  · rw [hu]; exact h2
  · rw [hu]; intro e; injection e with e; omega
theorem Apart2.sym {S : St} {u w v : Value} (h : Apart2 S u w v) : Apart2 S w u v := fun j hj => ⟨(h j hj).1, (h j hj).2.2, (h j hj).2.1⟩
theorem Apart2.fresh {S S' : St} {u w v : Value} (h : ∀ j, blkOf v = some j → S.n ≤ j ∧ j < S'.n) (hu : ∀ j, blkOf u = some j → j < S.n) (hw : ∀ j, blkOf w = some j → j < S.n) : Apart2 S' u w v := fun j hj => by
  obtain ⟨h1, h2⟩ := h j hj
  exact ⟨h2, fun e => by have := hu j e; omega, fun e => by have := hw j e; omega⟩
theorem SlT.but2 {α : Type} (E : Enc α) {S S' : St} {u w v : Value} {xs : List α} (h : SlT E S v xs) (a : Apart2 S u w v) (hb : St.But u S S') : SlT E S' v xs := h.but E hb fun q hq => (a q hq).2.1
/-- the same, if there is anything in it -/
def ApartN (S : St) (u w v : Value) (xs : List Dot) : Prop := xs ≠ [] → Apart2 S u w v
theorem ApartN.ext {S S' : St} {u w v : Value} {xs : List Dot} (h : ApartN S u w v xs) (e : S.Ext S') : ApartN S' u w v xs := fun n => (h n).ext e
theorem ApartN.mv {S S' : St} {u u' w v : Value} {xs : List Dot} (h : ApartN S u w v xs) (n : S.n ≤ S'.n) (hu : blkOf u' = blkOf u ∨ ∃ b, blkOf u' = some b ∧ S.n ≤ b) : ApartN S' u' w v xs := fun k => (h k).mv n hu
theorem ApartN.sym {S : St} {u w v : Value} {xs : List Dot} (h : ApartN S u w v xs) : ApartN S w u v xs := fun k => (h k).sym
theorem SlT.nil_any {α : Type} (E : Enc α) {S : St} {v : Value} (h : SlT E S v ([] : List α)) (S' : St) : SlT E S' v ([] : List α) := by
  obtain ⟨base, cap, h1, h2, h3, -⟩ := h
  exact ⟨base, cap, h1, h2, h3, fun h => absurd rfl h⟩
theorem SlT.butN {S S' : St} {u w v : Value} {xs : List Dot} (h : SlT dotE S v xs) (a : ApartN S u w v xs) (hb : St.But u S S') : SlT dotE S' v xs := by
  by_cases hx : xs = []
  · subst hx
    exact h.nil_any dotE S'
  · exact h.but2 dotE (a hx) hb
theorem SlT.blk_lt {α : Type} (E : Enc α) {S : St} {v : Value} {xs : List α} (h : SlT E S v xs) (hx : xs ≠ []) : ∀ j, blkOf v = some j → j < S.n := by
  obtain ⟨base, cap, rfl, -, -, h⟩ := h
  obtain ⟨b, off, rfl, hb, -⟩ := h hx
  intro j hj
  simp [blkOf] at hj
  subst hj
  exact hb
structure OrdT (S : St) (B : Nat) (vr vd vh : Value) (pr pd : List (OpA × SlP)) (v : List Dot) : Prop where
  rest : RowT opE B S vr pr
  done : OwnT opE B S vd pd
  hav : SlT dotE S vh v
  hap : Apart2 S vr vd vh
  dr : ∀ p ∈ pr, SlT dotE S (slOf p.2) p.1.deps ∧ ApartN S vr vd (slOf p.2) p.1.deps
  dd : ∀ p ∈ pd, SlT dotE S (slOf p.2) p.1.deps ∧ ApartN S vr vd (slOf p.2) p.1.deps
  ne : ∀ j, blkOf vr = some j → blkOf vd ≠ some j
theorem RowT.blk {α : Type} (E : Enc α) {B : Nat} {S : St} {v : Value} {xs : List α} (h : RowT E B S v xs) : ∀ q, blkOf v = some q → B ≤ q ∧ q < S.n := by
  intro q hq
  rcases h with ⟨_, rfl⟩ | ⟨b, c, tail, rfl, hB, hb, _⟩
  · simp [blkOf] at hq
  · simp [blkOf] at hq
    subst hq
    exact ⟨hB, hb⟩
theorem RowT.congr {α : Type} (E : Enc α) {B : Nat} {S S' : St} {v : Value} {xs : List α} (h : RowT E B S v xs) (hn : S.n ≤ S'.n) (ho : ∀ b l c, v = .slice (some ⟨b, 0, none⟩) l c → b < S.n → S'.obj b = S.obj b) : RowT E B S' v xs := by
  rcases h with h | ⟨b, c, tail, rfl, hB, hb, hc, h⟩
  · exact .inl h
  · exact .inr ⟨b, c, tail, rfl, hB, by omega, hc, by rw [ho b _ _ rfl hb]; exact h⟩
theorem RowT.ext {α : Type} (E : Enc α) {B : Nat} {S S' : St} {v : Value} {xs : List α} (h : RowT E B S v xs) (he : S.Ext S') : RowT E B S' v xs := h.congr E he.n fun b _ _ _ hb => he.obj b hb
theorem RowT.but {α : Type} (E : Enc α) {B : Nat} {S S' : St} {v u : Value} {xs : List α} (h : RowT E B S v xs) (hb : St.But u S S') (hne : ∀ q, blkOf v = some q → blkOf u ≠ some q) : RowT E B S' v xs :=
  h.congr E hb.n fun b l c hv hlt => hb.obj b hlt (hne b (by rw [hv]; rfl))
theorem RowT.mono {α : Type} (E : Enc α) {B B' : Nat} {S : St} {v : Value} {xs : List α} (h : RowT E B S v xs) (hB : B' ≤ B) : RowT E B' S v xs :=
  h.imp id fun ⟨b, c, t, h1, h2, h3⟩ => ⟨b, c, t, h1, by omega, h3⟩
namespace OrdT
variable {S S' : St} {B : Nat} {vr vd vh : Value} {pr pd : List (OpA × SlP)} {v : List Dot}
theorem ext (T : OrdT S B vr vd vh pr pd v) (e : S.Ext S') : OrdT S' B vr vd vh pr pd v where
  rest := T.rest.ext opE e
  done := T.done.ext opE e
  hav := T.hav.ext dotE e
  hap := T.hap.ext e
  dr p hp := ⟨(T.dr p hp).1.ext dotE e, (T.dr p hp).2.ext e⟩
  dd p hp := ⟨(T.dd p hp).1.ext dotE e, (T.dd p hp).2.ext e⟩
  ne := T.ne
theorem lt (T : OrdT S B vr vd vh pr pd v) : (∀ j, blkOf vr = some j → j < S.n) ∧ ∀ j, blkOf vd = some j → j < S.n :=
  ⟨fun j hj => (T.rest.blk opE j hj).2, fun j hj => (T.done.blk opE j hj).2⟩
/-- one more is done -/
theorem push {vd' : Value} {p : OpA × SlP} (T : OrdT S B vr vd vh pr pd v) (hp : p ∈ pr) (ho : OwnT opE B S' vd' (pd ++ [p])) (hb : St.But vd S S') (hv : blkOf vd' = blkOf vd ∨ ∃ b, blkOf vd' = some b ∧ S.n ≤ b) : OrdT S' B vr vd' vh pr (pd ++ [p]) v where
  rest := T.rest.but opE hb fun j hj => T.ne j hj
  done := ho
  hav := T.hav.but2 dotE T.hap.sym hb
  hap := (T.hap.sym.mv hb.n hv).sym
  dr q hq := ⟨(T.dr q hq).1.butN (T.dr q hq).2.sym hb, ((T.dr q hq).2.sym.mv hb.n hv).sym⟩
  dd q hq := by
    rcases List.mem_append.1 hq with hq | hq
    · exact ⟨(T.dd q hq).1.butN (T.dd q hq).2.sym hb, ((T.dd q hq).2.sym.mv hb.n hv).sym⟩
    · obtain rfl : q = p := by simpa using hq
      exact ⟨(T.dr q hp).1.butN (T.dr q hp).2.sym hb, ((T.dr q hp).2.sym.mv hb.n hv).sym⟩
  ne j hj := by
    have h1 := T.lt.1 j hj
    rcases hv with hv | ⟨b, hv, hb⟩
    · rw [hv]; exact T.ne j hj
    · rw [hv]; intro e; injection e with e; omega
/-- what is had is another row -/
theorem have' {vh' : Value} {v' : List Dot} (T : OrdT S B vr vd vh pr pd v) (h : (vh' = vh ∧ v' = v) ∨ OwnT dotE S.n S' vh' v') (e : S.Ext S') : OrdT S' B vr vd vh' pr pd v' where
  rest := T.rest.ext opE e
  done := T.done.ext opE e
  hav := by
    rcases h with ⟨rfl, rfl⟩ | h
    · exact T.hav.ext dotE e
    · exact h.sl dotE
  hap := by
    rcases h with ⟨rfl, rfl⟩ | h
    · exact T.hap.ext e
    · exact Apart2.fresh (fun j hj => h.blk dotE j hj) T.lt.1 T.lt.2
  dr p hp := ⟨(T.dr p hp).1.ext dotE e, (T.dr p hp).2.ext e⟩
  dd p hp := ⟨(T.dd p hp).1.ext dotE e, (T.dd p hp).2.ext e⟩
  ne := T.ne
/-- one is taken off the rest, where it lies -/
theorem del {vr' : Value} {pr' : List (OpA × SlP)} (T : OrdT S B vr vd vh pr pd v) (hr : RowT opE B S' vr' pr') (hs : ∀ p ∈ pr', p ∈ pr) (hb : St.But vr S S') (hv : blkOf vr' = blkOf vr) : OrdT S' B vr' vd vh pr' pd v where
  rest := hr
  done := T.done.but opE hb fun j hj e => T.ne j e hj
  hav := T.hav.but2 dotE T.hap hb
  hap := T.hap.mv hb.n (.inl hv)
  dr p hp := ⟨(T.dr p (hs p hp)).1.butN (T.dr p (hs p hp)).2 hb, (T.dr p (hs p hp)).2.mv hb.n (.inl hv)⟩
  dd p hp := ⟨(T.dd p hp).1.butN (T.dd p hp).2 hb, (T.dd p hp).2.mv hb.n (.inl hv)⟩
  ne j hj := T.ne j (by rw [← hv]; exact hj)
/-- the rest is another row, with nothing that wasn't there -/
theorem rest' {vr' : Value} {pr' : List (OpA × SlP)} (T : OrdT S B vr vd vh pr pd v) (hr : OwnT opE S.n S' vr' pr') (hB : B ≤ S.n) (hs : ∀ p ∈ pr', p ∈ pr) (e : S.Ext S') : OrdT S' B vr' vd vh pr' pd v := by
  have hx : ∀ u, Apart2 S vr vd u → Apart2 S' vr' vd u := fun u a j hj => by
    obtain ⟨h1, h2, h3⟩ := a j hj
    refine ⟨Nat.lt_of_lt_of_le h1 e.n, fun k => ?_, h3⟩
    have := (hr.blk opE j k).1
    omega
  exact {
    rest := (hr.row opE).mono opE hB
    done := T.done.ext opE e
    hav := T.hav.ext dotE e
    hap := hx _ T.hap
    dr := fun p hp => ⟨(T.dr p (hs p hp)).1.ext dotE e, fun k => hx _ ((T.dr p (hs p hp)).2 k)⟩
    dd := fun p hp => ⟨(T.dd p hp).1.ext dotE e, fun k => hx _ ((T.dd p hp).2 k)⟩
    ne := fun j hj k => by
      have h1 := (hr.blk opE j hj).1
      have h2 := T.lt.2 j k
      omega }
end OrdT
end Go.Osj
