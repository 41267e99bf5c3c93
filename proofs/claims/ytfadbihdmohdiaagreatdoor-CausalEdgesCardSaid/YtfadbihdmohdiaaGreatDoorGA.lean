/- Stories: what is made of raw acts; rows of operations in memory. -/
import Derived.Test.YtfadbihdmohdiaaGreatDoorGZ
set_option linter.unusedVariables false
set_option linter.unusedSimpArgs false
set_option maxHeartbeats 1000000
namespace Go.Osj
/-- a row of operations: each one's cells, its row of dots by its place -/
abbrev SlP : Type := Option Addr × Nat × Nat
abbrev slOf (t : SlP) : Value := .slice t.1 t.2.1 t.2.2
def opE : Enc (OpA × SlP) := ⟨fun p => opC p.1 (slOf p.2), 14, fun _ => rfl, fun _ => rfl, by decide⟩
/-- each row of dots reads as it should -/
def DepsT (S : St) (ps : List (OpA × SlP)) : Prop := ∀ p ∈ ps, SlT dotE S (slOf p.2) p.1.deps
theorem DepsT.ext {S S' : St} {ps : List (OpA × SlP)} (h : DepsT S ps) (e : S.Ext S') : DepsT S' ps := fun p hp => (h p hp).ext dotE e
theorem SlT.op {S : St} {base : Option Addr} {n cap : Nat} {xs : List (OpA × SlP)} (h : SlT opE S (.slice base n cap) xs) {i : Nat} (hi : i < xs.length) :
    ∃ b off, base = some ⟨b, off, none⟩ ∧ b < S.n ∧
      (S.loadN ⟨b, off + i * 14, none⟩ 2 = some [.int .i64 xs[i].1.id.1, .int .i64 xs[i].1.id.2] ∧ S.cell ⟨b, off + i * 14 + 2, none⟩ = some (.int .i64 xs[i].1.time) ∧ S.cell ⟨b, off + i * 14 + 3, none⟩ = some (slOf xs[i].2) ∧ S.cell ⟨b, off + i * 14 + 4, none⟩ = some (.int .i64 xs[i].1.kind) ∧
        S.loadN ⟨b, off + i * 14 + 5, none⟩ 2 = some [.int .i64 xs[i].1.block.1, .int .i64 xs[i].1.block.2] ∧ S.loadN ⟨b, off + i * 14 + 11, none⟩ 2 = some [.int .i64 xs[i].1.parent.1, .int .i64 xs[i].1.parent.2] ∧ S.cell ⟨b, off + i * 14 + 13, none⟩ = some (.string xs[i].1.key)) ∧
      S.loadN ⟨b, off + i * 14, none⟩ 14 = some (opC xs[i].1 (slOf xs[i].2)) := by
  obtain ⟨b, off, h1, h2, h3, h4⟩ := h.at opE (i := i) (x := xs[i]) (by simp)
  have h3' : S.loadN ⟨b, off + i * 14, none⟩ 14 = some (opC xs[i].1 (slOf xs[i].2)) := h3
  refine ⟨b, off, h1, h2, ⟨?_, h4 2 (by decide), h4 3 (by decide), h4 4 (by decide), ?_, ?_, h4 13 (by decide)⟩, h3'⟩
  · exact St.loadN_sub h3' (k := 0) (m := 2) (by decide)
  · exact St.loadN_sub h3' (k := 5) (m := 2) (by decide)
  · exact St.loadN_sub h3' (k := 11) (m := 2) (by decide)
/-! ### what is made -/
/-- a raw act -/
structure Mk where
  act : Int
  knows : Int
  kind : Int
  a : Int
  b : Int
  key : ByteArray
def mkC (m : Mk) : List Value := [.int .i64 m.act, .int .i64 m.knows, .int .i64 m.kind, .int .i64 m.a, .int .i64 m.b, .string m.key]
def mkE : Enc Mk := ⟨mkC, 6, fun _ => rfl, fun _ => rfl, by decide⟩
def mkI (m : Mk) : Prop := (-9223372036854775808 ≤ m.act ∧ m.act ≤ 9223372036854775807) ∧ (-9223372036854775808 ≤ m.knows ∧ m.knows ≤ 9223372036854775807) ∧ (-9223372036854775808 ≤ m.kind ∧ m.kind ≤ 9223372036854775807) ∧ (-9223372036854775808 ≤ m.a ∧ m.a ≤ 9223372036854775807) ∧ (-9223372036854775808 ≤ m.b ∧ m.b ≤ 9223372036854775807)
def absZ (n : Int) : Int := if n < 0 then 0 - (n + 1) else n
theorem absZ_nonneg (n : Int) : 0 ≤ absZ n := by unfold absZ; split <;> omega
theorem absZ_le {n : Int} (h : -9223372036854775808 ≤ n ∧ n ≤ 9223372036854775807) : absZ n ≤ 9223372036854775807 := by unfold absZ; split <;> omega
/-- the greatest time of those that a vector has -/
def latestA (l : List OpA) (v : List Dot) : Int := l.foldl (fun t o => if hasP v o.id ∧ t < o.time then o.time else t) 0
def blocksA (l : List OpA) (v : List Dot) : List Dot := (l.filter fun o => decide (hasP v o.id ∧ o.kind = 3 ∧ o.block = o.id)).map OpA.id
def charsA (l : List OpA) (v : List Dot) (b : Dot) : List Dot := (l.filter fun o => decide (hasP v o.id ∧ o.kind = 1 ∧ o.block = b)).map OpA.id
def pickA (l : List Dot) (n : Int) : Dot := l.getD ((absZ n).tmod l.length).toNat (0, 0)
def movedA (o : OpA) (bs : List Dot) (m : Mk) : OpA :=
  let places := [(0, -1), (0, -2)] ++ bs
  let k := ((absZ m.b).tmod (places.length + 2)).toNat
  { o with key := m.key, block := if 0 < bs.length ∧ 0 < (absZ m.a).tmod 3 then pickA bs m.a else o.id, parent := places.getD (if k < places.length then k else 0) (0, 0) }
/-- an operation of an actor that knows so much -/
def baseA (l : List OpA) (v : List Dot) (act : Int) (m : Mk) : OpA := ⟨(act, getV v act + 1), latestA l v + 1, v, 1 + (absZ m.kind).tmod 3, (0, 0), (0, 0), 0, 0, (0, 0), ⟨#[]⟩⟩
def insA (o : OpA) (m : Mk) : OpA :=
  let o := { o with side := if o.at_ = (0, 0) then 1 else (absZ m.knows).tmod 2, char := 97 + (absZ m.kind).tmod 26 }
  if (absZ m.b).tmod 5 = 0 then { o with at_ := (0, 0), side := 1 } else o
def oneA (l : List OpA) (v : List Dot) (act : Int) (m : Mk) : OpA :=
  let o := baseA l v act m
  let bs := blocksA l v
  if bs = [] ∨ o.kind = 3 then movedA { o with kind := 3 } bs m
  else
    let o := { o with block := pickA bs m.a }
    let cs := charsA l v o.block
    let o := if cs = [] then { o with kind := 1 } else { o with at_ := pickA cs m.b }
    if o.kind = 1 then insA o m else o
/-- the first so many operations, learned -/
def learnA (l : List OpA) (v : List Dot) : List Dot := l.foldl (fun v o => if belowP o.deps v then withV v o.id else v) v
def whoA (m : Mk) : Nat := ((absZ m.act).tmod 4).toNat
def actA (w : Nat) : Int := 1 + (w : Int) * 256
structure Tale where
  out : List OpA
  knows : Nat → List Dot
def stepA (s : Tale) (m : Mk) : Tale :=
  let w := whoA m
  let v := learnA (s.out.take ((absZ m.knows).tmod (s.out.length + 1)).toNat) (s.knows w)
  let o := oneA s.out v (actA w) m
  if mayO o then ⟨s.out ++ [o], fun i => if i = w then withV v o.id else s.knows i⟩ else ⟨s.out, fun i => if i = w then v else s.knows i⟩
def taleA (l : List Mk) : Tale := (l.take 60).foldl stepA ⟨[], fun _ => []⟩
def storyA (l : List Mk) : List OpA := (taleA l).out
/-! ### walks -/
theorem F.osierref08_abs_J {S : St} {n : Int} (h : -9223372036854775808 ≤ n ∧ n ≤ 9223372036854775807) : J PR F.osierref08_abs [.int .i64 n] S fun v S' => v = .int .i64 (absZ n) ∧ S = S' := by
  refine J_by PR.mixed F.osierref08_abs.ok (by simp) ?_
  by_cases h0 : n < 0
  · simp (disch := omega) only [go_sem, simprocAttr, h0, absZ]
  · simp (disch := omega) only [go_sem, simprocAttr, h0, absZ]
theorem latestA_snoc (l : List OpA) (o : OpA) (v : List Dot) : latestA (l ++ [o]) v = if hasP v o.id ∧ latestA l v < o.time then o.time else latestA l v := by
  unfold latestA
  rw [List.foldl_append]
  rfl
theorem F.osierref08_Latest_J {S : St} {l k : Value} {ps : List (OpA × SlP)} {ys : List Dot} (hl : SlT opE S l ps) (hk : SlT dotE S k ys) (hL : ps.length < 9223372036854775808) (hL2 : ys.length < 9223372036854775808) :
    J PR F.osierref08_Latest [l, k] S fun v S' => v = .int .i64 (latestA (ps.map Prod.fst) ys) ∧ S = S' := by
  obtain ⟨base, cap, rfl⟩ := hl.len opE
  obtain ⟨base2, cap2, rfl⟩ := hk.len dotE
  refine J_by PR.mixed F.osierref08_Latest.ok (by simp) ?_
  simp (disch := omega) only [go_sem, simprocAttr]
  refine wC_loop (fun n fr S1 => ∃ i : Nat, n = ps.length - i ∧ i ≤ ps.length ∧ S1 = S ∧ fr 0 = .slice base ps.length cap ∧ fr 1 = .slice base2 ys.length cap2 ∧ fr 5 = .int .i64 (latestA ((ps.take i).map Prod.fst) ys) ∧ fr 6 = .int .i64 (i : Nat)) ps.length
    ⟨0, by
      have k0 : latestA ((ps.take 0).map Prod.fst) ys = 0 := rfl
      simp (disch := omega) only [go_sem, simprocAttr, k0]
      repeat' first | assumption | omega | (exact St.Ext.refl _) | (exact List.Perm.refl _) | rfl | (exact .inl trivial) | (exact trivial) | refine And.intro ?_ ?_
      ⟩ ?_
  rintro n fr S1 ⟨i, rfl, hi, rfl, h0, h1, h5, h6⟩
  simp (disch := omega) only [go_sem, simprocAttr, F.osierref08_Latest.l0, h0, h1, h5, h6]
  refine wcond_dec (fun hlt => ?_) (fun hge => ?_)
  rotate_left
  · simp (disch := omega) only [go_sem, simprocAttr, h5]
    rw [List.take_of_length_le (by omega)]
  have hlx : i < ps.length := by omega
  have c1 : (0 : Int) ≤ (i : Int) ∧ (i : Int) < (ps.length : Int) := by omega
  obtain ⟨b, off, rfl, hb, ⟨x1, x2, -⟩, -⟩ := hl.op hlx
  have hsn : latestA ((ps.take (i + 1)).map Prod.fst) ys = if hasP ys ps[i].1.id ∧ latestA ((ps.take i).map Prod.fst) ys < ps[i].1.time then ps[i].1.time else latestA ((ps.take i).map Prod.fst) ys := by
    rw [take_snoc (List.getElem?_eq_getElem hlx), List.map_append, List.map_singleton, latestA_snoc]
  generalize latestA ((ps.take i).map Prod.fst) ys = t at *
  simp (disch := omega) only [go_sem, simprocAttr, h0, h1, h5, h6, c1, x1]
  refine wJ_of (F.osierref04_Has_J (d := ps[i].1.id) hk hL2) ?_; rintro _ _ ⟨rfl, rfl⟩
  by_cases q1 : hasP ys ps[i].1.id
  · by_cases q2 : t < ps[i].1.time
    · rw [if_pos ⟨q1, q2⟩] at hsn
      simp (disch := omega) only [go_sem, simprocAttr, q1, q2, h0, h1, h5, h6, c1, x1, x2]
      refine ⟨ps.length - (i + 1), by omega, i + 1, ?_⟩
      rw [hsn]
      repeat' first | assumption | omega | (exact St.Ext.refl _) | (exact List.Perm.refl _) | rfl | (exact .inl trivial) | (exact trivial) | refine And.intro ?_ ?_
    · rw [if_neg fun h => q2 h.2] at hsn
      simp (disch := omega) only [go_sem, simprocAttr, q1, q2, h0, h1, h5, h6, c1, x1, x2]
      refine ⟨ps.length - (i + 1), by omega, i + 1, ?_⟩
      rw [hsn]
      repeat' first | assumption | omega | (exact St.Ext.refl _) | (exact List.Perm.refl _) | rfl | (exact .inl trivial) | (exact trivial) | refine And.intro ?_ ?_
  · rw [if_neg fun h => q1 h.1] at hsn
    simp (disch := omega) only [go_sem, simprocAttr, q1, h0, h1, h5, h6, c1, x1, x2]
    refine ⟨ps.length - (i + 1), by omega, i + 1, ?_⟩
    rw [hsn]
    repeat' first | assumption | omega | (exact St.Ext.refl _) | (exact List.Perm.refl _) | rfl | (exact .inl trivial) | (exact trivial) | refine And.intro ?_ ?_
end Go.Osj
