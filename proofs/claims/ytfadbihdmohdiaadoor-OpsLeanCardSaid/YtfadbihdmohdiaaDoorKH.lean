/- osierref07.Take: the state on the way. -/
import Derived.Test.YtfadbihdmohdiaaDoorKF
import Derived.Test.YtfadbihdmohdiaaDoorKD
set_option linter.unusedVariables false
set_option linter.unusedSimpArgs false
set_option maxHeartbeats 1000000
namespace Go.Osj
structure RefSt (S0 S : St) (q B x y : Nat) (p : Rd) (i : Dot) (ds : List Dot) (d : Value) : Prop where
  rd : RdT S q B p.1 p.2
  ox : opB S x oz nilS
  oy : y < S.n ∧ S.obj y = some (.cells true 2 [.int .i64 i.1, .int .i64 i.2])
  ow : OwnT dotE S0.n S d ds
  nw : ∀ j, blkOf d = some j → j ≠ x
  bt : St.But (ptrV q) S0 S
  hB : B ≤ S0.n
  hq : q < S0.n
  hx : S0.n ≤ x
  hy : S0.n ≤ y
namespace RefSt
variable {S0 S S' : St} {q B x y w : Nat} {p p' : Rd} {i : Dot} {ds ds' : List Dot} {d d' : Value}
theorem n (T : RefSt S0 S q B x y p i ds d) : S0.n ≤ S.n := T.bt.n
theorem c (T : RefSt S0 S q B x y p i ds d) : S.loadN ⟨y, 0, none⟩ 2 = some [.int .i64 i.1, .int .i64 i.2] ∧ S.cell ⟨q, 1, none⟩ = some (.int .i64 p.2) := by
  refine ⟨?_, T.rd.cell1⟩
  rw [St.loadN_def, T.oy.2]
  simp
theorem step (T : RefSt S0 S q B x y p i ds d) (hr : RdT S' q B p'.1 p'.2) (hb : St.But (ptrV q) S S') : RefSt S0 S' q B x y p' i ds d where
  rd := hr
  ox := T.ox.ne hb (by have := T.hq; have := T.hx; simp [blkOf]; omega)
  oy := ⟨Nat.lt_of_lt_of_le T.oy.1 hb.n, (hb.obj y T.oy.1 (by have := T.hq; have := T.hy; simp [blkOf]; omega)).trans T.oy.2⟩
  ow := T.ow.ptr T.hq hb
  nw := T.nw
  bt := T.bt.trans hb
  hB := T.hB
  hq := T.hq
  hx := T.hx
  hy := T.hy
theorem deps (T : RefSt S0 S q B x y p i ds d) (ho : OwnT dotE S0.n S d' ds') (hn : ∀ j, blkOf d' = some j → j ≠ x) : RefSt S0 S q B x y p i ds' d' where
  rd := T.rd
  ox := T.ox
  oy := T.oy
  ow := ho
  nw := hn
  bt := T.bt
  hB := T.hB
  hq := T.hq
  hx := T.hx
  hy := T.hy
theorem take (T : RefSt S0 S q B x y p i ds d) (he : S.Ext S') (hw : opB S' w oz nilS) (hwn : S.n ≤ w) :
    TakeSt S0 S' q B x w p oz nilS ∧ OwnT dotE S0.n S' d ds ∧ (∀ j, blkOf d = some j → j ≠ w ∧ j ≠ x) ∧ (y < S'.n ∧ S'.obj y = some (.cells true 2 [.int .i64 i.1, .int .i64 i.2])) ∧ q ≠ y :=
  ⟨⟨T.rd.but he, T.ox.ext he, hw, OwnT.nil .., fun j hj => by simp [blkOf] at hj, T.bt.trans he.toBut, T.hB, T.hq, T.hx, Nat.le_trans T.n hwn, by have := T.ox.1; omega⟩,
    T.ow.ext dotE he, fun j hj => ⟨by have := (T.ow.blk dotE j hj).2; omega, T.nw j hj⟩, ⟨Nat.lt_of_lt_of_le T.oy.1 he.n, (he.obj y T.oy.1).trans T.oy.2⟩, by have := T.hq; have := T.hy; omega⟩
end RefSt
theorem failP_same {x : Int} {p : Rd} (h : p.2 ≠ 0) : failP x p = p := by simp [failP, h]
theorem TakeSt.c1 {S0 S : St} {q B x w : Nat} {p : Rd} {o : OpA} {d : Value} (T : TakeSt S0 S q B x w p o d) : S.cell ⟨q, 1, none⟩ = some (.int .i64 p.2) := T.rd.cell1
theorem load2 {S : St} {y : Nat} {i : Dot} (h : y < S.n ∧ S.obj y = some (.cells true 2 [.int .i64 i.1, .int .i64 i.2])) : S.loadN ⟨y, 0, none⟩ 2 = some [.int .i64 i.1, .int .i64 i.2] := by
  rw [St.loadN_def, h.2]
  simp
theorem but2 {S S' : St} {y q : Nat} {i : Dot} (h : y < S.n ∧ S.obj y = some (.cells true 2 [.int .i64 i.1, .int .i64 i.2])) (hb : St.But (ptrV q) S S') (hq : q ≠ y) : y < S'.n ∧ S'.obj y = some (.cells true 2 [.int .i64 i.1, .int .i64 i.2]) :=
  ⟨Nat.lt_of_lt_of_le h.1 hb.n, (hb.obj y h.1 (by simp [blkOf]; exact hq)).trans h.2⟩
theorem wI_alt {P : Program} {fr : Fr} {S : St} {kept : Kept} {i : Nat} {g : Gd} {eo : EO} {dst : Option Nat} {ks : List Nat} {rest other : Plan} {k : KF}
    (h1 : @wI P (.ef i g eo dst ks rest .none) fr S kept k) (h2 : @wI P other fr S kept k) : @wI P (.ef i g eo dst ks rest other) fr S kept k :=
  ⟨h1.1, h2⟩
end Go.Osj
