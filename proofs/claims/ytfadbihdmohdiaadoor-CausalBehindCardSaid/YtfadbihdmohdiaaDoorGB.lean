/- Stories: moves. -/
import Derived.Test.YtfadbihdmohdiaaDoorGA
set_option linter.unusedVariables false
set_option linter.unusedSimpArgs false
set_option maxHeartbeats 1000000
namespace Go.Osj
theorem wst_op {S : St} {w off n : Nat} {o : OpA} {d v : Value} {k : KV} (o' : OpA) (d' : Value) (h : opB S w o d) (h1 : v.cells.size = n) (h2 : oneC v.cells.toList = true) (h3 : off + n ≤ 14) (hw : wrote (opC o d) off v.cells.toList = opC o' d')
    (hk : ∀ S', opB S' w o' d' → St.But (ptrV w) S S' → k.run undef S') : @wst (.pointer (some ⟨w, off, none⟩)) v n S k :=
  wst_w _ h.2 h1 h2 (by show off ≤ 14; omega) h3 hw fun S' h1 h2 h3 => hk S' ⟨h3, h1⟩ h2
theorem opB.but {S S' : St} {w : Nat} {o : OpA} {d u : Value} (h : opB S w o d) (b : St.But u S S') (hu : blkOf u ≠ some w) : opB S' w o d := ⟨Nat.lt_of_lt_of_le h.1 b.n, (b.obj w h.1 hu).trans h.2⟩
/-- a raw act in a block -/
def mkB (S : St) (x : Nat) (m : Mk) : Prop := x < S.n ∧ S.obj x = some (.cells true 6 (mkC m))
theorem mkB.ext {S S' : St} {x : Nat} {m : Mk} (h : mkB S x m) (he : S.Ext S') : mkB S' x m := ⟨Nat.lt_of_lt_of_le h.1 he.n, (he.obj x h.1).trans h.2⟩
theorem mkB.but {S S' : St} {x : Nat} {m : Mk} {u : Value} (h : mkB S x m) (b : St.But u S S') (hu : blkOf u ≠ some x) : mkB S' x m := ⟨Nat.lt_of_lt_of_le h.1 b.n, (b.obj x h.1 hu).trans h.2⟩
theorem mkB.c {S : St} {x : Nat} {m : Mk} (h : mkB S x m) :
    (S.cell ⟨x, 0, none⟩ = some (.int .i64 m.act) ∧ S.cell ⟨x, 1, none⟩ = some (.int .i64 m.knows) ∧ S.cell ⟨x, 2, none⟩ = some (.int .i64 m.kind) ∧ S.cell ⟨x, 3, none⟩ = some (.int .i64 m.a) ∧ S.cell ⟨x, 4, none⟩ = some (.int .i64 m.b) ∧ S.cell ⟨x, 5, none⟩ = some (.string m.key)) ∧
    S.loadN ⟨x, 0, none⟩ 6 = some (mkC m) := by
  simp only [St.cell_def, St.loadN_def, h.2]
  simp [mkC]
abbrev mkV (m : Mk) : Value := .agg (mkC m).toArray
theorem mkC_len (m : Mk) : (mkC m).length = 6 := rfl
theorem mkC_toList (m : Mk) : (mkC m).toArray.toList = mkC m := rfl
theorem wE_boxK {fr : Fr} {S : St} {x : Operand} {k : KV} {m : Mk} (hx : ev fr x = mkV m) (hk : ∀ w S1, S.Ext S1 → mkB S1 w m → S.n ≤ w → k.run (ptrV w) S1) :
    @wfresh S.n ⟨fun b => k.run (.pointer (some ⟨b, 0, none⟩)) (S.put b (.cells true (ev fr x).cells.toList.length (ev fr x).cells.toList))⟩ := by
  refine wfresh_of fun b hb => ?_
  rw [hx]
  exact hk b _ ((St.Ext.refl S).put hb _) ⟨St.lt_put_self _ _ _, St.put_same _ _ _⟩ hb
def zOp : OpA := ⟨(0, 0), 0, [], 0, (0, 0), (0, 0), 0, 0, (0, 0), ⟨#[]⟩⟩
theorem walloc_O {S : St} {k : KV} (hk : ∀ x S1, S.Ext S1 → opB S1 x zOp nilS → S.n ≤ x → k.run (ptrV x) S1) :
    @wfresh S.n ⟨fun b => k.run (.pointer (some ⟨b, 0, none⟩)) (S.put b (.cells true (opC zOp nilS).length (opC zOp nilS)))⟩ :=
  wfresh_of fun b hb => hk b _ ((St.Ext.refl S).put hb _) ⟨St.lt_put_self _ _ _, St.put_same _ _ _⟩ hb
theorem walloc_sl {S : St} {k : KV} {n m : Nat} (cs : List Value) (hk : ∀ x S1, S.Ext S1 → S1.obj x = some (.cells true cs.length cs) → x < S1.n → S.n ≤ x → k.run (.slice (some ⟨x, 0, none⟩) n m) S1) :
    @wfresh S.n ⟨fun b => k.run (.slice (some ⟨b, 0, none⟩) n m) (S.put b (.cells true cs.length cs))⟩ :=
  wfresh_of fun b hb => hk b _ ((St.Ext.refl S).put hb _) (St.put_same _ _ _) (St.lt_put_self _ _ _) hb
end Go.Osj
