/- The compiled code of functions (printed by a program, checked by the kernel). -/
import Derived.Test.YtfadbihdmohdiaaDoorC0
import Derived.Test.YtfadbihdmohdiaaDoorOsjN
set_option linter.unusedSimpArgs false
set_option linter.unusedVariables false
set_option maxRecDepth 100000
namespace Go.Osj
noncomputable def F.osierlaw07_OpsBytes.r0 : Plan :=
  .ef 0 none (.box (.tmp 1)) (some 3) [] (
  .rd 1 none (.mv (.const (.bool false))) (some 4) false <|
  .done) .none
noncomputable def F.osierlaw07_OpsBytes.r1 : Plan :=
  .ef 0 none (.call F.osierlaw07_awake []) (some 10) [] (
  .rd 1 none (.mv (.tmp 10)) (some 5) false <|
  .done) .none
noncomputable def F.osierlaw07_OpsBytes.r2 : Plan :=
  .rd 0 none (.mv (.tmp 5)) (some 11) false <|
  .rd 1 none (.un .not (.tmp 11)) (some 12) false <|
  .done
noncomputable def F.osierlaw07_OpsBytes.r3 : Plan :=
  .rd 0 none (.mv (.const (.bool false))) (some 4) false <|
  .done
noncomputable def F.osierlaw07_OpsBytes.r4 : Plan :=
  .rd 0 none (.ldn 14 (.tmp 3)) (some 13) false <|
  .ef 1 none (.call F.osierref07_Check [(.tmp 13)]) (some 14) [] (
  .rd 2 none (.mv (.tmp 14)) (some 6) false <|
  .done) .none
noncomputable def F.osierlaw07_OpsBytes.r5 : Plan :=
  .rd 0 none (.mv (.tmp 0)) (some 15) false <|
  .rd 1 none (.len .sl (.tmp 15)) (some 16) false <|
  .rd 2 none (.bin .gtr (.tmp 16) (.const (.int .i64 1000))) (some 17) false <|
  .rd 3 none (.mv (.tmp 17)) (some 18) false <|
  .rd 4 (some (18, false)) (.fldA 3 (.tmp 3)) (some 19) false <|
  .rd 5 (some (18, false)) (.ld1 (.tmp 19)) (some 20) false <|
  .rd 6 (some (18, false)) (.len .sl (.tmp 20)) (some 21) false <|
  .rd 7 (some (18, false)) (.bin .gtr (.tmp 21) (.const (.int .i64 200))) (some 22) false <|
  .rd 8 none (.pick (.tmp 18) (.const (.bool true)) (.tmp 22)) (some 23) false <|
  .rd 9 none (.mv (.tmp 23)) (some 24) false <|
  .rd 10 (some (24, false)) (.mv (.tmp 6)) (some 25) false <|
  .rd 11 (some (24, false)) (.un .not (.tmp 25)) (some 26) false <|
  .rd 12 none (.pick (.tmp 24) (.const (.bool true)) (.tmp 26)) (some 27) false <|
  .done
noncomputable def F.osierlaw07_OpsBytes.r6 : Plan :=
  .rd 0 none (.mv (.const (.bool true))) (some 4) false <|
  .done
noncomputable def F.osierlaw07_OpsBytes.r7 : Plan :=
  .rd 0 none (.mv (.tmp 0)) (some 28) false <|
  .rd 1 none (.ldn 14 (.tmp 3)) (some 29) false <|
  .ef 2 none (.call F.ops_Put [(.tmp 28), (.tmp 29)]) (some 30) [] (
  .rd 3 none (.mv (.tmp 30)) (some 7) false <|
  .done) .none
noncomputable def F.osierlaw07_OpsBytes.r8 : Plan :=
  .rd 0 none (.mv (.tmp 7)) (some 31) false <|
  .rd 1 none (.bs (.tmp 31)) (some 32) true <|
  .rd 2 none (.mv (.tmp 0)) (some 33) false <|
  .rd 3 none (.bs (.tmp 33)) (some 34) true <|
  .rd 4 none (.ldn 14 (.tmp 3)) (some 35) false <|
  .ef 5 none (.call F.osierref07_Put [(.tmp 35)]) (some 36) [0, 1, 2, 3] (
  .rd 6 none (.bs (.tmp 36)) (some 37) false <|
  .rd 7 none (.bin .add (.tmp 34) (.tmp 37)) (some 38) false <|
  .rd 8 none (.bin .neq (.tmp 32) (.tmp 38)) (some 39) false <|
  .done) .none
noncomputable def F.osierlaw07_OpsBytes.r9 : Plan :=
  .rd 0 none (.mv (.const (.bool false))) (some 4) false <|
  .done
noncomputable def F.osierlaw07_OpsBytes.r10 : Plan :=
  .rd 0 none (.mv (.tmp 7)) (some 40) false <|
  .rd 1 none (.mv (.tmp 0)) (some 41) false <|
  .rd 2 none (.len .sl (.tmp 41)) (some 42) false <|
  .rd 3 none (.sl 1 (.tmp 40) (some (.tmp 42)) none none) (some 43) false <|
  .ef 4 none (.call F.num_Read [(.tmp 43)]) (some 44) [] (
  .rd 5 none (.mv (.tmp 44)) (some 8) false <|
  .done) .none
noncomputable def F.osierlaw07_OpsBytes.r11 : Plan :=
  .rd 0 none (.mv (.tmp 8)) (some 45) false <|
  .ef 1 none (.call F.ops_Take [(.tmp 45)]) (some 46) [] (
  .ef 2 none (.alloc [(.int .i64 0), (.int .i64 0), (.int .i64 0), (.slice none 0 0), (.int .i64 0), (.int .i64 0), (.int .i64 0), (.int .i64 0), (.int .i64 0), (.int .i64 0), (.int .i64 0), (.int .i64 0), (.int .i64 0), (.string ⟨#[]⟩)]) (some 9) [] (
  .ef 3 none (.st 14 (.tmp 9) (.tmp 46)) none [] (
  .done) .none) .none) .none
noncomputable def F.osierlaw07_OpsBytes.r12 : Plan :=
  .rd 0 none (.ldn 14 (.tmp 9)) (some 47) false <|
  .rd 1 none (.ldn 14 (.tmp 3)) (some 48) false <|
  .ef 2 none (.call F.osierref07_Same [(.tmp 47), (.tmp 48)]) (some 49) [] (
  .rd 3 none (.mv (.tmp 49)) (some 50) false <|
  .rd 4 (some (50, true)) (.mv (.tmp 8)) (some 51) false <|
  .ef 5 (some (50, true)) (.call F.num_Reader_End [(.tmp 51)]) (some 52) [] (
  .rd 6 (some (50, true)) (.bin .eql (.tmp 52) (.const (.int .i64 0))) (some 53) false <|
  .rd 7 none (.pick (.tmp 50) (.tmp 53) (.const (.bool false))) (some 54) false <|
  .rd 8 none (.mv (.tmp 54)) (some 4) false <|
  .done) .none) .none
noncomputable def F.osierlaw07_OpsBytes.ic : IC :=
    (.seq (.reg F.osierlaw07_OpsBytes.r0)
    (.seq (.reg F.osierlaw07_OpsBytes.r1)
    (.seq (.seq (.reg F.osierlaw07_OpsBytes.r2)
    (.cond (.tmp 12) (.seq (.reg F.osierlaw07_OpsBytes.r3)
    .ret) .skip))
    (.seq (.reg F.osierlaw07_OpsBytes.r4)
    (.seq (.seq (.reg F.osierlaw07_OpsBytes.r5)
    (.cond (.tmp 27) (.seq (.reg F.osierlaw07_OpsBytes.r6)
    .ret) .skip))
    (.seq (.reg F.osierlaw07_OpsBytes.r7)
    (.seq (.seq (.reg F.osierlaw07_OpsBytes.r8)
    (.cond (.tmp 39) (.seq (.reg F.osierlaw07_OpsBytes.r9)
    .ret) .skip))
    (.seq (.reg F.osierlaw07_OpsBytes.r10)
    (.seq (.reg F.osierlaw07_OpsBytes.r11)
    (.seq (.reg F.osierlaw07_OpsBytes.r12)
    .ret))))))))))
noncomputable def F.osierlaw07_OpsBytes.rs : List RO := [(.mv (.tmp 4))]
theorem F.osierlaw07_OpsBytes.ok : cFunc Go.Proofs.Tryd.prog F.osierlaw07_OpsBytes = some (55, F.osierlaw07_OpsBytes.ic, F.osierlaw07_OpsBytes.rs) := by kernel_rfl
theorem F.osierlaw07_OpsBytes.cl : callable Go.Proofs.Tryd.prog F.osierlaw07_OpsBytes = true := by kernel_rfl
noncomputable def F.osierlaw07_OpsTake.r0 : Plan :=
  .rd 0 none (.mv (.const (.bool false))) (some 2) false <|
  .done
noncomputable def F.osierlaw07_OpsTake.r1 : Plan :=
  .ef 0 none (.call F.osierlaw07_awake []) (some 7) [] (
  .rd 1 none (.mv (.tmp 7)) (some 3) false <|
  .done) .none
noncomputable def F.osierlaw07_OpsTake.r2 : Plan :=
  .rd 0 none (.mv (.tmp 3)) (some 8) false <|
  .rd 1 none (.un .not (.tmp 8)) (some 9) false <|
  .done
noncomputable def F.osierlaw07_OpsTake.r3 : Plan :=
  .rd 0 none (.mv (.const (.bool false))) (some 2) false <|
  .done
noncomputable def F.osierlaw07_OpsTake.r4 : Plan :=
  .rd 0 none (.mv (.tmp 0)) (some 10) false <|
  .rd 1 none (.len .sl (.tmp 10)) (some 11) false <|
  .rd 2 none (.bin .gtr (.tmp 11) (.const (.int .i64 2000))) (some 12) false <|
  .done
noncomputable def F.osierlaw07_OpsTake.r5 : Plan :=
  .rd 0 none (.mv (.const (.bool true))) (some 2) false <|
  .done
noncomputable def F.osierlaw07_OpsTake.r6 : Plan :=
  .rd 0 none (.mv (.tmp 0)) (some 13) false <|
  .ef 1 none (.call F.num_Read [(.tmp 13)]) (some 14) [] (
  .rd 2 none (.mv (.tmp 14)) (some 4) false <|
  .done) .none
noncomputable def F.osierlaw07_OpsTake.r7 : Plan :=
  .rd 0 none (.mv (.tmp 0)) (some 15) false <|
  .rd 1 none (.build [(.slice none 0 0), (.int .i64 0)] [(0, (1, (.tmp 15)))]) (some 16) false <|
  .ef 2 none (.box (.tmp 16)) (some 17) [] (
  .rd 3 none (.mv (.tmp 17)) (some 5) false <|
  .done) .none
noncomputable def F.osierlaw07_OpsTake.r8 : Plan :=
  .rd 0 none (.mv (.const (.int .i64 0))) (some 6) false <|
  .done
noncomputable def F.osierlaw07_OpsTake.r9 : Plan :=
  .rd 0 none (.mv (.tmp 6)) (some 18) false <|
  .rd 1 none (.bin .lss (.tmp 18) (.const (.int .i64 10))) (some 19) false <|
  .done
noncomputable def F.osierlaw07_OpsTake.r10 : Plan :=
  .rd 0 none (.mv (.tmp 4)) (some 22) false <|
  .rd 2 none (.mv (.tmp 5)) (some 24) false <|
  .ef 1 none (.call F.ops_Take [(.tmp 22)]) (some 23) [2] (
  .ef 3 none (.call F.osierref07_Take [(.tmp 24)]) (some 25) [] (
  .ef 4 none (.call F.osierref07_Same [(.tmp 23), (.tmp 25)]) (some 26) [] (
  .rd 5 none (.un .not (.tmp 26)) (some 27) false <|
  .rd 6 none (.mv (.tmp 27)) (some 28) false <|
  .rd 7 (some (28, false)) (.mv (.tmp 4)) (some 29) false <|
  .rd 9 (some (28, false)) (.mv (.tmp 5)) (some 31) false <|
  .rd 10 (some (28, false)) (.nilC (.tmp 31)) (some 32) false <|
  .rd 11 (some (28, false)) (.fldA 0 (.tmp 32)) (some 33) false <|
  .rd 12 (some (28, false)) (.ld1 (.tmp 33)) (some 34) true <|
  .rd 13 (some (28, false)) (.len .sl (.tmp 34)) (some 35) false <|
  .ef 8 (some (28, false)) (.call F.num_Reader_Left [(.tmp 29)]) (some 30) [9, 10, 11, 12, 13] (
  .rd 14 (some (28, false)) (.bin .neq (.tmp 30) (.tmp 35)) (some 36) false <|
  .rd 15 none (.pick (.tmp 28) (.const (.bool true)) (.tmp 36)) (some 37) false <|
  .rd 16 none (.mv (.tmp 37)) (some 38) false <|
  .rd 17 (some (38, false)) (.mv (.tmp 4)) (some 39) false <|
  .rd 19 (some (38, false)) (.mv (.tmp 5)) (some 41) false <|
  .rd 20 (some (38, false)) (.nilC (.tmp 41)) (some 42) false <|
  .rd 21 (some (38, false)) (.fldA 1 (.tmp 42)) (some 43) false <|
  .rd 22 (some (38, false)) (.ld1 (.tmp 43)) (some 44) true <|
  .ef 18 (some (38, false)) (.call F.num_Reader_Err [(.tmp 39)]) (some 40) [19, 20, 21, 22] (
  .rd 23 (some (38, false)) (.bin .neq (.tmp 40) (.tmp 44)) (some 45) false <|
  .rd 24 none (.pick (.tmp 38) (.const (.bool true)) (.tmp 45)) (some 46) false <|
  .done) .none) .none) .none) .none) .none
noncomputable def F.osierlaw07_OpsTake.r11 : Plan :=
  .rd 0 none (.mv (.const (.bool false))) (some 2) false <|
  .done
noncomputable def F.osierlaw07_OpsTake.r12 : Plan :=
  .rd 0 none (.mv (.tmp 6)) (some 20) false <|
  .rd 1 none (.bin .add (.tmp 20) (.const (.int .i64 1))) (some 21) false <|
  .rd 2 none (.mv (.tmp 21)) (some 6) false <|
  .done
noncomputable def F.osierlaw07_OpsTake.l0 : IC :=
    (.seq (.seq (.reg F.osierlaw07_OpsTake.r9)
    (.cond (.tmp 19) .skip (.exit 0)))
    (.seq (.block 1 (.seq (.reg F.osierlaw07_OpsTake.r10)
    (.cond (.tmp 46) (.seq (.reg F.osierlaw07_OpsTake.r11)
    .ret) .skip)))
    (.reg F.osierlaw07_OpsTake.r12)))
noncomputable def F.osierlaw07_OpsTake.r13 : Plan :=
  .rd 0 none (.mv (.const (.bool true))) (some 2) false <|
  .done
noncomputable def F.osierlaw07_OpsTake.ic : IC :=
    (.seq (.reg F.osierlaw07_OpsTake.r0)
    (.seq (.reg F.osierlaw07_OpsTake.r1)
    (.seq (.seq (.reg F.osierlaw07_OpsTake.r2)
    (.cond (.tmp 9) (.seq (.reg F.osierlaw07_OpsTake.r3)
    .ret) .skip))
    (.seq (.seq (.reg F.osierlaw07_OpsTake.r4)
    (.cond (.tmp 12) (.seq (.reg F.osierlaw07_OpsTake.r5)
    .ret) .skip))
    (.seq (.reg F.osierlaw07_OpsTake.r6)
    (.seq (.reg F.osierlaw07_OpsTake.r7)
    (.seq (.seq (.reg F.osierlaw07_OpsTake.r8)
    (.block 0 (.loop F.osierlaw07_OpsTake.l0)))
    (.seq (.reg F.osierlaw07_OpsTake.r13)
    .ret))))))))
noncomputable def F.osierlaw07_OpsTake.rs : List RO := [(.mv (.tmp 2))]
theorem F.osierlaw07_OpsTake.ok : cFunc Go.Proofs.Tryd.prog F.osierlaw07_OpsTake = some (47, F.osierlaw07_OpsTake.ic, F.osierlaw07_OpsTake.rs) := by kernel_rfl
theorem F.osierlaw07_OpsTake.cl : callable Go.Proofs.Tryd.prog F.osierlaw07_OpsTake = true := by kernel_rfl
noncomputable def F.osierlaw07_OpsOne.r0 : Plan :=
  .rd 0 none (.mv (.const (.bool false))) (some 2) false <|
  .done
noncomputable def F.osierlaw07_OpsOne.r1 : Plan :=
  .ef 0 none (.call F.osierlaw07_awake []) (some 6) [] (
  .rd 1 none (.mv (.tmp 6)) (some 3) false <|
  .done) .none
noncomputable def F.osierlaw07_OpsOne.r2 : Plan :=
  .rd 0 none (.mv (.tmp 3)) (some 7) false <|
  .rd 1 none (.un .not (.tmp 7)) (some 8) false <|
  .done
noncomputable def F.osierlaw07_OpsOne.r3 : Plan :=
  .rd 0 none (.mv (.const (.bool false))) (some 2) false <|
  .done
noncomputable def F.osierlaw07_OpsOne.r4 : Plan :=
  .rd 0 none (.mv (.tmp 0)) (some 9) false <|
  .rd 1 none (.len .sl (.tmp 9)) (some 10) false <|
  .rd 2 none (.bin .gtr (.tmp 10) (.const (.int .i64 2000))) (some 11) false <|
  .done
noncomputable def F.osierlaw07_OpsOne.r5 : Plan :=
  .rd 0 none (.mv (.const (.bool true))) (some 2) false <|
  .done
noncomputable def F.osierlaw07_OpsOne.r6 : Plan :=
  .rd 0 none (.mv (.tmp 0)) (some 12) false <|
  .ef 1 none (.call F.num_Read [(.tmp 12)]) (some 13) [] (
  .rd 2 none (.mv (.tmp 13)) (some 4) false <|
  .done) .none
noncomputable def F.osierlaw07_OpsOne.r7 : Plan :=
  .rd 0 none (.mv (.tmp 4)) (some 14) false <|
  .ef 1 none (.call F.ops_Take [(.tmp 14)]) (some 15) [] (
  .ef 2 none (.alloc [(.int .i64 0), (.int .i64 0), (.int .i64 0), (.slice none 0 0), (.int .i64 0), (.int .i64 0), (.int .i64 0), (.int .i64 0), (.int .i64 0), (.int .i64 0), (.int .i64 0), (.int .i64 0), (.int .i64 0), (.string ⟨#[]⟩)]) (some 5) [] (
  .ef 3 none (.st 14 (.tmp 5) (.tmp 15)) none [] (
  .done) .none) .none) .none
noncomputable def F.osierlaw07_OpsOne.r8 : Plan :=
  .rd 0 none (.mv (.tmp 4)) (some 16) false <|
  .ef 1 none (.call F.num_Reader_End [(.tmp 16)]) (some 17) [] (
  .rd 2 none (.bin .neq (.tmp 17) (.const (.int .i64 0))) (some 18) false <|
  .done) .none
noncomputable def F.osierlaw07_OpsOne.r9 : Plan :=
  .rd 0 none (.mv (.const (.bool true))) (some 2) false <|
  .done
noncomputable def F.osierlaw07_OpsOne.r10 : Plan :=
  .rd 0 none (.ldn 14 (.tmp 5)) (some 19) false <|
  .ef 1 none (.call F.ops_Check [(.tmp 19)]) (some 20) [] (
  .rd 2 none (.mv (.tmp 20)) (some 21) false <|
  .rd 3 (some (21, true)) (.ldn 14 (.tmp 5)) (some 22) false <|
  .rd 6 (some (21, true)) (.mv (.tmp 0)) (some 25) false <|
  .rd 7 (some (21, true)) (.bs (.tmp 25)) (some 26) true <|
  .ef 4 (some (21, true)) (.call F.ops_Put [(.const (.slice none 0 0)), (.tmp 22)]) (some 23) [6, 7] (
  .rd 5 (some (21, true)) (.bs (.tmp 23)) (some 24) false <|
  .rd 8 (some (21, true)) (.bin .eql (.tmp 24) (.tmp 26)) (some 27) false <|
  .rd 9 none (.pick (.tmp 21) (.tmp 27) (.const (.bool false))) (some 28) false <|
  .rd 10 none (.mv (.tmp 28)) (some 2) false <|
  .done) .none) .none
noncomputable def F.osierlaw07_OpsOne.ic : IC :=
    (.seq (.reg F.osierlaw07_OpsOne.r0)
    (.seq (.reg F.osierlaw07_OpsOne.r1)
    (.seq (.seq (.reg F.osierlaw07_OpsOne.r2)
    (.cond (.tmp 8) (.seq (.reg F.osierlaw07_OpsOne.r3)
    .ret) .skip))
    (.seq (.seq (.reg F.osierlaw07_OpsOne.r4)
    (.cond (.tmp 11) (.seq (.reg F.osierlaw07_OpsOne.r5)
    .ret) .skip))
    (.seq (.reg F.osierlaw07_OpsOne.r6)
    (.seq (.reg F.osierlaw07_OpsOne.r7)
    (.seq (.seq (.reg F.osierlaw07_OpsOne.r8)
    (.cond (.tmp 18) (.seq (.reg F.osierlaw07_OpsOne.r9)
    .ret) .skip))
    (.seq (.reg F.osierlaw07_OpsOne.r10)
    .ret))))))))
noncomputable def F.osierlaw07_OpsOne.rs : List RO := [(.mv (.tmp 2))]
theorem F.osierlaw07_OpsOne.ok : cFunc Go.Proofs.Tryd.prog F.osierlaw07_OpsOne = some (29, F.osierlaw07_OpsOne.ic, F.osierlaw07_OpsOne.rs) := by kernel_rfl
theorem F.osierlaw07_OpsOne.cl : callable Go.Proofs.Tryd.prog F.osierlaw07_OpsOne = true := by kernel_rfl
noncomputable def F.osierlaw07_OpsLean.r0 : Plan :=
  .ef 0 none (.box (.tmp 0)) (some 1) [] (
  .rd 1 none (.mv (.const (.bool false))) (some 2) false <|
  .done) .none
noncomputable def F.osierlaw07_OpsLean.r1 : Plan :=
  .ef 0 none (.call F.osierlaw07_awake []) (some 8) [] (
  .rd 1 none (.mv (.tmp 8)) (some 3) false <|
  .done) .none
noncomputable def F.osierlaw07_OpsLean.r2 : Plan :=
  .rd 0 none (.mv (.tmp 3)) (some 9) false <|
  .rd 1 none (.un .not (.tmp 9)) (some 10) false <|
  .done
noncomputable def F.osierlaw07_OpsLean.r3 : Plan :=
  .rd 0 none (.mv (.const (.bool false))) (some 2) false <|
  .done
noncomputable def F.osierlaw07_OpsLean.r4 : Plan :=
  .rd 0 none (.fldA 3 (.tmp 1)) (some 11) false <|
  .rd 1 none (.ld1 (.tmp 11)) (some 12) false <|
  .rd 2 none (.len .sl (.tmp 12)) (some 13) false <|
  .rd 3 none (.bin .gtr (.tmp 13) (.const (.int .i64 200))) (some 14) false <|
  .rd 4 none (.mv (.tmp 14)) (some 15) false <|
  .rd 5 (some (15, false)) (.ldn 14 (.tmp 1)) (some 16) false <|
  .ef 6 (some (15, false)) (.call F.ops_Check [(.tmp 16)]) (some 17) [] (
  .rd 7 (some (15, false)) (.un .not (.tmp 17)) (some 18) false <|
  .rd 8 none (.pick (.tmp 15) (.const (.bool true)) (.tmp 18)) (some 19) false <|
  .done) .none
noncomputable def F.osierlaw07_OpsLean.r5 : Plan :=
  .rd 0 none (.mv (.const (.bool true))) (some 2) false <|
  .done
noncomputable def F.osierlaw07_OpsLean.r6 : Plan :=
  .rd 0 none (.ldn 14 (.tmp 1)) (some 20) false <|
  .ef 1 none (.alloc [(.int .i64 0), (.int .i64 0), (.int .i64 0), (.slice none 0 0), (.int .i64 0), (.int .i64 0), (.int .i64 0), (.int .i64 0), (.int .i64 0), (.int .i64 0), (.int .i64 0), (.int .i64 0), (.int .i64 0), (.string ⟨#[]⟩)]) (some 4) [] (
  .ef 2 none (.st 14 (.tmp 4) (.tmp 20)) none [] (
  .done) .none) .none
noncomputable def F.osierlaw07_OpsLean.r7 : Plan :=
  .rd 0 none (.fldA 3 (.tmp 4)) (some 21) false <|
  .ef 1 none (.st 1 (.tmp 21) (.const (.slice none 0 0))) none [] (
  .done) .none
noncomputable def F.osierlaw07_OpsLean.r8 : Plan :=
  .rd 0 none (.fldA 0 (.tmp 1)) (some 22) false <|
  .rd 1 none (.fldA 1 (.tmp 22)) (some 23) false <|
  .rd 2 none (.ld1 (.tmp 23)) (some 24) false <|
  .rd 3 none (.bin .eql (.tmp 24) (.const (.int .i64 1))) (some 25) false <|
  .rd 4 none (.mv (.tmp 25)) (some 26) false <|
  .rd 5 (some (26, true)) (.fldA 4 (.tmp 1)) (some 27) false <|
  .rd 6 (some (26, true)) (.ld1 (.tmp 27)) (some 28) false <|
  .rd 7 (some (26, true)) (.bin .eql (.tmp 28) (.const (.int .i64 3))) (some 29) false <|
  .rd 8 none (.pick (.tmp 26) (.tmp 29) (.const (.bool false))) (some 30) false <|
  .rd 9 none (.mv (.tmp 30)) (some 31) false <|
  .rd 10 (some (31, true)) (.fldA 5 (.tmp 1)) (some 32) false <|
  .rd 11 (some (31, true)) (.ldn 2 (.tmp 32)) (some 33) false <|
  .rd 12 (some (31, true)) (.fldA 0 (.tmp 1)) (some 34) false <|
  .rd 13 (some (31, true)) (.ldn 2 (.tmp 34)) (some 35) false <|
  .rd 14 (some (31, true)) (.eqS [(.i .i64), (.i .i64)] true false (.tmp 33) (.tmp 35)) (some 36) false <|
  .rd 15 none (.pick (.tmp 31) (.tmp 36) (.const (.bool false))) (some 37) false <|
  .rd 16 none (.mv (.tmp 37)) (some 38) false <|
  .rd 17 (some (38, true)) (.fldA 11 (.tmp 1)) (some 39) false <|
  .rd 18 (some (38, true)) (.ldn 2 (.tmp 39)) (some 40) true <|
  .ef 19 (some (38, true)) (.call F.api_Root []) (some 41) [17, 18] (
  .rd 20 (some (38, true)) (.eqS [(.i .i64), (.i .i64)] true false (.tmp 40) (.tmp 41)) (some 42) false <|
  .rd 21 (some (38, true)) (.mv (.tmp 42)) (some 43) false <|
  .rd 22 (some (43, false)) (.fldA 11 (.tmp 1)) (some 44) false <|
  .rd 23 (some (43, false)) (.ldn 2 (.tmp 44)) (some 45) true <|
  .ef 24 (some (43, false)) (.call F.api_Trash []) (some 46) [22, 23] (
  .rd 25 (some (43, false)) (.eqS [(.i .i64), (.i .i64)] true false (.tmp 45) (.tmp 46)) (some 47) false <|
  .rd 26 (some (38, true)) (.pick (.tmp 43) (.const (.bool true)) (.tmp 47)) (some 48) false <|
  .rd 27 none (.pick (.tmp 38) (.tmp 48) (.const (.bool false))) (some 49) false <|
  .rd 28 none (.mv (.tmp 49)) (some 5) false <|
  .done) .none) .none
noncomputable def F.osierlaw07_OpsLean.r9 : Plan :=
  .rd 0 none (.fldA 13 (.tmp 1)) (some 50) false <|
  .rd 1 none (.ld1 (.tmp 50)) (some 51) false <|
  .rd 2 none (.fldA 13 (.tmp 4)) (some 52) false <|
  .ef 3 none (.st 1 (.tmp 52) (.tmp 51)) none [] (
  .done) .none
noncomputable def F.osierlaw07_OpsLean.r10 : Plan :=
  .rd 0 none (.ldn 14 (.tmp 1)) (some 53) false <|
  .ef 1 none (.alloc [(.int .i64 0), (.int .i64 0), (.int .i64 0), (.slice none 0 0), (.int .i64 0), (.int .i64 0), (.int .i64 0), (.int .i64 0), (.int .i64 0), (.int .i64 0), (.int .i64 0), (.int .i64 0), (.int .i64 0), (.string ⟨#[]⟩)]) (some 6) [] (
  .ef 2 none (.st 14 (.tmp 6) (.tmp 53)) none [] (
  .done) .none) .none
noncomputable def F.osierlaw07_OpsLean.r11 : Plan :=
  .rd 0 none (.fldA 2 (.tmp 6)) (some 54) false <|
  .ef 1 none (.st 1 (.tmp 54) (.const (.int .i64 0))) none [] (
  .done) .none
noncomputable def F.osierlaw07_OpsLean.r12 : Plan :=
  .rd 0 none (.ldn 14 (.tmp 1)) (some 55) false <|
  .ef 1 none (.alloc [(.int .i64 0), (.int .i64 0), (.int .i64 0), (.slice none 0 0), (.int .i64 0), (.int .i64 0), (.int .i64 0), (.int .i64 0), (.int .i64 0), (.int .i64 0), (.int .i64 0), (.int .i64 0), (.int .i64 0), (.string ⟨#[]⟩)]) (some 7) [] (
  .ef 2 none (.st 14 (.tmp 7) (.tmp 55)) none [] (
  .done) .none) .none
noncomputable def F.osierlaw07_OpsLean.r13 : Plan :=
  .rd 0 none (.fldA 0 (.tmp 7)) (some 56) false <|
  .rd 1 none (.fldA 1 (.tmp 56)) (some 57) false <|
  .rd 2 none (.ld1 (.tmp 57)) (some 58) false <|
  .rd 3 none (.bin .add (.tmp 58) (.const (.int .i64 1))) (some 59) false <|
  .rd 4 none (.fldA 0 (.tmp 7)) (some 60) false <|
  .rd 5 none (.fldA 1 (.tmp 60)) (some 61) false <|
  .ef 6 none (.st 1 (.tmp 61) (.tmp 59)) none [] (
  .done) .none
noncomputable def F.osierlaw07_OpsLean.r14 : Plan :=
  .rd 0 none (.ldn 14 (.tmp 4)) (some 62) false <|
  .ef 1 none (.call F.ops_Check [(.tmp 62)]) (some 63) [] (
  .rd 2 none (.mv (.tmp 5)) (some 64) false <|
  .rd 3 none (.eqS [.b] false false (.tmp 63) (.tmp 64)) (some 65) false <|
  .rd 4 none (.mv (.tmp 65)) (some 66) false <|
  .rd 5 (some (66, true)) (.ldn 14 (.tmp 6)) (some 67) false <|
  .ef 6 (some (66, true)) (.call F.ops_Check [(.tmp 67)]) (some 68) [] (
  .rd 7 (some (66, true)) (.un .not (.tmp 68)) (some 69) false <|
  .rd 8 none (.pick (.tmp 66) (.tmp 69) (.const (.bool false))) (some 70) false <|
  .rd 9 none (.mv (.tmp 70)) (some 71) false <|
  .rd 10 (some (71, true)) (.ldn 14 (.tmp 7)) (some 72) false <|
  .ef 11 (some (71, true)) (.call F.ops_Check [(.tmp 72)]) (some 73) [] (
  .rd 12 (some (71, true)) (.un .not (.tmp 73)) (some 74) false <|
  .rd 13 none (.pick (.tmp 71) (.tmp 74) (.const (.bool false))) (some 75) false <|
  .rd 14 none (.mv (.tmp 75)) (some 2) false <|
  .done) .none) .none) .none
noncomputable def F.osierlaw07_OpsLean.ic : IC :=
    (.seq (.reg F.osierlaw07_OpsLean.r0)
    (.seq (.reg F.osierlaw07_OpsLean.r1)
    (.seq (.seq (.reg F.osierlaw07_OpsLean.r2)
    (.cond (.tmp 10) (.seq (.reg F.osierlaw07_OpsLean.r3)
    .ret) .skip))
    (.seq (.seq (.reg F.osierlaw07_OpsLean.r4)
    (.cond (.tmp 19) (.seq (.reg F.osierlaw07_OpsLean.r5)
    .ret) .skip))
    (.seq (.reg F.osierlaw07_OpsLean.r6)
    (.seq (.reg F.osierlaw07_OpsLean.r7)
    (.seq (.reg F.osierlaw07_OpsLean.r8)
    (.seq (.reg F.osierlaw07_OpsLean.r9)
    (.seq (.reg F.osierlaw07_OpsLean.r10)
    (.seq (.reg F.osierlaw07_OpsLean.r11)
    (.seq (.reg F.osierlaw07_OpsLean.r12)
    (.seq (.reg F.osierlaw07_OpsLean.r13)
    (.seq (.reg F.osierlaw07_OpsLean.r14)
    .ret)))))))))))))
noncomputable def F.osierlaw07_OpsLean.rs : List RO := [(.mv (.tmp 2))]
theorem F.osierlaw07_OpsLean.ok : cFunc Go.Proofs.Tryd.prog F.osierlaw07_OpsLean = some (76, F.osierlaw07_OpsLean.ic, F.osierlaw07_OpsLean.rs) := by kernel_rfl
theorem F.osierlaw07_OpsLean.cl : callable Go.Proofs.Tryd.prog F.osierlaw07_OpsLean = true := by kernel_rfl
noncomputable def F.osierref07_Put.r0 : Plan :=
  .ef 0 none (.box (.tmp 0)) (some 1) [] (
  .rd 1 none (.mv (.const (.slice none 0 0))) (some 2) false <|
  .done) .none
noncomputable def F.osierref07_Put.r1 : Plan :=
  .rd 0 none (.fldA 0 (.tmp 1)) (some 4) false <|
  .rd 1 none (.ldn 2 (.tmp 4)) (some 5) false <|
  .ef 2 none (.call F.osierref03_Put [(.tmp 5)]) (some 6) [] (
  .rd 3 none (.mv (.tmp 6)) (some 3) false <|
  .done) .none
noncomputable def F.osierref07_Put.r2 : Plan :=
  .rd 0 none (.mv (.tmp 3)) (some 7) false <|
  .rd 1 none (.fldA 2 (.tmp 1)) (some 8) false <|
  .rd 2 none (.ld1 (.tmp 8)) (some 9) false <|
  .ef 3 none (.call F.osierref01_Int [(.tmp 9)]) (some 10) [] (
  .ef 4 none (.app 1 1 (.tmp 7) (.tmp 10)) (some 11) [] (
  .rd 5 none (.mv (.tmp 11)) (some 3) false <|
  .done) .none) .none
noncomputable def F.osierref07_Put.r3 : Plan :=
  .rd 0 none (.mv (.tmp 3)) (some 12) false <|
  .rd 1 none (.fldA 3 (.tmp 1)) (some 13) false <|
  .rd 2 none (.ld1 (.tmp 13)) (some 14) false <|
  .ef 3 none (.call F.osierref04_Put [(.tmp 14)]) (some 15) [] (
  .ef 4 none (.app 1 1 (.tmp 12) (.tmp 15)) (some 16) [] (
  .rd 5 none (.mv (.tmp 16)) (some 3) false <|
  .done) .none) .none
noncomputable def F.osierref07_Put.r4 : Plan :=
  .rd 0 none (.mv (.tmp 3)) (some 17) false <|
  .rd 1 none (.fldA 4 (.tmp 1)) (some 18) false <|
  .rd 2 none (.ld1 (.tmp 18)) (some 19) false <|
  .ef 3 none (.call F.osierref01_Int [(.tmp 19)]) (some 20) [] (
  .ef 4 none (.app 1 1 (.tmp 17) (.tmp 20)) (some 21) [] (
  .rd 5 none (.mv (.tmp 21)) (some 3) false <|
  .done) .none) .none
noncomputable def F.osierref07_Put.r5 : Plan :=
  .rd 0 none (.mv (.tmp 3)) (some 22) false <|
  .rd 1 none (.fldA 5 (.tmp 1)) (some 23) false <|
  .rd 2 none (.ldn 2 (.tmp 23)) (some 24) false <|
  .ef 3 none (.call F.osierref03_Put [(.tmp 24)]) (some 25) [] (
  .ef 4 none (.app 1 1 (.tmp 22) (.tmp 25)) (some 26) [] (
  .rd 5 none (.mv (.tmp 26)) (some 3) false <|
  .done) .none) .none
noncomputable def F.osierref07_Put.r6 : Plan :=
  .rd 0 none (.fldA 4 (.tmp 1)) (some 27) false <|
  .rd 1 none (.ld1 (.tmp 27)) (some 28) false <|
  .done
noncomputable def F.osierref07_Put.r7 : Plan :=
  .rd 0 none (.bin .eql (.tmp 28) (.const (.int .i64 1))) (some 30) false <|
  .rd 1 none (.mv (.tmp 30)) (some 29) false <|
  .done
noncomputable def F.osierref07_Put.r8 : Plan :=
  .rd 0 none (.mv (.tmp 3)) (some 31) false <|
  .rd 1 none (.fldA 7 (.tmp 1)) (some 32) false <|
  .rd 2 none (.ldn 2 (.tmp 32)) (some 33) false <|
  .ef 3 none (.call F.osierref03_Put [(.tmp 33)]) (some 34) [] (
  .ef 4 none (.app 1 1 (.tmp 31) (.tmp 34)) (some 35) [] (
  .rd 5 none (.mv (.tmp 35)) (some 3) false <|
  .done) .none) .none
noncomputable def F.osierref07_Put.r9 : Plan :=
  .rd 0 none (.mv (.tmp 3)) (some 36) false <|
  .rd 1 none (.fldA 9 (.tmp 1)) (some 37) false <|
  .rd 2 none (.ld1 (.tmp 37)) (some 38) false <|
  .ef 3 none (.call F.osierref01_Int [(.tmp 38)]) (some 39) [] (
  .ef 4 none (.app 1 1 (.tmp 36) (.tmp 39)) (some 40) [] (
  .rd 5 none (.mv (.tmp 40)) (some 3) false <|
  .done) .none) .none
noncomputable def F.osierref07_Put.r10 : Plan :=
  .rd 0 none (.mv (.tmp 3)) (some 41) false <|
  .rd 1 none (.fldA 10 (.tmp 1)) (some 42) false <|
  .rd 2 none (.ld1 (.tmp 42)) (some 43) false <|
  .ef 3 none (.call F.osierref01_Int [(.tmp 43)]) (some 44) [] (
  .ef 4 none (.app 1 1 (.tmp 41) (.tmp 44)) (some 45) [] (
  .rd 5 none (.mv (.tmp 45)) (some 3) false <|
  .done) .none) .none
noncomputable def F.osierref07_Put.r11 : Plan :=
  .rd 0 none (.bin .eql (.tmp 28) (.const (.int .i64 2))) (some 47) false <|
  .rd 1 none (.mv (.tmp 47)) (some 46) false <|
  .done
noncomputable def F.osierref07_Put.r12 : Plan :=
  .rd 0 none (.mv (.tmp 3)) (some 48) false <|
  .rd 1 none (.fldA 7 (.tmp 1)) (some 49) false <|
  .rd 2 none (.ldn 2 (.tmp 49)) (some 50) false <|
  .ef 3 none (.call F.osierref03_Put [(.tmp 50)]) (some 51) [] (
  .ef 4 none (.app 1 1 (.tmp 48) (.tmp 51)) (some 52) [] (
  .rd 5 none (.mv (.tmp 52)) (some 3) false <|
  .done) .none) .none
noncomputable def F.osierref07_Put.r13 : Plan :=
  .rd 0 none (.bin .eql (.tmp 28) (.const (.int .i64 3))) (some 54) false <|
  .rd 1 none (.mv (.tmp 54)) (some 53) false <|
  .done
noncomputable def F.osierref07_Put.r14 : Plan :=
  .rd 0 none (.mv (.tmp 3)) (some 55) false <|
  .rd 1 none (.fldA 11 (.tmp 1)) (some 56) false <|
  .rd 2 none (.ldn 2 (.tmp 56)) (some 57) false <|
  .ef 3 none (.call F.osierref03_Put [(.tmp 57)]) (some 58) [] (
  .ef 4 none (.app 1 1 (.tmp 55) (.tmp 58)) (some 59) [] (
  .rd 5 none (.mv (.tmp 59)) (some 3) false <|
  .done) .none) .none
noncomputable def F.osierref07_Put.r15 : Plan :=
  .rd 0 none (.mv (.tmp 3)) (some 60) false <|
  .rd 1 none (.fldA 13 (.tmp 1)) (some 61) false <|
  .rd 2 none (.ld1 (.tmp 61)) (some 62) false <|
  .ef 3 none (.call F.osierref01_Text [(.tmp 62)]) (some 63) [] (
  .ef 4 none (.app 1 1 (.tmp 60) (.tmp 63)) (some 64) [] (
  .rd 5 none (.mv (.tmp 64)) (some 3) false <|
  .done) .none) .none
noncomputable def F.osierref07_Put.r16 : Plan :=
  .rd 0 none (.mv (.tmp 3)) (some 65) false <|
  .rd 1 none (.mv (.tmp 65)) (some 2) false <|
  .done
noncomputable def F.osierref07_Put.ic : IC :=
    (.seq (.reg F.osierref07_Put.r0)
    (.seq (.reg F.osierref07_Put.r1)
    (.seq (.reg F.osierref07_Put.r2)
    (.seq (.reg F.osierref07_Put.r3)
    (.seq (.reg F.osierref07_Put.r4)
    (.seq (.reg F.osierref07_Put.r5)
    (.seq (.seq (.reg F.osierref07_Put.r6)
    (.block 0 (.seq (.reg F.osierref07_Put.r7)
    (.cond (.tmp 29) (.seq (.reg F.osierref07_Put.r8)
    (.seq (.reg F.osierref07_Put.r9)
    (.reg F.osierref07_Put.r10))) (.seq (.reg F.osierref07_Put.r11)
    (.cond (.tmp 46) (.reg F.osierref07_Put.r12) (.seq (.reg F.osierref07_Put.r13)
    (.cond (.tmp 53) (.seq (.reg F.osierref07_Put.r14)
    (.reg F.osierref07_Put.r15)) .skip))))))))
    (.seq (.reg F.osierref07_Put.r16)
    .ret))))))))
noncomputable def F.osierref07_Put.rs : List RO := [(.mv (.tmp 2))]
theorem F.osierref07_Put.ok : cFunc Go.Proofs.Tryd.prog F.osierref07_Put = some (66, F.osierref07_Put.ic, F.osierref07_Put.rs) := by kernel_rfl
theorem F.osierref07_Put.cl : callable Go.Proofs.Tryd.prog F.osierref07_Put = true := by kernel_rfl
noncomputable def F.osierref07_Same.r0 : Plan :=
  .ef 0 none (.box (.tmp 0)) (some 2) [] (
  .ef 1 none (.box (.tmp 1)) (some 3) [] (
  .rd 2 none (.mv (.const (.bool false))) (some 4) false <|
  .done) .none) .none
noncomputable def F.osierref07_Same.r1 : Plan :=
  .rd 0 none (.fldA 3 (.tmp 2)) (some 6) false <|
  .rd 1 none (.ld1 (.tmp 6)) (some 7) false <|
  .rd 2 none (.fldA 3 (.tmp 3)) (some 8) false <|
  .rd 3 none (.ld1 (.tmp 8)) (some 9) false <|
  .ef 4 none (.call F.osierref04_Same [(.tmp 7), (.tmp 9)]) (some 10) [] (
  .rd 5 none (.mv (.tmp 10)) (some 5) false <|
  .done) .none
noncomputable def F.osierref07_Same.r2 : Plan :=
  .rd 0 none (.mv (.tmp 5)) (some 11) false <|
  .rd 1 none (.mv (.tmp 11)) (some 12) false <|
  .rd 2 (some (12, true)) (.fldA 0 (.tmp 2)) (some 13) false <|
  .rd 3 (some (12, true)) (.ldn 2 (.tmp 13)) (some 14) false <|
  .rd 4 (some (12, true)) (.fldA 0 (.tmp 3)) (some 15) false <|
  .rd 5 (some (12, true)) (.ldn 2 (.tmp 15)) (some 16) false <|
  .rd 6 (some (12, true)) (.eqS [(.i .i64), (.i .i64)] true false (.tmp 14) (.tmp 16)) (some 17) false <|
  .rd 7 none (.pick (.tmp 12) (.tmp 17) (.const (.bool false))) (some 18) false <|
  .rd 8 none (.mv (.tmp 18)) (some 19) false <|
  .rd 9 (some (19, true)) (.fldA 2 (.tmp 2)) (some 20) false <|
  .rd 10 (some (19, true)) (.ld1 (.tmp 20)) (some 21) false <|
  .rd 11 (some (19, true)) (.fldA 2 (.tmp 3)) (some 22) false <|
  .rd 12 (some (19, true)) (.ld1 (.tmp 22)) (some 23) false <|
  .rd 13 (some (19, true)) (.bin .eql (.tmp 21) (.tmp 23)) (some 24) false <|
  .rd 14 none (.pick (.tmp 19) (.tmp 24) (.const (.bool false))) (some 25) false <|
  .rd 15 none (.mv (.tmp 25)) (some 26) false <|
  .rd 16 (some (26, true)) (.fldA 4 (.tmp 2)) (some 27) false <|
  .rd 17 (some (26, true)) (.ld1 (.tmp 27)) (some 28) false <|
  .rd 18 (some (26, true)) (.fldA 4 (.tmp 3)) (some 29) false <|
  .rd 19 (some (26, true)) (.ld1 (.tmp 29)) (some 30) false <|
  .rd 20 (some (26, true)) (.bin .eql (.tmp 28) (.tmp 30)) (some 31) false <|
  .rd 21 none (.pick (.tmp 26) (.tmp 31) (.const (.bool false))) (some 32) false <|
  .rd 22 none (.mv (.tmp 32)) (some 33) false <|
  .rd 23 (some (33, true)) (.fldA 5 (.tmp 2)) (some 34) false <|
  .rd 24 (some (33, true)) (.ldn 2 (.tmp 34)) (some 35) false <|
  .rd 25 (some (33, true)) (.fldA 5 (.tmp 3)) (some 36) false <|
  .rd 26 (some (33, true)) (.ldn 2 (.tmp 36)) (some 37) false <|
  .rd 27 (some (33, true)) (.eqS [(.i .i64), (.i .i64)] true false (.tmp 35) (.tmp 37)) (some 38) false <|
  .rd 28 none (.pick (.tmp 33) (.tmp 38) (.const (.bool false))) (some 39) false <|
  .rd 29 none (.mv (.tmp 39)) (some 40) false <|
  .rd 30 (some (40, true)) (.fldA 7 (.tmp 2)) (some 41) false <|
  .rd 31 (some (40, true)) (.ldn 2 (.tmp 41)) (some 42) false <|
  .rd 32 (some (40, true)) (.fldA 7 (.tmp 3)) (some 43) false <|
  .rd 33 (some (40, true)) (.ldn 2 (.tmp 43)) (some 44) false <|
  .rd 34 (some (40, true)) (.eqS [(.i .i64), (.i .i64)] true false (.tmp 42) (.tmp 44)) (some 45) false <|
  .rd 35 none (.pick (.tmp 40) (.tmp 45) (.const (.bool false))) (some 46) false <|
  .rd 36 none (.mv (.tmp 46)) (some 47) false <|
  .rd 37 (some (47, true)) (.fldA 9 (.tmp 2)) (some 48) false <|
  .rd 38 (some (47, true)) (.ld1 (.tmp 48)) (some 49) false <|
  .rd 39 (some (47, true)) (.fldA 9 (.tmp 3)) (some 50) false <|
  .rd 40 (some (47, true)) (.ld1 (.tmp 50)) (some 51) false <|
  .rd 41 (some (47, true)) (.bin .eql (.tmp 49) (.tmp 51)) (some 52) false <|
  .rd 42 none (.pick (.tmp 47) (.tmp 52) (.const (.bool false))) (some 53) false <|
  .rd 43 none (.mv (.tmp 53)) (some 54) false <|
  .rd 44 (some (54, true)) (.fldA 10 (.tmp 2)) (some 55) false <|
  .rd 45 (some (54, true)) (.ld1 (.tmp 55)) (some 56) false <|
  .rd 46 (some (54, true)) (.fldA 10 (.tmp 3)) (some 57) false <|
  .rd 47 (some (54, true)) (.ld1 (.tmp 57)) (some 58) false <|
  .rd 48 (some (54, true)) (.bin .eql (.tmp 56) (.tmp 58)) (some 59) false <|
  .rd 49 none (.pick (.tmp 54) (.tmp 59) (.const (.bool false))) (some 60) false <|
  .rd 50 none (.mv (.tmp 60)) (some 61) false <|
  .rd 51 (some (61, true)) (.fldA 11 (.tmp 2)) (some 62) false <|
  .rd 52 (some (61, true)) (.ldn 2 (.tmp 62)) (some 63) false <|
  .rd 53 (some (61, true)) (.fldA 11 (.tmp 3)) (some 64) false <|
  .rd 54 (some (61, true)) (.ldn 2 (.tmp 64)) (some 65) false <|
  .rd 55 (some (61, true)) (.eqS [(.i .i64), (.i .i64)] true false (.tmp 63) (.tmp 65)) (some 66) false <|
  .rd 56 none (.pick (.tmp 61) (.tmp 66) (.const (.bool false))) (some 67) false <|
  .rd 57 none (.mv (.tmp 67)) (some 68) false <|
  .rd 58 (some (68, true)) (.fldA 13 (.tmp 2)) (some 69) false <|
  .rd 59 (some (68, true)) (.ld1 (.tmp 69)) (some 70) false <|
  .rd 60 (some (68, true)) (.fldA 13 (.tmp 3)) (some 71) false <|
  .rd 61 (some (68, true)) (.ld1 (.tmp 71)) (some 72) false <|
  .rd 62 (some (68, true)) (.bin .eql (.tmp 70) (.tmp 72)) (some 73) false <|
  .rd 63 none (.pick (.tmp 68) (.tmp 73) (.const (.bool false))) (some 74) false <|
  .rd 64 none (.mv (.tmp 74)) (some 4) false <|
  .done
noncomputable def F.osierref07_Same.ic : IC :=
    (.seq (.reg F.osierref07_Same.r0)
    (.seq (.reg F.osierref07_Same.r1)
    (.seq (.reg F.osierref07_Same.r2)
    .ret)))
noncomputable def F.osierref07_Same.rs : List RO := [(.mv (.tmp 4))]
theorem F.osierref07_Same.ok : cFunc Go.Proofs.Tryd.prog F.osierref07_Same = some (75, F.osierref07_Same.ic, F.osierref07_Same.rs) := by kernel_rfl
theorem F.osierref07_Same.cl : callable Go.Proofs.Tryd.prog F.osierref07_Same = true := by kernel_rfl
noncomputable def F.osierref07_Take.r0 : Plan :=
  .ef 0 none (.alloc [(.int .i64 0), (.int .i64 0), (.int .i64 0), (.slice none 0 0), (.int .i64 0), (.int .i64 0), (.int .i64 0), (.int .i64 0), (.int .i64 0), (.int .i64 0), (.int .i64 0), (.int .i64 0), (.int .i64 0), (.string ⟨#[]⟩)]) (some 2) [] (
  .done) .none
noncomputable def F.osierref07_Take.r1 : Plan :=
  .rd 0 none (.mv (.tmp 0)) (some 8) false <|
  .ef 1 none (.call F.osierref03_Take [(.tmp 8)]) (some 9) [] (
  .ef 2 none (.alloc [(.int .i64 0), (.int .i64 0)]) (some 3) [] (
  .ef 3 none (.st 2 (.tmp 3) (.tmp 9)) none [] (
  .done) .none) .none) .none
noncomputable def F.osierref07_Take.r2 : Plan :=
  .rd 0 none (.mv (.tmp 0)) (some 10) false <|
  .ef 1 none (.call F.osierref01_R_Int [(.tmp 10)]) (some 11) [] (
  .rd 2 none (.mv (.tmp 11)) (some 4) false <|
  .done) .none
noncomputable def F.osierref07_Take.r3 : Plan :=
  .rd 0 none (.mv (.tmp 0)) (some 12) false <|
  .ef 1 none (.call F.osierref04_Take [(.tmp 12)]) (some 13) [] (
  .rd 2 none (.mv (.tmp 13)) (some 5) false <|
  .done) .none
noncomputable def F.osierref07_Take.r4 : Plan :=
  .rd 0 none (.mv (.tmp 0)) (some 14) false <|
  .ef 1 none (.call F.osierref01_R_Int [(.tmp 14)]) (some 15) [] (
  .rd 2 none (.mv (.tmp 15)) (some 6) false <|
  .done) .none
noncomputable def F.osierref07_Take.r5 : Plan :=
  .rd 0 none (.mv (.tmp 0)) (some 16) false <|
  .rd 1 none (.nilC (.tmp 16)) (some 17) false <|
  .rd 2 none (.fldA 1 (.tmp 17)) (some 18) false <|
  .rd 3 none (.ld1 (.tmp 18)) (some 19) false <|
  .rd 4 none (.bin .eql (.tmp 19) (.const (.int .i64 0))) (some 20) false <|
  .rd 5 none (.mv (.tmp 20)) (some 21) false <|
  .rd 6 (some (21, true)) (.mv (.tmp 6)) (some 22) false <|
  .rd 7 (some (21, true)) (.bin .neq (.tmp 22) (.const (.int .i64 1))) (some 23) false <|
  .rd 8 none (.pick (.tmp 21) (.tmp 23) (.const (.bool false))) (some 24) false <|
  .rd 9 none (.mv (.tmp 24)) (some 25) false <|
  .rd 10 (some (25, true)) (.mv (.tmp 6)) (some 26) false <|
  .rd 11 (some (25, true)) (.bin .neq (.tmp 26) (.const (.int .i64 2))) (some 27) false <|
  .rd 12 none (.pick (.tmp 25) (.tmp 27) (.const (.bool false))) (some 28) false <|
  .rd 13 none (.mv (.tmp 28)) (some 29) false <|
  .rd 14 (some (29, true)) (.mv (.tmp 6)) (some 30) false <|
  .rd 15 (some (29, true)) (.bin .neq (.tmp 30) (.const (.int .i64 3))) (some 31) false <|
  .rd 16 none (.pick (.tmp 29) (.tmp 31) (.const (.bool false))) (some 32) false <|
  .done
noncomputable def F.osierref07_Take.r6 : Plan :=
  .rd 0 none (.mv (.tmp 0)) (some 33) false <|
  .ef 1 none (.call F.osierref01_R_Fail [(.tmp 33), (.const (.int .i64 11))]) (some 34) [] (
  .done) .none
noncomputable def F.osierref07_Take.r7 : Plan :=
  .rd 0 none (.ldn 2 (.tmp 3)) (some 35) true <|
  .rd 1 none (.mv (.tmp 4)) (some 36) false <|
  .rd 2 none (.mv (.tmp 5)) (some 37) false <|
  .rd 3 none (.mv (.tmp 6)) (some 38) false <|
  .rd 4 none (.mv (.tmp 0)) (some 39) false <|
  .ef 5 none (.call F.osierref03_Take [(.tmp 39)]) (some 40) [0, 1, 2, 3] (
  .rd 6 none (.build [(.int .i64 0), (.int .i64 0), (.int .i64 0), (.slice none 0 0), (.int .i64 0), (.int .i64 0), (.int .i64 0), (.int .i64 0), (.int .i64 0), (.int .i64 0), (.int .i64 0), (.int .i64 0), (.int .i64 0), (.string ⟨#[]⟩)] [(0, (2, (.tmp 35))), (2, (1, (.tmp 36))), (3, (1, (.tmp 37))), (4, (1, (.tmp 38))), (5, (2, (.tmp 40)))]) (some 41) false <|
  .ef 7 none (.alloc [(.int .i64 0), (.int .i64 0), (.int .i64 0), (.slice none 0 0), (.int .i64 0), (.int .i64 0), (.int .i64 0), (.int .i64 0), (.int .i64 0), (.int .i64 0), (.int .i64 0), (.int .i64 0), (.int .i64 0), (.string ⟨#[]⟩)]) (some 7) [0, 1, 2, 3, 4, 6] (
  .ef 8 none (.st 14 (.tmp 7) (.tmp 41)) none [] (
  .done) .none) .none) (
    .ef 7 none (.alloc [(.int .i64 0), (.int .i64 0), (.int .i64 0), (.slice none 0 0), (.int .i64 0), (.int .i64 0), (.int .i64 0), (.int .i64 0), (.int .i64 0), (.int .i64 0), (.int .i64 0), (.int .i64 0), (.int .i64 0), (.string ⟨#[]⟩)]) (some 7) [0, 1, 2, 3, 4] (
    .ef 5 none (.call F.osierref03_Take [(.tmp 39)]) (some 40) [0, 1, 2, 3] (
    .rd 6 none (.build [(.int .i64 0), (.int .i64 0), (.int .i64 0), (.slice none 0 0), (.int .i64 0), (.int .i64 0), (.int .i64 0), (.int .i64 0), (.int .i64 0), (.int .i64 0), (.int .i64 0), (.int .i64 0), (.int .i64 0), (.string ⟨#[]⟩)] [(0, (2, (.tmp 35))), (2, (1, (.tmp 36))), (3, (1, (.tmp 37))), (4, (1, (.tmp 38))), (5, (2, (.tmp 40)))]) (some 41) false <|
    .ef 8 none (.st 14 (.tmp 7) (.tmp 41)) none [] (
    .done) .none) .none) .none)
noncomputable def F.osierref07_Take.r8 : Plan :=
  .rd 0 none (.mv (.tmp 6)) (some 42) false <|
  .done
noncomputable def F.osierref07_Take.r9 : Plan :=
  .rd 0 none (.bin .eql (.tmp 42) (.const (.int .i64 1))) (some 44) false <|
  .rd 1 none (.mv (.tmp 44)) (some 43) false <|
  .done
noncomputable def F.osierref07_Take.r10 : Plan :=
  .rd 0 none (.mv (.tmp 0)) (some 45) false <|
  .ef 1 none (.call F.osierref03_Take [(.tmp 45)]) (some 46) [] (
  .rd 2 none (.fldA 7 (.tmp 7)) (some 47) false <|
  .ef 3 none (.st 2 (.tmp 47) (.tmp 46)) none [] (
  .done) .none) .none
noncomputable def F.osierref07_Take.r11 : Plan :=
  .rd 0 none (.mv (.tmp 0)) (some 48) false <|
  .ef 1 none (.call F.osierref01_R_Int [(.tmp 48)]) (some 49) [] (
  .rd 2 none (.fldA 9 (.tmp 7)) (some 50) false <|
  .ef 3 none (.st 1 (.tmp 50) (.tmp 49)) none [] (
  .done) .none) .none
noncomputable def F.osierref07_Take.r12 : Plan :=
  .rd 0 none (.mv (.tmp 0)) (some 51) false <|
  .ef 1 none (.call F.osierref01_R_Int [(.tmp 51)]) (some 52) [] (
  .rd 2 none (.fldA 10 (.tmp 7)) (some 53) false <|
  .ef 3 none (.st 1 (.tmp 53) (.tmp 52)) none [] (
  .done) .none) .none
noncomputable def F.osierref07_Take.r13 : Plan :=
  .rd 0 none (.bin .eql (.tmp 42) (.const (.int .i64 2))) (some 55) false <|
  .rd 1 none (.mv (.tmp 55)) (some 54) false <|
  .done
noncomputable def F.osierref07_Take.r14 : Plan :=
  .rd 0 none (.mv (.tmp 0)) (some 56) false <|
  .ef 1 none (.call F.osierref03_Take [(.tmp 56)]) (some 57) [] (
  .rd 2 none (.fldA 7 (.tmp 7)) (some 58) false <|
  .ef 3 none (.st 2 (.tmp 58) (.tmp 57)) none [] (
  .done) .none) .none
noncomputable def F.osierref07_Take.r15 : Plan :=
  .rd 0 none (.bin .eql (.tmp 42) (.const (.int .i64 3))) (some 60) false <|
  .rd 1 none (.mv (.tmp 60)) (some 59) false <|
  .done
noncomputable def F.osierref07_Take.r16 : Plan :=
  .rd 0 none (.mv (.tmp 0)) (some 61) false <|
  .ef 1 none (.call F.osierref03_Take [(.tmp 61)]) (some 62) [] (
  .rd 2 none (.fldA 11 (.tmp 7)) (some 63) false <|
  .ef 3 none (.st 2 (.tmp 63) (.tmp 62)) none [] (
  .done) .none) .none
noncomputable def F.osierref07_Take.r17 : Plan :=
  .rd 0 none (.mv (.tmp 0)) (some 64) false <|
  .ef 1 none (.call F.osierref01_R_Text [(.tmp 64)]) (some 65) [] (
  .rd 2 none (.fldA 13 (.tmp 7)) (some 66) false <|
  .ef 3 none (.st 1 (.tmp 66) (.tmp 65)) none [] (
  .done) .none) .none
noncomputable def F.osierref07_Take.r18 : Plan :=
  .rd 0 none (.mv (.tmp 0)) (some 67) false <|
  .rd 1 none (.nilC (.tmp 67)) (some 68) false <|
  .rd 2 none (.fldA 1 (.tmp 68)) (some 69) false <|
  .rd 3 none (.ld1 (.tmp 69)) (some 70) false <|
  .rd 4 none (.bin .eql (.tmp 70) (.const (.int .i64 0))) (some 71) false <|
  .rd 5 none (.mv (.tmp 71)) (some 72) false <|
  .rd 6 (some (72, true)) (.ldn 14 (.tmp 7)) (some 73) false <|
  .ef 7 (some (72, true)) (.call F.osierref07_Check [(.tmp 73)]) (some 74) [] (
  .rd 8 (some (72, true)) (.un .not (.tmp 74)) (some 75) false <|
  .rd 9 none (.pick (.tmp 72) (.tmp 75) (.const (.bool false))) (some 76) false <|
  .done) .none
noncomputable def F.osierref07_Take.r19 : Plan :=
  .rd 0 none (.mv (.tmp 0)) (some 77) false <|
  .ef 1 none (.call F.osierref01_R_Fail [(.tmp 77), (.const (.int .i64 30))]) (some 78) [] (
  .done) .none
noncomputable def F.osierref07_Take.r20 : Plan :=
  .rd 0 none (.mv (.tmp 0)) (some 79) false <|
  .rd 1 none (.nilC (.tmp 79)) (some 80) false <|
  .rd 2 none (.fldA 1 (.tmp 80)) (some 81) false <|
  .rd 3 none (.ld1 (.tmp 81)) (some 82) false <|
  .rd 4 none (.bin .neq (.tmp 82) (.const (.int .i64 0))) (some 83) false <|
  .done
noncomputable def F.osierref07_Take.r21 : Plan :=
  .rd 0 none (.build [(.int .i64 0), (.int .i64 0), (.int .i64 0), (.slice none 0 0), (.int .i64 0), (.int .i64 0), (.int .i64 0), (.int .i64 0), (.int .i64 0), (.int .i64 0), (.int .i64 0), (.int .i64 0), (.int .i64 0), (.string ⟨#[]⟩)] []) (some 84) false <|
  .ef 1 none (.st 14 (.tmp 2) (.tmp 84)) none [] (
  .done) .none
noncomputable def F.osierref07_Take.r22 : Plan :=
  .rd 0 none (.ldn 14 (.tmp 7)) (some 85) false <|
  .ef 1 none (.st 14 (.tmp 2) (.tmp 85)) none [] (
  .done) .none
noncomputable def F.osierref07_Take.ic : IC :=
    (.seq (.reg F.osierref07_Take.r0)
    (.seq (.reg F.osierref07_Take.r1)
    (.seq (.reg F.osierref07_Take.r2)
    (.seq (.reg F.osierref07_Take.r3)
    (.seq (.reg F.osierref07_Take.r4)
    (.seq (.seq (.reg F.osierref07_Take.r5)
    (.cond (.tmp 32) (.reg F.osierref07_Take.r6) .skip))
    (.seq (.reg F.osierref07_Take.r7)
    (.seq (.seq (.reg F.osierref07_Take.r8)
    (.block 0 (.seq (.reg F.osierref07_Take.r9)
    (.cond (.tmp 43) (.seq (.reg F.osierref07_Take.r10)
    (.seq (.reg F.osierref07_Take.r11)
    (.reg F.osierref07_Take.r12))) (.seq (.reg F.osierref07_Take.r13)
    (.cond (.tmp 54) (.reg F.osierref07_Take.r14) (.seq (.reg F.osierref07_Take.r15)
    (.cond (.tmp 59) (.seq (.reg F.osierref07_Take.r16)
    (.reg F.osierref07_Take.r17)) .skip))))))))
    (.seq (.seq (.reg F.osierref07_Take.r18)
    (.cond (.tmp 76) (.reg F.osierref07_Take.r19) .skip))
    (.seq (.seq (.reg F.osierref07_Take.r20)
    (.cond (.tmp 83) (.seq (.reg F.osierref07_Take.r21)
    .ret) .skip))
    (.seq (.reg F.osierref07_Take.r22)
    .ret)))))))))))
noncomputable def F.osierref07_Take.rs : List RO := [(.ldn 14 (.tmp 2))]
theorem F.osierref07_Take.ok : cFunc Go.Proofs.Tryd.prog F.osierref07_Take = some (86, F.osierref07_Take.ic, F.osierref07_Take.rs) := by kernel_rfl
theorem F.osierref07_Take.cl : callable Go.Proofs.Tryd.prog F.osierref07_Take = true := by kernel_rfl
noncomputable def F.osierref03_Put.r0 : Plan :=
  .ef 0 none (.box (.tmp 0)) (some 1) [] (
  .rd 1 none (.mv (.const (.slice none 0 0))) (some 2) false <|
  .done) .none
noncomputable def F.osierref03_Put.r1 : Plan :=
  .rd 0 none (.fldA 0 (.tmp 1)) (some 3) false <|
  .rd 1 none (.ld1 (.tmp 3)) (some 4) false <|
  .rd 3 none (.fldA 1 (.tmp 1)) (some 6) false <|
  .rd 4 none (.ld1 (.tmp 6)) (some 7) true <|
  .ef 2 none (.call F.osierref01_Int [(.tmp 4)]) (some 5) [3, 4] (
  .ef 5 none (.call F.osierref01_Int [(.tmp 7)]) (some 8) [] (
  .ef 6 none (.app 1 1 (.tmp 5) (.tmp 8)) (some 9) [] (
  .rd 7 none (.mv (.tmp 9)) (some 2) false <|
  .done) .none) .none) .none
noncomputable def F.osierref03_Put.ic : IC :=
    (.seq (.reg F.osierref03_Put.r0)
    (.seq (.reg F.osierref03_Put.r1)
    .ret))
noncomputable def F.osierref03_Put.rs : List RO := [(.mv (.tmp 2))]
theorem F.osierref03_Put.ok : cFunc Go.Proofs.Tryd.prog F.osierref03_Put = some (10, F.osierref03_Put.ic, F.osierref03_Put.rs) := by kernel_rfl
theorem F.osierref03_Put.cl : callable Go.Proofs.Tryd.prog F.osierref03_Put = true := by kernel_rfl
noncomputable def F.osierref01_Int.r0 : Plan :=
  .rd 0 none (.mv (.const (.slice none 0 0))) (some 2) false <|
  .done
noncomputable def F.osierref01_Int.r1 : Plan :=
  .rd 0 none (.mv (.tmp 0)) (some 3) false <|
  .rd 1 none (.bin .geq (.tmp 3) (.const (.int .i64 0))) (some 4) false <|
  .done
noncomputable def F.osierref01_Int.r2 : Plan :=
  .rd 0 none (.mv (.tmp 0)) (some 5) false <|
  .rd 1 none (.convI .u64 (.tmp 5)) (some 6) false <|
  .rd 2 none (.bin .mul (.const (.int .u64 2)) (.tmp 6)) (some 7) false <|
  .ef 3 none (.call F.osierref01_Uint [(.tmp 7)]) (some 8) [] (
  .rd 4 none (.mv (.tmp 8)) (some 2) false <|
  .done) .none
noncomputable def F.osierref01_Int.r3 : Plan :=
  .rd 0 none (.mv (.tmp 0)) (some 9) false <|
  .rd 1 none (.bin .add (.tmp 9) (.const (.int .i64 1))) (some 10) false <|
  .rd 2 none (.un .neg (.tmp 10)) (some 11) false <|
  .rd 3 none (.convI .u64 (.tmp 11)) (some 12) false <|
  .rd 4 none (.bin .mul (.const (.int .u64 2)) (.tmp 12)) (some 13) false <|
  .rd 5 none (.bin .add (.tmp 13) (.const (.int .u64 1))) (some 14) false <|
  .ef 6 none (.call F.osierref01_Uint [(.tmp 14)]) (some 15) [] (
  .rd 7 none (.mv (.tmp 15)) (some 2) false <|
  .done) .none
noncomputable def F.osierref01_Int.ic : IC :=
    (.seq (.reg F.osierref01_Int.r0)
    (.seq (.seq (.reg F.osierref01_Int.r1)
    (.cond (.tmp 4) (.seq (.reg F.osierref01_Int.r2)
    .ret) .skip))
    (.seq (.reg F.osierref01_Int.r3)
    .ret)))
noncomputable def F.osierref01_Int.rs : List RO := [(.mv (.tmp 2))]
theorem F.osierref01_Int.ok : cFunc Go.Proofs.Tryd.prog F.osierref01_Int = some (16, F.osierref01_Int.ic, F.osierref01_Int.rs) := by kernel_rfl
theorem F.osierref01_Int.cl : callable Go.Proofs.Tryd.prog F.osierref01_Int = true := by kernel_rfl
noncomputable def F.osierref04_Put.r0 : Plan :=
  .rd 0 none (.mv (.const (.slice none 0 0))) (some 2) false <|
  .done
noncomputable def F.osierref04_Put.r1 : Plan :=
  .rd 0 none (.mv (.tmp 0)) (some 5) false <|
  .rd 1 none (.len .sl (.tmp 5)) (some 6) false <|
  .rd 2 none (.convI .u64 (.tmp 6)) (some 7) false <|
  .ef 3 none (.call F.osierref01_Uint [(.tmp 7)]) (some 8) [] (
  .rd 4 none (.mv (.tmp 8)) (some 3) false <|
  .done) .none
noncomputable def F.osierref04_Put.r2 : Plan :=
  .rd 0 none (.mv (.const (.int .i64 0))) (some 4) false <|
  .done
noncomputable def F.osierref04_Put.r3 : Plan :=
  .rd 0 none (.mv (.tmp 4)) (some 9) false <|
  .rd 1 none (.mv (.tmp 0)) (some 10) false <|
  .rd 2 none (.len .sl (.tmp 10)) (some 11) false <|
  .rd 3 none (.bin .lss (.tmp 9) (.tmp 11)) (some 12) false <|
  .done
noncomputable def F.osierref04_Put.r4 : Plan :=
  .rd 0 none (.mv (.tmp 3)) (some 15) false <|
  .rd 1 none (.mv (.tmp 0)) (some 16) false <|
  .rd 2 none (.mv (.tmp 4)) (some 17) false <|
  .rd 3 none (.idxA 2 (.tmp 16) (.tmp 17)) (some 18) false <|
  .rd 4 none (.ldn 2 (.tmp 18)) (some 19) false <|
  .ef 5 none (.call F.osierref03_Put [(.tmp 19)]) (some 20) [] (
  .ef 6 none (.app 1 1 (.tmp 15) (.tmp 20)) (some 21) [] (
  .rd 7 none (.mv (.tmp 21)) (some 3) false <|
  .done) .none) .none
noncomputable def F.osierref04_Put.r5 : Plan :=
  .rd 0 none (.mv (.tmp 4)) (some 13) false <|
  .rd 1 none (.bin .add (.tmp 13) (.const (.int .i64 1))) (some 14) false <|
  .rd 2 none (.mv (.tmp 14)) (some 4) false <|
  .done
noncomputable def F.osierref04_Put.l0 : IC :=
    (.seq (.seq (.reg F.osierref04_Put.r3)
    (.cond (.tmp 12) .skip (.exit 0)))
    (.seq (.block 1 (.reg F.osierref04_Put.r4))
    (.reg F.osierref04_Put.r5)))
noncomputable def F.osierref04_Put.r6 : Plan :=
  .rd 0 none (.mv (.tmp 3)) (some 22) false <|
  .rd 1 none (.mv (.tmp 22)) (some 2) false <|
  .done
noncomputable def F.osierref04_Put.ic : IC :=
    (.seq (.reg F.osierref04_Put.r0)
    (.seq (.reg F.osierref04_Put.r1)
    (.seq (.seq (.reg F.osierref04_Put.r2)
    (.block 0 (.loop F.osierref04_Put.l0)))
    (.seq (.reg F.osierref04_Put.r6)
    .ret))))
noncomputable def F.osierref04_Put.rs : List RO := [(.mv (.tmp 2))]
theorem F.osierref04_Put.ok : cFunc Go.Proofs.Tryd.prog F.osierref04_Put = some (23, F.osierref04_Put.ic, F.osierref04_Put.rs) := by kernel_rfl
theorem F.osierref04_Put.cl : callable Go.Proofs.Tryd.prog F.osierref04_Put = true := by kernel_rfl
noncomputable def F.osierref01_Text.r0 : Plan :=
  .rd 0 none (.mv (.const (.slice none 0 0))) (some 2) false <|
  .done
noncomputable def F.osierref01_Text.r1 : Plan :=
  .rd 0 none (.mv (.tmp 0)) (some 3) false <|
  .rd 1 none (.len .str (.tmp 3)) (some 4) false <|
  .rd 2 none (.convI .u64 (.tmp 4)) (some 5) false <|
  .ef 3 none (.call F.osierref01_Uint [(.tmp 5)]) (some 6) [] (
  .rd 4 none (.mv (.tmp 0)) (some 7) false <|
  .ef 5 none (.app 1 1 (.tmp 6) (.tmp 7)) (some 8) [] (
  .rd 6 none (.mv (.tmp 8)) (some 2) false <|
  .done) .none) .none
noncomputable def F.osierref01_Text.ic : IC :=
    (.seq (.reg F.osierref01_Text.r0)
    (.seq (.reg F.osierref01_Text.r1)
    .ret))
noncomputable def F.osierref01_Text.rs : List RO := [(.mv (.tmp 2))]
theorem F.osierref01_Text.ok : cFunc Go.Proofs.Tryd.prog F.osierref01_Text = some (9, F.osierref01_Text.ic, F.osierref01_Text.rs) := by kernel_rfl
theorem F.osierref01_Text.cl : callable Go.Proofs.Tryd.prog F.osierref01_Text = true := by kernel_rfl
noncomputable def F.osierref04_Same.r0 : Plan :=
  .rd 0 none (.mv (.const (.bool false))) (some 4) false <|
  .done
noncomputable def F.osierref04_Same.r1 : Plan :=
  .rd 0 none (.mv (.tmp 0)) (some 6) false <|
  .rd 1 none (.len .sl (.tmp 6)) (some 7) false <|
  .rd 2 none (.mv (.tmp 1)) (some 8) false <|
  .rd 3 none (.len .sl (.tmp 8)) (some 9) false <|
  .rd 4 none (.bin .neq (.tmp 7) (.tmp 9)) (some 10) false <|
  .done
noncomputable def F.osierref04_Same.r2 : Plan :=
  .rd 0 none (.mv (.const (.bool false))) (some 4) false <|
  .done
noncomputable def F.osierref04_Same.r3 : Plan :=
  .rd 0 none (.mv (.const (.int .i64 0))) (some 5) false <|
  .done
noncomputable def F.osierref04_Same.r4 : Plan :=
  .rd 0 none (.mv (.tmp 5)) (some 11) false <|
  .rd 1 none (.mv (.tmp 0)) (some 12) false <|
  .rd 2 none (.len .sl (.tmp 12)) (some 13) false <|
  .rd 3 none (.bin .lss (.tmp 11) (.tmp 13)) (some 14) false <|
  .done
noncomputable def F.osierref04_Same.r5 : Plan :=
  .rd 0 none (.mv (.tmp 0)) (some 17) false <|
  .rd 1 none (.mv (.tmp 5)) (some 18) false <|
  .rd 2 none (.idxA 2 (.tmp 17) (.tmp 18)) (some 19) false <|
  .rd 3 none (.ldn 2 (.tmp 19)) (some 20) false <|
  .rd 4 none (.mv (.tmp 1)) (some 21) false <|
  .rd 5 none (.mv (.tmp 5)) (some 22) false <|
  .rd 6 none (.idxA 2 (.tmp 21) (.tmp 22)) (some 23) false <|
  .rd 7 none (.ldn 2 (.tmp 23)) (some 24) false <|
  .rd 8 none (.eqS [(.i .i64), (.i .i64)] true true (.tmp 20) (.tmp 24)) (some 25) false <|
  .done
noncomputable def F.osierref04_Same.r6 : Plan :=
  .rd 0 none (.mv (.const (.bool false))) (some 4) false <|
  .done
noncomputable def F.osierref04_Same.r7 : Plan :=
  .rd 0 none (.mv (.tmp 5)) (some 15) false <|
  .rd 1 none (.bin .add (.tmp 15) (.const (.int .i64 1))) (some 16) false <|
  .rd 2 none (.mv (.tmp 16)) (some 5) false <|
  .done
noncomputable def F.osierref04_Same.l0 : IC :=
    (.seq (.seq (.reg F.osierref04_Same.r4)
    (.cond (.tmp 14) .skip (.exit 0)))
    (.seq (.block 1 (.seq (.reg F.osierref04_Same.r5)
    (.cond (.tmp 25) (.seq (.reg F.osierref04_Same.r6)
    .ret) .skip)))
    (.reg F.osierref04_Same.r7)))
noncomputable def F.osierref04_Same.r8 : Plan :=
  .rd 0 none (.mv (.const (.bool true))) (some 4) false <|
  .done
noncomputable def F.osierref04_Same.ic : IC :=
    (.seq (.reg F.osierref04_Same.r0)
    (.seq (.seq (.reg F.osierref04_Same.r1)
    (.cond (.tmp 10) (.seq (.reg F.osierref04_Same.r2)
    .ret) .skip))
    (.seq (.seq (.reg F.osierref04_Same.r3)
    (.block 0 (.loop F.osierref04_Same.l0)))
    (.seq (.reg F.osierref04_Same.r8)
    .ret))))
noncomputable def F.osierref04_Same.rs : List RO := [(.mv (.tmp 4))]
theorem F.osierref04_Same.ok : cFunc Go.Proofs.Tryd.prog F.osierref04_Same = some (26, F.osierref04_Same.ic, F.osierref04_Same.rs) := by kernel_rfl
theorem F.osierref04_Same.cl : callable Go.Proofs.Tryd.prog F.osierref04_Same = true := by kernel_rfl
noncomputable def F.osierref03_Take.r0 : Plan :=
  .ef 0 none (.alloc [(.int .i64 0), (.int .i64 0)]) (some 2) [] (
  .done) .none
noncomputable def F.osierref03_Take.r1 : Plan :=
  .rd 0 none (.mv (.tmp 0)) (some 5) false <|
  .ef 1 none (.call F.osierref01_R_Int [(.tmp 5)]) (some 6) [] (
  .rd 2 none (.mv (.tmp 6)) (some 3) false <|
  .done) .none
noncomputable def F.osierref03_Take.r2 : Plan :=
  .rd 0 none (.mv (.tmp 0)) (some 7) false <|
  .ef 1 none (.call F.osierref01_R_Int [(.tmp 7)]) (some 8) [] (
  .rd 2 none (.mv (.tmp 8)) (some 4) false <|
  .done) .none
noncomputable def F.osierref03_Take.r3 : Plan :=
  .rd 0 none (.mv (.tmp 0)) (some 9) false <|
  .rd 1 none (.nilC (.tmp 9)) (some 10) false <|
  .rd 2 none (.fldA 1 (.tmp 10)) (some 11) false <|
  .rd 3 none (.ld1 (.tmp 11)) (some 12) false <|
  .rd 4 none (.bin .neq (.tmp 12) (.const (.int .i64 0))) (some 13) false <|
  .done
noncomputable def F.osierref03_Take.r4 : Plan :=
  .rd 0 none (.build [(.int .i64 0), (.int .i64 0)] []) (some 14) false <|
  .ef 1 none (.st 2 (.tmp 2) (.tmp 14)) none [] (
  .done) .none
noncomputable def F.osierref03_Take.r5 : Plan :=
  .rd 0 none (.mv (.tmp 3)) (some 15) false <|
  .rd 1 none (.mv (.tmp 4)) (some 16) false <|
  .rd 2 none (.build [(.int .i64 0), (.int .i64 0)] [(0, (1, (.tmp 15))), (1, (1, (.tmp 16)))]) (some 17) false <|
  .ef 3 none (.st 2 (.tmp 2) (.tmp 17)) none [] (
  .done) .none
noncomputable def F.osierref03_Take.ic : IC :=
    (.seq (.reg F.osierref03_Take.r0)
    (.seq (.reg F.osierref03_Take.r1)
    (.seq (.reg F.osierref03_Take.r2)
    (.seq (.seq (.reg F.osierref03_Take.r3)
    (.cond (.tmp 13) (.seq (.reg F.osierref03_Take.r4)
    .ret) .skip))
    (.seq (.reg F.osierref03_Take.r5)
    .ret)))))
noncomputable def F.osierref03_Take.rs : List RO := [(.ldn 2 (.tmp 2))]
theorem F.osierref03_Take.ok : cFunc Go.Proofs.Tryd.prog F.osierref03_Take = some (18, F.osierref03_Take.ic, F.osierref03_Take.rs) := by kernel_rfl
theorem F.osierref03_Take.cl : callable Go.Proofs.Tryd.prog F.osierref03_Take = true := by kernel_rfl
noncomputable def F.osierref01_R_Int.r0 : Plan :=
  .rd 0 none (.mv (.const (.int .i64 0))) (some 2) false <|
  .done
noncomputable def F.osierref01_R_Int.r1 : Plan :=
  .rd 0 none (.mv (.tmp 0)) (some 4) false <|
  .ef 1 none (.call F.osierref01_R_Uint [(.tmp 4)]) (some 5) [] (
  .rd 2 none (.mv (.tmp 5)) (some 3) false <|
  .done) .none
noncomputable def F.osierref01_R_Int.r2 : Plan :=
  .rd 0 none (.mv (.tmp 3)) (some 6) false <|
  .rd 1 none (.bin .rem (.tmp 6) (.const (.int .u64 2))) (some 7) false <|
  .rd 2 none (.bin .eql (.tmp 7) (.const (.int .u64 0))) (some 8) false <|
  .done
noncomputable def F.osierref01_R_Int.r3 : Plan :=
  .rd 0 none (.mv (.tmp 3)) (some 9) false <|
  .rd 1 none (.bin .quo (.tmp 9) (.const (.int .u64 2))) (some 10) false <|
  .rd 2 none (.convI .i64 (.tmp 10)) (some 11) false <|
  .rd 3 none (.mv (.tmp 11)) (some 2) false <|
  .done
noncomputable def F.osierref01_R_Int.r4 : Plan :=
  .rd 0 none (.mv (.tmp 3)) (some 12) false <|
  .rd 1 none (.bin .quo (.tmp 12) (.const (.int .u64 2))) (some 13) false <|
  .rd 2 none (.convI .i64 (.tmp 13)) (some 14) false <|
  .rd 3 none (.un .neg (.tmp 14)) (some 15) false <|
  .rd 4 none (.bin .sub (.tmp 15) (.const (.int .i64 1))) (some 16) false <|
  .rd 5 none (.mv (.tmp 16)) (some 2) false <|
  .done
noncomputable def F.osierref01_R_Int.ic : IC :=
    (.seq (.reg F.osierref01_R_Int.r0)
    (.seq (.reg F.osierref01_R_Int.r1)
    (.seq (.seq (.reg F.osierref01_R_Int.r2)
    (.cond (.tmp 8) (.seq (.reg F.osierref01_R_Int.r3)
    .ret) .skip))
    (.seq (.reg F.osierref01_R_Int.r4)
    .ret))))
noncomputable def F.osierref01_R_Int.rs : List RO := [(.mv (.tmp 2))]
theorem F.osierref01_R_Int.ok : cFunc Go.Proofs.Tryd.prog F.osierref01_R_Int = some (17, F.osierref01_R_Int.ic, F.osierref01_R_Int.rs) := by kernel_rfl
theorem F.osierref01_R_Int.cl : callable Go.Proofs.Tryd.prog F.osierref01_R_Int = true := by kernel_rfl
noncomputable def F.osierref04_Take.r0 : Plan :=
  .rd 0 none (.mv (.const (.slice none 0 0))) (some 2) false <|
  .done
noncomputable def F.osierref04_Take.r1 : Plan :=
  .rd 0 none (.mv (.tmp 0)) (some 6) false <|
  .ef 1 none (.call F.osierref01_R_Count [(.tmp 6), (.const (.int .i64 2))]) (some 7) [] (
  .rd 2 none (.mv (.tmp 7)) (some 3) false <|
  .done) .none
noncomputable def F.osierref04_Take.r2 : Plan :=
  .rd 0 none (.mv (.const (.slice none 0 0))) (some 4) false <|
  .done
noncomputable def F.osierref04_Take.r3 : Plan :=
  .rd 0 none (.mv (.const (.int .i64 0))) (some 5) false <|
  .done
noncomputable def F.osierref04_Take.r4 : Plan :=
  .rd 0 none (.mv (.tmp 5)) (some 8) false <|
  .rd 1 none (.mv (.tmp 3)) (some 9) false <|
  .rd 2 none (.bin .lss (.tmp 8) (.tmp 9)) (some 10) false <|
  .done
noncomputable def F.osierref04_Take.r5 : Plan :=
  .rd 0 none (.mv (.tmp 4)) (some 13) false <|
  .rd 1 none (.mv (.tmp 0)) (some 14) false <|
  .ef 2 none (.call F.osierref03_Take [(.tmp 14)]) (some 15) [] (
  .ef 3 none (.bsl 1 [(.int .i64 0), (.int .i64 0)] [(0, (2, (.tmp 15)))]) (some 16) [] (
  .ef 4 none (.app 2 16 (.tmp 13) (.tmp 16)) (some 17) [] (
  .rd 5 none (.mv (.tmp 17)) (some 4) false <|
  .done) .none) .none) .none
noncomputable def F.osierref04_Take.r6 : Plan :=
  .rd 0 none (.mv (.tmp 5)) (some 11) false <|
  .rd 1 none (.bin .add (.tmp 11) (.const (.int .i64 1))) (some 12) false <|
  .rd 2 none (.mv (.tmp 12)) (some 5) false <|
  .done
noncomputable def F.osierref04_Take.l0 : IC :=
    (.seq (.seq (.reg F.osierref04_Take.r4)
    (.cond (.tmp 10) .skip (.exit 0)))
    (.seq (.block 1 (.reg F.osierref04_Take.r5))
    (.reg F.osierref04_Take.r6)))
noncomputable def F.osierref04_Take.r7 : Plan :=
  .rd 0 none (.mv (.tmp 0)) (some 18) false <|
  .rd 1 none (.nilC (.tmp 18)) (some 19) false <|
  .rd 2 none (.fldA 1 (.tmp 19)) (some 20) false <|
  .rd 3 none (.ld1 (.tmp 20)) (some 21) false <|
  .rd 4 none (.bin .eql (.tmp 21) (.const (.int .i64 0))) (some 22) false <|
  .rd 5 none (.mv (.tmp 22)) (some 23) false <|
  .rd 6 (some (23, true)) (.mv (.tmp 4)) (some 24) false <|
  .ef 7 (some (23, true)) (.call F.osierref04_May [(.tmp 24)]) (some 25) [] (
  .rd 8 (some (23, true)) (.un .not (.tmp 25)) (some 26) false <|
  .rd 9 none (.pick (.tmp 23) (.tmp 26) (.const (.bool false))) (some 27) false <|
  .done) .none
noncomputable def F.osierref04_Take.r8 : Plan :=
  .rd 0 none (.mv (.tmp 0)) (some 28) false <|
  .ef 1 none (.call F.osierref01_R_Fail [(.tmp 28), (.const (.int .i64 11))]) (some 29) [] (
  .done) .none
noncomputable def F.osierref04_Take.r9 : Plan :=
  .rd 0 none (.mv (.tmp 0)) (some 30) false <|
  .rd 1 none (.nilC (.tmp 30)) (some 31) false <|
  .rd 2 none (.fldA 1 (.tmp 31)) (some 32) false <|
  .rd 3 none (.ld1 (.tmp 32)) (some 33) false <|
  .rd 4 none (.bin .neq (.tmp 33) (.const (.int .i64 0))) (some 34) false <|
  .done
noncomputable def F.osierref04_Take.r10 : Plan :=
  .rd 0 none (.mv (.const (.slice none 0 0))) (some 2) false <|
  .done
noncomputable def F.osierref04_Take.r11 : Plan :=
  .rd 0 none (.mv (.tmp 4)) (some 35) false <|
  .rd 1 none (.mv (.tmp 35)) (some 2) false <|
  .done
noncomputable def F.osierref04_Take.ic : IC :=
    (.seq (.reg F.osierref04_Take.r0)
    (.seq (.reg F.osierref04_Take.r1)
    (.seq (.reg F.osierref04_Take.r2)
    (.seq (.seq (.reg F.osierref04_Take.r3)
    (.block 0 (.loop F.osierref04_Take.l0)))
    (.seq (.seq (.reg F.osierref04_Take.r7)
    (.cond (.tmp 27) (.reg F.osierref04_Take.r8) .skip))
    (.seq (.seq (.reg F.osierref04_Take.r9)
    (.cond (.tmp 34) (.seq (.reg F.osierref04_Take.r10)
    .ret) .skip))
    (.seq (.reg F.osierref04_Take.r11)
    .ret)))))))
noncomputable def F.osierref04_Take.rs : List RO := [(.mv (.tmp 2))]
theorem F.osierref04_Take.ok : cFunc Go.Proofs.Tryd.prog F.osierref04_Take = some (36, F.osierref04_Take.ic, F.osierref04_Take.rs) := by kernel_rfl
theorem F.osierref04_Take.cl : callable Go.Proofs.Tryd.prog F.osierref04_Take = true := by kernel_rfl
noncomputable def F.osierref01_R_Fail.r0 : Plan :=
  .rd 0 none (.mv (.tmp 0)) (some 4) false <|
  .rd 1 none (.nilC (.tmp 4)) (some 5) false <|
  .rd 2 none (.fldA 1 (.tmp 5)) (some 6) false <|
  .rd 3 none (.ld1 (.tmp 6)) (some 7) false <|
  .rd 4 none (.bin .eql (.tmp 7) (.const (.int .i64 0))) (some 8) false <|
  .rd 5 none (.mv (.tmp 8)) (some 9) false <|
  .rd 6 (some (9, true)) (.mv (.tmp 1)) (some 10) false <|
  .rd 7 (some (9, true)) (.bin .neq (.tmp 10) (.const (.int .i64 0))) (some 11) false <|
  .rd 8 none (.pick (.tmp 9) (.tmp 11) (.const (.bool false))) (some 12) false <|
  .done
noncomputable def F.osierref01_R_Fail.r1 : Plan :=
  .rd 0 none (.mv (.tmp 0)) (some 13) false <|
  .rd 1 none (.mv (.tmp 1)) (some 14) false <|
  .rd 2 none (.nilC (.tmp 13)) (some 15) false <|
  .rd 3 none (.fldA 1 (.tmp 15)) (some 16) false <|
  .ef 4 none (.st 1 (.tmp 16) (.tmp 14)) none [] (
  .done) .none
noncomputable def F.osierref01_R_Fail.r2 : Plan :=
  .rd 0 none (.mv (.tmp 0)) (some 17) false <|
  .rd 1 none (.nilC (.tmp 17)) (some 18) false <|
  .rd 2 none (.fldA 0 (.tmp 18)) (some 19) false <|
  .ef 3 none (.st 1 (.tmp 19) (.const (.slice none 0 0))) none [] (
  .done) .none
noncomputable def F.osierref01_R_Fail.ic : IC :=
    (.seq (.reg F.osierref01_R_Fail.r0)
    (.cond (.tmp 12) (.seq (.reg F.osierref01_R_Fail.r1)
    (.reg F.osierref01_R_Fail.r2)) .skip))
noncomputable def F.osierref01_R_Fail.rs : List RO := []
theorem F.osierref01_R_Fail.ok : cFunc Go.Proofs.Tryd.prog F.osierref01_R_Fail = some (20, F.osierref01_R_Fail.ic, F.osierref01_R_Fail.rs) := by kernel_rfl
theorem F.osierref01_R_Fail.cl : callable Go.Proofs.Tryd.prog F.osierref01_R_Fail = true := by kernel_rfl
noncomputable def F.osierref01_R_Text.r0 : Plan :=
  .rd 0 none (.mv (.const (.string ⟨#[]⟩))) (some 2) false <|
  .done
noncomputable def F.osierref01_R_Text.r1 : Plan :=
  .rd 0 none (.mv (.tmp 0)) (some 5) false <|
  .ef 1 none (.call F.osierref01_R_Uint [(.tmp 5)]) (some 6) [] (
  .rd 2 none (.mv (.tmp 6)) (some 3) false <|
  .done) .none
noncomputable def F.osierref01_R_Text.r2 : Plan :=
  .rd 0 none (.mv (.tmp 0)) (some 7) false <|
  .rd 1 none (.nilC (.tmp 7)) (some 8) false <|
  .rd 2 none (.fldA 1 (.tmp 8)) (some 9) false <|
  .rd 3 none (.ld1 (.tmp 9)) (some 10) false <|
  .rd 4 none (.bin .eql (.tmp 10) (.const (.int .i64 0))) (some 11) false <|
  .rd 5 none (.mv (.tmp 11)) (some 12) false <|
  .rd 6 (some (12, true)) (.mv (.tmp 3)) (some 13) false <|
  .rd 7 (some (12, true)) (.mv (.tmp 0)) (some 14) false <|
  .rd 8 (some (12, true)) (.nilC (.tmp 14)) (some 15) false <|
  .rd 9 (some (12, true)) (.fldA 0 (.tmp 15)) (some 16) false <|
  .rd 10 (some (12, true)) (.ld1 (.tmp 16)) (some 17) false <|
  .rd 11 (some (12, true)) (.len .sl (.tmp 17)) (some 18) false <|
  .rd 12 (some (12, true)) (.convI .u64 (.tmp 18)) (some 19) false <|
  .rd 13 (some (12, true)) (.bin .gtr (.tmp 13) (.tmp 19)) (some 20) false <|
  .rd 14 none (.pick (.tmp 12) (.tmp 20) (.const (.bool false))) (some 21) false <|
  .done
noncomputable def F.osierref01_R_Text.r3 : Plan :=
  .rd 0 none (.mv (.tmp 0)) (some 22) false <|
  .ef 1 none (.call F.osierref01_R_Fail [(.tmp 22), (.const (.int .i64 10))]) (some 23) [] (
  .done) .none
noncomputable def F.osierref01_R_Text.r4 : Plan :=
  .rd 0 none (.mv (.tmp 0)) (some 24) false <|
  .rd 1 none (.nilC (.tmp 24)) (some 25) false <|
  .rd 2 none (.fldA 1 (.tmp 25)) (some 26) false <|
  .rd 3 none (.ld1 (.tmp 26)) (some 27) false <|
  .rd 4 none (.bin .neq (.tmp 27) (.const (.int .i64 0))) (some 28) false <|
  .done
noncomputable def F.osierref01_R_Text.r5 : Plan :=
  .rd 0 none (.mv (.const (.string ⟨#[]⟩))) (some 2) false <|
  .done
noncomputable def F.osierref01_R_Text.r6 : Plan :=
  .rd 0 none (.mv (.tmp 0)) (some 29) false <|
  .rd 1 none (.nilC (.tmp 29)) (some 30) false <|
  .rd 2 none (.fldA 0 (.tmp 30)) (some 31) false <|
  .rd 3 none (.ld1 (.tmp 31)) (some 32) false <|
  .rd 4 none (.mv (.tmp 3)) (some 33) false <|
  .rd 5 none (.sl 1 (.tmp 32) none (some (.tmp 33)) none) (some 34) false <|
  .rd 6 none (.bs (.tmp 34)) (some 35) false <|
  .rd 7 none (.mv (.tmp 35)) (some 4) false <|
  .done
noncomputable def F.osierref01_R_Text.r7 : Plan :=
  .rd 0 none (.mv (.tmp 0)) (some 36) false <|
  .rd 1 none (.mv (.tmp 0)) (some 37) false <|
  .rd 2 none (.nilC (.tmp 37)) (some 38) false <|
  .rd 3 none (.fldA 0 (.tmp 38)) (some 39) false <|
  .rd 4 none (.ld1 (.tmp 39)) (some 40) false <|
  .rd 5 none (.mv (.tmp 3)) (some 41) false <|
  .rd 6 none (.sl 1 (.tmp 40) (some (.tmp 41)) none none) (some 42) false <|
  .rd 7 none (.nilC (.tmp 36)) (some 43) false <|
  .rd 8 none (.fldA 0 (.tmp 43)) (some 44) false <|
  .ef 9 none (.st 1 (.tmp 44) (.tmp 42)) none [] (
  .done) .none
noncomputable def F.osierref01_R_Text.r8 : Plan :=
  .rd 0 none (.mv (.tmp 4)) (some 45) false <|
  .rd 1 none (.mv (.tmp 45)) (some 2) false <|
  .done
noncomputable def F.osierref01_R_Text.ic : IC :=
    (.seq (.reg F.osierref01_R_Text.r0)
    (.seq (.reg F.osierref01_R_Text.r1)
    (.seq (.seq (.reg F.osierref01_R_Text.r2)
    (.cond (.tmp 21) (.reg F.osierref01_R_Text.r3) .skip))
    (.seq (.seq (.reg F.osierref01_R_Text.r4)
    (.cond (.tmp 28) (.seq (.reg F.osierref01_R_Text.r5)
    .ret) .skip))
    (.seq (.reg F.osierref01_R_Text.r6)
    (.seq (.reg F.osierref01_R_Text.r7)
    (.seq (.reg F.osierref01_R_Text.r8)
    .ret)))))))
noncomputable def F.osierref01_R_Text.rs : List RO := [(.mv (.tmp 2))]
theorem F.osierref01_R_Text.ok : cFunc Go.Proofs.Tryd.prog F.osierref01_R_Text = some (46, F.osierref01_R_Text.ic, F.osierref01_R_Text.rs) := by kernel_rfl
theorem F.osierref01_R_Text.cl : callable Go.Proofs.Tryd.prog F.osierref01_R_Text = true := by kernel_rfl
noncomputable def F.osierref01_Uint.r0 : Plan :=
  .rd 0 none (.mv (.const (.slice none 0 0))) (some 2) false <|
  .done
noncomputable def F.osierref01_Uint.r1 : Plan :=
  .rd 0 none (.mv (.tmp 0)) (some 11) false <|
  .ef 1 none (.call F.osierref01_Size [(.tmp 11)]) (some 12) [] (
  .rd 2 none (.mv (.tmp 12)) (some 3) false <|
  .done) .none
noncomputable def F.osierref01_Uint.r2 : Plan :=
  .rd 0 none (.mv (.const (.slice none 0 0))) (some 4) false <|
  .done
noncomputable def F.osierref01_Uint.r3 : Plan :=
  .rd 0 none (.mv (.const (.int .i64 0))) (some 5) false <|
  .done
noncomputable def F.osierref01_Uint.r4 : Plan :=
  .rd 0 none (.mv (.tmp 5)) (some 13) false <|
  .rd 1 none (.mv (.tmp 3)) (some 14) false <|
  .rd 2 none (.bin .lss (.tmp 13) (.tmp 14)) (some 15) false <|
  .done
noncomputable def F.osierref01_Uint.r5 : Plan :=
  .rd 0 none (.mv (.tmp 4)) (some 18) false <|
  .rd 1 none (.mv (.tmp 0)) (some 19) false <|
  .rd 2 none (.bin .rem (.tmp 19) (.const (.int .u64 256))) (some 20) false <|
  .rd 3 none (.convI .u8 (.tmp 20)) (some 21) false <|
  .ef 4 none (.bsl 1 [(.int .u8 0)] [(0, (1, (.tmp 21)))]) (some 22) [] (
  .ef 5 none (.app 1 1 (.tmp 18) (.tmp 22)) (some 23) [] (
  .rd 6 none (.mv (.tmp 23)) (some 4) false <|
  .done) .none) .none
noncomputable def F.osierref01_Uint.r6 : Plan :=
  .rd 0 none (.mv (.tmp 0)) (some 24) false <|
  .rd 1 none (.bin .quo (.tmp 24) (.const (.int .u64 256))) (some 25) false <|
  .rd 2 none (.mv (.tmp 25)) (some 0) false <|
  .done
noncomputable def F.osierref01_Uint.r7 : Plan :=
  .rd 0 none (.mv (.tmp 5)) (some 16) false <|
  .rd 1 none (.bin .add (.tmp 16) (.const (.int .i64 1))) (some 17) false <|
  .rd 2 none (.mv (.tmp 17)) (some 5) false <|
  .done
noncomputable def F.osierref01_Uint.l0 : IC :=
    (.seq (.seq (.reg F.osierref01_Uint.r4)
    (.cond (.tmp 15) .skip (.exit 0)))
    (.seq (.block 1 (.seq (.reg F.osierref01_Uint.r5)
    (.reg F.osierref01_Uint.r6)))
    (.reg F.osierref01_Uint.r7)))
noncomputable def F.osierref01_Uint.r8 : Plan :=
  .rd 0 none (.mv (.tmp 3)) (some 26) false <|
  .rd 1 none (.bin .eql (.tmp 26) (.const (.int .i64 9))) (some 27) false <|
  .done
noncomputable def F.osierref01_Uint.r9 : Plan :=
  .rd 0 none (.mv (.tmp 4)) (some 28) false <|
  .rd 1 none (.idxA 1 (.tmp 28) (.const (.int .i64 8))) (some 29) false <|
  .ef 2 none (.st 1 (.tmp 29) (.const (.int .u8 255))) none [] (
  .done) .none
noncomputable def F.osierref01_Uint.r10 : Plan :=
  .rd 0 none (.mv (.const (.int .i64 0))) (some 6) false <|
  .done
noncomputable def F.osierref01_Uint.r11 : Plan :=
  .rd 0 none (.mv (.const (.int .i64 128))) (some 7) false <|
  .done
noncomputable def F.osierref01_Uint.r12 : Plan :=
  .rd 0 none (.mv (.const (.int .i64 1))) (some 8) false <|
  .done
noncomputable def F.osierref01_Uint.r13 : Plan :=
  .rd 0 none (.mv (.tmp 8)) (some 30) false <|
  .rd 1 none (.mv (.tmp 3)) (some 31) false <|
  .rd 2 none (.bin .lss (.tmp 30) (.tmp 31)) (some 32) false <|
  .done
noncomputable def F.osierref01_Uint.r14 : Plan :=
  .rd 0 none (.mv (.tmp 6)) (some 35) false <|
  .rd 1 none (.mv (.tmp 7)) (some 36) false <|
  .rd 2 none (.bin .add (.tmp 35) (.tmp 36)) (some 37) false <|
  .rd 3 none (.mv (.tmp 37)) (some 6) false <|
  .done
noncomputable def F.osierref01_Uint.r15 : Plan :=
  .rd 0 none (.mv (.tmp 7)) (some 38) false <|
  .rd 1 none (.bin .quo (.tmp 38) (.const (.int .i64 2))) (some 39) false <|
  .rd 2 none (.mv (.tmp 39)) (some 7) false <|
  .done
noncomputable def F.osierref01_Uint.r16 : Plan :=
  .rd 0 none (.mv (.tmp 8)) (some 33) false <|
  .rd 1 none (.bin .add (.tmp 33) (.const (.int .i64 1))) (some 34) false <|
  .rd 2 none (.mv (.tmp 34)) (some 8) false <|
  .done
noncomputable def F.osierref01_Uint.l1 : IC :=
    (.seq (.seq (.reg F.osierref01_Uint.r13)
    (.cond (.tmp 32) .skip (.exit 2)))
    (.seq (.block 3 (.seq (.reg F.osierref01_Uint.r14)
    (.reg F.osierref01_Uint.r15)))
    (.reg F.osierref01_Uint.r16)))
noncomputable def F.osierref01_Uint.r17 : Plan :=
  .rd 0 none (.mv (.tmp 4)) (some 40) false <|
  .rd 1 none (.mv (.tmp 3)) (some 41) false <|
  .rd 2 none (.bin .sub (.tmp 41) (.const (.int .i64 1))) (some 42) false <|
  .rd 3 none (.mv (.tmp 4)) (some 43) false <|
  .rd 4 none (.mv (.tmp 3)) (some 44) false <|
  .rd 5 none (.bin .sub (.tmp 44) (.const (.int .i64 1))) (some 45) false <|
  .rd 6 none (.idxA 1 (.tmp 43) (.tmp 45)) (some 46) false <|
  .rd 7 none (.ld1 (.tmp 46)) (some 47) false <|
  .rd 8 none (.mv (.tmp 6)) (some 48) false <|
  .rd 9 none (.convI .u8 (.tmp 48)) (some 49) false <|
  .rd 10 none (.bin .add (.tmp 47) (.tmp 49)) (some 50) false <|
  .rd 11 none (.idxA 1 (.tmp 40) (.tmp 42)) (some 51) false <|
  .ef 12 none (.st 1 (.tmp 51) (.tmp 50)) none [] (
  .done) .none
noncomputable def F.osierref01_Uint.r18 : Plan :=
  .rd 0 none (.mv (.const (.slice none 0 0))) (some 9) false <|
  .done
noncomputable def F.osierref01_Uint.r19 : Plan :=
  .rd 0 none (.mv (.tmp 3)) (some 52) false <|
  .rd 1 none (.bin .sub (.tmp 52) (.const (.int .i64 1))) (some 53) false <|
  .rd 2 none (.mv (.tmp 53)) (some 10) false <|
  .done
noncomputable def F.osierref01_Uint.r20 : Plan :=
  .rd 0 none (.mv (.tmp 10)) (some 54) false <|
  .rd 1 none (.bin .geq (.tmp 54) (.const (.int .i64 0))) (some 55) false <|
  .done
noncomputable def F.osierref01_Uint.r21 : Plan :=
  .rd 0 none (.mv (.tmp 9)) (some 58) false <|
  .rd 1 none (.mv (.tmp 4)) (some 59) false <|
  .rd 2 none (.mv (.tmp 10)) (some 60) false <|
  .rd 3 none (.idxA 1 (.tmp 59) (.tmp 60)) (some 61) false <|
  .rd 4 none (.ld1 (.tmp 61)) (some 62) false <|
  .ef 5 none (.bsl 1 [(.int .u8 0)] [(0, (1, (.tmp 62)))]) (some 63) [] (
  .ef 6 none (.app 1 1 (.tmp 58) (.tmp 63)) (some 64) [] (
  .rd 7 none (.mv (.tmp 64)) (some 9) false <|
  .done) .none) .none
noncomputable def F.osierref01_Uint.r22 : Plan :=
  .rd 0 none (.mv (.tmp 10)) (some 56) false <|
  .rd 1 none (.bin .sub (.tmp 56) (.const (.int .i64 1))) (some 57) false <|
  .rd 2 none (.mv (.tmp 57)) (some 10) false <|
  .done
noncomputable def F.osierref01_Uint.l2 : IC :=
    (.seq (.seq (.reg F.osierref01_Uint.r20)
    (.cond (.tmp 55) .skip (.exit 4)))
    (.seq (.block 5 (.reg F.osierref01_Uint.r21))
    (.reg F.osierref01_Uint.r22)))
noncomputable def F.osierref01_Uint.r23 : Plan :=
  .rd 0 none (.mv (.tmp 9)) (some 65) false <|
  .rd 1 none (.mv (.tmp 65)) (some 2) false <|
  .done
noncomputable def F.osierref01_Uint.ic : IC :=
    (.seq (.reg F.osierref01_Uint.r0)
    (.seq (.reg F.osierref01_Uint.r1)
    (.seq (.reg F.osierref01_Uint.r2)
    (.seq (.seq (.reg F.osierref01_Uint.r3)
    (.block 0 (.loop F.osierref01_Uint.l0)))
    (.seq (.seq (.reg F.osierref01_Uint.r8)
    (.cond (.tmp 27) (.reg F.osierref01_Uint.r9) (.seq (.reg F.osierref01_Uint.r10)
    (.seq (.reg F.osierref01_Uint.r11)
    (.seq (.seq (.reg F.osierref01_Uint.r12)
    (.block 2 (.loop F.osierref01_Uint.l1)))
    (.reg F.osierref01_Uint.r17))))))
    (.seq (.reg F.osierref01_Uint.r18)
    (.seq (.seq (.reg F.osierref01_Uint.r19)
    (.block 4 (.loop F.osierref01_Uint.l2)))
    (.seq (.reg F.osierref01_Uint.r23)
    .ret))))))))
noncomputable def F.osierref01_Uint.rs : List RO := [(.mv (.tmp 2))]
theorem F.osierref01_Uint.ok : cFunc Go.Proofs.Tryd.prog F.osierref01_Uint = some (66, F.osierref01_Uint.ic, F.osierref01_Uint.rs) := by kernel_rfl
theorem F.osierref01_Uint.cl : callable Go.Proofs.Tryd.prog F.osierref01_Uint = true := by kernel_rfl
noncomputable def F.osierref01_R_Uint.r0 : Plan :=
  .rd 0 none (.mv (.const (.int .u64 0))) (some 2) false <|
  .done
noncomputable def F.osierref01_R_Uint.r1 : Plan :=
  .rd 0 none (.mv (.tmp 0)) (some 8) false <|
  .rd 1 none (.nilC (.tmp 8)) (some 9) false <|
  .rd 2 none (.fldA 1 (.tmp 9)) (some 10) false <|
  .rd 3 none (.ld1 (.tmp 10)) (some 11) false <|
  .rd 4 none (.bin .neq (.tmp 11) (.const (.int .i64 0))) (some 12) false <|
  .done
noncomputable def F.osierref01_R_Uint.r2 : Plan :=
  .rd 0 none (.mv (.const (.int .u64 0))) (some 2) false <|
  .done
noncomputable def F.osierref01_R_Uint.r3 : Plan :=
  .rd 0 none (.mv (.tmp 0)) (some 13) false <|
  .rd 1 none (.nilC (.tmp 13)) (some 14) false <|
  .rd 2 none (.fldA 0 (.tmp 14)) (some 15) false <|
  .rd 3 none (.ld1 (.tmp 15)) (some 16) false <|
  .rd 4 none (.len .sl (.tmp 16)) (some 17) false <|
  .rd 5 none (.bin .eql (.tmp 17) (.const (.int .i64 0))) (some 18) false <|
  .done
noncomputable def F.osierref01_R_Uint.r4 : Plan :=
  .rd 0 none (.mv (.tmp 0)) (some 19) false <|
  .ef 1 none (.call F.osierref01_R_Fail [(.tmp 19), (.const (.int .i64 10))]) (some 20) [] (
  .done) .none
noncomputable def F.osierref01_R_Uint.r5 : Plan :=
  .rd 0 none (.mv (.const (.int .u64 0))) (some 2) false <|
  .done
noncomputable def F.osierref01_R_Uint.r6 : Plan :=
  .rd 0 none (.mv (.const (.int .i64 1))) (some 3) false <|
  .done
noncomputable def F.osierref01_R_Uint.r7 : Plan :=
  .rd 0 none (.mv (.tmp 0)) (some 21) false <|
  .rd 1 none (.nilC (.tmp 21)) (some 22) false <|
  .rd 2 none (.fldA 0 (.tmp 22)) (some 23) false <|
  .rd 3 none (.ld1 (.tmp 23)) (some 24) false <|
  .rd 4 none (.idxA 1 (.tmp 24) (.const (.int .i64 0))) (some 25) false <|
  .rd 5 none (.ld1 (.tmp 25)) (some 26) false <|
  .rd 6 none (.convI .i64 (.tmp 26)) (some 27) false <|
  .rd 7 none (.mv (.tmp 27)) (some 4) false <|
  .done
noncomputable def F.osierref01_R_Uint.r8 : Plan :=
  .rd 0 none (.mv (.const (.int .i64 128))) (some 5) false <|
  .done
noncomputable def F.osierref01_R_Uint.r9 : Plan :=
  .rd 0 none (.mv (.tmp 5)) (some 28) false <|
  .rd 1 none (.bin .gtr (.tmp 28) (.const (.int .i64 0))) (some 29) false <|
  .rd 2 none (.mv (.tmp 29)) (some 30) false <|
  .rd 3 (some (30, true)) (.mv (.tmp 4)) (some 31) false <|
  .rd 4 (some (30, true)) (.mv (.tmp 5)) (some 32) false <|
  .rd 5 (some (30, true)) (.bin .geq (.tmp 31) (.tmp 32)) (some 33) false <|
  .rd 6 none (.pick (.tmp 30) (.tmp 33) (.const (.bool false))) (some 34) false <|
  .done
noncomputable def F.osierref01_R_Uint.r10 : Plan :=
  .rd 0 none (.mv (.tmp 4)) (some 35) false <|
  .rd 1 none (.mv (.tmp 5)) (some 36) false <|
  .rd 2 none (.bin .sub (.tmp 35) (.tmp 36)) (some 37) false <|
  .rd 3 none (.mv (.tmp 37)) (some 4) false <|
  .done
noncomputable def F.osierref01_R_Uint.r11 : Plan :=
  .rd 0 none (.mv (.tmp 5)) (some 38) false <|
  .rd 1 none (.bin .quo (.tmp 38) (.const (.int .i64 2))) (some 39) false <|
  .rd 2 none (.mv (.tmp 39)) (some 5) false <|
  .done
noncomputable def F.osierref01_R_Uint.r12 : Plan :=
  .rd 0 none (.mv (.tmp 3)) (some 40) false <|
  .rd 1 none (.bin .add (.tmp 40) (.const (.int .i64 1))) (some 41) false <|
  .rd 2 none (.mv (.tmp 41)) (some 3) false <|
  .done
noncomputable def F.osierref01_R_Uint.l0 : IC :=
    (.seq (.seq (.reg F.osierref01_R_Uint.r9)
    (.cond (.tmp 34) .skip (.exit 0)))
    (.block 1 (.seq (.reg F.osierref01_R_Uint.r10)
    (.seq (.reg F.osierref01_R_Uint.r11)
    (.reg F.osierref01_R_Uint.r12)))))
noncomputable def F.osierref01_R_Uint.r13 : Plan :=
  .rd 0 none (.mv (.tmp 0)) (some 42) false <|
  .rd 1 none (.nilC (.tmp 42)) (some 43) false <|
  .rd 2 none (.fldA 0 (.tmp 43)) (some 44) false <|
  .rd 3 none (.ld1 (.tmp 44)) (some 45) false <|
  .rd 4 none (.len .sl (.tmp 45)) (some 46) false <|
  .rd 5 none (.mv (.tmp 3)) (some 47) false <|
  .rd 6 none (.bin .lss (.tmp 46) (.tmp 47)) (some 48) false <|
  .done
noncomputable def F.osierref01_R_Uint.r14 : Plan :=
  .rd 0 none (.mv (.tmp 0)) (some 49) false <|
  .ef 1 none (.call F.osierref01_R_Fail [(.tmp 49), (.const (.int .i64 10))]) (some 50) [] (
  .done) .none
noncomputable def F.osierref01_R_Uint.r15 : Plan :=
  .rd 0 none (.mv (.const (.int .u64 0))) (some 2) false <|
  .done
noncomputable def F.osierref01_R_Uint.r16 : Plan :=
  .rd 0 none (.mv (.tmp 4)) (some 51) false <|
  .rd 1 none (.convI .u64 (.tmp 51)) (some 52) false <|
  .rd 2 none (.mv (.tmp 52)) (some 6) false <|
  .done
noncomputable def F.osierref01_R_Uint.r17 : Plan :=
  .rd 0 none (.mv (.const (.int .i64 1))) (some 7) false <|
  .done
noncomputable def F.osierref01_R_Uint.r18 : Plan :=
  .rd 0 none (.mv (.tmp 7)) (some 53) false <|
  .rd 1 none (.mv (.tmp 3)) (some 54) false <|
  .rd 2 none (.bin .lss (.tmp 53) (.tmp 54)) (some 55) false <|
  .done
noncomputable def F.osierref01_R_Uint.r19 : Plan :=
  .rd 0 none (.mv (.tmp 6)) (some 58) false <|
  .rd 1 none (.bin .mul (.tmp 58) (.const (.int .u64 256))) (some 59) false <|
  .rd 2 none (.mv (.tmp 0)) (some 60) false <|
  .rd 3 none (.nilC (.tmp 60)) (some 61) false <|
  .rd 4 none (.fldA 0 (.tmp 61)) (some 62) false <|
  .rd 5 none (.ld1 (.tmp 62)) (some 63) false <|
  .rd 6 none (.mv (.tmp 7)) (some 64) false <|
  .rd 7 none (.idxA 1 (.tmp 63) (.tmp 64)) (some 65) false <|
  .rd 8 none (.ld1 (.tmp 65)) (some 66) false <|
  .rd 9 none (.convI .u64 (.tmp 66)) (some 67) false <|
  .rd 10 none (.bin .add (.tmp 59) (.tmp 67)) (some 68) false <|
  .rd 11 none (.mv (.tmp 68)) (some 6) false <|
  .done
noncomputable def F.osierref01_R_Uint.r20 : Plan :=
  .rd 0 none (.mv (.tmp 7)) (some 56) false <|
  .rd 1 none (.bin .add (.tmp 56) (.const (.int .i64 1))) (some 57) false <|
  .rd 2 none (.mv (.tmp 57)) (some 7) false <|
  .done
noncomputable def F.osierref01_R_Uint.l1 : IC :=
    (.seq (.seq (.reg F.osierref01_R_Uint.r18)
    (.cond (.tmp 55) .skip (.exit 2)))
    (.seq (.block 3 (.reg F.osierref01_R_Uint.r19))
    (.reg F.osierref01_R_Uint.r20)))
noncomputable def F.osierref01_R_Uint.r21 : Plan :=
  .rd 0 none (.mv (.tmp 6)) (some 69) false <|
  .ef 1 none (.call F.osierref01_Size [(.tmp 69)]) (some 70) [] (
  .rd 2 none (.mv (.tmp 3)) (some 71) false <|
  .rd 3 none (.bin .neq (.tmp 70) (.tmp 71)) (some 72) false <|
  .done) .none
noncomputable def F.osierref01_R_Uint.r22 : Plan :=
  .rd 0 none (.mv (.tmp 0)) (some 73) false <|
  .ef 1 none (.call F.osierref01_R_Fail [(.tmp 73), (.const (.int .i64 11))]) (some 74) [] (
  .done) .none
noncomputable def F.osierref01_R_Uint.r23 : Plan :=
  .rd 0 none (.mv (.const (.int .u64 0))) (some 2) false <|
  .done
noncomputable def F.osierref01_R_Uint.r24 : Plan :=
  .rd 0 none (.mv (.tmp 0)) (some 75) false <|
  .rd 1 none (.mv (.tmp 0)) (some 76) false <|
  .rd 2 none (.nilC (.tmp 76)) (some 77) false <|
  .rd 3 none (.fldA 0 (.tmp 77)) (some 78) false <|
  .rd 4 none (.ld1 (.tmp 78)) (some 79) false <|
  .rd 5 none (.mv (.tmp 3)) (some 80) false <|
  .rd 6 none (.sl 1 (.tmp 79) (some (.tmp 80)) none none) (some 81) false <|
  .rd 7 none (.nilC (.tmp 75)) (some 82) false <|
  .rd 8 none (.fldA 0 (.tmp 82)) (some 83) false <|
  .ef 9 none (.st 1 (.tmp 83) (.tmp 81)) none [] (
  .done) .none
noncomputable def F.osierref01_R_Uint.r25 : Plan :=
  .rd 0 none (.mv (.tmp 6)) (some 84) false <|
  .rd 1 none (.mv (.tmp 84)) (some 2) false <|
  .done
noncomputable def F.osierref01_R_Uint.ic : IC :=
    (.seq (.reg F.osierref01_R_Uint.r0)
    (.seq (.seq (.reg F.osierref01_R_Uint.r1)
    (.cond (.tmp 12) (.seq (.reg F.osierref01_R_Uint.r2)
    .ret) .skip))
    (.seq (.seq (.reg F.osierref01_R_Uint.r3)
    (.cond (.tmp 18) (.seq (.reg F.osierref01_R_Uint.r4)
    (.seq (.reg F.osierref01_R_Uint.r5)
    .ret)) .skip))
    (.seq (.reg F.osierref01_R_Uint.r6)
    (.seq (.reg F.osierref01_R_Uint.r7)
    (.seq (.reg F.osierref01_R_Uint.r8)
    (.seq (.block 0 (.loop F.osierref01_R_Uint.l0))
    (.seq (.seq (.reg F.osierref01_R_Uint.r13)
    (.cond (.tmp 48) (.seq (.reg F.osierref01_R_Uint.r14)
    (.seq (.reg F.osierref01_R_Uint.r15)
    .ret)) .skip))
    (.seq (.reg F.osierref01_R_Uint.r16)
    (.seq (.seq (.reg F.osierref01_R_Uint.r17)
    (.block 2 (.loop F.osierref01_R_Uint.l1)))
    (.seq (.seq (.reg F.osierref01_R_Uint.r21)
    (.cond (.tmp 72) (.seq (.reg F.osierref01_R_Uint.r22)
    (.seq (.reg F.osierref01_R_Uint.r23)
    .ret)) .skip))
    (.seq (.reg F.osierref01_R_Uint.r24)
    (.seq (.reg F.osierref01_R_Uint.r25)
    .ret)))))))))))))
noncomputable def F.osierref01_R_Uint.rs : List RO := [(.mv (.tmp 2))]
theorem F.osierref01_R_Uint.ok : cFunc Go.Proofs.Tryd.prog F.osierref01_R_Uint = some (85, F.osierref01_R_Uint.ic, F.osierref01_R_Uint.rs) := by kernel_rfl
theorem F.osierref01_R_Uint.cl : callable Go.Proofs.Tryd.prog F.osierref01_R_Uint = true := by kernel_rfl
noncomputable def F.osierref01_R_Count.r0 : Plan :=
  .rd 0 none (.mv (.const (.int .i64 0))) (some 4) false <|
  .done
noncomputable def F.osierref01_R_Count.r1 : Plan :=
  .rd 0 none (.mv (.tmp 0)) (some 6) false <|
  .ef 1 none (.call F.osierref01_R_Uint [(.tmp 6)]) (some 7) [] (
  .rd 2 none (.mv (.tmp 7)) (some 5) false <|
  .done) .none
noncomputable def F.osierref01_R_Count.r2 : Plan :=
  .rd 0 none (.mv (.tmp 1)) (some 8) false <|
  .rd 1 none (.bin .lss (.tmp 8) (.const (.int .i64 1))) (some 9) false <|
  .done
noncomputable def F.osierref01_R_Count.r3 : Plan :=
  .rd 0 none (.mv (.const (.int .i64 1))) (some 1) false <|
  .done
noncomputable def F.osierref01_R_Count.r4 : Plan :=
  .rd 0 none (.mv (.tmp 5)) (some 10) false <|
  .rd 1 none (.mv (.tmp 0)) (some 11) false <|
  .rd 2 none (.nilC (.tmp 11)) (some 12) false <|
  .rd 3 none (.fldA 0 (.tmp 12)) (some 13) false <|
  .rd 4 none (.ld1 (.tmp 13)) (some 14) false <|
  .rd 5 none (.len .sl (.tmp 14)) (some 15) false <|
  .rd 6 none (.mv (.tmp 1)) (some 16) false <|
  .rd 7 none (.bin .quo (.tmp 15) (.tmp 16)) (some 17) false <|
  .rd 8 none (.convI .u64 (.tmp 17)) (some 18) false <|
  .rd 9 none (.bin .gtr (.tmp 10) (.tmp 18)) (some 19) false <|
  .done
noncomputable def F.osierref01_R_Count.r5 : Plan :=
  .rd 0 none (.mv (.tmp 0)) (some 20) false <|
  .ef 1 none (.call F.osierref01_R_Fail [(.tmp 20), (.const (.int .i64 10))]) (some 21) [] (
  .done) .none
noncomputable def F.osierref01_R_Count.r6 : Plan :=
  .rd 0 none (.mv (.const (.int .i64 0))) (some 4) false <|
  .done
noncomputable def F.osierref01_R_Count.r7 : Plan :=
  .rd 0 none (.mv (.tmp 5)) (some 22) false <|
  .rd 1 none (.convI .i64 (.tmp 22)) (some 23) false <|
  .rd 2 none (.mv (.tmp 23)) (some 4) false <|
  .done
noncomputable def F.osierref01_R_Count.ic : IC :=
    (.seq (.reg F.osierref01_R_Count.r0)
    (.seq (.reg F.osierref01_R_Count.r1)
    (.seq (.seq (.reg F.osierref01_R_Count.r2)
    (.cond (.tmp 9) (.reg F.osierref01_R_Count.r3) .skip))
    (.seq (.seq (.reg F.osierref01_R_Count.r4)
    (.cond (.tmp 19) (.seq (.reg F.osierref01_R_Count.r5)
    (.seq (.reg F.osierref01_R_Count.r6)
    .ret)) .skip))
    (.seq (.reg F.osierref01_R_Count.r7)
    .ret)))))
noncomputable def F.osierref01_R_Count.rs : List RO := [(.mv (.tmp 4))]
theorem F.osierref01_R_Count.ok : cFunc Go.Proofs.Tryd.prog F.osierref01_R_Count = some (24, F.osierref01_R_Count.ic, F.osierref01_R_Count.rs) := by kernel_rfl
theorem F.osierref01_R_Count.cl : callable Go.Proofs.Tryd.prog F.osierref01_R_Count = true := by kernel_rfl
noncomputable def F.osierref01_Size.r0 : Plan :=
  .rd 0 none (.mv (.const (.int .i64 0))) (some 2) false <|
  .done
noncomputable def F.osierref01_Size.r1 : Plan :=
  .rd 0 none (.mv (.tmp 0)) (some 5) false <|
  .rd 1 none (.bin .lss (.tmp 5) (.const (.int .u64 128))) (some 6) false <|
  .done
noncomputable def F.osierref01_Size.r2 : Plan :=
  .rd 0 none (.mv (.const (.int .i64 1))) (some 2) false <|
  .done
noncomputable def F.osierref01_Size.r3 : Plan :=
  .rd 0 none (.mv (.const (.int .u64 128))) (some 3) false <|
  .done
noncomputable def F.osierref01_Size.r4 : Plan :=
  .rd 0 none (.mv (.const (.int .i64 2))) (some 4) false <|
  .done
noncomputable def F.osierref01_Size.r5 : Plan :=
  .rd 0 none (.mv (.tmp 4)) (some 7) false <|
  .rd 1 none (.bin .leq (.tmp 7) (.const (.int .i64 8))) (some 8) false <|
  .done
noncomputable def F.osierref01_Size.r6 : Plan :=
  .rd 0 none (.mv (.tmp 3)) (some 11) false <|
  .rd 1 none (.bin .mul (.tmp 11) (.const (.int .u64 128))) (some 12) false <|
  .rd 2 none (.mv (.tmp 12)) (some 3) false <|
  .done
noncomputable def F.osierref01_Size.r7 : Plan :=
  .rd 0 none (.mv (.tmp 0)) (some 13) false <|
  .rd 1 none (.mv (.tmp 3)) (some 14) false <|
  .rd 2 none (.bin .lss (.tmp 13) (.tmp 14)) (some 15) false <|
  .done
noncomputable def F.osierref01_Size.r8 : Plan :=
  .rd 0 none (.mv (.tmp 4)) (some 16) false <|
  .rd 1 none (.mv (.tmp 16)) (some 2) false <|
  .done
noncomputable def F.osierref01_Size.r9 : Plan :=
  .rd 0 none (.mv (.tmp 4)) (some 9) false <|
  .rd 1 none (.bin .add (.tmp 9) (.const (.int .i64 1))) (some 10) false <|
  .rd 2 none (.mv (.tmp 10)) (some 4) false <|
  .done
noncomputable def F.osierref01_Size.l0 : IC :=
    (.seq (.seq (.reg F.osierref01_Size.r5)
    (.cond (.tmp 8) .skip (.exit 0)))
    (.seq (.block 1 (.seq (.reg F.osierref01_Size.r6)
    (.seq (.reg F.osierref01_Size.r7)
    (.cond (.tmp 15) (.seq (.reg F.osierref01_Size.r8)
    .ret) .skip))))
    (.reg F.osierref01_Size.r9)))
noncomputable def F.osierref01_Size.r10 : Plan :=
  .rd 0 none (.mv (.const (.int .i64 9))) (some 2) false <|
  .done
noncomputable def F.osierref01_Size.ic : IC :=
    (.seq (.reg F.osierref01_Size.r0)
    (.seq (.seq (.reg F.osierref01_Size.r1)
    (.cond (.tmp 6) (.seq (.reg F.osierref01_Size.r2)
    .ret) .skip))
    (.seq (.reg F.osierref01_Size.r3)
    (.seq (.seq (.reg F.osierref01_Size.r4)
    (.block 0 (.loop F.osierref01_Size.l0)))
    (.seq (.reg F.osierref01_Size.r10)
    .ret)))))
noncomputable def F.osierref01_Size.rs : List RO := [(.mv (.tmp 2))]
theorem F.osierref01_Size.ok : cFunc Go.Proofs.Tryd.prog F.osierref01_Size = some (17, F.osierref01_Size.ic, F.osierref01_Size.rs) := by kernel_rfl
theorem F.osierref01_Size.cl : callable Go.Proofs.Tryd.prog F.osierref01_Size = true := by kernel_rfl
attribute [go_sem] F.osierlaw07_OpsBytes.r0 F.osierlaw07_OpsBytes.r1 F.osierlaw07_OpsBytes.r2 F.osierlaw07_OpsBytes.r3 F.osierlaw07_OpsBytes.r4 F.osierlaw07_OpsBytes.r5 F.osierlaw07_OpsBytes.r6 F.osierlaw07_OpsBytes.r7 F.osierlaw07_OpsBytes.r8 F.osierlaw07_OpsBytes.r9 F.osierlaw07_OpsBytes.r10 F.osierlaw07_OpsBytes.r11 F.osierlaw07_OpsBytes.r12 F.osierlaw07_OpsBytes.ic F.osierlaw07_OpsBytes.rs
attribute [go_sem] F.osierlaw07_OpsLean.r0 F.osierlaw07_OpsLean.r1 F.osierlaw07_OpsLean.r2 F.osierlaw07_OpsLean.r3 F.osierlaw07_OpsLean.r4 F.osierlaw07_OpsLean.r5 F.osierlaw07_OpsLean.r6 F.osierlaw07_OpsLean.r7 F.osierlaw07_OpsLean.r8 F.osierlaw07_OpsLean.r9 F.osierlaw07_OpsLean.r10 F.osierlaw07_OpsLean.r11 F.osierlaw07_OpsLean.r12 F.osierlaw07_OpsLean.r13 F.osierlaw07_OpsLean.r14 F.osierlaw07_OpsLean.ic F.osierlaw07_OpsLean.rs
attribute [go_sem] F.osierlaw07_OpsOne.r0 F.osierlaw07_OpsOne.r1 F.osierlaw07_OpsOne.r2 F.osierlaw07_OpsOne.r3 F.osierlaw07_OpsOne.r4 F.osierlaw07_OpsOne.r5 F.osierlaw07_OpsOne.r6 F.osierlaw07_OpsOne.r7 F.osierlaw07_OpsOne.r8 F.osierlaw07_OpsOne.r9 F.osierlaw07_OpsOne.r10 F.osierlaw07_OpsOne.ic F.osierlaw07_OpsOne.rs
attribute [go_sem] F.osierlaw07_OpsTake.r0 F.osierlaw07_OpsTake.r1 F.osierlaw07_OpsTake.r2 F.osierlaw07_OpsTake.r3 F.osierlaw07_OpsTake.r4 F.osierlaw07_OpsTake.r5 F.osierlaw07_OpsTake.r6 F.osierlaw07_OpsTake.r7 F.osierlaw07_OpsTake.r8 F.osierlaw07_OpsTake.r9 F.osierlaw07_OpsTake.r10 F.osierlaw07_OpsTake.r11 F.osierlaw07_OpsTake.r12 F.osierlaw07_OpsTake.r13 F.osierlaw07_OpsTake.ic F.osierlaw07_OpsTake.rs
attribute [go_sem] F.osierref01_Int.r0 F.osierref01_Int.r1 F.osierref01_Int.r2 F.osierref01_Int.r3 F.osierref01_Int.ic F.osierref01_Int.rs
attribute [go_sem] F.osierref01_R_Count.r0 F.osierref01_R_Count.r1 F.osierref01_R_Count.r2 F.osierref01_R_Count.r3 F.osierref01_R_Count.r4 F.osierref01_R_Count.r5 F.osierref01_R_Count.r6 F.osierref01_R_Count.r7 F.osierref01_R_Count.ic F.osierref01_R_Count.rs
attribute [go_sem] F.osierref01_R_Fail.r0 F.osierref01_R_Fail.r1 F.osierref01_R_Fail.r2 F.osierref01_R_Fail.ic F.osierref01_R_Fail.rs
attribute [go_sem] F.osierref01_R_Int.r0 F.osierref01_R_Int.r1 F.osierref01_R_Int.r2 F.osierref01_R_Int.r3 F.osierref01_R_Int.r4 F.osierref01_R_Int.ic F.osierref01_R_Int.rs
attribute [go_sem] F.osierref01_R_Text.r0 F.osierref01_R_Text.r1 F.osierref01_R_Text.r2 F.osierref01_R_Text.r3 F.osierref01_R_Text.r4 F.osierref01_R_Text.r5 F.osierref01_R_Text.r6 F.osierref01_R_Text.r7 F.osierref01_R_Text.r8 F.osierref01_R_Text.ic F.osierref01_R_Text.rs
attribute [go_sem] F.osierref01_R_Uint.r0 F.osierref01_R_Uint.r1 F.osierref01_R_Uint.r2 F.osierref01_R_Uint.r3 F.osierref01_R_Uint.r4 F.osierref01_R_Uint.r5 F.osierref01_R_Uint.r6 F.osierref01_R_Uint.r7 F.osierref01_R_Uint.r8 F.osierref01_R_Uint.r9 F.osierref01_R_Uint.r10 F.osierref01_R_Uint.r11 F.osierref01_R_Uint.r12 F.osierref01_R_Uint.r13 F.osierref01_R_Uint.r14 F.osierref01_R_Uint.r15 F.osierref01_R_Uint.r16 F.osierref01_R_Uint.r17 F.osierref01_R_Uint.r18 F.osierref01_R_Uint.r19 F.osierref01_R_Uint.r20 F.osierref01_R_Uint.r21 F.osierref01_R_Uint.r22 F.osierref01_R_Uint.r23 F.osierref01_R_Uint.r24 F.osierref01_R_Uint.r25 F.osierref01_R_Uint.ic F.osierref01_R_Uint.rs
attribute [go_sem] F.osierref01_Size.r0 F.osierref01_Size.r1 F.osierref01_Size.r2 F.osierref01_Size.r3 F.osierref01_Size.r4 F.osierref01_Size.r5 F.osierref01_Size.r6 F.osierref01_Size.r7 F.osierref01_Size.r8 F.osierref01_Size.r9 F.osierref01_Size.r10 F.osierref01_Size.ic F.osierref01_Size.rs
attribute [go_sem] F.osierref01_Text.r0 F.osierref01_Text.r1 F.osierref01_Text.ic F.osierref01_Text.rs
attribute [go_sem] F.osierref01_Uint.r0 F.osierref01_Uint.r1 F.osierref01_Uint.r2 F.osierref01_Uint.r3 F.osierref01_Uint.r4 F.osierref01_Uint.r5 F.osierref01_Uint.r6 F.osierref01_Uint.r7 F.osierref01_Uint.r8 F.osierref01_Uint.r9 F.osierref01_Uint.r10 F.osierref01_Uint.r11 F.osierref01_Uint.r12 F.osierref01_Uint.r13 F.osierref01_Uint.r14 F.osierref01_Uint.r15 F.osierref01_Uint.r16 F.osierref01_Uint.r17 F.osierref01_Uint.r18 F.osierref01_Uint.r19 F.osierref01_Uint.r20 F.osierref01_Uint.r21 F.osierref01_Uint.r22 F.osierref01_Uint.r23 F.osierref01_Uint.ic F.osierref01_Uint.rs
attribute [go_sem] F.osierref03_Put.r0 F.osierref03_Put.r1 F.osierref03_Put.ic F.osierref03_Put.rs
attribute [go_sem] F.osierref03_Take.r0 F.osierref03_Take.r1 F.osierref03_Take.r2 F.osierref03_Take.r3 F.osierref03_Take.r4 F.osierref03_Take.r5 F.osierref03_Take.ic F.osierref03_Take.rs
attribute [go_sem] F.osierref04_Put.r0 F.osierref04_Put.r1 F.osierref04_Put.r2 F.osierref04_Put.r3 F.osierref04_Put.r4 F.osierref04_Put.r5 F.osierref04_Put.r6 F.osierref04_Put.ic F.osierref04_Put.rs
attribute [go_sem] F.osierref04_Same.r0 F.osierref04_Same.r1 F.osierref04_Same.r2 F.osierref04_Same.r3 F.osierref04_Same.r4 F.osierref04_Same.r5 F.osierref04_Same.r6 F.osierref04_Same.r7 F.osierref04_Same.r8 F.osierref04_Same.ic F.osierref04_Same.rs
attribute [go_sem] F.osierref04_Take.r0 F.osierref04_Take.r1 F.osierref04_Take.r2 F.osierref04_Take.r3 F.osierref04_Take.r4 F.osierref04_Take.r5 F.osierref04_Take.r6 F.osierref04_Take.r7 F.osierref04_Take.r8 F.osierref04_Take.r9 F.osierref04_Take.r10 F.osierref04_Take.r11 F.osierref04_Take.ic F.osierref04_Take.rs
attribute [go_sem] F.osierref07_Put.r0 F.osierref07_Put.r1 F.osierref07_Put.r2 F.osierref07_Put.r3 F.osierref07_Put.r4 F.osierref07_Put.r5 F.osierref07_Put.r6 F.osierref07_Put.r7 F.osierref07_Put.r8 F.osierref07_Put.r9 F.osierref07_Put.r10 F.osierref07_Put.r11 F.osierref07_Put.r12 F.osierref07_Put.r13 F.osierref07_Put.r14 F.osierref07_Put.r15 F.osierref07_Put.r16 F.osierref07_Put.ic F.osierref07_Put.rs
attribute [go_sem] F.osierref07_Same.r0 F.osierref07_Same.r1 F.osierref07_Same.r2 F.osierref07_Same.ic F.osierref07_Same.rs
attribute [go_sem] F.osierref07_Take.r0 F.osierref07_Take.r1 F.osierref07_Take.r2 F.osierref07_Take.r3 F.osierref07_Take.r4 F.osierref07_Take.r5 F.osierref07_Take.r6 F.osierref07_Take.r7 F.osierref07_Take.r8 F.osierref07_Take.r9 F.osierref07_Take.r10 F.osierref07_Take.r11 F.osierref07_Take.r12 F.osierref07_Take.r13 F.osierref07_Take.r14 F.osierref07_Take.r15 F.osierref07_Take.r16 F.osierref07_Take.r17 F.osierref07_Take.r18 F.osierref07_Take.r19 F.osierref07_Take.r20 F.osierref07_Take.r21 F.osierref07_Take.r22 F.osierref07_Take.ic F.osierref07_Take.rs
end Go.Osj
