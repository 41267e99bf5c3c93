/- The compiled code of functions (printed by a program, checked by the kernel). -/
import Derived.Test.YtnofakkcipcphaaC0
import Derived.Test.YtnofakkcipcphaaOsjN
set_option maxRecDepth 100000
namespace Go.Osj
noncomputable def F.osierlaw03_DotsOrder.r0 : Plan :=
  .ef 0 none (.box (.tmp 0)) (some 3) [] (
  .ef 1 none (.box (.tmp 1)) (some 4) [] (
  .ef 2 none (.box (.tmp 2)) (some 5) [] (
  .rd 3 none (.mv (.const (.bool false))) (some 6) false <|
  .done) .none) .none) .none
noncomputable def F.osierlaw03_DotsOrder.r1 : Plan :=
  .ef 0 none (.call F.osierlaw03_awake []) (some 13) [] (
  .rd 1 none (.mv (.tmp 13)) (some 7) false <|
  .done) .none
noncomputable def F.osierlaw03_DotsOrder.r2 : Plan :=
  .rd 0 none (.mv (.tmp 7)) (some 14) false <|
  .rd 1 none (.un .not (.tmp 14)) (some 15) false <|
  .done
noncomputable def F.osierlaw03_DotsOrder.r3 : Plan :=
  .rd 0 none (.mv (.const (.bool false))) (some 6) false <|
  .done
noncomputable def F.osierlaw03_DotsOrder.r4 : Plan :=
  .rd 0 none (.ldn 2 (.tmp 3)) (some 16) false <|
  .rd 1 none (.ldn 2 (.tmp 4)) (some 17) false <|
  .ef 2 none (.call F.dots_Less [(.tmp 16), (.tmp 17)]) (some 18) [] (
  .rd 3 none (.mv (.tmp 18)) (some 8) false <|
  .done) .none
noncomputable def F.osierlaw03_DotsOrder.r5 : Plan :=
  .rd 0 none (.ldn 2 (.tmp 4)) (some 19) false <|
  .rd 1 none (.ldn 2 (.tmp 5)) (some 20) false <|
  .ef 2 none (.call F.dots_Less [(.tmp 19), (.tmp 20)]) (some 21) [] (
  .rd 3 none (.mv (.tmp 21)) (some 9) false <|
  .done) .none
noncomputable def F.osierlaw03_DotsOrder.r6 : Plan :=
  .rd 0 none (.ldn 2 (.tmp 3)) (some 22) false <|
  .rd 1 none (.ldn 2 (.tmp 5)) (some 23) false <|
  .ef 2 none (.call F.dots_Less [(.tmp 22), (.tmp 23)]) (some 24) [] (
  .rd 3 none (.mv (.tmp 24)) (some 10) false <|
  .done) .none
noncomputable def F.osierlaw03_DotsOrder.r7 : Plan :=
  .rd 0 none (.ldn 2 (.tmp 3)) (some 25) false <|
  .rd 2 none (.ldn 2 (.tmp 3)) (some 27) true <|
  .ef 1 none (.call F.dots_May [(.tmp 25)]) (some 26) [2] (
  .ef 3 none (.call F.osierref03_May [(.tmp 27)]) (some 28) [] (
  .rd 4 none (.eqS [.b] false false (.tmp 26) (.tmp 28)) (some 29) false <|
  .rd 5 none (.mv (.tmp 29)) (some 30) false <|
  .rd 6 (some (30, true)) (.mv (.tmp 8)) (some 31) false <|
  .rd 7 (some (30, true)) (.ldn 2 (.tmp 3)) (some 32) false <|
  .rd 8 (some (30, true)) (.ldn 2 (.tmp 4)) (some 33) false <|
  .ef 9 (some (30, true)) (.call F.osierref03_Less [(.tmp 32), (.tmp 33)]) (some 34) [6] (
  .rd 10 (some (30, true)) (.eqS [.b] false false (.tmp 31) (.tmp 34)) (some 35) false <|
  .rd 11 none (.pick (.tmp 30) (.tmp 35) (.const (.bool false))) (some 36) false <|
  .rd 12 none (.mv (.tmp 36)) (some 11) false <|
  .done) .none) .none) .none
noncomputable def F.osierlaw03_DotsOrder.r8 : Plan :=
  .rd 0 none (.mv (.tmp 8)) (some 37) false <|
  .rd 1 none (.mv (.tmp 37)) (some 38) false <|
  .rd 2 (some (38, false)) (.ldn 2 (.tmp 4)) (some 39) false <|
  .rd 3 (some (38, false)) (.ldn 2 (.tmp 3)) (some 40) false <|
  .rd 6 none (.ldn 2 (.tmp 3)) (some 43) true <|
  .rd 7 none (.ldn 2 (.tmp 4)) (some 44) true <|
  .rd 8 none (.eqS [(.i .i64), (.i .i64)] true true (.tmp 43) (.tmp 44)) (some 45) false <|
  .ef 4 (some (38, false)) (.call F.dots_Less [(.tmp 39), (.tmp 40)]) (some 41) [6, 7, 8] (
  .rd 5 none (.pick (.tmp 38) (.const (.bool true)) (.tmp 41)) (some 42) false <|
  .rd 9 none (.eqS [.b] false false (.tmp 42) (.tmp 45)) (some 46) false <|
  .rd 10 none (.mv (.tmp 46)) (some 47) false <|
  .rd 11 (some (47, true)) (.mv (.tmp 8)) (some 48) false <|
  .rd 12 (some (47, true)) (.mv (.tmp 48)) (some 49) false <|
  .rd 13 (some (49, true)) (.ldn 2 (.tmp 4)) (some 50) false <|
  .rd 14 (some (49, true)) (.ldn 2 (.tmp 3)) (some 51) false <|
  .ef 15 (some (49, true)) (.call F.dots_Less [(.tmp 50), (.tmp 51)]) (some 52) [] (
  .rd 16 (some (47, true)) (.pick (.tmp 49) (.tmp 52) (.const (.bool false))) (some 53) false <|
  .rd 17 (some (47, true)) (.un .not (.tmp 53)) (some 54) false <|
  .rd 18 none (.pick (.tmp 47) (.tmp 54) (.const (.bool false))) (some 55) false <|
  .rd 19 none (.mv (.tmp 55)) (some 12) false <|
  .done) .none) .none
noncomputable def F.osierlaw03_DotsOrder.r9 : Plan :=
  .rd 0 none (.mv (.tmp 11)) (some 56) false <|
  .rd 1 none (.mv (.tmp 56)) (some 57) false <|
  .rd 2 (some (57, true)) (.mv (.tmp 12)) (some 58) false <|
  .rd 3 none (.pick (.tmp 57) (.tmp 58) (.const (.bool false))) (some 59) false <|
  .rd 4 none (.mv (.tmp 59)) (some 60) false <|
  .rd 5 (some (60, true)) (.mv (.tmp 8)) (some 61) false <|
  .rd 6 (some (60, true)) (.un .not (.tmp 61)) (some 62) false <|
  .rd 7 (some (60, true)) (.mv (.tmp 62)) (some 63) false <|
  .rd 8 (some (63, false)) (.mv (.tmp 9)) (some 64) false <|
  .rd 9 (some (63, false)) (.un .not (.tmp 64)) (some 65) false <|
  .rd 10 (some (60, true)) (.pick (.tmp 63) (.const (.bool true)) (.tmp 65)) (some 66) false <|
  .rd 11 (some (60, true)) (.mv (.tmp 66)) (some 67) false <|
  .rd 12 (some (67, false)) (.mv (.tmp 10)) (some 68) false <|
  .rd 13 (some (60, true)) (.pick (.tmp 67) (.const (.bool true)) (.tmp 68)) (some 69) false <|
  .rd 14 none (.pick (.tmp 60) (.tmp 69) (.const (.bool false))) (some 70) false <|
  .rd 15 none (.mv (.tmp 70)) (some 6) false <|
  .done
noncomputable def F.osierlaw03_DotsOrder.ic : IC :=
    (.seq (.reg F.osierlaw03_DotsOrder.r0)
    (.seq (.reg F.osierlaw03_DotsOrder.r1)
    (.seq (.seq (.reg F.osierlaw03_DotsOrder.r2)
    (.cond (.tmp 15) (.seq (.reg F.osierlaw03_DotsOrder.r3)
    .ret) .skip))
    (.seq (.reg F.osierlaw03_DotsOrder.r4)
    (.seq (.reg F.osierlaw03_DotsOrder.r5)
    (.seq (.reg F.osierlaw03_DotsOrder.r6)
    (.seq (.reg F.osierlaw03_DotsOrder.r7)
    (.seq (.reg F.osierlaw03_DotsOrder.r8)
    (.seq (.reg F.osierlaw03_DotsOrder.r9)
    .ret)))))))))
noncomputable def F.osierlaw03_DotsOrder.rs : List RO := [(.mv (.tmp 6))]
theorem F.osierlaw03_DotsOrder.ok : cFunc Go.Proofs.Try.prog F.osierlaw03_DotsOrder = some (71, F.osierlaw03_DotsOrder.ic, F.osierlaw03_DotsOrder.rs) := by kernel_rfl
theorem F.osierlaw03_DotsOrder.cl : callable Go.Proofs.Try.prog F.osierlaw03_DotsOrder = true := by kernel_rfl
noncomputable def F.osierlaw03_DotsRises.r0 : Plan :=
  .rd 0 none (.mv (.const (.bool false))) (some 2) false <|
  .done
noncomputable def F.osierlaw03_DotsRises.r1 : Plan :=
  .ef 0 none (.call F.osierlaw03_awake []) (some 7) [] (
  .rd 1 none (.mv (.tmp 7)) (some 3) false <|
  .done) .none
noncomputable def F.osierlaw03_DotsRises.r2 : Plan :=
  .rd 0 none (.mv (.tmp 3)) (some 8) false <|
  .rd 1 none (.un .not (.tmp 8)) (some 9) false <|
  .done
noncomputable def F.osierlaw03_DotsRises.r3 : Plan :=
  .rd 0 none (.mv (.const (.bool false))) (some 2) false <|
  .done
noncomputable def F.osierlaw03_DotsRises.r4 : Plan :=
  .rd 0 none (.mv (.tmp 0)) (some 10) false <|
  .rd 1 none (.len .sl (.tmp 10)) (some 11) false <|
  .rd 2 none (.bin .gtr (.tmp 11) (.const (.int .i64 200))) (some 12) false <|
  .done
noncomputable def F.osierlaw03_DotsRises.r5 : Plan :=
  .rd 0 none (.mv (.const (.bool true))) (some 2) false <|
  .done
noncomputable def F.osierlaw03_DotsRises.r6 : Plan :=
  .rd 0 none (.mv (.tmp 0)) (some 13) false <|
  .ef 1 none (.call F.dots_Rising [(.tmp 13)]) (some 14) [] (
  .rd 2 none (.mv (.tmp 14)) (some 4) false <|
  .done) .none
noncomputable def F.osierlaw03_DotsRises.r7 : Plan :=
  .rd 0 none (.mv (.const (.int .i64 0))) (some 5) false <|
  .done
noncomputable def F.osierlaw03_DotsRises.r8 : Plan :=
  .rd 0 none (.mv (.tmp 5)) (some 15) false <|
  .rd 1 none (.mv (.tmp 4)) (some 16) false <|
  .rd 2 none (.len .sl (.tmp 16)) (some 17) false <|
  .rd 3 none (.bin .lss (.tmp 15) (.tmp 17)) (some 18) false <|
  .done
noncomputable def F.osierlaw03_DotsRises.r9 : Plan :=
  .rd 0 none (.mv (.tmp 5)) (some 21) false <|
  .rd 1 none (.bin .gtr (.tmp 21) (.const (.int .i64 0))) (some 22) false <|
  .rd 2 none (.mv (.tmp 22)) (some 23) false <|
  .rd 3 (some (23, true)) (.mv (.tmp 4)) (some 24) false <|
  .rd 4 (some (23, true)) (.mv (.tmp 5)) (some 25) false <|
  .rd 5 (some (23, true)) (.bin .sub (.tmp 25) (.const (.int .i64 1))) (some 26) false <|
  .rd 6 (some (23, true)) (.idxA 2 (.tmp 24) (.tmp 26)) (some 27) false <|
  .rd 7 (some (23, true)) (.ldn 2 (.tmp 27)) (some 28) false <|
  .rd 8 (some (23, true)) (.mv (.tmp 4)) (some 29) false <|
  .rd 9 (some (23, true)) (.mv (.tmp 5)) (some 30) false <|
  .rd 10 (some (23, true)) (.idxA 2 (.tmp 29) (.tmp 30)) (some 31) false <|
  .rd 11 (some (23, true)) (.ldn 2 (.tmp 31)) (some 32) false <|
  .ef 12 (some (23, true)) (.call F.dots_Less [(.tmp 28), (.tmp 32)]) (some 33) [] (
  .rd 13 (some (23, true)) (.un .not (.tmp 33)) (some 34) false <|
  .rd 14 none (.pick (.tmp 23) (.tmp 34) (.const (.bool false))) (some 35) false <|
  .rd 15 none (.mv (.tmp 35)) (some 36) false <|
  .rd 16 (some (36, false)) (.mv (.tmp 0)) (some 37) false <|
  .rd 17 (some (36, false)) (.mv (.tmp 4)) (some 38) false <|
  .rd 18 (some (36, false)) (.mv (.tmp 5)) (some 39) false <|
  .rd 19 (some (36, false)) (.idxA 2 (.tmp 38) (.tmp 39)) (some 40) false <|
  .rd 20 (some (36, false)) (.ldn 2 (.tmp 40)) (some 41) false <|
  .ef 21 (some (36, false)) (.call F.osierref03_In [(.tmp 37), (.tmp 41)]) (some 42) [] (
  .rd 22 (some (36, false)) (.un .not (.tmp 42)) (some 43) false <|
  .rd 23 none (.pick (.tmp 36) (.const (.bool true)) (.tmp 43)) (some 44) false <|
  .done) .none) .none
noncomputable def F.osierlaw03_DotsRises.r10 : Plan :=
  .rd 0 none (.mv (.const (.bool false))) (some 2) false <|
  .done
noncomputable def F.osierlaw03_DotsRises.r11 : Plan :=
  .rd 0 none (.mv (.tmp 5)) (some 19) false <|
  .rd 1 none (.bin .add (.tmp 19) (.const (.int .i64 1))) (some 20) false <|
  .rd 2 none (.mv (.tmp 20)) (some 5) false <|
  .done
noncomputable def F.osierlaw03_DotsRises.l0 : IC :=
    (.seq (.seq (.reg F.osierlaw03_DotsRises.r8)
    (.cond (.tmp 18) .skip (.exit 0)))
    (.seq (.block 1 (.seq (.reg F.osierlaw03_DotsRises.r9)
    (.cond (.tmp 44) (.seq (.reg F.osierlaw03_DotsRises.r10)
    .ret) .skip)))
    (.reg F.osierlaw03_DotsRises.r11)))
noncomputable def F.osierlaw03_DotsRises.r12 : Plan :=
  .rd 0 none (.mv (.const (.int .i64 0))) (some 6) false <|
  .done
noncomputable def F.osierlaw03_DotsRises.r13 : Plan :=
  .rd 0 none (.mv (.tmp 6)) (some 45) false <|
  .rd 1 none (.mv (.tmp 0)) (some 46) false <|
  .rd 2 none (.len .sl (.tmp 46)) (some 47) false <|
  .rd 3 none (.bin .lss (.tmp 45) (.tmp 47)) (some 48) false <|
  .done
noncomputable def F.osierlaw03_DotsRises.r14 : Plan :=
  .rd 0 none (.mv (.tmp 4)) (some 51) false <|
  .rd 1 none (.mv (.tmp 0)) (some 52) false <|
  .rd 2 none (.mv (.tmp 6)) (some 53) false <|
  .rd 3 none (.idxA 2 (.tmp 52) (.tmp 53)) (some 54) false <|
  .rd 4 none (.ldn 2 (.tmp 54)) (some 55) false <|
  .ef 5 none (.call F.osierref03_In [(.tmp 51), (.tmp 55)]) (some 56) [] (
  .rd 6 none (.un .not (.tmp 56)) (some 57) false <|
  .done) .none
noncomputable def F.osierlaw03_DotsRises.r15 : Plan :=
  .rd 0 none (.mv (.const (.bool false))) (some 2) false <|
  .done
noncomputable def F.osierlaw03_DotsRises.r16 : Plan :=
  .rd 0 none (.mv (.tmp 6)) (some 49) false <|
  .rd 1 none (.bin .add (.tmp 49) (.const (.int .i64 1))) (some 50) false <|
  .rd 2 none (.mv (.tmp 50)) (some 6) false <|
  .done
noncomputable def F.osierlaw03_DotsRises.l1 : IC :=
    (.seq (.seq (.reg F.osierlaw03_DotsRises.r13)
    (.cond (.tmp 48) .skip (.exit 2)))
    (.seq (.block 3 (.seq (.reg F.osierlaw03_DotsRises.r14)
    (.cond (.tmp 57) (.seq (.reg F.osierlaw03_DotsRises.r15)
    .ret) .skip)))
    (.reg F.osierlaw03_DotsRises.r16)))
noncomputable def F.osierlaw03_DotsRises.r17 : Plan :=
  .rd 0 none (.mv (.tmp 4)) (some 58) false <|
  .ef 1 none (.call F.dots_Rising [(.tmp 58)]) (some 59) [] (
  .rd 2 none (.mv (.tmp 4)) (some 60) false <|
  .ef 3 none (.call F.osierref03_Same [(.tmp 59), (.tmp 60)]) (some 61) [] (
  .rd 4 none (.mv (.tmp 61)) (some 62) false <|
  .rd 5 (some (62, true)) (.mv (.tmp 0)) (some 63) false <|
  .rd 6 (some (62, true)) (.mv (.tmp 4)) (some 64) false <|
  .ef 7 (some (62, true)) (.call F.dots_Minus [(.tmp 63), (.tmp 64)]) (some 65) [] (
  .rd 8 (some (62, true)) (.len .sl (.tmp 65)) (some 66) false <|
  .rd 9 (some (62, true)) (.bin .eql (.tmp 66) (.const (.int .i64 0))) (some 67) false <|
  .rd 10 none (.pick (.tmp 62) (.tmp 67) (.const (.bool false))) (some 68) false <|
  .rd 11 none (.mv (.tmp 68)) (some 2) false <|
  .done) .none) .none) .none
noncomputable def F.osierlaw03_DotsRises.ic : IC :=
    (.seq (.reg F.osierlaw03_DotsRises.r0)
    (.seq (.reg F.osierlaw03_DotsRises.r1)
    (.seq (.seq (.reg F.osierlaw03_DotsRises.r2)
    (.cond (.tmp 9) (.seq (.reg F.osierlaw03_DotsRises.r3)
    .ret) .skip))
    (.seq (.seq (.reg F.osierlaw03_DotsRises.r4)
    (.cond (.tmp 12) (.seq (.reg F.osierlaw03_DotsRises.r5)
    .ret) .skip))
    (.seq (.reg F.osierlaw03_DotsRises.r6)
    (.seq (.seq (.reg F.osierlaw03_DotsRises.r7)
    (.block 0 (.loop F.osierlaw03_DotsRises.l0)))
    (.seq (.seq (.reg F.osierlaw03_DotsRises.r12)
    (.block 2 (.loop F.osierlaw03_DotsRises.l1)))
    (.seq (.reg F.osierlaw03_DotsRises.r17)
    .ret))))))))
noncomputable def F.osierlaw03_DotsRises.rs : List RO := [(.mv (.tmp 2))]
theorem F.osierlaw03_DotsRises.ok : cFunc Go.Proofs.Try.prog F.osierlaw03_DotsRises = some (69, F.osierlaw03_DotsRises.ic, F.osierlaw03_DotsRises.rs) := by kernel_rfl
theorem F.osierlaw03_DotsRises.cl : callable Go.Proofs.Try.prog F.osierlaw03_DotsRises = true := by kernel_rfl
noncomputable def F.osierlaw03_DotsJoins.r0 : Plan :=
  .rd 0 none (.mv (.const (.bool false))) (some 4) false <|
  .done
noncomputable def F.osierlaw03_DotsJoins.r1 : Plan :=
  .ef 0 none (.call F.osierlaw03_awake []) (some 15) [] (
  .rd 1 none (.mv (.tmp 15)) (some 5) false <|
  .done) .none
noncomputable def F.osierlaw03_DotsJoins.r2 : Plan :=
  .rd 0 none (.mv (.tmp 5)) (some 16) false <|
  .rd 1 none (.un .not (.tmp 16)) (some 17) false <|
  .done
noncomputable def F.osierlaw03_DotsJoins.r3 : Plan :=
  .rd 0 none (.mv (.const (.bool false))) (some 4) false <|
  .done
noncomputable def F.osierlaw03_DotsJoins.r4 : Plan :=
  .rd 0 none (.mv (.tmp 0)) (some 18) false <|
  .rd 1 none (.len .sl (.tmp 18)) (some 19) false <|
  .rd 2 none (.bin .gtr (.tmp 19) (.const (.int .i64 200))) (some 20) false <|
  .rd 3 none (.mv (.tmp 20)) (some 21) false <|
  .rd 4 (some (21, false)) (.mv (.tmp 1)) (some 22) false <|
  .rd 5 (some (21, false)) (.len .sl (.tmp 22)) (some 23) false <|
  .rd 6 (some (21, false)) (.bin .gtr (.tmp 23) (.const (.int .i64 200))) (some 24) false <|
  .rd 7 none (.pick (.tmp 21) (.const (.bool true)) (.tmp 24)) (some 25) false <|
  .done
noncomputable def F.osierlaw03_DotsJoins.r5 : Plan :=
  .rd 0 none (.mv (.const (.bool true))) (some 4) false <|
  .done
noncomputable def F.osierlaw03_DotsJoins.r6 : Plan :=
  .rd 0 none (.mv (.const (.slice none 0 0))) (some 6) false <|
  .done
noncomputable def F.osierlaw03_DotsJoins.r7 : Plan :=
  .rd 0 none (.mv (.tmp 6)) (some 26) false <|
  .rd 1 none (.mv (.tmp 0)) (some 27) false <|
  .ef 2 none (.app 2 16 (.tmp 26) (.tmp 27)) (some 28) [] (
  .rd 3 none (.mv (.tmp 28)) (some 6) false <|
  .done) .none
noncomputable def F.osierlaw03_DotsJoins.r8 : Plan :=
  .rd 0 none (.mv (.tmp 6)) (some 29) false <|
  .rd 1 none (.mv (.tmp 1)) (some 30) false <|
  .ef 2 none (.app 2 16 (.tmp 29) (.tmp 30)) (some 31) [] (
  .rd 3 none (.mv (.tmp 31)) (some 6) false <|
  .done) .none
noncomputable def F.osierlaw03_DotsJoins.r9 : Plan :=
  .rd 0 none (.mv (.tmp 0)) (some 32) false <|
  .ef 1 none (.call F.dots_Rising [(.tmp 32)]) (some 33) [] (
  .rd 2 none (.mv (.tmp 0)) (some 34) false <|
  .ef 3 none (.call F.osierref03_Rising [(.tmp 34)]) (some 35) [] (
  .ef 4 none (.call F.osierref03_Same [(.tmp 33), (.tmp 35)]) (some 36) [] (
  .rd 5 none (.mv (.tmp 36)) (some 7) false <|
  .done) .none) .none) .none
noncomputable def F.osierlaw03_DotsJoins.r10 : Plan :=
  .rd 0 none (.mv (.tmp 0)) (some 37) false <|
  .rd 1 none (.mv (.tmp 1)) (some 38) false <|
  .ef 2 none (.call F.dots_Union [(.tmp 37), (.tmp 38)]) (some 39) [] (
  .rd 3 none (.mv (.tmp 6)) (some 40) false <|
  .ef 4 none (.call F.osierref03_Rising [(.tmp 40)]) (some 41) [] (
  .ef 5 none (.call F.osierref03_Same [(.tmp 39), (.tmp 41)]) (some 42) [] (
  .rd 6 none (.mv (.tmp 42)) (some 8) false <|
  .done) .none) .none) .none
noncomputable def F.osierlaw03_DotsJoins.r11 : Plan :=
  .rd 0 none (.mv (.tmp 0)) (some 43) false <|
  .rd 1 none (.mv (.tmp 1)) (some 44) false <|
  .ef 2 none (.call F.dots_Meet [(.tmp 43), (.tmp 44)]) (some 45) [] (
  .rd 3 none (.mv (.tmp 0)) (some 46) false <|
  .rd 4 none (.mv (.tmp 1)) (some 47) false <|
  .ef 5 none (.call F.osierref03_Choose [(.tmp 46), (.tmp 47), (.const (.bool true))]) (some 48) [] (
  .ef 6 none (.call F.osierref03_Same [(.tmp 45), (.tmp 48)]) (some 49) [] (
  .rd 7 none (.mv (.tmp 49)) (some 9) false <|
  .done) .none) .none) .none
noncomputable def F.osierlaw03_DotsJoins.r12 : Plan :=
  .rd 0 none (.mv (.tmp 0)) (some 50) false <|
  .rd 1 none (.mv (.tmp 1)) (some 51) false <|
  .ef 2 none (.call F.dots_Minus [(.tmp 50), (.tmp 51)]) (some 52) [] (
  .rd 3 none (.mv (.tmp 0)) (some 53) false <|
  .rd 4 none (.mv (.tmp 1)) (some 54) false <|
  .ef 5 none (.call F.osierref03_Choose [(.tmp 53), (.tmp 54), (.const (.bool false))]) (some 55) [] (
  .ef 6 none (.call F.osierref03_Same [(.tmp 52), (.tmp 55)]) (some 56) [] (
  .rd 7 none (.mv (.tmp 56)) (some 10) false <|
  .done) .none) .none) .none
noncomputable def F.osierlaw03_DotsJoins.r13 : Plan :=
  .rd 0 none (.mv (.tmp 6)) (some 57) false <|
  .ef 1 none (.call F.dots_Places [(.tmp 57)]) (some 58) [] (
  .rd 2 none (.mv (.tmp 58)) (some 11) false <|
  .done) .none
noncomputable def F.osierlaw03_DotsJoins.r14 : Plan :=
  .rd 0 none (.mv (.tmp 7)) (some 59) false <|
  .rd 1 none (.un .not (.tmp 59)) (some 60) false <|
  .rd 2 none (.mv (.tmp 60)) (some 61) false <|
  .rd 3 (some (61, false)) (.mv (.tmp 8)) (some 62) false <|
  .rd 4 (some (61, false)) (.un .not (.tmp 62)) (some 63) false <|
  .rd 5 none (.pick (.tmp 61) (.const (.bool true)) (.tmp 63)) (some 64) false <|
  .rd 6 none (.mv (.tmp 64)) (some 65) false <|
  .rd 7 (some (65, false)) (.mv (.tmp 9)) (some 66) false <|
  .rd 8 (some (65, false)) (.un .not (.tmp 66)) (some 67) false <|
  .rd 9 none (.pick (.tmp 65) (.const (.bool true)) (.tmp 67)) (some 68) false <|
  .rd 10 none (.mv (.tmp 68)) (some 69) false <|
  .rd 11 (some (69, false)) (.mv (.tmp 10)) (some 70) false <|
  .rd 12 (some (69, false)) (.un .not (.tmp 70)) (some 71) false <|
  .rd 13 none (.pick (.tmp 69) (.const (.bool true)) (.tmp 71)) (some 72) false <|
  .rd 14 none (.mv (.tmp 72)) (some 73) false <|
  .rd 15 (some (73, false)) (.mv (.tmp 11)) (some 74) false <|
  .rd 16 (some (73, false)) (.len .mp (.tmp 74)) (some 75) false <|
  .rd 17 (some (73, false)) (.mv (.tmp 6)) (some 76) false <|
  .ef 18 (some (73, false)) (.call F.osierref03_Rising [(.tmp 76)]) (some 77) [] (
  .rd 19 (some (73, false)) (.len .sl (.tmp 77)) (some 78) false <|
  .rd 20 (some (73, false)) (.bin .neq (.tmp 75) (.tmp 78)) (some 79) false <|
  .rd 21 none (.pick (.tmp 73) (.const (.bool true)) (.tmp 79)) (some 80) false <|
  .done) .none
noncomputable def F.osierlaw03_DotsJoins.r15 : Plan :=
  .rd 0 none (.mv (.const (.bool false))) (some 4) false <|
  .done
noncomputable def F.osierlaw03_DotsJoins.r16 : Plan :=
  .rd 0 none (.mv (.tmp 6)) (some 81) false <|
  .rd 1 none (.len .sl (.tmp 81)) (some 82) false <|
  .rd 2 none (.bin .sub (.tmp 82) (.const (.int .i64 1))) (some 83) false <|
  .rd 3 none (.mv (.tmp 83)) (some 12) false <|
  .done
noncomputable def F.osierlaw03_DotsJoins.r17 : Plan :=
  .rd 0 none (.mv (.tmp 12)) (some 84) false <|
  .rd 1 none (.bin .geq (.tmp 84) (.const (.int .i64 0))) (some 85) false <|
  .done
noncomputable def F.osierlaw03_DotsJoins.r18 : Plan :=
  .rd 0 none (.mv (.tmp 11)) (some 89) false <|
  .rd 1 none (.mv (.tmp 6)) (some 90) false <|
  .rd 2 none (.mv (.tmp 12)) (some 91) false <|
  .rd 3 none (.idxA 2 (.tmp 90) (.tmp 91)) (some 92) false <|
  .rd 4 none (.ldn 2 (.tmp 92)) (some 93) false <|
  .rd 5 none (.look [(.i .i64), (.i .i64)] true (.int .i64 0) true (.tmp 89) (.tmp 93)) (some 94) false <|
  .rd 6 none (.mv (.tmp 94)) (some 88) false <|
  .rd 7 none (.ext 0 (.tmp 88)) (some 95) false <|
  .rd 8 none (.ext 1 (.tmp 88)) (some 96) false <|
  .rd 9 none (.mv (.tmp 95)) (some 13) false <|
  .rd 10 none (.mv (.tmp 96)) (some 14) false <|
  .done
noncomputable def F.osierlaw03_DotsJoins.r19 : Plan :=
  .rd 0 none (.mv (.tmp 14)) (some 97) false <|
  .rd 1 none (.un .not (.tmp 97)) (some 98) false <|
  .rd 2 none (.mv (.tmp 98)) (some 99) false <|
  .rd 3 (some (99, false)) (.mv (.tmp 13)) (some 100) false <|
  .rd 4 (some (99, false)) (.mv (.tmp 12)) (some 101) false <|
  .rd 5 (some (99, false)) (.bin .gtr (.tmp 100) (.tmp 101)) (some 102) false <|
  .rd 6 none (.pick (.tmp 99) (.const (.bool true)) (.tmp 102)) (some 103) false <|
  .rd 7 none (.mv (.tmp 103)) (some 104) false <|
  .rd 8 (some (104, false)) (.mv (.tmp 6)) (some 105) false <|
  .rd 9 (some (104, false)) (.mv (.tmp 13)) (some 106) false <|
  .rd 10 (some (104, false)) (.idxA 2 (.tmp 105) (.tmp 106)) (some 107) false <|
  .rd 11 (some (104, false)) (.ldn 2 (.tmp 107)) (some 108) false <|
  .rd 12 (some (104, false)) (.mv (.tmp 6)) (some 109) false <|
  .rd 13 (some (104, false)) (.mv (.tmp 12)) (some 110) false <|
  .rd 14 (some (104, false)) (.idxA 2 (.tmp 109) (.tmp 110)) (some 111) false <|
  .rd 15 (some (104, false)) (.ldn 2 (.tmp 111)) (some 112) false <|
  .rd 16 (some (104, false)) (.eqS [(.i .i64), (.i .i64)] true true (.tmp 108) (.tmp 112)) (some 113) false <|
  .rd 17 none (.pick (.tmp 104) (.const (.bool true)) (.tmp 113)) (some 114) false <|
  .done
noncomputable def F.osierlaw03_DotsJoins.r20 : Plan :=
  .rd 0 none (.mv (.const (.bool false))) (some 4) false <|
  .done
noncomputable def F.osierlaw03_DotsJoins.r21 : Plan :=
  .rd 0 none (.mv (.tmp 12)) (some 86) false <|
  .rd 1 none (.bin .sub (.tmp 86) (.const (.int .i64 1))) (some 87) false <|
  .rd 2 none (.mv (.tmp 87)) (some 12) false <|
  .done
noncomputable def F.osierlaw03_DotsJoins.l0 : IC :=
    (.seq (.seq (.reg F.osierlaw03_DotsJoins.r17)
    (.cond (.tmp 85) .skip (.exit 0)))
    (.seq (.block 1 (.seq (.reg F.osierlaw03_DotsJoins.r18)
    (.seq (.reg F.osierlaw03_DotsJoins.r19)
    (.cond (.tmp 114) (.seq (.reg F.osierlaw03_DotsJoins.r20)
    .ret) .skip))))
    (.reg F.osierlaw03_DotsJoins.r21)))
noncomputable def F.osierlaw03_DotsJoins.r22 : Plan :=
  .rd 0 none (.mv (.const (.bool true))) (some 4) false <|
  .done
noncomputable def F.osierlaw03_DotsJoins.ic : IC :=
    (.seq (.reg F.osierlaw03_DotsJoins.r0)
    (.seq (.reg F.osierlaw03_DotsJoins.r1)
    (.seq (.seq (.reg F.osierlaw03_DotsJoins.r2)
    (.cond (.tmp 17) (.seq (.reg F.osierlaw03_DotsJoins.r3)
    .ret) .skip))
    (.seq (.seq (.reg F.osierlaw03_DotsJoins.r4)
    (.cond (.tmp 25) (.seq (.reg F.osierlaw03_DotsJoins.r5)
    .ret) .skip))
    (.seq (.reg F.osierlaw03_DotsJoins.r6)
    (.seq (.reg F.osierlaw03_DotsJoins.r7)
    (.seq (.reg F.osierlaw03_DotsJoins.r8)
    (.seq (.reg F.osierlaw03_DotsJoins.r9)
    (.seq (.reg F.osierlaw03_DotsJoins.r10)
    (.seq (.reg F.osierlaw03_DotsJoins.r11)
    (.seq (.reg F.osierlaw03_DotsJoins.r12)
    (.seq (.reg F.osierlaw03_DotsJoins.r13)
    (.seq (.seq (.reg F.osierlaw03_DotsJoins.r14)
    (.cond (.tmp 80) (.seq (.reg F.osierlaw03_DotsJoins.r15)
    .ret) .skip))
    (.seq (.seq (.reg F.osierlaw03_DotsJoins.r16)
    (.block 0 (.loop F.osierlaw03_DotsJoins.l0)))
    (.seq (.reg F.osierlaw03_DotsJoins.r22)
    .ret)))))))))))))))
noncomputable def F.osierlaw03_DotsJoins.rs : List RO := [(.mv (.tmp 4))]
theorem F.osierlaw03_DotsJoins.ok : cFunc Go.Proofs.Try.prog F.osierlaw03_DotsJoins = some (115, F.osierlaw03_DotsJoins.ic, F.osierlaw03_DotsJoins.rs) := by kernel_rfl
theorem F.osierlaw03_DotsJoins.cl : callable Go.Proofs.Try.prog F.osierlaw03_DotsJoins = true := by kernel_rfl
noncomputable def F.osierlaw03_DotsLaws.r0 : Plan :=
  .rd 0 none (.mv (.const (.bool false))) (some 6) false <|
  .done
noncomputable def F.osierlaw03_DotsLaws.r1 : Plan :=
  .ef 0 none (.call F.osierlaw03_awake []) (some 17) [] (
  .rd 1 none (.mv (.tmp 17)) (some 7) false <|
  .done) .none
noncomputable def F.osierlaw03_DotsLaws.r2 : Plan :=
  .rd 0 none (.mv (.tmp 7)) (some 18) false <|
  .rd 1 none (.un .not (.tmp 18)) (some 19) false <|
  .done
noncomputable def F.osierlaw03_DotsLaws.r3 : Plan :=
  .rd 0 none (.mv (.const (.bool false))) (some 6) false <|
  .done
noncomputable def F.osierlaw03_DotsLaws.r4 : Plan :=
  .rd 0 none (.mv (.tmp 0)) (some 20) false <|
  .rd 1 none (.len .sl (.tmp 20)) (some 21) false <|
  .rd 2 none (.bin .gtr (.tmp 21) (.const (.int .i64 100))) (some 22) false <|
  .rd 3 none (.mv (.tmp 22)) (some 23) false <|
  .rd 4 (some (23, false)) (.mv (.tmp 1)) (some 24) false <|
  .rd 5 (some (23, false)) (.len .sl (.tmp 24)) (some 25) false <|
  .rd 6 (some (23, false)) (.bin .gtr (.tmp 25) (.const (.int .i64 100))) (some 26) false <|
  .rd 7 none (.pick (.tmp 23) (.const (.bool true)) (.tmp 26)) (some 27) false <|
  .rd 8 none (.mv (.tmp 27)) (some 28) false <|
  .rd 9 (some (28, false)) (.mv (.tmp 2)) (some 29) false <|
  .rd 10 (some (28, false)) (.len .sl (.tmp 29)) (some 30) false <|
  .rd 11 (some (28, false)) (.bin .gtr (.tmp 30) (.const (.int .i64 100))) (some 31) false <|
  .rd 12 none (.pick (.tmp 28) (.const (.bool true)) (.tmp 31)) (some 32) false <|
  .done
noncomputable def F.osierlaw03_DotsLaws.r5 : Plan :=
  .rd 0 none (.mv (.const (.bool true))) (some 6) false <|
  .done
noncomputable def F.osierlaw03_DotsLaws.r6 : Plan :=
  .rd 0 none (.mv (.const (.slice none 0 0))) (some 8) false <|
  .done
noncomputable def F.osierlaw03_DotsLaws.r7 : Plan :=
  .rd 0 none (.mv (.tmp 8)) (some 33) false <|
  .rd 1 none (.mv (.tmp 0)) (some 34) false <|
  .ef 2 none (.app 2 16 (.tmp 33) (.tmp 34)) (some 35) [] (
  .rd 3 none (.mv (.tmp 35)) (some 8) false <|
  .done) .none
noncomputable def F.osierlaw03_DotsLaws.r8 : Plan :=
  .rd 0 none (.mv (.tmp 0)) (some 36) false <|
  .rd 1 none (.mv (.tmp 1)) (some 37) false <|
  .ef 2 none (.call F.dots_Union [(.tmp 36), (.tmp 37)]) (some 38) [] (
  .rd 3 none (.mv (.tmp 38)) (some 9) false <|
  .done) .none
noncomputable def F.osierlaw03_DotsLaws.r9 : Plan :=
  .rd 0 none (.mv (.tmp 0)) (some 39) false <|
  .rd 1 none (.mv (.tmp 1)) (some 40) false <|
  .ef 2 none (.call F.dots_Meet [(.tmp 39), (.tmp 40)]) (some 41) [] (
  .rd 3 none (.mv (.tmp 41)) (some 10) false <|
  .done) .none
noncomputable def F.osierlaw03_DotsLaws.r10 : Plan :=
  .rd 0 none (.mv (.tmp 9)) (some 42) false <|
  .rd 1 none (.mv (.tmp 1)) (some 43) false <|
  .rd 2 none (.mv (.tmp 0)) (some 44) false <|
  .ef 3 none (.call F.dots_Union [(.tmp 43), (.tmp 44)]) (some 45) [] (
  .ef 4 none (.call F.osierref03_Same [(.tmp 42), (.tmp 45)]) (some 46) [] (
  .rd 5 none (.mv (.tmp 46)) (some 47) false <|
  .rd 6 (some (47, true)) (.mv (.tmp 10)) (some 48) false <|
  .rd 7 (some (47, true)) (.mv (.tmp 1)) (some 49) false <|
  .rd 8 (some (47, true)) (.mv (.tmp 0)) (some 50) false <|
  .ef 9 (some (47, true)) (.call F.dots_Meet [(.tmp 49), (.tmp 50)]) (some 51) [] (
  .ef 10 (some (47, true)) (.call F.osierref03_Same [(.tmp 48), (.tmp 51)]) (some 52) [] (
  .rd 11 none (.pick (.tmp 47) (.tmp 52) (.const (.bool false))) (some 53) false <|
  .rd 12 none (.mv (.tmp 53)) (some 11) false <|
  .done) .none) .none) .none) .none
noncomputable def F.osierlaw03_DotsLaws.r11 : Plan :=
  .rd 0 none (.mv (.tmp 10)) (some 54) false <|
  .rd 1 none (.mv (.tmp 0)) (some 55) false <|
  .rd 2 none (.mv (.tmp 1)) (some 56) false <|
  .ef 3 none (.call F.dots_Minus [(.tmp 55), (.tmp 56)]) (some 57) [] (
  .ef 4 none (.call F.dots_Union [(.tmp 54), (.tmp 57)]) (some 58) [] (
  .rd 5 none (.mv (.tmp 0)) (some 59) false <|
  .ef 6 none (.call F.dots_Rising [(.tmp 59)]) (some 60) [] (
  .ef 7 none (.call F.osierref03_Same [(.tmp 58), (.tmp 60)]) (some 61) [] (
  .rd 8 none (.mv (.tmp 61)) (some 12) false <|
  .done) .none) .none) .none) .none
noncomputable def F.osierlaw03_DotsLaws.r12 : Plan :=
  .rd 0 none (.mv (.tmp 9)) (some 62) false <|
  .rd 1 none (.mv (.tmp 2)) (some 63) false <|
  .ef 2 none (.call F.dots_Union [(.tmp 62), (.tmp 63)]) (some 64) [] (
  .rd 3 none (.mv (.tmp 0)) (some 65) false <|
  .rd 4 none (.mv (.tmp 1)) (some 66) false <|
  .rd 5 none (.mv (.tmp 2)) (some 67) false <|
  .ef 6 none (.call F.dots_Union [(.tmp 66), (.tmp 67)]) (some 68) [] (
  .ef 7 none (.call F.dots_Union [(.tmp 65), (.tmp 68)]) (some 69) [] (
  .ef 8 none (.call F.osierref03_Same [(.tmp 64), (.tmp 69)]) (some 70) [] (
  .rd 9 none (.mv (.tmp 70)) (some 71) false <|
  .rd 10 (some (71, true)) (.mv (.tmp 9)) (some 72) false <|
  .ef 11 (some (71, true)) (.call F.dots_Rising [(.tmp 72)]) (some 73) [] (
  .rd 12 (some (71, true)) (.mv (.tmp 9)) (some 74) false <|
  .ef 13 (some (71, true)) (.call F.osierref03_Same [(.tmp 73), (.tmp 74)]) (some 75) [] (
  .rd 14 none (.pick (.tmp 71) (.tmp 75) (.const (.bool false))) (some 76) false <|
  .rd 15 none (.mv (.tmp 76)) (some 13) false <|
  .done) .none) .none) .none) .none) .none) .none
noncomputable def F.osierlaw03_DotsLaws.r13 : Plan :=
  .rd 0 none (.mv (.const (.int .i64 0))) (some 14) false <|
  .done
noncomputable def F.osierlaw03_DotsLaws.r14 : Plan :=
  .rd 0 none (.mv (.tmp 14)) (some 77) false <|
  .rd 1 none (.mv (.tmp 9)) (some 78) false <|
  .rd 2 none (.len .sl (.tmp 78)) (some 79) false <|
  .rd 3 none (.bin .lss (.tmp 77) (.tmp 79)) (some 80) false <|
  .done
noncomputable def F.osierlaw03_DotsLaws.r15 : Plan :=
  .rd 0 none (.mv (.tmp 9)) (some 83) false <|
  .rd 1 none (.mv (.tmp 14)) (some 84) false <|
  .rd 2 none (.idxA 2 (.tmp 83) (.tmp 84)) (some 85) false <|
  .rd 3 none (.fldA 1 (.tmp 85)) (some 86) false <|
  .ef 4 none (.st 1 (.tmp 86) (.const (.int .i64 77))) none [] (
  .done) .none
noncomputable def F.osierlaw03_DotsLaws.r16 : Plan :=
  .rd 0 none (.mv (.tmp 14)) (some 81) false <|
  .rd 1 none (.bin .add (.tmp 81) (.const (.int .i64 1))) (some 82) false <|
  .rd 2 none (.mv (.tmp 82)) (some 14) false <|
  .done
noncomputable def F.osierlaw03_DotsLaws.l0 : IC :=
    (.seq (.seq (.reg F.osierlaw03_DotsLaws.r14)
    (.cond (.tmp 80) .skip (.exit 0)))
    (.seq (.block 1 (.reg F.osierlaw03_DotsLaws.r15))
    (.reg F.osierlaw03_DotsLaws.r16)))
noncomputable def F.osierlaw03_DotsLaws.r17 : Plan :=
  .rd 0 none (.mv (.tmp 0)) (some 87) false <|
  .ef 1 none (.call F.dots_Rising [(.tmp 87)]) (some 88) [] (
  .rd 2 none (.mv (.tmp 88)) (some 15) false <|
  .done) .none
noncomputable def F.osierlaw03_DotsLaws.r18 : Plan :=
  .rd 0 none (.mv (.const (.int .i64 0))) (some 16) false <|
  .done
noncomputable def F.osierlaw03_DotsLaws.r19 : Plan :=
  .rd 0 none (.mv (.tmp 16)) (some 89) false <|
  .rd 1 none (.mv (.tmp 15)) (some 90) false <|
  .rd 2 none (.len .sl (.tmp 90)) (some 91) false <|
  .rd 3 none (.bin .lss (.tmp 89) (.tmp 91)) (some 92) false <|
  .done
noncomputable def F.osierlaw03_DotsLaws.r20 : Plan :=
  .rd 0 none (.mv (.tmp 15)) (some 95) false <|
  .rd 1 none (.mv (.tmp 16)) (some 96) false <|
  .rd 2 none (.idxA 2 (.tmp 95) (.tmp 96)) (some 97) false <|
  .rd 3 none (.fldA 1 (.tmp 97)) (some 98) false <|
  .ef 4 none (.st 1 (.tmp 98) (.const (.int .i64 78))) none [] (
  .done) .none
noncomputable def F.osierlaw03_DotsLaws.r21 : Plan :=
  .rd 0 none (.mv (.tmp 16)) (some 93) false <|
  .rd 1 none (.bin .add (.tmp 93) (.const (.int .i64 1))) (some 94) false <|
  .rd 2 none (.mv (.tmp 94)) (some 16) false <|
  .done
noncomputable def F.osierlaw03_DotsLaws.l1 : IC :=
    (.seq (.seq (.reg F.osierlaw03_DotsLaws.r19)
    (.cond (.tmp 92) .skip (.exit 2)))
    (.seq (.block 3 (.reg F.osierlaw03_DotsLaws.r20))
    (.reg F.osierlaw03_DotsLaws.r21)))
noncomputable def F.osierlaw03_DotsLaws.r22 : Plan :=
  .rd 0 none (.mv (.tmp 11)) (some 99) false <|
  .rd 1 none (.mv (.tmp 99)) (some 100) false <|
  .rd 2 (some (100, true)) (.mv (.tmp 12)) (some 101) false <|
  .rd 3 none (.pick (.tmp 100) (.tmp 101) (.const (.bool false))) (some 102) false <|
  .rd 4 none (.mv (.tmp 102)) (some 103) false <|
  .rd 5 (some (103, true)) (.mv (.tmp 13)) (some 104) false <|
  .rd 6 none (.pick (.tmp 103) (.tmp 104) (.const (.bool false))) (some 105) false <|
  .rd 7 none (.mv (.tmp 105)) (some 106) false <|
  .rd 8 (some (106, true)) (.mv (.tmp 0)) (some 107) false <|
  .rd 9 (some (106, true)) (.mv (.tmp 8)) (some 108) false <|
  .ef 10 (some (106, true)) (.call F.osierref03_Same [(.tmp 107), (.tmp 108)]) (some 109) [] (
  .rd 11 none (.pick (.tmp 106) (.tmp 109) (.const (.bool false))) (some 110) false <|
  .rd 12 none (.mv (.tmp 110)) (some 6) false <|
  .done) .none
noncomputable def F.osierlaw03_DotsLaws.ic : IC :=
    (.seq (.reg F.osierlaw03_DotsLaws.r0)
    (.seq (.reg F.osierlaw03_DotsLaws.r1)
    (.seq (.seq (.reg F.osierlaw03_DotsLaws.r2)
    (.cond (.tmp 19) (.seq (.reg F.osierlaw03_DotsLaws.r3)
    .ret) .skip))
    (.seq (.seq (.reg F.osierlaw03_DotsLaws.r4)
    (.cond (.tmp 32) (.seq (.reg F.osierlaw03_DotsLaws.r5)
    .ret) .skip))
    (.seq (.reg F.osierlaw03_DotsLaws.r6)
    (.seq (.reg F.osierlaw03_DotsLaws.r7)
    (.seq (.reg F.osierlaw03_DotsLaws.r8)
    (.seq (.reg F.osierlaw03_DotsLaws.r9)
    (.seq (.reg F.osierlaw03_DotsLaws.r10)
    (.seq (.reg F.osierlaw03_DotsLaws.r11)
    (.seq (.reg F.osierlaw03_DotsLaws.r12)
    (.seq (.seq (.reg F.osierlaw03_DotsLaws.r13)
    (.block 0 (.loop F.osierlaw03_DotsLaws.l0)))
    (.seq (.reg F.osierlaw03_DotsLaws.r17)
    (.seq (.seq (.reg F.osierlaw03_DotsLaws.r18)
    (.block 2 (.loop F.osierlaw03_DotsLaws.l1)))
    (.seq (.reg F.osierlaw03_DotsLaws.r22)
    .ret)))))))))))))))
noncomputable def F.osierlaw03_DotsLaws.rs : List RO := [(.mv (.tmp 6))]
theorem F.osierlaw03_DotsLaws.ok : cFunc Go.Proofs.Try.prog F.osierlaw03_DotsLaws = some (111, F.osierlaw03_DotsLaws.ic, F.osierlaw03_DotsLaws.rs) := by kernel_rfl
theorem F.osierlaw03_DotsLaws.cl : callable Go.Proofs.Try.prog F.osierlaw03_DotsLaws = true := by kernel_rfl
noncomputable def F.osierlaw03_awake.r0 : Plan :=
  .rd 0 none (.mv (.const (.bool false))) (some 0) false <|
  .done
noncomputable def F.osierlaw03_awake.r1 : Plan :=
  .rd 0 none (.build [(.int .i64 0), (.int .i64 0)] [(0, (1, (.const (.int .i64 2)))), (1, (1, (.const (.int .i64 1))))]) (some 5) false <|
  .ef 1 none (.alloc [(.int .i64 0), (.int .i64 0)]) (some 1) [] (
  .ef 2 none (.st 2 (.tmp 1) (.tmp 5)) none [] (
  .done) .none) .none
noncomputable def F.osierlaw03_awake.r2 : Plan :=
  .rd 0 none (.build [(.int .i64 0), (.int .i64 0)] [(0, (1, (.const (.int .i64 1)))), (1, (1, (.const (.int .i64 9))))]) (some 6) false <|
  .ef 1 none (.alloc [(.int .i64 0), (.int .i64 0)]) (some 2) [] (
  .ef 2 none (.st 2 (.tmp 2) (.tmp 6)) none [] (
  .done) .none) .none
noncomputable def F.osierlaw03_awake.r3 : Plan :=
  .rd 0 none (.ldn 2 (.tmp 1)) (some 7) false <|
  .rd 1 none (.ldn 2 (.tmp 2)) (some 8) false <|
  .rd 2 none (.ldn 2 (.tmp 1)) (some 9) false <|
  .ef 3 none (.bsl 3 [(.int .i64 0), (.int .i64 0), (.int .i64 0), (.int .i64 0), (.int .i64 0), (.int .i64 0)] [(0, (2, (.tmp 7))), (2, (2, (.tmp 8))), (4, (2, (.tmp 9)))]) (some 10) [] (
  .ef 4 none (.call F.dots_Rising [(.tmp 10)]) (some 11) [] (
  .rd 5 none (.mv (.tmp 11)) (some 3) false <|
  .done) .none) .none
noncomputable def F.osierlaw03_awake.r4 : Plan :=
  .rd 0 none (.ldn 2 (.tmp 1)) (some 12) false <|
  .rd 1 none (.ldn 2 (.tmp 2)) (some 13) false <|
  .rd 2 none (.ldn 2 (.tmp 1)) (some 14) false <|
  .ef 3 none (.bsl 3 [(.int .i64 0), (.int .i64 0), (.int .i64 0), (.int .i64 0), (.int .i64 0), (.int .i64 0)] [(0, (2, (.tmp 12))), (2, (2, (.tmp 13))), (4, (2, (.tmp 14)))]) (some 15) [] (
  .ef 4 none (.call F.dots_Places [(.tmp 15)]) (some 16) [] (
  .rd 5 none (.mv (.tmp 16)) (some 4) false <|
  .done) .none) .none
noncomputable def F.osierlaw03_awake.r5 : Plan :=
  .rd 0 none (.mv (.tmp 3)) (some 17) false <|
  .rd 1 none (.len .sl (.tmp 17)) (some 18) false <|
  .rd 2 none (.bin .eql (.tmp 18) (.const (.int .i64 2))) (some 19) false <|
  .rd 3 none (.mv (.tmp 19)) (some 20) false <|
  .rd 4 (some (20, true)) (.mv (.tmp 3)) (some 21) false <|
  .rd 5 (some (20, true)) (.idxA 2 (.tmp 21) (.const (.int .i64 0))) (some 22) false <|
  .rd 6 (some (20, true)) (.ldn 2 (.tmp 22)) (some 23) false <|
  .rd 7 (some (20, true)) (.ldn 2 (.tmp 2)) (some 24) false <|
  .rd 8 (some (20, true)) (.eqS [(.i .i64), (.i .i64)] true false (.tmp 23) (.tmp 24)) (some 25) false <|
  .rd 9 none (.pick (.tmp 20) (.tmp 25) (.const (.bool false))) (some 26) false <|
  .rd 10 none (.mv (.tmp 26)) (some 27) false <|
  .rd 11 (some (27, true)) (.mv (.tmp 3)) (some 28) false <|
  .rd 12 (some (27, true)) (.idxA 2 (.tmp 28) (.const (.int .i64 1))) (some 29) false <|
  .rd 13 (some (27, true)) (.ldn 2 (.tmp 29)) (some 30) false <|
  .rd 14 (some (27, true)) (.ldn 2 (.tmp 1)) (some 31) false <|
  .rd 15 (some (27, true)) (.eqS [(.i .i64), (.i .i64)] true false (.tmp 30) (.tmp 31)) (some 32) false <|
  .rd 16 none (.pick (.tmp 27) (.tmp 32) (.const (.bool false))) (some 33) false <|
  .rd 17 none (.mv (.tmp 33)) (some 34) false <|
  .rd 18 (some (34, true)) (.ldn 2 (.tmp 2)) (some 35) false <|
  .rd 19 (some (34, true)) (.ldn 2 (.tmp 1)) (some 36) false <|
  .ef 20 (some (34, true)) (.call F.dots_Less [(.tmp 35), (.tmp 36)]) (some 37) [] (
  .rd 21 none (.pick (.tmp 34) (.tmp 37) (.const (.bool false))) (some 38) false <|
  .rd 22 none (.mv (.tmp 38)) (some 39) false <|
  .rd 23 (some (39, true)) (.ldn 2 (.tmp 1)) (some 40) false <|
  .ef 24 (some (39, true)) (.call F.dots_May [(.tmp 40)]) (some 41) [] (
  .rd 25 none (.pick (.tmp 39) (.tmp 41) (.const (.bool false))) (some 42) false <|
  .rd 26 none (.mv (.tmp 42)) (some 43) false <|
  .rd 27 (some (43, true)) (.build [(.int .i64 0), (.int .i64 0)] []) (some 44) false <|
  .ef 28 (some (43, true)) (.call F.dots_May [(.tmp 44)]) (some 45) [] (
  .rd 29 (some (43, true)) (.un .not (.tmp 45)) (some 46) false <|
  .rd 30 none (.pick (.tmp 43) (.tmp 46) (.const (.bool false))) (some 47) false <|
  .rd 31 none (.mv (.tmp 47)) (some 48) false <|
  .rd 32 (some (48, true)) (.mv (.tmp 4)) (some 49) false <|
  .rd 33 (some (48, true)) (.len .mp (.tmp 49)) (some 50) false <|
  .rd 34 (some (48, true)) (.bin .eql (.tmp 50) (.const (.int .i64 2))) (some 51) false <|
  .rd 35 none (.pick (.tmp 48) (.tmp 51) (.const (.bool false))) (some 52) false <|
  .rd 36 none (.mv (.tmp 52)) (some 53) false <|
  .rd 37 (some (53, true)) (.mv (.tmp 4)) (some 54) false <|
  .rd 38 (some (53, true)) (.ldn 2 (.tmp 2)) (some 55) false <|
  .rd 39 (some (53, true)) (.look [(.i .i64), (.i .i64)] true (.int .i64 0) false (.tmp 54) (.tmp 55)) (some 56) false <|
  .rd 40 (some (53, true)) (.bin .eql (.tmp 56) (.const (.int .i64 1))) (some 57) false <|
  .rd 41 none (.pick (.tmp 53) (.tmp 57) (.const (.bool false))) (some 58) false <|
  .rd 42 none (.mv (.tmp 58)) (some 0) false <|
  .done) .none) .none) .none
noncomputable def F.osierlaw03_awake.ic : IC :=
    (.seq (.reg F.osierlaw03_awake.r0)
    (.seq (.reg F.osierlaw03_awake.r1)
    (.seq (.reg F.osierlaw03_awake.r2)
    (.seq (.reg F.osierlaw03_awake.r3)
    (.seq (.reg F.osierlaw03_awake.r4)
    (.seq (.reg F.osierlaw03_awake.r5)
    .ret))))))
noncomputable def F.osierlaw03_awake.rs : List RO := [(.mv (.tmp 0))]
theorem F.osierlaw03_awake.ok : cFunc Go.Proofs.Try.prog F.osierlaw03_awake = some (59, F.osierlaw03_awake.ic, F.osierlaw03_awake.rs) := by kernel_rfl
theorem F.osierlaw03_awake.cl : callable Go.Proofs.Try.prog F.osierlaw03_awake = true := by kernel_rfl
noncomputable def F.dots_Less.r0 : Plan :=
  .ef 0 none (.box (.tmp 0)) (some 2) [] (
  .ef 1 none (.box (.tmp 1)) (some 3) [] (
  .rd 2 none (.mv (.const (.bool false))) (some 4) false <|
  .done) .none) .none
noncomputable def F.dots_Less.r1 : Plan :=
  .rd 0 none (.ldn 2 (.tmp 2)) (some 5) false <|
  .rd 1 none (.ldn 2 (.tmp 3)) (some 6) false <|
  .rd 2 none (.eqS [(.i .i64), (.i .i64)] true true (.tmp 5) (.tmp 6)) (some 7) false <|
  .rd 3 none (.mv (.tmp 7)) (some 8) false <|
  .rd 4 (some (8, true)) (.ldn 2 (.tmp 2)) (some 9) false <|
  .rd 5 (some (8, true)) (.ldn 2 (.tmp 3)) (some 10) false <|
  .ef 6 (some (8, true)) (.call F.dots_compare [(.tmp 9), (.tmp 10)]) (some 11) [] (
  .rd 7 (some (8, true)) (.bin .lss (.tmp 11) (.const (.int .i64 0))) (some 12) false <|
  .rd 8 none (.pick (.tmp 8) (.tmp 12) (.const (.bool false))) (some 13) false <|
  .rd 9 none (.mv (.tmp 13)) (some 4) false <|
  .done) .none
noncomputable def F.dots_Less.ic : IC :=
    (.seq (.reg F.dots_Less.r0)
    (.seq (.reg F.dots_Less.r1)
    .ret))
noncomputable def F.dots_Less.rs : List RO := [(.mv (.tmp 4))]
theorem F.dots_Less.ok : cFunc Go.Proofs.Try.prog F.dots_Less = some (14, F.dots_Less.ic, F.dots_Less.rs) := by kernel_rfl
theorem F.dots_Less.cl : callable Go.Proofs.Try.prog F.dots_Less = true := by kernel_rfl
noncomputable def F.dots_May.r0 : Plan :=
  .ef 0 none (.box (.tmp 0)) (some 1) [] (
  .rd 1 none (.mv (.const (.bool false))) (some 2) false <|
  .done) .none
noncomputable def F.dots_May.r1 : Plan :=
  .rd 0 none (.fldA 0 (.tmp 1)) (some 3) false <|
  .rd 1 none (.ld1 (.tmp 3)) (some 4) false <|
  .rd 2 none (.bin .geq (.tmp 4) (.const (.int .i64 0))) (some 5) false <|
  .rd 3 none (.mv (.tmp 5)) (some 6) false <|
  .rd 4 (some (6, true)) (.fldA 0 (.tmp 1)) (some 7) false <|
  .rd 5 (some (6, true)) (.ld1 (.tmp 7)) (some 8) false <|
  .rd 6 (some (6, true)) (.bin .lss (.tmp 8) (.const (.int .i64 16777216))) (some 9) false <|
  .rd 7 none (.pick (.tmp 6) (.tmp 9) (.const (.bool false))) (some 10) false <|
  .rd 8 none (.mv (.tmp 10)) (some 11) false <|
  .rd 9 (some (11, true)) (.fldA 1 (.tmp 1)) (some 12) false <|
  .rd 10 (some (11, true)) (.ld1 (.tmp 12)) (some 13) false <|
  .rd 11 (some (11, true)) (.bin .geq (.tmp 13) (.const (.int .i64 1))) (some 14) false <|
  .rd 12 none (.pick (.tmp 11) (.tmp 14) (.const (.bool false))) (some 15) false <|
  .rd 13 none (.mv (.tmp 15)) (some 16) false <|
  .rd 14 (some (16, true)) (.fldA 1 (.tmp 1)) (some 17) false <|
  .rd 15 (some (16, true)) (.ld1 (.tmp 17)) (some 18) false <|
  .rd 16 (some (16, true)) (.bin .leq (.tmp 18) (.const (.int .i64 1073741824))) (some 19) false <|
  .rd 17 none (.pick (.tmp 16) (.tmp 19) (.const (.bool false))) (some 20) false <|
  .rd 18 none (.mv (.tmp 20)) (some 2) false <|
  .done
noncomputable def F.dots_May.ic : IC :=
    (.seq (.reg F.dots_May.r0)
    (.seq (.reg F.dots_May.r1)
    .ret))
noncomputable def F.dots_May.rs : List RO := [(.mv (.tmp 2))]
theorem F.dots_May.ok : cFunc Go.Proofs.Try.prog F.dots_May = some (21, F.dots_May.ic, F.dots_May.rs) := by kernel_rfl
theorem F.dots_May.cl : callable Go.Proofs.Try.prog F.dots_May = true := by kernel_rfl
noncomputable def F.osierref03_May.r0 : Plan :=
  .ef 0 none (.box (.tmp 0)) (some 1) [] (
  .rd 1 none (.mv (.const (.bool false))) (some 2) false <|
  .done) .none
noncomputable def F.osierref03_May.r1 : Plan :=
  .rd 0 none (.fldA 0 (.tmp 1)) (some 3) false <|
  .rd 1 none (.ld1 (.tmp 3)) (some 4) false <|
  .rd 2 none (.bin .geq (.tmp 4) (.const (.int .i64 0))) (some 5) false <|
  .rd 3 none (.mv (.tmp 5)) (some 6) false <|
  .rd 4 (some (6, true)) (.fldA 0 (.tmp 1)) (some 7) false <|
  .rd 5 (some (6, true)) (.ld1 (.tmp 7)) (some 8) false <|
  .rd 6 (some (6, true)) (.bin .leq (.tmp 8) (.const (.int .i64 16777215))) (some 9) false <|
  .rd 7 none (.pick (.tmp 6) (.tmp 9) (.const (.bool false))) (some 10) false <|
  .rd 8 none (.mv (.tmp 10)) (some 11) false <|
  .rd 9 (some (11, true)) (.fldA 1 (.tmp 1)) (some 12) false <|
  .rd 10 (some (11, true)) (.ld1 (.tmp 12)) (some 13) false <|
  .rd 11 (some (11, true)) (.bin .geq (.tmp 13) (.const (.int .i64 1))) (some 14) false <|
  .rd 12 none (.pick (.tmp 11) (.tmp 14) (.const (.bool false))) (some 15) false <|
  .rd 13 none (.mv (.tmp 15)) (some 16) false <|
  .rd 14 (some (16, true)) (.fldA 1 (.tmp 1)) (some 17) false <|
  .rd 15 (some (16, true)) (.ld1 (.tmp 17)) (some 18) false <|
  .rd 16 (some (16, true)) (.bin .leq (.tmp 18) (.const (.int .i64 1073741824))) (some 19) false <|
  .rd 17 none (.pick (.tmp 16) (.tmp 19) (.const (.bool false))) (some 20) false <|
  .rd 18 none (.mv (.tmp 20)) (some 2) false <|
  .done
noncomputable def F.osierref03_May.ic : IC :=
    (.seq (.reg F.osierref03_May.r0)
    (.seq (.reg F.osierref03_May.r1)
    .ret))
noncomputable def F.osierref03_May.rs : List RO := [(.mv (.tmp 2))]
theorem F.osierref03_May.ok : cFunc Go.Proofs.Try.prog F.osierref03_May = some (21, F.osierref03_May.ic, F.osierref03_May.rs) := by kernel_rfl
theorem F.osierref03_May.cl : callable Go.Proofs.Try.prog F.osierref03_May = true := by kernel_rfl
noncomputable def F.osierref03_Less.r0 : Plan :=
  .ef 0 none (.box (.tmp 0)) (some 2) [] (
  .ef 1 none (.box (.tmp 1)) (some 3) [] (
  .rd 2 none (.mv (.const (.bool false))) (some 4) false <|
  .done) .none) .none
noncomputable def F.osierref03_Less.r1 : Plan :=
  .rd 0 none (.fldA 0 (.tmp 2)) (some 5) false <|
  .rd 1 none (.ld1 (.tmp 5)) (some 6) false <|
  .rd 2 none (.fldA 0 (.tmp 3)) (some 7) false <|
  .rd 3 none (.ld1 (.tmp 7)) (some 8) false <|
  .rd 4 none (.bin .neq (.tmp 6) (.tmp 8)) (some 9) false <|
  .done
noncomputable def F.osierref03_Less.r2 : Plan :=
  .rd 0 none (.fldA 0 (.tmp 2)) (some 10) false <|
  .rd 1 none (.ld1 (.tmp 10)) (some 11) false <|
  .rd 2 none (.fldA 0 (.tmp 3)) (some 12) false <|
  .rd 3 none (.ld1 (.tmp 12)) (some 13) false <|
  .rd 4 none (.bin .lss (.tmp 11) (.tmp 13)) (some 14) false <|
  .rd 5 none (.mv (.tmp 14)) (some 4) false <|
  .done
noncomputable def F.osierref03_Less.r3 : Plan :=
  .rd 0 none (.fldA 1 (.tmp 2)) (some 15) false <|
  .rd 1 none (.ld1 (.tmp 15)) (some 16) false <|
  .rd 2 none (.fldA 1 (.tmp 3)) (some 17) false <|
  .rd 3 none (.ld1 (.tmp 17)) (some 18) false <|
  .rd 4 none (.bin .lss (.tmp 16) (.tmp 18)) (some 19) false <|
  .rd 5 none (.mv (.tmp 19)) (some 4) false <|
  .done
noncomputable def F.osierref03_Less.ic : IC :=
    (.seq (.reg F.osierref03_Less.r0)
    (.seq (.seq (.reg F.osierref03_Less.r1)
    (.cond (.tmp 9) (.seq (.reg F.osierref03_Less.r2)
    .ret) .skip))
    (.seq (.reg F.osierref03_Less.r3)
    .ret)))
noncomputable def F.osierref03_Less.rs : List RO := [(.mv (.tmp 4))]
theorem F.osierref03_Less.ok : cFunc Go.Proofs.Try.prog F.osierref03_Less = some (20, F.osierref03_Less.ic, F.osierref03_Less.rs) := by kernel_rfl
theorem F.osierref03_Less.cl : callable Go.Proofs.Try.prog F.osierref03_Less = true := by kernel_rfl
noncomputable def F.dots_Rising.r0 : Plan :=
  .rd 0 none (.mv (.const (.slice none 0 0))) (some 2) false <|
  .done
noncomputable def F.dots_Rising.r1 : Plan :=
  .rd 0 none (.mv (.tmp 0)) (some 3) false <|
  .ef 1 none (.call F.dots_set [(.tmp 3)]) (some 4) [] (
  .ef 2 none (.call F.dots_row [(.tmp 4)]) (some 5) [] (
  .rd 3 none (.mv (.tmp 5)) (some 2) false <|
  .done) .none) .none
noncomputable def F.dots_Rising.ic : IC :=
    (.seq (.reg F.dots_Rising.r0)
    (.seq (.reg F.dots_Rising.r1)
    .ret))
noncomputable def F.dots_Rising.rs : List RO := [(.mv (.tmp 2))]
theorem F.dots_Rising.ok : cFunc Go.Proofs.Try.prog F.dots_Rising = some (6, F.dots_Rising.ic, F.dots_Rising.rs) := by kernel_rfl
theorem F.dots_Rising.cl : callable Go.Proofs.Try.prog F.dots_Rising = true := by kernel_rfl
noncomputable def F.osierref03_In.r0 : Plan :=
  .ef 0 none (.box (.tmp 1)) (some 3) [] (
  .rd 1 none (.mv (.const (.bool false))) (some 4) false <|
  .done) .none
noncomputable def F.osierref03_In.r1 : Plan :=
  .rd 0 none (.mv (.const (.int .i64 0))) (some 5) false <|
  .done
noncomputable def F.osierref03_In.r2 : Plan :=
  .rd 0 none (.mv (.tmp 5)) (some 6) false <|
  .rd 1 none (.mv (.tmp 0)) (some 7) false <|
  .rd 2 none (.len .sl (.tmp 7)) (some 8) false <|
  .rd 3 none (.bin .lss (.tmp 6) (.tmp 8)) (some 9) false <|
  .done
noncomputable def F.osierref03_In.r3 : Plan :=
  .rd 0 none (.mv (.tmp 0)) (some 12) false <|
  .rd 1 none (.mv (.tmp 5)) (some 13) false <|
  .rd 2 none (.idxA 2 (.tmp 12) (.tmp 13)) (some 14) false <|
  .rd 3 none (.ldn 2 (.tmp 14)) (some 15) false <|
  .rd 4 none (.ldn 2 (.tmp 3)) (some 16) false <|
  .rd 5 none (.eqS [(.i .i64), (.i .i64)] true false (.tmp 15) (.tmp 16)) (some 17) false <|
  .done
noncomputable def F.osierref03_In.r4 : Plan :=
  .rd 0 none (.mv (.const (.bool true))) (some 4) false <|
  .done
noncomputable def F.osierref03_In.r5 : Plan :=
  .rd 0 none (.mv (.tmp 5)) (some 10) false <|
  .rd 1 none (.bin .add (.tmp 10) (.const (.int .i64 1))) (some 11) false <|
  .rd 2 none (.mv (.tmp 11)) (some 5) false <|
  .done
noncomputable def F.osierref03_In.l0 : IC :=
    (.seq (.seq (.reg F.osierref03_In.r2)
    (.cond (.tmp 9) .skip (.exit 0)))
    (.seq (.block 1 (.seq (.reg F.osierref03_In.r3)
    (.cond (.tmp 17) (.seq (.reg F.osierref03_In.r4)
    .ret) .skip)))
    (.reg F.osierref03_In.r5)))
noncomputable def F.osierref03_In.r6 : Plan :=
  .rd 0 none (.mv (.const (.bool false))) (some 4) false <|
  .done
noncomputable def F.osierref03_In.ic : IC :=
    (.seq (.reg F.osierref03_In.r0)
    (.seq (.seq (.reg F.osierref03_In.r1)
    (.block 0 (.loop F.osierref03_In.l0)))
    (.seq (.reg F.osierref03_In.r6)
    .ret)))
noncomputable def F.osierref03_In.rs : List RO := [(.mv (.tmp 4))]
theorem F.osierref03_In.ok : cFunc Go.Proofs.Try.prog F.osierref03_In = some (18, F.osierref03_In.ic, F.osierref03_In.rs) := by kernel_rfl
theorem F.osierref03_In.cl : callable Go.Proofs.Try.prog F.osierref03_In = true := by kernel_rfl
noncomputable def F.osierref03_Same.r0 : Plan :=
  .rd 0 none (.mv (.const (.bool false))) (some 4) false <|
  .done
noncomputable def F.osierref03_Same.r1 : Plan :=
  .rd 0 none (.mv (.tmp 0)) (some 6) false <|
  .rd 1 none (.len .sl (.tmp 6)) (some 7) false <|
  .rd 2 none (.mv (.tmp 1)) (some 8) false <|
  .rd 3 none (.len .sl (.tmp 8)) (some 9) false <|
  .rd 4 none (.bin .neq (.tmp 7) (.tmp 9)) (some 10) false <|
  .done
noncomputable def F.osierref03_Same.r2 : Plan :=
  .rd 0 none (.mv (.const (.bool false))) (some 4) false <|
  .done
noncomputable def F.osierref03_Same.r3 : Plan :=
  .rd 0 none (.mv (.const (.int .i64 0))) (some 5) false <|
  .done
noncomputable def F.osierref03_Same.r4 : Plan :=
  .rd 0 none (.mv (.tmp 5)) (some 11) false <|
  .rd 1 none (.mv (.tmp 0)) (some 12) false <|
  .rd 2 none (.len .sl (.tmp 12)) (some 13) false <|
  .rd 3 none (.bin .lss (.tmp 11) (.tmp 13)) (some 14) false <|
  .done
noncomputable def F.osierref03_Same.r5 : Plan :=
  .rd 0 none (.mv (.tmp 0)) (some 17) false <|
  .rd 1 none (.mv (.tmp 5)) (some 18) false <|
  .rd 2 none (.idxA 2 (.tmp 17) (.tmp 18)) (some 19) false <|
  .rd 3 none (.ldn 2 (.tmp 19)) (some 20) false <|
  .rd 4 none (.mv (.tmp 1)) (some 21) false <|
  .rd 5 none (.mv (.tmp 5)) (some 22) false <|
  .rd 6 none (.idxA 2 (.tmp 21) (.tmp 22)) (some 23) false <|
  .rd 7 none (.ldn 2 (.tmp 23)) (some 24) false <|
  .rd 8 none (.eqS [(.i .i64), (.i .i64)] true true (.tmp 20) (.tmp 24)) (some 25) false <|
  .done
noncomputable def F.osierref03_Same.r6 : Plan :=
  .rd 0 none (.mv (.const (.bool false))) (some 4) false <|
  .done
noncomputable def F.osierref03_Same.r7 : Plan :=
  .rd 0 none (.mv (.tmp 5)) (some 15) false <|
  .rd 1 none (.bin .add (.tmp 15) (.const (.int .i64 1))) (some 16) false <|
  .rd 2 none (.mv (.tmp 16)) (some 5) false <|
  .done
noncomputable def F.osierref03_Same.l0 : IC :=
    (.seq (.seq (.reg F.osierref03_Same.r4)
    (.cond (.tmp 14) .skip (.exit 0)))
    (.seq (.block 1 (.seq (.reg F.osierref03_Same.r5)
    (.cond (.tmp 25) (.seq (.reg F.osierref03_Same.r6)
    .ret) .skip)))
    (.reg F.osierref03_Same.r7)))
noncomputable def F.osierref03_Same.r8 : Plan :=
  .rd 0 none (.mv (.const (.bool true))) (some 4) false <|
  .done
noncomputable def F.osierref03_Same.ic : IC :=
    (.seq (.reg F.osierref03_Same.r0)
    (.seq (.seq (.reg F.osierref03_Same.r1)
    (.cond (.tmp 10) (.seq (.reg F.osierref03_Same.r2)
    .ret) .skip))
    (.seq (.seq (.reg F.osierref03_Same.r3)
    (.block 0 (.loop F.osierref03_Same.l0)))
    (.seq (.reg F.osierref03_Same.r8)
    .ret))))
noncomputable def F.osierref03_Same.rs : List RO := [(.mv (.tmp 4))]
theorem F.osierref03_Same.ok : cFunc Go.Proofs.Try.prog F.osierref03_Same = some (26, F.osierref03_Same.ic, F.osierref03_Same.rs) := by kernel_rfl
theorem F.osierref03_Same.cl : callable Go.Proofs.Try.prog F.osierref03_Same = true := by kernel_rfl
noncomputable def F.dots_Minus.r0 : Plan :=
  .rd 0 none (.mv (.const (.slice none 0 0))) (some 4) false <|
  .done
noncomputable def F.dots_Minus.r1 : Plan :=
  .rd 0 none (.mv (.tmp 0)) (some 8) false <|
  .ef 1 none (.call F.dots_set [(.tmp 8)]) (some 9) [] (
  .rd 2 none (.mv (.tmp 9)) (some 5) false <|
  .done) .none
noncomputable def F.dots_Minus.r2 : Plan :=
  .rd 0 none (.mv (.tmp 1)) (some 10) false <|
  .rd 1 none (.len .sl (.tmp 10)) (some 11) false <|
  .rd 2 none (.mv (.const (.int .i64 0))) (some 12) false <|
  .done
noncomputable def F.dots_Minus.r3 : Plan :=
  .rd 0 none (.bin .lss (.tmp 12) (.tmp 11)) (some 13) false <|
  .done
noncomputable def F.dots_Minus.r4 : Plan :=
  .rd 0 none (.idxA 2 (.tmp 10) (.tmp 12)) (some 14) false <|
  .rd 1 none (.ldn 2 (.tmp 14)) (some 15) false <|
  .ef 2 none (.alloc [(.int .i64 0), (.int .i64 0)]) (some 7) [] (
  .ef 3 none (.st 2 (.tmp 7) (.tmp 15)) none [] (
  .done) .none) .none
noncomputable def F.dots_Minus.r5 : Plan :=
  .rd 0 none (.mv (.tmp 5)) (some 16) false <|
  .rd 1 none (.ldn 2 (.tmp 7)) (some 17) false <|
  .ef 2 none (.mdel [(.i .i64), (.i .i64)] true (.tmp 16) (.tmp 17)) none [] (
  .done) .none
noncomputable def F.dots_Minus.r6 : Plan :=
  .rd 0 none (.bin .add (.tmp 12) (.const (.int .i64 1))) (some 18) false <|
  .rd 1 none (.mv (.tmp 18)) (some 12) false <|
  .done
noncomputable def F.dots_Minus.l0 : IC :=
    (.seq (.reg F.dots_Minus.r3)
    (.seq (.cond (.tmp 13) .skip (.exit 0))
    (.seq (.block 1 (.seq (.reg F.dots_Minus.r4)
    (.reg F.dots_Minus.r5)))
    (.reg F.dots_Minus.r6))))
noncomputable def F.dots_Minus.r7 : Plan :=
  .rd 0 none (.mv (.tmp 5)) (some 19) false <|
  .ef 1 none (.call F.dots_row [(.tmp 19)]) (some 20) [] (
  .rd 2 none (.mv (.tmp 20)) (some 4) false <|
  .done) .none
noncomputable def F.dots_Minus.ic : IC :=
    (.seq (.reg F.dots_Minus.r0)
    (.seq (.reg F.dots_Minus.r1)
    (.seq (.seq (.reg F.dots_Minus.r2)
    (.block 0 (.loop F.dots_Minus.l0)))
    (.seq (.reg F.dots_Minus.r7)
    .ret))))
noncomputable def F.dots_Minus.rs : List RO := [(.mv (.tmp 4))]
theorem F.dots_Minus.ok : cFunc Go.Proofs.Try.prog F.dots_Minus = some (21, F.dots_Minus.ic, F.dots_Minus.rs) := by kernel_rfl
theorem F.dots_Minus.cl : callable Go.Proofs.Try.prog F.dots_Minus = true := by kernel_rfl
noncomputable def F.osierref03_Rising.r0 : Plan :=
  .rd 0 none (.mv (.const (.slice none 0 0))) (some 2) false <|
  .done
noncomputable def F.osierref03_Rising.r1 : Plan :=
  .rd 0 none (.mv (.const (.slice none 0 0))) (some 3) false <|
  .done
noncomputable def F.osierref03_Rising.r2 : Plan :=
  .rd 0 none (.mv (.const (.int .i64 0))) (some 4) false <|
  .done
noncomputable def F.osierref03_Rising.r3 : Plan :=
  .rd 0 none (.mv (.tmp 4)) (some 5) false <|
  .rd 1 none (.mv (.tmp 0)) (some 6) false <|
  .rd 2 none (.len .sl (.tmp 6)) (some 7) false <|
  .rd 3 none (.bin .lss (.tmp 5) (.tmp 7)) (some 8) false <|
  .done
noncomputable def F.osierref03_Rising.r4 : Plan :=
  .rd 0 none (.mv (.tmp 3)) (some 11) false <|
  .rd 1 none (.mv (.tmp 0)) (some 12) false <|
  .rd 2 none (.mv (.tmp 4)) (some 13) false <|
  .rd 3 none (.idxA 2 (.tmp 12) (.tmp 13)) (some 14) false <|
  .rd 4 none (.ldn 2 (.tmp 14)) (some 15) false <|
  .ef 5 none (.call F.osierref03_Put1 [(.tmp 11), (.tmp 15)]) (some 16) [] (
  .rd 6 none (.mv (.tmp 16)) (some 3) false <|
  .done) .none
noncomputable def F.osierref03_Rising.r5 : Plan :=
  .rd 0 none (.mv (.tmp 4)) (some 9) false <|
  .rd 1 none (.bin .add (.tmp 9) (.const (.int .i64 1))) (some 10) false <|
  .rd 2 none (.mv (.tmp 10)) (some 4) false <|
  .done
noncomputable def F.osierref03_Rising.l0 : IC :=
    (.seq (.seq (.reg F.osierref03_Rising.r3)
    (.cond (.tmp 8) .skip (.exit 0)))
    (.seq (.block 1 (.reg F.osierref03_Rising.r4))
    (.reg F.osierref03_Rising.r5)))
noncomputable def F.osierref03_Rising.r6 : Plan :=
  .rd 0 none (.mv (.tmp 3)) (some 17) false <|
  .rd 1 none (.mv (.tmp 17)) (some 2) false <|
  .done
noncomputable def F.osierref03_Rising.ic : IC :=
    (.seq (.reg F.osierref03_Rising.r0)
    (.seq (.reg F.osierref03_Rising.r1)
    (.seq (.seq (.reg F.osierref03_Rising.r2)
    (.block 0 (.loop F.osierref03_Rising.l0)))
    (.seq (.reg F.osierref03_Rising.r6)
    .ret))))
noncomputable def F.osierref03_Rising.rs : List RO := [(.mv (.tmp 2))]
theorem F.osierref03_Rising.ok : cFunc Go.Proofs.Try.prog F.osierref03_Rising = some (18, F.osierref03_Rising.ic, F.osierref03_Rising.rs) := by kernel_rfl
theorem F.osierref03_Rising.cl : callable Go.Proofs.Try.prog F.osierref03_Rising = true := by kernel_rfl
noncomputable def F.dots_Union.r0 : Plan :=
  .rd 0 none (.mv (.const (.slice none 0 0))) (some 4) false <|
  .done
noncomputable def F.dots_Union.r1 : Plan :=
  .rd 0 none (.mv (.tmp 0)) (some 5) false <|
  .rd 1 none (.mv (.tmp 1)) (some 6) false <|
  .ef 2 none (.bsl 2 [(.slice none 0 0), (.slice none 0 0)] [(0, (1, (.tmp 5))), (1, (1, (.tmp 6)))]) (some 7) [] (
  .ef 3 none (.call F.slices_Concat_s_api_Dot_api_Dot [(.tmp 7)]) (some 8) [] (
  .ef 4 none (.call F.dots_set [(.tmp 8)]) (some 9) [] (
  .ef 5 none (.call F.dots_row [(.tmp 9)]) (some 10) [] (
  .rd 6 none (.mv (.tmp 10)) (some 4) false <|
  .done) .none) .none) .none) .none
noncomputable def F.dots_Union.ic : IC :=
    (.seq (.reg F.dots_Union.r0)
    (.seq (.reg F.dots_Union.r1)
    .ret))
noncomputable def F.dots_Union.rs : List RO := [(.mv (.tmp 4))]
theorem F.dots_Union.ok : cFunc Go.Proofs.Try.prog F.dots_Union = some (11, F.dots_Union.ic, F.dots_Union.rs) := by kernel_rfl
theorem F.dots_Union.cl : callable Go.Proofs.Try.prog F.dots_Union = true := by kernel_rfl
noncomputable def F.dots_Meet.r0 : Plan :=
  .rd 0 none (.mv (.const (.slice none 0 0))) (some 4) false <|
  .done
noncomputable def F.dots_Meet.r1 : Plan :=
  .rd 0 none (.mv (.tmp 0)) (some 5) false <|
  .rd 1 none (.mv (.tmp 0)) (some 6) false <|
  .rd 2 none (.mv (.tmp 1)) (some 7) false <|
  .ef 3 none (.call F.dots_Minus [(.tmp 6), (.tmp 7)]) (some 8) [] (
  .ef 4 none (.call F.dots_Minus [(.tmp 5), (.tmp 8)]) (some 9) [] (
  .rd 5 none (.mv (.tmp 9)) (some 4) false <|
  .done) .none) .none
noncomputable def F.dots_Meet.ic : IC :=
    (.seq (.reg F.dots_Meet.r0)
    (.seq (.reg F.dots_Meet.r1)
    .ret))
noncomputable def F.dots_Meet.rs : List RO := [(.mv (.tmp 4))]
theorem F.dots_Meet.ok : cFunc Go.Proofs.Try.prog F.dots_Meet = some (10, F.dots_Meet.ic, F.dots_Meet.rs) := by kernel_rfl
theorem F.dots_Meet.cl : callable Go.Proofs.Try.prog F.dots_Meet = true := by kernel_rfl
noncomputable def F.osierref03_Choose.r0 : Plan :=
  .rd 0 none (.mv (.const (.slice none 0 0))) (some 6) false <|
  .done
noncomputable def F.osierref03_Choose.r1 : Plan :=
  .rd 0 none (.mv (.const (.slice none 0 0))) (some 7) false <|
  .done
noncomputable def F.osierref03_Choose.r2 : Plan :=
  .rd 0 none (.mv (.const (.int .i64 0))) (some 8) false <|
  .done
noncomputable def F.osierref03_Choose.r3 : Plan :=
  .rd 0 none (.mv (.tmp 8)) (some 10) false <|
  .rd 1 none (.mv (.tmp 0)) (some 11) false <|
  .rd 2 none (.len .sl (.tmp 11)) (some 12) false <|
  .rd 3 none (.bin .lss (.tmp 10) (.tmp 12)) (some 13) false <|
  .done
noncomputable def F.osierref03_Choose.r4 : Plan :=
  .rd 0 none (.mv (.tmp 1)) (some 16) false <|
  .rd 1 none (.mv (.tmp 0)) (some 17) false <|
  .rd 2 none (.mv (.tmp 8)) (some 18) false <|
  .rd 3 none (.idxA 2 (.tmp 17) (.tmp 18)) (some 19) false <|
  .rd 4 none (.ldn 2 (.tmp 19)) (some 20) false <|
  .ef 5 none (.call F.osierref03_In [(.tmp 16), (.tmp 20)]) (some 21) [] (
  .rd 6 none (.mv (.tmp 21)) (some 9) false <|
  .done) .none
noncomputable def F.osierref03_Choose.r5 : Plan :=
  .rd 0 none (.mv (.tmp 9)) (some 22) false <|
  .rd 1 none (.mv (.tmp 2)) (some 23) false <|
  .rd 2 none (.eqS [.b] false false (.tmp 22) (.tmp 23)) (some 24) false <|
  .done
noncomputable def F.osierref03_Choose.r6 : Plan :=
  .rd 0 none (.mv (.tmp 7)) (some 25) false <|
  .rd 1 none (.mv (.tmp 0)) (some 26) false <|
  .rd 2 none (.mv (.tmp 8)) (some 27) false <|
  .rd 3 none (.idxA 2 (.tmp 26) (.tmp 27)) (some 28) false <|
  .rd 4 none (.ldn 2 (.tmp 28)) (some 29) false <|
  .ef 5 none (.call F.osierref03_Put1 [(.tmp 25), (.tmp 29)]) (some 30) [] (
  .rd 6 none (.mv (.tmp 30)) (some 7) false <|
  .done) .none
noncomputable def F.osierref03_Choose.r7 : Plan :=
  .rd 0 none (.mv (.tmp 8)) (some 14) false <|
  .rd 1 none (.bin .add (.tmp 14) (.const (.int .i64 1))) (some 15) false <|
  .rd 2 none (.mv (.tmp 15)) (some 8) false <|
  .done
noncomputable def F.osierref03_Choose.l0 : IC :=
    (.seq (.seq (.reg F.osierref03_Choose.r3)
    (.cond (.tmp 13) .skip (.exit 0)))
    (.seq (.block 1 (.seq (.reg F.osierref03_Choose.r4)
    (.seq (.reg F.osierref03_Choose.r5)
    (.cond (.tmp 24) (.reg F.osierref03_Choose.r6) .skip))))
    (.reg F.osierref03_Choose.r7)))
noncomputable def F.osierref03_Choose.r8 : Plan :=
  .rd 0 none (.mv (.tmp 7)) (some 31) false <|
  .rd 1 none (.mv (.tmp 31)) (some 6) false <|
  .done
noncomputable def F.osierref03_Choose.ic : IC :=
    (.seq (.reg F.osierref03_Choose.r0)
    (.seq (.reg F.osierref03_Choose.r1)
    (.seq (.seq (.reg F.osierref03_Choose.r2)
    (.block 0 (.loop F.osierref03_Choose.l0)))
    (.seq (.reg F.osierref03_Choose.r8)
    .ret))))
noncomputable def F.osierref03_Choose.rs : List RO := [(.mv (.tmp 6))]
theorem F.osierref03_Choose.ok : cFunc Go.Proofs.Try.prog F.osierref03_Choose = some (32, F.osierref03_Choose.ic, F.osierref03_Choose.rs) := by kernel_rfl
theorem F.osierref03_Choose.cl : callable Go.Proofs.Try.prog F.osierref03_Choose = true := by kernel_rfl
noncomputable def F.dots_Places.r0 : Plan :=
  .rd 0 none (.mv (.const (.map none))) (some 2) false <|
  .done
noncomputable def F.dots_Places.r1 : Plan :=
  .ef 0 none .mkMap (some 8) [] (
  .rd 1 none (.mv (.tmp 8)) (some 3) false <|
  .done) .none
noncomputable def F.dots_Places.r2 : Plan :=
  .rd 0 none (.mv (.tmp 0)) (some 9) false <|
  .rd 1 none (.len .sl (.tmp 9)) (some 10) false <|
  .rd 2 none (.mv (.const (.int .i64 0))) (some 11) false <|
  .done
noncomputable def F.dots_Places.r3 : Plan :=
  .rd 0 none (.bin .lss (.tmp 11) (.tmp 10)) (some 12) false <|
  .done
noncomputable def F.dots_Places.r4 : Plan :=
  .rd 0 none (.mv (.tmp 11)) (some 13) false <|
  .rd 1 none (.idxA 2 (.tmp 9) (.tmp 11)) (some 14) false <|
  .rd 2 none (.ldn 2 (.tmp 14)) (some 15) false <|
  .ef 3 none (.alloc [(.int .i64 0), (.int .i64 0)]) (some 5) [] (
  .rd 4 none (.mv (.tmp 13)) (some 4) false <|
  .ef 5 none (.st 2 (.tmp 5) (.tmp 15)) none [] (
  .done) .none) .none
noncomputable def F.dots_Places.r5 : Plan :=
  .rd 0 none (.mv (.tmp 3)) (some 17) false <|
  .rd 1 none (.ldn 2 (.tmp 5)) (some 18) false <|
  .rd 2 none (.look [(.i .i64), (.i .i64)] true (.int .i64 0) true (.tmp 17) (.tmp 18)) (some 19) false <|
  .rd 3 none (.mv (.tmp 19)) (some 16) false <|
  .rd 4 none (.ext 0 (.tmp 16)) (some 20) false <|
  .rd 5 none (.ext 1 (.tmp 16)) (some 21) false <|
  .rd 6 none (.mv (.tmp 20)) (some 6) false <|
  .rd 7 none (.mv (.tmp 21)) (some 7) false <|
  .done
noncomputable def F.dots_Places.r6 : Plan :=
  .rd 0 none (.mv (.tmp 7)) (some 22) false <|
  .rd 1 none (.un .not (.tmp 22)) (some 23) false <|
  .done
noncomputable def F.dots_Places.r7 : Plan :=
  .rd 0 none (.mv (.tmp 3)) (some 24) false <|
  .rd 1 none (.ldn 2 (.tmp 5)) (some 25) false <|
  .rd 2 none (.mv (.tmp 4)) (some 26) false <|
  .ef 3 none (.mset [(.i .i64), (.i .i64)] true (.tmp 24) (.tmp 25) (.tmp 26)) none [] (
  .done) .none
noncomputable def F.dots_Places.r8 : Plan :=
  .rd 0 none (.bin .add (.tmp 11) (.const (.int .i64 1))) (some 27) false <|
  .rd 1 none (.mv (.tmp 27)) (some 11) false <|
  .done
noncomputable def F.dots_Places.l0 : IC :=
    (.seq (.reg F.dots_Places.r3)
    (.seq (.cond (.tmp 12) .skip (.exit 0))
    (.seq (.block 1 (.seq (.reg F.dots_Places.r4)
    (.seq (.reg F.dots_Places.r5)
    (.seq (.reg F.dots_Places.r6)
    (.cond (.tmp 23) (.reg F.dots_Places.r7) .skip)))))
    (.reg F.dots_Places.r8))))
noncomputable def F.dots_Places.r9 : Plan :=
  .rd 0 none (.mv (.tmp 3)) (some 28) false <|
  .rd 1 none (.mv (.tmp 28)) (some 2) false <|
  .done
noncomputable def F.dots_Places.ic : IC :=
    (.seq (.reg F.dots_Places.r0)
    (.seq (.reg F.dots_Places.r1)
    (.seq (.seq (.reg F.dots_Places.r2)
    (.block 0 (.loop F.dots_Places.l0)))
    (.seq (.reg F.dots_Places.r9)
    .ret))))
noncomputable def F.dots_Places.rs : List RO := [(.mv (.tmp 2))]
theorem F.dots_Places.ok : cFunc Go.Proofs.Try.prog F.dots_Places = some (29, F.dots_Places.ic, F.dots_Places.rs) := by kernel_rfl
theorem F.dots_Places.cl : callable Go.Proofs.Try.prog F.dots_Places = true := by kernel_rfl
noncomputable def F.dots_compare.r0 : Plan :=
  .ef 0 none (.box (.tmp 0)) (some 2) [] (
  .ef 1 none (.box (.tmp 1)) (some 3) [] (
  .rd 2 none (.mv (.const (.int .i64 0))) (some 4) false <|
  .done) .none) .none
noncomputable def F.dots_compare.r1 : Plan :=
  .rd 0 none (.fldA 0 (.tmp 2)) (some 5) false <|
  .rd 1 none (.ld1 (.tmp 5)) (some 6) false <|
  .rd 2 none (.fldA 0 (.tmp 3)) (some 7) false <|
  .rd 3 none (.ld1 (.tmp 7)) (some 8) false <|
  .rd 5 none (.fldA 1 (.tmp 2)) (some 10) false <|
  .rd 6 none (.ld1 (.tmp 10)) (some 11) true <|
  .rd 7 none (.fldA 1 (.tmp 3)) (some 12) false <|
  .rd 8 none (.ld1 (.tmp 12)) (some 13) true <|
  .ef 4 none (.call F.cmp_Compare_int [(.tmp 6), (.tmp 8)]) (some 9) [5, 6, 7, 8] (
  .ef 9 none (.call F.cmp_Compare_int [(.tmp 11), (.tmp 13)]) (some 14) [] (
  .ef 10 none (.bsl 2 [(.int .i64 0), (.int .i64 0)] [(0, (1, (.tmp 9))), (1, (1, (.tmp 14)))]) (some 15) [] (
  .ef 11 none (.call F.cmp_Or_int [(.tmp 15)]) (some 16) [] (
  .rd 12 none (.mv (.tmp 16)) (some 4) false <|
  .done) .none) .none) .none) .none
noncomputable def F.dots_compare.ic : IC :=
    (.seq (.reg F.dots_compare.r0)
    (.seq (.reg F.dots_compare.r1)
    .ret))
noncomputable def F.dots_compare.rs : List RO := [(.mv (.tmp 4))]
theorem F.dots_compare.ok : cFunc Go.Proofs.Try.prog F.dots_compare = some (17, F.dots_compare.ic, F.dots_compare.rs) := by kernel_rfl
theorem F.dots_compare.cl : callable Go.Proofs.Try.prog F.dots_compare = true := by kernel_rfl
noncomputable def F.dots_row.r0 : Plan :=
  .rd 0 none (.mv (.const (.slice none 0 0))) (some 2) false <|
  .done
noncomputable def F.dots_row.r1 : Plan :=
  .ef 0 none (.bsl 0 [] []) (some 5) [] (
  .rd 1 none (.mv (.tmp 5)) (some 3) false <|
  .done) .none
noncomputable def F.dots_row.r2 : Plan :=
  .rd 0 none (.mv (.tmp 0)) (some 6) false <|
  .ef 1 none (.rng false (.tmp 6)) (some 7) [] (
  .done) .none
noncomputable def F.dots_row.r3 : Plan :=
  .ef 0 none (.nxt false (.tmp 7)) (some 8) [] (
  .rd 1 none (.ext 0 (.tmp 8)) (some 9) false <|
  .done) .none
noncomputable def F.dots_row.r4 : Plan :=
  .ef 0 none (.ent (.tmp 7)) (some 10) [] (
  .rd 1 none (.ext 0 (.tmp 10)) (some 11) false <|
  .ef 2 none (.alloc [(.int .i64 0), (.int .i64 0)]) (some 4) [] (
  .ef 3 none (.st 2 (.tmp 4) (.tmp 11)) none [] (
  .done) .none) .none) .none
noncomputable def F.dots_row.r5 : Plan :=
  .rd 0 none (.mv (.tmp 3)) (some 12) false <|
  .rd 1 none (.ldn 2 (.tmp 4)) (some 13) false <|
  .ef 2 none (.bsl 1 [(.int .i64 0), (.int .i64 0)] [(0, (2, (.tmp 13)))]) (some 14) [] (
  .ef 3 none (.app 2 16 (.tmp 12) (.tmp 14)) (some 15) [] (
  .rd 4 none (.mv (.tmp 15)) (some 3) false <|
  .done) .none) .none
noncomputable def F.dots_row.l0 : IC :=
    (.seq (.reg F.dots_row.r3)
    (.seq (.cond (.tmp 9) .skip (.exit 0))
    (.block 1 (.seq (.reg F.dots_row.r4)
    (.reg F.dots_row.r5)))))
noncomputable def F.dots_row.r6 : Plan :=
  .rd 0 none (.mv (.tmp 3)) (some 16) false <|
  .ef 1 none (.call F.slices_SortFunc_s_api_Dot_api_Dot [(.tmp 16), (.func F.dots_compare)]) (some 17) [] (
  .done) .none
noncomputable def F.dots_row.r7 : Plan :=
  .rd 0 none (.mv (.tmp 3)) (some 18) false <|
  .rd 1 none (.mv (.tmp 18)) (some 2) false <|
  .done
noncomputable def F.dots_row.ic : IC :=
    (.seq (.reg F.dots_row.r0)
    (.seq (.reg F.dots_row.r1)
    (.seq (.seq (.reg F.dots_row.r2)
    (.block 0 (.loop F.dots_row.l0)))
    (.seq (.reg F.dots_row.r6)
    (.seq (.reg F.dots_row.r7)
    .ret)))))
noncomputable def F.dots_row.rs : List RO := [(.mv (.tmp 2))]
theorem F.dots_row.ok : cFunc Go.Proofs.Try.prog F.dots_row = some (19, F.dots_row.ic, F.dots_row.rs) := by kernel_rfl
theorem F.dots_row.cl : callable Go.Proofs.Try.prog F.dots_row = true := by kernel_rfl
noncomputable def F.dots_set.r0 : Plan :=
  .rd 0 none (.mv (.const (.map none))) (some 2) false <|
  .done
noncomputable def F.dots_set.r1 : Plan :=
  .ef 0 none .mkMap (some 6) [] (
  .rd 1 none (.mv (.tmp 6)) (some 3) false <|
  .done) .none
noncomputable def F.dots_set.r2 : Plan :=
  .rd 0 none (.mv (.tmp 0)) (some 7) false <|
  .rd 1 none (.len .sl (.tmp 7)) (some 8) false <|
  .rd 2 none (.mv (.const (.int .i64 0))) (some 9) false <|
  .done
noncomputable def F.dots_set.r3 : Plan :=
  .rd 0 none (.bin .lss (.tmp 9) (.tmp 8)) (some 10) false <|
  .done
noncomputable def F.dots_set.r4 : Plan :=
  .rd 0 none (.idxA 2 (.tmp 7) (.tmp 9)) (some 11) false <|
  .rd 1 none (.ldn 2 (.tmp 11)) (some 12) false <|
  .ef 2 none (.alloc [(.int .i64 0), (.int .i64 0)]) (some 5) [] (
  .ef 3 none (.st 2 (.tmp 5) (.tmp 12)) none [] (
  .done) .none) .none
noncomputable def F.dots_set.r5 : Plan :=
  .rd 0 none (.mv (.tmp 3)) (some 13) false <|
  .rd 1 none (.ldn 2 (.tmp 5)) (some 14) false <|
  .ef 2 none (.mset [(.i .i64), (.i .i64)] true (.tmp 13) (.tmp 14) (.const (.bool true))) none [] (
  .done) .none
noncomputable def F.dots_set.r6 : Plan :=
  .rd 0 none (.bin .add (.tmp 9) (.const (.int .i64 1))) (some 15) false <|
  .rd 1 none (.mv (.tmp 15)) (some 9) false <|
  .done
noncomputable def F.dots_set.l0 : IC :=
    (.seq (.reg F.dots_set.r3)
    (.seq (.cond (.tmp 10) .skip (.exit 0))
    (.seq (.block 1 (.seq (.reg F.dots_set.r4)
    (.reg F.dots_set.r5)))
    (.reg F.dots_set.r6))))
noncomputable def F.dots_set.r7 : Plan :=
  .rd 0 none (.mv (.tmp 3)) (some 16) false <|
  .rd 1 none (.mv (.tmp 16)) (some 2) false <|
  .done
noncomputable def F.dots_set.ic : IC :=
    (.seq (.reg F.dots_set.r0)
    (.seq (.reg F.dots_set.r1)
    (.seq (.seq (.reg F.dots_set.r2)
    (.block 0 (.loop F.dots_set.l0)))
    (.seq (.reg F.dots_set.r7)
    .ret))))
noncomputable def F.dots_set.rs : List RO := [(.mv (.tmp 2))]
theorem F.dots_set.ok : cFunc Go.Proofs.Try.prog F.dots_set = some (17, F.dots_set.ic, F.dots_set.rs) := by kernel_rfl
theorem F.dots_set.cl : callable Go.Proofs.Try.prog F.dots_set = true := by kernel_rfl
noncomputable def F.osierref03_Put1.r0 : Plan :=
  .ef 0 none (.box (.tmp 1)) (some 3) [] (
  .rd 1 none (.mv (.const (.slice none 0 0))) (some 4) false <|
  .done) .none
noncomputable def F.osierref03_Put1.r1 : Plan :=
  .rd 0 none (.mv (.const (.int .i64 0))) (some 5) false <|
  .done
noncomputable def F.osierref03_Put1.r2 : Plan :=
  .rd 0 none (.mv (.tmp 5)) (some 7) false <|
  .rd 1 none (.mv (.tmp 0)) (some 8) false <|
  .rd 2 none (.len .sl (.tmp 8)) (some 9) false <|
  .rd 3 none (.bin .lss (.tmp 7) (.tmp 9)) (some 10) false <|
  .rd 4 none (.mv (.tmp 10)) (some 11) false <|
  .rd 5 (some (11, true)) (.mv (.tmp 0)) (some 12) false <|
  .rd 6 (some (11, true)) (.mv (.tmp 5)) (some 13) false <|
  .rd 7 (some (11, true)) (.idxA 2 (.tmp 12) (.tmp 13)) (some 14) false <|
  .rd 8 (some (11, true)) (.ldn 2 (.tmp 14)) (some 15) false <|
  .rd 9 (some (11, true)) (.ldn 2 (.tmp 3)) (some 16) false <|
  .ef 10 (some (11, true)) (.call F.osierref03_Less [(.tmp 15), (.tmp 16)]) (some 17) [] (
  .rd 11 none (.pick (.tmp 11) (.tmp 17) (.const (.bool false))) (some 18) false <|
  .done) .none
noncomputable def F.osierref03_Put1.r3 : Plan :=
  .rd 0 none (.mv (.tmp 5)) (some 19) false <|
  .rd 1 none (.bin .add (.tmp 19) (.const (.int .i64 1))) (some 20) false <|
  .rd 2 none (.mv (.tmp 20)) (some 5) false <|
  .done
noncomputable def F.osierref03_Put1.l0 : IC :=
    (.seq (.seq (.reg F.osierref03_Put1.r2)
    (.cond (.tmp 18) .skip (.exit 0)))
    (.block 1 (.reg F.osierref03_Put1.r3)))
noncomputable def F.osierref03_Put1.r4 : Plan :=
  .rd 0 none (.mv (.tmp 5)) (some 21) false <|
  .rd 1 none (.mv (.tmp 0)) (some 22) false <|
  .rd 2 none (.len .sl (.tmp 22)) (some 23) false <|
  .rd 3 none (.bin .lss (.tmp 21) (.tmp 23)) (some 24) false <|
  .rd 4 none (.mv (.tmp 24)) (some 25) false <|
  .rd 5 (some (25, true)) (.mv (.tmp 0)) (some 26) false <|
  .rd 6 (some (25, true)) (.mv (.tmp 5)) (some 27) false <|
  .rd 7 (some (25, true)) (.idxA 2 (.tmp 26) (.tmp 27)) (some 28) false <|
  .rd 8 (some (25, true)) (.ldn 2 (.tmp 28)) (some 29) false <|
  .rd 9 (some (25, true)) (.ldn 2 (.tmp 3)) (some 30) false <|
  .rd 10 (some (25, true)) (.eqS [(.i .i64), (.i .i64)] true false (.tmp 29) (.tmp 30)) (some 31) false <|
  .rd 11 none (.pick (.tmp 25) (.tmp 31) (.const (.bool false))) (some 32) false <|
  .done
noncomputable def F.osierref03_Put1.r5 : Plan :=
  .rd 0 none (.mv (.tmp 0)) (some 33) false <|
  .rd 1 none (.mv (.tmp 33)) (some 4) false <|
  .done
noncomputable def F.osierref03_Put1.r6 : Plan :=
  .rd 0 none (.mv (.const (.slice none 0 0))) (some 6) false <|
  .done
noncomputable def F.osierref03_Put1.r7 : Plan :=
  .rd 0 none (.mv (.tmp 6)) (some 34) false <|
  .rd 1 none (.mv (.tmp 0)) (some 35) false <|
  .rd 2 none (.mv (.tmp 5)) (some 36) false <|
  .rd 3 none (.sl 2 (.tmp 35) none (some (.tmp 36)) none) (some 37) false <|
  .ef 4 none (.app 2 16 (.tmp 34) (.tmp 37)) (some 38) [] (
  .rd 5 none (.mv (.tmp 38)) (some 6) false <|
  .done) .none
noncomputable def F.osierref03_Put1.r8 : Plan :=
  .rd 0 none (.mv (.tmp 6)) (some 39) false <|
  .rd 1 none (.ldn 2 (.tmp 3)) (some 40) false <|
  .ef 2 none (.bsl 1 [(.int .i64 0), (.int .i64 0)] [(0, (2, (.tmp 40)))]) (some 41) [] (
  .ef 3 none (.app 2 16 (.tmp 39) (.tmp 41)) (some 42) [] (
  .rd 4 none (.mv (.tmp 42)) (some 6) false <|
  .done) .none) .none
noncomputable def F.osierref03_Put1.r9 : Plan :=
  .rd 0 none (.mv (.tmp 6)) (some 43) false <|
  .rd 1 none (.mv (.tmp 0)) (some 44) false <|
  .rd 2 none (.mv (.tmp 5)) (some 45) false <|
  .rd 3 none (.sl 2 (.tmp 44) (some (.tmp 45)) none none) (some 46) false <|
  .ef 4 none (.app 2 16 (.tmp 43) (.tmp 46)) (some 47) [] (
  .rd 5 none (.mv (.tmp 47)) (some 4) false <|
  .done) .none
noncomputable def F.osierref03_Put1.ic : IC :=
    (.seq (.reg F.osierref03_Put1.r0)
    (.seq (.reg F.osierref03_Put1.r1)
    (.seq (.block 0 (.loop F.osierref03_Put1.l0))
    (.seq (.seq (.reg F.osierref03_Put1.r4)
    (.cond (.tmp 32) (.seq (.reg F.osierref03_Put1.r5)
    .ret) .skip))
    (.seq (.reg F.osierref03_Put1.r6)
    (.seq (.reg F.osierref03_Put1.r7)
    (.seq (.reg F.osierref03_Put1.r8)
    (.seq (.reg F.osierref03_Put1.r9)
    .ret))))))))
noncomputable def F.osierref03_Put1.rs : List RO := [(.mv (.tmp 4))]
theorem F.osierref03_Put1.ok : cFunc Go.Proofs.Try.prog F.osierref03_Put1 = some (48, F.osierref03_Put1.ic, F.osierref03_Put1.rs) := by kernel_rfl
theorem F.osierref03_Put1.cl : callable Go.Proofs.Try.prog F.osierref03_Put1 = true := by kernel_rfl
noncomputable def F.slices_Concat_s_api_Dot_api_Dot.r0 : Plan :=
  .rd 0 none (.mv (.const (.slice none 0 0))) (some 2) false <|
  .done
noncomputable def F.slices_Concat_s_api_Dot_api_Dot.r1 : Plan :=
  .rd 0 none (.mv (.const (.int .i64 0))) (some 3) false <|
  .done
noncomputable def F.slices_Concat_s_api_Dot_api_Dot.r2 : Plan :=
  .rd 0 none (.mv (.tmp 0)) (some 9) false <|
  .rd 1 none (.len .sl (.tmp 9)) (some 10) false <|
  .rd 2 none (.mv (.const (.int .i64 0))) (some 11) false <|
  .done
noncomputable def F.slices_Concat_s_api_Dot_api_Dot.r3 : Plan :=
  .rd 0 none (.bin .lss (.tmp 11) (.tmp 10)) (some 12) false <|
  .done
noncomputable def F.slices_Concat_s_api_Dot_api_Dot.r4 : Plan :=
  .rd 0 none (.idxA 1 (.tmp 9) (.tmp 11)) (some 13) false <|
  .rd 1 none (.ld1 (.tmp 13)) (some 14) false <|
  .rd 2 none (.mv (.tmp 14)) (some 5) false <|
  .done
noncomputable def F.slices_Concat_s_api_Dot_api_Dot.r5 : Plan :=
  .rd 0 none (.mv (.tmp 3)) (some 15) false <|
  .rd 1 none (.mv (.tmp 5)) (some 16) false <|
  .rd 2 none (.len .sl (.tmp 16)) (some 17) false <|
  .rd 3 none (.bin .add (.tmp 15) (.tmp 17)) (some 18) false <|
  .rd 4 none (.mv (.tmp 18)) (some 3) false <|
  .done
noncomputable def F.slices_Concat_s_api_Dot_api_Dot.r6 : Plan :=
  .rd 0 none (.mv (.tmp 3)) (some 19) false <|
  .rd 1 none (.bin .lss (.tmp 19) (.const (.int .i64 0))) (some 20) false <|
  .done
noncomputable def F.slices_Concat_s_api_Dot_api_Dot.r7 : Plan :=
  .rd 0 none (.mkI 9 (.const (.string ⟨#[108, 101, 110, 32, 111, 117, 116, 32, 111, 102, 32, 114, 97, 110, 103, 101]⟩))) (some 21) false <|
  .ef 1 none .pan none [] (
  .done) .none
noncomputable def F.slices_Concat_s_api_Dot_api_Dot.r8 : Plan :=
  .rd 0 none (.bin .add (.tmp 11) (.const (.int .i64 1))) (some 22) false <|
  .rd 1 none (.mv (.tmp 22)) (some 11) false <|
  .done
noncomputable def F.slices_Concat_s_api_Dot_api_Dot.l0 : IC :=
    (.seq (.reg F.slices_Concat_s_api_Dot_api_Dot.r3)
    (.seq (.cond (.tmp 12) .skip (.exit 0))
    (.seq (.block 1 (.seq (.reg F.slices_Concat_s_api_Dot_api_Dot.r4)
    (.seq (.reg F.slices_Concat_s_api_Dot_api_Dot.r5)
    (.seq (.reg F.slices_Concat_s_api_Dot_api_Dot.r6)
    (.cond (.tmp 20) (.reg F.slices_Concat_s_api_Dot_api_Dot.r7) .skip)))))
    (.reg F.slices_Concat_s_api_Dot_api_Dot.r8))))
noncomputable def F.slices_Concat_s_api_Dot_api_Dot.r9 : Plan :=
  .rd 0 none (.mv (.tmp 3)) (some 23) false <|
  .ef 1 none (.call F.slices_Grow_s_api_Dot_api_Dot [(.const (.slice none 0 0)), (.tmp 23)]) (some 24) [] (
  .rd 2 none (.mv (.tmp 24)) (some 6) false <|
  .done) .none
noncomputable def F.slices_Concat_s_api_Dot_api_Dot.r10 : Plan :=
  .rd 0 none (.mv (.tmp 0)) (some 25) false <|
  .rd 1 none (.len .sl (.tmp 25)) (some 26) false <|
  .rd 2 none (.mv (.const (.int .i64 0))) (some 27) false <|
  .done
noncomputable def F.slices_Concat_s_api_Dot_api_Dot.r11 : Plan :=
  .rd 0 none (.bin .lss (.tmp 27) (.tmp 26)) (some 28) false <|
  .done
noncomputable def F.slices_Concat_s_api_Dot_api_Dot.r12 : Plan :=
  .rd 0 none (.idxA 1 (.tmp 25) (.tmp 27)) (some 29) false <|
  .rd 1 none (.ld1 (.tmp 29)) (some 30) false <|
  .rd 2 none (.mv (.tmp 30)) (some 8) false <|
  .done
noncomputable def F.slices_Concat_s_api_Dot_api_Dot.r13 : Plan :=
  .rd 0 none (.mv (.tmp 6)) (some 31) false <|
  .rd 1 none (.mv (.tmp 8)) (some 32) false <|
  .ef 2 none (.app 2 16 (.tmp 31) (.tmp 32)) (some 33) [] (
  .rd 3 none (.mv (.tmp 33)) (some 6) false <|
  .done) .none
noncomputable def F.slices_Concat_s_api_Dot_api_Dot.r14 : Plan :=
  .rd 0 none (.bin .add (.tmp 27) (.const (.int .i64 1))) (some 34) false <|
  .rd 1 none (.mv (.tmp 34)) (some 27) false <|
  .done
noncomputable def F.slices_Concat_s_api_Dot_api_Dot.l1 : IC :=
    (.seq (.reg F.slices_Concat_s_api_Dot_api_Dot.r11)
    (.seq (.cond (.tmp 28) .skip (.exit 2))
    (.seq (.block 3 (.seq (.reg F.slices_Concat_s_api_Dot_api_Dot.r12)
    (.reg F.slices_Concat_s_api_Dot_api_Dot.r13)))
    (.reg F.slices_Concat_s_api_Dot_api_Dot.r14))))
noncomputable def F.slices_Concat_s_api_Dot_api_Dot.r15 : Plan :=
  .rd 0 none (.mv (.tmp 6)) (some 35) false <|
  .rd 1 none (.mv (.tmp 35)) (some 2) false <|
  .done
noncomputable def F.slices_Concat_s_api_Dot_api_Dot.ic : IC :=
    (.seq (.reg F.slices_Concat_s_api_Dot_api_Dot.r0)
    (.seq (.reg F.slices_Concat_s_api_Dot_api_Dot.r1)
    (.seq (.seq (.reg F.slices_Concat_s_api_Dot_api_Dot.r2)
    (.block 0 (.loop F.slices_Concat_s_api_Dot_api_Dot.l0)))
    (.seq (.reg F.slices_Concat_s_api_Dot_api_Dot.r9)
    (.seq (.seq (.reg F.slices_Concat_s_api_Dot_api_Dot.r10)
    (.block 2 (.loop F.slices_Concat_s_api_Dot_api_Dot.l1)))
    (.seq (.reg F.slices_Concat_s_api_Dot_api_Dot.r15)
    .ret))))))
noncomputable def F.slices_Concat_s_api_Dot_api_Dot.rs : List RO := [(.mv (.tmp 2))]
theorem F.slices_Concat_s_api_Dot_api_Dot.ok : cFunc Go.Proofs.Try.prog F.slices_Concat_s_api_Dot_api_Dot = some (36, F.slices_Concat_s_api_Dot_api_Dot.ic, F.slices_Concat_s_api_Dot_api_Dot.rs) := by kernel_rfl
theorem F.slices_Concat_s_api_Dot_api_Dot.cl : callable Go.Proofs.Try.prog F.slices_Concat_s_api_Dot_api_Dot = true := by kernel_rfl
noncomputable def F.cmp_Or_int.r0 : Plan :=
  .rd 0 none (.mv (.const (.int .i64 0))) (some 2) false <|
  .done
noncomputable def F.cmp_Or_int.r1 : Plan :=
  .rd 0 none (.mv (.const (.int .i64 0))) (some 3) false <|
  .done
noncomputable def F.cmp_Or_int.r2 : Plan :=
  .rd 0 none (.mv (.tmp 0)) (some 6) false <|
  .rd 1 none (.len .sl (.tmp 6)) (some 7) false <|
  .rd 2 none (.mv (.const (.int .i64 0))) (some 8) false <|
  .done
noncomputable def F.cmp_Or_int.r3 : Plan :=
  .rd 0 none (.bin .lss (.tmp 8) (.tmp 7)) (some 9) false <|
  .done
noncomputable def F.cmp_Or_int.r4 : Plan :=
  .rd 0 none (.idxA 1 (.tmp 6) (.tmp 8)) (some 10) false <|
  .rd 1 none (.ld1 (.tmp 10)) (some 11) false <|
  .rd 2 none (.mv (.tmp 11)) (some 5) false <|
  .done
noncomputable def F.cmp_Or_int.r5 : Plan :=
  .rd 0 none (.mv (.tmp 5)) (some 12) false <|
  .rd 1 none (.mv (.tmp 3)) (some 13) false <|
  .rd 2 none (.bin .neq (.tmp 12) (.tmp 13)) (some 14) false <|
  .done
noncomputable def F.cmp_Or_int.r6 : Plan :=
  .rd 0 none (.mv (.tmp 5)) (some 15) false <|
  .rd 1 none (.mv (.tmp 15)) (some 2) false <|
  .done
noncomputable def F.cmp_Or_int.r7 : Plan :=
  .rd 0 none (.bin .add (.tmp 8) (.const (.int .i64 1))) (some 16) false <|
  .rd 1 none (.mv (.tmp 16)) (some 8) false <|
  .done
noncomputable def F.cmp_Or_int.l0 : IC :=
    (.seq (.reg F.cmp_Or_int.r3)
    (.seq (.cond (.tmp 9) .skip (.exit 0))
    (.seq (.block 1 (.seq (.reg F.cmp_Or_int.r4)
    (.seq (.reg F.cmp_Or_int.r5)
    (.cond (.tmp 14) (.seq (.reg F.cmp_Or_int.r6)
    .ret) .skip))))
    (.reg F.cmp_Or_int.r7))))
noncomputable def F.cmp_Or_int.r8 : Plan :=
  .rd 0 none (.mv (.tmp 3)) (some 17) false <|
  .rd 1 none (.mv (.tmp 17)) (some 2) false <|
  .done
noncomputable def F.cmp_Or_int.ic : IC :=
    (.seq (.reg F.cmp_Or_int.r0)
    (.seq (.reg F.cmp_Or_int.r1)
    (.seq (.seq (.reg F.cmp_Or_int.r2)
    (.block 0 (.loop F.cmp_Or_int.l0)))
    (.seq (.reg F.cmp_Or_int.r8)
    .ret))))
noncomputable def F.cmp_Or_int.rs : List RO := [(.mv (.tmp 2))]
theorem F.cmp_Or_int.ok : cFunc Go.Proofs.Try.prog F.cmp_Or_int = some (18, F.cmp_Or_int.ic, F.cmp_Or_int.rs) := by kernel_rfl
theorem F.cmp_Or_int.cl : callable Go.Proofs.Try.prog F.cmp_Or_int = true := by kernel_rfl
noncomputable def F.cmp_Compare_int.r0 : Plan :=
  .rd 0 none (.mv (.const (.int .i64 0))) (some 4) false <|
  .done
noncomputable def F.cmp_Compare_int.r1 : Plan :=
  .rd 0 none (.mv (.tmp 0)) (some 7) false <|
  .ef 1 none (.call F.cmp_isNaN_int [(.tmp 7)]) (some 8) [] (
  .rd 2 none (.mv (.tmp 8)) (some 5) false <|
  .done) .none
noncomputable def F.cmp_Compare_int.r2 : Plan :=
  .rd 0 none (.mv (.tmp 1)) (some 9) false <|
  .ef 1 none (.call F.cmp_isNaN_int [(.tmp 9)]) (some 10) [] (
  .rd 2 none (.mv (.tmp 10)) (some 6) false <|
  .done) .none
noncomputable def F.cmp_Compare_int.r3 : Plan :=
  .rd 0 none (.mv (.tmp 5)) (some 11) false <|
  .done
noncomputable def F.cmp_Compare_int.r4 : Plan :=
  .rd 0 none (.mv (.tmp 6)) (some 12) false <|
  .done
noncomputable def F.cmp_Compare_int.r5 : Plan :=
  .rd 0 none (.mv (.const (.int .i64 0))) (some 4) false <|
  .done
noncomputable def F.cmp_Compare_int.r6 : Plan :=
  .rd 0 none (.mv (.const (.int .i64 (-1)))) (some 4) false <|
  .done
noncomputable def F.cmp_Compare_int.r7 : Plan :=
  .rd 0 none (.mv (.tmp 6)) (some 13) false <|
  .done
noncomputable def F.cmp_Compare_int.r8 : Plan :=
  .rd 0 none (.mv (.const (.int .i64 1))) (some 4) false <|
  .done
noncomputable def F.cmp_Compare_int.r9 : Plan :=
  .rd 0 none (.mv (.tmp 0)) (some 14) false <|
  .rd 1 none (.mv (.tmp 1)) (some 15) false <|
  .rd 2 none (.bin .lss (.tmp 14) (.tmp 15)) (some 16) false <|
  .done
noncomputable def F.cmp_Compare_int.r10 : Plan :=
  .rd 0 none (.mv (.const (.int .i64 (-1)))) (some 4) false <|
  .done
noncomputable def F.cmp_Compare_int.r11 : Plan :=
  .rd 0 none (.mv (.tmp 0)) (some 17) false <|
  .rd 1 none (.mv (.tmp 1)) (some 18) false <|
  .rd 2 none (.bin .gtr (.tmp 17) (.tmp 18)) (some 19) false <|
  .done
noncomputable def F.cmp_Compare_int.r12 : Plan :=
  .rd 0 none (.mv (.const (.int .i64 1))) (some 4) false <|
  .done
noncomputable def F.cmp_Compare_int.r13 : Plan :=
  .rd 0 none (.mv (.const (.int .i64 0))) (some 4) false <|
  .done
noncomputable def F.cmp_Compare_int.ic : IC :=
    (.seq (.reg F.cmp_Compare_int.r0)
    (.seq (.reg F.cmp_Compare_int.r1)
    (.seq (.reg F.cmp_Compare_int.r2)
    (.seq (.seq (.reg F.cmp_Compare_int.r3)
    (.cond (.tmp 11) (.seq (.seq (.reg F.cmp_Compare_int.r4)
    (.cond (.tmp 12) (.seq (.reg F.cmp_Compare_int.r5)
    .ret) .skip))
    (.seq (.reg F.cmp_Compare_int.r6)
    .ret)) .skip))
    (.seq (.seq (.reg F.cmp_Compare_int.r7)
    (.cond (.tmp 13) (.seq (.reg F.cmp_Compare_int.r8)
    .ret) .skip))
    (.seq (.seq (.reg F.cmp_Compare_int.r9)
    (.cond (.tmp 16) (.seq (.reg F.cmp_Compare_int.r10)
    .ret) .skip))
    (.seq (.seq (.reg F.cmp_Compare_int.r11)
    (.cond (.tmp 19) (.seq (.reg F.cmp_Compare_int.r12)
    .ret) .skip))
    (.seq (.reg F.cmp_Compare_int.r13)
    .ret))))))))
noncomputable def F.cmp_Compare_int.rs : List RO := [(.mv (.tmp 4))]
theorem F.cmp_Compare_int.ok : cFunc Go.Proofs.Try.prog F.cmp_Compare_int = some (20, F.cmp_Compare_int.ic, F.cmp_Compare_int.rs) := by kernel_rfl
theorem F.cmp_Compare_int.cl : callable Go.Proofs.Try.prog F.cmp_Compare_int = true := by kernel_rfl
noncomputable def F.slices_Grow_s_api_Dot_api_Dot.r0 : Plan :=
  .rd 0 none (.mv (.const (.slice none 0 0))) (some 4) false <|
  .done
noncomputable def F.slices_Grow_s_api_Dot_api_Dot.r1 : Plan :=
  .rd 0 none (.mv (.tmp 1)) (some 5) false <|
  .rd 1 none (.bin .lss (.tmp 5) (.const (.int .i64 0))) (some 6) false <|
  .done
noncomputable def F.slices_Grow_s_api_Dot_api_Dot.r2 : Plan :=
  .rd 0 none (.mkI 9 (.const (.string ⟨#[99, 97, 110, 110, 111, 116, 32, 98, 101, 32, 110, 101, 103, 97, 116, 105, 118, 101]⟩))) (some 7) false <|
  .ef 1 none .pan none [] (
  .done) .none
noncomputable def F.slices_Grow_s_api_Dot_api_Dot.r3 : Plan :=
  .rd 0 none (.mv (.tmp 1)) (some 8) false <|
  .rd 1 none (.mv (.tmp 0)) (some 9) false <|
  .rd 2 none (.capS (.tmp 9)) (some 10) false <|
  .rd 3 none (.mv (.tmp 0)) (some 11) false <|
  .rd 4 none (.len .sl (.tmp 11)) (some 12) false <|
  .rd 5 none (.bin .sub (.tmp 10) (.tmp 12)) (some 13) false <|
  .rd 6 none (.bin .sub (.tmp 8) (.tmp 13)) (some 14) false <|
  .rd 7 none (.mv (.tmp 14)) (some 1) false <|
  .done
noncomputable def F.slices_Grow_s_api_Dot_api_Dot.r4 : Plan :=
  .rd 0 none (.mv (.tmp 1)) (some 15) false <|
  .rd 1 none (.bin .gtr (.tmp 15) (.const (.int .i64 0))) (some 16) false <|
  .done
noncomputable def F.slices_Grow_s_api_Dot_api_Dot.r5 : Plan :=
  .rd 0 none (.mv (.tmp 0)) (some 17) false <|
  .rd 1 none (.mv (.tmp 0)) (some 18) false <|
  .rd 2 none (.capS (.tmp 18)) (some 19) false <|
  .rd 3 none (.sl 2 (.tmp 17) none (some (.tmp 19)) none) (some 20) false <|
  .rd 4 none (.mv (.tmp 1)) (some 21) false <|
  .ef 5 none (.appZ 2 16 [(.int .i64 0), (.int .i64 0)] (.tmp 20) (.tmp 21)) (some 22) [] (
  .rd 6 none (.mv (.tmp 0)) (some 23) false <|
  .rd 7 none (.len .sl (.tmp 23)) (some 24) false <|
  .rd 8 none (.sl 2 (.tmp 22) none (some (.tmp 24)) none) (some 25) false <|
  .rd 9 none (.mv (.tmp 25)) (some 0) false <|
  .done) .none
noncomputable def F.slices_Grow_s_api_Dot_api_Dot.r6 : Plan :=
  .rd 0 none (.mv (.tmp 0)) (some 26) false <|
  .rd 1 none (.mv (.tmp 26)) (some 4) false <|
  .done
noncomputable def F.slices_Grow_s_api_Dot_api_Dot.ic : IC :=
    (.seq (.reg F.slices_Grow_s_api_Dot_api_Dot.r0)
    (.seq (.seq (.reg F.slices_Grow_s_api_Dot_api_Dot.r1)
    (.cond (.tmp 6) (.reg F.slices_Grow_s_api_Dot_api_Dot.r2) .skip))
    (.seq (.seq (.reg F.slices_Grow_s_api_Dot_api_Dot.r3)
    (.seq (.reg F.slices_Grow_s_api_Dot_api_Dot.r4)
    (.cond (.tmp 16) (.reg F.slices_Grow_s_api_Dot_api_Dot.r5) .skip)))
    (.seq (.reg F.slices_Grow_s_api_Dot_api_Dot.r6)
    .ret))))
noncomputable def F.slices_Grow_s_api_Dot_api_Dot.rs : List RO := [(.mv (.tmp 4))]
theorem F.slices_Grow_s_api_Dot_api_Dot.ok : cFunc Go.Proofs.Try.prog F.slices_Grow_s_api_Dot_api_Dot = some (27, F.slices_Grow_s_api_Dot_api_Dot.ic, F.slices_Grow_s_api_Dot_api_Dot.rs) := by kernel_rfl
theorem F.slices_Grow_s_api_Dot_api_Dot.cl : callable Go.Proofs.Try.prog F.slices_Grow_s_api_Dot_api_Dot = true := by kernel_rfl
noncomputable def F.cmp_isNaN_int.r0 : Plan :=
  .rd 0 none (.mv (.const (.bool false))) (some 2) false <|
  .done
noncomputable def F.cmp_isNaN_int.r1 : Plan :=
  .rd 0 none (.mv (.tmp 0)) (some 3) false <|
  .rd 1 none (.mv (.tmp 0)) (some 4) false <|
  .rd 2 none (.bin .neq (.tmp 3) (.tmp 4)) (some 5) false <|
  .rd 3 none (.mv (.tmp 5)) (some 2) false <|
  .done
noncomputable def F.cmp_isNaN_int.ic : IC :=
    (.seq (.reg F.cmp_isNaN_int.r0)
    (.seq (.reg F.cmp_isNaN_int.r1)
    .ret))
noncomputable def F.cmp_isNaN_int.rs : List RO := [(.mv (.tmp 2))]
theorem F.cmp_isNaN_int.ok : cFunc Go.Proofs.Try.prog F.cmp_isNaN_int = some (6, F.cmp_isNaN_int.ic, F.cmp_isNaN_int.rs) := by kernel_rfl
theorem F.cmp_isNaN_int.cl : callable Go.Proofs.Try.prog F.cmp_isNaN_int = true := by kernel_rfl
attribute [go_sem] F.cmp_Compare_int.r0 F.cmp_Compare_int.r1 F.cmp_Compare_int.r2 F.cmp_Compare_int.r3 F.cmp_Compare_int.r4 F.cmp_Compare_int.r5 F.cmp_Compare_int.r6 F.cmp_Compare_int.r7 F.cmp_Compare_int.r8 F.cmp_Compare_int.r9 F.cmp_Compare_int.r10 F.cmp_Compare_int.r11 F.cmp_Compare_int.r12 F.cmp_Compare_int.r13 F.cmp_Compare_int.ic F.cmp_Compare_int.rs
attribute [go_sem] F.cmp_Or_int.r0 F.cmp_Or_int.r1 F.cmp_Or_int.r2 F.cmp_Or_int.r3 F.cmp_Or_int.r4 F.cmp_Or_int.r5 F.cmp_Or_int.r6 F.cmp_Or_int.r7 F.cmp_Or_int.r8 F.cmp_Or_int.ic F.cmp_Or_int.rs
attribute [go_sem] F.cmp_isNaN_int.r0 F.cmp_isNaN_int.r1 F.cmp_isNaN_int.ic F.cmp_isNaN_int.rs
attribute [go_sem] F.dots_Less.r0 F.dots_Less.r1 F.dots_Less.ic F.dots_Less.rs
attribute [go_sem] F.dots_May.r0 F.dots_May.r1 F.dots_May.ic F.dots_May.rs
attribute [go_sem] F.dots_Meet.r0 F.dots_Meet.r1 F.dots_Meet.ic F.dots_Meet.rs
attribute [go_sem] F.dots_Minus.r0 F.dots_Minus.r1 F.dots_Minus.r2 F.dots_Minus.r3 F.dots_Minus.r4 F.dots_Minus.r5 F.dots_Minus.r6 F.dots_Minus.r7 F.dots_Minus.ic F.dots_Minus.rs
attribute [go_sem] F.dots_Places.r0 F.dots_Places.r1 F.dots_Places.r2 F.dots_Places.r3 F.dots_Places.r4 F.dots_Places.r5 F.dots_Places.r6 F.dots_Places.r7 F.dots_Places.r8 F.dots_Places.r9 F.dots_Places.ic F.dots_Places.rs
attribute [go_sem] F.dots_Rising.r0 F.dots_Rising.r1 F.dots_Rising.ic F.dots_Rising.rs
attribute [go_sem] F.dots_Union.r0 F.dots_Union.r1 F.dots_Union.ic F.dots_Union.rs
attribute [go_sem] F.dots_compare.r0 F.dots_compare.r1 F.dots_compare.ic F.dots_compare.rs
attribute [go_sem] F.dots_row.r0 F.dots_row.r1 F.dots_row.r2 F.dots_row.r3 F.dots_row.r4 F.dots_row.r5 F.dots_row.r6 F.dots_row.r7 F.dots_row.ic F.dots_row.rs
attribute [go_sem] F.dots_set.r0 F.dots_set.r1 F.dots_set.r2 F.dots_set.r3 F.dots_set.r4 F.dots_set.r5 F.dots_set.r6 F.dots_set.r7 F.dots_set.ic F.dots_set.rs
attribute [go_sem] F.osierlaw03_DotsJoins.r0 F.osierlaw03_DotsJoins.r1 F.osierlaw03_DotsJoins.r2 F.osierlaw03_DotsJoins.r3 F.osierlaw03_DotsJoins.r4 F.osierlaw03_DotsJoins.r5 F.osierlaw03_DotsJoins.r6 F.osierlaw03_DotsJoins.r7 F.osierlaw03_DotsJoins.r8 F.osierlaw03_DotsJoins.r9 F.osierlaw03_DotsJoins.r10 F.osierlaw03_DotsJoins.r11 F.osierlaw03_DotsJoins.r12 F.osierlaw03_DotsJoins.r13 F.osierlaw03_DotsJoins.r14 F.osierlaw03_DotsJoins.r15 F.osierlaw03_DotsJoins.r16 F.osierlaw03_DotsJoins.r17 F.osierlaw03_DotsJoins.r18 F.osierlaw03_DotsJoins.r19 F.osierlaw03_DotsJoins.r20 F.osierlaw03_DotsJoins.r21 F.osierlaw03_DotsJoins.r22 F.osierlaw03_DotsJoins.ic F.osierlaw03_DotsJoins.rs
attribute [go_sem] F.osierlaw03_DotsLaws.r0 F.osierlaw03_DotsLaws.r1 F.osierlaw03_DotsLaws.r2 F.osierlaw03_DotsLaws.r3 F.osierlaw03_DotsLaws.r4 F.osierlaw03_DotsLaws.r5 F.osierlaw03_DotsLaws.r6 F.osierlaw03_DotsLaws.r7 F.osierlaw03_DotsLaws.r8 F.osierlaw03_DotsLaws.r9 F.osierlaw03_DotsLaws.r10 F.osierlaw03_DotsLaws.r11 F.osierlaw03_DotsLaws.r12 F.osierlaw03_DotsLaws.r13 F.osierlaw03_DotsLaws.r14 F.osierlaw03_DotsLaws.r15 F.osierlaw03_DotsLaws.r16 F.osierlaw03_DotsLaws.r17 F.osierlaw03_DotsLaws.r18 F.osierlaw03_DotsLaws.r19 F.osierlaw03_DotsLaws.r20 F.osierlaw03_DotsLaws.r21 F.osierlaw03_DotsLaws.r22 F.osierlaw03_DotsLaws.ic F.osierlaw03_DotsLaws.rs
attribute [go_sem] F.osierlaw03_DotsOrder.r0 F.osierlaw03_DotsOrder.r1 F.osierlaw03_DotsOrder.r2 F.osierlaw03_DotsOrder.r3 F.osierlaw03_DotsOrder.r4 F.osierlaw03_DotsOrder.r5 F.osierlaw03_DotsOrder.r6 F.osierlaw03_DotsOrder.r7 F.osierlaw03_DotsOrder.r8 F.osierlaw03_DotsOrder.r9 F.osierlaw03_DotsOrder.ic F.osierlaw03_DotsOrder.rs
attribute [go_sem] F.osierlaw03_DotsRises.r0 F.osierlaw03_DotsRises.r1 F.osierlaw03_DotsRises.r2 F.osierlaw03_DotsRises.r3 F.osierlaw03_DotsRises.r4 F.osierlaw03_DotsRises.r5 F.osierlaw03_DotsRises.r6 F.osierlaw03_DotsRises.r7 F.osierlaw03_DotsRises.r8 F.osierlaw03_DotsRises.r9 F.osierlaw03_DotsRises.r10 F.osierlaw03_DotsRises.r11 F.osierlaw03_DotsRises.r12 F.osierlaw03_DotsRises.r13 F.osierlaw03_DotsRises.r14 F.osierlaw03_DotsRises.r15 F.osierlaw03_DotsRises.r16 F.osierlaw03_DotsRises.r17 F.osierlaw03_DotsRises.ic F.osierlaw03_DotsRises.rs
attribute [go_sem] F.osierlaw03_awake.r0 F.osierlaw03_awake.r1 F.osierlaw03_awake.r2 F.osierlaw03_awake.r3 F.osierlaw03_awake.r4 F.osierlaw03_awake.r5 F.osierlaw03_awake.ic F.osierlaw03_awake.rs
attribute [go_sem] F.osierref03_Choose.r0 F.osierref03_Choose.r1 F.osierref03_Choose.r2 F.osierref03_Choose.r3 F.osierref03_Choose.r4 F.osierref03_Choose.r5 F.osierref03_Choose.r6 F.osierref03_Choose.r7 F.osierref03_Choose.r8 F.osierref03_Choose.ic F.osierref03_Choose.rs
attribute [go_sem] F.osierref03_In.r0 F.osierref03_In.r1 F.osierref03_In.r2 F.osierref03_In.r3 F.osierref03_In.r4 F.osierref03_In.r5 F.osierref03_In.r6 F.osierref03_In.ic F.osierref03_In.rs
attribute [go_sem] F.osierref03_Less.r0 F.osierref03_Less.r1 F.osierref03_Less.r2 F.osierref03_Less.r3 F.osierref03_Less.ic F.osierref03_Less.rs
attribute [go_sem] F.osierref03_May.r0 F.osierref03_May.r1 F.osierref03_May.ic F.osierref03_May.rs
attribute [go_sem] F.osierref03_Put1.r0 F.osierref03_Put1.r1 F.osierref03_Put1.r2 F.osierref03_Put1.r3 F.osierref03_Put1.r4 F.osierref03_Put1.r5 F.osierref03_Put1.r6 F.osierref03_Put1.r7 F.osierref03_Put1.r8 F.osierref03_Put1.r9 F.osierref03_Put1.ic F.osierref03_Put1.rs
attribute [go_sem] F.osierref03_Rising.r0 F.osierref03_Rising.r1 F.osierref03_Rising.r2 F.osierref03_Rising.r3 F.osierref03_Rising.r4 F.osierref03_Rising.r5 F.osierref03_Rising.r6 F.osierref03_Rising.ic F.osierref03_Rising.rs
attribute [go_sem] F.osierref03_Same.r0 F.osierref03_Same.r1 F.osierref03_Same.r2 F.osierref03_Same.r3 F.osierref03_Same.r4 F.osierref03_Same.r5 F.osierref03_Same.r6 F.osierref03_Same.r7 F.osierref03_Same.r8 F.osierref03_Same.ic F.osierref03_Same.rs
attribute [go_sem] F.slices_Concat_s_api_Dot_api_Dot.r0 F.slices_Concat_s_api_Dot_api_Dot.r1 F.slices_Concat_s_api_Dot_api_Dot.r2 F.slices_Concat_s_api_Dot_api_Dot.r3 F.slices_Concat_s_api_Dot_api_Dot.r4 F.slices_Concat_s_api_Dot_api_Dot.r5 F.slices_Concat_s_api_Dot_api_Dot.r6 F.slices_Concat_s_api_Dot_api_Dot.r7 F.slices_Concat_s_api_Dot_api_Dot.r8 F.slices_Concat_s_api_Dot_api_Dot.r9 F.slices_Concat_s_api_Dot_api_Dot.r10 F.slices_Concat_s_api_Dot_api_Dot.r11 F.slices_Concat_s_api_Dot_api_Dot.r12 F.slices_Concat_s_api_Dot_api_Dot.r13 F.slices_Concat_s_api_Dot_api_Dot.r14 F.slices_Concat_s_api_Dot_api_Dot.r15 F.slices_Concat_s_api_Dot_api_Dot.ic F.slices_Concat_s_api_Dot_api_Dot.rs
attribute [go_sem] F.slices_Grow_s_api_Dot_api_Dot.r0 F.slices_Grow_s_api_Dot_api_Dot.r1 F.slices_Grow_s_api_Dot_api_Dot.r2 F.slices_Grow_s_api_Dot_api_Dot.r3 F.slices_Grow_s_api_Dot_api_Dot.r4 F.slices_Grow_s_api_Dot_api_Dot.r5 F.slices_Grow_s_api_Dot_api_Dot.r6 F.slices_Grow_s_api_Dot_api_Dot.ic F.slices_Grow_s_api_Dot_api_Dot.rs
end Go.Osj
