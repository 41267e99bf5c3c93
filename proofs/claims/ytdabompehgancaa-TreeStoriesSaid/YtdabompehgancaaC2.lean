/- The compiled code of functions (printed by a program, checked by the kernel). -/
import Derived.Test.YtdabompehgancaaC0
import Derived.Test.YtdabompehgancaaOsjN
set_option linter.unusedSimpArgs false
set_option linter.unusedVariables false
set_option maxRecDepth 100000
namespace Go.Osj
noncomputable def F.osierlaw10_TreePlays.r0 : Plan :=
  .ef 0 none (.box (.tmp 1)) (some 3) [] (
  .rd 1 none (.mv (.const (.bool false))) (some 4) false <|
  .done) .none
noncomputable def F.osierlaw10_TreePlays.r1 : Plan :=
  .ef 0 none (.call F.osierlaw10_awake []) (some 12) [] (
  .rd 1 none (.mv (.tmp 12)) (some 5) false <|
  .done) .none
noncomputable def F.osierlaw10_TreePlays.r2 : Plan :=
  .rd 0 none (.mv (.tmp 5)) (some 13) false <|
  .rd 1 none (.un .not (.tmp 13)) (some 14) false <|
  .done
noncomputable def F.osierlaw10_TreePlays.r3 : Plan :=
  .rd 0 none (.mv (.const (.bool false))) (some 4) false <|
  .done
noncomputable def F.osierlaw10_TreePlays.r4 : Plan :=
  .ef 0 none (.call F.movetree_New []) (some 15) [] (
  .rd 1 none (.mv (.tmp 15)) (some 6) false <|
  .done) .none
noncomputable def F.osierlaw10_TreePlays.r5 : Plan :=
  .ef 0 none (.alloc [(.slice none 0 0), (.slice none 0 0), (.slice none 0 0)]) (some 7) [] (
  .done) .none
noncomputable def F.osierlaw10_TreePlays.r6 : Plan :=
  .rd 0 none (.mv (.const (.int .i64 0))) (some 8) false <|
  .done
noncomputable def F.osierlaw10_TreePlays.r7 : Plan :=
  .rd 0 none (.mv (.tmp 8)) (some 16) false <|
  .rd 1 none (.mv (.tmp 0)) (some 17) false <|
  .rd 2 none (.len .sl (.tmp 17)) (some 18) false <|
  .rd 3 none (.bin .lss (.tmp 16) (.tmp 18)) (some 19) false <|
  .rd 4 none (.mv (.tmp 19)) (some 20) false <|
  .rd 5 (some (20, true)) (.mv (.tmp 8)) (some 21) false <|
  .rd 6 (some (20, true)) (.bin .lss (.tmp 21) (.const (.int .i64 25))) (some 22) false <|
  .rd 7 none (.pick (.tmp 20) (.tmp 22) (.const (.bool false))) (some 23) false <|
  .done
noncomputable def F.osierlaw10_TreePlays.r8 : Plan :=
  .rd 0 none (.mv (.tmp 0)) (some 26) false <|
  .rd 1 none (.mv (.tmp 8)) (some 27) false <|
  .rd 2 none (.idxA 8 (.tmp 26) (.tmp 27)) (some 28) false <|
  .rd 3 none (.ldn 8 (.tmp 28)) (some 29) false <|
  .ef 4 none (.alloc [(.int .i64 0), (.int .i64 0), (.int .i64 0), (.int .i64 0), (.int .i64 0), (.int .i64 0), (.int .i64 0), (.string ⟨#[]⟩)]) (some 9) [] (
  .ef 5 none (.st 8 (.tmp 9) (.tmp 29)) none [] (
  .done) .none) .none
noncomputable def F.osierlaw10_TreePlays.r9 : Plan :=
  .rd 0 none (.ldn 3 (.tmp 7)) (some 31) false <|
  .rd 1 none (.ldn 8 (.tmp 9)) (some 32) false <|
  .ef 2 none (.call F.osierref10_Tree_Move [(.tmp 31), (.tmp 32)]) (some 33) [] (
  .rd 3 none (.mv (.tmp 33)) (some 30) false <|
  .rd 4 none (.ext 0 (.tmp 30)) (some 34) false <|
  .rd 5 none (.ext 1 (.tmp 30)) (some 35) false <|
  .ef 6 none (.alloc [(.slice none 0 0), (.slice none 0 0), (.slice none 0 0)]) (some 10) [] (
  .ef 7 none (.st 3 (.tmp 10) (.tmp 34)) none [] (
  .rd 8 none (.mv (.tmp 35)) (some 11) false <|
  .done) .none) .none) .none
noncomputable def F.osierlaw10_TreePlays.r10 : Plan :=
  .rd 0 none (.ldn 3 (.tmp 10)) (some 36) false <|
  .ef 1 none (.st 3 (.tmp 7) (.tmp 36)) none [] (
  .done) .none
noncomputable def F.osierlaw10_TreePlays.r11 : Plan :=
  .rd 0 none (.mv (.tmp 6)) (some 37) false <|
  .rd 1 none (.fldA 0 (.tmp 9)) (some 38) false <|
  .rd 2 none (.ldn 2 (.tmp 38)) (some 39) false <|
  .rd 3 none (.fldA 2 (.tmp 9)) (some 40) false <|
  .rd 4 none (.ld1 (.tmp 40)) (some 41) false <|
  .rd 5 none (.fldA 3 (.tmp 9)) (some 42) false <|
  .rd 6 none (.ldn 2 (.tmp 42)) (some 43) false <|
  .rd 7 none (.fldA 5 (.tmp 9)) (some 44) false <|
  .rd 8 none (.ldn 2 (.tmp 44)) (some 45) false <|
  .rd 9 none (.fldA 7 (.tmp 9)) (some 46) false <|
  .rd 10 none (.ld1 (.tmp 46)) (some 47) false <|
  .ef 11 none (.call F.movetree_Tree_Move [(.tmp 37), (.tmp 39), (.tmp 41), (.tmp 43), (.tmp 45), (.tmp 47)]) (some 48) [] (
  .rd 12 none (.mv (.tmp 11)) (some 49) false <|
  .rd 13 none (.bin .neq (.tmp 48) (.tmp 49)) (some 50) false <|
  .rd 14 none (.mv (.tmp 50)) (some 51) false <|
  .rd 15 (some (51, false)) (.mv (.tmp 6)) (some 52) false <|
  .rd 16 (some (51, false)) (.ldn 3 (.tmp 7)) (some 53) false <|
  .rd 17 (some (51, false)) (.ldn 2 (.tmp 3)) (some 54) false <|
  .ef 18 (some (51, false)) (.call F.osierlaw10_is [(.tmp 52), (.tmp 53), (.tmp 54)]) (some 55) [] (
  .rd 19 (some (51, false)) (.un .not (.tmp 55)) (some 56) false <|
  .rd 20 none (.pick (.tmp 51) (.const (.bool true)) (.tmp 56)) (some 57) false <|
  .done) .none) .none
noncomputable def F.osierlaw10_TreePlays.r12 : Plan :=
  .rd 0 none (.mv (.const (.bool false))) (some 4) false <|
  .done
noncomputable def F.osierlaw10_TreePlays.r13 : Plan :=
  .rd 0 none (.mv (.tmp 8)) (some 24) false <|
  .rd 1 none (.bin .add (.tmp 24) (.const (.int .i64 1))) (some 25) false <|
  .rd 2 none (.mv (.tmp 25)) (some 8) false <|
  .done
noncomputable def F.osierlaw10_TreePlays.l0 : IC :=
    (.seq (.seq (.reg F.osierlaw10_TreePlays.r7)
    (.cond (.tmp 23) .skip (.exit 0)))
    (.seq (.block 1 (.seq (.reg F.osierlaw10_TreePlays.r8)
    (.seq (.reg F.osierlaw10_TreePlays.r9)
    (.seq (.reg F.osierlaw10_TreePlays.r10)
    (.seq (.reg F.osierlaw10_TreePlays.r11)
    (.cond (.tmp 57) (.seq (.reg F.osierlaw10_TreePlays.r12)
    .ret) .skip))))))
    (.reg F.osierlaw10_TreePlays.r13)))
noncomputable def F.osierlaw10_TreePlays.r14 : Plan :=
  .rd 0 none (.mv (.tmp 6)) (some 58) false <|
  .rd 1 none (.ldn 3 (.tmp 7)) (some 59) false <|
  .rd 2 none (.ldn 2 (.tmp 3)) (some 60) false <|
  .ef 3 none (.call F.osierlaw10_is [(.tmp 58), (.tmp 59), (.tmp 60)]) (some 61) [] (
  .rd 4 none (.mv (.tmp 61)) (some 4) false <|
  .done) .none
noncomputable def F.osierlaw10_TreePlays.ic : IC :=
    (.seq (.reg F.osierlaw10_TreePlays.r0)
    (.seq (.reg F.osierlaw10_TreePlays.r1)
    (.seq (.seq (.reg F.osierlaw10_TreePlays.r2)
    (.cond (.tmp 14) (.seq (.reg F.osierlaw10_TreePlays.r3)
    .ret) .skip))
    (.seq (.reg F.osierlaw10_TreePlays.r4)
    (.seq (.reg F.osierlaw10_TreePlays.r5)
    (.seq (.seq (.reg F.osierlaw10_TreePlays.r6)
    (.block 0 (.loop F.osierlaw10_TreePlays.l0)))
    (.seq (.reg F.osierlaw10_TreePlays.r14)
    .ret)))))))
noncomputable def F.osierlaw10_TreePlays.rs : List RO := [(.mv (.tmp 4))]
theorem F.osierlaw10_TreePlays.ok : cFunc Go.Proofs.Try.prog F.osierlaw10_TreePlays = some (62, F.osierlaw10_TreePlays.ic, F.osierlaw10_TreePlays.rs) := by kernel_rfl
theorem F.osierlaw10_TreePlays.cl : callable Go.Proofs.Try.prog F.osierlaw10_TreePlays = true := by kernel_rfl
noncomputable def F.osierlaw10_TreeOrders.r0 : Plan :=
  .rd 0 none (.mv (.const (.bool false))) (some 4) false <|
  .done
noncomputable def F.osierlaw10_TreeOrders.r1 : Plan :=
  .ef 0 none (.call F.osierlaw10_awake []) (some 24) [] (
  .rd 1 none (.mv (.tmp 24)) (some 5) false <|
  .done) .none
noncomputable def F.osierlaw10_TreeOrders.r2 : Plan :=
  .rd 0 none (.mv (.tmp 5)) (some 25) false <|
  .rd 1 none (.un .not (.tmp 25)) (some 26) false <|
  .done
noncomputable def F.osierlaw10_TreeOrders.r3 : Plan :=
  .rd 0 none (.mv (.const (.bool false))) (some 4) false <|
  .done
noncomputable def F.osierlaw10_TreeOrders.r4 : Plan :=
  .rd 0 none (.mv (.tmp 0)) (some 27) false <|
  .rd 1 none (.len .sl (.tmp 27)) (some 28) false <|
  .rd 2 none (.bin .gtr (.tmp 28) (.const (.int .i64 40))) (some 29) false <|
  .done
noncomputable def F.osierlaw10_TreeOrders.r5 : Plan :=
  .rd 0 none (.mv (.const (.bool true))) (some 4) false <|
  .done
noncomputable def F.osierlaw10_TreeOrders.r6 : Plan :=
  .rd 0 none (.mv (.const (.int .i64 0))) (some 6) false <|
  .done
noncomputable def F.osierlaw10_TreeOrders.r7 : Plan :=
  .rd 0 none (.mv (.tmp 6)) (some 30) false <|
  .rd 1 none (.mv (.tmp 0)) (some 31) false <|
  .rd 2 none (.len .sl (.tmp 31)) (some 32) false <|
  .rd 3 none (.bin .lss (.tmp 30) (.tmp 32)) (some 33) false <|
  .done
noncomputable def F.osierlaw10_TreeOrders.r8 : Plan :=
  .rd 0 none (.mv (.const (.int .i64 0))) (some 7) false <|
  .done
noncomputable def F.osierlaw10_TreeOrders.r9 : Plan :=
  .rd 0 none (.mv (.tmp 7)) (some 36) false <|
  .rd 1 none (.mv (.tmp 6)) (some 37) false <|
  .rd 2 none (.bin .lss (.tmp 36) (.tmp 37)) (some 38) false <|
  .done
noncomputable def F.osierlaw10_TreeOrders.r10 : Plan :=
  .rd 0 none (.mv (.tmp 0)) (some 41) false <|
  .rd 1 none (.mv (.tmp 6)) (some 42) false <|
  .rd 2 none (.idxA 8 (.tmp 41) (.tmp 42)) (some 43) false <|
  .rd 3 none (.fldA 0 (.tmp 43)) (some 44) false <|
  .rd 4 none (.ldn 2 (.tmp 44)) (some 45) false <|
  .rd 5 none (.mv (.tmp 0)) (some 46) false <|
  .rd 6 none (.mv (.tmp 7)) (some 47) false <|
  .rd 7 none (.idxA 8 (.tmp 46) (.tmp 47)) (some 48) false <|
  .rd 8 none (.fldA 0 (.tmp 48)) (some 49) false <|
  .rd 9 none (.ldn 2 (.tmp 49)) (some 50) false <|
  .rd 10 none (.eqS [(.i .i64), (.i .i64)] true false (.tmp 45) (.tmp 50)) (some 51) false <|
  .done
noncomputable def F.osierlaw10_TreeOrders.r11 : Plan :=
  .rd 0 none (.mv (.const (.bool true))) (some 4) false <|
  .done
noncomputable def F.osierlaw10_TreeOrders.r12 : Plan :=
  .rd 0 none (.mv (.tmp 7)) (some 39) false <|
  .rd 1 none (.bin .add (.tmp 39) (.const (.int .i64 1))) (some 40) false <|
  .rd 2 none (.mv (.tmp 40)) (some 7) false <|
  .done
noncomputable def F.osierlaw10_TreeOrders.l0 : IC :=
    (.seq (.seq (.reg F.osierlaw10_TreeOrders.r9)
    (.cond (.tmp 38) .skip (.exit 2)))
    (.seq (.block 3 (.seq (.reg F.osierlaw10_TreeOrders.r10)
    (.cond (.tmp 51) (.seq (.reg F.osierlaw10_TreeOrders.r11)
    .ret) .skip)))
    (.reg F.osierlaw10_TreeOrders.r12)))
noncomputable def F.osierlaw10_TreeOrders.r13 : Plan :=
  .rd 0 none (.mv (.tmp 6)) (some 34) false <|
  .rd 1 none (.bin .add (.tmp 34) (.const (.int .i64 1))) (some 35) false <|
  .rd 2 none (.mv (.tmp 35)) (some 6) false <|
  .done
noncomputable def F.osierlaw10_TreeOrders.l1 : IC :=
    (.seq (.seq (.reg F.osierlaw10_TreeOrders.r7)
    (.cond (.tmp 33) .skip (.exit 0)))
    (.seq (.block 1 (.seq (.reg F.osierlaw10_TreeOrders.r8)
    (.block 2 (.loop F.osierlaw10_TreeOrders.l0))))
    (.reg F.osierlaw10_TreeOrders.r13)))
noncomputable def F.osierlaw10_TreeOrders.r14 : Plan :=
  .rd 0 none (.mv (.const (.slice none 0 0))) (some 8) false <|
  .done
noncomputable def F.osierlaw10_TreeOrders.r15 : Plan :=
  .rd 0 none (.mv (.tmp 8)) (some 52) false <|
  .rd 1 none (.mv (.tmp 0)) (some 53) false <|
  .ef 2 none (.app 8 72 (.tmp 52) (.tmp 53)) (some 54) [] (
  .rd 3 none (.mv (.tmp 54)) (some 8) false <|
  .done) .none
noncomputable def F.osierlaw10_TreeOrders.r16 : Plan :=
  .rd 0 none (.mv (.const (.int .i64 0))) (some 9) false <|
  .done
noncomputable def F.osierlaw10_TreeOrders.r17 : Plan :=
  .rd 0 none (.mv (.tmp 9)) (some 55) false <|
  .rd 1 none (.mv (.tmp 8)) (some 56) false <|
  .rd 2 none (.len .sl (.tmp 56)) (some 57) false <|
  .rd 3 none (.bin .lss (.tmp 55) (.tmp 57)) (some 58) false <|
  .rd 4 none (.mv (.tmp 58)) (some 59) false <|
  .rd 5 (some (59, true)) (.mv (.tmp 9)) (some 60) false <|
  .rd 6 (some (59, true)) (.mv (.tmp 1)) (some 61) false <|
  .rd 7 (some (59, true)) (.len .sl (.tmp 61)) (some 62) false <|
  .rd 8 (some (59, true)) (.bin .lss (.tmp 60) (.tmp 62)) (some 63) false <|
  .rd 9 none (.pick (.tmp 59) (.tmp 63) (.const (.bool false))) (some 64) false <|
  .done
noncomputable def F.osierlaw10_TreeOrders.r18 : Plan :=
  .rd 0 none (.mv (.tmp 1)) (some 67) false <|
  .rd 1 none (.mv (.tmp 9)) (some 68) false <|
  .rd 2 none (.idxA 1 (.tmp 67) (.tmp 68)) (some 69) false <|
  .rd 3 none (.ld1 (.tmp 69)) (some 70) false <|
  .rd 4 none (.mv (.tmp 8)) (some 71) false <|
  .rd 5 none (.len .sl (.tmp 71)) (some 72) false <|
  .rd 6 none (.bin .rem (.tmp 70) (.tmp 72)) (some 73) false <|
  .rd 7 none (.mv (.tmp 73)) (some 10) false <|
  .done
noncomputable def F.osierlaw10_TreeOrders.r19 : Plan :=
  .rd 0 none (.mv (.tmp 10)) (some 74) false <|
  .rd 1 none (.bin .lss (.tmp 74) (.const (.int .i64 0))) (some 75) false <|
  .done
noncomputable def F.osierlaw10_TreeOrders.r20 : Plan :=
  .rd 0 none (.mv (.tmp 10)) (some 76) false <|
  .rd 1 none (.un .neg (.tmp 76)) (some 77) false <|
  .rd 2 none (.mv (.tmp 77)) (some 10) false <|
  .done
noncomputable def F.osierlaw10_TreeOrders.r21 : Plan :=
  .rd 0 none (.mv (.tmp 8)) (some 78) false <|
  .rd 1 none (.mv (.tmp 9)) (some 79) false <|
  .rd 2 none (.idxA 8 (.tmp 78) (.tmp 79)) (some 80) false <|
  .rd 3 none (.ldn 8 (.tmp 80)) (some 81) false <|
  .ef 4 none (.alloc [(.int .i64 0), (.int .i64 0), (.int .i64 0), (.int .i64 0), (.int .i64 0), (.int .i64 0), (.int .i64 0), (.string ⟨#[]⟩)]) (some 11) [] (
  .ef 5 none (.st 8 (.tmp 11) (.tmp 81)) none [] (
  .done) .none) .none
noncomputable def F.osierlaw10_TreeOrders.r22 : Plan :=
  .rd 0 none (.mv (.tmp 8)) (some 82) false <|
  .rd 1 none (.mv (.tmp 9)) (some 83) false <|
  .rd 2 none (.mv (.tmp 8)) (some 84) false <|
  .rd 3 none (.mv (.tmp 10)) (some 85) false <|
  .rd 4 none (.idxA 8 (.tmp 84) (.tmp 85)) (some 86) false <|
  .rd 5 none (.ldn 8 (.tmp 86)) (some 87) false <|
  .rd 6 none (.idxA 8 (.tmp 82) (.tmp 83)) (some 88) false <|
  .ef 7 none (.st 8 (.tmp 88) (.tmp 87)) none [] (
  .done) .none
noncomputable def F.osierlaw10_TreeOrders.r23 : Plan :=
  .rd 0 none (.mv (.tmp 8)) (some 89) false <|
  .rd 1 none (.mv (.tmp 10)) (some 90) false <|
  .rd 2 none (.ldn 8 (.tmp 11)) (some 91) false <|
  .rd 3 none (.idxA 8 (.tmp 89) (.tmp 90)) (some 92) false <|
  .ef 4 none (.st 8 (.tmp 92) (.tmp 91)) none [] (
  .done) .none
noncomputable def F.osierlaw10_TreeOrders.r24 : Plan :=
  .rd 0 none (.mv (.tmp 9)) (some 65) false <|
  .rd 1 none (.bin .add (.tmp 65) (.const (.int .i64 1))) (some 66) false <|
  .rd 2 none (.mv (.tmp 66)) (some 9) false <|
  .done
noncomputable def F.osierlaw10_TreeOrders.l2 : IC :=
    (.seq (.seq (.reg F.osierlaw10_TreeOrders.r17)
    (.cond (.tmp 64) .skip (.exit 4)))
    (.seq (.block 5 (.seq (.reg F.osierlaw10_TreeOrders.r18)
    (.seq (.seq (.reg F.osierlaw10_TreeOrders.r19)
    (.cond (.tmp 75) (.reg F.osierlaw10_TreeOrders.r20) .skip))
    (.seq (.reg F.osierlaw10_TreeOrders.r21)
    (.seq (.reg F.osierlaw10_TreeOrders.r22)
    (.reg F.osierlaw10_TreeOrders.r23))))))
    (.reg F.osierlaw10_TreeOrders.r24)))
noncomputable def F.osierlaw10_TreeOrders.r25 : Plan :=
  .ef 0 none (.call F.movetree_New []) (some 93) [] (
  .rd 1 none (.mv (.tmp 93)) (some 12) false <|
  .done) .none
noncomputable def F.osierlaw10_TreeOrders.r26 : Plan :=
  .ef 0 none (.call F.movetree_New []) (some 94) [] (
  .rd 1 none (.mv (.tmp 94)) (some 13) false <|
  .done) .none
noncomputable def F.osierlaw10_TreeOrders.r27 : Plan :=
  .rd 0 none (.mv (.const (.int .i64 0))) (some 14) false <|
  .done
noncomputable def F.osierlaw10_TreeOrders.r28 : Plan :=
  .rd 0 none (.mv (.tmp 14)) (some 95) false <|
  .rd 1 none (.mv (.tmp 0)) (some 96) false <|
  .rd 2 none (.len .sl (.tmp 96)) (some 97) false <|
  .rd 3 none (.bin .lss (.tmp 95) (.tmp 97)) (some 98) false <|
  .done
noncomputable def F.osierlaw10_TreeOrders.r29 : Plan :=
  .rd 0 none (.mv (.tmp 12)) (some 101) false <|
  .rd 1 none (.mv (.tmp 0)) (some 102) false <|
  .rd 2 none (.mv (.tmp 14)) (some 103) false <|
  .rd 3 none (.idxA 8 (.tmp 102) (.tmp 103)) (some 104) false <|
  .rd 4 none (.fldA 0 (.tmp 104)) (some 105) false <|
  .rd 5 none (.ldn 2 (.tmp 105)) (some 106) false <|
  .rd 6 none (.mv (.tmp 0)) (some 107) false <|
  .rd 7 none (.mv (.tmp 14)) (some 108) false <|
  .rd 8 none (.idxA 8 (.tmp 107) (.tmp 108)) (some 109) false <|
  .rd 9 none (.fldA 2 (.tmp 109)) (some 110) false <|
  .rd 10 none (.ld1 (.tmp 110)) (some 111) false <|
  .rd 11 none (.mv (.tmp 0)) (some 112) false <|
  .rd 12 none (.mv (.tmp 14)) (some 113) false <|
  .rd 13 none (.idxA 8 (.tmp 112) (.tmp 113)) (some 114) false <|
  .rd 14 none (.fldA 3 (.tmp 114)) (some 115) false <|
  .rd 15 none (.ldn 2 (.tmp 115)) (some 116) false <|
  .rd 16 none (.mv (.tmp 0)) (some 117) false <|
  .rd 17 none (.mv (.tmp 14)) (some 118) false <|
  .rd 18 none (.idxA 8 (.tmp 117) (.tmp 118)) (some 119) false <|
  .rd 19 none (.fldA 5 (.tmp 119)) (some 120) false <|
  .rd 20 none (.ldn 2 (.tmp 120)) (some 121) false <|
  .rd 21 none (.mv (.tmp 0)) (some 122) false <|
  .rd 22 none (.mv (.tmp 14)) (some 123) false <|
  .rd 23 none (.idxA 8 (.tmp 122) (.tmp 123)) (some 124) false <|
  .rd 24 none (.fldA 7 (.tmp 124)) (some 125) false <|
  .rd 25 none (.ld1 (.tmp 125)) (some 126) false <|
  .ef 26 none (.call F.movetree_Tree_Move [(.tmp 101), (.tmp 106), (.tmp 111), (.tmp 116), (.tmp 121), (.tmp 126)]) (some 127) [] (
  .done) .none
noncomputable def F.osierlaw10_TreeOrders.r30 : Plan :=
  .rd 0 none (.mv (.tmp 13)) (some 128) false <|
  .rd 1 none (.mv (.tmp 8)) (some 129) false <|
  .rd 2 none (.mv (.tmp 14)) (some 130) false <|
  .rd 3 none (.idxA 8 (.tmp 129) (.tmp 130)) (some 131) false <|
  .rd 4 none (.fldA 0 (.tmp 131)) (some 132) false <|
  .rd 5 none (.ldn 2 (.tmp 132)) (some 133) false <|
  .rd 6 none (.mv (.tmp 8)) (some 134) false <|
  .rd 7 none (.mv (.tmp 14)) (some 135) false <|
  .rd 8 none (.idxA 8 (.tmp 134) (.tmp 135)) (some 136) false <|
  .rd 9 none (.fldA 2 (.tmp 136)) (some 137) false <|
  .rd 10 none (.ld1 (.tmp 137)) (some 138) false <|
  .rd 11 none (.mv (.tmp 8)) (some 139) false <|
  .rd 12 none (.mv (.tmp 14)) (some 140) false <|
  .rd 13 none (.idxA 8 (.tmp 139) (.tmp 140)) (some 141) false <|
  .rd 14 none (.fldA 3 (.tmp 141)) (some 142) false <|
  .rd 15 none (.ldn 2 (.tmp 142)) (some 143) false <|
  .rd 16 none (.mv (.tmp 8)) (some 144) false <|
  .rd 17 none (.mv (.tmp 14)) (some 145) false <|
  .rd 18 none (.idxA 8 (.tmp 144) (.tmp 145)) (some 146) false <|
  .rd 19 none (.fldA 5 (.tmp 146)) (some 147) false <|
  .rd 20 none (.ldn 2 (.tmp 147)) (some 148) false <|
  .rd 21 none (.mv (.tmp 8)) (some 149) false <|
  .rd 22 none (.mv (.tmp 14)) (some 150) false <|
  .rd 23 none (.idxA 8 (.tmp 149) (.tmp 150)) (some 151) false <|
  .rd 24 none (.fldA 7 (.tmp 151)) (some 152) false <|
  .rd 25 none (.ld1 (.tmp 152)) (some 153) false <|
  .ef 26 none (.call F.movetree_Tree_Move [(.tmp 128), (.tmp 133), (.tmp 138), (.tmp 143), (.tmp 148), (.tmp 153)]) (some 154) [] (
  .done) .none
noncomputable def F.osierlaw10_TreeOrders.r31 : Plan :=
  .rd 0 none (.mv (.tmp 14)) (some 99) false <|
  .rd 1 none (.bin .add (.tmp 99) (.const (.int .i64 1))) (some 100) false <|
  .rd 2 none (.mv (.tmp 100)) (some 14) false <|
  .done
noncomputable def F.osierlaw10_TreeOrders.l3 : IC :=
    (.seq (.seq (.reg F.osierlaw10_TreeOrders.r28)
    (.cond (.tmp 98) .skip (.exit 6)))
    (.seq (.block 7 (.seq (.reg F.osierlaw10_TreeOrders.r29)
    (.reg F.osierlaw10_TreeOrders.r30)))
    (.reg F.osierlaw10_TreeOrders.r31)))
noncomputable def F.osierlaw10_TreeOrders.r32 : Plan :=
  .rd 0 none (.mv (.tmp 12)) (some 155) false <|
  .ef 1 none (.call F.movetree_Tree_Blocks [(.tmp 155)]) (some 156) [] (
  .rd 2 none (.mv (.tmp 156)) (some 15) false <|
  .done) .none
noncomputable def F.osierlaw10_TreeOrders.r33 : Plan :=
  .rd 0 none (.mv (.tmp 15)) (some 157) false <|
  .rd 1 none (.mv (.tmp 13)) (some 158) false <|
  .ef 2 none (.call F.movetree_Tree_Blocks [(.tmp 158)]) (some 159) [] (
  .ef 3 none (.call F.osierref03_Same [(.tmp 157), (.tmp 159)]) (some 160) [] (
  .rd 4 none (.un .not (.tmp 160)) (some 161) false <|
  .done) .none) .none
noncomputable def F.osierlaw10_TreeOrders.r34 : Plan :=
  .rd 0 none (.mv (.const (.bool false))) (some 4) false <|
  .done
noncomputable def F.osierlaw10_TreeOrders.r35 : Plan :=
  .rd 0 none (.mv (.const (.int .i64 0))) (some 16) false <|
  .done
noncomputable def F.osierlaw10_TreeOrders.r36 : Plan :=
  .rd 0 none (.mv (.tmp 16)) (some 162) false <|
  .rd 1 none (.mv (.tmp 15)) (some 163) false <|
  .rd 2 none (.len .sl (.tmp 163)) (some 164) false <|
  .rd 3 none (.bin .lss (.tmp 162) (.tmp 164)) (some 165) false <|
  .done
noncomputable def F.osierlaw10_TreeOrders.r37 : Plan :=
  .rd 0 none (.mv (.tmp 12)) (some 169) false <|
  .rd 1 none (.mv (.tmp 15)) (some 170) false <|
  .rd 2 none (.mv (.tmp 16)) (some 171) false <|
  .rd 3 none (.idxA 2 (.tmp 170) (.tmp 171)) (some 172) false <|
  .rd 4 none (.ldn 2 (.tmp 172)) (some 173) false <|
  .ef 5 none (.call F.movetree_Tree_Parent [(.tmp 169), (.tmp 173)]) (some 174) [] (
  .rd 6 none (.mv (.tmp 174)) (some 168) false <|
  .rd 7 none (.ext 0 (.tmp 168)) (some 175) false <|
  .rd 8 none (.ext 1 (.tmp 168)) (some 176) false <|
  .rd 9 none (.ext 2 (.tmp 168)) (some 177) false <|
  .ef 10 none (.alloc [(.int .i64 0), (.int .i64 0)]) (some 17) [] (
  .ef 11 none (.st 2 (.tmp 17) (.tmp 175)) none [] (
  .rd 12 none (.mv (.tmp 176)) (some 18) false <|
  .rd 13 none (.mv (.tmp 177)) (some 19) false <|
  .done) .none) .none) .none
noncomputable def F.osierlaw10_TreeOrders.r38 : Plan :=
  .rd 0 none (.mv (.tmp 13)) (some 179) false <|
  .rd 1 none (.mv (.tmp 15)) (some 180) false <|
  .rd 2 none (.mv (.tmp 16)) (some 181) false <|
  .rd 3 none (.idxA 2 (.tmp 180) (.tmp 181)) (some 182) false <|
  .rd 4 none (.ldn 2 (.tmp 182)) (some 183) false <|
  .ef 5 none (.call F.movetree_Tree_Parent [(.tmp 179), (.tmp 183)]) (some 184) [] (
  .rd 6 none (.mv (.tmp 184)) (some 178) false <|
  .rd 7 none (.ext 0 (.tmp 178)) (some 185) false <|
  .rd 8 none (.ext 1 (.tmp 178)) (some 186) false <|
  .rd 9 none (.ext 2 (.tmp 178)) (some 187) false <|
  .ef 10 none (.alloc [(.int .i64 0), (.int .i64 0)]) (some 20) [] (
  .ef 11 none (.st 2 (.tmp 20) (.tmp 185)) none [] (
  .rd 12 none (.mv (.tmp 186)) (some 21) false <|
  .rd 13 none (.mv (.tmp 187)) (some 22) false <|
  .done) .none) .none) .none
noncomputable def F.osierlaw10_TreeOrders.r39 : Plan :=
  .rd 0 none (.ldn 2 (.tmp 17)) (some 188) false <|
  .rd 1 none (.ldn 2 (.tmp 20)) (some 189) false <|
  .rd 2 none (.eqS [(.i .i64), (.i .i64)] true true (.tmp 188) (.tmp 189)) (some 190) false <|
  .rd 3 none (.mv (.tmp 190)) (some 191) false <|
  .rd 4 (some (191, false)) (.mv (.tmp 18)) (some 192) false <|
  .rd 5 (some (191, false)) (.mv (.tmp 21)) (some 193) false <|
  .rd 6 (some (191, false)) (.bin .neq (.tmp 192) (.tmp 193)) (some 194) false <|
  .rd 7 none (.pick (.tmp 191) (.const (.bool true)) (.tmp 194)) (some 195) false <|
  .rd 8 none (.mv (.tmp 195)) (some 196) false <|
  .rd 9 (some (196, false)) (.mv (.tmp 19)) (some 197) false <|
  .rd 10 (some (196, false)) (.un .not (.tmp 197)) (some 198) false <|
  .rd 11 none (.pick (.tmp 196) (.const (.bool true)) (.tmp 198)) (some 199) false <|
  .rd 12 none (.mv (.tmp 199)) (some 200) false <|
  .rd 13 (some (200, false)) (.mv (.tmp 22)) (some 201) false <|
  .rd 14 (some (200, false)) (.un .not (.tmp 201)) (some 202) false <|
  .rd 15 none (.pick (.tmp 200) (.const (.bool true)) (.tmp 202)) (some 203) false <|
  .rd 16 none (.mv (.tmp 203)) (some 204) false <|
  .rd 17 (some (204, false)) (.mv (.tmp 12)) (some 205) false <|
  .rd 18 (some (204, false)) (.mv (.tmp 15)) (some 206) false <|
  .rd 19 (some (204, false)) (.mv (.tmp 16)) (some 207) false <|
  .rd 20 (some (204, false)) (.idxA 2 (.tmp 206) (.tmp 207)) (some 208) false <|
  .rd 21 (some (204, false)) (.ldn 2 (.tmp 208)) (some 209) false <|
  .rd 23 (some (204, false)) (.mv (.tmp 13)) (some 211) false <|
  .rd 24 (some (204, false)) (.mv (.tmp 15)) (some 212) false <|
  .rd 25 (some (204, false)) (.mv (.tmp 16)) (some 213) false <|
  .rd 26 (some (204, false)) (.idxA 2 (.tmp 212) (.tmp 213)) (some 214) false <|
  .rd 27 (some (204, false)) (.ldn 2 (.tmp 214)) (some 215) true <|
  .ef 22 (some (204, false)) (.call F.movetree_Tree_Kids [(.tmp 205), (.tmp 209)]) (some 210) [23, 24, 25, 26, 27] (
  .ef 28 (some (204, false)) (.call F.movetree_Tree_Kids [(.tmp 211), (.tmp 215)]) (some 216) [] (
  .ef 29 (some (204, false)) (.call F.osierref03_Same [(.tmp 210), (.tmp 216)]) (some 217) [] (
  .rd 30 (some (204, false)) (.un .not (.tmp 217)) (some 218) false <|
  .rd 31 none (.pick (.tmp 204) (.const (.bool true)) (.tmp 218)) (some 219) false <|
  .done) .none) .none) .none
noncomputable def F.osierlaw10_TreeOrders.r40 : Plan :=
  .rd 0 none (.mv (.const (.bool false))) (some 4) false <|
  .done
noncomputable def F.osierlaw10_TreeOrders.r41 : Plan :=
  .rd 0 none (.mv (.tmp 16)) (some 166) false <|
  .rd 1 none (.bin .add (.tmp 166) (.const (.int .i64 1))) (some 167) false <|
  .rd 2 none (.mv (.tmp 167)) (some 16) false <|
  .done
noncomputable def F.osierlaw10_TreeOrders.l4 : IC :=
    (.seq (.seq (.reg F.osierlaw10_TreeOrders.r36)
    (.cond (.tmp 165) .skip (.exit 8)))
    (.seq (.block 9 (.seq (.reg F.osierlaw10_TreeOrders.r37)
    (.seq (.reg F.osierlaw10_TreeOrders.r38)
    (.seq (.reg F.osierlaw10_TreeOrders.r39)
    (.cond (.tmp 219) (.seq (.reg F.osierlaw10_TreeOrders.r40)
    .ret) .skip)))))
    (.reg F.osierlaw10_TreeOrders.r41)))
noncomputable def F.osierlaw10_TreeOrders.r42 : Plan :=
  .rd 0 none (.mv (.const (.int .i64 0))) (some 23) false <|
  .done
noncomputable def F.osierlaw10_TreeOrders.r43 : Plan :=
  .rd 0 none (.mv (.tmp 23)) (some 220) false <|
  .rd 1 none (.mv (.tmp 0)) (some 221) false <|
  .rd 2 none (.len .sl (.tmp 221)) (some 222) false <|
  .rd 3 none (.bin .lss (.tmp 220) (.tmp 222)) (some 223) false <|
  .done
noncomputable def F.osierlaw10_TreeOrders.r44 : Plan :=
  .rd 0 none (.mv (.tmp 12)) (some 226) false <|
  .rd 1 none (.mv (.tmp 0)) (some 227) false <|
  .rd 2 none (.mv (.tmp 23)) (some 228) false <|
  .rd 3 none (.idxA 8 (.tmp 227) (.tmp 228)) (some 229) false <|
  .rd 4 none (.fldA 0 (.tmp 229)) (some 230) false <|
  .rd 5 none (.ldn 2 (.tmp 230)) (some 231) false <|
  .rd 7 none (.mv (.tmp 13)) (some 233) false <|
  .rd 8 none (.mv (.tmp 0)) (some 234) false <|
  .rd 9 none (.mv (.tmp 23)) (some 235) false <|
  .rd 10 none (.idxA 8 (.tmp 234) (.tmp 235)) (some 236) false <|
  .rd 11 none (.fldA 0 (.tmp 236)) (some 237) false <|
  .rd 12 none (.ldn 2 (.tmp 237)) (some 238) true <|
  .ef 6 none (.call F.movetree_Tree_Took [(.tmp 226), (.tmp 231)]) (some 232) [7, 8, 9, 10, 11, 12] (
  .ef 13 none (.call F.movetree_Tree_Took [(.tmp 233), (.tmp 238)]) (some 239) [] (
  .rd 14 none (.eqS [.b] false true (.tmp 232) (.tmp 239)) (some 240) false <|
  .done) .none) .none
noncomputable def F.osierlaw10_TreeOrders.r45 : Plan :=
  .rd 0 none (.mv (.const (.bool false))) (some 4) false <|
  .done
noncomputable def F.osierlaw10_TreeOrders.r46 : Plan :=
  .rd 0 none (.mv (.tmp 23)) (some 224) false <|
  .rd 1 none (.bin .add (.tmp 224) (.const (.int .i64 1))) (some 225) false <|
  .rd 2 none (.mv (.tmp 225)) (some 23) false <|
  .done
noncomputable def F.osierlaw10_TreeOrders.l5 : IC :=
    (.seq (.seq (.reg F.osierlaw10_TreeOrders.r43)
    (.cond (.tmp 223) .skip (.exit 10)))
    (.seq (.block 11 (.seq (.reg F.osierlaw10_TreeOrders.r44)
    (.cond (.tmp 240) (.seq (.reg F.osierlaw10_TreeOrders.r45)
    .ret) .skip)))
    (.reg F.osierlaw10_TreeOrders.r46)))
noncomputable def F.osierlaw10_TreeOrders.r47 : Plan :=
  .rd 0 none (.mv (.tmp 12)) (some 241) false <|
  .ef 1 none (.call F.api_Root []) (some 242) [] (
  .ef 2 none (.call F.movetree_Tree_Kids [(.tmp 241), (.tmp 242)]) (some 243) [] (
  .rd 3 none (.mv (.tmp 13)) (some 244) false <|
  .ef 4 none (.call F.api_Root []) (some 245) [] (
  .ef 5 none (.call F.movetree_Tree_Kids [(.tmp 244), (.tmp 245)]) (some 246) [] (
  .ef 6 none (.call F.osierref03_Same [(.tmp 243), (.tmp 246)]) (some 247) [] (
  .rd 7 none (.mv (.tmp 247)) (some 4) false <|
  .done) .none) .none) .none) .none) .none
noncomputable def F.osierlaw10_TreeOrders.ic : IC :=
    (.seq (.reg F.osierlaw10_TreeOrders.r0)
    (.seq (.reg F.osierlaw10_TreeOrders.r1)
    (.seq (.seq (.reg F.osierlaw10_TreeOrders.r2)
    (.cond (.tmp 26) (.seq (.reg F.osierlaw10_TreeOrders.r3)
    .ret) .skip))
    (.seq (.seq (.reg F.osierlaw10_TreeOrders.r4)
    (.cond (.tmp 29) (.seq (.reg F.osierlaw10_TreeOrders.r5)
    .ret) .skip))
    (.seq (.seq (.reg F.osierlaw10_TreeOrders.r6)
    (.block 0 (.loop F.osierlaw10_TreeOrders.l1)))
    (.seq (.reg F.osierlaw10_TreeOrders.r14)
    (.seq (.reg F.osierlaw10_TreeOrders.r15)
    (.seq (.seq (.reg F.osierlaw10_TreeOrders.r16)
    (.block 4 (.loop F.osierlaw10_TreeOrders.l2)))
    (.seq (.reg F.osierlaw10_TreeOrders.r25)
    (.seq (.reg F.osierlaw10_TreeOrders.r26)
    (.seq (.seq (.reg F.osierlaw10_TreeOrders.r27)
    (.block 6 (.loop F.osierlaw10_TreeOrders.l3)))
    (.seq (.reg F.osierlaw10_TreeOrders.r32)
    (.seq (.seq (.reg F.osierlaw10_TreeOrders.r33)
    (.cond (.tmp 161) (.seq (.reg F.osierlaw10_TreeOrders.r34)
    .ret) .skip))
    (.seq (.seq (.reg F.osierlaw10_TreeOrders.r35)
    (.block 8 (.loop F.osierlaw10_TreeOrders.l4)))
    (.seq (.seq (.reg F.osierlaw10_TreeOrders.r42)
    (.block 10 (.loop F.osierlaw10_TreeOrders.l5)))
    (.seq (.reg F.osierlaw10_TreeOrders.r47)
    .ret))))))))))))))))
noncomputable def F.osierlaw10_TreeOrders.rs : List RO := [(.mv (.tmp 4))]
theorem F.osierlaw10_TreeOrders.ok : cFunc Go.Proofs.Try.prog F.osierlaw10_TreeOrders = some (248, F.osierlaw10_TreeOrders.ic, F.osierlaw10_TreeOrders.rs) := by kernel_rfl
theorem F.osierlaw10_TreeOrders.cl : callable Go.Proofs.Try.prog F.osierlaw10_TreeOrders = true := by kernel_rfl
noncomputable def F.osierlaw10_TreePaths.r0 : Plan :=
  .rd 0 none (.mv (.const (.bool false))) (some 2) false <|
  .done
noncomputable def F.osierlaw10_TreePaths.r1 : Plan :=
  .ef 0 none (.call F.osierlaw10_awake []) (some 16) [] (
  .rd 1 none (.mv (.tmp 16)) (some 3) false <|
  .done) .none
noncomputable def F.osierlaw10_TreePaths.r2 : Plan :=
  .rd 0 none (.mv (.tmp 3)) (some 17) false <|
  .rd 1 none (.un .not (.tmp 17)) (some 18) false <|
  .done
noncomputable def F.osierlaw10_TreePaths.r3 : Plan :=
  .rd 0 none (.mv (.const (.bool false))) (some 2) false <|
  .done
noncomputable def F.osierlaw10_TreePaths.r4 : Plan :=
  .ef 0 none (.call F.movetree_New []) (some 19) [] (
  .rd 1 none (.mv (.tmp 19)) (some 4) false <|
  .done) .none
noncomputable def F.osierlaw10_TreePaths.r5 : Plan :=
  .rd 0 none (.mv (.const (.int .i64 0))) (some 5) false <|
  .done
noncomputable def F.osierlaw10_TreePaths.r6 : Plan :=
  .rd 0 none (.mv (.tmp 5)) (some 20) false <|
  .rd 1 none (.mv (.tmp 0)) (some 21) false <|
  .rd 2 none (.len .sl (.tmp 21)) (some 22) false <|
  .rd 3 none (.bin .lss (.tmp 20) (.tmp 22)) (some 23) false <|
  .rd 4 none (.mv (.tmp 23)) (some 24) false <|
  .rd 5 (some (24, true)) (.mv (.tmp 5)) (some 25) false <|
  .rd 6 (some (24, true)) (.bin .lss (.tmp 25) (.const (.int .i64 60))) (some 26) false <|
  .rd 7 none (.pick (.tmp 24) (.tmp 26) (.const (.bool false))) (some 27) false <|
  .done
noncomputable def F.osierlaw10_TreePaths.r7 : Plan :=
  .rd 0 none (.mv (.tmp 4)) (some 30) false <|
  .rd 1 none (.mv (.tmp 0)) (some 31) false <|
  .rd 2 none (.mv (.tmp 5)) (some 32) false <|
  .rd 3 none (.idxA 8 (.tmp 31) (.tmp 32)) (some 33) false <|
  .rd 4 none (.fldA 0 (.tmp 33)) (some 34) false <|
  .rd 5 none (.ldn 2 (.tmp 34)) (some 35) false <|
  .rd 6 none (.mv (.tmp 0)) (some 36) false <|
  .rd 7 none (.mv (.tmp 5)) (some 37) false <|
  .rd 8 none (.idxA 8 (.tmp 36) (.tmp 37)) (some 38) false <|
  .rd 9 none (.fldA 2 (.tmp 38)) (some 39) false <|
  .rd 10 none (.ld1 (.tmp 39)) (some 40) false <|
  .rd 11 none (.mv (.tmp 0)) (some 41) false <|
  .rd 12 none (.mv (.tmp 5)) (some 42) false <|
  .rd 13 none (.idxA 8 (.tmp 41) (.tmp 42)) (some 43) false <|
  .rd 14 none (.fldA 3 (.tmp 43)) (some 44) false <|
  .rd 15 none (.ldn 2 (.tmp 44)) (some 45) false <|
  .rd 16 none (.mv (.tmp 0)) (some 46) false <|
  .rd 17 none (.mv (.tmp 5)) (some 47) false <|
  .rd 18 none (.idxA 8 (.tmp 46) (.tmp 47)) (some 48) false <|
  .rd 19 none (.fldA 5 (.tmp 48)) (some 49) false <|
  .rd 20 none (.ldn 2 (.tmp 49)) (some 50) false <|
  .rd 21 none (.mv (.tmp 0)) (some 51) false <|
  .rd 22 none (.mv (.tmp 5)) (some 52) false <|
  .rd 23 none (.idxA 8 (.tmp 51) (.tmp 52)) (some 53) false <|
  .rd 24 none (.fldA 7 (.tmp 53)) (some 54) false <|
  .rd 25 none (.ld1 (.tmp 54)) (some 55) false <|
  .ef 26 none (.call F.movetree_Tree_Move [(.tmp 30), (.tmp 35), (.tmp 40), (.tmp 45), (.tmp 50), (.tmp 55)]) (some 56) [] (
  .done) .none
noncomputable def F.osierlaw10_TreePaths.r8 : Plan :=
  .rd 0 none (.mv (.tmp 5)) (some 28) false <|
  .rd 1 none (.bin .add (.tmp 28) (.const (.int .i64 1))) (some 29) false <|
  .rd 2 none (.mv (.tmp 29)) (some 5) false <|
  .done
noncomputable def F.osierlaw10_TreePaths.l0 : IC :=
    (.seq (.seq (.reg F.osierlaw10_TreePaths.r6)
    (.cond (.tmp 27) .skip (.exit 0)))
    (.seq (.block 1 (.reg F.osierlaw10_TreePaths.r7))
    (.reg F.osierlaw10_TreePaths.r8)))
noncomputable def F.osierlaw10_TreePaths.r9 : Plan :=
  .rd 0 none (.mv (.tmp 4)) (some 57) false <|
  .ef 1 none (.call F.movetree_Tree_Blocks [(.tmp 57)]) (some 58) [] (
  .rd 2 none (.mv (.tmp 58)) (some 6) false <|
  .done) .none
noncomputable def F.osierlaw10_TreePaths.r10 : Plan :=
  .rd 0 none (.mv (.const (.int .i64 0))) (some 7) false <|
  .done
noncomputable def F.osierlaw10_TreePaths.r11 : Plan :=
  .rd 0 none (.mv (.tmp 7)) (some 59) false <|
  .rd 1 none (.mv (.tmp 6)) (some 60) false <|
  .rd 2 none (.len .sl (.tmp 60)) (some 61) false <|
  .rd 3 none (.bin .lss (.tmp 59) (.tmp 61)) (some 62) false <|
  .done
noncomputable def F.osierlaw10_TreePaths.r12 : Plan :=
  .rd 0 none (.mv (.tmp 4)) (some 65) false <|
  .rd 1 none (.mv (.tmp 6)) (some 66) false <|
  .rd 2 none (.mv (.tmp 7)) (some 67) false <|
  .rd 3 none (.idxA 2 (.tmp 66) (.tmp 67)) (some 68) false <|
  .rd 4 none (.ldn 2 (.tmp 68)) (some 69) false <|
  .ef 5 none (.call F.movetree_Tree_Path [(.tmp 65), (.tmp 69)]) (some 70) [] (
  .rd 6 none (.mv (.tmp 70)) (some 8) false <|
  .done) .none
noncomputable def F.osierlaw10_TreePaths.r13 : Plan :=
  .rd 0 none (.mv (.tmp 8)) (some 71) false <|
  .rd 1 none (.len .sl (.tmp 71)) (some 72) false <|
  .rd 2 none (.mv (.tmp 72)) (some 9) false <|
  .done
noncomputable def F.osierlaw10_TreePaths.r14 : Plan :=
  .rd 0 none (.mv (.tmp 9)) (some 73) false <|
  .rd 1 none (.bin .eql (.tmp 73) (.const (.int .i64 0))) (some 74) false <|
  .rd 2 none (.mv (.tmp 74)) (some 75) false <|
  .rd 3 (some (75, false)) (.mv (.tmp 8)) (some 76) false <|
  .rd 4 (some (75, false)) (.mv (.tmp 9)) (some 77) false <|
  .rd 5 (some (75, false)) (.bin .sub (.tmp 77) (.const (.int .i64 1))) (some 78) false <|
  .rd 6 (some (75, false)) (.idxA 2 (.tmp 76) (.tmp 78)) (some 79) false <|
  .rd 7 (some (75, false)) (.ldn 2 (.tmp 79)) (some 80) true <|
  .ef 8 (some (75, false)) (.call F.api_Root []) (some 81) [3, 4, 5, 6, 7] (
  .rd 9 (some (75, false)) (.eqS [(.i .i64), (.i .i64)] true true (.tmp 80) (.tmp 81)) (some 82) false <|
  .rd 10 (some (75, false)) (.mv (.tmp 82)) (some 83) false <|
  .rd 11 (some (83, true)) (.mv (.tmp 8)) (some 84) false <|
  .rd 12 (some (83, true)) (.mv (.tmp 9)) (some 85) false <|
  .rd 13 (some (83, true)) (.bin .sub (.tmp 85) (.const (.int .i64 1))) (some 86) false <|
  .rd 14 (some (83, true)) (.idxA 2 (.tmp 84) (.tmp 86)) (some 87) false <|
  .rd 15 (some (83, true)) (.ldn 2 (.tmp 87)) (some 88) true <|
  .ef 16 (some (83, true)) (.call F.api_Trash []) (some 89) [11, 12, 13, 14, 15] (
  .rd 17 (some (83, true)) (.eqS [(.i .i64), (.i .i64)] true true (.tmp 88) (.tmp 89)) (some 90) false <|
  .rd 18 (some (75, false)) (.pick (.tmp 83) (.tmp 90) (.const (.bool false))) (some 91) false <|
  .rd 19 none (.pick (.tmp 75) (.const (.bool true)) (.tmp 91)) (some 92) false <|
  .rd 20 none (.mv (.tmp 92)) (some 93) false <|
  .rd 21 (some (93, false)) (.mv (.tmp 8)) (some 94) false <|
  .rd 22 (some (93, false)) (.mv (.tmp 6)) (some 95) false <|
  .rd 23 (some (93, false)) (.mv (.tmp 7)) (some 96) false <|
  .rd 24 (some (93, false)) (.idxA 2 (.tmp 95) (.tmp 96)) (some 97) false <|
  .rd 25 (some (93, false)) (.ldn 2 (.tmp 97)) (some 98) false <|
  .ef 26 (some (93, false)) (.call F.osierref03_In [(.tmp 94), (.tmp 98)]) (some 99) [] (
  .rd 27 none (.pick (.tmp 93) (.const (.bool true)) (.tmp 99)) (some 100) false <|
  .rd 28 none (.mv (.tmp 100)) (some 101) false <|
  .rd 29 (some (101, false)) (.mv (.tmp 8)) (some 102) false <|
  .rd 32 (some (101, false)) (.mv (.tmp 9)) (some 105) false <|
  .ef 30 (some (101, false)) (.call F.osierref03_Rising [(.tmp 102)]) (some 103) [32] (
  .rd 31 (some (101, false)) (.len .sl (.tmp 103)) (some 104) false <|
  .rd 33 (some (101, false)) (.bin .neq (.tmp 104) (.tmp 105)) (some 106) false <|
  .rd 34 none (.pick (.tmp 101) (.const (.bool true)) (.tmp 106)) (some 107) false <|
  .done) .none) .none) .none) .none
noncomputable def F.osierlaw10_TreePaths.r15 : Plan :=
  .rd 0 none (.mv (.const (.bool false))) (some 2) false <|
  .done
noncomputable def F.osierlaw10_TreePaths.r16 : Plan :=
  .rd 0 none (.mv (.tmp 4)) (some 109) false <|
  .rd 1 none (.mv (.tmp 6)) (some 110) false <|
  .rd 2 none (.mv (.tmp 7)) (some 111) false <|
  .rd 3 none (.idxA 2 (.tmp 110) (.tmp 111)) (some 112) false <|
  .rd 4 none (.ldn 2 (.tmp 112)) (some 113) false <|
  .ef 5 none (.call F.movetree_Tree_Parent [(.tmp 109), (.tmp 113)]) (some 114) [] (
  .rd 6 none (.mv (.tmp 114)) (some 108) false <|
  .rd 7 none (.ext 0 (.tmp 108)) (some 115) false <|
  .rd 8 none (.ext 1 (.tmp 108)) (some 116) false <|
  .rd 9 none (.ext 2 (.tmp 108)) (some 117) false <|
  .ef 10 none (.alloc [(.int .i64 0), (.int .i64 0)]) (some 10) [] (
  .ef 11 none (.st 2 (.tmp 10) (.tmp 115)) none [] (
  .rd 12 none (.mv (.tmp 116)) (some 11) false <|
  .rd 13 none (.mv (.tmp 117)) (some 12) false <|
  .done) .none) .none) .none
noncomputable def F.osierlaw10_TreePaths.r17 : Plan :=
  .rd 0 none (.mv (.tmp 4)) (some 118) false <|
  .rd 1 none (.ldn 2 (.tmp 10)) (some 119) false <|
  .ef 2 none (.call F.movetree_Tree_Kids [(.tmp 118), (.tmp 119)]) (some 120) [] (
  .rd 3 none (.mv (.tmp 120)) (some 13) false <|
  .done) .none
noncomputable def F.osierlaw10_TreePaths.r18 : Plan :=
  .rd 0 none (.mv (.const (.int .i64 0))) (some 14) false <|
  .done
noncomputable def F.osierlaw10_TreePaths.r19 : Plan :=
  .rd 0 none (.mv (.const (.int .i64 0))) (some 15) false <|
  .done
noncomputable def F.osierlaw10_TreePaths.r20 : Plan :=
  .rd 0 none (.mv (.tmp 15)) (some 121) false <|
  .rd 1 none (.mv (.tmp 13)) (some 122) false <|
  .rd 2 none (.len .sl (.tmp 122)) (some 123) false <|
  .rd 3 none (.bin .lss (.tmp 121) (.tmp 123)) (some 124) false <|
  .done
noncomputable def F.osierlaw10_TreePaths.r21 : Plan :=
  .rd 0 none (.mv (.tmp 13)) (some 127) false <|
  .rd 1 none (.mv (.tmp 15)) (some 128) false <|
  .rd 2 none (.idxA 2 (.tmp 127) (.tmp 128)) (some 129) false <|
  .rd 3 none (.ldn 2 (.tmp 129)) (some 130) false <|
  .rd 4 none (.mv (.tmp 6)) (some 131) false <|
  .rd 5 none (.mv (.tmp 7)) (some 132) false <|
  .rd 6 none (.idxA 2 (.tmp 131) (.tmp 132)) (some 133) false <|
  .rd 7 none (.ldn 2 (.tmp 133)) (some 134) false <|
  .rd 8 none (.eqS [(.i .i64), (.i .i64)] true false (.tmp 130) (.tmp 134)) (some 135) false <|
  .done
noncomputable def F.osierlaw10_TreePaths.r22 : Plan :=
  .rd 0 none (.mv (.tmp 14)) (some 136) false <|
  .rd 1 none (.bin .add (.tmp 136) (.const (.int .i64 1))) (some 137) false <|
  .rd 2 none (.mv (.tmp 137)) (some 14) false <|
  .done
noncomputable def F.osierlaw10_TreePaths.r23 : Plan :=
  .rd 0 none (.mv (.tmp 15)) (some 125) false <|
  .rd 1 none (.bin .add (.tmp 125) (.const (.int .i64 1))) (some 126) false <|
  .rd 2 none (.mv (.tmp 126)) (some 15) false <|
  .done
noncomputable def F.osierlaw10_TreePaths.l1 : IC :=
    (.seq (.seq (.reg F.osierlaw10_TreePaths.r20)
    (.cond (.tmp 124) .skip (.exit 4)))
    (.seq (.block 5 (.seq (.reg F.osierlaw10_TreePaths.r21)
    (.cond (.tmp 135) (.reg F.osierlaw10_TreePaths.r22) .skip)))
    (.reg F.osierlaw10_TreePaths.r23)))
noncomputable def F.osierlaw10_TreePaths.r24 : Plan :=
  .rd 0 none (.mv (.tmp 12)) (some 138) false <|
  .rd 1 none (.un .not (.tmp 138)) (some 139) false <|
  .rd 2 none (.mv (.tmp 139)) (some 140) false <|
  .rd 3 (some (140, false)) (.ldn 2 (.tmp 10)) (some 141) false <|
  .rd 4 (some (140, false)) (.mv (.tmp 8)) (some 142) false <|
  .rd 5 (some (140, false)) (.idxA 2 (.tmp 142) (.const (.int .i64 0))) (some 143) false <|
  .rd 6 (some (140, false)) (.ldn 2 (.tmp 143)) (some 144) false <|
  .rd 7 (some (140, false)) (.eqS [(.i .i64), (.i .i64)] true true (.tmp 141) (.tmp 144)) (some 145) false <|
  .rd 8 none (.pick (.tmp 140) (.const (.bool true)) (.tmp 145)) (some 146) false <|
  .rd 9 none (.mv (.tmp 146)) (some 147) false <|
  .rd 10 (some (147, false)) (.mv (.tmp 14)) (some 148) false <|
  .rd 11 (some (147, false)) (.bin .neq (.tmp 148) (.const (.int .i64 1))) (some 149) false <|
  .rd 12 none (.pick (.tmp 147) (.const (.bool true)) (.tmp 149)) (some 150) false <|
  .done
noncomputable def F.osierlaw10_TreePaths.r25 : Plan :=
  .rd 0 none (.mv (.const (.bool false))) (some 2) false <|
  .done
noncomputable def F.osierlaw10_TreePaths.r26 : Plan :=
  .rd 0 none (.mv (.tmp 7)) (some 63) false <|
  .rd 1 none (.bin .add (.tmp 63) (.const (.int .i64 1))) (some 64) false <|
  .rd 2 none (.mv (.tmp 64)) (some 7) false <|
  .done
noncomputable def F.osierlaw10_TreePaths.l2 : IC :=
    (.seq (.seq (.reg F.osierlaw10_TreePaths.r11)
    (.cond (.tmp 62) .skip (.exit 2)))
    (.seq (.block 3 (.seq (.reg F.osierlaw10_TreePaths.r12)
    (.seq (.reg F.osierlaw10_TreePaths.r13)
    (.seq (.seq (.reg F.osierlaw10_TreePaths.r14)
    (.cond (.tmp 107) (.seq (.reg F.osierlaw10_TreePaths.r15)
    .ret) .skip))
    (.seq (.reg F.osierlaw10_TreePaths.r16)
    (.seq (.reg F.osierlaw10_TreePaths.r17)
    (.seq (.reg F.osierlaw10_TreePaths.r18)
    (.seq (.seq (.reg F.osierlaw10_TreePaths.r19)
    (.block 4 (.loop F.osierlaw10_TreePaths.l1)))
    (.seq (.reg F.osierlaw10_TreePaths.r24)
    (.cond (.tmp 150) (.seq (.reg F.osierlaw10_TreePaths.r25)
    .ret) .skip))))))))))
    (.reg F.osierlaw10_TreePaths.r26)))
noncomputable def F.osierlaw10_TreePaths.r27 : Plan :=
  .rd 0 none (.mv (.const (.bool true))) (some 2) false <|
  .done
noncomputable def F.osierlaw10_TreePaths.ic : IC :=
    (.seq (.reg F.osierlaw10_TreePaths.r0)
    (.seq (.reg F.osierlaw10_TreePaths.r1)
    (.seq (.seq (.reg F.osierlaw10_TreePaths.r2)
    (.cond (.tmp 18) (.seq (.reg F.osierlaw10_TreePaths.r3)
    .ret) .skip))
    (.seq (.reg F.osierlaw10_TreePaths.r4)
    (.seq (.seq (.reg F.osierlaw10_TreePaths.r5)
    (.block 0 (.loop F.osierlaw10_TreePaths.l0)))
    (.seq (.reg F.osierlaw10_TreePaths.r9)
    (.seq (.seq (.reg F.osierlaw10_TreePaths.r10)
    (.block 2 (.loop F.osierlaw10_TreePaths.l2)))
    (.seq (.reg F.osierlaw10_TreePaths.r27)
    .ret))))))))
noncomputable def F.osierlaw10_TreePaths.rs : List RO := [(.mv (.tmp 2))]
theorem F.osierlaw10_TreePaths.ok : cFunc Go.Proofs.Try.prog F.osierlaw10_TreePaths = some (151, F.osierlaw10_TreePaths.ic, F.osierlaw10_TreePaths.rs) := by kernel_rfl
theorem F.osierlaw10_TreePaths.cl : callable Go.Proofs.Try.prog F.osierlaw10_TreePaths = true := by kernel_rfl
noncomputable def F.osierref10_Tree_Move.r0 : Plan :=
  .ef 0 none (.box (.tmp 0)) (some 2) [] (
  .ef 1 none (.box (.tmp 1)) (some 3) [] (
  .ef 2 none (.alloc [(.slice none 0 0), (.slice none 0 0), (.slice none 0 0)]) (some 4) [] (
  .rd 3 none (.mv (.const (.int .i64 0))) (some 5) false <|
  .done) .none) .none) .none
noncomputable def F.osierref10_Tree_Move.r1 : Plan :=
  .rd 0 none (.fldA 0 (.tmp 3)) (some 10) false <|
  .rd 1 none (.ldn 2 (.tmp 10)) (some 11) false <|
  .rd 2 none (.build [(.int .i64 0), (.int .i64 0)] []) (some 12) false <|
  .rd 3 none (.eqS [(.i .i64), (.i .i64)] true false (.tmp 11) (.tmp 12)) (some 13) false <|
  .rd 4 none (.mv (.tmp 13)) (some 14) false <|
  .rd 5 (some (14, false)) (.fldA 3 (.tmp 3)) (some 15) false <|
  .rd 6 (some (14, false)) (.ldn 2 (.tmp 15)) (some 16) false <|
  .rd 7 (some (14, false)) (.build [(.int .i64 0), (.int .i64 0)] []) (some 17) false <|
  .rd 8 (some (14, false)) (.eqS [(.i .i64), (.i .i64)] true false (.tmp 16) (.tmp 17)) (some 18) false <|
  .rd 9 none (.pick (.tmp 14) (.const (.bool true)) (.tmp 18)) (some 19) false <|
  .rd 10 none (.mv (.tmp 19)) (some 20) false <|
  .rd 11 (some (20, false)) (.fldA 0 (.tmp 3)) (some 21) false <|
  .rd 12 (some (20, false)) (.ldn 2 (.tmp 21)) (some 22) false <|
  .ef 13 (some (20, false)) (.call F.osierref10_ends [(.tmp 22)]) (some 23) [] (
  .rd 14 none (.pick (.tmp 20) (.const (.bool true)) (.tmp 23)) (some 24) false <|
  .rd 15 none (.mv (.tmp 24)) (some 25) false <|
  .rd 16 (some (25, false)) (.fldA 3 (.tmp 3)) (some 26) false <|
  .rd 17 (some (25, false)) (.ldn 2 (.tmp 26)) (some 27) false <|
  .ef 18 (some (25, false)) (.call F.osierref10_ends [(.tmp 27)]) (some 28) [] (
  .rd 19 none (.pick (.tmp 25) (.const (.bool true)) (.tmp 28)) (some 29) false <|
  .done) .none) .none
noncomputable def F.osierref10_Tree_Move.r2 : Plan :=
  .rd 0 none (.ldn 3 (.tmp 2)) (some 30) false <|
  .ef 1 none (.st 3 (.tmp 4) (.tmp 30)) none [] (
  .rd 2 none (.mv (.const (.int .i64 1))) (some 5) false <|
  .done) .none
noncomputable def F.osierref10_Tree_Move.r3 : Plan :=
  .rd 0 none (.mv (.const (.int .i64 0))) (some 6) false <|
  .done
noncomputable def F.osierref10_Tree_Move.r4 : Plan :=
  .rd 0 none (.mv (.const (.int .i64 0))) (some 7) false <|
  .done
noncomputable def F.osierref10_Tree_Move.r5 : Plan :=
  .rd 0 none (.mv (.tmp 7)) (some 31) false <|
  .rd 1 none (.fldA 0 (.tmp 2)) (some 32) false <|
  .rd 2 none (.ld1 (.tmp 32)) (some 33) false <|
  .rd 3 none (.len .sl (.tmp 33)) (some 34) false <|
  .rd 4 none (.bin .lss (.tmp 31) (.tmp 34)) (some 35) false <|
  .done
noncomputable def F.osierref10_Tree_Move.r6 : Plan :=
  .rd 0 none (.fldA 0 (.tmp 2)) (some 38) false <|
  .rd 1 none (.ld1 (.tmp 38)) (some 39) false <|
  .rd 2 none (.mv (.tmp 7)) (some 40) false <|
  .rd 3 none (.idxA 8 (.tmp 39) (.tmp 40)) (some 41) false <|
  .rd 4 none (.fldA 0 (.tmp 41)) (some 42) false <|
  .rd 5 none (.ldn 2 (.tmp 42)) (some 43) false <|
  .rd 6 none (.fldA 0 (.tmp 3)) (some 44) false <|
  .rd 7 none (.ldn 2 (.tmp 44)) (some 45) false <|
  .rd 8 none (.eqS [(.i .i64), (.i .i64)] true false (.tmp 43) (.tmp 45)) (some 46) false <|
  .done
noncomputable def F.osierref10_Tree_Move.r7 : Plan :=
  .rd 0 none (.ldn 3 (.tmp 2)) (some 47) false <|
  .ef 1 none (.st 3 (.tmp 4) (.tmp 47)) none [] (
  .rd 2 none (.mv (.const (.int .i64 32))) (some 5) false <|
  .done) .none
noncomputable def F.osierref10_Tree_Move.r8 : Plan :=
  .rd 0 none (.fldA 0 (.tmp 2)) (some 48) false <|
  .rd 1 none (.ld1 (.tmp 48)) (some 49) false <|
  .rd 2 none (.mv (.tmp 7)) (some 50) false <|
  .rd 3 none (.idxA 8 (.tmp 49) (.tmp 50)) (some 51) false <|
  .rd 4 none (.ldn 8 (.tmp 51)) (some 52) false <|
  .rd 5 none (.ldn 8 (.tmp 3)) (some 53) false <|
  .ef 6 none (.call F.osierref10_ahead [(.tmp 52), (.tmp 53)]) (some 54) [] (
  .rd 7 none (.mv (.tmp 54)) (some 8) false <|
  .done) .none
noncomputable def F.osierref10_Tree_Move.r9 : Plan :=
  .rd 0 none (.mv (.tmp 8)) (some 55) false <|
  .done
noncomputable def F.osierref10_Tree_Move.r10 : Plan :=
  .rd 0 none (.mv (.tmp 6)) (some 56) false <|
  .rd 1 none (.bin .add (.tmp 56) (.const (.int .i64 1))) (some 57) false <|
  .rd 2 none (.mv (.tmp 57)) (some 6) false <|
  .done
noncomputable def F.osierref10_Tree_Move.r11 : Plan :=
  .rd 0 none (.mv (.tmp 7)) (some 36) false <|
  .rd 1 none (.bin .add (.tmp 36) (.const (.int .i64 1))) (some 37) false <|
  .rd 2 none (.mv (.tmp 37)) (some 7) false <|
  .done
noncomputable def F.osierref10_Tree_Move.l0 : IC :=
    (.seq (.seq (.reg F.osierref10_Tree_Move.r5)
    (.cond (.tmp 35) .skip (.exit 0)))
    (.seq (.block 1 (.seq (.seq (.reg F.osierref10_Tree_Move.r6)
    (.cond (.tmp 46) (.seq (.reg F.osierref10_Tree_Move.r7)
    .ret) .skip))
    (.seq (.reg F.osierref10_Tree_Move.r8)
    (.seq (.reg F.osierref10_Tree_Move.r9)
    (.cond (.tmp 55) (.reg F.osierref10_Tree_Move.r10) .skip)))))
    (.reg F.osierref10_Tree_Move.r11)))
noncomputable def F.osierref10_Tree_Move.r12 : Plan :=
  .rd 0 none (.mv (.const (.slice none 0 0))) (some 9) false <|
  .done
noncomputable def F.osierref10_Tree_Move.r13 : Plan :=
  .rd 0 none (.mv (.tmp 9)) (some 58) false <|
  .rd 1 none (.fldA 0 (.tmp 2)) (some 59) false <|
  .rd 2 none (.ld1 (.tmp 59)) (some 60) false <|
  .rd 3 none (.mv (.tmp 6)) (some 61) false <|
  .rd 4 none (.sl 8 (.tmp 60) none (some (.tmp 61)) none) (some 62) false <|
  .ef 5 none (.app 8 72 (.tmp 58) (.tmp 62)) (some 63) [] (
  .rd 6 none (.mv (.tmp 63)) (some 9) false <|
  .done) .none
noncomputable def F.osierref10_Tree_Move.r14 : Plan :=
  .rd 0 none (.mv (.tmp 9)) (some 64) false <|
  .rd 1 none (.ldn 8 (.tmp 3)) (some 65) false <|
  .ef 2 none (.bsl 1 [(.int .i64 0), (.int .i64 0), (.int .i64 0), (.int .i64 0), (.int .i64 0), (.int .i64 0), (.int .i64 0), (.string ⟨#[]⟩)] [(0, (8, (.tmp 65)))]) (some 66) [] (
  .ef 3 none (.app 8 72 (.tmp 64) (.tmp 66)) (some 67) [] (
  .rd 4 none (.mv (.tmp 67)) (some 9) false <|
  .done) .none) .none
noncomputable def F.osierref10_Tree_Move.r15 : Plan :=
  .rd 0 none (.mv (.tmp 9)) (some 68) false <|
  .rd 1 none (.fldA 0 (.tmp 2)) (some 69) false <|
  .rd 2 none (.ld1 (.tmp 69)) (some 70) false <|
  .rd 3 none (.mv (.tmp 6)) (some 71) false <|
  .rd 4 none (.sl 8 (.tmp 70) (some (.tmp 71)) none none) (some 72) false <|
  .ef 5 none (.app 8 72 (.tmp 68) (.tmp 72)) (some 73) [] (
  .rd 6 none (.mv (.tmp 73)) (some 9) false <|
  .done) .none
noncomputable def F.osierref10_Tree_Move.r16 : Plan :=
  .rd 0 none (.mv (.tmp 9)) (some 74) false <|
  .ef 1 none (.call F.osierref10_Done [(.tmp 74)]) (some 75) [] (
  .ef 2 none (.st 3 (.tmp 4) (.tmp 75)) none [] (
  .rd 3 none (.mv (.const (.int .i64 0))) (some 5) false <|
  .done) .none) .none
noncomputable def F.osierref10_Tree_Move.ic : IC :=
    (.seq (.reg F.osierref10_Tree_Move.r0)
    (.seq (.seq (.reg F.osierref10_Tree_Move.r1)
    (.cond (.tmp 29) (.seq (.reg F.osierref10_Tree_Move.r2)
    .ret) .skip))
    (.seq (.reg F.osierref10_Tree_Move.r3)
    (.seq (.seq (.reg F.osierref10_Tree_Move.r4)
    (.block 0 (.loop F.osierref10_Tree_Move.l0)))
    (.seq (.reg F.osierref10_Tree_Move.r12)
    (.seq (.reg F.osierref10_Tree_Move.r13)
    (.seq (.reg F.osierref10_Tree_Move.r14)
    (.seq (.reg F.osierref10_Tree_Move.r15)
    (.seq (.reg F.osierref10_Tree_Move.r16)
    .ret)))))))))
noncomputable def F.osierref10_Tree_Move.rs : List RO := [(.ldn 3 (.tmp 4)), (.mv (.tmp 5))]
theorem F.osierref10_Tree_Move.ok : cFunc Go.Proofs.Try.prog F.osierref10_Tree_Move = some (76, F.osierref10_Tree_Move.ic, F.osierref10_Tree_Move.rs) := by kernel_rfl
theorem F.osierref10_Tree_Move.cl : callable Go.Proofs.Try.prog F.osierref10_Tree_Move = true := by kernel_rfl
noncomputable def F.osierlaw10_is.r0 : Plan :=
  .ef 0 none (.box (.tmp 1)) (some 4) [] (
  .ef 1 none (.box (.tmp 2)) (some 5) [] (
  .rd 2 none (.mv (.const (.bool false))) (some 6) false <|
  .done) .none) .none
noncomputable def F.osierlaw10_is.r1 : Plan :=
  .rd 0 none (.ldn 3 (.tmp 4)) (some 14) false <|
  .ef 1 none (.call F.osierref10_Tree_Blocks [(.tmp 14)]) (some 15) [] (
  .rd 2 none (.mv (.tmp 15)) (some 7) false <|
  .done) .none
noncomputable def F.osierlaw10_is.r2 : Plan :=
  .rd 0 none (.mv (.tmp 0)) (some 16) false <|
  .rd 2 none (.mv (.tmp 7)) (some 18) false <|
  .ef 1 none (.call F.movetree_Tree_Blocks [(.tmp 16)]) (some 17) [2] (
  .ef 3 none (.call F.osierref03_Same [(.tmp 17), (.tmp 18)]) (some 19) [] (
  .rd 4 none (.un .not (.tmp 19)) (some 20) false <|
  .rd 5 none (.mv (.tmp 20)) (some 21) false <|
  .rd 6 (some (21, false)) (.mv (.tmp 0)) (some 22) false <|
  .rd 9 (some (21, false)) (.ldn 3 (.tmp 4)) (some 25) true <|
  .ef 7 (some (21, false)) (.call F.api_Root []) (some 23) [6, 9] (
  .ef 8 (some (21, false)) (.call F.movetree_Tree_Kids [(.tmp 22), (.tmp 23)]) (some 24) [9] (
  .ef 10 (some (21, false)) (.call F.api_Root []) (some 26) [9] (
  .ef 11 (some (21, false)) (.call F.osierref10_Tree_Kids [(.tmp 25), (.tmp 26)]) (some 27) [] (
  .ef 12 (some (21, false)) (.call F.osierref03_Same [(.tmp 24), (.tmp 27)]) (some 28) [] (
  .rd 13 (some (21, false)) (.un .not (.tmp 28)) (some 29) false <|
  .rd 14 none (.pick (.tmp 21) (.const (.bool true)) (.tmp 29)) (some 30) false <|
  .rd 15 none (.mv (.tmp 30)) (some 31) false <|
  .rd 16 (some (31, false)) (.mv (.tmp 0)) (some 32) false <|
  .rd 19 (some (31, false)) (.ldn 3 (.tmp 4)) (some 35) true <|
  .ef 17 (some (31, false)) (.call F.api_Trash []) (some 33) [16, 19] (
  .ef 18 (some (31, false)) (.call F.movetree_Tree_Kids [(.tmp 32), (.tmp 33)]) (some 34) [19] (
  .ef 20 (some (31, false)) (.call F.api_Trash []) (some 36) [19] (
  .ef 21 (some (31, false)) (.call F.osierref10_Tree_Kids [(.tmp 35), (.tmp 36)]) (some 37) [] (
  .ef 22 (some (31, false)) (.call F.osierref03_Same [(.tmp 34), (.tmp 37)]) (some 38) [] (
  .rd 23 (some (31, false)) (.un .not (.tmp 38)) (some 39) false <|
  .rd 24 none (.pick (.tmp 31) (.const (.bool true)) (.tmp 39)) (some 40) false <|
  .rd 25 none (.mv (.tmp 40)) (some 41) false <|
  .rd 26 (some (41, false)) (.mv (.tmp 0)) (some 42) false <|
  .rd 27 (some (41, false)) (.ldn 2 (.tmp 5)) (some 43) false <|
  .rd 29 (some (41, false)) (.ldn 3 (.tmp 4)) (some 45) true <|
  .rd 30 (some (41, false)) (.ldn 2 (.tmp 5)) (some 46) true <|
  .ef 28 (some (41, false)) (.call F.movetree_Tree_Kids [(.tmp 42), (.tmp 43)]) (some 44) [29, 30] (
  .ef 31 (some (41, false)) (.call F.osierref10_Tree_Kids [(.tmp 45), (.tmp 46)]) (some 47) [] (
  .ef 32 (some (41, false)) (.call F.osierref03_Same [(.tmp 44), (.tmp 47)]) (some 48) [] (
  .rd 33 (some (41, false)) (.un .not (.tmp 48)) (some 49) false <|
  .rd 34 none (.pick (.tmp 41) (.const (.bool true)) (.tmp 49)) (some 50) false <|
  .done) .none) .none) .none) .none) .none) .none) .none) .none) .none) .none) .none) .none) .none) .none) .none
noncomputable def F.osierlaw10_is.r3 : Plan :=
  .rd 0 none (.mv (.const (.bool false))) (some 6) false <|
  .done
noncomputable def F.osierlaw10_is.r4 : Plan :=
  .rd 0 none (.mv (.tmp 7)) (some 51) false <|
  .rd 1 none (.ldn 2 (.tmp 5)) (some 52) false <|
  .ef 2 none (.bsl 1 [(.int .i64 0), (.int .i64 0)] [(0, (2, (.tmp 52)))]) (some 53) [] (
  .ef 3 none (.app 2 16 (.tmp 51) (.tmp 53)) (some 54) [] (
  .rd 4 none (.mv (.tmp 54)) (some 7) false <|
  .done) .none) .none
noncomputable def F.osierlaw10_is.r5 : Plan :=
  .rd 0 none (.mv (.const (.int .i64 0))) (some 8) false <|
  .done
noncomputable def F.osierlaw10_is.r6 : Plan :=
  .rd 0 none (.mv (.tmp 8)) (some 55) false <|
  .rd 1 none (.mv (.tmp 7)) (some 56) false <|
  .rd 2 none (.len .sl (.tmp 56)) (some 57) false <|
  .rd 3 none (.bin .lss (.tmp 55) (.tmp 57)) (some 58) false <|
  .done
noncomputable def F.osierlaw10_is.r7 : Plan :=
  .rd 0 none (.ldn 3 (.tmp 4)) (some 61) false <|
  .rd 1 none (.mv (.tmp 7)) (some 62) false <|
  .rd 2 none (.mv (.tmp 8)) (some 63) false <|
  .rd 3 none (.idxA 2 (.tmp 62) (.tmp 63)) (some 64) false <|
  .rd 4 none (.ldn 2 (.tmp 64)) (some 65) false <|
  .ef 5 none (.call F.osierref10_Tree_At [(.tmp 61), (.tmp 65)]) (some 66) [] (
  .rd 6 none (.mv (.tmp 66)) (some 9) false <|
  .done) .none
noncomputable def F.osierlaw10_is.r8 : Plan :=
  .rd 0 none (.mv (.tmp 0)) (some 68) false <|
  .rd 1 none (.mv (.tmp 7)) (some 69) false <|
  .rd 2 none (.mv (.tmp 8)) (some 70) false <|
  .rd 3 none (.idxA 2 (.tmp 69) (.tmp 70)) (some 71) false <|
  .rd 4 none (.ldn 2 (.tmp 71)) (some 72) false <|
  .ef 5 none (.call F.movetree_Tree_Parent [(.tmp 68), (.tmp 72)]) (some 73) [] (
  .rd 6 none (.mv (.tmp 73)) (some 67) false <|
  .rd 7 none (.ext 0 (.tmp 67)) (some 74) false <|
  .rd 8 none (.ext 1 (.tmp 67)) (some 75) false <|
  .rd 9 none (.ext 2 (.tmp 67)) (some 76) false <|
  .ef 10 none (.alloc [(.int .i64 0), (.int .i64 0)]) (some 10) [] (
  .ef 11 none (.st 2 (.tmp 10) (.tmp 74)) none [] (
  .rd 12 none (.mv (.tmp 75)) (some 11) false <|
  .rd 13 none (.mv (.tmp 76)) (some 12) false <|
  .done) .none) .none) .none
noncomputable def F.osierlaw10_is.r9 : Plan :=
  .rd 0 none (.mv (.tmp 12)) (some 77) false <|
  .rd 1 none (.mv (.tmp 9)) (some 78) false <|
  .rd 2 none (.bin .geq (.tmp 78) (.const (.int .i64 0))) (some 79) false <|
  .rd 3 none (.eqS [.b] false true (.tmp 77) (.tmp 79)) (some 80) false <|
  .rd 4 none (.mv (.tmp 80)) (some 81) false <|
  .rd 5 (some (81, false)) (.mv (.tmp 0)) (some 82) false <|
  .rd 6 (some (81, false)) (.mv (.tmp 7)) (some 83) false <|
  .rd 7 (some (81, false)) (.mv (.tmp 8)) (some 84) false <|
  .rd 8 (some (81, false)) (.idxA 2 (.tmp 83) (.tmp 84)) (some 85) false <|
  .rd 9 (some (81, false)) (.ldn 2 (.tmp 85)) (some 86) false <|
  .rd 11 (some (81, false)) (.mv (.tmp 9)) (some 88) false <|
  .rd 12 (some (81, false)) (.bin .geq (.tmp 88) (.const (.int .i64 0))) (some 89) false <|
  .ef 10 (some (81, false)) (.call F.movetree_Tree_There [(.tmp 82), (.tmp 86)]) (some 87) [11, 12] (
  .rd 13 (some (81, false)) (.eqS [.b] false true (.tmp 87) (.tmp 89)) (some 90) false <|
  .rd 14 none (.pick (.tmp 81) (.const (.bool true)) (.tmp 90)) (some 91) false <|
  .rd 15 none (.mv (.tmp 91)) (some 92) false <|
  .rd 16 (some (92, false)) (.mv (.tmp 0)) (some 93) false <|
  .rd 17 (some (92, false)) (.mv (.tmp 7)) (some 94) false <|
  .rd 18 (some (92, false)) (.mv (.tmp 8)) (some 95) false <|
  .rd 19 (some (92, false)) (.idxA 2 (.tmp 94) (.tmp 95)) (some 96) false <|
  .rd 20 (some (92, false)) (.ldn 2 (.tmp 96)) (some 97) false <|
  .rd 22 (some (92, false)) (.ldn 3 (.tmp 4)) (some 99) true <|
  .rd 23 (some (92, false)) (.mv (.tmp 7)) (some 100) false <|
  .rd 24 (some (92, false)) (.mv (.tmp 8)) (some 101) false <|
  .rd 25 (some (92, false)) (.idxA 2 (.tmp 100) (.tmp 101)) (some 102) false <|
  .rd 26 (some (92, false)) (.ldn 2 (.tmp 102)) (some 103) true <|
  .ef 21 (some (92, false)) (.call F.movetree_Tree_Path [(.tmp 93), (.tmp 97)]) (some 98) [22, 23, 24, 25, 26] (
  .ef 27 (some (92, false)) (.call F.osierref10_Tree_Path [(.tmp 99), (.tmp 103)]) (some 104) [] (
  .ef 28 (some (92, false)) (.call F.osierref03_Same [(.tmp 98), (.tmp 104)]) (some 105) [] (
  .rd 29 (some (92, false)) (.un .not (.tmp 105)) (some 106) false <|
  .rd 30 none (.pick (.tmp 92) (.const (.bool true)) (.tmp 106)) (some 107) false <|
  .rd 31 none (.mv (.tmp 107)) (some 108) false <|
  .rd 32 (some (108, false)) (.mv (.tmp 0)) (some 109) false <|
  .rd 33 (some (108, false)) (.mv (.tmp 7)) (some 110) false <|
  .rd 34 (some (108, false)) (.mv (.tmp 8)) (some 111) false <|
  .rd 35 (some (108, false)) (.idxA 2 (.tmp 110) (.tmp 111)) (some 112) false <|
  .rd 36 (some (108, false)) (.ldn 2 (.tmp 112)) (some 113) false <|
  .rd 38 (some (108, false)) (.ldn 3 (.tmp 4)) (some 115) true <|
  .rd 39 (some (108, false)) (.mv (.tmp 7)) (some 116) false <|
  .rd 40 (some (108, false)) (.mv (.tmp 8)) (some 117) false <|
  .rd 41 (some (108, false)) (.idxA 2 (.tmp 116) (.tmp 117)) (some 118) false <|
  .rd 42 (some (108, false)) (.ldn 2 (.tmp 118)) (some 119) true <|
  .ef 37 (some (108, false)) (.call F.movetree_Tree_Kids [(.tmp 109), (.tmp 113)]) (some 114) [38, 39, 40, 41, 42] (
  .ef 43 (some (108, false)) (.call F.osierref10_Tree_Kids [(.tmp 115), (.tmp 119)]) (some 120) [] (
  .ef 44 (some (108, false)) (.call F.osierref03_Same [(.tmp 114), (.tmp 120)]) (some 121) [] (
  .rd 45 (some (108, false)) (.un .not (.tmp 121)) (some 122) false <|
  .rd 46 none (.pick (.tmp 108) (.const (.bool true)) (.tmp 122)) (some 123) false <|
  .done) .none) .none) .none) .none) .none) .none) .none
noncomputable def F.osierlaw10_is.r10 : Plan :=
  .rd 0 none (.mv (.const (.bool false))) (some 6) false <|
  .done
noncomputable def F.osierlaw10_is.r11 : Plan :=
  .rd 0 none (.mv (.tmp 9)) (some 124) false <|
  .rd 1 none (.bin .lss (.tmp 124) (.const (.int .i64 0))) (some 125) false <|
  .rd 2 none (.mv (.tmp 125)) (some 126) false <|
  .rd 3 (some (126, true)) (.ldn 2 (.tmp 10)) (some 127) false <|
  .rd 4 (some (126, true)) (.build [(.int .i64 0), (.int .i64 0)] []) (some 128) false <|
  .rd 5 (some (126, true)) (.eqS [(.i .i64), (.i .i64)] true true (.tmp 127) (.tmp 128)) (some 129) false <|
  .rd 6 (some (126, true)) (.mv (.tmp 129)) (some 130) false <|
  .rd 7 (some (130, false)) (.mv (.tmp 11)) (some 131) false <|
  .rd 8 (some (130, false)) (.bin .neq (.tmp 131) (.const (.string ⟨#[]⟩))) (some 132) false <|
  .rd 9 (some (126, true)) (.pick (.tmp 130) (.const (.bool true)) (.tmp 132)) (some 133) false <|
  .rd 10 none (.pick (.tmp 126) (.tmp 133) (.const (.bool false))) (some 134) false <|
  .rd 11 none (.mv (.tmp 134)) (some 135) false <|
  .rd 12 (some (135, false)) (.mv (.tmp 9)) (some 136) false <|
  .rd 13 (some (135, false)) (.bin .geq (.tmp 136) (.const (.int .i64 0))) (some 137) false <|
  .rd 14 (some (135, false)) (.mv (.tmp 137)) (some 138) false <|
  .rd 15 (some (138, true)) (.ldn 2 (.tmp 10)) (some 139) false <|
  .rd 16 (some (138, true)) (.fldA 1 (.tmp 4)) (some 140) false <|
  .rd 17 (some (138, true)) (.ld1 (.tmp 140)) (some 141) false <|
  .rd 18 (some (138, true)) (.mv (.tmp 9)) (some 142) false <|
  .rd 19 (some (138, true)) (.idxA 5 (.tmp 141) (.tmp 142)) (some 143) false <|
  .rd 20 (some (138, true)) (.fldA 2 (.tmp 143)) (some 144) false <|
  .rd 21 (some (138, true)) (.ldn 2 (.tmp 144)) (some 145) false <|
  .rd 22 (some (138, true)) (.eqS [(.i .i64), (.i .i64)] true true (.tmp 139) (.tmp 145)) (some 146) false <|
  .rd 23 (some (138, true)) (.mv (.tmp 146)) (some 147) false <|
  .rd 24 (some (147, false)) (.mv (.tmp 11)) (some 148) false <|
  .rd 25 (some (147, false)) (.fldA 1 (.tmp 4)) (some 149) false <|
  .rd 26 (some (147, false)) (.ld1 (.tmp 149)) (some 150) false <|
  .rd 27 (some (147, false)) (.mv (.tmp 9)) (some 151) false <|
  .rd 28 (some (147, false)) (.idxA 5 (.tmp 150) (.tmp 151)) (some 152) false <|
  .rd 29 (some (147, false)) (.fldA 4 (.tmp 152)) (some 153) false <|
  .rd 30 (some (147, false)) (.ld1 (.tmp 153)) (some 154) false <|
  .rd 31 (some (147, false)) (.bin .neq (.tmp 148) (.tmp 154)) (some 155) false <|
  .rd 32 (some (138, true)) (.pick (.tmp 147) (.const (.bool true)) (.tmp 155)) (some 156) false <|
  .rd 33 (some (135, false)) (.pick (.tmp 138) (.tmp 156) (.const (.bool false))) (some 157) false <|
  .rd 34 none (.pick (.tmp 135) (.const (.bool true)) (.tmp 157)) (some 158) false <|
  .done
noncomputable def F.osierlaw10_is.r12 : Plan :=
  .rd 0 none (.mv (.const (.bool false))) (some 6) false <|
  .done
noncomputable def F.osierlaw10_is.r13 : Plan :=
  .rd 0 none (.mv (.tmp 8)) (some 59) false <|
  .rd 1 none (.bin .add (.tmp 59) (.const (.int .i64 1))) (some 60) false <|
  .rd 2 none (.mv (.tmp 60)) (some 8) false <|
  .done
noncomputable def F.osierlaw10_is.l0 : IC :=
    (.seq (.seq (.reg F.osierlaw10_is.r6)
    (.cond (.tmp 58) .skip (.exit 0)))
    (.seq (.block 1 (.seq (.reg F.osierlaw10_is.r7)
    (.seq (.reg F.osierlaw10_is.r8)
    (.seq (.seq (.reg F.osierlaw10_is.r9)
    (.cond (.tmp 123) (.seq (.reg F.osierlaw10_is.r10)
    .ret) .skip))
    (.seq (.reg F.osierlaw10_is.r11)
    (.cond (.tmp 158) (.seq (.reg F.osierlaw10_is.r12)
    .ret) .skip))))))
    (.reg F.osierlaw10_is.r13)))
noncomputable def F.osierlaw10_is.r14 : Plan :=
  .rd 0 none (.mv (.const (.int .i64 0))) (some 13) false <|
  .done
noncomputable def F.osierlaw10_is.r15 : Plan :=
  .rd 0 none (.mv (.tmp 13)) (some 159) false <|
  .rd 1 none (.fldA 0 (.tmp 4)) (some 160) false <|
  .rd 2 none (.ld1 (.tmp 160)) (some 161) false <|
  .rd 3 none (.len .sl (.tmp 161)) (some 162) false <|
  .rd 4 none (.bin .lss (.tmp 159) (.tmp 162)) (some 163) false <|
  .done
noncomputable def F.osierlaw10_is.r16 : Plan :=
  .rd 0 none (.mv (.tmp 0)) (some 166) false <|
  .rd 1 none (.fldA 0 (.tmp 4)) (some 167) false <|
  .rd 2 none (.ld1 (.tmp 167)) (some 168) false <|
  .rd 3 none (.mv (.tmp 13)) (some 169) false <|
  .rd 4 none (.idxA 8 (.tmp 168) (.tmp 169)) (some 170) false <|
  .rd 5 none (.fldA 0 (.tmp 170)) (some 171) false <|
  .rd 6 none (.ldn 2 (.tmp 171)) (some 172) false <|
  .rd 8 none (.fldA 2 (.tmp 4)) (some 174) false <|
  .rd 9 none (.ld1 (.tmp 174)) (some 175) true <|
  .rd 10 none (.fldA 0 (.tmp 4)) (some 176) false <|
  .rd 11 none (.ld1 (.tmp 176)) (some 177) true <|
  .rd 12 none (.mv (.tmp 13)) (some 178) false <|
  .rd 13 none (.idxA 8 (.tmp 177) (.tmp 178)) (some 179) false <|
  .rd 14 none (.fldA 0 (.tmp 179)) (some 180) false <|
  .rd 15 none (.ldn 2 (.tmp 180)) (some 181) true <|
  .ef 7 none (.call F.movetree_Tree_Took [(.tmp 166), (.tmp 172)]) (some 173) [8, 9, 10, 11, 12, 13, 14, 15] (
  .ef 16 none (.call F.osierref03_In [(.tmp 175), (.tmp 181)]) (some 182) [] (
  .rd 17 none (.eqS [.b] false true (.tmp 173) (.tmp 182)) (some 183) false <|
  .done) .none) .none
noncomputable def F.osierlaw10_is.r17 : Plan :=
  .rd 0 none (.mv (.const (.bool false))) (some 6) false <|
  .done
noncomputable def F.osierlaw10_is.r18 : Plan :=
  .rd 0 none (.mv (.tmp 13)) (some 164) false <|
  .rd 1 none (.bin .add (.tmp 164) (.const (.int .i64 1))) (some 165) false <|
  .rd 2 none (.mv (.tmp 165)) (some 13) false <|
  .done
noncomputable def F.osierlaw10_is.l1 : IC :=
    (.seq (.seq (.reg F.osierlaw10_is.r15)
    (.cond (.tmp 163) .skip (.exit 2)))
    (.seq (.block 3 (.seq (.reg F.osierlaw10_is.r16)
    (.cond (.tmp 183) (.seq (.reg F.osierlaw10_is.r17)
    .ret) .skip)))
    (.reg F.osierlaw10_is.r18)))
noncomputable def F.osierlaw10_is.r19 : Plan :=
  .rd 0 none (.fldA 2 (.tmp 4)) (some 184) false <|
  .rd 1 none (.ld1 (.tmp 184)) (some 185) false <|
  .rd 2 none (.ldn 2 (.tmp 5)) (some 186) false <|
  .rd 4 none (.mv (.tmp 0)) (some 188) false <|
  .rd 5 none (.ldn 2 (.tmp 5)) (some 189) true <|
  .ef 3 none (.call F.osierref03_In [(.tmp 185), (.tmp 186)]) (some 187) [4, 5] (
  .ef 6 none (.call F.movetree_Tree_Took [(.tmp 188), (.tmp 189)]) (some 190) [] (
  .rd 7 none (.eqS [.b] false false (.tmp 187) (.tmp 190)) (some 191) false <|
  .rd 8 none (.mv (.tmp 191)) (some 6) false <|
  .done) .none) .none
noncomputable def F.osierlaw10_is.ic : IC :=
    (.seq (.reg F.osierlaw10_is.r0)
    (.seq (.reg F.osierlaw10_is.r1)
    (.seq (.seq (.reg F.osierlaw10_is.r2)
    (.cond (.tmp 50) (.seq (.reg F.osierlaw10_is.r3)
    .ret) .skip))
    (.seq (.reg F.osierlaw10_is.r4)
    (.seq (.seq (.reg F.osierlaw10_is.r5)
    (.block 0 (.loop F.osierlaw10_is.l0)))
    (.seq (.seq (.reg F.osierlaw10_is.r14)
    (.block 2 (.loop F.osierlaw10_is.l1)))
    (.seq (.reg F.osierlaw10_is.r19)
    .ret)))))))
noncomputable def F.osierlaw10_is.rs : List RO := [(.mv (.tmp 6))]
theorem F.osierlaw10_is.ok : cFunc Go.Proofs.Try.prog F.osierlaw10_is = some (192, F.osierlaw10_is.ic, F.osierlaw10_is.rs) := by kernel_rfl
theorem F.osierlaw10_is.cl : callable Go.Proofs.Try.prog F.osierlaw10_is = true := by kernel_rfl
noncomputable def F.movetree_Tree_Kids.r0 : Plan :=
  .ef 0 none (.box (.tmp 0)) (some 2) [] (
  .ef 1 none (.box (.tmp 1)) (some 3) [] (
  .rd 2 none (.mv (.const (.slice none 0 0))) (some 4) false <|
  .done) .none) .none
noncomputable def F.movetree_Tree_Kids.r1 : Plan :=
  .rd 0 none (.mv (.const (.slice none 0 0))) (some 5) false <|
  .done
noncomputable def F.movetree_Tree_Kids.r2 : Plan :=
  .rd 0 none (.ld1 (.tmp 2)) (some 8) false <|
  .ef 1 none (.call F.movetree_Tree_Blocks [(.tmp 8)]) (some 9) [] (
  .rd 2 none (.len .sl (.tmp 9)) (some 10) false <|
  .rd 3 none (.mv (.const (.int .i64 0))) (some 11) false <|
  .done) .none
noncomputable def F.movetree_Tree_Kids.r3 : Plan :=
  .rd 0 none (.bin .lss (.tmp 11) (.tmp 10)) (some 12) false <|
  .done
noncomputable def F.movetree_Tree_Kids.r4 : Plan :=
  .rd 0 none (.idxA 2 (.tmp 9) (.tmp 11)) (some 13) false <|
  .rd 1 none (.ldn 2 (.tmp 13)) (some 14) false <|
  .ef 2 none (.alloc [(.int .i64 0), (.int .i64 0)]) (some 7) [] (
  .ef 3 none (.st 2 (.tmp 7) (.tmp 14)) none [] (
  .done) .none) .none
noncomputable def F.movetree_Tree_Kids.r5 : Plan :=
  .rd 0 none (.ld1 (.tmp 2)) (some 15) false <|
  .rd 1 none (.nilC (.tmp 15)) (some 16) false <|
  .rd 2 none (.fldA 1 (.tmp 16)) (some 17) false <|
  .rd 3 none (.ld1 (.tmp 17)) (some 18) false <|
  .rd 4 none (.ldn 2 (.tmp 7)) (some 19) false <|
  .rd 5 none (.look [(.i .i64), (.i .i64)] true (.agg #[(.int .i64 0), (.int .i64 0), (.string ⟨#[]⟩)]) false (.tmp 18) (.tmp 19)) (some 20) false <|
  .rd 6 none (.fld 0 2 true (.tmp 20)) (some 21) false <|
  .rd 7 none (.ldn 2 (.tmp 3)) (some 22) false <|
  .rd 8 none (.eqS [(.i .i64), (.i .i64)] true false (.tmp 21) (.tmp 22)) (some 23) false <|
  .done
noncomputable def F.movetree_Tree_Kids.r6 : Plan :=
  .rd 0 none (.mv (.tmp 5)) (some 24) false <|
  .rd 1 none (.ldn 2 (.tmp 7)) (some 25) false <|
  .ef 2 none (.bsl 1 [(.int .i64 0), (.int .i64 0)] [(0, (2, (.tmp 25)))]) (some 26) [] (
  .ef 3 none (.app 2 16 (.tmp 24) (.tmp 26)) (some 27) [] (
  .rd 4 none (.mv (.tmp 27)) (some 5) false <|
  .done) .none) .none
noncomputable def F.movetree_Tree_Kids.r7 : Plan :=
  .rd 0 none (.bin .add (.tmp 11) (.const (.int .i64 1))) (some 28) false <|
  .rd 1 none (.mv (.tmp 28)) (some 11) false <|
  .done
noncomputable def F.movetree_Tree_Kids.l0 : IC :=
    (.seq (.reg F.movetree_Tree_Kids.r3)
    (.seq (.cond (.tmp 12) .skip (.exit 0))
    (.seq (.block 1 (.seq (.reg F.movetree_Tree_Kids.r4)
    (.seq (.reg F.movetree_Tree_Kids.r5)
    (.cond (.tmp 23) (.reg F.movetree_Tree_Kids.r6) .skip))))
    (.reg F.movetree_Tree_Kids.r7))))
noncomputable def F.movetree_Tree_Kids.r8 : Plan :=
  .rd 0 none (.mv (.tmp 5)) (some 29) false <|
  .rd 1 none (.mkF (.func F.movetree_Tree_Kids_c1) [] [(.tmp 2)]) (some 30) false <|
  .ef 2 none (.call F.slices_SortStableFunc_s_api_Dot_api_Dot [(.tmp 29), (.tmp 30)]) (some 31) [] (
  .done) .none
noncomputable def F.movetree_Tree_Kids.r9 : Plan :=
  .rd 0 none (.mv (.tmp 5)) (some 32) false <|
  .rd 1 none (.mv (.tmp 32)) (some 4) false <|
  .done
noncomputable def F.movetree_Tree_Kids.ic : IC :=
    (.seq (.reg F.movetree_Tree_Kids.r0)
    (.seq (.reg F.movetree_Tree_Kids.r1)
    (.seq (.seq (.reg F.movetree_Tree_Kids.r2)
    (.block 0 (.loop F.movetree_Tree_Kids.l0)))
    (.seq (.reg F.movetree_Tree_Kids.r8)
    (.seq (.reg F.movetree_Tree_Kids.r9)
    .ret)))))
noncomputable def F.movetree_Tree_Kids.rs : List RO := [(.mv (.tmp 4))]
theorem F.movetree_Tree_Kids.ok : cFunc Go.Proofs.Try.prog F.movetree_Tree_Kids = some (33, F.movetree_Tree_Kids.ic, F.movetree_Tree_Kids.rs) := by kernel_rfl
theorem F.movetree_Tree_Kids.cl : callable Go.Proofs.Try.prog F.movetree_Tree_Kids = true := by kernel_rfl
noncomputable def F.osierref03_Rising.r0 : Plan :=
  .rd 0 none (.mv (.const (.slice none 0 0))) (some 2) false <|
  .done
noncomputable def F.osierref03_Rising.r1 : Plan :=
  .rd 0 none (.mv (.const (.slice none 0 0))) (some 3) false <|
  .done
noncomputable def F.osierref03_Rising.r2 : Plan :=
  .rd 0 none (.mv (.const (.int .i64 0))) (some 4) false <|
  .done
noncomputable def F.osierref03_Rising.r3 : Plan :=
  .rd 0 none (.mv (.tmp 4)) (some 5) false <|
  .rd 1 none (.mv (.tmp 0)) (some 6) false <|
  .rd 2 none (.len .sl (.tmp 6)) (some 7) false <|
  .rd 3 none (.bin .lss (.tmp 5) (.tmp 7)) (some 8) false <|
  .done
noncomputable def F.osierref03_Rising.r4 : Plan :=
  .rd 0 none (.mv (.tmp 3)) (some 11) false <|
  .rd 1 none (.mv (.tmp 0)) (some 12) false <|
  .rd 2 none (.mv (.tmp 4)) (some 13) false <|
  .rd 3 none (.idxA 2 (.tmp 12) (.tmp 13)) (some 14) false <|
  .rd 4 none (.ldn 2 (.tmp 14)) (some 15) false <|
  .ef 5 none (.call F.osierref03_Put1 [(.tmp 11), (.tmp 15)]) (some 16) [] (
  .rd 6 none (.mv (.tmp 16)) (some 3) false <|
  .done) .none
noncomputable def F.osierref03_Rising.r5 : Plan :=
  .rd 0 none (.mv (.tmp 4)) (some 9) false <|
  .rd 1 none (.bin .add (.tmp 9) (.const (.int .i64 1))) (some 10) false <|
  .rd 2 none (.mv (.tmp 10)) (some 4) false <|
  .done
noncomputable def F.osierref03_Rising.l0 : IC :=
    (.seq (.seq (.reg F.osierref03_Rising.r3)
    (.cond (.tmp 8) .skip (.exit 0)))
    (.seq (.block 1 (.reg F.osierref03_Rising.r4))
    (.reg F.osierref03_Rising.r5)))
noncomputable def F.osierref03_Rising.r6 : Plan :=
  .rd 0 none (.mv (.tmp 3)) (some 17) false <|
  .rd 1 none (.mv (.tmp 17)) (some 2) false <|
  .done
noncomputable def F.osierref03_Rising.ic : IC :=
    (.seq (.reg F.osierref03_Rising.r0)
    (.seq (.reg F.osierref03_Rising.r1)
    (.seq (.seq (.reg F.osierref03_Rising.r2)
    (.block 0 (.loop F.osierref03_Rising.l0)))
    (.seq (.reg F.osierref03_Rising.r6)
    .ret))))
noncomputable def F.osierref03_Rising.rs : List RO := [(.mv (.tmp 2))]
theorem F.osierref03_Rising.ok : cFunc Go.Proofs.Try.prog F.osierref03_Rising = some (18, F.osierref03_Rising.ic, F.osierref03_Rising.rs) := by kernel_rfl
theorem F.osierref03_Rising.cl : callable Go.Proofs.Try.prog F.osierref03_Rising = true := by kernel_rfl
noncomputable def F.osierref10_ends.r0 : Plan :=
  .ef 0 none (.box (.tmp 0)) (some 1) [] (
  .rd 1 none (.mv (.const (.bool false))) (some 2) false <|
  .done) .none
noncomputable def F.osierref10_ends.r1 : Plan :=
  .rd 0 none (.ldn 2 (.tmp 1)) (some 3) true <|
  .ef 1 none (.call F.osierref10_root []) (some 4) [0] (
  .rd 2 none (.eqS [(.i .i64), (.i .i64)] true false (.tmp 3) (.tmp 4)) (some 5) false <|
  .rd 3 none (.mv (.tmp 5)) (some 6) false <|
  .rd 4 (some (6, false)) (.ldn 2 (.tmp 1)) (some 7) true <|
  .ef 5 (some (6, false)) (.call F.osierref10_trash []) (some 8) [4] (
  .rd 6 (some (6, false)) (.eqS [(.i .i64), (.i .i64)] true false (.tmp 7) (.tmp 8)) (some 9) false <|
  .rd 7 none (.pick (.tmp 6) (.const (.bool true)) (.tmp 9)) (some 10) false <|
  .rd 8 none (.mv (.tmp 10)) (some 2) false <|
  .done) .none) .none
noncomputable def F.osierref10_ends.ic : IC :=
    (.seq (.reg F.osierref10_ends.r0)
    (.seq (.reg F.osierref10_ends.r1)
    .ret))
noncomputable def F.osierref10_ends.rs : List RO := [(.mv (.tmp 2))]
theorem F.osierref10_ends.ok : cFunc Go.Proofs.Try.prog F.osierref10_ends = some (11, F.osierref10_ends.ic, F.osierref10_ends.rs) := by kernel_rfl
theorem F.osierref10_ends.cl : callable Go.Proofs.Try.prog F.osierref10_ends = true := by kernel_rfl
noncomputable def F.osierref10_ahead.r0 : Plan :=
  .ef 0 none (.box (.tmp 0)) (some 2) [] (
  .ef 1 none (.box (.tmp 1)) (some 3) [] (
  .rd 2 none (.mv (.const (.bool false))) (some 4) false <|
  .done) .none) .none
noncomputable def F.osierref10_ahead.r1 : Plan :=
  .rd 0 none (.fldA 2 (.tmp 2)) (some 5) false <|
  .rd 1 none (.ld1 (.tmp 5)) (some 6) false <|
  .rd 2 none (.fldA 2 (.tmp 3)) (some 7) false <|
  .rd 3 none (.ld1 (.tmp 7)) (some 8) false <|
  .rd 4 none (.bin .eql (.tmp 6) (.tmp 8)) (some 9) false <|
  .done
noncomputable def F.osierref10_ahead.r2 : Plan :=
  .rd 0 none (.fldA 0 (.tmp 2)) (some 10) false <|
  .rd 1 none (.ldn 2 (.tmp 10)) (some 11) false <|
  .rd 2 none (.fldA 0 (.tmp 3)) (some 12) false <|
  .rd 3 none (.ldn 2 (.tmp 12)) (some 13) false <|
  .ef 4 none (.call F.osierref03_Less [(.tmp 11), (.tmp 13)]) (some 14) [] (
  .rd 5 none (.mv (.tmp 14)) (some 4) false <|
  .done) .none
noncomputable def F.osierref10_ahead.r3 : Plan :=
  .rd 0 none (.fldA 2 (.tmp 2)) (some 15) false <|
  .rd 1 none (.ld1 (.tmp 15)) (some 16) false <|
  .rd 2 none (.fldA 2 (.tmp 3)) (some 17) false <|
  .rd 3 none (.ld1 (.tmp 17)) (some 18) false <|
  .rd 4 none (.bin .lss (.tmp 16) (.tmp 18)) (some 19) false <|
  .rd 5 none (.mv (.tmp 19)) (some 4) false <|
  .done
noncomputable def F.osierref10_ahead.ic : IC :=
    (.seq (.reg F.osierref10_ahead.r0)
    (.seq (.seq (.reg F.osierref10_ahead.r1)
    (.cond (.tmp 9) (.seq (.reg F.osierref10_ahead.r2)
    .ret) .skip))
    (.seq (.reg F.osierref10_ahead.r3)
    .ret)))
noncomputable def F.osierref10_ahead.rs : List RO := [(.mv (.tmp 4))]
theorem F.osierref10_ahead.ok : cFunc Go.Proofs.Try.prog F.osierref10_ahead = some (20, F.osierref10_ahead.ic, F.osierref10_ahead.rs) := by kernel_rfl
theorem F.osierref10_ahead.cl : callable Go.Proofs.Try.prog F.osierref10_ahead = true := by kernel_rfl
noncomputable def F.osierref10_Done.r0 : Plan :=
  .ef 0 none (.alloc [(.slice none 0 0), (.slice none 0 0), (.slice none 0 0)]) (some 2) [] (
  .done) .none
noncomputable def F.osierref10_Done.r1 : Plan :=
  .rd 0 none (.mv (.tmp 0)) (some 6) false <|
  .rd 1 none (.build [(.slice none 0 0), (.slice none 0 0), (.slice none 0 0)] [(0, (1, (.tmp 6)))]) (some 7) false <|
  .ef 2 none (.alloc [(.slice none 0 0), (.slice none 0 0), (.slice none 0 0)]) (some 3) [] (
  .ef 3 none (.st 3 (.tmp 3) (.tmp 7)) none [] (
  .done) .none) .none
noncomputable def F.osierref10_Done.r2 : Plan :=
  .rd 0 none (.mv (.const (.int .i64 0))) (some 4) false <|
  .done
noncomputable def F.osierref10_Done.r3 : Plan :=
  .rd 0 none (.mv (.tmp 4)) (some 8) false <|
  .rd 1 none (.mv (.tmp 0)) (some 9) false <|
  .rd 2 none (.len .sl (.tmp 9)) (some 10) false <|
  .rd 3 none (.bin .lss (.tmp 8) (.tmp 10)) (some 11) false <|
  .done
noncomputable def F.osierref10_Done.r4 : Plan :=
  .rd 0 none (.ldn 3 (.tmp 3)) (some 14) false <|
  .rd 1 none (.mv (.tmp 0)) (some 15) false <|
  .rd 2 none (.mv (.tmp 4)) (some 16) false <|
  .rd 3 none (.idxA 8 (.tmp 15) (.tmp 16)) (some 17) false <|
  .rd 4 none (.ldn 8 (.tmp 17)) (some 18) false <|
  .ef 5 none (.call F.osierref10_Tree_takes [(.tmp 14), (.tmp 18)]) (some 19) [] (
  .rd 6 none (.mv (.tmp 19)) (some 5) false <|
  .done) .none
noncomputable def F.osierref10_Done.r5 : Plan :=
  .rd 0 none (.mv (.tmp 5)) (some 20) false <|
  .done
noncomputable def F.osierref10_Done.r6 : Plan :=
  .rd 0 none (.fldA 2 (.tmp 3)) (some 21) false <|
  .rd 1 none (.ld1 (.tmp 21)) (some 22) true <|
  .rd 2 none (.mv (.tmp 0)) (some 23) false <|
  .rd 3 none (.mv (.tmp 4)) (some 24) false <|
  .rd 4 none (.idxA 8 (.tmp 23) (.tmp 24)) (some 25) false <|
  .rd 5 none (.fldA 0 (.tmp 25)) (some 26) false <|
  .rd 6 none (.ldn 2 (.tmp 26)) (some 27) false <|
  .ef 7 none (.bsl 1 [(.int .i64 0), (.int .i64 0)] [(0, (2, (.tmp 27)))]) (some 28) [0, 1] (
  .ef 8 none (.app 2 16 (.tmp 22) (.tmp 28)) (some 29) [] (
  .rd 9 none (.fldA 2 (.tmp 3)) (some 30) false <|
  .ef 10 none (.st 1 (.tmp 30) (.tmp 29)) none [] (
  .done) .none) .none) .none
noncomputable def F.osierref10_Done.r7 : Plan :=
  .rd 0 none (.fldA 1 (.tmp 3)) (some 31) false <|
  .rd 1 none (.ld1 (.tmp 31)) (some 32) false <|
  .rd 2 none (.mv (.tmp 0)) (some 33) false <|
  .rd 3 none (.mv (.tmp 4)) (some 34) false <|
  .rd 4 none (.idxA 8 (.tmp 33) (.tmp 34)) (some 35) false <|
  .rd 5 none (.fldA 3 (.tmp 35)) (some 36) false <|
  .rd 6 none (.ldn 2 (.tmp 36)) (some 37) false <|
  .rd 7 none (.mv (.tmp 0)) (some 38) false <|
  .rd 8 none (.mv (.tmp 4)) (some 39) false <|
  .rd 9 none (.idxA 8 (.tmp 38) (.tmp 39)) (some 40) false <|
  .rd 10 none (.fldA 5 (.tmp 40)) (some 41) false <|
  .rd 11 none (.ldn 2 (.tmp 41)) (some 42) false <|
  .rd 12 none (.mv (.tmp 0)) (some 43) false <|
  .rd 13 none (.mv (.tmp 4)) (some 44) false <|
  .rd 14 none (.idxA 8 (.tmp 43) (.tmp 44)) (some 45) false <|
  .rd 15 none (.fldA 7 (.tmp 45)) (some 46) false <|
  .rd 16 none (.ld1 (.tmp 46)) (some 47) false <|
  .rd 17 none (.build [(.int .i64 0), (.int .i64 0), (.int .i64 0), (.int .i64 0), (.string ⟨#[]⟩)] [(0, (2, (.tmp 37))), (2, (2, (.tmp 42))), (4, (1, (.tmp 47)))]) (some 48) false <|
  .ef 18 none (.call F.osierref10_put [(.tmp 32), (.tmp 48)]) (some 49) [] (
  .rd 19 none (.fldA 1 (.tmp 3)) (some 50) false <|
  .ef 20 none (.st 1 (.tmp 50) (.tmp 49)) none [] (
  .done) .none) .none
noncomputable def F.osierref10_Done.r8 : Plan :=
  .rd 0 none (.mv (.tmp 4)) (some 12) false <|
  .rd 1 none (.bin .add (.tmp 12) (.const (.int .i64 1))) (some 13) false <|
  .rd 2 none (.mv (.tmp 13)) (some 4) false <|
  .done
noncomputable def F.osierref10_Done.l0 : IC :=
    (.seq (.seq (.reg F.osierref10_Done.r3)
    (.cond (.tmp 11) .skip (.exit 0)))
    (.seq (.block 1 (.seq (.reg F.osierref10_Done.r4)
    (.seq (.reg F.osierref10_Done.r5)
    (.cond (.tmp 20) (.seq (.reg F.osierref10_Done.r6)
    (.reg F.osierref10_Done.r7)) .skip))))
    (.reg F.osierref10_Done.r8)))
noncomputable def F.osierref10_Done.r9 : Plan :=
  .rd 0 none (.ldn 3 (.tmp 3)) (some 51) false <|
  .ef 1 none (.st 3 (.tmp 2) (.tmp 51)) none [] (
  .done) .none
noncomputable def F.osierref10_Done.ic : IC :=
    (.seq (.reg F.osierref10_Done.r0)
    (.seq (.reg F.osierref10_Done.r1)
    (.seq (.seq (.reg F.osierref10_Done.r2)
    (.block 0 (.loop F.osierref10_Done.l0)))
    (.seq (.reg F.osierref10_Done.r9)
    .ret))))
noncomputable def F.osierref10_Done.rs : List RO := [(.ldn 3 (.tmp 2))]
theorem F.osierref10_Done.ok : cFunc Go.Proofs.Try.prog F.osierref10_Done = some (52, F.osierref10_Done.ic, F.osierref10_Done.rs) := by kernel_rfl
theorem F.osierref10_Done.cl : callable Go.Proofs.Try.prog F.osierref10_Done = true := by kernel_rfl
noncomputable def F.osierref10_Tree_Blocks.r0 : Plan :=
  .ef 0 none (.box (.tmp 0)) (some 1) [] (
  .rd 1 none (.mv (.const (.slice none 0 0))) (some 2) false <|
  .done) .none
noncomputable def F.osierref10_Tree_Blocks.r1 : Plan :=
  .rd 0 none (.mv (.const (.slice none 0 0))) (some 3) false <|
  .done
noncomputable def F.osierref10_Tree_Blocks.r2 : Plan :=
  .rd 0 none (.mv (.const (.int .i64 0))) (some 4) false <|
  .done
noncomputable def F.osierref10_Tree_Blocks.r3 : Plan :=
  .rd 0 none (.mv (.tmp 4)) (some 5) false <|
  .rd 1 none (.fldA 1 (.tmp 1)) (some 6) false <|
  .rd 2 none (.ld1 (.tmp 6)) (some 7) false <|
  .rd 3 none (.len .sl (.tmp 7)) (some 8) false <|
  .rd 4 none (.bin .lss (.tmp 5) (.tmp 8)) (some 9) false <|
  .done
noncomputable def F.osierref10_Tree_Blocks.r4 : Plan :=
  .rd 0 none (.mv (.tmp 3)) (some 12) false <|
  .rd 1 none (.fldA 1 (.tmp 1)) (some 13) false <|
  .rd 2 none (.ld1 (.tmp 13)) (some 14) false <|
  .rd 3 none (.mv (.tmp 4)) (some 15) false <|
  .rd 4 none (.idxA 5 (.tmp 14) (.tmp 15)) (some 16) false <|
  .rd 5 none (.fldA 0 (.tmp 16)) (some 17) false <|
  .rd 6 none (.ldn 2 (.tmp 17)) (some 18) false <|
  .ef 7 none (.call F.osierref03_Put1 [(.tmp 12), (.tmp 18)]) (some 19) [] (
  .rd 8 none (.mv (.tmp 19)) (some 3) false <|
  .done) .none
noncomputable def F.osierref10_Tree_Blocks.r5 : Plan :=
  .rd 0 none (.mv (.tmp 4)) (some 10) false <|
  .rd 1 none (.bin .add (.tmp 10) (.const (.int .i64 1))) (some 11) false <|
  .rd 2 none (.mv (.tmp 11)) (some 4) false <|
  .done
noncomputable def F.osierref10_Tree_Blocks.l0 : IC :=
    (.seq (.seq (.reg F.osierref10_Tree_Blocks.r3)
    (.cond (.tmp 9) .skip (.exit 0)))
    (.seq (.block 1 (.reg F.osierref10_Tree_Blocks.r4))
    (.reg F.osierref10_Tree_Blocks.r5)))
noncomputable def F.osierref10_Tree_Blocks.r6 : Plan :=
  .rd 0 none (.mv (.tmp 3)) (some 20) false <|
  .rd 1 none (.mv (.tmp 20)) (some 2) false <|
  .done
noncomputable def F.osierref10_Tree_Blocks.ic : IC :=
    (.seq (.reg F.osierref10_Tree_Blocks.r0)
    (.seq (.reg F.osierref10_Tree_Blocks.r1)
    (.seq (.seq (.reg F.osierref10_Tree_Blocks.r2)
    (.block 0 (.loop F.osierref10_Tree_Blocks.l0)))
    (.seq (.reg F.osierref10_Tree_Blocks.r6)
    .ret))))
noncomputable def F.osierref10_Tree_Blocks.rs : List RO := [(.mv (.tmp 2))]
theorem F.osierref10_Tree_Blocks.ok : cFunc Go.Proofs.Try.prog F.osierref10_Tree_Blocks = some (21, F.osierref10_Tree_Blocks.ic, F.osierref10_Tree_Blocks.rs) := by kernel_rfl
theorem F.osierref10_Tree_Blocks.cl : callable Go.Proofs.Try.prog F.osierref10_Tree_Blocks = true := by kernel_rfl
noncomputable def F.osierref10_Tree_Kids.r0 : Plan :=
  .ef 0 none (.box (.tmp 0)) (some 2) [] (
  .ef 1 none (.box (.tmp 1)) (some 3) [] (
  .rd 2 none (.mv (.const (.slice none 0 0))) (some 4) false <|
  .done) .none) .none
noncomputable def F.osierref10_Tree_Kids.r1 : Plan :=
  .rd 0 none (.mv (.const (.slice none 0 0))) (some 5) false <|
  .done
noncomputable def F.osierref10_Tree_Kids.r2 : Plan :=
  .rd 0 none (.mv (.const (.int .i64 0))) (some 6) false <|
  .done
noncomputable def F.osierref10_Tree_Kids.r3 : Plan :=
  .rd 0 none (.mv (.tmp 6)) (some 12) false <|
  .rd 1 none (.fldA 1 (.tmp 2)) (some 13) false <|
  .rd 2 none (.ld1 (.tmp 13)) (some 14) false <|
  .rd 3 none (.len .sl (.tmp 14)) (some 15) false <|
  .rd 4 none (.bin .lss (.tmp 12) (.tmp 15)) (some 16) false <|
  .done
noncomputable def F.osierref10_Tree_Kids.r4 : Plan :=
  .rd 0 none (.fldA 1 (.tmp 2)) (some 19) false <|
  .rd 1 none (.ld1 (.tmp 19)) (some 20) false <|
  .rd 2 none (.mv (.tmp 6)) (some 21) false <|
  .rd 3 none (.idxA 5 (.tmp 20) (.tmp 21)) (some 22) false <|
  .rd 4 none (.ldn 5 (.tmp 22)) (some 23) false <|
  .ef 5 none (.alloc [(.int .i64 0), (.int .i64 0), (.int .i64 0), (.int .i64 0), (.string ⟨#[]⟩)]) (some 7) [] (
  .ef 6 none (.st 5 (.tmp 7) (.tmp 23)) none [] (
  .done) .none) .none
noncomputable def F.osierref10_Tree_Kids.r5 : Plan :=
  .rd 0 none (.fldA 2 (.tmp 7)) (some 24) false <|
  .rd 1 none (.ldn 2 (.tmp 24)) (some 25) false <|
  .rd 2 none (.ldn 2 (.tmp 3)) (some 26) false <|
  .rd 3 none (.eqS [(.i .i64), (.i .i64)] true true (.tmp 25) (.tmp 26)) (some 27) false <|
  .done
noncomputable def F.osierref10_Tree_Kids.r6 : Plan :=
  .rd 0 none (.mv (.const (.int .i64 0))) (some 8) false <|
  .done
noncomputable def F.osierref10_Tree_Kids.r7 : Plan :=
  .rd 0 none (.mv (.tmp 8)) (some 28) false <|
  .rd 1 none (.mv (.tmp 5)) (some 29) false <|
  .rd 2 none (.len .sl (.tmp 29)) (some 30) false <|
  .rd 3 none (.bin .lss (.tmp 28) (.tmp 30)) (some 31) false <|
  .rd 4 none (.mv (.tmp 31)) (some 32) false <|
  .rd 5 (some (32, true)) (.mv (.tmp 5)) (some 33) false <|
  .rd 6 (some (32, true)) (.mv (.tmp 8)) (some 34) false <|
  .rd 7 (some (32, true)) (.idxA 5 (.tmp 33) (.tmp 34)) (some 35) false <|
  .rd 8 (some (32, true)) (.fldA 4 (.tmp 35)) (some 36) false <|
  .rd 9 (some (32, true)) (.ld1 (.tmp 36)) (some 37) false <|
  .rd 10 (some (32, true)) (.fldA 4 (.tmp 7)) (some 38) false <|
  .rd 11 (some (32, true)) (.ld1 (.tmp 38)) (some 39) false <|
  .rd 12 (some (32, true)) (.bin .lss (.tmp 37) (.tmp 39)) (some 40) false <|
  .rd 13 (some (32, true)) (.mv (.tmp 40)) (some 41) false <|
  .rd 14 (some (41, false)) (.mv (.tmp 5)) (some 42) false <|
  .rd 15 (some (41, false)) (.mv (.tmp 8)) (some 43) false <|
  .rd 16 (some (41, false)) (.idxA 5 (.tmp 42) (.tmp 43)) (some 44) false <|
  .rd 17 (some (41, false)) (.fldA 4 (.tmp 44)) (some 45) false <|
  .rd 18 (some (41, false)) (.ld1 (.tmp 45)) (some 46) false <|
  .rd 19 (some (41, false)) (.fldA 4 (.tmp 7)) (some 47) false <|
  .rd 20 (some (41, false)) (.ld1 (.tmp 47)) (some 48) false <|
  .rd 21 (some (41, false)) (.bin .eql (.tmp 46) (.tmp 48)) (some 49) false <|
  .rd 22 (some (41, false)) (.mv (.tmp 49)) (some 50) false <|
  .rd 23 (some (50, true)) (.mv (.tmp 5)) (some 51) false <|
  .rd 24 (some (50, true)) (.mv (.tmp 8)) (some 52) false <|
  .rd 25 (some (50, true)) (.idxA 5 (.tmp 51) (.tmp 52)) (some 53) false <|
  .rd 26 (some (50, true)) (.fldA 0 (.tmp 53)) (some 54) false <|
  .rd 27 (some (50, true)) (.ldn 2 (.tmp 54)) (some 55) false <|
  .rd 28 (some (50, true)) (.fldA 0 (.tmp 7)) (some 56) false <|
  .rd 29 (some (50, true)) (.ldn 2 (.tmp 56)) (some 57) false <|
  .ef 30 (some (50, true)) (.call F.osierref03_Less [(.tmp 55), (.tmp 57)]) (some 58) [] (
  .rd 31 (some (41, false)) (.pick (.tmp 50) (.tmp 58) (.const (.bool false))) (some 59) false <|
  .rd 32 (some (32, true)) (.pick (.tmp 41) (.const (.bool true)) (.tmp 59)) (some 60) false <|
  .rd 33 none (.pick (.tmp 32) (.tmp 60) (.const (.bool false))) (some 61) false <|
  .done) .none
noncomputable def F.osierref10_Tree_Kids.r8 : Plan :=
  .rd 0 none (.mv (.tmp 8)) (some 62) false <|
  .rd 1 none (.bin .add (.tmp 62) (.const (.int .i64 1))) (some 63) false <|
  .rd 2 none (.mv (.tmp 63)) (some 8) false <|
  .done
noncomputable def F.osierref10_Tree_Kids.l0 : IC :=
    (.seq (.seq (.reg F.osierref10_Tree_Kids.r7)
    (.cond (.tmp 61) .skip (.exit 2)))
    (.block 3 (.reg F.osierref10_Tree_Kids.r8)))
noncomputable def F.osierref10_Tree_Kids.r9 : Plan :=
  .rd 0 none (.mv (.const (.slice none 0 0))) (some 9) false <|
  .done
noncomputable def F.osierref10_Tree_Kids.r10 : Plan :=
  .rd 0 none (.mv (.tmp 9)) (some 64) false <|
  .rd 1 none (.mv (.tmp 5)) (some 65) false <|
  .rd 2 none (.mv (.tmp 8)) (some 66) false <|
  .rd 3 none (.sl 5 (.tmp 65) none (some (.tmp 66)) none) (some 67) false <|
  .ef 4 none (.app 5 48 (.tmp 64) (.tmp 67)) (some 68) [] (
  .rd 5 none (.mv (.tmp 68)) (some 9) false <|
  .done) .none
noncomputable def F.osierref10_Tree_Kids.r11 : Plan :=
  .rd 0 none (.mv (.tmp 9)) (some 69) false <|
  .rd 1 none (.ldn 5 (.tmp 7)) (some 70) false <|
  .ef 2 none (.bsl 1 [(.int .i64 0), (.int .i64 0), (.int .i64 0), (.int .i64 0), (.string ⟨#[]⟩)] [(0, (5, (.tmp 70)))]) (some 71) [] (
  .ef 3 none (.app 5 48 (.tmp 69) (.tmp 71)) (some 72) [] (
  .rd 4 none (.mv (.tmp 72)) (some 9) false <|
  .done) .none) .none
noncomputable def F.osierref10_Tree_Kids.r12 : Plan :=
  .rd 0 none (.mv (.tmp 9)) (some 73) false <|
  .rd 1 none (.mv (.tmp 5)) (some 74) false <|
  .rd 2 none (.mv (.tmp 8)) (some 75) false <|
  .rd 3 none (.sl 5 (.tmp 74) (some (.tmp 75)) none none) (some 76) false <|
  .ef 4 none (.app 5 48 (.tmp 73) (.tmp 76)) (some 77) [] (
  .rd 5 none (.mv (.tmp 77)) (some 5) false <|
  .done) .none
noncomputable def F.osierref10_Tree_Kids.r13 : Plan :=
  .rd 0 none (.mv (.tmp 6)) (some 17) false <|
  .rd 1 none (.bin .add (.tmp 17) (.const (.int .i64 1))) (some 18) false <|
  .rd 2 none (.mv (.tmp 18)) (some 6) false <|
  .done
noncomputable def F.osierref10_Tree_Kids.l1 : IC :=
    (.seq (.seq (.reg F.osierref10_Tree_Kids.r3)
    (.cond (.tmp 16) .skip (.exit 0)))
    (.seq (.block 1 (.seq (.reg F.osierref10_Tree_Kids.r4)
    (.seq (.seq (.reg F.osierref10_Tree_Kids.r5)
    (.cond (.tmp 27) (.exit 1) .skip))
    (.seq (.reg F.osierref10_Tree_Kids.r6)
    (.seq (.block 2 (.loop F.osierref10_Tree_Kids.l0))
    (.seq (.reg F.osierref10_Tree_Kids.r9)
    (.seq (.reg F.osierref10_Tree_Kids.r10)
    (.seq (.reg F.osierref10_Tree_Kids.r11)
    (.reg F.osierref10_Tree_Kids.r12)))))))))
    (.reg F.osierref10_Tree_Kids.r13)))
noncomputable def F.osierref10_Tree_Kids.r14 : Plan :=
  .rd 0 none (.mv (.const (.slice none 0 0))) (some 10) false <|
  .done
noncomputable def F.osierref10_Tree_Kids.r15 : Plan :=
  .rd 0 none (.mv (.const (.int .i64 0))) (some 11) false <|
  .done
noncomputable def F.osierref10_Tree_Kids.r16 : Plan :=
  .rd 0 none (.mv (.tmp 11)) (some 78) false <|
  .rd 1 none (.mv (.tmp 5)) (some 79) false <|
  .rd 2 none (.len .sl (.tmp 79)) (some 80) false <|
  .rd 3 none (.bin .lss (.tmp 78) (.tmp 80)) (some 81) false <|
  .done
noncomputable def F.osierref10_Tree_Kids.r17 : Plan :=
  .rd 0 none (.mv (.tmp 10)) (some 84) false <|
  .rd 1 none (.mv (.tmp 5)) (some 85) false <|
  .rd 2 none (.mv (.tmp 11)) (some 86) false <|
  .rd 3 none (.idxA 5 (.tmp 85) (.tmp 86)) (some 87) false <|
  .rd 4 none (.fldA 0 (.tmp 87)) (some 88) false <|
  .rd 5 none (.ldn 2 (.tmp 88)) (some 89) false <|
  .ef 6 none (.bsl 1 [(.int .i64 0), (.int .i64 0)] [(0, (2, (.tmp 89)))]) (some 90) [] (
  .ef 7 none (.app 2 16 (.tmp 84) (.tmp 90)) (some 91) [] (
  .rd 8 none (.mv (.tmp 91)) (some 10) false <|
  .done) .none) .none
noncomputable def F.osierref10_Tree_Kids.r18 : Plan :=
  .rd 0 none (.mv (.tmp 11)) (some 82) false <|
  .rd 1 none (.bin .add (.tmp 82) (.const (.int .i64 1))) (some 83) false <|
  .rd 2 none (.mv (.tmp 83)) (some 11) false <|
  .done
noncomputable def F.osierref10_Tree_Kids.l2 : IC :=
    (.seq (.seq (.reg F.osierref10_Tree_Kids.r16)
    (.cond (.tmp 81) .skip (.exit 4)))
    (.seq (.block 5 (.reg F.osierref10_Tree_Kids.r17))
    (.reg F.osierref10_Tree_Kids.r18)))
noncomputable def F.osierref10_Tree_Kids.r19 : Plan :=
  .rd 0 none (.mv (.tmp 10)) (some 92) false <|
  .rd 1 none (.mv (.tmp 92)) (some 4) false <|
  .done
noncomputable def F.osierref10_Tree_Kids.ic : IC :=
    (.seq (.reg F.osierref10_Tree_Kids.r0)
    (.seq (.reg F.osierref10_Tree_Kids.r1)
    (.seq (.seq (.reg F.osierref10_Tree_Kids.r2)
    (.block 0 (.loop F.osierref10_Tree_Kids.l1)))
    (.seq (.reg F.osierref10_Tree_Kids.r14)
    (.seq (.seq (.reg F.osierref10_Tree_Kids.r15)
    (.block 4 (.loop F.osierref10_Tree_Kids.l2)))
    (.seq (.reg F.osierref10_Tree_Kids.r19)
    .ret))))))
noncomputable def F.osierref10_Tree_Kids.rs : List RO := [(.mv (.tmp 4))]
theorem F.osierref10_Tree_Kids.ok : cFunc Go.Proofs.Try.prog F.osierref10_Tree_Kids = some (93, F.osierref10_Tree_Kids.ic, F.osierref10_Tree_Kids.rs) := by kernel_rfl
theorem F.osierref10_Tree_Kids.cl : callable Go.Proofs.Try.prog F.osierref10_Tree_Kids = true := by kernel_rfl
noncomputable def F.osierref10_Tree_At.r0 : Plan :=
  .ef 0 none (.box (.tmp 0)) (some 2) [] (
  .ef 1 none (.box (.tmp 1)) (some 3) [] (
  .rd 2 none (.mv (.const (.int .i64 0))) (some 4) false <|
  .done) .none) .none
noncomputable def F.osierref10_Tree_At.r1 : Plan :=
  .rd 0 none (.mv (.const (.int .i64 0))) (some 5) false <|
  .done
noncomputable def F.osierref10_Tree_At.r2 : Plan :=
  .rd 0 none (.mv (.tmp 5)) (some 6) false <|
  .rd 1 none (.fldA 1 (.tmp 2)) (some 7) false <|
  .rd 2 none (.ld1 (.tmp 7)) (some 8) false <|
  .rd 3 none (.len .sl (.tmp 8)) (some 9) false <|
  .rd 4 none (.bin .lss (.tmp 6) (.tmp 9)) (some 10) false <|
  .done
noncomputable def F.osierref10_Tree_At.r3 : Plan :=
  .rd 0 none (.fldA 1 (.tmp 2)) (some 13) false <|
  .rd 1 none (.ld1 (.tmp 13)) (some 14) false <|
  .rd 2 none (.mv (.tmp 5)) (some 15) false <|
  .rd 3 none (.idxA 5 (.tmp 14) (.tmp 15)) (some 16) false <|
  .rd 4 none (.fldA 0 (.tmp 16)) (some 17) false <|
  .rd 5 none (.ldn 2 (.tmp 17)) (some 18) false <|
  .rd 6 none (.ldn 2 (.tmp 3)) (some 19) false <|
  .rd 7 none (.eqS [(.i .i64), (.i .i64)] true false (.tmp 18) (.tmp 19)) (some 20) false <|
  .done
noncomputable def F.osierref10_Tree_At.r4 : Plan :=
  .rd 0 none (.mv (.tmp 5)) (some 21) false <|
  .rd 1 none (.mv (.tmp 21)) (some 4) false <|
  .done
noncomputable def F.osierref10_Tree_At.r5 : Plan :=
  .rd 0 none (.mv (.tmp 5)) (some 11) false <|
  .rd 1 none (.bin .add (.tmp 11) (.const (.int .i64 1))) (some 12) false <|
  .rd 2 none (.mv (.tmp 12)) (some 5) false <|
  .done
noncomputable def F.osierref10_Tree_At.l0 : IC :=
    (.seq (.seq (.reg F.osierref10_Tree_At.r2)
    (.cond (.tmp 10) .skip (.exit 0)))
    (.seq (.block 1 (.seq (.reg F.osierref10_Tree_At.r3)
    (.cond (.tmp 20) (.seq (.reg F.osierref10_Tree_At.r4)
    .ret) .skip)))
    (.reg F.osierref10_Tree_At.r5)))
noncomputable def F.osierref10_Tree_At.r6 : Plan :=
  .rd 0 none (.mv (.const (.int .i64 (-1)))) (some 4) false <|
  .done
noncomputable def F.osierref10_Tree_At.ic : IC :=
    (.seq (.reg F.osierref10_Tree_At.r0)
    (.seq (.seq (.reg F.osierref10_Tree_At.r1)
    (.block 0 (.loop F.osierref10_Tree_At.l0)))
    (.seq (.reg F.osierref10_Tree_At.r6)
    .ret)))
noncomputable def F.osierref10_Tree_At.rs : List RO := [(.mv (.tmp 4))]
theorem F.osierref10_Tree_At.ok : cFunc Go.Proofs.Try.prog F.osierref10_Tree_At = some (22, F.osierref10_Tree_At.ic, F.osierref10_Tree_At.rs) := by kernel_rfl
theorem F.osierref10_Tree_At.cl : callable Go.Proofs.Try.prog F.osierref10_Tree_At = true := by kernel_rfl
noncomputable def F.osierref10_Tree_Path.r0 : Plan :=
  .ef 0 none (.box (.tmp 0)) (some 2) [] (
  .ef 1 none (.box (.tmp 1)) (some 3) [] (
  .rd 2 none (.mv (.const (.slice none 0 0))) (some 4) false <|
  .done) .none) .none
noncomputable def F.osierref10_Tree_Path.r1 : Plan :=
  .rd 0 none (.mv (.const (.slice none 0 0))) (some 5) false <|
  .done
noncomputable def F.osierref10_Tree_Path.r2 : Plan :=
  .rd 0 none (.ldn 3 (.tmp 2)) (some 7) false <|
  .rd 1 none (.ldn 2 (.tmp 3)) (some 8) false <|
  .ef 2 none (.call F.osierref10_Tree_At [(.tmp 7), (.tmp 8)]) (some 9) [] (
  .rd 3 none (.mv (.tmp 9)) (some 6) false <|
  .done) .none
noncomputable def F.osierref10_Tree_Path.r3 : Plan :=
  .rd 0 none (.mv (.tmp 6)) (some 10) false <|
  .rd 1 none (.bin .geq (.tmp 10) (.const (.int .i64 0))) (some 11) false <|
  .rd 2 none (.mv (.tmp 11)) (some 12) false <|
  .rd 3 (some (12, true)) (.mv (.tmp 5)) (some 13) false <|
  .rd 4 (some (12, true)) (.len .sl (.tmp 13)) (some 14) false <|
  .rd 5 (some (12, true)) (.fldA 1 (.tmp 2)) (some 15) false <|
  .rd 6 (some (12, true)) (.ld1 (.tmp 15)) (some 16) false <|
  .rd 7 (some (12, true)) (.len .sl (.tmp 16)) (some 17) false <|
  .rd 8 (some (12, true)) (.bin .leq (.tmp 14) (.tmp 17)) (some 18) false <|
  .rd 9 none (.pick (.tmp 12) (.tmp 18) (.const (.bool false))) (some 19) false <|
  .done
noncomputable def F.osierref10_Tree_Path.r4 : Plan :=
  .rd 0 none (.mv (.tmp 5)) (some 20) false <|
  .rd 1 none (.fldA 1 (.tmp 2)) (some 21) false <|
  .rd 2 none (.ld1 (.tmp 21)) (some 22) false <|
  .rd 3 none (.mv (.tmp 6)) (some 23) false <|
  .rd 4 none (.idxA 5 (.tmp 22) (.tmp 23)) (some 24) false <|
  .rd 5 none (.fldA 2 (.tmp 24)) (some 25) false <|
  .rd 6 none (.ldn 2 (.tmp 25)) (some 26) false <|
  .ef 7 none (.bsl 1 [(.int .i64 0), (.int .i64 0)] [(0, (2, (.tmp 26)))]) (some 27) [] (
  .ef 8 none (.app 2 16 (.tmp 20) (.tmp 27)) (some 28) [] (
  .rd 9 none (.mv (.tmp 28)) (some 5) false <|
  .done) .none) .none
noncomputable def F.osierref10_Tree_Path.r5 : Plan :=
  .rd 0 none (.ldn 3 (.tmp 2)) (some 29) false <|
  .rd 1 none (.fldA 1 (.tmp 2)) (some 30) false <|
  .rd 2 none (.ld1 (.tmp 30)) (some 31) false <|
  .rd 3 none (.mv (.tmp 6)) (some 32) false <|
  .rd 4 none (.idxA 5 (.tmp 31) (.tmp 32)) (some 33) false <|
  .rd 5 none (.fldA 2 (.tmp 33)) (some 34) false <|
  .rd 6 none (.ldn 2 (.tmp 34)) (some 35) false <|
  .ef 7 none (.call F.osierref10_Tree_At [(.tmp 29), (.tmp 35)]) (some 36) [] (
  .rd 8 none (.mv (.tmp 36)) (some 6) false <|
  .done) .none
noncomputable def F.osierref10_Tree_Path.l0 : IC :=
    (.seq (.seq (.reg F.osierref10_Tree_Path.r3)
    (.cond (.tmp 19) .skip (.exit 0)))
    (.block 1 (.seq (.reg F.osierref10_Tree_Path.r4)
    (.reg F.osierref10_Tree_Path.r5))))
noncomputable def F.osierref10_Tree_Path.r6 : Plan :=
  .rd 0 none (.mv (.tmp 5)) (some 37) false <|
  .rd 1 none (.mv (.tmp 37)) (some 4) false <|
  .done
noncomputable def F.osierref10_Tree_Path.ic : IC :=
    (.seq (.reg F.osierref10_Tree_Path.r0)
    (.seq (.reg F.osierref10_Tree_Path.r1)
    (.seq (.reg F.osierref10_Tree_Path.r2)
    (.seq (.block 0 (.loop F.osierref10_Tree_Path.l0))
    (.seq (.reg F.osierref10_Tree_Path.r6)
    .ret)))))
noncomputable def F.osierref10_Tree_Path.rs : List RO := [(.mv (.tmp 4))]
theorem F.osierref10_Tree_Path.ok : cFunc Go.Proofs.Try.prog F.osierref10_Tree_Path = some (38, F.osierref10_Tree_Path.ic, F.osierref10_Tree_Path.rs) := by kernel_rfl
theorem F.osierref10_Tree_Path.cl : callable Go.Proofs.Try.prog F.osierref10_Tree_Path = true := by kernel_rfl
noncomputable def F.slices_SortStableFunc_s_api_Dot_api_Dot.r0 : Plan :=
  .rd 0 none (.mv (.tmp 0)) (some 4) false <|
  .rd 1 none (.mv (.tmp 0)) (some 5) false <|
  .rd 2 none (.len .sl (.tmp 5)) (some 6) false <|
  .rd 3 none (.mv (.tmp 1)) (some 7) false <|
  .ef 4 none (.call F.slices_stableCmpFunc_api_Dot [(.tmp 4), (.tmp 6), (.tmp 7)]) (some 8) [] (
  .done) .none
noncomputable def F.slices_SortStableFunc_s_api_Dot_api_Dot.ic : IC :=
    (.reg F.slices_SortStableFunc_s_api_Dot_api_Dot.r0)
noncomputable def F.slices_SortStableFunc_s_api_Dot_api_Dot.rs : List RO := []
theorem F.slices_SortStableFunc_s_api_Dot_api_Dot.ok : cFunc Go.Proofs.Try.prog F.slices_SortStableFunc_s_api_Dot_api_Dot = some (9, F.slices_SortStableFunc_s_api_Dot_api_Dot.ic, F.slices_SortStableFunc_s_api_Dot_api_Dot.rs) := by kernel_rfl
theorem F.slices_SortStableFunc_s_api_Dot_api_Dot.cl : callable Go.Proofs.Try.prog F.slices_SortStableFunc_s_api_Dot_api_Dot = true := by kernel_rfl
noncomputable def F.movetree_Tree_Kids_c1.r0 : Plan :=
  .ef 0 none (.box (.tmp 0)) (some 3) [] (
  .ef 1 none (.box (.tmp 1)) (some 4) [] (
  .rd 2 none (.mv (.const (.int .i64 0))) (some 5) false <|
  .done) .none) .none
noncomputable def F.movetree_Tree_Kids_c1.r1 : Plan :=
  .rd 0 none (.ld1 (.tmp 2)) (some 6) false <|
  .rd 1 none (.nilC (.tmp 6)) (some 7) false <|
  .rd 2 none (.fldA 1 (.tmp 7)) (some 8) false <|
  .rd 3 none (.ld1 (.tmp 8)) (some 9) false <|
  .rd 4 none (.ldn 2 (.tmp 3)) (some 10) false <|
  .rd 5 none (.look [(.i .i64), (.i .i64)] true (.agg #[(.int .i64 0), (.int .i64 0), (.string ⟨#[]⟩)]) false (.tmp 9) (.tmp 10)) (some 11) false <|
  .rd 6 none (.fld 2 1 false (.tmp 11)) (some 12) false <|
  .rd 7 none (.ld1 (.tmp 2)) (some 13) false <|
  .rd 8 none (.nilC (.tmp 13)) (some 14) false <|
  .rd 9 none (.fldA 1 (.tmp 14)) (some 15) false <|
  .rd 10 none (.ld1 (.tmp 15)) (some 16) false <|
  .rd 11 none (.ldn 2 (.tmp 4)) (some 17) false <|
  .rd 12 none (.look [(.i .i64), (.i .i64)] true (.agg #[(.int .i64 0), (.int .i64 0), (.string ⟨#[]⟩)]) false (.tmp 16) (.tmp 17)) (some 18) false <|
  .rd 13 none (.fld 2 1 false (.tmp 18)) (some 19) false <|
  .ef 14 none (.call F.cmp_Compare_string [(.tmp 12), (.tmp 19)]) (some 20) [] (
  .rd 15 none (.mv (.tmp 20)) (some 5) false <|
  .done) .none
noncomputable def F.movetree_Tree_Kids_c1.ic : IC :=
    (.seq (.reg F.movetree_Tree_Kids_c1.r0)
    (.seq (.reg F.movetree_Tree_Kids_c1.r1)
    .ret))
noncomputable def F.movetree_Tree_Kids_c1.rs : List RO := [(.mv (.tmp 5))]
theorem F.movetree_Tree_Kids_c1.ok : cFunc Go.Proofs.Try.prog F.movetree_Tree_Kids_c1 = some (21, F.movetree_Tree_Kids_c1.ic, F.movetree_Tree_Kids_c1.rs) := by kernel_rfl
theorem F.movetree_Tree_Kids_c1.cl : callable Go.Proofs.Try.prog F.movetree_Tree_Kids_c1 = true := by kernel_rfl
noncomputable def F.cmp_Compare_string.r0 : Plan :=
  .rd 0 none (.mv (.const (.int .i64 0))) (some 4) false <|
  .done
noncomputable def F.cmp_Compare_string.r1 : Plan :=
  .rd 0 none (.mv (.tmp 0)) (some 7) false <|
  .ef 1 none (.call F.cmp_isNaN_string [(.tmp 7)]) (some 8) [] (
  .rd 2 none (.mv (.tmp 8)) (some 5) false <|
  .done) .none
noncomputable def F.cmp_Compare_string.r2 : Plan :=
  .rd 0 none (.mv (.tmp 1)) (some 9) false <|
  .ef 1 none (.call F.cmp_isNaN_string [(.tmp 9)]) (some 10) [] (
  .rd 2 none (.mv (.tmp 10)) (some 6) false <|
  .done) .none
noncomputable def F.cmp_Compare_string.r3 : Plan :=
  .rd 0 none (.mv (.tmp 5)) (some 11) false <|
  .done
noncomputable def F.cmp_Compare_string.r4 : Plan :=
  .rd 0 none (.mv (.tmp 6)) (some 12) false <|
  .done
noncomputable def F.cmp_Compare_string.r5 : Plan :=
  .rd 0 none (.mv (.const (.int .i64 0))) (some 4) false <|
  .done
noncomputable def F.cmp_Compare_string.r6 : Plan :=
  .rd 0 none (.mv (.const (.int .i64 (-1)))) (some 4) false <|
  .done
noncomputable def F.cmp_Compare_string.r7 : Plan :=
  .rd 0 none (.mv (.tmp 6)) (some 13) false <|
  .done
noncomputable def F.cmp_Compare_string.r8 : Plan :=
  .rd 0 none (.mv (.const (.int .i64 1))) (some 4) false <|
  .done
noncomputable def F.cmp_Compare_string.r9 : Plan :=
  .rd 0 none (.mv (.tmp 0)) (some 14) false <|
  .rd 1 none (.mv (.tmp 1)) (some 15) false <|
  .rd 2 none (.bin .lss (.tmp 14) (.tmp 15)) (some 16) false <|
  .done
noncomputable def F.cmp_Compare_string.r10 : Plan :=
  .rd 0 none (.mv (.const (.int .i64 (-1)))) (some 4) false <|
  .done
noncomputable def F.cmp_Compare_string.r11 : Plan :=
  .rd 0 none (.mv (.tmp 0)) (some 17) false <|
  .rd 1 none (.mv (.tmp 1)) (some 18) false <|
  .rd 2 none (.bin .gtr (.tmp 17) (.tmp 18)) (some 19) false <|
  .done
noncomputable def F.cmp_Compare_string.r12 : Plan :=
  .rd 0 none (.mv (.const (.int .i64 1))) (some 4) false <|
  .done
noncomputable def F.cmp_Compare_string.r13 : Plan :=
  .rd 0 none (.mv (.const (.int .i64 0))) (some 4) false <|
  .done
noncomputable def F.cmp_Compare_string.ic : IC :=
    (.seq (.reg F.cmp_Compare_string.r0)
    (.seq (.reg F.cmp_Compare_string.r1)
    (.seq (.reg F.cmp_Compare_string.r2)
    (.seq (.seq (.reg F.cmp_Compare_string.r3)
    (.cond (.tmp 11) (.seq (.seq (.reg F.cmp_Compare_string.r4)
    (.cond (.tmp 12) (.seq (.reg F.cmp_Compare_string.r5)
    .ret) .skip))
    (.seq (.reg F.cmp_Compare_string.r6)
    .ret)) .skip))
    (.seq (.seq (.reg F.cmp_Compare_string.r7)
    (.cond (.tmp 13) (.seq (.reg F.cmp_Compare_string.r8)
    .ret) .skip))
    (.seq (.seq (.reg F.cmp_Compare_string.r9)
    (.cond (.tmp 16) (.seq (.reg F.cmp_Compare_string.r10)
    .ret) .skip))
    (.seq (.seq (.reg F.cmp_Compare_string.r11)
    (.cond (.tmp 19) (.seq (.reg F.cmp_Compare_string.r12)
    .ret) .skip))
    (.seq (.reg F.cmp_Compare_string.r13)
    .ret))))))))
noncomputable def F.cmp_Compare_string.rs : List RO := [(.mv (.tmp 4))]
theorem F.cmp_Compare_string.ok : cFunc Go.Proofs.Try.prog F.cmp_Compare_string = some (20, F.cmp_Compare_string.ic, F.cmp_Compare_string.rs) := by kernel_rfl
theorem F.cmp_Compare_string.cl : callable Go.Proofs.Try.prog F.cmp_Compare_string = true := by kernel_rfl
noncomputable def F.osierref03_Put1.r0 : Plan :=
  .ef 0 none (.box (.tmp 1)) (some 3) [] (
  .rd 1 none (.mv (.const (.slice none 0 0))) (some 4) false <|
  .done) .none
noncomputable def F.osierref03_Put1.r1 : Plan :=
  .rd 0 none (.mv (.const (.int .i64 0))) (some 5) false <|
  .done
noncomputable def F.osierref03_Put1.r2 : Plan :=
  .rd 0 none (.mv (.tmp 5)) (some 7) false <|
  .rd 1 none (.mv (.tmp 0)) (some 8) false <|
  .rd 2 none (.len .sl (.tmp 8)) (some 9) false <|
  .rd 3 none (.bin .lss (.tmp 7) (.tmp 9)) (some 10) false <|
  .rd 4 none (.mv (.tmp 10)) (some 11) false <|
  .rd 5 (some (11, true)) (.mv (.tmp 0)) (some 12) false <|
  .rd 6 (some (11, true)) (.mv (.tmp 5)) (some 13) false <|
  .rd 7 (some (11, true)) (.idxA 2 (.tmp 12) (.tmp 13)) (some 14) false <|
  .rd 8 (some (11, true)) (.ldn 2 (.tmp 14)) (some 15) false <|
  .rd 9 (some (11, true)) (.ldn 2 (.tmp 3)) (some 16) false <|
  .ef 10 (some (11, true)) (.call F.osierref03_Less [(.tmp 15), (.tmp 16)]) (some 17) [] (
  .rd 11 none (.pick (.tmp 11) (.tmp 17) (.const (.bool false))) (some 18) false <|
  .done) .none
noncomputable def F.osierref03_Put1.r3 : Plan :=
  .rd 0 none (.mv (.tmp 5)) (some 19) false <|
  .rd 1 none (.bin .add (.tmp 19) (.const (.int .i64 1))) (some 20) false <|
  .rd 2 none (.mv (.tmp 20)) (some 5) false <|
  .done
noncomputable def F.osierref03_Put1.l0 : IC :=
    (.seq (.seq (.reg F.osierref03_Put1.r2)
    (.cond (.tmp 18) .skip (.exit 0)))
    (.block 1 (.reg F.osierref03_Put1.r3)))
noncomputable def F.osierref03_Put1.r4 : Plan :=
  .rd 0 none (.mv (.tmp 5)) (some 21) false <|
  .rd 1 none (.mv (.tmp 0)) (some 22) false <|
  .rd 2 none (.len .sl (.tmp 22)) (some 23) false <|
  .rd 3 none (.bin .lss (.tmp 21) (.tmp 23)) (some 24) false <|
  .rd 4 none (.mv (.tmp 24)) (some 25) false <|
  .rd 5 (some (25, true)) (.mv (.tmp 0)) (some 26) false <|
  .rd 6 (some (25, true)) (.mv (.tmp 5)) (some 27) false <|
  .rd 7 (some (25, true)) (.idxA 2 (.tmp 26) (.tmp 27)) (some 28) false <|
  .rd 8 (some (25, true)) (.ldn 2 (.tmp 28)) (some 29) false <|
  .rd 9 (some (25, true)) (.ldn 2 (.tmp 3)) (some 30) false <|
  .rd 10 (some (25, true)) (.eqS [(.i .i64), (.i .i64)] true false (.tmp 29) (.tmp 30)) (some 31) false <|
  .rd 11 none (.pick (.tmp 25) (.tmp 31) (.const (.bool false))) (some 32) false <|
  .done
noncomputable def F.osierref03_Put1.r5 : Plan :=
  .rd 0 none (.mv (.tmp 0)) (some 33) false <|
  .rd 1 none (.mv (.tmp 33)) (some 4) false <|
  .done
noncomputable def F.osierref03_Put1.r6 : Plan :=
  .rd 0 none (.mv (.const (.slice none 0 0))) (some 6) false <|
  .done
noncomputable def F.osierref03_Put1.r7 : Plan :=
  .rd 0 none (.mv (.tmp 6)) (some 34) false <|
  .rd 1 none (.mv (.tmp 0)) (some 35) false <|
  .rd 2 none (.mv (.tmp 5)) (some 36) false <|
  .rd 3 none (.sl 2 (.tmp 35) none (some (.tmp 36)) none) (some 37) false <|
  .ef 4 none (.app 2 16 (.tmp 34) (.tmp 37)) (some 38) [] (
  .rd 5 none (.mv (.tmp 38)) (some 6) false <|
  .done) .none
noncomputable def F.osierref03_Put1.r8 : Plan :=
  .rd 0 none (.mv (.tmp 6)) (some 39) false <|
  .rd 1 none (.ldn 2 (.tmp 3)) (some 40) false <|
  .ef 2 none (.bsl 1 [(.int .i64 0), (.int .i64 0)] [(0, (2, (.tmp 40)))]) (some 41) [] (
  .ef 3 none (.app 2 16 (.tmp 39) (.tmp 41)) (some 42) [] (
  .rd 4 none (.mv (.tmp 42)) (some 6) false <|
  .done) .none) .none
noncomputable def F.osierref03_Put1.r9 : Plan :=
  .rd 0 none (.mv (.tmp 6)) (some 43) false <|
  .rd 1 none (.mv (.tmp 0)) (some 44) false <|
  .rd 2 none (.mv (.tmp 5)) (some 45) false <|
  .rd 3 none (.sl 2 (.tmp 44) (some (.tmp 45)) none none) (some 46) false <|
  .ef 4 none (.app 2 16 (.tmp 43) (.tmp 46)) (some 47) [] (
  .rd 5 none (.mv (.tmp 47)) (some 4) false <|
  .done) .none
noncomputable def F.osierref03_Put1.ic : IC :=
    (.seq (.reg F.osierref03_Put1.r0)
    (.seq (.reg F.osierref03_Put1.r1)
    (.seq (.block 0 (.loop F.osierref03_Put1.l0))
    (.seq (.seq (.reg F.osierref03_Put1.r4)
    (.cond (.tmp 32) (.seq (.reg F.osierref03_Put1.r5)
    .ret) .skip))
    (.seq (.reg F.osierref03_Put1.r6)
    (.seq (.reg F.osierref03_Put1.r7)
    (.seq (.reg F.osierref03_Put1.r8)
    (.seq (.reg F.osierref03_Put1.r9)
    .ret))))))))
noncomputable def F.osierref03_Put1.rs : List RO := [(.mv (.tmp 4))]
theorem F.osierref03_Put1.ok : cFunc Go.Proofs.Try.prog F.osierref03_Put1 = some (48, F.osierref03_Put1.ic, F.osierref03_Put1.rs) := by kernel_rfl
theorem F.osierref03_Put1.cl : callable Go.Proofs.Try.prog F.osierref03_Put1 = true := by kernel_rfl
noncomputable def F.osierref10_root.r0 : Plan :=
  .ef 0 none (.alloc [(.int .i64 0), (.int .i64 0)]) (some 0) [] (
  .done) .none
noncomputable def F.osierref10_root.r1 : Plan :=
  .rd 0 none (.build [(.int .i64 0), (.int .i64 0)] [(0, (1, (.const (.int .i64 0)))), (1, (1, (.const (.int .i64 (-1)))))]) (some 1) false <|
  .ef 1 none (.st 2 (.tmp 0) (.tmp 1)) none [] (
  .done) .none
noncomputable def F.osierref10_root.ic : IC :=
    (.seq (.reg F.osierref10_root.r0)
    (.seq (.reg F.osierref10_root.r1)
    .ret))
noncomputable def F.osierref10_root.rs : List RO := [(.ldn 2 (.tmp 0))]
theorem F.osierref10_root.ok : cFunc Go.Proofs.Try.prog F.osierref10_root = some (2, F.osierref10_root.ic, F.osierref10_root.rs) := by kernel_rfl
theorem F.osierref10_root.cl : callable Go.Proofs.Try.prog F.osierref10_root = true := by kernel_rfl
noncomputable def F.osierref10_trash.r0 : Plan :=
  .ef 0 none (.alloc [(.int .i64 0), (.int .i64 0)]) (some 0) [] (
  .done) .none
noncomputable def F.osierref10_trash.r1 : Plan :=
  .rd 0 none (.build [(.int .i64 0), (.int .i64 0)] [(0, (1, (.const (.int .i64 0)))), (1, (1, (.const (.int .i64 (-2)))))]) (some 1) false <|
  .ef 1 none (.st 2 (.tmp 0) (.tmp 1)) none [] (
  .done) .none
noncomputable def F.osierref10_trash.ic : IC :=
    (.seq (.reg F.osierref10_trash.r0)
    (.seq (.reg F.osierref10_trash.r1)
    .ret))
noncomputable def F.osierref10_trash.rs : List RO := [(.ldn 2 (.tmp 0))]
theorem F.osierref10_trash.ok : cFunc Go.Proofs.Try.prog F.osierref10_trash = some (2, F.osierref10_trash.ic, F.osierref10_trash.rs) := by kernel_rfl
theorem F.osierref10_trash.cl : callable Go.Proofs.Try.prog F.osierref10_trash = true := by kernel_rfl
noncomputable def F.osierref10_Tree_takes.r0 : Plan :=
  .ef 0 none (.box (.tmp 0)) (some 2) [] (
  .ef 1 none (.box (.tmp 1)) (some 3) [] (
  .rd 2 none (.mv (.const (.bool false))) (some 4) false <|
  .done) .none) .none
noncomputable def F.osierref10_Tree_takes.r1 : Plan :=
  .rd 0 none (.ldn 3 (.tmp 2)) (some 8) false <|
  .rd 1 none (.fldA 5 (.tmp 3)) (some 9) false <|
  .rd 2 none (.ldn 2 (.tmp 9)) (some 10) false <|
  .ef 3 none (.call F.osierref10_Tree_At [(.tmp 8), (.tmp 10)]) (some 11) [] (
  .rd 4 none (.bin .geq (.tmp 11) (.const (.int .i64 0))) (some 12) false <|
  .rd 5 none (.mv (.tmp 12)) (some 5) false <|
  .done) .none
noncomputable def F.osierref10_Tree_takes.r2 : Plan :=
  .rd 0 none (.ldn 3 (.tmp 2)) (some 13) false <|
  .rd 1 none (.fldA 3 (.tmp 3)) (some 14) false <|
  .rd 2 none (.ldn 2 (.tmp 14)) (some 15) false <|
  .ef 3 none (.call F.osierref10_Tree_At [(.tmp 13), (.tmp 15)]) (some 16) [] (
  .rd 4 none (.bin .geq (.tmp 16) (.const (.int .i64 0))) (some 17) false <|
  .rd 5 none (.mv (.tmp 17)) (some 6) false <|
  .done) .none
noncomputable def F.osierref10_Tree_takes.r3 : Plan :=
  .rd 0 none (.fldA 5 (.tmp 3)) (some 18) false <|
  .rd 1 none (.ldn 2 (.tmp 18)) (some 19) false <|
  .ef 2 none (.call F.osierref10_ends [(.tmp 19)]) (some 20) [] (
  .rd 3 none (.un .not (.tmp 20)) (some 21) false <|
  .rd 4 none (.mv (.tmp 21)) (some 22) false <|
  .rd 5 (some (22, true)) (.mv (.tmp 5)) (some 23) false <|
  .rd 6 (some (22, true)) (.un .not (.tmp 23)) (some 24) false <|
  .rd 7 none (.pick (.tmp 22) (.tmp 24) (.const (.bool false))) (some 25) false <|
  .rd 8 none (.mv (.tmp 25)) (some 26) false <|
  .rd 9 (some (26, false)) (.fldA 3 (.tmp 3)) (some 27) false <|
  .rd 10 (some (26, false)) (.ldn 2 (.tmp 27)) (some 28) false <|
  .rd 11 (some (26, false)) (.fldA 0 (.tmp 3)) (some 29) false <|
  .rd 12 (some (26, false)) (.ldn 2 (.tmp 29)) (some 30) false <|
  .rd 13 (some (26, false)) (.eqS [(.i .i64), (.i .i64)] true true (.tmp 28) (.tmp 30)) (some 31) false <|
  .rd 14 (some (26, false)) (.mv (.tmp 31)) (some 32) false <|
  .rd 15 (some (32, true)) (.mv (.tmp 6)) (some 33) false <|
  .rd 16 (some (32, true)) (.un .not (.tmp 33)) (some 34) false <|
  .rd 17 (some (26, false)) (.pick (.tmp 32) (.tmp 34) (.const (.bool false))) (some 35) false <|
  .rd 18 none (.pick (.tmp 26) (.const (.bool true)) (.tmp 35)) (some 36) false <|
  .rd 19 none (.mv (.tmp 36)) (some 37) false <|
  .rd 20 (some (37, false)) (.fldA 3 (.tmp 3)) (some 38) false <|
  .rd 21 (some (37, false)) (.ldn 2 (.tmp 38)) (some 39) false <|
  .rd 22 (some (37, false)) (.fldA 5 (.tmp 3)) (some 40) false <|
  .rd 23 (some (37, false)) (.ldn 2 (.tmp 40)) (some 41) false <|
  .rd 24 (some (37, false)) (.eqS [(.i .i64), (.i .i64)] true false (.tmp 39) (.tmp 41)) (some 42) false <|
  .rd 25 none (.pick (.tmp 37) (.const (.bool true)) (.tmp 42)) (some 43) false <|
  .done) .none
noncomputable def F.osierref10_Tree_takes.r4 : Plan :=
  .rd 0 none (.mv (.const (.bool false))) (some 4) false <|
  .done
noncomputable def F.osierref10_Tree_takes.r5 : Plan :=
  .rd 0 none (.ldn 3 (.tmp 2)) (some 44) false <|
  .rd 1 none (.fldA 5 (.tmp 3)) (some 45) false <|
  .rd 2 none (.ldn 2 (.tmp 45)) (some 46) false <|
  .rd 4 none (.fldA 3 (.tmp 3)) (some 48) false <|
  .rd 5 none (.ldn 2 (.tmp 48)) (some 49) true <|
  .ef 3 none (.call F.osierref10_Tree_Path [(.tmp 44), (.tmp 46)]) (some 47) [4, 5] (
  .ef 6 none (.call F.osierref03_In [(.tmp 47), (.tmp 49)]) (some 50) [] (
  .rd 7 none (.mv (.tmp 50)) (some 7) false <|
  .done) .none) .none
noncomputable def F.osierref10_Tree_takes.r6 : Plan :=
  .rd 0 none (.mv (.tmp 7)) (some 51) false <|
  .rd 1 none (.un .not (.tmp 51)) (some 52) false <|
  .rd 2 none (.mv (.tmp 52)) (some 4) false <|
  .done
noncomputable def F.osierref10_Tree_takes.ic : IC :=
    (.seq (.reg F.osierref10_Tree_takes.r0)
    (.seq (.reg F.osierref10_Tree_takes.r1)
    (.seq (.reg F.osierref10_Tree_takes.r2)
    (.seq (.seq (.reg F.osierref10_Tree_takes.r3)
    (.cond (.tmp 43) (.seq (.reg F.osierref10_Tree_takes.r4)
    .ret) .skip))
    (.seq (.reg F.osierref10_Tree_takes.r5)
    (.seq (.reg F.osierref10_Tree_takes.r6)
    .ret))))))
noncomputable def F.osierref10_Tree_takes.rs : List RO := [(.mv (.tmp 4))]
theorem F.osierref10_Tree_takes.ok : cFunc Go.Proofs.Try.prog F.osierref10_Tree_takes = some (53, F.osierref10_Tree_takes.ic, F.osierref10_Tree_takes.rs) := by kernel_rfl
theorem F.osierref10_Tree_takes.cl : callable Go.Proofs.Try.prog F.osierref10_Tree_takes = true := by kernel_rfl
noncomputable def F.osierref10_put.r0 : Plan :=
  .ef 0 none (.box (.tmp 1)) (some 3) [] (
  .rd 1 none (.mv (.const (.slice none 0 0))) (some 4) false <|
  .done) .none
noncomputable def F.osierref10_put.r1 : Plan :=
  .rd 0 none (.mv (.const (.slice none 0 0))) (some 5) false <|
  .done
noncomputable def F.osierref10_put.r2 : Plan :=
  .rd 0 none (.mv (.const (.int .i64 0))) (some 6) false <|
  .done
noncomputable def F.osierref10_put.r3 : Plan :=
  .rd 0 none (.mv (.tmp 6)) (some 7) false <|
  .rd 1 none (.mv (.tmp 0)) (some 8) false <|
  .rd 2 none (.len .sl (.tmp 8)) (some 9) false <|
  .rd 3 none (.bin .lss (.tmp 7) (.tmp 9)) (some 10) false <|
  .done
noncomputable def F.osierref10_put.r4 : Plan :=
  .rd 0 none (.mv (.tmp 0)) (some 13) false <|
  .rd 1 none (.mv (.tmp 6)) (some 14) false <|
  .rd 2 none (.idxA 5 (.tmp 13) (.tmp 14)) (some 15) false <|
  .rd 3 none (.fldA 0 (.tmp 15)) (some 16) false <|
  .rd 4 none (.ldn 2 (.tmp 16)) (some 17) false <|
  .rd 5 none (.fldA 0 (.tmp 3)) (some 18) false <|
  .rd 6 none (.ldn 2 (.tmp 18)) (some 19) false <|
  .rd 7 none (.eqS [(.i .i64), (.i .i64)] true true (.tmp 17) (.tmp 19)) (some 20) false <|
  .done
noncomputable def F.osierref10_put.r5 : Plan :=
  .rd 0 none (.mv (.tmp 5)) (some 21) false <|
  .rd 1 none (.mv (.tmp 0)) (some 22) false <|
  .rd 2 none (.mv (.tmp 6)) (some 23) false <|
  .rd 3 none (.idxA 5 (.tmp 22) (.tmp 23)) (some 24) false <|
  .rd 4 none (.ldn 5 (.tmp 24)) (some 25) false <|
  .ef 5 none (.bsl 1 [(.int .i64 0), (.int .i64 0), (.int .i64 0), (.int .i64 0), (.string ⟨#[]⟩)] [(0, (5, (.tmp 25)))]) (some 26) [] (
  .ef 6 none (.app 5 48 (.tmp 21) (.tmp 26)) (some 27) [] (
  .rd 7 none (.mv (.tmp 27)) (some 5) false <|
  .done) .none) .none
noncomputable def F.osierref10_put.r6 : Plan :=
  .rd 0 none (.mv (.tmp 6)) (some 11) false <|
  .rd 1 none (.bin .add (.tmp 11) (.const (.int .i64 1))) (some 12) false <|
  .rd 2 none (.mv (.tmp 12)) (some 6) false <|
  .done
noncomputable def F.osierref10_put.l0 : IC :=
    (.seq (.seq (.reg F.osierref10_put.r3)
    (.cond (.tmp 10) .skip (.exit 0)))
    (.seq (.block 1 (.seq (.reg F.osierref10_put.r4)
    (.cond (.tmp 20) (.reg F.osierref10_put.r5) .skip)))
    (.reg F.osierref10_put.r6)))
noncomputable def F.osierref10_put.r7 : Plan :=
  .rd 0 none (.mv (.tmp 5)) (some 28) false <|
  .rd 1 none (.ldn 5 (.tmp 3)) (some 29) false <|
  .ef 2 none (.bsl 1 [(.int .i64 0), (.int .i64 0), (.int .i64 0), (.int .i64 0), (.string ⟨#[]⟩)] [(0, (5, (.tmp 29)))]) (some 30) [] (
  .ef 3 none (.app 5 48 (.tmp 28) (.tmp 30)) (some 31) [] (
  .rd 4 none (.mv (.tmp 31)) (some 4) false <|
  .done) .none) .none
noncomputable def F.osierref10_put.ic : IC :=
    (.seq (.reg F.osierref10_put.r0)
    (.seq (.reg F.osierref10_put.r1)
    (.seq (.seq (.reg F.osierref10_put.r2)
    (.block 0 (.loop F.osierref10_put.l0)))
    (.seq (.reg F.osierref10_put.r7)
    .ret))))
noncomputable def F.osierref10_put.rs : List RO := [(.mv (.tmp 4))]
theorem F.osierref10_put.ok : cFunc Go.Proofs.Try.prog F.osierref10_put = some (32, F.osierref10_put.ic, F.osierref10_put.rs) := by kernel_rfl
theorem F.osierref10_put.cl : callable Go.Proofs.Try.prog F.osierref10_put = true := by kernel_rfl
noncomputable def F.slices_stableCmpFunc_api_Dot.r0 : Plan :=
  .rd 0 none (.mv (.const (.int .i64 20))) (some 6) false <|
  .done
noncomputable def F.slices_stableCmpFunc_api_Dot.r1 : Plan :=
  .rd 0 none (.mv (.tmp 6)) (some 10) false <|
  .rd 1 none (.mv (.const (.int .i64 0))) (some 7) false <|
  .rd 2 none (.mv (.tmp 10)) (some 8) false <|
  .done
noncomputable def F.slices_stableCmpFunc_api_Dot.r2 : Plan :=
  .rd 0 none (.mv (.tmp 8)) (some 11) false <|
  .rd 1 none (.mv (.tmp 1)) (some 12) false <|
  .rd 2 none (.bin .leq (.tmp 11) (.tmp 12)) (some 13) false <|
  .done
noncomputable def F.slices_stableCmpFunc_api_Dot.r3 : Plan :=
  .rd 0 none (.mv (.tmp 0)) (some 14) false <|
  .rd 1 none (.mv (.tmp 7)) (some 15) false <|
  .rd 2 none (.mv (.tmp 8)) (some 16) false <|
  .rd 3 none (.mv (.tmp 2)) (some 17) false <|
  .ef 4 none (.call F.slices_insertionSortCmpFunc_api_Dot [(.tmp 14), (.tmp 15), (.tmp 16), (.tmp 17)]) (some 18) [] (
  .done) .none
noncomputable def F.slices_stableCmpFunc_api_Dot.r4 : Plan :=
  .rd 0 none (.mv (.tmp 8)) (some 19) false <|
  .rd 1 none (.mv (.tmp 19)) (some 7) false <|
  .done
noncomputable def F.slices_stableCmpFunc_api_Dot.r5 : Plan :=
  .rd 0 none (.mv (.tmp 8)) (some 20) false <|
  .rd 1 none (.mv (.tmp 6)) (some 21) false <|
  .rd 2 none (.bin .add (.tmp 20) (.tmp 21)) (some 22) false <|
  .rd 3 none (.mv (.tmp 22)) (some 8) false <|
  .done
noncomputable def F.slices_stableCmpFunc_api_Dot.l0 : IC :=
    (.seq (.seq (.reg F.slices_stableCmpFunc_api_Dot.r2)
    (.cond (.tmp 13) .skip (.exit 0)))
    (.block 1 (.seq (.reg F.slices_stableCmpFunc_api_Dot.r3)
    (.seq (.reg F.slices_stableCmpFunc_api_Dot.r4)
    (.reg F.slices_stableCmpFunc_api_Dot.r5)))))
noncomputable def F.slices_stableCmpFunc_api_Dot.r6 : Plan :=
  .rd 0 none (.mv (.tmp 0)) (some 23) false <|
  .rd 1 none (.mv (.tmp 7)) (some 24) false <|
  .rd 2 none (.mv (.tmp 1)) (some 25) false <|
  .rd 3 none (.mv (.tmp 2)) (some 26) false <|
  .ef 4 none (.call F.slices_insertionSortCmpFunc_api_Dot [(.tmp 23), (.tmp 24), (.tmp 25), (.tmp 26)]) (some 27) [] (
  .done) .none
noncomputable def F.slices_stableCmpFunc_api_Dot.r7 : Plan :=
  .rd 0 none (.mv (.tmp 6)) (some 28) false <|
  .rd 1 none (.mv (.tmp 1)) (some 29) false <|
  .rd 2 none (.bin .lss (.tmp 28) (.tmp 29)) (some 30) false <|
  .done
noncomputable def F.slices_stableCmpFunc_api_Dot.r8 : Plan :=
  .rd 0 none (.mv (.tmp 6)) (some 31) false <|
  .rd 1 none (.bin .mul (.const (.int .i64 2)) (.tmp 31)) (some 32) false <|
  .rd 2 none (.mv (.const (.int .i64 0))) (some 7) false <|
  .rd 3 none (.mv (.tmp 32)) (some 8) false <|
  .done
noncomputable def F.slices_stableCmpFunc_api_Dot.r9 : Plan :=
  .rd 0 none (.mv (.tmp 8)) (some 33) false <|
  .rd 1 none (.mv (.tmp 1)) (some 34) false <|
  .rd 2 none (.bin .leq (.tmp 33) (.tmp 34)) (some 35) false <|
  .done
noncomputable def F.slices_stableCmpFunc_api_Dot.r10 : Plan :=
  .rd 0 none (.mv (.tmp 0)) (some 36) false <|
  .rd 1 none (.mv (.tmp 7)) (some 37) false <|
  .rd 2 none (.mv (.tmp 7)) (some 38) false <|
  .rd 3 none (.mv (.tmp 6)) (some 39) false <|
  .rd 4 none (.bin .add (.tmp 38) (.tmp 39)) (some 40) false <|
  .rd 5 none (.mv (.tmp 8)) (some 41) false <|
  .rd 6 none (.mv (.tmp 2)) (some 42) false <|
  .ef 7 none (.call F.slices_symMergeCmpFunc_api_Dot [(.tmp 36), (.tmp 37), (.tmp 40), (.tmp 41), (.tmp 42)]) (some 43) [] (
  .done) .none
noncomputable def F.slices_stableCmpFunc_api_Dot.r11 : Plan :=
  .rd 0 none (.mv (.tmp 8)) (some 44) false <|
  .rd 1 none (.mv (.tmp 44)) (some 7) false <|
  .done
noncomputable def F.slices_stableCmpFunc_api_Dot.r12 : Plan :=
  .rd 0 none (.mv (.tmp 8)) (some 45) false <|
  .rd 1 none (.mv (.tmp 6)) (some 46) false <|
  .rd 2 none (.bin .mul (.const (.int .i64 2)) (.tmp 46)) (some 47) false <|
  .rd 3 none (.bin .add (.tmp 45) (.tmp 47)) (some 48) false <|
  .rd 4 none (.mv (.tmp 48)) (some 8) false <|
  .done
noncomputable def F.slices_stableCmpFunc_api_Dot.l1 : IC :=
    (.seq (.seq (.reg F.slices_stableCmpFunc_api_Dot.r9)
    (.cond (.tmp 35) .skip (.exit 4)))
    (.block 5 (.seq (.reg F.slices_stableCmpFunc_api_Dot.r10)
    (.seq (.reg F.slices_stableCmpFunc_api_Dot.r11)
    (.reg F.slices_stableCmpFunc_api_Dot.r12)))))
noncomputable def F.slices_stableCmpFunc_api_Dot.r13 : Plan :=
  .rd 0 none (.mv (.tmp 7)) (some 49) false <|
  .rd 1 none (.mv (.tmp 6)) (some 50) false <|
  .rd 2 none (.bin .add (.tmp 49) (.tmp 50)) (some 51) false <|
  .rd 3 none (.mv (.tmp 51)) (some 9) false <|
  .done
noncomputable def F.slices_stableCmpFunc_api_Dot.r14 : Plan :=
  .rd 0 none (.mv (.tmp 9)) (some 52) false <|
  .rd 1 none (.mv (.tmp 1)) (some 53) false <|
  .rd 2 none (.bin .lss (.tmp 52) (.tmp 53)) (some 54) false <|
  .done
noncomputable def F.slices_stableCmpFunc_api_Dot.r15 : Plan :=
  .rd 0 none (.mv (.tmp 0)) (some 55) false <|
  .rd 1 none (.mv (.tmp 7)) (some 56) false <|
  .rd 2 none (.mv (.tmp 9)) (some 57) false <|
  .rd 3 none (.mv (.tmp 1)) (some 58) false <|
  .rd 4 none (.mv (.tmp 2)) (some 59) false <|
  .ef 5 none (.call F.slices_symMergeCmpFunc_api_Dot [(.tmp 55), (.tmp 56), (.tmp 57), (.tmp 58), (.tmp 59)]) (some 60) [] (
  .done) .none
noncomputable def F.slices_stableCmpFunc_api_Dot.r16 : Plan :=
  .rd 0 none (.mv (.tmp 6)) (some 61) false <|
  .rd 1 none (.bin .mul (.tmp 61) (.const (.int .i64 2))) (some 62) false <|
  .rd 2 none (.mv (.tmp 62)) (some 6) false <|
  .done
noncomputable def F.slices_stableCmpFunc_api_Dot.l2 : IC :=
    (.seq (.seq (.reg F.slices_stableCmpFunc_api_Dot.r7)
    (.cond (.tmp 30) .skip (.exit 2)))
    (.block 3 (.seq (.reg F.slices_stableCmpFunc_api_Dot.r8)
    (.seq (.block 4 (.loop F.slices_stableCmpFunc_api_Dot.l1))
    (.seq (.seq (.reg F.slices_stableCmpFunc_api_Dot.r13)
    (.seq (.reg F.slices_stableCmpFunc_api_Dot.r14)
    (.cond (.tmp 54) (.reg F.slices_stableCmpFunc_api_Dot.r15) .skip)))
    (.reg F.slices_stableCmpFunc_api_Dot.r16))))))
noncomputable def F.slices_stableCmpFunc_api_Dot.ic : IC :=
    (.seq (.reg F.slices_stableCmpFunc_api_Dot.r0)
    (.seq (.reg F.slices_stableCmpFunc_api_Dot.r1)
    (.seq (.block 0 (.loop F.slices_stableCmpFunc_api_Dot.l0))
    (.seq (.reg F.slices_stableCmpFunc_api_Dot.r6)
    (.block 2 (.loop F.slices_stableCmpFunc_api_Dot.l2))))))
noncomputable def F.slices_stableCmpFunc_api_Dot.rs : List RO := []
theorem F.slices_stableCmpFunc_api_Dot.ok : cFunc Go.Proofs.Try.prog F.slices_stableCmpFunc_api_Dot = some (63, F.slices_stableCmpFunc_api_Dot.ic, F.slices_stableCmpFunc_api_Dot.rs) := by kernel_rfl
theorem F.slices_stableCmpFunc_api_Dot.cl : callable Go.Proofs.Try.prog F.slices_stableCmpFunc_api_Dot = true := by kernel_rfl
noncomputable def F.cmp_isNaN_string.r0 : Plan :=
  .rd 0 none (.mv (.const (.bool false))) (some 2) false <|
  .done
noncomputable def F.cmp_isNaN_string.r1 : Plan :=
  .rd 0 none (.mv (.tmp 0)) (some 3) false <|
  .rd 1 none (.mv (.tmp 0)) (some 4) false <|
  .rd 2 none (.bin .neq (.tmp 3) (.tmp 4)) (some 5) false <|
  .rd 3 none (.mv (.tmp 5)) (some 2) false <|
  .done
noncomputable def F.cmp_isNaN_string.ic : IC :=
    (.seq (.reg F.cmp_isNaN_string.r0)
    (.seq (.reg F.cmp_isNaN_string.r1)
    .ret))
noncomputable def F.cmp_isNaN_string.rs : List RO := [(.mv (.tmp 2))]
theorem F.cmp_isNaN_string.ok : cFunc Go.Proofs.Try.prog F.cmp_isNaN_string = some (6, F.cmp_isNaN_string.ic, F.cmp_isNaN_string.rs) := by kernel_rfl
theorem F.cmp_isNaN_string.cl : callable Go.Proofs.Try.prog F.cmp_isNaN_string = true := by kernel_rfl
noncomputable def F.slices_insertionSortCmpFunc_api_Dot.r0 : Plan :=
  .rd 0 none (.mv (.tmp 1)) (some 10) false <|
  .rd 1 none (.bin .add (.tmp 10) (.const (.int .i64 1))) (some 11) false <|
  .rd 2 none (.mv (.tmp 11)) (some 8) false <|
  .done
noncomputable def F.slices_insertionSortCmpFunc_api_Dot.r1 : Plan :=
  .rd 0 none (.mv (.tmp 8)) (some 12) false <|
  .rd 1 none (.mv (.tmp 2)) (some 13) false <|
  .rd 2 none (.bin .lss (.tmp 12) (.tmp 13)) (some 14) false <|
  .done
noncomputable def F.slices_insertionSortCmpFunc_api_Dot.r2 : Plan :=
  .rd 0 none (.mv (.tmp 8)) (some 17) false <|
  .rd 1 none (.mv (.tmp 17)) (some 9) false <|
  .done
noncomputable def F.slices_insertionSortCmpFunc_api_Dot.r3 : Plan :=
  .rd 0 none (.mv (.tmp 9)) (some 18) false <|
  .rd 1 none (.mv (.tmp 1)) (some 19) false <|
  .rd 2 none (.bin .gtr (.tmp 18) (.tmp 19)) (some 20) false <|
  .rd 3 none (.mv (.tmp 20)) (some 21) false <|
  .rd 4 (some (21, true)) (.mv (.tmp 3)) (some 22) false <|
  .rd 5 (some (21, true)) (.mv (.tmp 0)) (some 23) false <|
  .rd 6 (some (21, true)) (.mv (.tmp 9)) (some 24) false <|
  .rd 7 (some (21, true)) (.idxA 2 (.tmp 23) (.tmp 24)) (some 25) false <|
  .rd 8 (some (21, true)) (.ldn 2 (.tmp 25)) (some 26) false <|
  .rd 9 (some (21, true)) (.mv (.tmp 0)) (some 27) false <|
  .rd 10 (some (21, true)) (.mv (.tmp 9)) (some 28) false <|
  .rd 11 (some (21, true)) (.bin .sub (.tmp 28) (.const (.int .i64 1))) (some 29) false <|
  .rd 12 (some (21, true)) (.idxA 2 (.tmp 27) (.tmp 29)) (some 30) false <|
  .rd 13 (some (21, true)) (.ldn 2 (.tmp 30)) (some 31) false <|
  .ef 14 (some (21, true)) (.callv (.tmp 22) [(.tmp 26), (.tmp 31)]) (some 32) [] (
  .rd 15 (some (21, true)) (.bin .lss (.tmp 32) (.const (.int .i64 0))) (some 33) false <|
  .rd 16 none (.pick (.tmp 21) (.tmp 33) (.const (.bool false))) (some 34) false <|
  .done) .none
noncomputable def F.slices_insertionSortCmpFunc_api_Dot.r4 : Plan :=
  .rd 0 none (.mv (.tmp 0)) (some 37) false <|
  .rd 1 none (.mv (.tmp 9)) (some 38) false <|
  .rd 2 none (.mv (.tmp 0)) (some 39) false <|
  .rd 3 none (.mv (.tmp 9)) (some 40) false <|
  .rd 4 none (.bin .sub (.tmp 40) (.const (.int .i64 1))) (some 41) false <|
  .rd 5 none (.mv (.tmp 0)) (some 42) false <|
  .rd 6 none (.mv (.tmp 9)) (some 43) false <|
  .rd 7 none (.bin .sub (.tmp 43) (.const (.int .i64 1))) (some 44) false <|
  .rd 8 none (.idxA 2 (.tmp 42) (.tmp 44)) (some 45) false <|
  .rd 9 none (.ldn 2 (.tmp 45)) (some 46) false <|
  .rd 10 none (.mv (.tmp 0)) (some 47) false <|
  .rd 11 none (.mv (.tmp 9)) (some 48) false <|
  .rd 12 none (.idxA 2 (.tmp 47) (.tmp 48)) (some 49) false <|
  .rd 13 none (.ldn 2 (.tmp 49)) (some 50) false <|
  .rd 14 none (.idxA 2 (.tmp 37) (.tmp 38)) (some 51) false <|
  .ef 15 none (.st 2 (.tmp 51) (.tmp 46)) none [2, 3, 4] (
  .rd 16 none (.idxA 2 (.tmp 39) (.tmp 41)) (some 52) false <|
  .ef 17 none (.st 2 (.tmp 52) (.tmp 50)) none [] (
  .done) .none) .none
noncomputable def F.slices_insertionSortCmpFunc_api_Dot.r5 : Plan :=
  .rd 0 none (.mv (.tmp 9)) (some 35) false <|
  .rd 1 none (.bin .sub (.tmp 35) (.const (.int .i64 1))) (some 36) false <|
  .rd 2 none (.mv (.tmp 36)) (some 9) false <|
  .done
noncomputable def F.slices_insertionSortCmpFunc_api_Dot.l0 : IC :=
    (.seq (.seq (.reg F.slices_insertionSortCmpFunc_api_Dot.r3)
    (.cond (.tmp 34) .skip (.exit 2)))
    (.seq (.block 3 (.reg F.slices_insertionSortCmpFunc_api_Dot.r4))
    (.reg F.slices_insertionSortCmpFunc_api_Dot.r5)))
noncomputable def F.slices_insertionSortCmpFunc_api_Dot.r6 : Plan :=
  .rd 0 none (.mv (.tmp 8)) (some 15) false <|
  .rd 1 none (.bin .add (.tmp 15) (.const (.int .i64 1))) (some 16) false <|
  .rd 2 none (.mv (.tmp 16)) (some 8) false <|
  .done
noncomputable def F.slices_insertionSortCmpFunc_api_Dot.l1 : IC :=
    (.seq (.seq (.reg F.slices_insertionSortCmpFunc_api_Dot.r1)
    (.cond (.tmp 14) .skip (.exit 0)))
    (.seq (.block 1 (.seq (.reg F.slices_insertionSortCmpFunc_api_Dot.r2)
    (.block 2 (.loop F.slices_insertionSortCmpFunc_api_Dot.l0))))
    (.reg F.slices_insertionSortCmpFunc_api_Dot.r6)))
noncomputable def F.slices_insertionSortCmpFunc_api_Dot.ic : IC :=
    (.seq (.reg F.slices_insertionSortCmpFunc_api_Dot.r0)
    (.block 0 (.loop F.slices_insertionSortCmpFunc_api_Dot.l1)))
noncomputable def F.slices_insertionSortCmpFunc_api_Dot.rs : List RO := []
theorem F.slices_insertionSortCmpFunc_api_Dot.ok : cFunc Go.Proofs.Try.prog F.slices_insertionSortCmpFunc_api_Dot = some (53, F.slices_insertionSortCmpFunc_api_Dot.ic, F.slices_insertionSortCmpFunc_api_Dot.rs) := by kernel_rfl
theorem F.slices_insertionSortCmpFunc_api_Dot.cl : callable Go.Proofs.Try.prog F.slices_insertionSortCmpFunc_api_Dot = true := by kernel_rfl
noncomputable def F.slices_symMergeCmpFunc_api_Dot.r0 : Plan :=
  .rd 0 none (.mv (.tmp 2)) (some 25) false <|
  .rd 1 none (.mv (.tmp 1)) (some 26) false <|
  .rd 2 none (.bin .sub (.tmp 25) (.tmp 26)) (some 27) false <|
  .rd 3 none (.bin .eql (.tmp 27) (.const (.int .i64 1))) (some 28) false <|
  .done
noncomputable def F.slices_symMergeCmpFunc_api_Dot.r1 : Plan :=
  .rd 0 none (.mv (.tmp 2)) (some 29) false <|
  .rd 1 none (.mv (.tmp 29)) (some 10) false <|
  .done
noncomputable def F.slices_symMergeCmpFunc_api_Dot.r2 : Plan :=
  .rd 0 none (.mv (.tmp 3)) (some 30) false <|
  .rd 1 none (.mv (.tmp 30)) (some 11) false <|
  .done
noncomputable def F.slices_symMergeCmpFunc_api_Dot.r3 : Plan :=
  .rd 0 none (.mv (.tmp 10)) (some 31) false <|
  .rd 1 none (.mv (.tmp 11)) (some 32) false <|
  .rd 2 none (.bin .lss (.tmp 31) (.tmp 32)) (some 33) false <|
  .done
noncomputable def F.slices_symMergeCmpFunc_api_Dot.r4 : Plan :=
  .rd 0 none (.mv (.tmp 10)) (some 34) false <|
  .rd 1 none (.mv (.tmp 11)) (some 35) false <|
  .rd 2 none (.bin .add (.tmp 34) (.tmp 35)) (some 36) false <|
  .rd 3 none (.convI .u64 (.tmp 36)) (some 37) false <|
  .rd 4 none (.bin .shr (.tmp 37) (.const (.int .u64 1))) (some 38) false <|
  .rd 5 none (.convI .i64 (.tmp 38)) (some 39) false <|
  .rd 6 none (.mv (.tmp 39)) (some 12) false <|
  .done
noncomputable def F.slices_symMergeCmpFunc_api_Dot.r5 : Plan :=
  .rd 0 none (.mv (.tmp 4)) (some 40) false <|
  .rd 1 none (.mv (.tmp 0)) (some 41) false <|
  .rd 2 none (.mv (.tmp 12)) (some 42) false <|
  .rd 3 none (.idxA 2 (.tmp 41) (.tmp 42)) (some 43) false <|
  .rd 4 none (.ldn 2 (.tmp 43)) (some 44) false <|
  .rd 5 none (.mv (.tmp 0)) (some 45) false <|
  .rd 6 none (.mv (.tmp 1)) (some 46) false <|
  .rd 7 none (.idxA 2 (.tmp 45) (.tmp 46)) (some 47) false <|
  .rd 8 none (.ldn 2 (.tmp 47)) (some 48) false <|
  .ef 9 none (.callv (.tmp 40) [(.tmp 44), (.tmp 48)]) (some 49) [] (
  .rd 10 none (.bin .lss (.tmp 49) (.const (.int .i64 0))) (some 50) false <|
  .done) .none
noncomputable def F.slices_symMergeCmpFunc_api_Dot.r6 : Plan :=
  .rd 0 none (.mv (.tmp 12)) (some 51) false <|
  .rd 1 none (.bin .add (.tmp 51) (.const (.int .i64 1))) (some 52) false <|
  .rd 2 none (.mv (.tmp 52)) (some 10) false <|
  .done
noncomputable def F.slices_symMergeCmpFunc_api_Dot.r7 : Plan :=
  .rd 0 none (.mv (.tmp 12)) (some 53) false <|
  .rd 1 none (.mv (.tmp 53)) (some 11) false <|
  .done
noncomputable def F.slices_symMergeCmpFunc_api_Dot.l0 : IC :=
    (.seq (.seq (.reg F.slices_symMergeCmpFunc_api_Dot.r3)
    (.cond (.tmp 33) .skip (.exit 0)))
    (.block 1 (.seq (.reg F.slices_symMergeCmpFunc_api_Dot.r4)
    (.seq (.reg F.slices_symMergeCmpFunc_api_Dot.r5)
    (.cond (.tmp 50) (.reg F.slices_symMergeCmpFunc_api_Dot.r6) (.reg F.slices_symMergeCmpFunc_api_Dot.r7))))))
noncomputable def F.slices_symMergeCmpFunc_api_Dot.r8 : Plan :=
  .rd 0 none (.mv (.tmp 1)) (some 54) false <|
  .rd 1 none (.mv (.tmp 54)) (some 13) false <|
  .done
noncomputable def F.slices_symMergeCmpFunc_api_Dot.r9 : Plan :=
  .rd 0 none (.mv (.tmp 13)) (some 55) false <|
  .rd 1 none (.mv (.tmp 10)) (some 56) false <|
  .rd 2 none (.bin .sub (.tmp 56) (.const (.int .i64 1))) (some 57) false <|
  .rd 3 none (.bin .lss (.tmp 55) (.tmp 57)) (some 58) false <|
  .done
noncomputable def F.slices_symMergeCmpFunc_api_Dot.r10 : Plan :=
  .rd 0 none (.mv (.tmp 0)) (some 61) false <|
  .rd 1 none (.mv (.tmp 13)) (some 62) false <|
  .rd 2 none (.mv (.tmp 0)) (some 63) false <|
  .rd 3 none (.mv (.tmp 13)) (some 64) false <|
  .rd 4 none (.bin .add (.tmp 64) (.const (.int .i64 1))) (some 65) false <|
  .rd 5 none (.mv (.tmp 0)) (some 66) false <|
  .rd 6 none (.mv (.tmp 13)) (some 67) false <|
  .rd 7 none (.bin .add (.tmp 67) (.const (.int .i64 1))) (some 68) false <|
  .rd 8 none (.idxA 2 (.tmp 66) (.tmp 68)) (some 69) false <|
  .rd 9 none (.ldn 2 (.tmp 69)) (some 70) false <|
  .rd 10 none (.mv (.tmp 0)) (some 71) false <|
  .rd 11 none (.mv (.tmp 13)) (some 72) false <|
  .rd 12 none (.idxA 2 (.tmp 71) (.tmp 72)) (some 73) false <|
  .rd 13 none (.ldn 2 (.tmp 73)) (some 74) false <|
  .rd 14 none (.idxA 2 (.tmp 61) (.tmp 62)) (some 75) false <|
  .ef 15 none (.st 2 (.tmp 75) (.tmp 70)) none [2, 3, 4] (
  .rd 16 none (.idxA 2 (.tmp 63) (.tmp 65)) (some 76) false <|
  .ef 17 none (.st 2 (.tmp 76) (.tmp 74)) none [] (
  .done) .none) .none
noncomputable def F.slices_symMergeCmpFunc_api_Dot.r11 : Plan :=
  .rd 0 none (.mv (.tmp 13)) (some 59) false <|
  .rd 1 none (.bin .add (.tmp 59) (.const (.int .i64 1))) (some 60) false <|
  .rd 2 none (.mv (.tmp 60)) (some 13) false <|
  .done
noncomputable def F.slices_symMergeCmpFunc_api_Dot.l1 : IC :=
    (.seq (.seq (.reg F.slices_symMergeCmpFunc_api_Dot.r9)
    (.cond (.tmp 58) .skip (.exit 2)))
    (.seq (.block 3 (.reg F.slices_symMergeCmpFunc_api_Dot.r10))
    (.reg F.slices_symMergeCmpFunc_api_Dot.r11)))
noncomputable def F.slices_symMergeCmpFunc_api_Dot.r12 : Plan :=
  .rd 0 none (.mv (.tmp 3)) (some 77) false <|
  .rd 1 none (.mv (.tmp 2)) (some 78) false <|
  .rd 2 none (.bin .sub (.tmp 77) (.tmp 78)) (some 79) false <|
  .rd 3 none (.bin .eql (.tmp 79) (.const (.int .i64 1))) (some 80) false <|
  .done
noncomputable def F.slices_symMergeCmpFunc_api_Dot.r13 : Plan :=
  .rd 0 none (.mv (.tmp 1)) (some 81) false <|
  .rd 1 none (.mv (.tmp 81)) (some 14) false <|
  .done
noncomputable def F.slices_symMergeCmpFunc_api_Dot.r14 : Plan :=
  .rd 0 none (.mv (.tmp 2)) (some 82) false <|
  .rd 1 none (.mv (.tmp 82)) (some 15) false <|
  .done
noncomputable def F.slices_symMergeCmpFunc_api_Dot.r15 : Plan :=
  .rd 0 none (.mv (.tmp 14)) (some 83) false <|
  .rd 1 none (.mv (.tmp 15)) (some 84) false <|
  .rd 2 none (.bin .lss (.tmp 83) (.tmp 84)) (some 85) false <|
  .done
noncomputable def F.slices_symMergeCmpFunc_api_Dot.r16 : Plan :=
  .rd 0 none (.mv (.tmp 14)) (some 86) false <|
  .rd 1 none (.mv (.tmp 15)) (some 87) false <|
  .rd 2 none (.bin .add (.tmp 86) (.tmp 87)) (some 88) false <|
  .rd 3 none (.convI .u64 (.tmp 88)) (some 89) false <|
  .rd 4 none (.bin .shr (.tmp 89) (.const (.int .u64 1))) (some 90) false <|
  .rd 5 none (.convI .i64 (.tmp 90)) (some 91) false <|
  .rd 6 none (.mv (.tmp 91)) (some 16) false <|
  .done
noncomputable def F.slices_symMergeCmpFunc_api_Dot.r17 : Plan :=
  .rd 0 none (.mv (.tmp 4)) (some 92) false <|
  .rd 1 none (.mv (.tmp 0)) (some 93) false <|
  .rd 2 none (.mv (.tmp 2)) (some 94) false <|
  .rd 3 none (.idxA 2 (.tmp 93) (.tmp 94)) (some 95) false <|
  .rd 4 none (.ldn 2 (.tmp 95)) (some 96) false <|
  .rd 5 none (.mv (.tmp 0)) (some 97) false <|
  .rd 6 none (.mv (.tmp 16)) (some 98) false <|
  .rd 7 none (.idxA 2 (.tmp 97) (.tmp 98)) (some 99) false <|
  .rd 8 none (.ldn 2 (.tmp 99)) (some 100) false <|
  .ef 9 none (.callv (.tmp 92) [(.tmp 96), (.tmp 100)]) (some 101) [] (
  .rd 10 none (.bin .lss (.tmp 101) (.const (.int .i64 0))) (some 102) false <|
  .rd 11 none (.un .not (.tmp 102)) (some 103) false <|
  .done) .none
noncomputable def F.slices_symMergeCmpFunc_api_Dot.r18 : Plan :=
  .rd 0 none (.mv (.tmp 16)) (some 104) false <|
  .rd 1 none (.bin .add (.tmp 104) (.const (.int .i64 1))) (some 105) false <|
  .rd 2 none (.mv (.tmp 105)) (some 14) false <|
  .done
noncomputable def F.slices_symMergeCmpFunc_api_Dot.r19 : Plan :=
  .rd 0 none (.mv (.tmp 16)) (some 106) false <|
  .rd 1 none (.mv (.tmp 106)) (some 15) false <|
  .done
noncomputable def F.slices_symMergeCmpFunc_api_Dot.l2 : IC :=
    (.seq (.seq (.reg F.slices_symMergeCmpFunc_api_Dot.r15)
    (.cond (.tmp 85) .skip (.exit 4)))
    (.block 5 (.seq (.reg F.slices_symMergeCmpFunc_api_Dot.r16)
    (.seq (.reg F.slices_symMergeCmpFunc_api_Dot.r17)
    (.cond (.tmp 103) (.reg F.slices_symMergeCmpFunc_api_Dot.r18) (.reg F.slices_symMergeCmpFunc_api_Dot.r19))))))
noncomputable def F.slices_symMergeCmpFunc_api_Dot.r20 : Plan :=
  .rd 0 none (.mv (.tmp 2)) (some 107) false <|
  .rd 1 none (.mv (.tmp 107)) (some 17) false <|
  .done
noncomputable def F.slices_symMergeCmpFunc_api_Dot.r21 : Plan :=
  .rd 0 none (.mv (.tmp 17)) (some 108) false <|
  .rd 1 none (.mv (.tmp 14)) (some 109) false <|
  .rd 2 none (.bin .gtr (.tmp 108) (.tmp 109)) (some 110) false <|
  .done
noncomputable def F.slices_symMergeCmpFunc_api_Dot.r22 : Plan :=
  .rd 0 none (.mv (.tmp 0)) (some 113) false <|
  .rd 1 none (.mv (.tmp 17)) (some 114) false <|
  .rd 2 none (.mv (.tmp 0)) (some 115) false <|
  .rd 3 none (.mv (.tmp 17)) (some 116) false <|
  .rd 4 none (.bin .sub (.tmp 116) (.const (.int .i64 1))) (some 117) false <|
  .rd 5 none (.mv (.tmp 0)) (some 118) false <|
  .rd 6 none (.mv (.tmp 17)) (some 119) false <|
  .rd 7 none (.bin .sub (.tmp 119) (.const (.int .i64 1))) (some 120) false <|
  .rd 8 none (.idxA 2 (.tmp 118) (.tmp 120)) (some 121) false <|
  .rd 9 none (.ldn 2 (.tmp 121)) (some 122) false <|
  .rd 10 none (.mv (.tmp 0)) (some 123) false <|
  .rd 11 none (.mv (.tmp 17)) (some 124) false <|
  .rd 12 none (.idxA 2 (.tmp 123) (.tmp 124)) (some 125) false <|
  .rd 13 none (.ldn 2 (.tmp 125)) (some 126) false <|
  .rd 14 none (.idxA 2 (.tmp 113) (.tmp 114)) (some 127) false <|
  .ef 15 none (.st 2 (.tmp 127) (.tmp 122)) none [2, 3, 4] (
  .rd 16 none (.idxA 2 (.tmp 115) (.tmp 117)) (some 128) false <|
  .ef 17 none (.st 2 (.tmp 128) (.tmp 126)) none [] (
  .done) .none) .none
noncomputable def F.slices_symMergeCmpFunc_api_Dot.r23 : Plan :=
  .rd 0 none (.mv (.tmp 17)) (some 111) false <|
  .rd 1 none (.bin .sub (.tmp 111) (.const (.int .i64 1))) (some 112) false <|
  .rd 2 none (.mv (.tmp 112)) (some 17) false <|
  .done
noncomputable def F.slices_symMergeCmpFunc_api_Dot.l3 : IC :=
    (.seq (.seq (.reg F.slices_symMergeCmpFunc_api_Dot.r21)
    (.cond (.tmp 110) .skip (.exit 6)))
    (.seq (.block 7 (.reg F.slices_symMergeCmpFunc_api_Dot.r22))
    (.reg F.slices_symMergeCmpFunc_api_Dot.r23)))
noncomputable def F.slices_symMergeCmpFunc_api_Dot.r24 : Plan :=
  .rd 0 none (.mv (.tmp 1)) (some 129) false <|
  .rd 1 none (.mv (.tmp 3)) (some 130) false <|
  .rd 2 none (.bin .add (.tmp 129) (.tmp 130)) (some 131) false <|
  .rd 3 none (.convI .u64 (.tmp 131)) (some 132) false <|
  .rd 4 none (.bin .shr (.tmp 132) (.const (.int .u64 1))) (some 133) false <|
  .rd 5 none (.convI .i64 (.tmp 133)) (some 134) false <|
  .rd 6 none (.mv (.tmp 134)) (some 18) false <|
  .done
noncomputable def F.slices_symMergeCmpFunc_api_Dot.r25 : Plan :=
  .rd 0 none (.mv (.tmp 18)) (some 135) false <|
  .rd 1 none (.mv (.tmp 2)) (some 136) false <|
  .rd 2 none (.bin .add (.tmp 135) (.tmp 136)) (some 137) false <|
  .rd 3 none (.mv (.tmp 137)) (some 19) false <|
  .done
noncomputable def F.slices_symMergeCmpFunc_api_Dot.r26 : Plan :=
  .rd 0 none (.mv (.const (.int .i64 0))) (some 20) false <|
  .rd 1 none (.mv (.const (.int .i64 0))) (some 21) false <|
  .done
noncomputable def F.slices_symMergeCmpFunc_api_Dot.r27 : Plan :=
  .rd 0 none (.mv (.tmp 2)) (some 138) false <|
  .rd 1 none (.mv (.tmp 18)) (some 139) false <|
  .rd 2 none (.bin .gtr (.tmp 138) (.tmp 139)) (some 140) false <|
  .done
noncomputable def F.slices_symMergeCmpFunc_api_Dot.r28 : Plan :=
  .rd 0 none (.mv (.tmp 19)) (some 141) false <|
  .rd 1 none (.mv (.tmp 3)) (some 142) false <|
  .rd 2 none (.bin .sub (.tmp 141) (.tmp 142)) (some 143) false <|
  .rd 3 none (.mv (.tmp 143)) (some 20) false <|
  .done
noncomputable def F.slices_symMergeCmpFunc_api_Dot.r29 : Plan :=
  .rd 0 none (.mv (.tmp 18)) (some 144) false <|
  .rd 1 none (.mv (.tmp 144)) (some 21) false <|
  .done
noncomputable def F.slices_symMergeCmpFunc_api_Dot.r30 : Plan :=
  .rd 0 none (.mv (.tmp 1)) (some 145) false <|
  .rd 1 none (.mv (.tmp 145)) (some 20) false <|
  .done
noncomputable def F.slices_symMergeCmpFunc_api_Dot.r31 : Plan :=
  .rd 0 none (.mv (.tmp 2)) (some 146) false <|
  .rd 1 none (.mv (.tmp 146)) (some 21) false <|
  .done
noncomputable def F.slices_symMergeCmpFunc_api_Dot.r32 : Plan :=
  .rd 0 none (.mv (.tmp 19)) (some 147) false <|
  .rd 1 none (.bin .sub (.tmp 147) (.const (.int .i64 1))) (some 148) false <|
  .rd 2 none (.mv (.tmp 148)) (some 22) false <|
  .done
noncomputable def F.slices_symMergeCmpFunc_api_Dot.r33 : Plan :=
  .rd 0 none (.mv (.tmp 20)) (some 149) false <|
  .rd 1 none (.mv (.tmp 21)) (some 150) false <|
  .rd 2 none (.bin .lss (.tmp 149) (.tmp 150)) (some 151) false <|
  .done
noncomputable def F.slices_symMergeCmpFunc_api_Dot.r34 : Plan :=
  .rd 0 none (.mv (.tmp 20)) (some 152) false <|
  .rd 1 none (.mv (.tmp 21)) (some 153) false <|
  .rd 2 none (.bin .add (.tmp 152) (.tmp 153)) (some 154) false <|
  .rd 3 none (.convI .u64 (.tmp 154)) (some 155) false <|
  .rd 4 none (.bin .shr (.tmp 155) (.const (.int .u64 1))) (some 156) false <|
  .rd 5 none (.convI .i64 (.tmp 156)) (some 157) false <|
  .rd 6 none (.mv (.tmp 157)) (some 23) false <|
  .done
noncomputable def F.slices_symMergeCmpFunc_api_Dot.r35 : Plan :=
  .rd 0 none (.mv (.tmp 4)) (some 158) false <|
  .rd 1 none (.mv (.tmp 0)) (some 159) false <|
  .rd 2 none (.mv (.tmp 22)) (some 160) false <|
  .rd 3 none (.mv (.tmp 23)) (some 161) false <|
  .rd 4 none (.bin .sub (.tmp 160) (.tmp 161)) (some 162) false <|
  .rd 5 none (.idxA 2 (.tmp 159) (.tmp 162)) (some 163) false <|
  .rd 6 none (.ldn 2 (.tmp 163)) (some 164) false <|
  .rd 7 none (.mv (.tmp 0)) (some 165) false <|
  .rd 8 none (.mv (.tmp 23)) (some 166) false <|
  .rd 9 none (.idxA 2 (.tmp 165) (.tmp 166)) (some 167) false <|
  .rd 10 none (.ldn 2 (.tmp 167)) (some 168) false <|
  .ef 11 none (.callv (.tmp 158) [(.tmp 164), (.tmp 168)]) (some 169) [] (
  .rd 12 none (.bin .lss (.tmp 169) (.const (.int .i64 0))) (some 170) false <|
  .rd 13 none (.un .not (.tmp 170)) (some 171) false <|
  .done) .none
noncomputable def F.slices_symMergeCmpFunc_api_Dot.r36 : Plan :=
  .rd 0 none (.mv (.tmp 23)) (some 172) false <|
  .rd 1 none (.bin .add (.tmp 172) (.const (.int .i64 1))) (some 173) false <|
  .rd 2 none (.mv (.tmp 173)) (some 20) false <|
  .done
noncomputable def F.slices_symMergeCmpFunc_api_Dot.r37 : Plan :=
  .rd 0 none (.mv (.tmp 23)) (some 174) false <|
  .rd 1 none (.mv (.tmp 174)) (some 21) false <|
  .done
noncomputable def F.slices_symMergeCmpFunc_api_Dot.l4 : IC :=
    (.seq (.seq (.reg F.slices_symMergeCmpFunc_api_Dot.r33)
    (.cond (.tmp 151) .skip (.exit 8)))
    (.block 9 (.seq (.reg F.slices_symMergeCmpFunc_api_Dot.r34)
    (.seq (.reg F.slices_symMergeCmpFunc_api_Dot.r35)
    (.cond (.tmp 171) (.reg F.slices_symMergeCmpFunc_api_Dot.r36) (.reg F.slices_symMergeCmpFunc_api_Dot.r37))))))
noncomputable def F.slices_symMergeCmpFunc_api_Dot.r38 : Plan :=
  .rd 0 none (.mv (.tmp 19)) (some 175) false <|
  .rd 1 none (.mv (.tmp 20)) (some 176) false <|
  .rd 2 none (.bin .sub (.tmp 175) (.tmp 176)) (some 177) false <|
  .rd 3 none (.mv (.tmp 177)) (some 24) false <|
  .done
noncomputable def F.slices_symMergeCmpFunc_api_Dot.r39 : Plan :=
  .rd 0 none (.mv (.tmp 20)) (some 178) false <|
  .rd 1 none (.mv (.tmp 2)) (some 179) false <|
  .rd 2 none (.bin .lss (.tmp 178) (.tmp 179)) (some 180) false <|
  .rd 3 none (.mv (.tmp 180)) (some 181) false <|
  .rd 4 (some (181, true)) (.mv (.tmp 2)) (some 182) false <|
  .rd 5 (some (181, true)) (.mv (.tmp 24)) (some 183) false <|
  .rd 6 (some (181, true)) (.bin .lss (.tmp 182) (.tmp 183)) (some 184) false <|
  .rd 7 none (.pick (.tmp 181) (.tmp 184) (.const (.bool false))) (some 185) false <|
  .done
noncomputable def F.slices_symMergeCmpFunc_api_Dot.r40 : Plan :=
  .rd 0 none (.mv (.tmp 0)) (some 186) false <|
  .rd 1 none (.mv (.tmp 20)) (some 187) false <|
  .rd 2 none (.mv (.tmp 2)) (some 188) false <|
  .rd 3 none (.mv (.tmp 24)) (some 189) false <|
  .rd 4 none (.mv (.tmp 4)) (some 190) false <|
  .ef 5 none (.call F.slices_rotateCmpFunc_api_Dot [(.tmp 186), (.tmp 187), (.tmp 188), (.tmp 189), (.tmp 190)]) (some 191) [] (
  .done) .none
noncomputable def F.slices_symMergeCmpFunc_api_Dot.r41 : Plan :=
  .rd 0 none (.mv (.tmp 1)) (some 192) false <|
  .rd 1 none (.mv (.tmp 20)) (some 193) false <|
  .rd 2 none (.bin .lss (.tmp 192) (.tmp 193)) (some 194) false <|
  .rd 3 none (.mv (.tmp 194)) (some 195) false <|
  .rd 4 (some (195, true)) (.mv (.tmp 20)) (some 196) false <|
  .rd 5 (some (195, true)) (.mv (.tmp 18)) (some 197) false <|
  .rd 6 (some (195, true)) (.bin .lss (.tmp 196) (.tmp 197)) (some 198) false <|
  .rd 7 none (.pick (.tmp 195) (.tmp 198) (.const (.bool false))) (some 199) false <|
  .done
noncomputable def F.slices_symMergeCmpFunc_api_Dot.r42 : Plan :=
  .rd 0 none (.mv (.tmp 0)) (some 200) false <|
  .rd 1 none (.mv (.tmp 1)) (some 201) false <|
  .rd 2 none (.mv (.tmp 20)) (some 202) false <|
  .rd 3 none (.mv (.tmp 18)) (some 203) false <|
  .rd 4 none (.mv (.tmp 4)) (some 204) false <|
  .ef 5 none (.call F.slices_symMergeCmpFunc_api_Dot [(.tmp 200), (.tmp 201), (.tmp 202), (.tmp 203), (.tmp 204)]) (some 205) [] (
  .done) .none
noncomputable def F.slices_symMergeCmpFunc_api_Dot.r43 : Plan :=
  .rd 0 none (.mv (.tmp 18)) (some 206) false <|
  .rd 1 none (.mv (.tmp 24)) (some 207) false <|
  .rd 2 none (.bin .lss (.tmp 206) (.tmp 207)) (some 208) false <|
  .rd 3 none (.mv (.tmp 208)) (some 209) false <|
  .rd 4 (some (209, true)) (.mv (.tmp 24)) (some 210) false <|
  .rd 5 (some (209, true)) (.mv (.tmp 3)) (some 211) false <|
  .rd 6 (some (209, true)) (.bin .lss (.tmp 210) (.tmp 211)) (some 212) false <|
  .rd 7 none (.pick (.tmp 209) (.tmp 212) (.const (.bool false))) (some 213) false <|
  .done
noncomputable def F.slices_symMergeCmpFunc_api_Dot.r44 : Plan :=
  .rd 0 none (.mv (.tmp 0)) (some 214) false <|
  .rd 1 none (.mv (.tmp 18)) (some 215) false <|
  .rd 2 none (.mv (.tmp 24)) (some 216) false <|
  .rd 3 none (.mv (.tmp 3)) (some 217) false <|
  .rd 4 none (.mv (.tmp 4)) (some 218) false <|
  .ef 5 none (.call F.slices_symMergeCmpFunc_api_Dot [(.tmp 214), (.tmp 215), (.tmp 216), (.tmp 217), (.tmp 218)]) (some 219) [] (
  .done) .none
noncomputable def F.slices_symMergeCmpFunc_api_Dot.ic : IC :=
    (.seq (.seq (.reg F.slices_symMergeCmpFunc_api_Dot.r0)
    (.cond (.tmp 28) (.seq (.reg F.slices_symMergeCmpFunc_api_Dot.r1)
    (.seq (.reg F.slices_symMergeCmpFunc_api_Dot.r2)
    (.seq (.block 0 (.loop F.slices_symMergeCmpFunc_api_Dot.l0))
    (.seq (.seq (.reg F.slices_symMergeCmpFunc_api_Dot.r8)
    (.block 2 (.loop F.slices_symMergeCmpFunc_api_Dot.l1)))
    .ret)))) .skip))
    (.seq (.seq (.reg F.slices_symMergeCmpFunc_api_Dot.r12)
    (.cond (.tmp 80) (.seq (.reg F.slices_symMergeCmpFunc_api_Dot.r13)
    (.seq (.reg F.slices_symMergeCmpFunc_api_Dot.r14)
    (.seq (.block 4 (.loop F.slices_symMergeCmpFunc_api_Dot.l2))
    (.seq (.seq (.reg F.slices_symMergeCmpFunc_api_Dot.r20)
    (.block 6 (.loop F.slices_symMergeCmpFunc_api_Dot.l3)))
    .ret)))) .skip))
    (.seq (.reg F.slices_symMergeCmpFunc_api_Dot.r24)
    (.seq (.reg F.slices_symMergeCmpFunc_api_Dot.r25)
    (.seq (.reg F.slices_symMergeCmpFunc_api_Dot.r26)
    (.seq (.seq (.reg F.slices_symMergeCmpFunc_api_Dot.r27)
    (.cond (.tmp 140) (.seq (.reg F.slices_symMergeCmpFunc_api_Dot.r28)
    (.reg F.slices_symMergeCmpFunc_api_Dot.r29)) (.seq (.reg F.slices_symMergeCmpFunc_api_Dot.r30)
    (.reg F.slices_symMergeCmpFunc_api_Dot.r31))))
    (.seq (.reg F.slices_symMergeCmpFunc_api_Dot.r32)
    (.seq (.block 8 (.loop F.slices_symMergeCmpFunc_api_Dot.l4))
    (.seq (.reg F.slices_symMergeCmpFunc_api_Dot.r38)
    (.seq (.seq (.reg F.slices_symMergeCmpFunc_api_Dot.r39)
    (.cond (.tmp 185) (.reg F.slices_symMergeCmpFunc_api_Dot.r40) .skip))
    (.seq (.seq (.reg F.slices_symMergeCmpFunc_api_Dot.r41)
    (.cond (.tmp 199) (.reg F.slices_symMergeCmpFunc_api_Dot.r42) .skip))
    (.seq (.reg F.slices_symMergeCmpFunc_api_Dot.r43)
    (.cond (.tmp 213) (.reg F.slices_symMergeCmpFunc_api_Dot.r44) .skip)))))))))))))
noncomputable def F.slices_symMergeCmpFunc_api_Dot.rs : List RO := []
theorem F.slices_symMergeCmpFunc_api_Dot.ok : cFunc Go.Proofs.Try.prog F.slices_symMergeCmpFunc_api_Dot = some (220, F.slices_symMergeCmpFunc_api_Dot.ic, F.slices_symMergeCmpFunc_api_Dot.rs) := by kernel_rfl
theorem F.slices_symMergeCmpFunc_api_Dot.cl : callable Go.Proofs.Try.prog F.slices_symMergeCmpFunc_api_Dot = true := by kernel_rfl
noncomputable def F.slices_rotateCmpFunc_api_Dot.r0 : Plan :=
  .rd 0 none (.mv (.tmp 2)) (some 12) false <|
  .rd 1 none (.mv (.tmp 1)) (some 13) false <|
  .rd 2 none (.bin .sub (.tmp 12) (.tmp 13)) (some 14) false <|
  .rd 3 none (.mv (.tmp 14)) (some 10) false <|
  .done
noncomputable def F.slices_rotateCmpFunc_api_Dot.r1 : Plan :=
  .rd 0 none (.mv (.tmp 3)) (some 15) false <|
  .rd 1 none (.mv (.tmp 2)) (some 16) false <|
  .rd 2 none (.bin .sub (.tmp 15) (.tmp 16)) (some 17) false <|
  .rd 3 none (.mv (.tmp 17)) (some 11) false <|
  .done
noncomputable def F.slices_rotateCmpFunc_api_Dot.r2 : Plan :=
  .rd 0 none (.mv (.tmp 10)) (some 18) false <|
  .rd 1 none (.mv (.tmp 11)) (some 19) false <|
  .rd 2 none (.bin .neq (.tmp 18) (.tmp 19)) (some 20) false <|
  .done
noncomputable def F.slices_rotateCmpFunc_api_Dot.r3 : Plan :=
  .rd 0 none (.mv (.tmp 10)) (some 21) false <|
  .rd 1 none (.mv (.tmp 11)) (some 22) false <|
  .rd 2 none (.bin .gtr (.tmp 21) (.tmp 22)) (some 23) false <|
  .done
noncomputable def F.slices_rotateCmpFunc_api_Dot.r4 : Plan :=
  .rd 0 none (.mv (.tmp 0)) (some 24) false <|
  .rd 1 none (.mv (.tmp 2)) (some 25) false <|
  .rd 2 none (.mv (.tmp 10)) (some 26) false <|
  .rd 3 none (.bin .sub (.tmp 25) (.tmp 26)) (some 27) false <|
  .rd 4 none (.mv (.tmp 2)) (some 28) false <|
  .rd 5 none (.mv (.tmp 11)) (some 29) false <|
  .rd 6 none (.mv (.tmp 4)) (some 30) false <|
  .ef 7 none (.call F.slices_swapRangeCmpFunc_api_Dot [(.tmp 24), (.tmp 27), (.tmp 28), (.tmp 29), (.tmp 30)]) (some 31) [] (
  .done) .none
noncomputable def F.slices_rotateCmpFunc_api_Dot.r5 : Plan :=
  .rd 0 none (.mv (.tmp 10)) (some 32) false <|
  .rd 1 none (.mv (.tmp 11)) (some 33) false <|
  .rd 2 none (.bin .sub (.tmp 32) (.tmp 33)) (some 34) false <|
  .rd 3 none (.mv (.tmp 34)) (some 10) false <|
  .done
noncomputable def F.slices_rotateCmpFunc_api_Dot.r6 : Plan :=
  .rd 0 none (.mv (.tmp 0)) (some 35) false <|
  .rd 1 none (.mv (.tmp 2)) (some 36) false <|
  .rd 2 none (.mv (.tmp 10)) (some 37) false <|
  .rd 3 none (.bin .sub (.tmp 36) (.tmp 37)) (some 38) false <|
  .rd 4 none (.mv (.tmp 2)) (some 39) false <|
  .rd 5 none (.mv (.tmp 11)) (some 40) false <|
  .rd 6 none (.bin .add (.tmp 39) (.tmp 40)) (some 41) false <|
  .rd 7 none (.mv (.tmp 10)) (some 42) false <|
  .rd 8 none (.bin .sub (.tmp 41) (.tmp 42)) (some 43) false <|
  .rd 9 none (.mv (.tmp 10)) (some 44) false <|
  .rd 10 none (.mv (.tmp 4)) (some 45) false <|
  .ef 11 none (.call F.slices_swapRangeCmpFunc_api_Dot [(.tmp 35), (.tmp 38), (.tmp 43), (.tmp 44), (.tmp 45)]) (some 46) [] (
  .done) .none
noncomputable def F.slices_rotateCmpFunc_api_Dot.r7 : Plan :=
  .rd 0 none (.mv (.tmp 11)) (some 47) false <|
  .rd 1 none (.mv (.tmp 10)) (some 48) false <|
  .rd 2 none (.bin .sub (.tmp 47) (.tmp 48)) (some 49) false <|
  .rd 3 none (.mv (.tmp 49)) (some 11) false <|
  .done
noncomputable def F.slices_rotateCmpFunc_api_Dot.l0 : IC :=
    (.seq (.seq (.reg F.slices_rotateCmpFunc_api_Dot.r2)
    (.cond (.tmp 20) .skip (.exit 0)))
    (.block 1 (.seq (.reg F.slices_rotateCmpFunc_api_Dot.r3)
    (.cond (.tmp 23) (.seq (.reg F.slices_rotateCmpFunc_api_Dot.r4)
    (.reg F.slices_rotateCmpFunc_api_Dot.r5)) (.seq (.reg F.slices_rotateCmpFunc_api_Dot.r6)
    (.reg F.slices_rotateCmpFunc_api_Dot.r7))))))
noncomputable def F.slices_rotateCmpFunc_api_Dot.r8 : Plan :=
  .rd 0 none (.mv (.tmp 0)) (some 50) false <|
  .rd 1 none (.mv (.tmp 2)) (some 51) false <|
  .rd 2 none (.mv (.tmp 10)) (some 52) false <|
  .rd 3 none (.bin .sub (.tmp 51) (.tmp 52)) (some 53) false <|
  .rd 4 none (.mv (.tmp 2)) (some 54) false <|
  .rd 5 none (.mv (.tmp 10)) (some 55) false <|
  .rd 6 none (.mv (.tmp 4)) (some 56) false <|
  .ef 7 none (.call F.slices_swapRangeCmpFunc_api_Dot [(.tmp 50), (.tmp 53), (.tmp 54), (.tmp 55), (.tmp 56)]) (some 57) [] (
  .done) .none
noncomputable def F.slices_rotateCmpFunc_api_Dot.ic : IC :=
    (.seq (.reg F.slices_rotateCmpFunc_api_Dot.r0)
    (.seq (.reg F.slices_rotateCmpFunc_api_Dot.r1)
    (.seq (.block 0 (.loop F.slices_rotateCmpFunc_api_Dot.l0))
    (.reg F.slices_rotateCmpFunc_api_Dot.r8))))
noncomputable def F.slices_rotateCmpFunc_api_Dot.rs : List RO := []
theorem F.slices_rotateCmpFunc_api_Dot.ok : cFunc Go.Proofs.Try.prog F.slices_rotateCmpFunc_api_Dot = some (58, F.slices_rotateCmpFunc_api_Dot.ic, F.slices_rotateCmpFunc_api_Dot.rs) := by kernel_rfl
theorem F.slices_rotateCmpFunc_api_Dot.cl : callable Go.Proofs.Try.prog F.slices_rotateCmpFunc_api_Dot = true := by kernel_rfl
noncomputable def F.slices_swapRangeCmpFunc_api_Dot.r0 : Plan :=
  .rd 0 none (.mv (.const (.int .i64 0))) (some 10) false <|
  .done
noncomputable def F.slices_swapRangeCmpFunc_api_Dot.r1 : Plan :=
  .rd 0 none (.mv (.tmp 10)) (some 11) false <|
  .rd 1 none (.mv (.tmp 3)) (some 12) false <|
  .rd 2 none (.bin .lss (.tmp 11) (.tmp 12)) (some 13) false <|
  .done
noncomputable def F.slices_swapRangeCmpFunc_api_Dot.r2 : Plan :=
  .rd 0 none (.mv (.tmp 0)) (some 16) false <|
  .rd 1 none (.mv (.tmp 1)) (some 17) false <|
  .rd 2 none (.mv (.tmp 10)) (some 18) false <|
  .rd 3 none (.bin .add (.tmp 17) (.tmp 18)) (some 19) false <|
  .rd 4 none (.mv (.tmp 0)) (some 20) false <|
  .rd 5 none (.mv (.tmp 2)) (some 21) false <|
  .rd 6 none (.mv (.tmp 10)) (some 22) false <|
  .rd 7 none (.bin .add (.tmp 21) (.tmp 22)) (some 23) false <|
  .rd 8 none (.mv (.tmp 0)) (some 24) false <|
  .rd 9 none (.mv (.tmp 2)) (some 25) false <|
  .rd 10 none (.mv (.tmp 10)) (some 26) false <|
  .rd 11 none (.bin .add (.tmp 25) (.tmp 26)) (some 27) false <|
  .rd 12 none (.idxA 2 (.tmp 24) (.tmp 27)) (some 28) false <|
  .rd 13 none (.ldn 2 (.tmp 28)) (some 29) false <|
  .rd 14 none (.mv (.tmp 0)) (some 30) false <|
  .rd 15 none (.mv (.tmp 1)) (some 31) false <|
  .rd 16 none (.mv (.tmp 10)) (some 32) false <|
  .rd 17 none (.bin .add (.tmp 31) (.tmp 32)) (some 33) false <|
  .rd 18 none (.idxA 2 (.tmp 30) (.tmp 33)) (some 34) false <|
  .rd 19 none (.ldn 2 (.tmp 34)) (some 35) false <|
  .rd 20 none (.idxA 2 (.tmp 16) (.tmp 19)) (some 36) false <|
  .ef 21 none (.st 2 (.tmp 36) (.tmp 29)) none [4, 5, 6, 7] (
  .rd 22 none (.idxA 2 (.tmp 20) (.tmp 23)) (some 37) false <|
  .ef 23 none (.st 2 (.tmp 37) (.tmp 35)) none [] (
  .done) .none) .none
noncomputable def F.slices_swapRangeCmpFunc_api_Dot.r3 : Plan :=
  .rd 0 none (.mv (.tmp 10)) (some 14) false <|
  .rd 1 none (.bin .add (.tmp 14) (.const (.int .i64 1))) (some 15) false <|
  .rd 2 none (.mv (.tmp 15)) (some 10) false <|
  .done
noncomputable def F.slices_swapRangeCmpFunc_api_Dot.l0 : IC :=
    (.seq (.seq (.reg F.slices_swapRangeCmpFunc_api_Dot.r1)
    (.cond (.tmp 13) .skip (.exit 0)))
    (.seq (.block 1 (.reg F.slices_swapRangeCmpFunc_api_Dot.r2))
    (.reg F.slices_swapRangeCmpFunc_api_Dot.r3)))
noncomputable def F.slices_swapRangeCmpFunc_api_Dot.ic : IC :=
    (.seq (.reg F.slices_swapRangeCmpFunc_api_Dot.r0)
    (.block 0 (.loop F.slices_swapRangeCmpFunc_api_Dot.l0)))
noncomputable def F.slices_swapRangeCmpFunc_api_Dot.rs : List RO := []
theorem F.slices_swapRangeCmpFunc_api_Dot.ok : cFunc Go.Proofs.Try.prog F.slices_swapRangeCmpFunc_api_Dot = some (38, F.slices_swapRangeCmpFunc_api_Dot.ic, F.slices_swapRangeCmpFunc_api_Dot.rs) := by kernel_rfl
theorem F.slices_swapRangeCmpFunc_api_Dot.cl : callable Go.Proofs.Try.prog F.slices_swapRangeCmpFunc_api_Dot = true := by kernel_rfl
attribute [go_sem] F.cmp_Compare_string.r0 F.cmp_Compare_string.r1 F.cmp_Compare_string.r2 F.cmp_Compare_string.r3 F.cmp_Compare_string.r4 F.cmp_Compare_string.r5 F.cmp_Compare_string.r6 F.cmp_Compare_string.r7 F.cmp_Compare_string.r8 F.cmp_Compare_string.r9 F.cmp_Compare_string.r10 F.cmp_Compare_string.r11 F.cmp_Compare_string.r12 F.cmp_Compare_string.r13 F.cmp_Compare_string.ic F.cmp_Compare_string.rs
attribute [go_sem] F.cmp_isNaN_string.r0 F.cmp_isNaN_string.r1 F.cmp_isNaN_string.ic F.cmp_isNaN_string.rs
attribute [go_sem] F.movetree_Tree_Kids.r0 F.movetree_Tree_Kids.r1 F.movetree_Tree_Kids.r2 F.movetree_Tree_Kids.r3 F.movetree_Tree_Kids.r4 F.movetree_Tree_Kids.r5 F.movetree_Tree_Kids.r6 F.movetree_Tree_Kids.r7 F.movetree_Tree_Kids.r8 F.movetree_Tree_Kids.r9 F.movetree_Tree_Kids.ic F.movetree_Tree_Kids.rs
attribute [go_sem] F.movetree_Tree_Kids_c1.r0 F.movetree_Tree_Kids_c1.r1 F.movetree_Tree_Kids_c1.ic F.movetree_Tree_Kids_c1.rs
attribute [go_sem] F.osierlaw10_TreeOrders.r0 F.osierlaw10_TreeOrders.r1 F.osierlaw10_TreeOrders.r2 F.osierlaw10_TreeOrders.r3 F.osierlaw10_TreeOrders.r4 F.osierlaw10_TreeOrders.r5 F.osierlaw10_TreeOrders.r6 F.osierlaw10_TreeOrders.r7 F.osierlaw10_TreeOrders.r8 F.osierlaw10_TreeOrders.r9 F.osierlaw10_TreeOrders.r10 F.osierlaw10_TreeOrders.r11 F.osierlaw10_TreeOrders.r12 F.osierlaw10_TreeOrders.r13 F.osierlaw10_TreeOrders.r14 F.osierlaw10_TreeOrders.r15 F.osierlaw10_TreeOrders.r16 F.osierlaw10_TreeOrders.r17 F.osierlaw10_TreeOrders.r18 F.osierlaw10_TreeOrders.r19 F.osierlaw10_TreeOrders.r20 F.osierlaw10_TreeOrders.r21 F.osierlaw10_TreeOrders.r22 F.osierlaw10_TreeOrders.r23 F.osierlaw10_TreeOrders.r24 F.osierlaw10_TreeOrders.r25 F.osierlaw10_TreeOrders.r26 F.osierlaw10_TreeOrders.r27 F.osierlaw10_TreeOrders.r28 F.osierlaw10_TreeOrders.r29 F.osierlaw10_TreeOrders.r30 F.osierlaw10_TreeOrders.r31 F.osierlaw10_TreeOrders.r32 F.osierlaw10_TreeOrders.r33 F.osierlaw10_TreeOrders.r34 F.osierlaw10_TreeOrders.r35 F.osierlaw10_TreeOrders.r36 F.osierlaw10_TreeOrders.r37 F.osierlaw10_TreeOrders.r38 F.osierlaw10_TreeOrders.r39 F.osierlaw10_TreeOrders.r40 F.osierlaw10_TreeOrders.r41 F.osierlaw10_TreeOrders.r42 F.osierlaw10_TreeOrders.r43 F.osierlaw10_TreeOrders.r44 F.osierlaw10_TreeOrders.r45 F.osierlaw10_TreeOrders.r46 F.osierlaw10_TreeOrders.r47 F.osierlaw10_TreeOrders.ic F.osierlaw10_TreeOrders.rs
attribute [go_sem] F.osierlaw10_TreePaths.r0 F.osierlaw10_TreePaths.r1 F.osierlaw10_TreePaths.r2 F.osierlaw10_TreePaths.r3 F.osierlaw10_TreePaths.r4 F.osierlaw10_TreePaths.r5 F.osierlaw10_TreePaths.r6 F.osierlaw10_TreePaths.r7 F.osierlaw10_TreePaths.r8 F.osierlaw10_TreePaths.r9 F.osierlaw10_TreePaths.r10 F.osierlaw10_TreePaths.r11 F.osierlaw10_TreePaths.r12 F.osierlaw10_TreePaths.r13 F.osierlaw10_TreePaths.r14 F.osierlaw10_TreePaths.r15 F.osierlaw10_TreePaths.r16 F.osierlaw10_TreePaths.r17 F.osierlaw10_TreePaths.r18 F.osierlaw10_TreePaths.r19 F.osierlaw10_TreePaths.r20 F.osierlaw10_TreePaths.r21 F.osierlaw10_TreePaths.r22 F.osierlaw10_TreePaths.r23 F.osierlaw10_TreePaths.r24 F.osierlaw10_TreePaths.r25 F.osierlaw10_TreePaths.r26 F.osierlaw10_TreePaths.r27 F.osierlaw10_TreePaths.ic F.osierlaw10_TreePaths.rs
attribute [go_sem] F.osierlaw10_TreePlays.r0 F.osierlaw10_TreePlays.r1 F.osierlaw10_TreePlays.r2 F.osierlaw10_TreePlays.r3 F.osierlaw10_TreePlays.r4 F.osierlaw10_TreePlays.r5 F.osierlaw10_TreePlays.r6 F.osierlaw10_TreePlays.r7 F.osierlaw10_TreePlays.r8 F.osierlaw10_TreePlays.r9 F.osierlaw10_TreePlays.r10 F.osierlaw10_TreePlays.r11 F.osierlaw10_TreePlays.r12 F.osierlaw10_TreePlays.r13 F.osierlaw10_TreePlays.r14 F.osierlaw10_TreePlays.ic F.osierlaw10_TreePlays.rs
attribute [go_sem] F.osierlaw10_is.r0 F.osierlaw10_is.r1 F.osierlaw10_is.r2 F.osierlaw10_is.r3 F.osierlaw10_is.r4 F.osierlaw10_is.r5 F.osierlaw10_is.r6 F.osierlaw10_is.r7 F.osierlaw10_is.r8 F.osierlaw10_is.r9 F.osierlaw10_is.r10 F.osierlaw10_is.r11 F.osierlaw10_is.r12 F.osierlaw10_is.r13 F.osierlaw10_is.r14 F.osierlaw10_is.r15 F.osierlaw10_is.r16 F.osierlaw10_is.r17 F.osierlaw10_is.r18 F.osierlaw10_is.r19 F.osierlaw10_is.ic F.osierlaw10_is.rs
attribute [go_sem] F.osierref03_Put1.r0 F.osierref03_Put1.r1 F.osierref03_Put1.r2 F.osierref03_Put1.r3 F.osierref03_Put1.r4 F.osierref03_Put1.r5 F.osierref03_Put1.r6 F.osierref03_Put1.r7 F.osierref03_Put1.r8 F.osierref03_Put1.r9 F.osierref03_Put1.ic F.osierref03_Put1.rs
attribute [go_sem] F.osierref03_Rising.r0 F.osierref03_Rising.r1 F.osierref03_Rising.r2 F.osierref03_Rising.r3 F.osierref03_Rising.r4 F.osierref03_Rising.r5 F.osierref03_Rising.r6 F.osierref03_Rising.ic F.osierref03_Rising.rs
attribute [go_sem] F.osierref10_Done.r0 F.osierref10_Done.r1 F.osierref10_Done.r2 F.osierref10_Done.r3 F.osierref10_Done.r4 F.osierref10_Done.r5 F.osierref10_Done.r6 F.osierref10_Done.r7 F.osierref10_Done.r8 F.osierref10_Done.r9 F.osierref10_Done.ic F.osierref10_Done.rs
attribute [go_sem] F.osierref10_Tree_At.r0 F.osierref10_Tree_At.r1 F.osierref10_Tree_At.r2 F.osierref10_Tree_At.r3 F.osierref10_Tree_At.r4 F.osierref10_Tree_At.r5 F.osierref10_Tree_At.r6 F.osierref10_Tree_At.ic F.osierref10_Tree_At.rs
attribute [go_sem] F.osierref10_Tree_Blocks.r0 F.osierref10_Tree_Blocks.r1 F.osierref10_Tree_Blocks.r2 F.osierref10_Tree_Blocks.r3 F.osierref10_Tree_Blocks.r4 F.osierref10_Tree_Blocks.r5 F.osierref10_Tree_Blocks.r6 F.osierref10_Tree_Blocks.ic F.osierref10_Tree_Blocks.rs
attribute [go_sem] F.osierref10_Tree_Kids.r0 F.osierref10_Tree_Kids.r1 F.osierref10_Tree_Kids.r2 F.osierref10_Tree_Kids.r3 F.osierref10_Tree_Kids.r4 F.osierref10_Tree_Kids.r5 F.osierref10_Tree_Kids.r6 F.osierref10_Tree_Kids.r7 F.osierref10_Tree_Kids.r8 F.osierref10_Tree_Kids.r9 F.osierref10_Tree_Kids.r10 F.osierref10_Tree_Kids.r11 F.osierref10_Tree_Kids.r12 F.osierref10_Tree_Kids.r13 F.osierref10_Tree_Kids.r14 F.osierref10_Tree_Kids.r15 F.osierref10_Tree_Kids.r16 F.osierref10_Tree_Kids.r17 F.osierref10_Tree_Kids.r18 F.osierref10_Tree_Kids.r19 F.osierref10_Tree_Kids.ic F.osierref10_Tree_Kids.rs
attribute [go_sem] F.osierref10_Tree_Move.r0 F.osierref10_Tree_Move.r1 F.osierref10_Tree_Move.r2 F.osierref10_Tree_Move.r3 F.osierref10_Tree_Move.r4 F.osierref10_Tree_Move.r5 F.osierref10_Tree_Move.r6 F.osierref10_Tree_Move.r7 F.osierref10_Tree_Move.r8 F.osierref10_Tree_Move.r9 F.osierref10_Tree_Move.r10 F.osierref10_Tree_Move.r11 F.osierref10_Tree_Move.r12 F.osierref10_Tree_Move.r13 F.osierref10_Tree_Move.r14 F.osierref10_Tree_Move.r15 F.osierref10_Tree_Move.r16 F.osierref10_Tree_Move.ic F.osierref10_Tree_Move.rs
attribute [go_sem] F.osierref10_Tree_Path.r0 F.osierref10_Tree_Path.r1 F.osierref10_Tree_Path.r2 F.osierref10_Tree_Path.r3 F.osierref10_Tree_Path.r4 F.osierref10_Tree_Path.r5 F.osierref10_Tree_Path.r6 F.osierref10_Tree_Path.ic F.osierref10_Tree_Path.rs
attribute [go_sem] F.osierref10_Tree_takes.r0 F.osierref10_Tree_takes.r1 F.osierref10_Tree_takes.r2 F.osierref10_Tree_takes.r3 F.osierref10_Tree_takes.r4 F.osierref10_Tree_takes.r5 F.osierref10_Tree_takes.r6 F.osierref10_Tree_takes.ic F.osierref10_Tree_takes.rs
attribute [go_sem] F.osierref10_ahead.r0 F.osierref10_ahead.r1 F.osierref10_ahead.r2 F.osierref10_ahead.r3 F.osierref10_ahead.ic F.osierref10_ahead.rs
attribute [go_sem] F.osierref10_ends.r0 F.osierref10_ends.r1 F.osierref10_ends.ic F.osierref10_ends.rs
attribute [go_sem] F.osierref10_put.r0 F.osierref10_put.r1 F.osierref10_put.r2 F.osierref10_put.r3 F.osierref10_put.r4 F.osierref10_put.r5 F.osierref10_put.r6 F.osierref10_put.r7 F.osierref10_put.ic F.osierref10_put.rs
attribute [go_sem] F.osierref10_root.r0 F.osierref10_root.r1 F.osierref10_root.ic F.osierref10_root.rs
attribute [go_sem] F.osierref10_trash.r0 F.osierref10_trash.r1 F.osierref10_trash.ic F.osierref10_trash.rs
attribute [go_sem] F.slices_SortStableFunc_s_api_Dot_api_Dot.r0 F.slices_SortStableFunc_s_api_Dot_api_Dot.ic F.slices_SortStableFunc_s_api_Dot_api_Dot.rs
attribute [go_sem] F.slices_insertionSortCmpFunc_api_Dot.r0 F.slices_insertionSortCmpFunc_api_Dot.r1 F.slices_insertionSortCmpFunc_api_Dot.r2 F.slices_insertionSortCmpFunc_api_Dot.r3 F.slices_insertionSortCmpFunc_api_Dot.r4 F.slices_insertionSortCmpFunc_api_Dot.r5 F.slices_insertionSortCmpFunc_api_Dot.r6 F.slices_insertionSortCmpFunc_api_Dot.ic F.slices_insertionSortCmpFunc_api_Dot.rs
attribute [go_sem] F.slices_rotateCmpFunc_api_Dot.r0 F.slices_rotateCmpFunc_api_Dot.r1 F.slices_rotateCmpFunc_api_Dot.r2 F.slices_rotateCmpFunc_api_Dot.r3 F.slices_rotateCmpFunc_api_Dot.r4 F.slices_rotateCmpFunc_api_Dot.r5 F.slices_rotateCmpFunc_api_Dot.r6 F.slices_rotateCmpFunc_api_Dot.r7 F.slices_rotateCmpFunc_api_Dot.r8 F.slices_rotateCmpFunc_api_Dot.ic F.slices_rotateCmpFunc_api_Dot.rs
attribute [go_sem] F.slices_stableCmpFunc_api_Dot.r0 F.slices_stableCmpFunc_api_Dot.r1 F.slices_stableCmpFunc_api_Dot.r2 F.slices_stableCmpFunc_api_Dot.r3 F.slices_stableCmpFunc_api_Dot.r4 F.slices_stableCmpFunc_api_Dot.r5 F.slices_stableCmpFunc_api_Dot.r6 F.slices_stableCmpFunc_api_Dot.r7 F.slices_stableCmpFunc_api_Dot.r8 F.slices_stableCmpFunc_api_Dot.r9 F.slices_stableCmpFunc_api_Dot.r10 F.slices_stableCmpFunc_api_Dot.r11 F.slices_stableCmpFunc_api_Dot.r12 F.slices_stableCmpFunc_api_Dot.r13 F.slices_stableCmpFunc_api_Dot.r14 F.slices_stableCmpFunc_api_Dot.r15 F.slices_stableCmpFunc_api_Dot.r16 F.slices_stableCmpFunc_api_Dot.ic F.slices_stableCmpFunc_api_Dot.rs
attribute [go_sem] F.slices_swapRangeCmpFunc_api_Dot.r0 F.slices_swapRangeCmpFunc_api_Dot.r1 F.slices_swapRangeCmpFunc_api_Dot.r2 F.slices_swapRangeCmpFunc_api_Dot.r3 F.slices_swapRangeCmpFunc_api_Dot.ic F.slices_swapRangeCmpFunc_api_Dot.rs
attribute [go_sem] F.slices_symMergeCmpFunc_api_Dot.r0 F.slices_symMergeCmpFunc_api_Dot.r1 F.slices_symMergeCmpFunc_api_Dot.r2 F.slices_symMergeCmpFunc_api_Dot.r3 F.slices_symMergeCmpFunc_api_Dot.r4 F.slices_symMergeCmpFunc_api_Dot.r5 F.slices_symMergeCmpFunc_api_Dot.r6 F.slices_symMergeCmpFunc_api_Dot.r7 F.slices_symMergeCmpFunc_api_Dot.r8 F.slices_symMergeCmpFunc_api_Dot.r9 F.slices_symMergeCmpFunc_api_Dot.r10 F.slices_symMergeCmpFunc_api_Dot.r11 F.slices_symMergeCmpFunc_api_Dot.r12 F.slices_symMergeCmpFunc_api_Dot.r13 F.slices_symMergeCmpFunc_api_Dot.r14 F.slices_symMergeCmpFunc_api_Dot.r15 F.slices_symMergeCmpFunc_api_Dot.r16 F.slices_symMergeCmpFunc_api_Dot.r17 F.slices_symMergeCmpFunc_api_Dot.r18 F.slices_symMergeCmpFunc_api_Dot.r19 F.slices_symMergeCmpFunc_api_Dot.r20 F.slices_symMergeCmpFunc_api_Dot.r21 F.slices_symMergeCmpFunc_api_Dot.r22 F.slices_symMergeCmpFunc_api_Dot.r23 F.slices_symMergeCmpFunc_api_Dot.r24 F.slices_symMergeCmpFunc_api_Dot.r25 F.slices_symMergeCmpFunc_api_Dot.r26 F.slices_symMergeCmpFunc_api_Dot.r27 F.slices_symMergeCmpFunc_api_Dot.r28 F.slices_symMergeCmpFunc_api_Dot.r29 F.slices_symMergeCmpFunc_api_Dot.r30 F.slices_symMergeCmpFunc_api_Dot.r31 F.slices_symMergeCmpFunc_api_Dot.r32 F.slices_symMergeCmpFunc_api_Dot.r33 F.slices_symMergeCmpFunc_api_Dot.r34 F.slices_symMergeCmpFunc_api_Dot.r35 F.slices_symMergeCmpFunc_api_Dot.r36 F.slices_symMergeCmpFunc_api_Dot.r37 F.slices_symMergeCmpFunc_api_Dot.r38 F.slices_symMergeCmpFunc_api_Dot.r39 F.slices_symMergeCmpFunc_api_Dot.r40 F.slices_symMergeCmpFunc_api_Dot.r41 F.slices_symMergeCmpFunc_api_Dot.r42 F.slices_symMergeCmpFunc_api_Dot.r43 F.slices_symMergeCmpFunc_api_Dot.r44 F.slices_symMergeCmpFunc_api_Dot.ic F.slices_symMergeCmpFunc_api_Dot.rs
end Go.Osj
