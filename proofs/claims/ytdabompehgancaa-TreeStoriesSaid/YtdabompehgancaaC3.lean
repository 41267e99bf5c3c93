/- The compiled code of functions (printed by a program, checked by the kernel). -/
import Derived.Test.YtdabompehgancaaC0
import Derived.Test.YtdabompehgancaaOsjN
set_option linter.unusedSimpArgs false
set_option linter.unusedVariables false
set_option maxRecDepth 100000
namespace Go.Osj
noncomputable def F.osierlaw10_TreeStories.r0 : Plan :=
  .rd 0 none (.mv (.const (.bool false))) (some 2) false <|
  .done
noncomputable def F.osierlaw10_TreeStories.r1 : Plan :=
  .ef 0 none (.call F.osierlaw10_awake []) (some 13) [] (
  .rd 1 none (.mv (.tmp 13)) (some 3) false <|
  .done) .none
noncomputable def F.osierlaw10_TreeStories.r2 : Plan :=
  .rd 0 none (.mv (.tmp 3)) (some 14) false <|
  .rd 1 none (.un .not (.tmp 14)) (some 15) false <|
  .done
noncomputable def F.osierlaw10_TreeStories.r3 : Plan :=
  .rd 0 none (.mv (.const (.bool false))) (some 2) false <|
  .done
noncomputable def F.osierlaw10_TreeStories.r4 : Plan :=
  .rd 0 none (.mv (.const (.pointer none))) (some 4) false <|
  .done
noncomputable def F.osierlaw10_TreeStories.r5 : Plan :=
  .rd 0 none (.mv (.tmp 4)) (some 17) false <|
  .ef 1 none (.call F.api_Root []) (some 18) [] (
  .ef 2 none (.call F.movetree_Tree_Parent [(.tmp 17), (.tmp 18)]) (some 19) [] (
  .rd 3 none (.mv (.tmp 19)) (some 16) false <|
  .rd 4 none (.ext 0 (.tmp 16)) (some 20) false <|
  .rd 5 none (.ext 1 (.tmp 16)) (some 21) false <|
  .rd 6 none (.ext 2 (.tmp 16)) (some 22) false <|
  .ef 7 none (.alloc [(.int .i64 0), (.int .i64 0)]) (some 5) [] (
  .ef 8 none (.st 2 (.tmp 5) (.tmp 20)) none [] (
  .rd 9 none (.mv (.tmp 21)) (some 6) false <|
  .rd 10 none (.mv (.tmp 22)) (some 7) false <|
  .done) .none) .none) .none) .none
noncomputable def F.osierlaw10_TreeStories.r6 : Plan :=
  .rd 0 none (.mv (.tmp 4)) (some 23) false <|
  .rd 1 none (.build [(.int .i64 0), (.int .i64 0)] [(0, (1, (.const (.int .i64 1)))), (1, (1, (.const (.int .i64 1))))]) (some 24) false <|
  .rd 2 none (.build [(.int .i64 0), (.int .i64 0)] [(0, (1, (.const (.int .i64 1)))), (1, (1, (.const (.int .i64 1))))]) (some 25) false <|
  .ef 3 none (.call F.api_Root []) (some 26) [] (
  .ef 4 none (.call F.movetree_Tree_Move [(.tmp 23), (.tmp 24), (.const (.int .i64 1)), (.tmp 25), (.tmp 26), (.const (.string ⟨#[110]⟩))]) (some 27) [] (
  .rd 5 none (.bin .neq (.tmp 27) (.const (.int .i64 1))) (some 28) false <|
  .rd 6 none (.mv (.tmp 28)) (some 29) false <|
  .rd 7 (some (29, false)) (.mv (.tmp 4)) (some 30) false <|
  .ef 8 (some (29, false)) (.call F.api_Root []) (some 31) [] (
  .ef 9 (some (29, false)) (.call F.movetree_Tree_There [(.tmp 30), (.tmp 31)]) (some 32) [] (
  .rd 10 none (.pick (.tmp 29) (.const (.bool true)) (.tmp 32)) (some 33) false <|
  .rd 11 none (.mv (.tmp 33)) (some 34) false <|
  .rd 12 (some (34, false)) (.ldn 2 (.tmp 5)) (some 35) false <|
  .rd 13 (some (34, false)) (.build [(.int .i64 0), (.int .i64 0)] []) (some 36) false <|
  .rd 14 (some (34, false)) (.eqS [(.i .i64), (.i .i64)] true true (.tmp 35) (.tmp 36)) (some 37) false <|
  .rd 15 none (.pick (.tmp 34) (.const (.bool true)) (.tmp 37)) (some 38) false <|
  .rd 16 none (.mv (.tmp 38)) (some 39) false <|
  .rd 17 (some (39, false)) (.mv (.tmp 6)) (some 40) false <|
  .rd 18 (some (39, false)) (.bin .neq (.tmp 40) (.const (.string ⟨#[]⟩))) (some 41) false <|
  .rd 19 none (.pick (.tmp 39) (.const (.bool true)) (.tmp 41)) (some 42) false <|
  .rd 20 none (.mv (.tmp 42)) (some 43) false <|
  .rd 21 (some (43, false)) (.mv (.tmp 7)) (some 44) false <|
  .rd 22 none (.pick (.tmp 43) (.const (.bool true)) (.tmp 44)) (some 45) false <|
  .rd 23 none (.mv (.tmp 45)) (some 46) false <|
  .rd 24 (some (46, false)) (.mv (.tmp 4)) (some 47) false <|
  .ef 25 (some (46, false)) (.call F.api_Root []) (some 48) [] (
  .ef 26 (some (46, false)) (.call F.movetree_Tree_Kids [(.tmp 47), (.tmp 48)]) (some 49) [] (
  .rd 27 (some (46, false)) (.len .sl (.tmp 49)) (some 50) false <|
  .rd 28 (some (46, false)) (.bin .neq (.tmp 50) (.const (.int .i64 0))) (some 51) false <|
  .rd 29 none (.pick (.tmp 46) (.const (.bool true)) (.tmp 51)) (some 52) false <|
  .rd 30 none (.mv (.tmp 52)) (some 53) false <|
  .rd 31 (some (53, false)) (.mv (.tmp 4)) (some 54) false <|
  .ef 32 (some (53, false)) (.call F.api_Root []) (some 55) [] (
  .ef 33 (some (53, false)) (.call F.movetree_Tree_Path [(.tmp 54), (.tmp 55)]) (some 56) [] (
  .rd 34 (some (53, false)) (.len .sl (.tmp 56)) (some 57) false <|
  .rd 35 (some (53, false)) (.bin .neq (.tmp 57) (.const (.int .i64 0))) (some 58) false <|
  .rd 36 none (.pick (.tmp 53) (.const (.bool true)) (.tmp 58)) (some 59) false <|
  .rd 37 none (.mv (.tmp 59)) (some 60) false <|
  .rd 38 (some (60, false)) (.mv (.tmp 4)) (some 61) false <|
  .rd 39 (some (60, false)) (.ldn 2 (.tmp 5)) (some 62) false <|
  .ef 40 (some (60, false)) (.call F.movetree_Tree_Took [(.tmp 61), (.tmp 62)]) (some 63) [] (
  .rd 41 none (.pick (.tmp 60) (.const (.bool true)) (.tmp 63)) (some 64) false <|
  .rd 42 none (.mv (.tmp 64)) (some 65) false <|
  .rd 43 (some (65, false)) (.mv (.tmp 4)) (some 66) false <|
  .ef 44 (some (65, false)) (.call F.movetree_Tree_Blocks [(.tmp 66)]) (some 67) [] (
  .rd 45 (some (65, false)) (.len .sl (.tmp 67)) (some 68) false <|
  .rd 46 (some (65, false)) (.bin .neq (.tmp 68) (.const (.int .i64 0))) (some 69) false <|
  .rd 47 none (.pick (.tmp 65) (.const (.bool true)) (.tmp 69)) (some 70) false <|
  .done) .none) .none) .none) .none) .none) .none) .none) .none) .none) .none
noncomputable def F.osierlaw10_TreeStories.r7 : Plan :=
  .rd 0 none (.mv (.const (.bool false))) (some 2) false <|
  .done
noncomputable def F.osierlaw10_TreeStories.r8 : Plan :=
  .rd 0 none (.mv (.tmp 0)) (some 71) false <|
  .ef 1 none (.call F.osierref08_Story [(.tmp 71)]) (some 72) [] (
  .rd 2 none (.mv (.tmp 72)) (some 8) false <|
  .done) .none
noncomputable def F.osierlaw10_TreeStories.r9 : Plan :=
  .ef 0 none (.call F.movetree_New []) (some 73) [] (
  .rd 1 none (.mv (.tmp 73)) (some 9) false <|
  .done) .none
noncomputable def F.osierlaw10_TreeStories.r10 : Plan :=
  .rd 0 none (.mv (.const (.int .i64 0))) (some 10) false <|
  .done
noncomputable def F.osierlaw10_TreeStories.r11 : Plan :=
  .rd 0 none (.mv (.const (.int .i64 0))) (some 11) false <|
  .done
noncomputable def F.osierlaw10_TreeStories.r12 : Plan :=
  .rd 0 none (.mv (.tmp 11)) (some 74) false <|
  .rd 1 none (.mv (.tmp 8)) (some 75) false <|
  .rd 2 none (.len .sl (.tmp 75)) (some 76) false <|
  .rd 3 none (.bin .lss (.tmp 74) (.tmp 76)) (some 77) false <|
  .done
noncomputable def F.osierlaw10_TreeStories.r13 : Plan :=
  .rd 0 none (.mv (.tmp 8)) (some 80) false <|
  .rd 1 none (.mv (.tmp 11)) (some 81) false <|
  .rd 2 none (.idxA 14 (.tmp 80) (.tmp 81)) (some 82) false <|
  .rd 3 none (.fldA 4 (.tmp 82)) (some 83) false <|
  .rd 4 none (.ld1 (.tmp 83)) (some 84) false <|
  .rd 5 none (.bin .neq (.tmp 84) (.const (.int .i64 3))) (some 85) false <|
  .done
noncomputable def F.osierlaw10_TreeStories.r14 : Plan :=
  .rd 0 none (.mv (.tmp 9)) (some 86) false <|
  .rd 1 none (.mv (.tmp 8)) (some 87) false <|
  .rd 2 none (.mv (.tmp 11)) (some 88) false <|
  .rd 3 none (.idxA 14 (.tmp 87) (.tmp 88)) (some 89) false <|
  .rd 4 none (.fldA 0 (.tmp 89)) (some 90) false <|
  .rd 5 none (.ldn 2 (.tmp 90)) (some 91) false <|
  .rd 6 none (.mv (.tmp 8)) (some 92) false <|
  .rd 7 none (.mv (.tmp 11)) (some 93) false <|
  .rd 8 none (.idxA 14 (.tmp 92) (.tmp 93)) (some 94) false <|
  .rd 9 none (.fldA 2 (.tmp 94)) (some 95) false <|
  .rd 10 none (.ld1 (.tmp 95)) (some 96) false <|
  .rd 11 none (.mv (.tmp 8)) (some 97) false <|
  .rd 12 none (.mv (.tmp 11)) (some 98) false <|
  .rd 13 none (.idxA 14 (.tmp 97) (.tmp 98)) (some 99) false <|
  .rd 14 none (.fldA 5 (.tmp 99)) (some 100) false <|
  .rd 15 none (.ldn 2 (.tmp 100)) (some 101) false <|
  .rd 16 none (.mv (.tmp 8)) (some 102) false <|
  .rd 17 none (.mv (.tmp 11)) (some 103) false <|
  .rd 18 none (.idxA 14 (.tmp 102) (.tmp 103)) (some 104) false <|
  .rd 19 none (.fldA 11 (.tmp 104)) (some 105) false <|
  .rd 20 none (.ldn 2 (.tmp 105)) (some 106) false <|
  .rd 21 none (.mv (.tmp 8)) (some 107) false <|
  .rd 22 none (.mv (.tmp 11)) (some 108) false <|
  .rd 23 none (.idxA 14 (.tmp 107) (.tmp 108)) (some 109) false <|
  .rd 24 none (.fldA 13 (.tmp 109)) (some 110) false <|
  .rd 25 none (.ld1 (.tmp 110)) (some 111) false <|
  .ef 26 none (.call F.movetree_Tree_Move [(.tmp 86), (.tmp 91), (.tmp 96), (.tmp 101), (.tmp 106), (.tmp 111)]) (some 112) [] (
  .rd 27 none (.mv (.tmp 112)) (some 12) false <|
  .done) .none
noncomputable def F.osierlaw10_TreeStories.r15 : Plan :=
  .rd 0 none (.mv (.tmp 12)) (some 113) false <|
  .rd 1 none (.bin .neq (.tmp 113) (.const (.int .i64 0))) (some 114) false <|
  .done
noncomputable def F.osierlaw10_TreeStories.r16 : Plan :=
  .rd 0 none (.mv (.const (.bool false))) (some 2) false <|
  .done
noncomputable def F.osierlaw10_TreeStories.r17 : Plan :=
  .rd 0 none (.mv (.tmp 8)) (some 115) false <|
  .rd 1 none (.mv (.tmp 11)) (some 116) false <|
  .rd 2 none (.idxA 14 (.tmp 115) (.tmp 116)) (some 117) false <|
  .rd 3 none (.fldA 5 (.tmp 117)) (some 118) false <|
  .rd 4 none (.ldn 2 (.tmp 118)) (some 119) false <|
  .rd 5 none (.mv (.tmp 8)) (some 120) false <|
  .rd 6 none (.mv (.tmp 11)) (some 121) false <|
  .rd 7 none (.idxA 14 (.tmp 120) (.tmp 121)) (some 122) false <|
  .rd 8 none (.fldA 0 (.tmp 122)) (some 123) false <|
  .rd 9 none (.ldn 2 (.tmp 123)) (some 124) false <|
  .rd 10 none (.eqS [(.i .i64), (.i .i64)] true false (.tmp 119) (.tmp 124)) (some 125) false <|
  .done
noncomputable def F.osierlaw10_TreeStories.r18 : Plan :=
  .rd 0 none (.mv (.tmp 10)) (some 126) false <|
  .rd 1 none (.bin .add (.tmp 126) (.const (.int .i64 1))) (some 127) false <|
  .rd 2 none (.mv (.tmp 127)) (some 10) false <|
  .done
noncomputable def F.osierlaw10_TreeStories.r19 : Plan :=
  .rd 0 none (.mv (.tmp 9)) (some 128) false <|
  .ef 1 none (.call F.movetree_Tree_Blocks [(.tmp 128)]) (some 129) [] (
  .rd 2 none (.len .sl (.tmp 129)) (some 130) false <|
  .rd 3 none (.mv (.tmp 10)) (some 131) false <|
  .rd 4 none (.bin .neq (.tmp 130) (.tmp 131)) (some 132) false <|
  .done) .none
noncomputable def F.osierlaw10_TreeStories.r20 : Plan :=
  .rd 0 none (.mv (.const (.bool false))) (some 2) false <|
  .done
noncomputable def F.osierlaw10_TreeStories.r21 : Plan :=
  .rd 0 none (.mv (.tmp 11)) (some 78) false <|
  .rd 1 none (.bin .add (.tmp 78) (.const (.int .i64 1))) (some 79) false <|
  .rd 2 none (.mv (.tmp 79)) (some 11) false <|
  .done
noncomputable def F.osierlaw10_TreeStories.l0 : IC :=
    (.seq (.seq (.reg F.osierlaw10_TreeStories.r12)
    (.cond (.tmp 77) .skip (.exit 0)))
    (.seq (.block 1 (.seq (.seq (.reg F.osierlaw10_TreeStories.r13)
    (.cond (.tmp 85) (.exit 1) .skip))
    (.seq (.reg F.osierlaw10_TreeStories.r14)
    (.seq (.seq (.reg F.osierlaw10_TreeStories.r15)
    (.cond (.tmp 114) (.seq (.reg F.osierlaw10_TreeStories.r16)
    .ret) .skip))
    (.seq (.seq (.reg F.osierlaw10_TreeStories.r17)
    (.cond (.tmp 125) (.reg F.osierlaw10_TreeStories.r18) .skip))
    (.seq (.reg F.osierlaw10_TreeStories.r19)
    (.cond (.tmp 132) (.seq (.reg F.osierlaw10_TreeStories.r20)
    .ret) .skip)))))))
    (.reg F.osierlaw10_TreeStories.r21)))
noncomputable def F.osierlaw10_TreeStories.r22 : Plan :=
  .rd 0 none (.mv (.const (.bool true))) (some 2) false <|
  .done
noncomputable def F.osierlaw10_TreeStories.ic : IC :=
    (.seq (.reg F.osierlaw10_TreeStories.r0)
    (.seq (.reg F.osierlaw10_TreeStories.r1)
    (.seq (.seq (.reg F.osierlaw10_TreeStories.r2)
    (.cond (.tmp 15) (.seq (.reg F.osierlaw10_TreeStories.r3)
    .ret) .skip))
    (.seq (.reg F.osierlaw10_TreeStories.r4)
    (.seq (.reg F.osierlaw10_TreeStories.r5)
    (.seq (.seq (.reg F.osierlaw10_TreeStories.r6)
    (.cond (.tmp 70) (.seq (.reg F.osierlaw10_TreeStories.r7)
    .ret) .skip))
    (.seq (.reg F.osierlaw10_TreeStories.r8)
    (.seq (.reg F.osierlaw10_TreeStories.r9)
    (.seq (.reg F.osierlaw10_TreeStories.r10)
    (.seq (.seq (.reg F.osierlaw10_TreeStories.r11)
    (.block 0 (.loop F.osierlaw10_TreeStories.l0)))
    (.seq (.reg F.osierlaw10_TreeStories.r22)
    .ret)))))))))))
noncomputable def F.osierlaw10_TreeStories.rs : List RO := [(.mv (.tmp 2))]
theorem F.osierlaw10_TreeStories.ok : cFunc Go.Proofs.Try.prog F.osierlaw10_TreeStories = some (133, F.osierlaw10_TreeStories.ic, F.osierlaw10_TreeStories.rs) := by kernel_rfl
theorem F.osierlaw10_TreeStories.cl : callable Go.Proofs.Try.prog F.osierlaw10_TreeStories = true := by kernel_rfl
noncomputable def F.osierref08_Story.r0 : Plan :=
  .rd 0 none (.mv (.const (.slice none 0 0))) (some 2) false <|
  .done
noncomputable def F.osierref08_Story.r1 : Plan :=
  .rd 0 none (.mv (.const (.slice none 0 0))) (some 3) false <|
  .done
noncomputable def F.osierref08_Story.r2 : Plan :=
  .ef 0 none (.alloc [(.slice none 0 0), (.slice none 0 0), (.slice none 0 0), (.slice none 0 0)]) (some 4) [] (
  .done) .none
noncomputable def F.osierref08_Story.r3 : Plan :=
  .rd 0 none (.mv (.const (.int .i64 0))) (some 5) false <|
  .done
noncomputable def F.osierref08_Story.r4 : Plan :=
  .rd 0 none (.mv (.tmp 5)) (some 12) false <|
  .rd 1 none (.mv (.tmp 0)) (some 13) false <|
  .rd 2 none (.len .sl (.tmp 13)) (some 14) false <|
  .rd 3 none (.bin .lss (.tmp 12) (.tmp 14)) (some 15) false <|
  .rd 4 none (.mv (.tmp 15)) (some 16) false <|
  .rd 5 (some (16, true)) (.mv (.tmp 5)) (some 17) false <|
  .rd 6 (some (16, true)) (.bin .lss (.tmp 17) (.const (.int .i64 60))) (some 18) false <|
  .rd 7 none (.pick (.tmp 16) (.tmp 18) (.const (.bool false))) (some 19) false <|
  .done
noncomputable def F.osierref08_Story.r5 : Plan :=
  .rd 0 none (.mv (.tmp 0)) (some 22) false <|
  .rd 1 none (.mv (.tmp 5)) (some 23) false <|
  .rd 2 none (.idxA 6 (.tmp 22) (.tmp 23)) (some 24) false <|
  .rd 3 none (.ldn 6 (.tmp 24)) (some 25) false <|
  .ef 4 none (.alloc [(.int .i64 0), (.int .i64 0), (.int .i64 0), (.int .i64 0), (.int .i64 0), (.string ⟨#[]⟩)]) (some 6) [] (
  .ef 5 none (.st 6 (.tmp 6) (.tmp 25)) none [] (
  .done) .none) .none
noncomputable def F.osierref08_Story.r6 : Plan :=
  .rd 0 none (.fldA 0 (.tmp 6)) (some 26) false <|
  .rd 1 none (.ld1 (.tmp 26)) (some 27) false <|
  .ef 2 none (.call F.osierref08_abs [(.tmp 27)]) (some 28) [] (
  .rd 3 none (.bin .rem (.tmp 28) (.const (.int .i64 4))) (some 29) false <|
  .rd 4 none (.mv (.tmp 29)) (some 7) false <|
  .done) .none
noncomputable def F.osierref08_Story.r7 : Plan :=
  .rd 0 none (.fldA 1 (.tmp 6)) (some 30) false <|
  .rd 1 none (.ld1 (.tmp 30)) (some 31) false <|
  .ef 2 none (.call F.osierref08_abs [(.tmp 31)]) (some 32) [] (
  .rd 3 none (.mv (.tmp 3)) (some 33) false <|
  .rd 4 none (.len .sl (.tmp 33)) (some 34) false <|
  .rd 5 none (.bin .add (.tmp 34) (.const (.int .i64 1))) (some 35) false <|
  .rd 6 none (.bin .rem (.tmp 32) (.tmp 35)) (some 36) false <|
  .rd 7 none (.mv (.tmp 36)) (some 8) false <|
  .done) .none
noncomputable def F.osierref08_Story.r8 : Plan :=
  .rd 0 none (.mv (.const (.int .i64 0))) (some 9) false <|
  .done
noncomputable def F.osierref08_Story.r9 : Plan :=
  .rd 0 none (.mv (.tmp 9)) (some 37) false <|
  .rd 1 none (.mv (.tmp 8)) (some 38) false <|
  .rd 2 none (.bin .lss (.tmp 37) (.tmp 38)) (some 39) false <|
  .done
noncomputable def F.osierref08_Story.r10 : Plan :=
  .rd 0 none (.mv (.tmp 3)) (some 42) false <|
  .rd 1 none (.mv (.tmp 9)) (some 43) false <|
  .rd 2 none (.idxA 14 (.tmp 42) (.tmp 43)) (some 44) false <|
  .rd 3 none (.fldA 3 (.tmp 44)) (some 45) false <|
  .rd 4 none (.ld1 (.tmp 45)) (some 46) false <|
  .rd 5 none (.mv (.tmp 7)) (some 47) false <|
  .rd 6 none (.arrA 4 1 (.tmp 4) (.tmp 47)) (some 48) false <|
  .rd 7 none (.ld1 (.tmp 48)) (some 49) false <|
  .ef 8 none (.call F.osierref04_Below [(.tmp 46), (.tmp 49)]) (some 50) [] (
  .rd 9 none (.mv (.tmp 50)) (some 10) false <|
  .done) .none
noncomputable def F.osierref08_Story.r11 : Plan :=
  .rd 0 none (.mv (.tmp 10)) (some 51) false <|
  .done
noncomputable def F.osierref08_Story.r12 : Plan :=
  .rd 0 none (.mv (.tmp 7)) (some 52) false <|
  .rd 1 none (.mv (.tmp 7)) (some 53) false <|
  .rd 2 none (.arrA 4 1 (.tmp 4) (.tmp 53)) (some 54) false <|
  .rd 3 none (.ld1 (.tmp 54)) (some 55) false <|
  .rd 4 none (.mv (.tmp 3)) (some 56) false <|
  .rd 5 none (.mv (.tmp 9)) (some 57) false <|
  .rd 6 none (.idxA 14 (.tmp 56) (.tmp 57)) (some 58) false <|
  .rd 7 none (.fldA 0 (.tmp 58)) (some 59) false <|
  .rd 8 none (.ldn 2 (.tmp 59)) (some 60) false <|
  .ef 9 none (.call F.osierref04_With [(.tmp 55), (.tmp 60)]) (some 61) [0] (
  .rd 10 none (.arrA 4 1 (.tmp 4) (.tmp 52)) (some 62) false <|
  .ef 11 none (.st 1 (.tmp 62) (.tmp 61)) none [] (
  .done) .none) .none
noncomputable def F.osierref08_Story.r13 : Plan :=
  .rd 0 none (.mv (.tmp 9)) (some 40) false <|
  .rd 1 none (.bin .add (.tmp 40) (.const (.int .i64 1))) (some 41) false <|
  .rd 2 none (.mv (.tmp 41)) (some 9) false <|
  .done
noncomputable def F.osierref08_Story.l0 : IC :=
    (.seq (.seq (.reg F.osierref08_Story.r9)
    (.cond (.tmp 39) .skip (.exit 2)))
    (.seq (.block 3 (.seq (.reg F.osierref08_Story.r10)
    (.seq (.reg F.osierref08_Story.r11)
    (.cond (.tmp 51) (.reg F.osierref08_Story.r12) .skip))))
    (.reg F.osierref08_Story.r13)))
noncomputable def F.osierref08_Story.r14 : Plan :=
  .rd 0 none (.mv (.tmp 3)) (some 63) false <|
  .rd 1 none (.mv (.tmp 7)) (some 64) false <|
  .rd 2 none (.arrA 4 1 (.tmp 4) (.tmp 64)) (some 65) false <|
  .rd 3 none (.ld1 (.tmp 65)) (some 66) true <|
  .rd 4 none (.mv (.tmp 7)) (some 67) false <|
  .rd 5 none (.bin .mul (.tmp 67) (.const (.int .i64 256))) (some 68) false <|
  .rd 6 none (.bin .add (.const (.int .i64 1)) (.tmp 68)) (some 69) false <|
  .rd 7 none (.ldn 6 (.tmp 6)) (some 70) true <|
  .ef 8 none (.call F.osierref08_one [(.tmp 63), (.tmp 66), (.tmp 69), (.tmp 70)]) (some 71) [] (
  .ef 9 none (.alloc [(.int .i64 0), (.int .i64 0), (.int .i64 0), (.slice none 0 0), (.int .i64 0), (.int .i64 0), (.int .i64 0), (.int .i64 0), (.int .i64 0), (.int .i64 0), (.int .i64 0), (.int .i64 0), (.int .i64 0), (.string ⟨#[]⟩)]) (some 11) [0, 1, 2, 3, 4, 5, 6, 7] (
  .ef 10 none (.st 14 (.tmp 11) (.tmp 71)) none [] (
  .done) .none) .none) (
    .ef 9 none (.alloc [(.int .i64 0), (.int .i64 0), (.int .i64 0), (.slice none 0 0), (.int .i64 0), (.int .i64 0), (.int .i64 0), (.int .i64 0), (.int .i64 0), (.int .i64 0), (.int .i64 0), (.int .i64 0), (.int .i64 0), (.string ⟨#[]⟩)]) (some 11) [0, 1, 2, 3, 4, 5, 6, 7] (
    .ef 8 none (.call F.osierref08_one [(.tmp 63), (.tmp 66), (.tmp 69), (.tmp 70)]) (some 71) [] (
    .ef 10 none (.st 14 (.tmp 11) (.tmp 71)) none [] (
    .done) .none) .none) .none)
noncomputable def F.osierref08_Story.r15 : Plan :=
  .rd 0 none (.ldn 14 (.tmp 11)) (some 72) false <|
  .ef 1 none (.call F.osierref07_Check [(.tmp 72)]) (some 73) [] (
  .done) .none
noncomputable def F.osierref08_Story.r16 : Plan :=
  .rd 0 none (.mv (.tmp 3)) (some 74) false <|
  .rd 1 none (.ldn 14 (.tmp 11)) (some 75) false <|
  .ef 2 none (.bsl 1 [(.int .i64 0), (.int .i64 0), (.int .i64 0), (.slice none 0 0), (.int .i64 0), (.int .i64 0), (.int .i64 0), (.int .i64 0), (.int .i64 0), (.int .i64 0), (.int .i64 0), (.int .i64 0), (.int .i64 0), (.string ⟨#[]⟩)] [(0, (14, (.tmp 75)))]) (some 76) [] (
  .ef 3 none (.app 14 136 (.tmp 74) (.tmp 76)) (some 77) [] (
  .rd 4 none (.mv (.tmp 77)) (some 3) false <|
  .done) .none) .none
noncomputable def F.osierref08_Story.r17 : Plan :=
  .rd 0 none (.mv (.tmp 7)) (some 78) false <|
  .rd 1 none (.mv (.tmp 7)) (some 79) false <|
  .rd 2 none (.arrA 4 1 (.tmp 4) (.tmp 79)) (some 80) false <|
  .rd 3 none (.ld1 (.tmp 80)) (some 81) false <|
  .rd 4 none (.fldA 0 (.tmp 11)) (some 82) false <|
  .rd 5 none (.ldn 2 (.tmp 82)) (some 83) false <|
  .ef 6 none (.call F.osierref04_With [(.tmp 81), (.tmp 83)]) (some 84) [0] (
  .rd 7 none (.arrA 4 1 (.tmp 4) (.tmp 78)) (some 85) false <|
  .ef 8 none (.st 1 (.tmp 85) (.tmp 84)) none [] (
  .done) .none) .none
noncomputable def F.osierref08_Story.r18 : Plan :=
  .rd 0 none (.mv (.tmp 5)) (some 20) false <|
  .rd 1 none (.bin .add (.tmp 20) (.const (.int .i64 1))) (some 21) false <|
  .rd 2 none (.mv (.tmp 21)) (some 5) false <|
  .done
noncomputable def F.osierref08_Story.l1 : IC :=
    (.seq (.seq (.reg F.osierref08_Story.r4)
    (.cond (.tmp 19) .skip (.exit 0)))
    (.seq (.block 1 (.seq (.reg F.osierref08_Story.r5)
    (.seq (.reg F.osierref08_Story.r6)
    (.seq (.reg F.osierref08_Story.r7)
    (.seq (.seq (.reg F.osierref08_Story.r8)
    (.block 2 (.loop F.osierref08_Story.l0)))
    (.seq (.reg F.osierref08_Story.r14)
    (.seq (.reg F.osierref08_Story.r15)
    (.cond (.tmp 73) (.seq (.reg F.osierref08_Story.r16)
    (.reg F.osierref08_Story.r17)) .skip))))))))
    (.reg F.osierref08_Story.r18)))
noncomputable def F.osierref08_Story.r19 : Plan :=
  .rd 0 none (.mv (.tmp 3)) (some 86) false <|
  .rd 1 none (.mv (.tmp 86)) (some 2) false <|
  .done
noncomputable def F.osierref08_Story.ic : IC :=
    (.seq (.reg F.osierref08_Story.r0)
    (.seq (.reg F.osierref08_Story.r1)
    (.seq (.reg F.osierref08_Story.r2)
    (.seq (.seq (.reg F.osierref08_Story.r3)
    (.block 0 (.loop F.osierref08_Story.l1)))
    (.seq (.reg F.osierref08_Story.r19)
    .ret)))))
noncomputable def F.osierref08_Story.rs : List RO := [(.mv (.tmp 2))]
theorem F.osierref08_Story.ok : cFunc Go.Proofs.Try.prog F.osierref08_Story = some (87, F.osierref08_Story.ic, F.osierref08_Story.rs) := by kernel_rfl
theorem F.osierref08_Story.cl : callable Go.Proofs.Try.prog F.osierref08_Story = true := by kernel_rfl
noncomputable def F.osierref08_abs.r0 : Plan :=
  .rd 0 none (.mv (.const (.int .i64 0))) (some 2) false <|
  .done
noncomputable def F.osierref08_abs.r1 : Plan :=
  .rd 0 none (.mv (.tmp 0)) (some 3) false <|
  .rd 1 none (.bin .lss (.tmp 3) (.const (.int .i64 0))) (some 4) false <|
  .done
noncomputable def F.osierref08_abs.r2 : Plan :=
  .rd 0 none (.mv (.tmp 0)) (some 5) false <|
  .rd 1 none (.bin .add (.tmp 5) (.const (.int .i64 1))) (some 6) false <|
  .rd 2 none (.un .neg (.tmp 6)) (some 7) false <|
  .rd 3 none (.mv (.tmp 7)) (some 2) false <|
  .done
noncomputable def F.osierref08_abs.r3 : Plan :=
  .rd 0 none (.mv (.tmp 0)) (some 8) false <|
  .rd 1 none (.mv (.tmp 8)) (some 2) false <|
  .done
noncomputable def F.osierref08_abs.ic : IC :=
    (.seq (.reg F.osierref08_abs.r0)
    (.seq (.seq (.reg F.osierref08_abs.r1)
    (.cond (.tmp 4) (.seq (.reg F.osierref08_abs.r2)
    .ret) .skip))
    (.seq (.reg F.osierref08_abs.r3)
    .ret)))
noncomputable def F.osierref08_abs.rs : List RO := [(.mv (.tmp 2))]
theorem F.osierref08_abs.ok : cFunc Go.Proofs.Try.prog F.osierref08_abs = some (9, F.osierref08_abs.ic, F.osierref08_abs.rs) := by kernel_rfl
theorem F.osierref08_abs.cl : callable Go.Proofs.Try.prog F.osierref08_abs = true := by kernel_rfl
noncomputable def F.osierref04_Below.r0 : Plan :=
  .rd 0 none (.mv (.const (.bool false))) (some 4) false <|
  .done
noncomputable def F.osierref04_Below.r1 : Plan :=
  .rd 0 none (.mv (.const (.int .i64 0))) (some 5) false <|
  .done
noncomputable def F.osierref04_Below.r2 : Plan :=
  .rd 0 none (.mv (.tmp 5)) (some 6) false <|
  .rd 1 none (.mv (.tmp 0)) (some 7) false <|
  .rd 2 none (.len .sl (.tmp 7)) (some 8) false <|
  .rd 3 none (.bin .lss (.tmp 6) (.tmp 8)) (some 9) false <|
  .done
noncomputable def F.osierref04_Below.r3 : Plan :=
  .rd 0 none (.mv (.tmp 1)) (some 12) false <|
  .rd 1 none (.mv (.tmp 0)) (some 13) false <|
  .rd 2 none (.mv (.tmp 5)) (some 14) false <|
  .rd 3 none (.idxA 2 (.tmp 13) (.tmp 14)) (some 15) false <|
  .rd 4 none (.fldA 0 (.tmp 15)) (some 16) false <|
  .rd 5 none (.ld1 (.tmp 16)) (some 17) false <|
  .rd 7 none (.mv (.tmp 0)) (some 19) false <|
  .rd 8 none (.mv (.tmp 5)) (some 20) false <|
  .rd 9 none (.idxA 2 (.tmp 19) (.tmp 20)) (some 21) false <|
  .rd 10 none (.fldA 1 (.tmp 21)) (some 22) false <|
  .rd 11 none (.ld1 (.tmp 22)) (some 23) true <|
  .ef 6 none (.call F.osierref04_Get [(.tmp 12), (.tmp 17)]) (some 18) [7, 8, 9, 10, 11] (
  .rd 12 none (.bin .lss (.tmp 18) (.tmp 23)) (some 24) false <|
  .done) .none
noncomputable def F.osierref04_Below.r4 : Plan :=
  .rd 0 none (.mv (.const (.bool false))) (some 4) false <|
  .done
noncomputable def F.osierref04_Below.r5 : Plan :=
  .rd 0 none (.mv (.tmp 5)) (some 10) false <|
  .rd 1 none (.bin .add (.tmp 10) (.const (.int .i64 1))) (some 11) false <|
  .rd 2 none (.mv (.tmp 11)) (some 5) false <|
  .done
noncomputable def F.osierref04_Below.l0 : IC :=
    (.seq (.seq (.reg F.osierref04_Below.r2)
    (.cond (.tmp 9) .skip (.exit 0)))
    (.seq (.block 1 (.seq (.reg F.osierref04_Below.r3)
    (.cond (.tmp 24) (.seq (.reg F.osierref04_Below.r4)
    .ret) .skip)))
    (.reg F.osierref04_Below.r5)))
noncomputable def F.osierref04_Below.r6 : Plan :=
  .rd 0 none (.mv (.const (.bool true))) (some 4) false <|
  .done
noncomputable def F.osierref04_Below.ic : IC :=
    (.seq (.reg F.osierref04_Below.r0)
    (.seq (.seq (.reg F.osierref04_Below.r1)
    (.block 0 (.loop F.osierref04_Below.l0)))
    (.seq (.reg F.osierref04_Below.r6)
    .ret)))
noncomputable def F.osierref04_Below.rs : List RO := [(.mv (.tmp 4))]
theorem F.osierref04_Below.ok : cFunc Go.Proofs.Try.prog F.osierref04_Below = some (25, F.osierref04_Below.ic, F.osierref04_Below.rs) := by kernel_rfl
theorem F.osierref04_Below.cl : callable Go.Proofs.Try.prog F.osierref04_Below = true := by kernel_rfl
noncomputable def F.osierref04_With.r0 : Plan :=
  .ef 0 none (.box (.tmp 1)) (some 3) [] (
  .rd 1 none (.mv (.const (.slice none 0 0))) (some 4) false <|
  .done) .none
noncomputable def F.osierref04_With.r1 : Plan :=
  .rd 0 none (.ldn 2 (.tmp 3)) (some 6) false <|
  .ef 1 none (.call F.osierref03_May [(.tmp 6)]) (some 7) [] (
  .rd 2 none (.mv (.tmp 7)) (some 5) false <|
  .done) .none
noncomputable def F.osierref04_With.r2 : Plan :=
  .rd 0 none (.mv (.tmp 5)) (some 8) false <|
  .rd 1 none (.un .not (.tmp 8)) (some 9) false <|
  .done
noncomputable def F.osierref04_With.r3 : Plan :=
  .rd 0 none (.mv (.tmp 0)) (some 10) false <|
  .rd 1 none (.mv (.tmp 10)) (some 4) false <|
  .done
noncomputable def F.osierref04_With.r4 : Plan :=
  .rd 0 none (.mv (.tmp 0)) (some 11) false <|
  .rd 1 none (.ldn 2 (.tmp 3)) (some 12) false <|
  .ef 2 none (.bsl 1 [(.int .i64 0), (.int .i64 0)] [(0, (2, (.tmp 12)))]) (some 13) [] (
  .ef 3 none (.call F.osierref04_Join [(.tmp 11), (.tmp 13), (.const (.bool false))]) (some 14) [] (
  .rd 4 none (.mv (.tmp 14)) (some 4) false <|
  .done) .none) .none
noncomputable def F.osierref04_With.ic : IC :=
    (.seq (.reg F.osierref04_With.r0)
    (.seq (.reg F.osierref04_With.r1)
    (.seq (.seq (.reg F.osierref04_With.r2)
    (.cond (.tmp 9) (.seq (.reg F.osierref04_With.r3)
    .ret) .skip))
    (.seq (.reg F.osierref04_With.r4)
    .ret))))
noncomputable def F.osierref04_With.rs : List RO := [(.mv (.tmp 4))]
theorem F.osierref04_With.ok : cFunc Go.Proofs.Try.prog F.osierref04_With = some (15, F.osierref04_With.ic, F.osierref04_With.rs) := by kernel_rfl
theorem F.osierref04_With.cl : callable Go.Proofs.Try.prog F.osierref04_With = true := by kernel_rfl
noncomputable def F.osierref08_one.r0 : Plan :=
  .ef 0 none (.box (.tmp 3)) (some 7) [] (
  .ef 1 none (.alloc [(.int .i64 0), (.int .i64 0), (.int .i64 0), (.slice none 0 0), (.int .i64 0), (.int .i64 0), (.int .i64 0), (.int .i64 0), (.int .i64 0), (.int .i64 0), (.int .i64 0), (.int .i64 0), (.int .i64 0), (.string ⟨#[]⟩)]) (some 8) [] (
  .done) .none) .none
noncomputable def F.osierref08_one.r1 : Plan :=
  .rd 0 none (.mv (.tmp 2)) (some 16) false <|
  .rd 1 none (.mv (.tmp 1)) (some 17) false <|
  .rd 2 none (.mv (.tmp 2)) (some 18) false <|
  .rd 6 none (.mv (.tmp 0)) (some 22) false <|
  .rd 7 none (.mv (.tmp 1)) (some 23) false <|
  .rd 10 none (.mv (.tmp 1)) (some 26) false <|
  .rd 11 none (.fldA 2 (.tmp 7)) (some 27) false <|
  .rd 12 none (.ld1 (.tmp 27)) (some 28) true <|
  .ef 3 none (.call F.osierref04_Get [(.tmp 17), (.tmp 18)]) (some 19) [0, 6, 7, 10, 11, 12] (
  .rd 4 none (.bin .add (.tmp 19) (.const (.int .i64 1))) (some 20) false <|
  .rd 5 none (.build [(.int .i64 0), (.int .i64 0)] [(0, (1, (.tmp 16))), (1, (1, (.tmp 20)))]) (some 21) false <|
  .ef 8 none (.call F.osierref08_Latest [(.tmp 22), (.tmp 23)]) (some 24) [0, 4, 5, 10, 11, 12] (
  .rd 9 none (.bin .add (.tmp 24) (.const (.int .i64 1))) (some 25) false <|
  .ef 13 none (.call F.osierref08_abs [(.tmp 28)]) (some 29) [0, 4, 5, 9, 10] (
  .rd 14 none (.bin .rem (.tmp 29) (.const (.int .i64 3))) (some 30) false <|
  .rd 15 none (.bin .add (.const (.int .i64 1)) (.tmp 30)) (some 31) false <|
  .rd 16 none (.build [(.int .i64 0), (.int .i64 0), (.int .i64 0), (.slice none 0 0), (.int .i64 0), (.int .i64 0), (.int .i64 0), (.int .i64 0), (.int .i64 0), (.int .i64 0), (.int .i64 0), (.int .i64 0), (.int .i64 0), (.string ⟨#[]⟩)] [(0, (2, (.tmp 21))), (2, (1, (.tmp 25))), (3, (1, (.tmp 26))), (4, (1, (.tmp 31)))]) (some 32) false <|
  .ef 17 none (.alloc [(.int .i64 0), (.int .i64 0), (.int .i64 0), (.slice none 0 0), (.int .i64 0), (.int .i64 0), (.int .i64 0), (.int .i64 0), (.int .i64 0), (.int .i64 0), (.int .i64 0), (.int .i64 0), (.int .i64 0), (.string ⟨#[]⟩)]) (some 9) [0, 1, 2, 4, 5, 6, 7, 9, 10, 11, 12, 14, 15, 16] (
  .ef 18 none (.st 14 (.tmp 9) (.tmp 32)) none [] (
  .done) .none) .none) (
    .ef 17 none (.alloc [(.int .i64 0), (.int .i64 0), (.int .i64 0), (.slice none 0 0), (.int .i64 0), (.int .i64 0), (.int .i64 0), (.int .i64 0), (.int .i64 0), (.int .i64 0), (.int .i64 0), (.int .i64 0), (.int .i64 0), (.string ⟨#[]⟩)]) (some 9) [0, 1, 2, 4, 5, 6, 7, 9, 10, 11, 12] (
    .ef 13 none (.call F.osierref08_abs [(.tmp 28)]) (some 29) [0, 4, 5, 9, 10] (
    .rd 14 none (.bin .rem (.tmp 29) (.const (.int .i64 3))) (some 30) false <|
    .rd 15 none (.bin .add (.const (.int .i64 1)) (.tmp 30)) (some 31) false <|
    .rd 16 none (.build [(.int .i64 0), (.int .i64 0), (.int .i64 0), (.slice none 0 0), (.int .i64 0), (.int .i64 0), (.int .i64 0), (.int .i64 0), (.int .i64 0), (.int .i64 0), (.int .i64 0), (.int .i64 0), (.int .i64 0), (.string ⟨#[]⟩)] [(0, (2, (.tmp 21))), (2, (1, (.tmp 25))), (3, (1, (.tmp 26))), (4, (1, (.tmp 31)))]) (some 32) false <|
    .ef 18 none (.st 14 (.tmp 9) (.tmp 32)) none [] (
    .done) .none) .none) .none)) (
    .ef 17 none (.alloc [(.int .i64 0), (.int .i64 0), (.int .i64 0), (.slice none 0 0), (.int .i64 0), (.int .i64 0), (.int .i64 0), (.int .i64 0), (.int .i64 0), (.int .i64 0), (.int .i64 0), (.int .i64 0), (.int .i64 0), (.string ⟨#[]⟩)]) (some 9) [0, 1, 2, 4, 5, 6, 7, 10, 11, 12] (
    .ef 8 none (.call F.osierref08_Latest [(.tmp 22), (.tmp 23)]) (some 24) [0, 4, 5, 10, 11, 12] (
    .rd 9 none (.bin .add (.tmp 24) (.const (.int .i64 1))) (some 25) false <|
    .ef 13 none (.call F.osierref08_abs [(.tmp 28)]) (some 29) [0, 4, 5, 9, 10] (
    .rd 14 none (.bin .rem (.tmp 29) (.const (.int .i64 3))) (some 30) false <|
    .rd 15 none (.bin .add (.const (.int .i64 1)) (.tmp 30)) (some 31) false <|
    .rd 16 none (.build [(.int .i64 0), (.int .i64 0), (.int .i64 0), (.slice none 0 0), (.int .i64 0), (.int .i64 0), (.int .i64 0), (.int .i64 0), (.int .i64 0), (.int .i64 0), (.int .i64 0), (.int .i64 0), (.int .i64 0), (.string ⟨#[]⟩)] [(0, (2, (.tmp 21))), (2, (1, (.tmp 25))), (3, (1, (.tmp 26))), (4, (1, (.tmp 31)))]) (some 32) false <|
    .ef 18 none (.st 14 (.tmp 9) (.tmp 32)) none [] (
    .done) .none) .none) .none) .none)) (
    .ef 17 none (.alloc [(.int .i64 0), (.int .i64 0), (.int .i64 0), (.slice none 0 0), (.int .i64 0), (.int .i64 0), (.int .i64 0), (.int .i64 0), (.int .i64 0), (.int .i64 0), (.int .i64 0), (.int .i64 0), (.int .i64 0), (.string ⟨#[]⟩)]) (some 9) [0, 1, 2, 6, 7, 10, 11, 12] (
    .ef 3 none (.call F.osierref04_Get [(.tmp 17), (.tmp 18)]) (some 19) [0, 6, 7, 10, 11, 12] (
    .rd 4 none (.bin .add (.tmp 19) (.const (.int .i64 1))) (some 20) false <|
    .rd 5 none (.build [(.int .i64 0), (.int .i64 0)] [(0, (1, (.tmp 16))), (1, (1, (.tmp 20)))]) (some 21) false <|
    .ef 8 none (.call F.osierref08_Latest [(.tmp 22), (.tmp 23)]) (some 24) [0, 4, 5, 10, 11, 12] (
    .rd 9 none (.bin .add (.tmp 24) (.const (.int .i64 1))) (some 25) false <|
    .ef 13 none (.call F.osierref08_abs [(.tmp 28)]) (some 29) [0, 4, 5, 9, 10] (
    .rd 14 none (.bin .rem (.tmp 29) (.const (.int .i64 3))) (some 30) false <|
    .rd 15 none (.bin .add (.const (.int .i64 1)) (.tmp 30)) (some 31) false <|
    .rd 16 none (.build [(.int .i64 0), (.int .i64 0), (.int .i64 0), (.slice none 0 0), (.int .i64 0), (.int .i64 0), (.int .i64 0), (.int .i64 0), (.int .i64 0), (.int .i64 0), (.int .i64 0), (.int .i64 0), (.int .i64 0), (.string ⟨#[]⟩)] [(0, (2, (.tmp 21))), (2, (1, (.tmp 25))), (3, (1, (.tmp 26))), (4, (1, (.tmp 31)))]) (some 32) false <|
    .ef 18 none (.st 14 (.tmp 9) (.tmp 32)) none [] (
    .done) .none) .none) .none) .none) .none)
noncomputable def F.osierref08_one.r2 : Plan :=
  .rd 0 none (.mv (.const (.slice none 0 0))) (some 10) false <|
  .done
noncomputable def F.osierref08_one.r3 : Plan :=
  .rd 0 none (.mv (.const (.int .i64 0))) (some 11) false <|
  .done
noncomputable def F.osierref08_one.r4 : Plan :=
  .rd 0 none (.mv (.tmp 11)) (some 33) false <|
  .rd 1 none (.mv (.tmp 0)) (some 34) false <|
  .rd 2 none (.len .sl (.tmp 34)) (some 35) false <|
  .rd 3 none (.bin .lss (.tmp 33) (.tmp 35)) (some 36) false <|
  .done
noncomputable def F.osierref08_one.r5 : Plan :=
  .rd 0 none (.mv (.tmp 1)) (some 39) false <|
  .rd 1 none (.mv (.tmp 0)) (some 40) false <|
  .rd 2 none (.mv (.tmp 11)) (some 41) false <|
  .rd 3 none (.idxA 14 (.tmp 40) (.tmp 41)) (some 42) false <|
  .rd 4 none (.fldA 0 (.tmp 42)) (some 43) false <|
  .rd 5 none (.ldn 2 (.tmp 43)) (some 44) false <|
  .ef 6 none (.call F.osierref04_Has [(.tmp 39), (.tmp 44)]) (some 45) [] (
  .rd 7 none (.mv (.tmp 45)) (some 12) false <|
  .done) .none
noncomputable def F.osierref08_one.r6 : Plan :=
  .rd 0 none (.mv (.tmp 12)) (some 46) false <|
  .rd 1 none (.mv (.tmp 46)) (some 47) false <|
  .rd 2 (some (47, true)) (.mv (.tmp 0)) (some 48) false <|
  .rd 3 (some (47, true)) (.mv (.tmp 11)) (some 49) false <|
  .rd 4 (some (47, true)) (.idxA 14 (.tmp 48) (.tmp 49)) (some 50) false <|
  .rd 5 (some (47, true)) (.fldA 4 (.tmp 50)) (some 51) false <|
  .rd 6 (some (47, true)) (.ld1 (.tmp 51)) (some 52) false <|
  .rd 7 (some (47, true)) (.bin .eql (.tmp 52) (.const (.int .i64 3))) (some 53) false <|
  .rd 8 none (.pick (.tmp 47) (.tmp 53) (.const (.bool false))) (some 54) false <|
  .rd 9 none (.mv (.tmp 54)) (some 55) false <|
  .rd 10 (some (55, true)) (.mv (.tmp 0)) (some 56) false <|
  .rd 11 (some (55, true)) (.mv (.tmp 11)) (some 57) false <|
  .rd 12 (some (55, true)) (.idxA 14 (.tmp 56) (.tmp 57)) (some 58) false <|
  .rd 13 (some (55, true)) (.fldA 5 (.tmp 58)) (some 59) false <|
  .rd 14 (some (55, true)) (.ldn 2 (.tmp 59)) (some 60) false <|
  .rd 15 (some (55, true)) (.mv (.tmp 0)) (some 61) false <|
  .rd 16 (some (55, true)) (.mv (.tmp 11)) (some 62) false <|
  .rd 17 (some (55, true)) (.idxA 14 (.tmp 61) (.tmp 62)) (some 63) false <|
  .rd 18 (some (55, true)) (.fldA 0 (.tmp 63)) (some 64) false <|
  .rd 19 (some (55, true)) (.ldn 2 (.tmp 64)) (some 65) false <|
  .rd 20 (some (55, true)) (.eqS [(.i .i64), (.i .i64)] true false (.tmp 60) (.tmp 65)) (some 66) false <|
  .rd 21 none (.pick (.tmp 55) (.tmp 66) (.const (.bool false))) (some 67) false <|
  .done
noncomputable def F.osierref08_one.r7 : Plan :=
  .rd 0 none (.mv (.tmp 10)) (some 68) false <|
  .rd 1 none (.mv (.tmp 0)) (some 69) false <|
  .rd 2 none (.mv (.tmp 11)) (some 70) false <|
  .rd 3 none (.idxA 14 (.tmp 69) (.tmp 70)) (some 71) false <|
  .rd 4 none (.fldA 0 (.tmp 71)) (some 72) false <|
  .rd 5 none (.ldn 2 (.tmp 72)) (some 73) false <|
  .ef 6 none (.bsl 1 [(.int .i64 0), (.int .i64 0)] [(0, (2, (.tmp 73)))]) (some 74) [] (
  .ef 7 none (.app 2 16 (.tmp 68) (.tmp 74)) (some 75) [] (
  .rd 8 none (.mv (.tmp 75)) (some 10) false <|
  .done) .none) .none
noncomputable def F.osierref08_one.r8 : Plan :=
  .rd 0 none (.mv (.tmp 11)) (some 37) false <|
  .rd 1 none (.bin .add (.tmp 37) (.const (.int .i64 1))) (some 38) false <|
  .rd 2 none (.mv (.tmp 38)) (some 11) false <|
  .done
noncomputable def F.osierref08_one.l0 : IC :=
    (.seq (.seq (.reg F.osierref08_one.r4)
    (.cond (.tmp 36) .skip (.exit 0)))
    (.seq (.block 1 (.seq (.reg F.osierref08_one.r5)
    (.seq (.reg F.osierref08_one.r6)
    (.cond (.tmp 67) (.reg F.osierref08_one.r7) .skip))))
    (.reg F.osierref08_one.r8)))
noncomputable def F.osierref08_one.r9 : Plan :=
  .rd 0 none (.mv (.tmp 10)) (some 76) false <|
  .rd 1 none (.len .sl (.tmp 76)) (some 77) false <|
  .rd 2 none (.bin .eql (.tmp 77) (.const (.int .i64 0))) (some 78) false <|
  .done
noncomputable def F.osierref08_one.r10 : Plan :=
  .rd 0 none (.fldA 4 (.tmp 9)) (some 79) false <|
  .ef 1 none (.st 1 (.tmp 79) (.const (.int .i64 3))) none [] (
  .done) .none
noncomputable def F.osierref08_one.r11 : Plan :=
  .rd 0 none (.fldA 4 (.tmp 9)) (some 80) false <|
  .rd 1 none (.ld1 (.tmp 80)) (some 81) false <|
  .rd 2 none (.bin .eql (.tmp 81) (.const (.int .i64 3))) (some 82) false <|
  .done
noncomputable def F.osierref08_one.r12 : Plan :=
  .rd 0 none (.ldn 14 (.tmp 9)) (some 83) false <|
  .rd 1 none (.mv (.tmp 10)) (some 84) false <|
  .rd 2 none (.ldn 6 (.tmp 7)) (some 85) false <|
  .ef 3 none (.call F.osierref08_moved [(.tmp 83), (.tmp 84), (.tmp 85)]) (some 86) [] (
  .ef 4 none (.st 14 (.tmp 8) (.tmp 86)) none [] (
  .done) .none) .none
noncomputable def F.osierref08_one.r13 : Plan :=
  .rd 0 none (.mv (.tmp 10)) (some 87) false <|
  .rd 1 none (.fldA 3 (.tmp 7)) (some 88) false <|
  .rd 2 none (.ld1 (.tmp 88)) (some 89) false <|
  .ef 3 none (.call F.osierref08_abs [(.tmp 89)]) (some 90) [] (
  .rd 4 none (.mv (.tmp 10)) (some 91) false <|
  .rd 5 none (.len .sl (.tmp 91)) (some 92) false <|
  .rd 6 none (.bin .rem (.tmp 90) (.tmp 92)) (some 93) false <|
  .rd 7 none (.idxA 2 (.tmp 87) (.tmp 93)) (some 94) false <|
  .rd 8 none (.ldn 2 (.tmp 94)) (some 95) false <|
  .rd 9 none (.fldA 5 (.tmp 9)) (some 96) false <|
  .ef 10 none (.st 2 (.tmp 96) (.tmp 95)) none [] (
  .done) .none) .none
noncomputable def F.osierref08_one.r14 : Plan :=
  .rd 0 none (.mv (.const (.slice none 0 0))) (some 13) false <|
  .done
noncomputable def F.osierref08_one.r15 : Plan :=
  .rd 0 none (.mv (.const (.int .i64 0))) (some 14) false <|
  .done
noncomputable def F.osierref08_one.r16 : Plan :=
  .rd 0 none (.mv (.tmp 14)) (some 97) false <|
  .rd 1 none (.mv (.tmp 0)) (some 98) false <|
  .rd 2 none (.len .sl (.tmp 98)) (some 99) false <|
  .rd 3 none (.bin .lss (.tmp 97) (.tmp 99)) (some 100) false <|
  .done
noncomputable def F.osierref08_one.r17 : Plan :=
  .rd 0 none (.mv (.tmp 1)) (some 103) false <|
  .rd 1 none (.mv (.tmp 0)) (some 104) false <|
  .rd 2 none (.mv (.tmp 14)) (some 105) false <|
  .rd 3 none (.idxA 14 (.tmp 104) (.tmp 105)) (some 106) false <|
  .rd 4 none (.fldA 0 (.tmp 106)) (some 107) false <|
  .rd 5 none (.ldn 2 (.tmp 107)) (some 108) false <|
  .ef 6 none (.call F.osierref04_Has [(.tmp 103), (.tmp 108)]) (some 109) [] (
  .rd 7 none (.mv (.tmp 109)) (some 15) false <|
  .done) .none
noncomputable def F.osierref08_one.r18 : Plan :=
  .rd 0 none (.mv (.tmp 15)) (some 110) false <|
  .rd 1 none (.mv (.tmp 110)) (some 111) false <|
  .rd 2 (some (111, true)) (.mv (.tmp 0)) (some 112) false <|
  .rd 3 (some (111, true)) (.mv (.tmp 14)) (some 113) false <|
  .rd 4 (some (111, true)) (.idxA 14 (.tmp 112) (.tmp 113)) (some 114) false <|
  .rd 5 (some (111, true)) (.fldA 4 (.tmp 114)) (some 115) false <|
  .rd 6 (some (111, true)) (.ld1 (.tmp 115)) (some 116) false <|
  .rd 7 (some (111, true)) (.bin .eql (.tmp 116) (.const (.int .i64 1))) (some 117) false <|
  .rd 8 none (.pick (.tmp 111) (.tmp 117) (.const (.bool false))) (some 118) false <|
  .rd 9 none (.mv (.tmp 118)) (some 119) false <|
  .rd 10 (some (119, true)) (.mv (.tmp 0)) (some 120) false <|
  .rd 11 (some (119, true)) (.mv (.tmp 14)) (some 121) false <|
  .rd 12 (some (119, true)) (.idxA 14 (.tmp 120) (.tmp 121)) (some 122) false <|
  .rd 13 (some (119, true)) (.fldA 5 (.tmp 122)) (some 123) false <|
  .rd 14 (some (119, true)) (.ldn 2 (.tmp 123)) (some 124) false <|
  .rd 15 (some (119, true)) (.fldA 5 (.tmp 9)) (some 125) false <|
  .rd 16 (some (119, true)) (.ldn 2 (.tmp 125)) (some 126) false <|
  .rd 17 (some (119, true)) (.eqS [(.i .i64), (.i .i64)] true false (.tmp 124) (.tmp 126)) (some 127) false <|
  .rd 18 none (.pick (.tmp 119) (.tmp 127) (.const (.bool false))) (some 128) false <|
  .done
noncomputable def F.osierref08_one.r19 : Plan :=
  .rd 0 none (.mv (.tmp 13)) (some 129) false <|
  .rd 1 none (.mv (.tmp 0)) (some 130) false <|
  .rd 2 none (.mv (.tmp 14)) (some 131) false <|
  .rd 3 none (.idxA 14 (.tmp 130) (.tmp 131)) (some 132) false <|
  .rd 4 none (.fldA 0 (.tmp 132)) (some 133) false <|
  .rd 5 none (.ldn 2 (.tmp 133)) (some 134) false <|
  .ef 6 none (.bsl 1 [(.int .i64 0), (.int .i64 0)] [(0, (2, (.tmp 134)))]) (some 135) [] (
  .ef 7 none (.app 2 16 (.tmp 129) (.tmp 135)) (some 136) [] (
  .rd 8 none (.mv (.tmp 136)) (some 13) false <|
  .done) .none) .none
noncomputable def F.osierref08_one.r20 : Plan :=
  .rd 0 none (.mv (.tmp 14)) (some 101) false <|
  .rd 1 none (.bin .add (.tmp 101) (.const (.int .i64 1))) (some 102) false <|
  .rd 2 none (.mv (.tmp 102)) (some 14) false <|
  .done
noncomputable def F.osierref08_one.l1 : IC :=
    (.seq (.seq (.reg F.osierref08_one.r16)
    (.cond (.tmp 100) .skip (.exit 2)))
    (.seq (.block 3 (.seq (.reg F.osierref08_one.r17)
    (.seq (.reg F.osierref08_one.r18)
    (.cond (.tmp 128) (.reg F.osierref08_one.r19) .skip))))
    (.reg F.osierref08_one.r20)))
noncomputable def F.osierref08_one.r21 : Plan :=
  .rd 0 none (.mv (.tmp 13)) (some 137) false <|
  .rd 1 none (.len .sl (.tmp 137)) (some 138) false <|
  .rd 2 none (.bin .eql (.tmp 138) (.const (.int .i64 0))) (some 139) false <|
  .done
noncomputable def F.osierref08_one.r22 : Plan :=
  .rd 0 none (.fldA 4 (.tmp 9)) (some 140) false <|
  .ef 1 none (.st 1 (.tmp 140) (.const (.int .i64 1))) none [] (
  .done) .none
noncomputable def F.osierref08_one.r23 : Plan :=
  .rd 0 none (.mv (.tmp 13)) (some 141) false <|
  .rd 1 none (.fldA 4 (.tmp 7)) (some 142) false <|
  .rd 2 none (.ld1 (.tmp 142)) (some 143) false <|
  .ef 3 none (.call F.osierref08_abs [(.tmp 143)]) (some 144) [] (
  .rd 4 none (.mv (.tmp 13)) (some 145) false <|
  .rd 5 none (.len .sl (.tmp 145)) (some 146) false <|
  .rd 6 none (.bin .rem (.tmp 144) (.tmp 146)) (some 147) false <|
  .rd 7 none (.idxA 2 (.tmp 141) (.tmp 147)) (some 148) false <|
  .rd 8 none (.ldn 2 (.tmp 148)) (some 149) false <|
  .rd 9 none (.fldA 7 (.tmp 9)) (some 150) false <|
  .ef 10 none (.st 2 (.tmp 150) (.tmp 149)) none [] (
  .done) .none) .none
noncomputable def F.osierref08_one.r24 : Plan :=
  .rd 0 none (.fldA 4 (.tmp 9)) (some 151) false <|
  .rd 1 none (.ld1 (.tmp 151)) (some 152) false <|
  .rd 2 none (.bin .eql (.tmp 152) (.const (.int .i64 1))) (some 153) false <|
  .done
noncomputable def F.osierref08_one.r25 : Plan :=
  .rd 0 none (.fldA 9 (.tmp 9)) (some 154) false <|
  .ef 1 none (.st 1 (.tmp 154) (.const (.int .i64 1))) none [] (
  .done) .none
noncomputable def F.osierref08_one.r26 : Plan :=
  .rd 0 none (.fldA 2 (.tmp 7)) (some 155) false <|
  .rd 1 none (.ld1 (.tmp 155)) (some 156) false <|
  .ef 2 none (.call F.osierref08_abs [(.tmp 156)]) (some 157) [] (
  .rd 3 none (.bin .rem (.tmp 157) (.const (.int .i64 26))) (some 158) false <|
  .rd 4 none (.bin .add (.const (.int .i64 97)) (.tmp 158)) (some 159) false <|
  .rd 5 none (.fldA 10 (.tmp 9)) (some 160) false <|
  .ef 6 none (.st 1 (.tmp 160) (.tmp 159)) none [] (
  .done) .none) .none
noncomputable def F.osierref08_one.r27 : Plan :=
  .rd 0 none (.fldA 7 (.tmp 9)) (some 161) false <|
  .rd 1 none (.ldn 2 (.tmp 161)) (some 162) false <|
  .rd 2 none (.build [(.int .i64 0), (.int .i64 0)] []) (some 163) false <|
  .rd 3 none (.eqS [(.i .i64), (.i .i64)] true true (.tmp 162) (.tmp 163)) (some 164) false <|
  .done
noncomputable def F.osierref08_one.r28 : Plan :=
  .rd 0 none (.fldA 1 (.tmp 7)) (some 165) false <|
  .rd 1 none (.ld1 (.tmp 165)) (some 166) false <|
  .ef 2 none (.call F.osierref08_abs [(.tmp 166)]) (some 167) [] (
  .rd 3 none (.bin .rem (.tmp 167) (.const (.int .i64 2))) (some 168) false <|
  .rd 4 none (.fldA 9 (.tmp 9)) (some 169) false <|
  .ef 5 none (.st 1 (.tmp 169) (.tmp 168)) none [] (
  .done) .none) .none
noncomputable def F.osierref08_one.r29 : Plan :=
  .rd 0 none (.fldA 4 (.tmp 7)) (some 170) false <|
  .rd 1 none (.ld1 (.tmp 170)) (some 171) false <|
  .ef 2 none (.call F.osierref08_abs [(.tmp 171)]) (some 172) [] (
  .rd 3 none (.bin .rem (.tmp 172) (.const (.int .i64 5))) (some 173) false <|
  .rd 4 none (.bin .eql (.tmp 173) (.const (.int .i64 0))) (some 174) false <|
  .done) .none
noncomputable def F.osierref08_one.r30 : Plan :=
  .rd 0 none (.build [(.int .i64 0), (.int .i64 0)] []) (some 175) false <|
  .rd 1 none (.fldA 7 (.tmp 9)) (some 176) false <|
  .ef 2 none (.st 2 (.tmp 176) (.tmp 175)) none [] (
  .done) .none
noncomputable def F.osierref08_one.r31 : Plan :=
  .rd 0 none (.fldA 9 (.tmp 9)) (some 177) false <|
  .ef 1 none (.st 1 (.tmp 177) (.const (.int .i64 1))) none [] (
  .done) .none
noncomputable def F.osierref08_one.r32 : Plan :=
  .rd 0 none (.ldn 14 (.tmp 9)) (some 178) false <|
  .ef 1 none (.st 14 (.tmp 8) (.tmp 178)) none [] (
  .done) .none
noncomputable def F.osierref08_one.ic : IC :=
    (.seq (.reg F.osierref08_one.r0)
    (.seq (.reg F.osierref08_one.r1)
    (.seq (.reg F.osierref08_one.r2)
    (.seq (.seq (.reg F.osierref08_one.r3)
    (.block 0 (.loop F.osierref08_one.l0)))
    (.seq (.seq (.reg F.osierref08_one.r9)
    (.cond (.tmp 78) (.reg F.osierref08_one.r10) .skip))
    (.seq (.seq (.reg F.osierref08_one.r11)
    (.cond (.tmp 82) (.seq (.reg F.osierref08_one.r12)
    .ret) .skip))
    (.seq (.reg F.osierref08_one.r13)
    (.seq (.reg F.osierref08_one.r14)
    (.seq (.seq (.reg F.osierref08_one.r15)
    (.block 2 (.loop F.osierref08_one.l1)))
    (.seq (.seq (.reg F.osierref08_one.r21)
    (.cond (.tmp 139) (.reg F.osierref08_one.r22) (.reg F.osierref08_one.r23)))
    (.seq (.seq (.reg F.osierref08_one.r24)
    (.cond (.tmp 153) (.seq (.reg F.osierref08_one.r25)
    (.seq (.reg F.osierref08_one.r26)
    (.seq (.seq (.reg F.osierref08_one.r27)
    (.cond (.tmp 164) (.reg F.osierref08_one.r28) .skip))
    (.seq (.reg F.osierref08_one.r29)
    (.cond (.tmp 174) (.seq (.reg F.osierref08_one.r30)
    (.reg F.osierref08_one.r31)) .skip))))) .skip))
    (.seq (.reg F.osierref08_one.r32)
    .ret))))))))))))
noncomputable def F.osierref08_one.rs : List RO := [(.ldn 14 (.tmp 8))]
theorem F.osierref08_one.ok : cFunc Go.Proofs.Try.prog F.osierref08_one = some (179, F.osierref08_one.ic, F.osierref08_one.rs) := by kernel_rfl
theorem F.osierref08_one.cl : callable Go.Proofs.Try.prog F.osierref08_one = true := by kernel_rfl
noncomputable def F.osierref07_Check.r0 : Plan :=
  .ef 0 none (.box (.tmp 0)) (some 1) [] (
  .rd 1 none (.mv (.const (.bool false))) (some 2) false <|
  .done) .none
noncomputable def F.osierref07_Check.r1 : Plan :=
  .rd 0 none (.fldA 0 (.tmp 1)) (some 13) false <|
  .rd 1 none (.ldn 2 (.tmp 13)) (some 14) false <|
  .ef 2 none (.call F.osierref03_May [(.tmp 14)]) (some 15) [] (
  .rd 3 none (.mv (.tmp 15)) (some 3) false <|
  .done) .none
noncomputable def F.osierref07_Check.r2 : Plan :=
  .rd 0 none (.fldA 3 (.tmp 1)) (some 16) false <|
  .rd 1 none (.ld1 (.tmp 16)) (some 17) false <|
  .ef 2 none (.call F.osierref04_May [(.tmp 17)]) (some 18) [] (
  .rd 3 none (.mv (.tmp 18)) (some 4) false <|
  .done) .none
noncomputable def F.osierref07_Check.r3 : Plan :=
  .rd 0 none (.mv (.tmp 3)) (some 19) false <|
  .rd 1 none (.un .not (.tmp 19)) (some 20) false <|
  .rd 2 none (.mv (.tmp 20)) (some 21) false <|
  .rd 3 (some (21, false)) (.mv (.tmp 4)) (some 22) false <|
  .rd 4 (some (21, false)) (.un .not (.tmp 22)) (some 23) false <|
  .rd 5 none (.pick (.tmp 21) (.const (.bool true)) (.tmp 23)) (some 24) false <|
  .rd 6 none (.mv (.tmp 24)) (some 25) false <|
  .rd 7 (some (25, false)) (.fldA 2 (.tmp 1)) (some 26) false <|
  .rd 8 (some (25, false)) (.ld1 (.tmp 26)) (some 27) false <|
  .rd 9 (some (25, false)) (.bin .lss (.tmp 27) (.const (.int .i64 1))) (some 28) false <|
  .rd 10 none (.pick (.tmp 25) (.const (.bool true)) (.tmp 28)) (some 29) false <|
  .rd 11 none (.mv (.tmp 29)) (some 30) false <|
  .rd 12 (some (30, false)) (.fldA 2 (.tmp 1)) (some 31) false <|
  .rd 13 (some (30, false)) (.ld1 (.tmp 31)) (some 32) false <|
  .rd 14 (some (30, false)) (.bin .gtr (.tmp 32) (.const (.int .i64 1099511627776))) (some 33) false <|
  .rd 15 none (.pick (.tmp 30) (.const (.bool true)) (.tmp 33)) (some 34) false <|
  .rd 16 none (.mv (.tmp 34)) (some 35) false <|
  .rd 17 (some (35, false)) (.fldA 3 (.tmp 1)) (some 36) false <|
  .rd 18 (some (35, false)) (.ld1 (.tmp 36)) (some 37) false <|
  .rd 19 (some (35, false)) (.fldA 0 (.tmp 1)) (some 38) false <|
  .rd 20 (some (35, false)) (.fldA 0 (.tmp 38)) (some 39) false <|
  .rd 21 (some (35, false)) (.ld1 (.tmp 39)) (some 40) false <|
  .rd 23 (some (35, false)) (.fldA 0 (.tmp 1)) (some 42) false <|
  .rd 24 (some (35, false)) (.fldA 1 (.tmp 42)) (some 43) false <|
  .rd 25 (some (35, false)) (.ld1 (.tmp 43)) (some 44) true <|
  .rd 26 (some (35, false)) (.bin .sub (.tmp 44) (.const (.int .i64 1))) (some 45) false <|
  .ef 22 (some (35, false)) (.call F.osierref04_Get [(.tmp 37), (.tmp 40)]) (some 41) [23, 24, 25, 26] (
  .rd 27 (some (35, false)) (.bin .neq (.tmp 41) (.tmp 45)) (some 46) false <|
  .rd 28 none (.pick (.tmp 35) (.const (.bool true)) (.tmp 46)) (some 47) false <|
  .done) .none
noncomputable def F.osierref07_Check.r4 : Plan :=
  .rd 0 none (.mv (.const (.bool false))) (some 2) false <|
  .done
noncomputable def F.osierref07_Check.r5 : Plan :=
  .rd 0 none (.fldA 3 (.tmp 1)) (some 48) false <|
  .rd 1 none (.ld1 (.tmp 48)) (some 49) false <|
  .rd 2 none (.fldA 5 (.tmp 1)) (some 50) false <|
  .rd 3 none (.ldn 2 (.tmp 50)) (some 51) false <|
  .ef 4 none (.call F.osierref04_Has [(.tmp 49), (.tmp 51)]) (some 52) [] (
  .rd 5 none (.mv (.tmp 52)) (some 5) false <|
  .done) .none
noncomputable def F.osierref07_Check.r6 : Plan :=
  .rd 0 none (.fldA 3 (.tmp 1)) (some 53) false <|
  .rd 1 none (.ld1 (.tmp 53)) (some 54) false <|
  .rd 2 none (.fldA 7 (.tmp 1)) (some 55) false <|
  .rd 3 none (.ldn 2 (.tmp 55)) (some 56) false <|
  .ef 4 none (.call F.osierref04_Has [(.tmp 54), (.tmp 56)]) (some 57) [] (
  .rd 5 none (.mv (.tmp 57)) (some 6) false <|
  .done) .none
noncomputable def F.osierref07_Check.r7 : Plan :=
  .rd 0 none (.fldA 3 (.tmp 1)) (some 58) false <|
  .rd 1 none (.ld1 (.tmp 58)) (some 59) false <|
  .rd 2 none (.fldA 11 (.tmp 1)) (some 60) false <|
  .rd 3 none (.ldn 2 (.tmp 60)) (some 61) false <|
  .ef 4 none (.call F.osierref04_Has [(.tmp 59), (.tmp 61)]) (some 62) [] (
  .rd 5 none (.mv (.tmp 62)) (some 7) false <|
  .done) .none
noncomputable def F.osierref07_Check.r8 : Plan :=
  .rd 0 none (.fldA 13 (.tmp 1)) (some 63) false <|
  .rd 1 none (.ld1 (.tmp 63)) (some 64) false <|
  .ef 2 none (.call F.osierref06_May [(.tmp 64)]) (some 65) [] (
  .rd 3 none (.mv (.tmp 65)) (some 8) false <|
  .done) .none
noncomputable def F.osierref07_Check.r9 : Plan :=
  .rd 0 none (.build [(.int .i64 0), (.int .i64 0)] []) (some 66) false <|
  .ef 1 none (.alloc [(.int .i64 0), (.int .i64 0)]) (some 9) [] (
  .ef 2 none (.st 2 (.tmp 9) (.tmp 66)) none [] (
  .done) .none) .none
noncomputable def F.osierref07_Check.r10 : Plan :=
  .rd 0 none (.build [(.int .i64 0), (.int .i64 0)] [(0, (1, (.const (.int .i64 0)))), (1, (1, (.const (.int .i64 (-1)))))]) (some 67) false <|
  .ef 1 none (.alloc [(.int .i64 0), (.int .i64 0)]) (some 10) [] (
  .ef 2 none (.st 2 (.tmp 10) (.tmp 67)) none [] (
  .done) .none) .none
noncomputable def F.osierref07_Check.r11 : Plan :=
  .rd 0 none (.build [(.int .i64 0), (.int .i64 0)] [(0, (1, (.const (.int .i64 0)))), (1, (1, (.const (.int .i64 (-2)))))]) (some 68) false <|
  .ef 1 none (.alloc [(.int .i64 0), (.int .i64 0)]) (some 11) [] (
  .ef 2 none (.st 2 (.tmp 11) (.tmp 68)) none [] (
  .done) .none) .none
noncomputable def F.osierref07_Check.r12 : Plan :=
  .rd 0 none (.fldA 4 (.tmp 1)) (some 69) false <|
  .rd 1 none (.ld1 (.tmp 69)) (some 70) false <|
  .rd 2 none (.bin .eql (.tmp 70) (.const (.int .i64 1))) (some 71) false <|
  .done
noncomputable def F.osierref07_Check.r13 : Plan :=
  .rd 0 none (.fldA 7 (.tmp 1)) (some 72) false <|
  .rd 1 none (.ldn 2 (.tmp 72)) (some 73) false <|
  .rd 2 none (.ldn 2 (.tmp 9)) (some 74) false <|
  .rd 3 none (.eqS [(.i .i64), (.i .i64)] true false (.tmp 73) (.tmp 74)) (some 75) false <|
  .rd 4 none (.mv (.tmp 75)) (some 76) false <|
  .rd 5 (some (76, true)) (.fldA 9 (.tmp 1)) (some 77) false <|
  .rd 6 (some (76, true)) (.ld1 (.tmp 77)) (some 78) false <|
  .rd 7 (some (76, true)) (.bin .neq (.tmp 78) (.const (.int .i64 1))) (some 79) false <|
  .rd 8 none (.pick (.tmp 76) (.tmp 79) (.const (.bool false))) (some 80) false <|
  .done
noncomputable def F.osierref07_Check.r14 : Plan :=
  .rd 0 none (.mv (.const (.bool false))) (some 2) false <|
  .done
noncomputable def F.osierref07_Check.r15 : Plan :=
  .rd 0 none (.fldA 10 (.tmp 1)) (some 81) false <|
  .rd 1 none (.ld1 (.tmp 81)) (some 82) false <|
  .rd 2 none (.bin .geq (.tmp 82) (.const (.int .i64 0))) (some 83) false <|
  .rd 3 none (.mv (.tmp 83)) (some 84) false <|
  .rd 4 (some (84, true)) (.fldA 10 (.tmp 1)) (some 85) false <|
  .rd 5 (some (84, true)) (.ld1 (.tmp 85)) (some 86) false <|
  .rd 6 (some (84, true)) (.bin .leq (.tmp 86) (.const (.int .i64 1114111))) (some 87) false <|
  .rd 7 none (.pick (.tmp 84) (.tmp 87) (.const (.bool false))) (some 88) false <|
  .rd 8 none (.mv (.tmp 88)) (some 89) false <|
  .rd 9 (some (89, true)) (.fldA 10 (.tmp 1)) (some 90) false <|
  .rd 10 (some (89, true)) (.ld1 (.tmp 90)) (some 91) false <|
  .rd 11 (some (89, true)) (.bin .lss (.tmp 91) (.const (.int .i64 55296))) (some 92) false <|
  .rd 12 (some (89, true)) (.mv (.tmp 92)) (some 93) false <|
  .rd 13 (some (93, false)) (.fldA 10 (.tmp 1)) (some 94) false <|
  .rd 14 (some (93, false)) (.ld1 (.tmp 94)) (some 95) false <|
  .rd 15 (some (93, false)) (.bin .gtr (.tmp 95) (.const (.int .i64 57343))) (some 96) false <|
  .rd 16 (some (89, true)) (.pick (.tmp 93) (.const (.bool true)) (.tmp 96)) (some 97) false <|
  .rd 17 none (.pick (.tmp 89) (.tmp 97) (.const (.bool false))) (some 98) false <|
  .rd 18 none (.mv (.tmp 98)) (some 12) false <|
  .done
noncomputable def F.osierref07_Check.r16 : Plan :=
  .rd 0 none (.mv (.tmp 5)) (some 99) false <|
  .rd 1 none (.mv (.tmp 99)) (some 100) false <|
  .rd 2 (some (100, true)) (.fldA 7 (.tmp 1)) (some 101) false <|
  .rd 3 (some (100, true)) (.ldn 2 (.tmp 101)) (some 102) false <|
  .rd 4 (some (100, true)) (.ldn 2 (.tmp 9)) (some 103) false <|
  .rd 5 (some (100, true)) (.eqS [(.i .i64), (.i .i64)] true false (.tmp 102) (.tmp 103)) (some 104) false <|
  .rd 6 (some (100, true)) (.mv (.tmp 104)) (some 105) false <|
  .rd 7 (some (105, false)) (.mv (.tmp 6)) (some 106) false <|
  .rd 8 (some (100, true)) (.pick (.tmp 105) (.const (.bool true)) (.tmp 106)) (some 107) false <|
  .rd 9 none (.pick (.tmp 100) (.tmp 107) (.const (.bool false))) (some 108) false <|
  .rd 10 none (.mv (.tmp 108)) (some 109) false <|
  .rd 11 (some (109, true)) (.fldA 9 (.tmp 1)) (some 110) false <|
  .rd 12 (some (109, true)) (.ld1 (.tmp 110)) (some 111) false <|
  .rd 13 (some (109, true)) (.bin .eql (.tmp 111) (.const (.int .i64 0))) (some 112) false <|
  .rd 14 (some (109, true)) (.mv (.tmp 112)) (some 113) false <|
  .rd 15 (some (113, false)) (.fldA 9 (.tmp 1)) (some 114) false <|
  .rd 16 (some (113, false)) (.ld1 (.tmp 114)) (some 115) false <|
  .rd 17 (some (113, false)) (.bin .eql (.tmp 115) (.const (.int .i64 1))) (some 116) false <|
  .rd 18 (some (109, true)) (.pick (.tmp 113) (.const (.bool true)) (.tmp 116)) (some 117) false <|
  .rd 19 none (.pick (.tmp 109) (.tmp 117) (.const (.bool false))) (some 118) false <|
  .rd 20 none (.mv (.tmp 118)) (some 119) false <|
  .rd 21 (some (119, true)) (.mv (.tmp 12)) (some 120) false <|
  .rd 22 none (.pick (.tmp 119) (.tmp 120) (.const (.bool false))) (some 121) false <|
  .rd 23 none (.mv (.tmp 121)) (some 122) false <|
  .rd 24 (some (122, true)) (.fldA 11 (.tmp 1)) (some 123) false <|
  .rd 25 (some (122, true)) (.ldn 2 (.tmp 123)) (some 124) false <|
  .rd 26 (some (122, true)) (.ldn 2 (.tmp 9)) (some 125) false <|
  .rd 27 (some (122, true)) (.eqS [(.i .i64), (.i .i64)] true false (.tmp 124) (.tmp 125)) (some 126) false <|
  .rd 28 none (.pick (.tmp 122) (.tmp 126) (.const (.bool false))) (some 127) false <|
  .rd 29 none (.mv (.tmp 127)) (some 128) false <|
  .rd 30 (some (128, true)) (.fldA 13 (.tmp 1)) (some 129) false <|
  .rd 31 (some (128, true)) (.ld1 (.tmp 129)) (some 130) false <|
  .rd 32 (some (128, true)) (.bin .eql (.tmp 130) (.const (.string ⟨#[]⟩))) (some 131) false <|
  .rd 33 none (.pick (.tmp 128) (.tmp 131) (.const (.bool false))) (some 132) false <|
  .rd 34 none (.mv (.tmp 132)) (some 2) false <|
  .done
noncomputable def F.osierref07_Check.r17 : Plan :=
  .rd 0 none (.fldA 4 (.tmp 1)) (some 133) false <|
  .rd 1 none (.ld1 (.tmp 133)) (some 134) false <|
  .rd 2 none (.bin .eql (.tmp 134) (.const (.int .i64 2))) (some 135) false <|
  .done
noncomputable def F.osierref07_Check.r18 : Plan :=
  .rd 0 none (.mv (.tmp 5)) (some 136) false <|
  .rd 1 none (.mv (.tmp 136)) (some 137) false <|
  .rd 2 (some (137, true)) (.mv (.tmp 6)) (some 138) false <|
  .rd 3 none (.pick (.tmp 137) (.tmp 138) (.const (.bool false))) (some 139) false <|
  .rd 4 none (.mv (.tmp 139)) (some 140) false <|
  .rd 5 (some (140, true)) (.fldA 9 (.tmp 1)) (some 141) false <|
  .rd 6 (some (140, true)) (.ld1 (.tmp 141)) (some 142) false <|
  .rd 7 (some (140, true)) (.bin .eql (.tmp 142) (.const (.int .i64 0))) (some 143) false <|
  .rd 8 none (.pick (.tmp 140) (.tmp 143) (.const (.bool false))) (some 144) false <|
  .rd 9 none (.mv (.tmp 144)) (some 145) false <|
  .rd 10 (some (145, true)) (.fldA 10 (.tmp 1)) (some 146) false <|
  .rd 11 (some (145, true)) (.ld1 (.tmp 146)) (some 147) false <|
  .rd 12 (some (145, true)) (.bin .eql (.tmp 147) (.const (.int .i64 0))) (some 148) false <|
  .rd 13 none (.pick (.tmp 145) (.tmp 148) (.const (.bool false))) (some 149) false <|
  .rd 14 none (.mv (.tmp 149)) (some 150) false <|
  .rd 15 (some (150, true)) (.fldA 11 (.tmp 1)) (some 151) false <|
  .rd 16 (some (150, true)) (.ldn 2 (.tmp 151)) (some 152) false <|
  .rd 17 (some (150, true)) (.ldn 2 (.tmp 9)) (some 153) false <|
  .rd 18 (some (150, true)) (.eqS [(.i .i64), (.i .i64)] true false (.tmp 152) (.tmp 153)) (some 154) false <|
  .rd 19 none (.pick (.tmp 150) (.tmp 154) (.const (.bool false))) (some 155) false <|
  .rd 20 none (.mv (.tmp 155)) (some 156) false <|
  .rd 21 (some (156, true)) (.fldA 13 (.tmp 1)) (some 157) false <|
  .rd 22 (some (156, true)) (.ld1 (.tmp 157)) (some 158) false <|
  .rd 23 (some (156, true)) (.bin .eql (.tmp 158) (.const (.string ⟨#[]⟩))) (some 159) false <|
  .rd 24 none (.pick (.tmp 156) (.tmp 159) (.const (.bool false))) (some 160) false <|
  .rd 25 none (.mv (.tmp 160)) (some 2) false <|
  .done
noncomputable def F.osierref07_Check.r19 : Plan :=
  .rd 0 none (.fldA 4 (.tmp 1)) (some 161) false <|
  .rd 1 none (.ld1 (.tmp 161)) (some 162) false <|
  .rd 2 none (.bin .eql (.tmp 162) (.const (.int .i64 3))) (some 163) false <|
  .done
noncomputable def F.osierref07_Check.r20 : Plan :=
  .rd 0 none (.fldA 5 (.tmp 1)) (some 164) false <|
  .rd 1 none (.ldn 2 (.tmp 164)) (some 165) false <|
  .rd 2 none (.fldA 0 (.tmp 1)) (some 166) false <|
  .rd 3 none (.ldn 2 (.tmp 166)) (some 167) false <|
  .rd 4 none (.eqS [(.i .i64), (.i .i64)] true false (.tmp 165) (.tmp 167)) (some 168) false <|
  .rd 5 none (.mv (.tmp 168)) (some 169) false <|
  .rd 6 (some (169, false)) (.mv (.tmp 5)) (some 170) false <|
  .rd 7 none (.pick (.tmp 169) (.const (.bool true)) (.tmp 170)) (some 171) false <|
  .rd 8 none (.mv (.tmp 171)) (some 172) false <|
  .rd 9 (some (172, true)) (.fldA 11 (.tmp 1)) (some 173) false <|
  .rd 10 (some (172, true)) (.ldn 2 (.tmp 173)) (some 174) false <|
  .rd 11 (some (172, true)) (.ldn 2 (.tmp 10)) (some 175) false <|
  .rd 12 (some (172, true)) (.eqS [(.i .i64), (.i .i64)] true false (.tmp 174) (.tmp 175)) (some 176) false <|
  .rd 13 (some (172, true)) (.mv (.tmp 176)) (some 177) false <|
  .rd 14 (some (177, false)) (.fldA 11 (.tmp 1)) (some 178) false <|
  .rd 15 (some (177, false)) (.ldn 2 (.tmp 178)) (some 179) false <|
  .rd 16 (some (177, false)) (.ldn 2 (.tmp 11)) (some 180) false <|
  .rd 17 (some (177, false)) (.eqS [(.i .i64), (.i .i64)] true false (.tmp 179) (.tmp 180)) (some 181) false <|
  .rd 18 (some (172, true)) (.pick (.tmp 177) (.const (.bool true)) (.tmp 181)) (some 182) false <|
  .rd 19 (some (172, true)) (.mv (.tmp 182)) (some 183) false <|
  .rd 20 (some (183, false)) (.mv (.tmp 7)) (some 184) false <|
  .rd 21 (some (172, true)) (.pick (.tmp 183) (.const (.bool true)) (.tmp 184)) (some 185) false <|
  .rd 22 none (.pick (.tmp 172) (.tmp 185) (.const (.bool false))) (some 186) false <|
  .rd 23 none (.mv (.tmp 186)) (some 187) false <|
  .rd 24 (some (187, true)) (.fldA 11 (.tmp 1)) (some 188) false <|
  .rd 25 (some (187, true)) (.ldn 2 (.tmp 188)) (some 189) false <|
  .rd 26 (some (187, true)) (.fldA 5 (.tmp 1)) (some 190) false <|
  .rd 27 (some (187, true)) (.ldn 2 (.tmp 190)) (some 191) false <|
  .rd 28 (some (187, true)) (.eqS [(.i .i64), (.i .i64)] true true (.tmp 189) (.tmp 191)) (some 192) false <|
  .rd 29 none (.pick (.tmp 187) (.tmp 192) (.const (.bool false))) (some 193) false <|
  .rd 30 none (.mv (.tmp 193)) (some 194) false <|
  .rd 31 (some (194, true)) (.mv (.tmp 8)) (some 195) false <|
  .rd 32 none (.pick (.tmp 194) (.tmp 195) (.const (.bool false))) (some 196) false <|
  .rd 33 none (.mv (.tmp 196)) (some 197) false <|
  .rd 34 (some (197, true)) (.fldA 7 (.tmp 1)) (some 198) false <|
  .rd 35 (some (197, true)) (.ldn 2 (.tmp 198)) (some 199) false <|
  .rd 36 (some (197, true)) (.ldn 2 (.tmp 9)) (some 200) false <|
  .rd 37 (some (197, true)) (.eqS [(.i .i64), (.i .i64)] true false (.tmp 199) (.tmp 200)) (some 201) false <|
  .rd 38 none (.pick (.tmp 197) (.tmp 201) (.const (.bool false))) (some 202) false <|
  .rd 39 none (.mv (.tmp 202)) (some 203) false <|
  .rd 40 (some (203, true)) (.fldA 9 (.tmp 1)) (some 204) false <|
  .rd 41 (some (203, true)) (.ld1 (.tmp 204)) (some 205) false <|
  .rd 42 (some (203, true)) (.bin .eql (.tmp 205) (.const (.int .i64 0))) (some 206) false <|
  .rd 43 none (.pick (.tmp 203) (.tmp 206) (.const (.bool false))) (some 207) false <|
  .rd 44 none (.mv (.tmp 207)) (some 208) false <|
  .rd 45 (some (208, true)) (.fldA 10 (.tmp 1)) (some 209) false <|
  .rd 46 (some (208, true)) (.ld1 (.tmp 209)) (some 210) false <|
  .rd 47 (some (208, true)) (.bin .eql (.tmp 210) (.const (.int .i64 0))) (some 211) false <|
  .rd 48 none (.pick (.tmp 208) (.tmp 211) (.const (.bool false))) (some 212) false <|
  .rd 49 none (.mv (.tmp 212)) (some 2) false <|
  .done
noncomputable def F.osierref07_Check.r21 : Plan :=
  .rd 0 none (.mv (.const (.bool false))) (some 2) false <|
  .done
noncomputable def F.osierref07_Check.ic : IC :=
    (.seq (.reg F.osierref07_Check.r0)
    (.seq (.reg F.osierref07_Check.r1)
    (.seq (.reg F.osierref07_Check.r2)
    (.seq (.seq (.reg F.osierref07_Check.r3)
    (.cond (.tmp 47) (.seq (.reg F.osierref07_Check.r4)
    .ret) .skip))
    (.seq (.reg F.osierref07_Check.r5)
    (.seq (.reg F.osierref07_Check.r6)
    (.seq (.reg F.osierref07_Check.r7)
    (.seq (.reg F.osierref07_Check.r8)
    (.seq (.reg F.osierref07_Check.r9)
    (.seq (.reg F.osierref07_Check.r10)
    (.seq (.reg F.osierref07_Check.r11)
    (.seq (.seq (.reg F.osierref07_Check.r12)
    (.cond (.tmp 71) (.seq (.seq (.reg F.osierref07_Check.r13)
    (.cond (.tmp 80) (.seq (.reg F.osierref07_Check.r14)
    .ret) .skip))
    (.seq (.reg F.osierref07_Check.r15)
    (.seq (.reg F.osierref07_Check.r16)
    .ret))) .skip))
    (.seq (.seq (.reg F.osierref07_Check.r17)
    (.cond (.tmp 135) (.seq (.reg F.osierref07_Check.r18)
    .ret) .skip))
    (.seq (.seq (.reg F.osierref07_Check.r19)
    (.cond (.tmp 163) (.seq (.reg F.osierref07_Check.r20)
    .ret) .skip))
    (.seq (.reg F.osierref07_Check.r21)
    .ret)))))))))))))))
noncomputable def F.osierref07_Check.rs : List RO := [(.mv (.tmp 2))]
theorem F.osierref07_Check.ok : cFunc Go.Proofs.Try.prog F.osierref07_Check = some (213, F.osierref07_Check.ic, F.osierref07_Check.rs) := by kernel_rfl
theorem F.osierref07_Check.cl : callable Go.Proofs.Try.prog F.osierref07_Check = true := by kernel_rfl
noncomputable def F.osierref04_Get.r0 : Plan :=
  .rd 0 none (.mv (.const (.int .i64 0))) (some 4) false <|
  .done
noncomputable def F.osierref04_Get.r1 : Plan :=
  .rd 0 none (.mv (.const (.int .i64 0))) (some 5) false <|
  .done
noncomputable def F.osierref04_Get.r2 : Plan :=
  .rd 0 none (.mv (.tmp 5)) (some 6) false <|
  .rd 1 none (.mv (.tmp 0)) (some 7) false <|
  .rd 2 none (.len .sl (.tmp 7)) (some 8) false <|
  .rd 3 none (.bin .lss (.tmp 6) (.tmp 8)) (some 9) false <|
  .done
noncomputable def F.osierref04_Get.r3 : Plan :=
  .rd 0 none (.mv (.tmp 0)) (some 12) false <|
  .rd 1 none (.mv (.tmp 5)) (some 13) false <|
  .rd 2 none (.idxA 2 (.tmp 12) (.tmp 13)) (some 14) false <|
  .rd 3 none (.fldA 0 (.tmp 14)) (some 15) false <|
  .rd 4 none (.ld1 (.tmp 15)) (some 16) false <|
  .rd 5 none (.mv (.tmp 1)) (some 17) false <|
  .rd 6 none (.bin .eql (.tmp 16) (.tmp 17)) (some 18) false <|
  .done
noncomputable def F.osierref04_Get.r4 : Plan :=
  .rd 0 none (.mv (.tmp 0)) (some 19) false <|
  .rd 1 none (.mv (.tmp 5)) (some 20) false <|
  .rd 2 none (.idxA 2 (.tmp 19) (.tmp 20)) (some 21) false <|
  .rd 3 none (.fldA 1 (.tmp 21)) (some 22) false <|
  .rd 4 none (.ld1 (.tmp 22)) (some 23) false <|
  .rd 5 none (.mv (.tmp 23)) (some 4) false <|
  .done
noncomputable def F.osierref04_Get.r5 : Plan :=
  .rd 0 none (.mv (.tmp 5)) (some 10) false <|
  .rd 1 none (.bin .add (.tmp 10) (.const (.int .i64 1))) (some 11) false <|
  .rd 2 none (.mv (.tmp 11)) (some 5) false <|
  .done
noncomputable def F.osierref04_Get.l0 : IC :=
    (.seq (.seq (.reg F.osierref04_Get.r2)
    (.cond (.tmp 9) .skip (.exit 0)))
    (.seq (.block 1 (.seq (.reg F.osierref04_Get.r3)
    (.cond (.tmp 18) (.seq (.reg F.osierref04_Get.r4)
    .ret) .skip)))
    (.reg F.osierref04_Get.r5)))
noncomputable def F.osierref04_Get.r6 : Plan :=
  .rd 0 none (.mv (.const (.int .i64 0))) (some 4) false <|
  .done
noncomputable def F.osierref04_Get.ic : IC :=
    (.seq (.reg F.osierref04_Get.r0)
    (.seq (.seq (.reg F.osierref04_Get.r1)
    (.block 0 (.loop F.osierref04_Get.l0)))
    (.seq (.reg F.osierref04_Get.r6)
    .ret)))
noncomputable def F.osierref04_Get.rs : List RO := [(.mv (.tmp 4))]
theorem F.osierref04_Get.ok : cFunc Go.Proofs.Try.prog F.osierref04_Get = some (24, F.osierref04_Get.ic, F.osierref04_Get.rs) := by kernel_rfl
theorem F.osierref04_Get.cl : callable Go.Proofs.Try.prog F.osierref04_Get = true := by kernel_rfl
noncomputable def F.osierref03_May.r0 : Plan :=
  .ef 0 none (.box (.tmp 0)) (some 1) [] (
  .rd 1 none (.mv (.const (.bool false))) (some 2) false <|
  .done) .none
noncomputable def F.osierref03_May.r1 : Plan :=
  .rd 0 none (.fldA 0 (.tmp 1)) (some 3) false <|
  .rd 1 none (.ld1 (.tmp 3)) (some 4) false <|
  .rd 2 none (.bin .geq (.tmp 4) (.const (.int .i64 0))) (some 5) false <|
  .rd 3 none (.mv (.tmp 5)) (some 6) false <|
  .rd 4 (some (6, true)) (.fldA 0 (.tmp 1)) (some 7) false <|
  .rd 5 (some (6, true)) (.ld1 (.tmp 7)) (some 8) false <|
  .rd 6 (some (6, true)) (.bin .leq (.tmp 8) (.const (.int .i64 16777215))) (some 9) false <|
  .rd 7 none (.pick (.tmp 6) (.tmp 9) (.const (.bool false))) (some 10) false <|
  .rd 8 none (.mv (.tmp 10)) (some 11) false <|
  .rd 9 (some (11, true)) (.fldA 1 (.tmp 1)) (some 12) false <|
  .rd 10 (some (11, true)) (.ld1 (.tmp 12)) (some 13) false <|
  .rd 11 (some (11, true)) (.bin .geq (.tmp 13) (.const (.int .i64 1))) (some 14) false <|
  .rd 12 none (.pick (.tmp 11) (.tmp 14) (.const (.bool false))) (some 15) false <|
  .rd 13 none (.mv (.tmp 15)) (some 16) false <|
  .rd 14 (some (16, true)) (.fldA 1 (.tmp 1)) (some 17) false <|
  .rd 15 (some (16, true)) (.ld1 (.tmp 17)) (some 18) false <|
  .rd 16 (some (16, true)) (.bin .leq (.tmp 18) (.const (.int .i64 1073741824))) (some 19) false <|
  .rd 17 none (.pick (.tmp 16) (.tmp 19) (.const (.bool false))) (some 20) false <|
  .rd 18 none (.mv (.tmp 20)) (some 2) false <|
  .done
noncomputable def F.osierref03_May.ic : IC :=
    (.seq (.reg F.osierref03_May.r0)
    (.seq (.reg F.osierref03_May.r1)
    .ret))
noncomputable def F.osierref03_May.rs : List RO := [(.mv (.tmp 2))]
theorem F.osierref03_May.ok : cFunc Go.Proofs.Try.prog F.osierref03_May = some (21, F.osierref03_May.ic, F.osierref03_May.rs) := by kernel_rfl
theorem F.osierref03_May.cl : callable Go.Proofs.Try.prog F.osierref03_May = true := by kernel_rfl
noncomputable def F.osierref04_Join.r0 : Plan :=
  .rd 0 none (.mv (.const (.slice none 0 0))) (some 6) false <|
  .done
noncomputable def F.osierref04_Join.r1 : Plan :=
  .rd 0 none (.mv (.const (.slice none 0 0))) (some 7) false <|
  .done
noncomputable def F.osierref04_Join.r2 : Plan :=
  .rd 0 none (.mv (.tmp 0)) (some 13) false <|
  .rd 1 none (.mv (.tmp 1)) (some 14) false <|
  .ef 2 none (.call F.osierref04_acts [(.tmp 13), (.tmp 14)]) (some 15) [] (
  .rd 3 none (.mv (.tmp 15)) (some 8) false <|
  .done) .none
noncomputable def F.osierref04_Join.r3 : Plan :=
  .rd 0 none (.mv (.const (.int .i64 0))) (some 9) false <|
  .done
noncomputable def F.osierref04_Join.r4 : Plan :=
  .rd 0 none (.mv (.tmp 9)) (some 16) false <|
  .rd 1 none (.mv (.tmp 8)) (some 17) false <|
  .rd 2 none (.len .sl (.tmp 17)) (some 18) false <|
  .rd 3 none (.bin .lss (.tmp 16) (.tmp 18)) (some 19) false <|
  .done
noncomputable def F.osierref04_Join.r5 : Plan :=
  .rd 0 none (.mv (.tmp 0)) (some 22) false <|
  .rd 1 none (.mv (.tmp 8)) (some 23) false <|
  .rd 2 none (.mv (.tmp 9)) (some 24) false <|
  .rd 3 none (.idxA 1 (.tmp 23) (.tmp 24)) (some 25) false <|
  .rd 4 none (.ld1 (.tmp 25)) (some 26) false <|
  .ef 5 none (.call F.osierref04_Get [(.tmp 22), (.tmp 26)]) (some 27) [] (
  .rd 6 none (.mv (.tmp 27)) (some 10) false <|
  .done) .none
noncomputable def F.osierref04_Join.r6 : Plan :=
  .rd 0 none (.mv (.tmp 1)) (some 28) false <|
  .rd 1 none (.mv (.tmp 8)) (some 29) false <|
  .rd 2 none (.mv (.tmp 9)) (some 30) false <|
  .rd 3 none (.idxA 1 (.tmp 29) (.tmp 30)) (some 31) false <|
  .rd 4 none (.ld1 (.tmp 31)) (some 32) false <|
  .ef 5 none (.call F.osierref04_Get [(.tmp 28), (.tmp 32)]) (some 33) [] (
  .rd 6 none (.mv (.tmp 33)) (some 11) false <|
  .done) .none
noncomputable def F.osierref04_Join.r7 : Plan :=
  .rd 0 none (.mv (.tmp 10)) (some 34) false <|
  .rd 1 none (.mv (.tmp 34)) (some 12) false <|
  .done
noncomputable def F.osierref04_Join.r8 : Plan :=
  .rd 0 none (.mv (.tmp 11)) (some 35) false <|
  .rd 1 none (.mv (.tmp 10)) (some 36) false <|
  .rd 2 none (.bin .gtr (.tmp 35) (.tmp 36)) (some 37) false <|
  .rd 3 none (.mv (.tmp 2)) (some 38) false <|
  .rd 4 none (.eqS [.b] false true (.tmp 37) (.tmp 38)) (some 39) false <|
  .done
noncomputable def F.osierref04_Join.r9 : Plan :=
  .rd 0 none (.mv (.tmp 11)) (some 40) false <|
  .rd 1 none (.mv (.tmp 40)) (some 12) false <|
  .done
noncomputable def F.osierref04_Join.r10 : Plan :=
  .rd 0 none (.mv (.tmp 12)) (some 41) false <|
  .rd 1 none (.bin .gtr (.tmp 41) (.const (.int .i64 0))) (some 42) false <|
  .done
noncomputable def F.osierref04_Join.r11 : Plan :=
  .rd 0 none (.mv (.tmp 7)) (some 43) false <|
  .rd 1 none (.mv (.tmp 8)) (some 44) false <|
  .rd 2 none (.mv (.tmp 9)) (some 45) false <|
  .rd 3 none (.idxA 1 (.tmp 44) (.tmp 45)) (some 46) false <|
  .rd 4 none (.ld1 (.tmp 46)) (some 47) false <|
  .rd 5 none (.mv (.tmp 12)) (some 48) false <|
  .rd 6 none (.build [(.int .i64 0), (.int .i64 0)] [(0, (1, (.tmp 47))), (1, (1, (.tmp 48)))]) (some 49) false <|
  .ef 7 none (.bsl 1 [(.int .i64 0), (.int .i64 0)] [(0, (2, (.tmp 49)))]) (some 50) [] (
  .ef 8 none (.app 2 16 (.tmp 43) (.tmp 50)) (some 51) [] (
  .rd 9 none (.mv (.tmp 51)) (some 7) false <|
  .done) .none) .none
noncomputable def F.osierref04_Join.r12 : Plan :=
  .rd 0 none (.mv (.tmp 9)) (some 20) false <|
  .rd 1 none (.bin .add (.tmp 20) (.const (.int .i64 1))) (some 21) false <|
  .rd 2 none (.mv (.tmp 21)) (some 9) false <|
  .done
noncomputable def F.osierref04_Join.l0 : IC :=
    (.seq (.seq (.reg F.osierref04_Join.r4)
    (.cond (.tmp 19) .skip (.exit 0)))
    (.seq (.block 1 (.seq (.reg F.osierref04_Join.r5)
    (.seq (.reg F.osierref04_Join.r6)
    (.seq (.reg F.osierref04_Join.r7)
    (.seq (.seq (.reg F.osierref04_Join.r8)
    (.cond (.tmp 39) (.reg F.osierref04_Join.r9) .skip))
    (.seq (.reg F.osierref04_Join.r10)
    (.cond (.tmp 42) (.reg F.osierref04_Join.r11) .skip)))))))
    (.reg F.osierref04_Join.r12)))
noncomputable def F.osierref04_Join.r13 : Plan :=
  .rd 0 none (.mv (.tmp 7)) (some 52) false <|
  .rd 1 none (.mv (.tmp 52)) (some 6) false <|
  .done
noncomputable def F.osierref04_Join.ic : IC :=
    (.seq (.reg F.osierref04_Join.r0)
    (.seq (.reg F.osierref04_Join.r1)
    (.seq (.reg F.osierref04_Join.r2)
    (.seq (.seq (.reg F.osierref04_Join.r3)
    (.block 0 (.loop F.osierref04_Join.l0)))
    (.seq (.reg F.osierref04_Join.r13)
    .ret)))))
noncomputable def F.osierref04_Join.rs : List RO := [(.mv (.tmp 6))]
theorem F.osierref04_Join.ok : cFunc Go.Proofs.Try.prog F.osierref04_Join = some (53, F.osierref04_Join.ic, F.osierref04_Join.rs) := by kernel_rfl
theorem F.osierref04_Join.cl : callable Go.Proofs.Try.prog F.osierref04_Join = true := by kernel_rfl
noncomputable def F.osierref08_Latest.r0 : Plan :=
  .rd 0 none (.mv (.const (.int .i64 0))) (some 4) false <|
  .done
noncomputable def F.osierref08_Latest.r1 : Plan :=
  .rd 0 none (.mv (.const (.int .i64 0))) (some 5) false <|
  .done
noncomputable def F.osierref08_Latest.r2 : Plan :=
  .rd 0 none (.mv (.const (.int .i64 0))) (some 6) false <|
  .done
noncomputable def F.osierref08_Latest.r3 : Plan :=
  .rd 0 none (.mv (.tmp 6)) (some 8) false <|
  .rd 1 none (.mv (.tmp 0)) (some 9) false <|
  .rd 2 none (.len .sl (.tmp 9)) (some 10) false <|
  .rd 3 none (.bin .lss (.tmp 8) (.tmp 10)) (some 11) false <|
  .done
noncomputable def F.osierref08_Latest.r4 : Plan :=
  .rd 0 none (.mv (.tmp 1)) (some 14) false <|
  .rd 1 none (.mv (.tmp 0)) (some 15) false <|
  .rd 2 none (.mv (.tmp 6)) (some 16) false <|
  .rd 3 none (.idxA 14 (.tmp 15) (.tmp 16)) (some 17) false <|
  .rd 4 none (.fldA 0 (.tmp 17)) (some 18) false <|
  .rd 5 none (.ldn 2 (.tmp 18)) (some 19) false <|
  .ef 6 none (.call F.osierref04_Has [(.tmp 14), (.tmp 19)]) (some 20) [] (
  .rd 7 none (.mv (.tmp 20)) (some 7) false <|
  .done) .none
noncomputable def F.osierref08_Latest.r5 : Plan :=
  .rd 0 none (.mv (.tmp 7)) (some 21) false <|
  .rd 1 none (.mv (.tmp 21)) (some 22) false <|
  .rd 2 (some (22, true)) (.mv (.tmp 0)) (some 23) false <|
  .rd 3 (some (22, true)) (.mv (.tmp 6)) (some 24) false <|
  .rd 4 (some (22, true)) (.idxA 14 (.tmp 23) (.tmp 24)) (some 25) false <|
  .rd 5 (some (22, true)) (.fldA 2 (.tmp 25)) (some 26) false <|
  .rd 6 (some (22, true)) (.ld1 (.tmp 26)) (some 27) false <|
  .rd 7 (some (22, true)) (.mv (.tmp 5)) (some 28) false <|
  .rd 8 (some (22, true)) (.bin .gtr (.tmp 27) (.tmp 28)) (some 29) false <|
  .rd 9 none (.pick (.tmp 22) (.tmp 29) (.const (.bool false))) (some 30) false <|
  .done
noncomputable def F.osierref08_Latest.r6 : Plan :=
  .rd 0 none (.mv (.tmp 0)) (some 31) false <|
  .rd 1 none (.mv (.tmp 6)) (some 32) false <|
  .rd 2 none (.idxA 14 (.tmp 31) (.tmp 32)) (some 33) false <|
  .rd 3 none (.fldA 2 (.tmp 33)) (some 34) false <|
  .rd 4 none (.ld1 (.tmp 34)) (some 35) false <|
  .rd 5 none (.mv (.tmp 35)) (some 5) false <|
  .done
noncomputable def F.osierref08_Latest.r7 : Plan :=
  .rd 0 none (.mv (.tmp 6)) (some 12) false <|
  .rd 1 none (.bin .add (.tmp 12) (.const (.int .i64 1))) (some 13) false <|
  .rd 2 none (.mv (.tmp 13)) (some 6) false <|
  .done
noncomputable def F.osierref08_Latest.l0 : IC :=
    (.seq (.seq (.reg F.osierref08_Latest.r3)
    (.cond (.tmp 11) .skip (.exit 0)))
    (.seq (.block 1 (.seq (.reg F.osierref08_Latest.r4)
    (.seq (.reg F.osierref08_Latest.r5)
    (.cond (.tmp 30) (.reg F.osierref08_Latest.r6) .skip))))
    (.reg F.osierref08_Latest.r7)))
noncomputable def F.osierref08_Latest.r8 : Plan :=
  .rd 0 none (.mv (.tmp 5)) (some 36) false <|
  .rd 1 none (.mv (.tmp 36)) (some 4) false <|
  .done
noncomputable def F.osierref08_Latest.ic : IC :=
    (.seq (.reg F.osierref08_Latest.r0)
    (.seq (.reg F.osierref08_Latest.r1)
    (.seq (.seq (.reg F.osierref08_Latest.r2)
    (.block 0 (.loop F.osierref08_Latest.l0)))
    (.seq (.reg F.osierref08_Latest.r8)
    .ret))))
noncomputable def F.osierref08_Latest.rs : List RO := [(.mv (.tmp 4))]
theorem F.osierref08_Latest.ok : cFunc Go.Proofs.Try.prog F.osierref08_Latest = some (37, F.osierref08_Latest.ic, F.osierref08_Latest.rs) := by kernel_rfl
theorem F.osierref08_Latest.cl : callable Go.Proofs.Try.prog F.osierref08_Latest = true := by kernel_rfl
noncomputable def F.osierref04_Has.r0 : Plan :=
  .ef 0 none (.box (.tmp 1)) (some 3) [] (
  .rd 1 none (.mv (.const (.bool false))) (some 4) false <|
  .done) .none
noncomputable def F.osierref04_Has.r1 : Plan :=
  .rd 0 none (.ldn 2 (.tmp 3)) (some 6) false <|
  .ef 1 none (.call F.osierref03_May [(.tmp 6)]) (some 7) [] (
  .rd 2 none (.mv (.tmp 7)) (some 5) false <|
  .done) .none
noncomputable def F.osierref04_Has.r2 : Plan :=
  .rd 0 none (.mv (.tmp 5)) (some 8) false <|
  .rd 1 none (.mv (.tmp 8)) (some 9) false <|
  .rd 2 (some (9, true)) (.fldA 1 (.tmp 3)) (some 10) false <|
  .rd 3 (some (9, true)) (.ld1 (.tmp 10)) (some 11) true <|
  .rd 4 (some (9, true)) (.mv (.tmp 0)) (some 12) false <|
  .rd 5 (some (9, true)) (.fldA 0 (.tmp 3)) (some 13) false <|
  .rd 6 (some (9, true)) (.ld1 (.tmp 13)) (some 14) false <|
  .ef 7 (some (9, true)) (.call F.osierref04_Get [(.tmp 12), (.tmp 14)]) (some 15) [2, 3] (
  .rd 8 (some (9, true)) (.bin .leq (.tmp 11) (.tmp 15)) (some 16) false <|
  .rd 9 none (.pick (.tmp 9) (.tmp 16) (.const (.bool false))) (some 17) false <|
  .rd 10 none (.mv (.tmp 17)) (some 4) false <|
  .done) .none
noncomputable def F.osierref04_Has.ic : IC :=
    (.seq (.reg F.osierref04_Has.r0)
    (.seq (.reg F.osierref04_Has.r1)
    (.seq (.reg F.osierref04_Has.r2)
    .ret)))
noncomputable def F.osierref04_Has.rs : List RO := [(.mv (.tmp 4))]
theorem F.osierref04_Has.ok : cFunc Go.Proofs.Try.prog F.osierref04_Has = some (18, F.osierref04_Has.ic, F.osierref04_Has.rs) := by kernel_rfl
theorem F.osierref04_Has.cl : callable Go.Proofs.Try.prog F.osierref04_Has = true := by kernel_rfl
noncomputable def F.osierref08_moved.r0 : Plan :=
  .ef 0 none (.box (.tmp 0)) (some 3) [] (
  .ef 1 none (.box (.tmp 2)) (some 5) [] (
  .ef 2 none (.alloc [(.int .i64 0), (.int .i64 0), (.int .i64 0), (.slice none 0 0), (.int .i64 0), (.int .i64 0), (.int .i64 0), (.int .i64 0), (.int .i64 0), (.int .i64 0), (.int .i64 0), (.int .i64 0), (.int .i64 0), (.string ⟨#[]⟩)]) (some 6) [] (
  .done) .none) .none) .none
noncomputable def F.osierref08_moved.r1 : Plan :=
  .rd 0 none (.fldA 5 (.tmp 5)) (some 9) false <|
  .rd 1 none (.ld1 (.tmp 9)) (some 10) false <|
  .rd 2 none (.fldA 13 (.tmp 3)) (some 11) false <|
  .ef 3 none (.st 1 (.tmp 11) (.tmp 10)) none [] (
  .done) .none
noncomputable def F.osierref08_moved.r2 : Plan :=
  .rd 0 none (.build [(.int .i64 0), (.int .i64 0)] [(0, (1, (.const (.int .i64 0)))), (1, (1, (.const (.int .i64 (-1)))))]) (some 12) false <|
  .rd 1 none (.build [(.int .i64 0), (.int .i64 0)] [(0, (1, (.const (.int .i64 0)))), (1, (1, (.const (.int .i64 (-2)))))]) (some 13) false <|
  .ef 2 none (.bsl 2 [(.int .i64 0), (.int .i64 0), (.int .i64 0), (.int .i64 0)] [(0, (2, (.tmp 12))), (2, (2, (.tmp 13)))]) (some 14) [] (
  .rd 3 none (.mv (.tmp 14)) (some 7) false <|
  .done) .none
noncomputable def F.osierref08_moved.r3 : Plan :=
  .rd 0 none (.mv (.tmp 7)) (some 15) false <|
  .rd 1 none (.mv (.tmp 1)) (some 16) false <|
  .ef 2 none (.app 2 16 (.tmp 15) (.tmp 16)) (some 17) [] (
  .rd 3 none (.mv (.tmp 17)) (some 7) false <|
  .done) .none
noncomputable def F.osierref08_moved.r4 : Plan :=
  .rd 0 none (.fldA 0 (.tmp 3)) (some 18) false <|
  .rd 1 none (.ldn 2 (.tmp 18)) (some 19) false <|
  .rd 2 none (.fldA 5 (.tmp 3)) (some 20) false <|
  .ef 3 none (.st 2 (.tmp 20) (.tmp 19)) none [] (
  .done) .none
noncomputable def F.osierref08_moved.r5 : Plan :=
  .rd 0 none (.mv (.tmp 1)) (some 21) false <|
  .rd 1 none (.len .sl (.tmp 21)) (some 22) false <|
  .rd 2 none (.bin .gtr (.tmp 22) (.const (.int .i64 0))) (some 23) false <|
  .rd 3 none (.mv (.tmp 23)) (some 24) false <|
  .rd 4 (some (24, true)) (.fldA 3 (.tmp 5)) (some 25) false <|
  .rd 5 (some (24, true)) (.ld1 (.tmp 25)) (some 26) false <|
  .ef 6 (some (24, true)) (.call F.osierref08_abs [(.tmp 26)]) (some 27) [] (
  .rd 7 (some (24, true)) (.bin .rem (.tmp 27) (.const (.int .i64 3))) (some 28) false <|
  .rd 8 (some (24, true)) (.bin .gtr (.tmp 28) (.const (.int .i64 0))) (some 29) false <|
  .rd 9 none (.pick (.tmp 24) (.tmp 29) (.const (.bool false))) (some 30) false <|
  .done) .none
noncomputable def F.osierref08_moved.r6 : Plan :=
  .rd 0 none (.mv (.tmp 1)) (some 31) false <|
  .rd 1 none (.fldA 3 (.tmp 5)) (some 32) false <|
  .rd 2 none (.ld1 (.tmp 32)) (some 33) false <|
  .ef 3 none (.call F.osierref08_abs [(.tmp 33)]) (some 34) [] (
  .rd 4 none (.mv (.tmp 1)) (some 35) false <|
  .rd 5 none (.len .sl (.tmp 35)) (some 36) false <|
  .rd 6 none (.bin .rem (.tmp 34) (.tmp 36)) (some 37) false <|
  .rd 7 none (.idxA 2 (.tmp 31) (.tmp 37)) (some 38) false <|
  .rd 8 none (.ldn 2 (.tmp 38)) (some 39) false <|
  .rd 9 none (.fldA 5 (.tmp 3)) (some 40) false <|
  .ef 10 none (.st 2 (.tmp 40) (.tmp 39)) none [] (
  .done) .none) .none
noncomputable def F.osierref08_moved.r7 : Plan :=
  .rd 0 none (.fldA 4 (.tmp 5)) (some 41) false <|
  .rd 1 none (.ld1 (.tmp 41)) (some 42) false <|
  .ef 2 none (.call F.osierref08_abs [(.tmp 42)]) (some 43) [] (
  .rd 3 none (.mv (.tmp 7)) (some 44) false <|
  .rd 4 none (.len .sl (.tmp 44)) (some 45) false <|
  .rd 5 none (.bin .add (.tmp 45) (.const (.int .i64 2))) (some 46) false <|
  .rd 6 none (.bin .rem (.tmp 43) (.tmp 46)) (some 47) false <|
  .rd 7 none (.mv (.tmp 47)) (some 8) false <|
  .done) .none
noncomputable def F.osierref08_moved.r8 : Plan :=
  .rd 0 none (.mv (.tmp 8)) (some 48) false <|
  .rd 1 none (.mv (.tmp 7)) (some 49) false <|
  .rd 2 none (.len .sl (.tmp 49)) (some 50) false <|
  .rd 3 none (.bin .geq (.tmp 48) (.tmp 50)) (some 51) false <|
  .done
noncomputable def F.osierref08_moved.r9 : Plan :=
  .rd 0 none (.mv (.const (.int .i64 0))) (some 8) false <|
  .done
noncomputable def F.osierref08_moved.r10 : Plan :=
  .rd 0 none (.mv (.tmp 7)) (some 52) false <|
  .rd 1 none (.mv (.tmp 8)) (some 53) false <|
  .rd 2 none (.idxA 2 (.tmp 52) (.tmp 53)) (some 54) false <|
  .rd 3 none (.ldn 2 (.tmp 54)) (some 55) false <|
  .rd 4 none (.fldA 11 (.tmp 3)) (some 56) false <|
  .ef 5 none (.st 2 (.tmp 56) (.tmp 55)) none [] (
  .done) .none
noncomputable def F.osierref08_moved.r11 : Plan :=
  .rd 0 none (.ldn 14 (.tmp 3)) (some 57) false <|
  .ef 1 none (.st 14 (.tmp 6) (.tmp 57)) none [] (
  .done) .none
noncomputable def F.osierref08_moved.ic : IC :=
    (.seq (.reg F.osierref08_moved.r0)
    (.seq (.reg F.osierref08_moved.r1)
    (.seq (.reg F.osierref08_moved.r2)
    (.seq (.reg F.osierref08_moved.r3)
    (.seq (.reg F.osierref08_moved.r4)
    (.seq (.seq (.reg F.osierref08_moved.r5)
    (.cond (.tmp 30) (.reg F.osierref08_moved.r6) .skip))
    (.seq (.reg F.osierref08_moved.r7)
    (.seq (.seq (.reg F.osierref08_moved.r8)
    (.cond (.tmp 51) (.reg F.osierref08_moved.r9) .skip))
    (.seq (.reg F.osierref08_moved.r10)
    (.seq (.reg F.osierref08_moved.r11)
    .ret))))))))))
noncomputable def F.osierref08_moved.rs : List RO := [(.ldn 14 (.tmp 6))]
theorem F.osierref08_moved.ok : cFunc Go.Proofs.Try.prog F.osierref08_moved = some (58, F.osierref08_moved.ic, F.osierref08_moved.rs) := by kernel_rfl
theorem F.osierref08_moved.cl : callable Go.Proofs.Try.prog F.osierref08_moved = true := by kernel_rfl
noncomputable def F.osierref04_May.r0 : Plan :=
  .rd 0 none (.mv (.const (.bool false))) (some 2) false <|
  .done
noncomputable def F.osierref04_May.r1 : Plan :=
  .rd 0 none (.mv (.const (.int .i64 0))) (some 3) false <|
  .done
noncomputable def F.osierref04_May.r2 : Plan :=
  .rd 0 none (.mv (.tmp 3)) (some 5) false <|
  .rd 1 none (.mv (.tmp 0)) (some 6) false <|
  .rd 2 none (.len .sl (.tmp 6)) (some 7) false <|
  .rd 3 none (.bin .lss (.tmp 5) (.tmp 7)) (some 8) false <|
  .done
noncomputable def F.osierref04_May.r3 : Plan :=
  .rd 0 none (.mv (.tmp 0)) (some 11) false <|
  .rd 1 none (.mv (.tmp 3)) (some 12) false <|
  .rd 2 none (.idxA 2 (.tmp 11) (.tmp 12)) (some 13) false <|
  .rd 3 none (.ldn 2 (.tmp 13)) (some 14) false <|
  .ef 4 none (.call F.osierref03_May [(.tmp 14)]) (some 15) [] (
  .rd 5 none (.mv (.tmp 15)) (some 4) false <|
  .done) .none
noncomputable def F.osierref04_May.r4 : Plan :=
  .rd 0 none (.mv (.tmp 4)) (some 16) false <|
  .rd 1 none (.un .not (.tmp 16)) (some 17) false <|
  .rd 2 none (.mv (.tmp 17)) (some 18) false <|
  .rd 3 (some (18, false)) (.mv (.tmp 3)) (some 19) false <|
  .rd 4 (some (18, false)) (.bin .gtr (.tmp 19) (.const (.int .i64 0))) (some 20) false <|
  .rd 5 (some (18, false)) (.mv (.tmp 20)) (some 21) false <|
  .rd 6 (some (21, true)) (.mv (.tmp 0)) (some 22) false <|
  .rd 7 (some (21, true)) (.mv (.tmp 3)) (some 23) false <|
  .rd 8 (some (21, true)) (.bin .sub (.tmp 23) (.const (.int .i64 1))) (some 24) false <|
  .rd 9 (some (21, true)) (.idxA 2 (.tmp 22) (.tmp 24)) (some 25) false <|
  .rd 10 (some (21, true)) (.fldA 0 (.tmp 25)) (some 26) false <|
  .rd 11 (some (21, true)) (.ld1 (.tmp 26)) (some 27) false <|
  .rd 12 (some (21, true)) (.mv (.tmp 0)) (some 28) false <|
  .rd 13 (some (21, true)) (.mv (.tmp 3)) (some 29) false <|
  .rd 14 (some (21, true)) (.idxA 2 (.tmp 28) (.tmp 29)) (some 30) false <|
  .rd 15 (some (21, true)) (.fldA 0 (.tmp 30)) (some 31) false <|
  .rd 16 (some (21, true)) (.ld1 (.tmp 31)) (some 32) false <|
  .rd 17 (some (21, true)) (.bin .geq (.tmp 27) (.tmp 32)) (some 33) false <|
  .rd 18 (some (18, false)) (.pick (.tmp 21) (.tmp 33) (.const (.bool false))) (some 34) false <|
  .rd 19 none (.pick (.tmp 18) (.const (.bool true)) (.tmp 34)) (some 35) false <|
  .done
noncomputable def F.osierref04_May.r5 : Plan :=
  .rd 0 none (.mv (.const (.bool false))) (some 2) false <|
  .done
noncomputable def F.osierref04_May.r6 : Plan :=
  .rd 0 none (.mv (.tmp 3)) (some 9) false <|
  .rd 1 none (.bin .add (.tmp 9) (.const (.int .i64 1))) (some 10) false <|
  .rd 2 none (.mv (.tmp 10)) (some 3) false <|
  .done
noncomputable def F.osierref04_May.l0 : IC :=
    (.seq (.seq (.reg F.osierref04_May.r2)
    (.cond (.tmp 8) .skip (.exit 0)))
    (.seq (.block 1 (.seq (.reg F.osierref04_May.r3)
    (.seq (.reg F.osierref04_May.r4)
    (.cond (.tmp 35) (.seq (.reg F.osierref04_May.r5)
    .ret) .skip))))
    (.reg F.osierref04_May.r6)))
noncomputable def F.osierref04_May.r7 : Plan :=
  .rd 0 none (.mv (.const (.bool true))) (some 2) false <|
  .done
noncomputable def F.osierref04_May.ic : IC :=
    (.seq (.reg F.osierref04_May.r0)
    (.seq (.seq (.reg F.osierref04_May.r1)
    (.block 0 (.loop F.osierref04_May.l0)))
    (.seq (.reg F.osierref04_May.r7)
    .ret)))
noncomputable def F.osierref04_May.rs : List RO := [(.mv (.tmp 2))]
theorem F.osierref04_May.ok : cFunc Go.Proofs.Try.prog F.osierref04_May = some (36, F.osierref04_May.ic, F.osierref04_May.rs) := by kernel_rfl
theorem F.osierref04_May.cl : callable Go.Proofs.Try.prog F.osierref04_May = true := by kernel_rfl
noncomputable def F.osierref06_May.r0 : Plan :=
  .rd 0 none (.mv (.const (.bool false))) (some 2) false <|
  .done
noncomputable def F.osierref06_May.r1 : Plan :=
  .rd 0 none (.mv (.tmp 0)) (some 4) false <|
  .rd 1 none (.len .str (.tmp 4)) (some 5) false <|
  .rd 2 none (.bin .eql (.tmp 5) (.const (.int .i64 0))) (some 6) false <|
  .rd 3 none (.mv (.tmp 6)) (some 7) false <|
  .rd 4 (some (7, false)) (.mv (.tmp 0)) (some 8) false <|
  .rd 5 (some (7, false)) (.len .str (.tmp 8)) (some 9) false <|
  .rd 6 (some (7, false)) (.bin .gtr (.tmp 9) (.const (.int .i64 200))) (some 10) false <|
  .rd 7 none (.pick (.tmp 7) (.const (.bool true)) (.tmp 10)) (some 11) false <|
  .rd 8 none (.mv (.tmp 11)) (some 12) false <|
  .rd 9 (some (12, false)) (.mv (.tmp 0)) (some 13) false <|
  .rd 10 (some (12, false)) (.mv (.tmp 0)) (some 14) false <|
  .rd 11 (some (12, false)) (.len .str (.tmp 14)) (some 15) false <|
  .rd 12 (some (12, false)) (.bin .sub (.tmp 15) (.const (.int .i64 1))) (some 16) false <|
  .rd 13 (some (12, false)) (.idxS (.tmp 13) (.tmp 16)) (some 17) false <|
  .rd 14 (some (12, false)) (.bin .eql (.tmp 17) (.const (.int .u8 97))) (some 18) false <|
  .rd 15 none (.pick (.tmp 12) (.const (.bool true)) (.tmp 18)) (some 19) false <|
  .done
noncomputable def F.osierref06_May.r2 : Plan :=
  .rd 0 none (.mv (.const (.bool false))) (some 2) false <|
  .done
noncomputable def F.osierref06_May.r3 : Plan :=
  .rd 0 none (.mv (.const (.int .i64 0))) (some 3) false <|
  .done
noncomputable def F.osierref06_May.r4 : Plan :=
  .rd 0 none (.mv (.tmp 3)) (some 20) false <|
  .rd 1 none (.mv (.tmp 0)) (some 21) false <|
  .rd 2 none (.len .str (.tmp 21)) (some 22) false <|
  .rd 3 none (.bin .lss (.tmp 20) (.tmp 22)) (some 23) false <|
  .done
noncomputable def F.osierref06_May.r5 : Plan :=
  .rd 0 none (.mv (.tmp 0)) (some 26) false <|
  .rd 1 none (.mv (.tmp 3)) (some 27) false <|
  .rd 2 none (.idxS (.tmp 26) (.tmp 27)) (some 28) false <|
  .rd 3 none (.bin .lss (.tmp 28) (.const (.int .u8 97))) (some 29) false <|
  .rd 4 none (.mv (.tmp 29)) (some 30) false <|
  .rd 5 (some (30, false)) (.mv (.tmp 0)) (some 31) false <|
  .rd 6 (some (30, false)) (.mv (.tmp 3)) (some 32) false <|
  .rd 7 (some (30, false)) (.idxS (.tmp 31) (.tmp 32)) (some 33) false <|
  .rd 8 (some (30, false)) (.bin .gtr (.tmp 33) (.const (.int .u8 122))) (some 34) false <|
  .rd 9 none (.pick (.tmp 30) (.const (.bool true)) (.tmp 34)) (some 35) false <|
  .done
noncomputable def F.osierref06_May.r6 : Plan :=
  .rd 0 none (.mv (.const (.bool false))) (some 2) false <|
  .done
noncomputable def F.osierref06_May.r7 : Plan :=
  .rd 0 none (.mv (.tmp 3)) (some 24) false <|
  .rd 1 none (.bin .add (.tmp 24) (.const (.int .i64 1))) (some 25) false <|
  .rd 2 none (.mv (.tmp 25)) (some 3) false <|
  .done
noncomputable def F.osierref06_May.l0 : IC :=
    (.seq (.seq (.reg F.osierref06_May.r4)
    (.cond (.tmp 23) .skip (.exit 0)))
    (.seq (.block 1 (.seq (.reg F.osierref06_May.r5)
    (.cond (.tmp 35) (.seq (.reg F.osierref06_May.r6)
    .ret) .skip)))
    (.reg F.osierref06_May.r7)))
noncomputable def F.osierref06_May.r8 : Plan :=
  .rd 0 none (.mv (.const (.bool true))) (some 2) false <|
  .done
noncomputable def F.osierref06_May.ic : IC :=
    (.seq (.reg F.osierref06_May.r0)
    (.seq (.seq (.reg F.osierref06_May.r1)
    (.cond (.tmp 19) (.seq (.reg F.osierref06_May.r2)
    .ret) .skip))
    (.seq (.seq (.reg F.osierref06_May.r3)
    (.block 0 (.loop F.osierref06_May.l0)))
    (.seq (.reg F.osierref06_May.r8)
    .ret))))
noncomputable def F.osierref06_May.rs : List RO := [(.mv (.tmp 2))]
theorem F.osierref06_May.ok : cFunc Go.Proofs.Try.prog F.osierref06_May = some (36, F.osierref06_May.ic, F.osierref06_May.rs) := by kernel_rfl
theorem F.osierref06_May.cl : callable Go.Proofs.Try.prog F.osierref06_May = true := by kernel_rfl
noncomputable def F.osierref04_acts.r0 : Plan :=
  .rd 0 none (.mv (.const (.slice none 0 0))) (some 4) false <|
  .done
noncomputable def F.osierref04_acts.r1 : Plan :=
  .rd 0 none (.mv (.const (.slice none 0 0))) (some 5) false <|
  .done
noncomputable def F.osierref04_acts.r2 : Plan :=
  .rd 0 none (.mv (.const (.int .i64 0))) (some 6) false <|
  .done
noncomputable def F.osierref04_acts.r3 : Plan :=
  .rd 0 none (.mv (.const (.int .i64 0))) (some 7) false <|
  .done
noncomputable def F.osierref04_acts.r4 : Plan :=
  .rd 0 none (.mv (.tmp 6)) (some 8) false <|
  .rd 1 none (.mv (.tmp 0)) (some 9) false <|
  .rd 2 none (.len .sl (.tmp 9)) (some 10) false <|
  .rd 3 none (.bin .lss (.tmp 8) (.tmp 10)) (some 11) false <|
  .rd 4 none (.mv (.tmp 11)) (some 12) false <|
  .rd 5 (some (12, false)) (.mv (.tmp 7)) (some 13) false <|
  .rd 6 (some (12, false)) (.mv (.tmp 1)) (some 14) false <|
  .rd 7 (some (12, false)) (.len .sl (.tmp 14)) (some 15) false <|
  .rd 8 (some (12, false)) (.bin .lss (.tmp 13) (.tmp 15)) (some 16) false <|
  .rd 9 none (.pick (.tmp 12) (.const (.bool true)) (.tmp 16)) (some 17) false <|
  .done
noncomputable def F.osierref04_acts.r5 : Plan :=
  .rd 0 none (.mv (.tmp 7)) (some 18) false <|
  .rd 1 none (.mv (.tmp 1)) (some 19) false <|
  .rd 2 none (.len .sl (.tmp 19)) (some 20) false <|
  .rd 3 none (.bin .eql (.tmp 18) (.tmp 20)) (some 21) false <|
  .rd 4 none (.mv (.tmp 21)) (some 22) false <|
  .rd 5 (some (22, false)) (.mv (.tmp 6)) (some 23) false <|
  .rd 6 (some (22, false)) (.mv (.tmp 0)) (some 24) false <|
  .rd 7 (some (22, false)) (.len .sl (.tmp 24)) (some 25) false <|
  .rd 8 (some (22, false)) (.bin .lss (.tmp 23) (.tmp 25)) (some 26) false <|
  .rd 9 (some (22, false)) (.mv (.tmp 26)) (some 27) false <|
  .rd 10 (some (27, true)) (.mv (.tmp 0)) (some 28) false <|
  .rd 11 (some (27, true)) (.mv (.tmp 6)) (some 29) false <|
  .rd 12 (some (27, true)) (.idxA 2 (.tmp 28) (.tmp 29)) (some 30) false <|
  .rd 13 (some (27, true)) (.fldA 0 (.tmp 30)) (some 31) false <|
  .rd 14 (some (27, true)) (.ld1 (.tmp 31)) (some 32) false <|
  .rd 15 (some (27, true)) (.mv (.tmp 1)) (some 33) false <|
  .rd 16 (some (27, true)) (.mv (.tmp 7)) (some 34) false <|
  .rd 17 (some (27, true)) (.idxA 2 (.tmp 33) (.tmp 34)) (some 35) false <|
  .rd 18 (some (27, true)) (.fldA 0 (.tmp 35)) (some 36) false <|
  .rd 19 (some (27, true)) (.ld1 (.tmp 36)) (some 37) false <|
  .rd 20 (some (27, true)) (.bin .lss (.tmp 32) (.tmp 37)) (some 38) false <|
  .rd 21 (some (22, false)) (.pick (.tmp 27) (.tmp 38) (.const (.bool false))) (some 39) false <|
  .rd 22 none (.pick (.tmp 22) (.const (.bool true)) (.tmp 39)) (some 40) false <|
  .done
noncomputable def F.osierref04_acts.r6 : Plan :=
  .rd 0 none (.mv (.tmp 5)) (some 41) false <|
  .rd 1 none (.mv (.tmp 0)) (some 42) false <|
  .rd 2 none (.mv (.tmp 6)) (some 43) false <|
  .rd 3 none (.idxA 2 (.tmp 42) (.tmp 43)) (some 44) false <|
  .rd 4 none (.fldA 0 (.tmp 44)) (some 45) false <|
  .rd 5 none (.ld1 (.tmp 45)) (some 46) false <|
  .ef 6 none (.bsl 1 [(.int .i64 0)] [(0, (1, (.tmp 46)))]) (some 47) [] (
  .ef 7 none (.app 1 8 (.tmp 41) (.tmp 47)) (some 48) [] (
  .rd 8 none (.mv (.tmp 48)) (some 5) false <|
  .done) .none) .none
noncomputable def F.osierref04_acts.r7 : Plan :=
  .rd 0 none (.mv (.tmp 6)) (some 49) false <|
  .rd 1 none (.bin .add (.tmp 49) (.const (.int .i64 1))) (some 50) false <|
  .rd 2 none (.mv (.tmp 50)) (some 6) false <|
  .done
noncomputable def F.osierref04_acts.r8 : Plan :=
  .rd 0 none (.mv (.tmp 6)) (some 51) false <|
  .rd 1 none (.mv (.tmp 0)) (some 52) false <|
  .rd 2 none (.len .sl (.tmp 52)) (some 53) false <|
  .rd 3 none (.bin .eql (.tmp 51) (.tmp 53)) (some 54) false <|
  .rd 4 none (.mv (.tmp 54)) (some 55) false <|
  .rd 5 (some (55, false)) (.mv (.tmp 1)) (some 56) false <|
  .rd 6 (some (55, false)) (.mv (.tmp 7)) (some 57) false <|
  .rd 7 (some (55, false)) (.idxA 2 (.tmp 56) (.tmp 57)) (some 58) false <|
  .rd 8 (some (55, false)) (.fldA 0 (.tmp 58)) (some 59) false <|
  .rd 9 (some (55, false)) (.ld1 (.tmp 59)) (some 60) false <|
  .rd 10 (some (55, false)) (.mv (.tmp 0)) (some 61) false <|
  .rd 11 (some (55, false)) (.mv (.tmp 6)) (some 62) false <|
  .rd 12 (some (55, false)) (.idxA 2 (.tmp 61) (.tmp 62)) (some 63) false <|
  .rd 13 (some (55, false)) (.fldA 0 (.tmp 63)) (some 64) false <|
  .rd 14 (some (55, false)) (.ld1 (.tmp 64)) (some 65) false <|
  .rd 15 (some (55, false)) (.bin .lss (.tmp 60) (.tmp 65)) (some 66) false <|
  .rd 16 none (.pick (.tmp 55) (.const (.bool true)) (.tmp 66)) (some 67) false <|
  .done
noncomputable def F.osierref04_acts.r9 : Plan :=
  .rd 0 none (.mv (.tmp 5)) (some 68) false <|
  .rd 1 none (.mv (.tmp 1)) (some 69) false <|
  .rd 2 none (.mv (.tmp 7)) (some 70) false <|
  .rd 3 none (.idxA 2 (.tmp 69) (.tmp 70)) (some 71) false <|
  .rd 4 none (.fldA 0 (.tmp 71)) (some 72) false <|
  .rd 5 none (.ld1 (.tmp 72)) (some 73) false <|
  .ef 6 none (.bsl 1 [(.int .i64 0)] [(0, (1, (.tmp 73)))]) (some 74) [] (
  .ef 7 none (.app 1 8 (.tmp 68) (.tmp 74)) (some 75) [] (
  .rd 8 none (.mv (.tmp 75)) (some 5) false <|
  .done) .none) .none
noncomputable def F.osierref04_acts.r10 : Plan :=
  .rd 0 none (.mv (.tmp 7)) (some 76) false <|
  .rd 1 none (.bin .add (.tmp 76) (.const (.int .i64 1))) (some 77) false <|
  .rd 2 none (.mv (.tmp 77)) (some 7) false <|
  .done
noncomputable def F.osierref04_acts.r11 : Plan :=
  .rd 0 none (.mv (.tmp 5)) (some 78) false <|
  .rd 1 none (.mv (.tmp 0)) (some 79) false <|
  .rd 2 none (.mv (.tmp 6)) (some 80) false <|
  .rd 3 none (.idxA 2 (.tmp 79) (.tmp 80)) (some 81) false <|
  .rd 4 none (.fldA 0 (.tmp 81)) (some 82) false <|
  .rd 5 none (.ld1 (.tmp 82)) (some 83) false <|
  .ef 6 none (.bsl 1 [(.int .i64 0)] [(0, (1, (.tmp 83)))]) (some 84) [] (
  .ef 7 none (.app 1 8 (.tmp 78) (.tmp 84)) (some 85) [] (
  .rd 8 none (.mv (.tmp 85)) (some 5) false <|
  .done) .none) .none
noncomputable def F.osierref04_acts.r12 : Plan :=
  .rd 0 none (.mv (.tmp 6)) (some 86) false <|
  .rd 1 none (.bin .add (.tmp 86) (.const (.int .i64 1))) (some 87) false <|
  .rd 2 none (.mv (.tmp 87)) (some 6) false <|
  .done
noncomputable def F.osierref04_acts.r13 : Plan :=
  .rd 0 none (.mv (.tmp 7)) (some 88) false <|
  .rd 1 none (.bin .add (.tmp 88) (.const (.int .i64 1))) (some 89) false <|
  .rd 2 none (.mv (.tmp 89)) (some 7) false <|
  .done
noncomputable def F.osierref04_acts.l0 : IC :=
    (.seq (.seq (.reg F.osierref04_acts.r4)
    (.cond (.tmp 17) .skip (.exit 0)))
    (.block 1 (.seq (.reg F.osierref04_acts.r5)
    (.cond (.tmp 40) (.seq (.reg F.osierref04_acts.r6)
    (.reg F.osierref04_acts.r7)) (.seq (.reg F.osierref04_acts.r8)
    (.cond (.tmp 67) (.seq (.reg F.osierref04_acts.r9)
    (.reg F.osierref04_acts.r10)) (.seq (.reg F.osierref04_acts.r11)
    (.seq (.reg F.osierref04_acts.r12)
    (.reg F.osierref04_acts.r13)))))))))
noncomputable def F.osierref04_acts.r14 : Plan :=
  .rd 0 none (.mv (.tmp 5)) (some 90) false <|
  .rd 1 none (.mv (.tmp 90)) (some 4) false <|
  .done
noncomputable def F.osierref04_acts.ic : IC :=
    (.seq (.reg F.osierref04_acts.r0)
    (.seq (.reg F.osierref04_acts.r1)
    (.seq (.reg F.osierref04_acts.r2)
    (.seq (.reg F.osierref04_acts.r3)
    (.seq (.block 0 (.loop F.osierref04_acts.l0))
    (.seq (.reg F.osierref04_acts.r14)
    .ret))))))
noncomputable def F.osierref04_acts.rs : List RO := [(.mv (.tmp 4))]
theorem F.osierref04_acts.ok : cFunc Go.Proofs.Try.prog F.osierref04_acts = some (91, F.osierref04_acts.ic, F.osierref04_acts.rs) := by kernel_rfl
theorem F.osierref04_acts.cl : callable Go.Proofs.Try.prog F.osierref04_acts = true := by kernel_rfl
attribute [go_sem] F.osierlaw10_TreeStories.r0 F.osierlaw10_TreeStories.r1 F.osierlaw10_TreeStories.r2 F.osierlaw10_TreeStories.r3 F.osierlaw10_TreeStories.r4 F.osierlaw10_TreeStories.r5 F.osierlaw10_TreeStories.r6 F.osierlaw10_TreeStories.r7 F.osierlaw10_TreeStories.r8 F.osierlaw10_TreeStories.r9 F.osierlaw10_TreeStories.r10 F.osierlaw10_TreeStories.r11 F.osierlaw10_TreeStories.r12 F.osierlaw10_TreeStories.r13 F.osierlaw10_TreeStories.r14 F.osierlaw10_TreeStories.r15 F.osierlaw10_TreeStories.r16 F.osierlaw10_TreeStories.r17 F.osierlaw10_TreeStories.r18 F.osierlaw10_TreeStories.r19 F.osierlaw10_TreeStories.r20 F.osierlaw10_TreeStories.r21 F.osierlaw10_TreeStories.r22 F.osierlaw10_TreeStories.ic F.osierlaw10_TreeStories.rs
attribute [go_sem] F.osierref03_May.r0 F.osierref03_May.r1 F.osierref03_May.ic F.osierref03_May.rs
attribute [go_sem] F.osierref04_Below.r0 F.osierref04_Below.r1 F.osierref04_Below.r2 F.osierref04_Below.r3 F.osierref04_Below.r4 F.osierref04_Below.r5 F.osierref04_Below.r6 F.osierref04_Below.ic F.osierref04_Below.rs
attribute [go_sem] F.osierref04_Get.r0 F.osierref04_Get.r1 F.osierref04_Get.r2 F.osierref04_Get.r3 F.osierref04_Get.r4 F.osierref04_Get.r5 F.osierref04_Get.r6 F.osierref04_Get.ic F.osierref04_Get.rs
attribute [go_sem] F.osierref04_Has.r0 F.osierref04_Has.r1 F.osierref04_Has.r2 F.osierref04_Has.ic F.osierref04_Has.rs
attribute [go_sem] F.osierref04_Join.r0 F.osierref04_Join.r1 F.osierref04_Join.r2 F.osierref04_Join.r3 F.osierref04_Join.r4 F.osierref04_Join.r5 F.osierref04_Join.r6 F.osierref04_Join.r7 F.osierref04_Join.r8 F.osierref04_Join.r9 F.osierref04_Join.r10 F.osierref04_Join.r11 F.osierref04_Join.r12 F.osierref04_Join.r13 F.osierref04_Join.ic F.osierref04_Join.rs
attribute [go_sem] F.osierref04_May.r0 F.osierref04_May.r1 F.osierref04_May.r2 F.osierref04_May.r3 F.osierref04_May.r4 F.osierref04_May.r5 F.osierref04_May.r6 F.osierref04_May.r7 F.osierref04_May.ic F.osierref04_May.rs
attribute [go_sem] F.osierref04_With.r0 F.osierref04_With.r1 F.osierref04_With.r2 F.osierref04_With.r3 F.osierref04_With.r4 F.osierref04_With.ic F.osierref04_With.rs
attribute [go_sem] F.osierref04_acts.r0 F.osierref04_acts.r1 F.osierref04_acts.r2 F.osierref04_acts.r3 F.osierref04_acts.r4 F.osierref04_acts.r5 F.osierref04_acts.r6 F.osierref04_acts.r7 F.osierref04_acts.r8 F.osierref04_acts.r9 F.osierref04_acts.r10 F.osierref04_acts.r11 F.osierref04_acts.r12 F.osierref04_acts.r13 F.osierref04_acts.r14 F.osierref04_acts.ic F.osierref04_acts.rs
attribute [go_sem] F.osierref06_May.r0 F.osierref06_May.r1 F.osierref06_May.r2 F.osierref06_May.r3 F.osierref06_May.r4 F.osierref06_May.r5 F.osierref06_May.r6 F.osierref06_May.r7 F.osierref06_May.r8 F.osierref06_May.ic F.osierref06_May.rs
attribute [go_sem] F.osierref07_Check.r0 F.osierref07_Check.r1 F.osierref07_Check.r2 F.osierref07_Check.r3 F.osierref07_Check.r4 F.osierref07_Check.r5 F.osierref07_Check.r6 F.osierref07_Check.r7 F.osierref07_Check.r8 F.osierref07_Check.r9 F.osierref07_Check.r10 F.osierref07_Check.r11 F.osierref07_Check.r12 F.osierref07_Check.r13 F.osierref07_Check.r14 F.osierref07_Check.r15 F.osierref07_Check.r16 F.osierref07_Check.r17 F.osierref07_Check.r18 F.osierref07_Check.r19 F.osierref07_Check.r20 F.osierref07_Check.r21 F.osierref07_Check.ic F.osierref07_Check.rs
attribute [go_sem] F.osierref08_Latest.r0 F.osierref08_Latest.r1 F.osierref08_Latest.r2 F.osierref08_Latest.r3 F.osierref08_Latest.r4 F.osierref08_Latest.r5 F.osierref08_Latest.r6 F.osierref08_Latest.r7 F.osierref08_Latest.r8 F.osierref08_Latest.ic F.osierref08_Latest.rs
attribute [go_sem] F.osierref08_Story.r0 F.osierref08_Story.r1 F.osierref08_Story.r2 F.osierref08_Story.r3 F.osierref08_Story.r4 F.osierref08_Story.r5 F.osierref08_Story.r6 F.osierref08_Story.r7 F.osierref08_Story.r8 F.osierref08_Story.r9 F.osierref08_Story.r10 F.osierref08_Story.r11 F.osierref08_Story.r12 F.osierref08_Story.r13 F.osierref08_Story.r14 F.osierref08_Story.r15 F.osierref08_Story.r16 F.osierref08_Story.r17 F.osierref08_Story.r18 F.osierref08_Story.r19 F.osierref08_Story.ic F.osierref08_Story.rs
attribute [go_sem] F.osierref08_abs.r0 F.osierref08_abs.r1 F.osierref08_abs.r2 F.osierref08_abs.r3 F.osierref08_abs.ic F.osierref08_abs.rs
attribute [go_sem] F.osierref08_moved.r0 F.osierref08_moved.r1 F.osierref08_moved.r2 F.osierref08_moved.r3 F.osierref08_moved.r4 F.osierref08_moved.r5 F.osierref08_moved.r6 F.osierref08_moved.r7 F.osierref08_moved.r8 F.osierref08_moved.r9 F.osierref08_moved.r10 F.osierref08_moved.r11 F.osierref08_moved.ic F.osierref08_moved.rs
attribute [go_sem] F.osierref08_one.r0 F.osierref08_one.r1 F.osierref08_one.r2 F.osierref08_one.r3 F.osierref08_one.r4 F.osierref08_one.r5 F.osierref08_one.r6 F.osierref08_one.r7 F.osierref08_one.r8 F.osierref08_one.r9 F.osierref08_one.r10 F.osierref08_one.r11 F.osierref08_one.r12 F.osierref08_one.r13 F.osierref08_one.r14 F.osierref08_one.r15 F.osierref08_one.r16 F.osierref08_one.r17 F.osierref08_one.r18 F.osierref08_one.r19 F.osierref08_one.r20 F.osierref08_one.r21 F.osierref08_one.r22 F.osierref08_one.r23 F.osierref08_one.r24 F.osierref08_one.r25 F.osierref08_one.r26 F.osierref08_one.r27 F.osierref08_one.r28 F.osierref08_one.r29 F.osierref08_one.r30 F.osierref08_one.r31 F.osierref08_one.r32 F.osierref08_one.ic F.osierref08_one.rs
end Go.Osj
