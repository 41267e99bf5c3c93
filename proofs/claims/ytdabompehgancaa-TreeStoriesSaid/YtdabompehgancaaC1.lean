/- The compiled code of functions (printed by a program, checked by the kernel). -/
import Derived.Test.YtdabompehgancaaC0
import Derived.Test.YtdabompehgancaaOsjN
set_option linter.unusedSimpArgs false
set_option linter.unusedVariables false
set_option maxRecDepth 100000
namespace Go.Osj
noncomputable def F.osierlaw10_TreeLast.r0 : Plan :=
  .rd 0 none (.mv (.const (.bool false))) (some 2) false <|
  .done
noncomputable def F.osierlaw10_TreeLast.r1 : Plan :=
  .ef 0 none (.call F.osierlaw10_awake []) (some 17) [] (
  .rd 1 none (.mv (.tmp 17)) (some 3) false <|
  .done) .none
noncomputable def F.osierlaw10_TreeLast.r2 : Plan :=
  .rd 0 none (.mv (.tmp 3)) (some 18) false <|
  .rd 1 none (.un .not (.tmp 18)) (some 19) false <|
  .done
noncomputable def F.osierlaw10_TreeLast.r3 : Plan :=
  .rd 0 none (.mv (.const (.bool false))) (some 2) false <|
  .done
noncomputable def F.osierlaw10_TreeLast.r4 : Plan :=
  .ef 0 none (.call F.movetree_New []) (some 20) [] (
  .rd 1 none (.mv (.tmp 20)) (some 4) false <|
  .done) .none
noncomputable def F.osierlaw10_TreeLast.r5 : Plan :=
  .rd 0 none (.mv (.const (.slice none 0 0))) (some 5) false <|
  .done
noncomputable def F.osierlaw10_TreeLast.r6 : Plan :=
  .rd 0 none (.mv (.const (.int .i64 0))) (some 6) false <|
  .done
noncomputable def F.osierlaw10_TreeLast.r7 : Plan :=
  .rd 0 none (.mv (.tmp 6)) (some 21) false <|
  .rd 1 none (.mv (.tmp 0)) (some 22) false <|
  .rd 2 none (.len .sl (.tmp 22)) (some 23) false <|
  .rd 3 none (.bin .lss (.tmp 21) (.tmp 23)) (some 24) false <|
  .rd 4 none (.mv (.tmp 24)) (some 25) false <|
  .rd 5 (some (25, true)) (.mv (.tmp 6)) (some 26) false <|
  .rd 6 (some (25, true)) (.bin .lss (.tmp 26) (.const (.int .i64 60))) (some 27) false <|
  .rd 7 none (.pick (.tmp 25) (.tmp 27) (.const (.bool false))) (some 28) false <|
  .done
noncomputable def F.osierlaw10_TreeLast.r8 : Plan :=
  .rd 0 none (.mv (.tmp 4)) (some 31) false <|
  .rd 1 none (.mv (.tmp 0)) (some 32) false <|
  .rd 2 none (.mv (.tmp 6)) (some 33) false <|
  .rd 3 none (.idxA 8 (.tmp 32) (.tmp 33)) (some 34) false <|
  .rd 4 none (.fldA 0 (.tmp 34)) (some 35) false <|
  .rd 5 none (.ldn 2 (.tmp 35)) (some 36) false <|
  .rd 6 none (.mv (.tmp 0)) (some 37) false <|
  .rd 7 none (.mv (.tmp 6)) (some 38) false <|
  .rd 8 none (.idxA 8 (.tmp 37) (.tmp 38)) (some 39) false <|
  .rd 9 none (.fldA 2 (.tmp 39)) (some 40) false <|
  .rd 10 none (.ld1 (.tmp 40)) (some 41) false <|
  .rd 11 none (.mv (.tmp 0)) (some 42) false <|
  .rd 12 none (.mv (.tmp 6)) (some 43) false <|
  .rd 13 none (.idxA 8 (.tmp 42) (.tmp 43)) (some 44) false <|
  .rd 14 none (.fldA 3 (.tmp 44)) (some 45) false <|
  .rd 15 none (.ldn 2 (.tmp 45)) (some 46) false <|
  .rd 16 none (.mv (.tmp 0)) (some 47) false <|
  .rd 17 none (.mv (.tmp 6)) (some 48) false <|
  .rd 18 none (.idxA 8 (.tmp 47) (.tmp 48)) (some 49) false <|
  .rd 19 none (.fldA 5 (.tmp 49)) (some 50) false <|
  .rd 20 none (.ldn 2 (.tmp 50)) (some 51) false <|
  .rd 21 none (.mv (.tmp 0)) (some 52) false <|
  .rd 22 none (.mv (.tmp 6)) (some 53) false <|
  .rd 23 none (.idxA 8 (.tmp 52) (.tmp 53)) (some 54) false <|
  .rd 24 none (.fldA 7 (.tmp 54)) (some 55) false <|
  .rd 25 none (.ld1 (.tmp 55)) (some 56) false <|
  .ef 26 none (.call F.movetree_Tree_Move [(.tmp 31), (.tmp 36), (.tmp 41), (.tmp 46), (.tmp 51), (.tmp 56)]) (some 57) [] (
  .rd 27 none (.mv (.tmp 57)) (some 7) false <|
  .done) .none
noncomputable def F.osierlaw10_TreeLast.r9 : Plan :=
  .rd 0 none (.mv (.tmp 7)) (some 58) false <|
  .rd 1 none (.bin .eql (.tmp 58) (.const (.int .i64 0))) (some 59) false <|
  .done
noncomputable def F.osierlaw10_TreeLast.r10 : Plan :=
  .rd 0 none (.mv (.tmp 5)) (some 60) false <|
  .rd 1 none (.mv (.tmp 0)) (some 61) false <|
  .rd 2 none (.mv (.tmp 6)) (some 62) false <|
  .rd 3 none (.idxA 8 (.tmp 61) (.tmp 62)) (some 63) false <|
  .rd 4 none (.ldn 8 (.tmp 63)) (some 64) false <|
  .ef 5 none (.bsl 1 [(.int .i64 0), (.int .i64 0), (.int .i64 0), (.int .i64 0), (.int .i64 0), (.int .i64 0), (.int .i64 0), (.string ⟨#[]⟩)] [(0, (8, (.tmp 64)))]) (some 65) [] (
  .ef 6 none (.app 8 72 (.tmp 60) (.tmp 65)) (some 66) [] (
  .rd 7 none (.mv (.tmp 66)) (some 5) false <|
  .done) .none) .none
noncomputable def F.osierlaw10_TreeLast.r11 : Plan :=
  .rd 0 none (.mv (.tmp 6)) (some 29) false <|
  .rd 1 none (.bin .add (.tmp 29) (.const (.int .i64 1))) (some 30) false <|
  .rd 2 none (.mv (.tmp 30)) (some 6) false <|
  .done
noncomputable def F.osierlaw10_TreeLast.l0 : IC :=
    (.seq (.seq (.reg F.osierlaw10_TreeLast.r7)
    (.cond (.tmp 28) .skip (.exit 0)))
    (.seq (.block 1 (.seq (.reg F.osierlaw10_TreeLast.r8)
    (.seq (.reg F.osierlaw10_TreeLast.r9)
    (.cond (.tmp 59) (.reg F.osierlaw10_TreeLast.r10) .skip))))
    (.reg F.osierlaw10_TreeLast.r11)))
noncomputable def F.osierlaw10_TreeLast.r12 : Plan :=
  .rd 0 none (.mv (.const (.int .i64 0))) (some 8) false <|
  .done
noncomputable def F.osierlaw10_TreeLast.r13 : Plan :=
  .rd 0 none (.mv (.tmp 8)) (some 67) false <|
  .rd 1 none (.mv (.tmp 5)) (some 68) false <|
  .rd 2 none (.len .sl (.tmp 68)) (some 69) false <|
  .rd 3 none (.bin .lss (.tmp 67) (.tmp 69)) (some 70) false <|
  .done
noncomputable def F.osierlaw10_TreeLast.r14 : Plan :=
  .rd 0 none (.mv (.tmp 5)) (some 73) false <|
  .rd 1 none (.mv (.tmp 8)) (some 74) false <|
  .rd 2 none (.idxA 8 (.tmp 73) (.tmp 74)) (some 75) false <|
  .rd 3 none (.fldA 3 (.tmp 75)) (some 76) false <|
  .rd 4 none (.ldn 2 (.tmp 76)) (some 77) false <|
  .ef 5 none (.alloc [(.int .i64 0), (.int .i64 0)]) (some 9) [] (
  .ef 6 none (.st 2 (.tmp 9) (.tmp 77)) none [] (
  .done) .none) .none
noncomputable def F.osierlaw10_TreeLast.r15 : Plan :=
  .rd 0 none (.mv (.const (.int .i64 (-1)))) (some 10) false <|
  .done
noncomputable def F.osierlaw10_TreeLast.r16 : Plan :=
  .rd 0 none (.mv (.const (.bool false))) (some 11) false <|
  .done
noncomputable def F.osierlaw10_TreeLast.r17 : Plan :=
  .rd 0 none (.mv (.const (.int .i64 0))) (some 12) false <|
  .done
noncomputable def F.osierlaw10_TreeLast.r18 : Plan :=
  .rd 0 none (.mv (.tmp 12)) (some 78) false <|
  .rd 1 none (.mv (.tmp 5)) (some 79) false <|
  .rd 2 none (.len .sl (.tmp 79)) (some 80) false <|
  .rd 3 none (.bin .lss (.tmp 78) (.tmp 80)) (some 81) false <|
  .done
noncomputable def F.osierlaw10_TreeLast.r19 : Plan :=
  .rd 0 none (.mv (.tmp 4)) (some 84) false <|
  .rd 1 none (.mv (.tmp 5)) (some 85) false <|
  .rd 2 none (.mv (.tmp 12)) (some 86) false <|
  .rd 3 none (.idxA 8 (.tmp 85) (.tmp 86)) (some 87) false <|
  .rd 4 none (.fldA 0 (.tmp 87)) (some 88) false <|
  .rd 5 none (.ldn 2 (.tmp 88)) (some 89) false <|
  .ef 6 none (.call F.movetree_Tree_Took [(.tmp 84), (.tmp 89)]) (some 90) [] (
  .rd 7 none (.mv (.tmp 90)) (some 13) false <|
  .done) .none
noncomputable def F.osierlaw10_TreeLast.r20 : Plan :=
  .rd 0 none (.mv (.tmp 5)) (some 91) false <|
  .rd 1 none (.mv (.tmp 12)) (some 92) false <|
  .rd 2 none (.idxA 8 (.tmp 91) (.tmp 92)) (some 93) false <|
  .rd 3 none (.fldA 3 (.tmp 93)) (some 94) false <|
  .rd 4 none (.ldn 2 (.tmp 94)) (some 95) false <|
  .rd 5 none (.ldn 2 (.tmp 9)) (some 96) false <|
  .rd 6 none (.eqS [(.i .i64), (.i .i64)] true true (.tmp 95) (.tmp 96)) (some 97) false <|
  .rd 7 none (.mv (.tmp 97)) (some 98) false <|
  .rd 8 (some (98, false)) (.mv (.tmp 13)) (some 99) false <|
  .rd 9 (some (98, false)) (.un .not (.tmp 99)) (some 100) false <|
  .rd 10 none (.pick (.tmp 98) (.const (.bool true)) (.tmp 100)) (some 101) false <|
  .done
noncomputable def F.osierlaw10_TreeLast.r21 : Plan :=
  .rd 0 none (.mv (.tmp 11)) (some 102) false <|
  .rd 1 none (.mv (.tmp 102)) (some 103) false <|
  .rd 2 (some (103, false)) (.mv (.tmp 5)) (some 104) false <|
  .rd 3 (some (103, false)) (.mv (.tmp 12)) (some 105) false <|
  .rd 4 (some (103, false)) (.idxA 8 (.tmp 104) (.tmp 105)) (some 106) false <|
  .rd 5 (some (103, false)) (.fldA 0 (.tmp 106)) (some 107) false <|
  .rd 6 (some (103, false)) (.ldn 2 (.tmp 107)) (some 108) false <|
  .rd 7 (some (103, false)) (.ldn 2 (.tmp 9)) (some 109) false <|
  .rd 8 (some (103, false)) (.eqS [(.i .i64), (.i .i64)] true false (.tmp 108) (.tmp 109)) (some 110) false <|
  .rd 9 none (.pick (.tmp 103) (.const (.bool true)) (.tmp 110)) (some 111) false <|
  .rd 10 none (.mv (.tmp 111)) (some 11) false <|
  .done
noncomputable def F.osierlaw10_TreeLast.r22 : Plan :=
  .rd 0 none (.mv (.tmp 10)) (some 112) false <|
  .rd 1 none (.bin .lss (.tmp 112) (.const (.int .i64 0))) (some 113) false <|
  .rd 2 none (.mv (.tmp 113)) (some 114) false <|
  .rd 3 (some (114, false)) (.mv (.tmp 5)) (some 115) false <|
  .rd 4 (some (114, false)) (.mv (.tmp 10)) (some 116) false <|
  .rd 5 (some (114, false)) (.idxA 8 (.tmp 115) (.tmp 116)) (some 117) false <|
  .rd 6 (some (114, false)) (.fldA 2 (.tmp 117)) (some 118) false <|
  .rd 7 (some (114, false)) (.ld1 (.tmp 118)) (some 119) false <|
  .rd 8 (some (114, false)) (.mv (.tmp 5)) (some 120) false <|
  .rd 9 (some (114, false)) (.mv (.tmp 12)) (some 121) false <|
  .rd 10 (some (114, false)) (.idxA 8 (.tmp 120) (.tmp 121)) (some 122) false <|
  .rd 11 (some (114, false)) (.fldA 2 (.tmp 122)) (some 123) false <|
  .rd 12 (some (114, false)) (.ld1 (.tmp 123)) (some 124) false <|
  .rd 13 (some (114, false)) (.bin .lss (.tmp 119) (.tmp 124)) (some 125) false <|
  .rd 14 none (.pick (.tmp 114) (.const (.bool true)) (.tmp 125)) (some 126) false <|
  .rd 15 none (.mv (.tmp 126)) (some 127) false <|
  .rd 16 (some (127, false)) (.mv (.tmp 5)) (some 128) false <|
  .rd 17 (some (127, false)) (.mv (.tmp 10)) (some 129) false <|
  .rd 18 (some (127, false)) (.idxA 8 (.tmp 128) (.tmp 129)) (some 130) false <|
  .rd 19 (some (127, false)) (.fldA 2 (.tmp 130)) (some 131) false <|
  .rd 20 (some (127, false)) (.ld1 (.tmp 131)) (some 132) false <|
  .rd 21 (some (127, false)) (.mv (.tmp 5)) (some 133) false <|
  .rd 22 (some (127, false)) (.mv (.tmp 12)) (some 134) false <|
  .rd 23 (some (127, false)) (.idxA 8 (.tmp 133) (.tmp 134)) (some 135) false <|
  .rd 24 (some (127, false)) (.fldA 2 (.tmp 135)) (some 136) false <|
  .rd 25 (some (127, false)) (.ld1 (.tmp 136)) (some 137) false <|
  .rd 26 (some (127, false)) (.bin .eql (.tmp 132) (.tmp 137)) (some 138) false <|
  .rd 27 (some (127, false)) (.mv (.tmp 138)) (some 139) false <|
  .rd 28 (some (139, true)) (.mv (.tmp 5)) (some 140) false <|
  .rd 29 (some (139, true)) (.mv (.tmp 10)) (some 141) false <|
  .rd 30 (some (139, true)) (.idxA 8 (.tmp 140) (.tmp 141)) (some 142) false <|
  .rd 31 (some (139, true)) (.fldA 0 (.tmp 142)) (some 143) false <|
  .rd 32 (some (139, true)) (.ldn 2 (.tmp 143)) (some 144) false <|
  .rd 33 (some (139, true)) (.mv (.tmp 5)) (some 145) false <|
  .rd 34 (some (139, true)) (.mv (.tmp 12)) (some 146) false <|
  .rd 35 (some (139, true)) (.idxA 8 (.tmp 145) (.tmp 146)) (some 147) false <|
  .rd 36 (some (139, true)) (.fldA 0 (.tmp 147)) (some 148) false <|
  .rd 37 (some (139, true)) (.ldn 2 (.tmp 148)) (some 149) false <|
  .ef 38 (some (139, true)) (.call F.osierref03_Less [(.tmp 144), (.tmp 149)]) (some 150) [] (
  .rd 39 (some (127, false)) (.pick (.tmp 139) (.tmp 150) (.const (.bool false))) (some 151) false <|
  .rd 40 none (.pick (.tmp 127) (.const (.bool true)) (.tmp 151)) (some 152) false <|
  .done) .none
noncomputable def F.osierlaw10_TreeLast.r23 : Plan :=
  .rd 0 none (.mv (.tmp 12)) (some 153) false <|
  .rd 1 none (.mv (.tmp 153)) (some 10) false <|
  .done
noncomputable def F.osierlaw10_TreeLast.r24 : Plan :=
  .rd 0 none (.mv (.tmp 12)) (some 82) false <|
  .rd 1 none (.bin .add (.tmp 82) (.const (.int .i64 1))) (some 83) false <|
  .rd 2 none (.mv (.tmp 83)) (some 12) false <|
  .done
noncomputable def F.osierlaw10_TreeLast.l1 : IC :=
    (.seq (.seq (.reg F.osierlaw10_TreeLast.r18)
    (.cond (.tmp 81) .skip (.exit 4)))
    (.seq (.block 5 (.seq (.reg F.osierlaw10_TreeLast.r19)
    (.seq (.seq (.reg F.osierlaw10_TreeLast.r20)
    (.cond (.tmp 101) (.exit 5) .skip))
    (.seq (.reg F.osierlaw10_TreeLast.r21)
    (.seq (.reg F.osierlaw10_TreeLast.r22)
    (.cond (.tmp 152) (.reg F.osierlaw10_TreeLast.r23) .skip))))))
    (.reg F.osierlaw10_TreeLast.r24)))
noncomputable def F.osierlaw10_TreeLast.r25 : Plan :=
  .rd 0 none (.mv (.tmp 4)) (some 155) false <|
  .rd 1 none (.ldn 2 (.tmp 9)) (some 156) false <|
  .ef 2 none (.call F.movetree_Tree_Parent [(.tmp 155), (.tmp 156)]) (some 157) [] (
  .rd 3 none (.mv (.tmp 157)) (some 154) false <|
  .rd 4 none (.ext 0 (.tmp 154)) (some 158) false <|
  .rd 5 none (.ext 1 (.tmp 154)) (some 159) false <|
  .rd 6 none (.ext 2 (.tmp 154)) (some 160) false <|
  .ef 7 none (.alloc [(.int .i64 0), (.int .i64 0)]) (some 14) [] (
  .ef 8 none (.st 2 (.tmp 14) (.tmp 158)) none [] (
  .rd 9 none (.mv (.tmp 159)) (some 15) false <|
  .rd 10 none (.mv (.tmp 160)) (some 16) false <|
  .done) .none) .none) .none
noncomputable def F.osierlaw10_TreeLast.r26 : Plan :=
  .rd 0 none (.mv (.tmp 16)) (some 161) false <|
  .rd 1 none (.mv (.tmp 10)) (some 162) false <|
  .rd 2 none (.bin .geq (.tmp 162) (.const (.int .i64 0))) (some 163) false <|
  .rd 3 none (.eqS [.b] false true (.tmp 161) (.tmp 163)) (some 164) false <|
  .rd 4 none (.mv (.tmp 164)) (some 165) false <|
  .rd 5 (some (165, false)) (.mv (.tmp 16)) (some 166) false <|
  .rd 6 (some (165, false)) (.mv (.tmp 11)) (some 167) false <|
  .rd 7 (some (165, false)) (.eqS [.b] false true (.tmp 166) (.tmp 167)) (some 168) false <|
  .rd 8 none (.pick (.tmp 165) (.const (.bool true)) (.tmp 168)) (some 169) false <|
  .rd 9 none (.mv (.tmp 169)) (some 170) false <|
  .rd 10 (some (170, false)) (.mv (.tmp 16)) (some 171) false <|
  .rd 11 (some (170, false)) (.mv (.tmp 171)) (some 172) false <|
  .rd 12 (some (172, true)) (.ldn 2 (.tmp 14)) (some 173) false <|
  .rd 13 (some (172, true)) (.mv (.tmp 5)) (some 174) false <|
  .rd 14 (some (172, true)) (.mv (.tmp 10)) (some 175) false <|
  .rd 15 (some (172, true)) (.idxA 8 (.tmp 174) (.tmp 175)) (some 176) false <|
  .rd 16 (some (172, true)) (.fldA 5 (.tmp 176)) (some 177) false <|
  .rd 17 (some (172, true)) (.ldn 2 (.tmp 177)) (some 178) false <|
  .rd 18 (some (172, true)) (.eqS [(.i .i64), (.i .i64)] true true (.tmp 173) (.tmp 178)) (some 179) false <|
  .rd 19 (some (172, true)) (.mv (.tmp 179)) (some 180) false <|
  .rd 20 (some (180, false)) (.mv (.tmp 15)) (some 181) false <|
  .rd 21 (some (180, false)) (.mv (.tmp 5)) (some 182) false <|
  .rd 22 (some (180, false)) (.mv (.tmp 10)) (some 183) false <|
  .rd 23 (some (180, false)) (.idxA 8 (.tmp 182) (.tmp 183)) (some 184) false <|
  .rd 24 (some (180, false)) (.fldA 7 (.tmp 184)) (some 185) false <|
  .rd 25 (some (180, false)) (.ld1 (.tmp 185)) (some 186) false <|
  .rd 26 (some (180, false)) (.bin .neq (.tmp 181) (.tmp 186)) (some 187) false <|
  .rd 27 (some (172, true)) (.pick (.tmp 180) (.const (.bool true)) (.tmp 187)) (some 188) false <|
  .rd 28 (some (170, false)) (.pick (.tmp 172) (.tmp 188) (.const (.bool false))) (some 189) false <|
  .rd 29 none (.pick (.tmp 170) (.const (.bool true)) (.tmp 189)) (some 190) false <|
  .done
noncomputable def F.osierlaw10_TreeLast.r27 : Plan :=
  .rd 0 none (.mv (.const (.bool false))) (some 2) false <|
  .done
noncomputable def F.osierlaw10_TreeLast.r28 : Plan :=
  .rd 0 none (.mv (.tmp 8)) (some 71) false <|
  .rd 1 none (.bin .add (.tmp 71) (.const (.int .i64 1))) (some 72) false <|
  .rd 2 none (.mv (.tmp 72)) (some 8) false <|
  .done
noncomputable def F.osierlaw10_TreeLast.l2 : IC :=
    (.seq (.seq (.reg F.osierlaw10_TreeLast.r13)
    (.cond (.tmp 70) .skip (.exit 2)))
    (.seq (.block 3 (.seq (.reg F.osierlaw10_TreeLast.r14)
    (.seq (.reg F.osierlaw10_TreeLast.r15)
    (.seq (.reg F.osierlaw10_TreeLast.r16)
    (.seq (.seq (.reg F.osierlaw10_TreeLast.r17)
    (.block 4 (.loop F.osierlaw10_TreeLast.l1)))
    (.seq (.reg F.osierlaw10_TreeLast.r25)
    (.seq (.reg F.osierlaw10_TreeLast.r26)
    (.cond (.tmp 190) (.seq (.reg F.osierlaw10_TreeLast.r27)
    .ret) .skip))))))))
    (.reg F.osierlaw10_TreeLast.r28)))
noncomputable def F.osierlaw10_TreeLast.r29 : Plan :=
  .rd 0 none (.mv (.const (.bool true))) (some 2) false <|
  .done
noncomputable def F.osierlaw10_TreeLast.ic : IC :=
    (.seq (.reg F.osierlaw10_TreeLast.r0)
    (.seq (.reg F.osierlaw10_TreeLast.r1)
    (.seq (.seq (.reg F.osierlaw10_TreeLast.r2)
    (.cond (.tmp 19) (.seq (.reg F.osierlaw10_TreeLast.r3)
    .ret) .skip))
    (.seq (.reg F.osierlaw10_TreeLast.r4)
    (.seq (.reg F.osierlaw10_TreeLast.r5)
    (.seq (.seq (.reg F.osierlaw10_TreeLast.r6)
    (.block 0 (.loop F.osierlaw10_TreeLast.l0)))
    (.seq (.seq (.reg F.osierlaw10_TreeLast.r12)
    (.block 2 (.loop F.osierlaw10_TreeLast.l2)))
    (.seq (.reg F.osierlaw10_TreeLast.r29)
    .ret))))))))
noncomputable def F.osierlaw10_TreeLast.rs : List RO := [(.mv (.tmp 2))]
theorem F.osierlaw10_TreeLast.ok : cFunc Go.Proofs.Try.prog F.osierlaw10_TreeLast = some (191, F.osierlaw10_TreeLast.ic, F.osierlaw10_TreeLast.rs) := by kernel_rfl
theorem F.osierlaw10_TreeLast.cl : callable Go.Proofs.Try.prog F.osierlaw10_TreeLast = true := by kernel_rfl
noncomputable def F.osierlaw10_TreeMoves.r0 : Plan :=
  .rd 0 none (.mv (.const (.bool false))) (some 8) false <|
  .done
noncomputable def F.osierlaw10_TreeMoves.r1 : Plan :=
  .ef 0 none (.call F.osierlaw10_awake []) (some 24) [] (
  .rd 1 none (.mv (.tmp 24)) (some 9) false <|
  .done) .none
noncomputable def F.osierlaw10_TreeMoves.r2 : Plan :=
  .rd 0 none (.mv (.tmp 9)) (some 25) false <|
  .rd 1 none (.un .not (.tmp 25)) (some 26) false <|
  .done
noncomputable def F.osierlaw10_TreeMoves.r3 : Plan :=
  .rd 0 none (.mv (.const (.bool false))) (some 8) false <|
  .done
noncomputable def F.osierlaw10_TreeMoves.r4 : Plan :=
  .ef 0 none (.call F.movetree_New []) (some 27) [] (
  .rd 1 none (.mv (.tmp 27)) (some 10) false <|
  .done) .none
noncomputable def F.osierlaw10_TreeMoves.r5 : Plan :=
  .rd 0 none (.mv (.const (.int .i64 0))) (some 11) false <|
  .done
noncomputable def F.osierlaw10_TreeMoves.r6 : Plan :=
  .rd 0 none (.mv (.tmp 11)) (some 28) false <|
  .rd 1 none (.mv (.tmp 0)) (some 29) false <|
  .rd 2 none (.len .sl (.tmp 29)) (some 30) false <|
  .rd 3 none (.bin .lss (.tmp 28) (.tmp 30)) (some 31) false <|
  .rd 4 none (.mv (.tmp 31)) (some 32) false <|
  .rd 5 (some (32, true)) (.mv (.tmp 11)) (some 33) false <|
  .rd 6 (some (32, true)) (.bin .lss (.tmp 33) (.const (.int .i64 40))) (some 34) false <|
  .rd 7 none (.pick (.tmp 32) (.tmp 34) (.const (.bool false))) (some 35) false <|
  .done
noncomputable def F.osierlaw10_TreeMoves.r7 : Plan :=
  .rd 0 none (.mv (.tmp 0)) (some 38) false <|
  .rd 1 none (.mv (.tmp 11)) (some 39) false <|
  .rd 2 none (.idxA 8 (.tmp 38) (.tmp 39)) (some 40) false <|
  .rd 3 none (.fldA 2 (.tmp 40)) (some 41) false <|
  .rd 4 none (.ld1 (.tmp 41)) (some 42) false <|
  .rd 5 none (.bin .gtr (.tmp 42) (.const (.int .i64 1000000))) (some 43) false <|
  .done
noncomputable def F.osierlaw10_TreeMoves.r8 : Plan :=
  .rd 0 none (.mv (.const (.bool true))) (some 8) false <|
  .done
noncomputable def F.osierlaw10_TreeMoves.r9 : Plan :=
  .rd 0 none (.mv (.tmp 10)) (some 44) false <|
  .rd 1 none (.mv (.tmp 0)) (some 45) false <|
  .rd 2 none (.mv (.tmp 11)) (some 46) false <|
  .rd 3 none (.idxA 8 (.tmp 45) (.tmp 46)) (some 47) false <|
  .rd 4 none (.fldA 0 (.tmp 47)) (some 48) false <|
  .rd 5 none (.ldn 2 (.tmp 48)) (some 49) false <|
  .rd 6 none (.mv (.tmp 0)) (some 50) false <|
  .rd 7 none (.mv (.tmp 11)) (some 51) false <|
  .rd 8 none (.idxA 8 (.tmp 50) (.tmp 51)) (some 52) false <|
  .rd 9 none (.fldA 2 (.tmp 52)) (some 53) false <|
  .rd 10 none (.ld1 (.tmp 53)) (some 54) false <|
  .rd 11 none (.mv (.tmp 0)) (some 55) false <|
  .rd 12 none (.mv (.tmp 11)) (some 56) false <|
  .rd 13 none (.idxA 8 (.tmp 55) (.tmp 56)) (some 57) false <|
  .rd 14 none (.fldA 3 (.tmp 57)) (some 58) false <|
  .rd 15 none (.ldn 2 (.tmp 58)) (some 59) false <|
  .rd 16 none (.mv (.tmp 0)) (some 60) false <|
  .rd 17 none (.mv (.tmp 11)) (some 61) false <|
  .rd 18 none (.idxA 8 (.tmp 60) (.tmp 61)) (some 62) false <|
  .rd 19 none (.fldA 5 (.tmp 62)) (some 63) false <|
  .rd 20 none (.ldn 2 (.tmp 63)) (some 64) false <|
  .rd 21 none (.mv (.tmp 0)) (some 65) false <|
  .rd 22 none (.mv (.tmp 11)) (some 66) false <|
  .rd 23 none (.idxA 8 (.tmp 65) (.tmp 66)) (some 67) false <|
  .rd 24 none (.fldA 7 (.tmp 67)) (some 68) false <|
  .rd 25 none (.ld1 (.tmp 68)) (some 69) false <|
  .ef 26 none (.call F.movetree_Tree_Move [(.tmp 44), (.tmp 49), (.tmp 54), (.tmp 59), (.tmp 64), (.tmp 69)]) (some 70) [] (
  .done) .none
noncomputable def F.osierlaw10_TreeMoves.r10 : Plan :=
  .rd 0 none (.mv (.tmp 11)) (some 36) false <|
  .rd 1 none (.bin .add (.tmp 36) (.const (.int .i64 1))) (some 37) false <|
  .rd 2 none (.mv (.tmp 37)) (some 11) false <|
  .done
noncomputable def F.osierlaw10_TreeMoves.l0 : IC :=
    (.seq (.seq (.reg F.osierlaw10_TreeMoves.r6)
    (.cond (.tmp 35) .skip (.exit 0)))
    (.seq (.block 1 (.seq (.seq (.reg F.osierlaw10_TreeMoves.r7)
    (.cond (.tmp 43) (.seq (.reg F.osierlaw10_TreeMoves.r8)
    .ret) .skip))
    (.reg F.osierlaw10_TreeMoves.r9)))
    (.reg F.osierlaw10_TreeMoves.r10)))
noncomputable def F.osierlaw10_TreeMoves.r11 : Plan :=
  .rd 0 none (.mv (.tmp 10)) (some 71) false <|
  .ef 1 none (.call F.movetree_Tree_Blocks [(.tmp 71)]) (some 72) [] (
  .rd 2 none (.mv (.tmp 72)) (some 12) false <|
  .done) .none
noncomputable def F.osierlaw10_TreeMoves.r12 : Plan :=
  .rd 0 none (.mv (.tmp 12)) (some 73) false <|
  .rd 1 none (.len .sl (.tmp 73)) (some 74) false <|
  .rd 2 none (.bin .eql (.tmp 74) (.const (.int .i64 0))) (some 75) false <|
  .done
noncomputable def F.osierlaw10_TreeMoves.r13 : Plan :=
  .rd 0 none (.mv (.const (.bool true))) (some 8) false <|
  .done
noncomputable def F.osierlaw10_TreeMoves.r14 : Plan :=
  .rd 0 none (.mv (.tmp 1)) (some 76) false <|
  .rd 1 none (.bin .lss (.tmp 76) (.const (.int .i64 0))) (some 77) false <|
  .done
noncomputable def F.osierlaw10_TreeMoves.r15 : Plan :=
  .rd 0 none (.mv (.tmp 1)) (some 78) false <|
  .rd 1 none (.bin .add (.tmp 78) (.const (.int .i64 1))) (some 79) false <|
  .rd 2 none (.un .neg (.tmp 79)) (some 80) false <|
  .rd 3 none (.mv (.tmp 80)) (some 1) false <|
  .done
noncomputable def F.osierlaw10_TreeMoves.r16 : Plan :=
  .rd 0 none (.mv (.tmp 2)) (some 81) false <|
  .rd 1 none (.bin .lss (.tmp 81) (.const (.int .i64 0))) (some 82) false <|
  .done
noncomputable def F.osierlaw10_TreeMoves.r17 : Plan :=
  .rd 0 none (.mv (.tmp 2)) (some 83) false <|
  .rd 1 none (.bin .add (.tmp 83) (.const (.int .i64 1))) (some 84) false <|
  .rd 2 none (.un .neg (.tmp 84)) (some 85) false <|
  .rd 3 none (.mv (.tmp 85)) (some 2) false <|
  .done
noncomputable def F.osierlaw10_TreeMoves.r18 : Plan :=
  .rd 0 none (.mv (.tmp 12)) (some 86) false <|
  .rd 1 none (.mv (.tmp 1)) (some 87) false <|
  .rd 2 none (.mv (.tmp 12)) (some 88) false <|
  .rd 3 none (.len .sl (.tmp 88)) (some 89) false <|
  .rd 4 none (.bin .rem (.tmp 87) (.tmp 89)) (some 90) false <|
  .rd 5 none (.idxA 2 (.tmp 86) (.tmp 90)) (some 91) false <|
  .rd 6 none (.ldn 2 (.tmp 91)) (some 92) false <|
  .ef 7 none (.alloc [(.int .i64 0), (.int .i64 0)]) (some 13) [] (
  .ef 8 none (.st 2 (.tmp 13) (.tmp 92)) none [] (
  .done) .none) .none
noncomputable def F.osierlaw10_TreeMoves.r19 : Plan :=
  .ef 0 none (.call F.api_Trash []) (some 93) [] (
  .ef 1 none (.alloc [(.int .i64 0), (.int .i64 0)]) (some 14) [] (
  .ef 2 none (.st 2 (.tmp 14) (.tmp 93)) none [] (
  .done) .none) .none) .none
noncomputable def F.osierlaw10_TreeMoves.r20 : Plan :=
  .rd 0 none (.mv (.tmp 2)) (some 94) false <|
  .rd 1 none (.mv (.tmp 12)) (some 95) false <|
  .rd 2 none (.len .sl (.tmp 95)) (some 96) false <|
  .rd 3 none (.bin .add (.tmp 96) (.const (.int .i64 1))) (some 97) false <|
  .rd 4 none (.bin .rem (.tmp 94) (.tmp 97)) (some 98) false <|
  .rd 5 none (.mv (.tmp 12)) (some 99) false <|
  .rd 6 none (.len .sl (.tmp 99)) (some 100) false <|
  .rd 7 none (.bin .lss (.tmp 98) (.tmp 100)) (some 101) false <|
  .done
noncomputable def F.osierlaw10_TreeMoves.r21 : Plan :=
  .rd 0 none (.mv (.tmp 12)) (some 102) false <|
  .rd 1 none (.mv (.tmp 2)) (some 103) false <|
  .rd 2 none (.mv (.tmp 12)) (some 104) false <|
  .rd 3 none (.len .sl (.tmp 104)) (some 105) false <|
  .rd 4 none (.bin .add (.tmp 105) (.const (.int .i64 1))) (some 106) false <|
  .rd 5 none (.bin .rem (.tmp 103) (.tmp 106)) (some 107) false <|
  .rd 6 none (.idxA 2 (.tmp 102) (.tmp 107)) (some 108) false <|
  .rd 7 none (.ldn 2 (.tmp 108)) (some 109) false <|
  .ef 8 none (.st 2 (.tmp 14) (.tmp 109)) none [] (
  .done) .none
noncomputable def F.osierlaw10_TreeMoves.r22 : Plan :=
  .rd 0 none (.ldn 2 (.tmp 14)) (some 110) false <|
  .rd 1 none (.ldn 2 (.tmp 13)) (some 111) false <|
  .rd 2 none (.eqS [(.i .i64), (.i .i64)] true true (.tmp 110) (.tmp 111)) (some 112) false <|
  .rd 3 none (.mv (.tmp 112)) (some 113) false <|
  .rd 4 (some (113, true)) (.mv (.tmp 10)) (some 114) false <|
  .rd 5 (some (113, true)) (.ldn 2 (.tmp 14)) (some 115) false <|
  .rd 7 (some (113, true)) (.ldn 2 (.tmp 13)) (some 117) true <|
  .ef 6 (some (113, true)) (.call F.movetree_Tree_Path [(.tmp 114), (.tmp 115)]) (some 116) [7] (
  .ef 8 (some (113, true)) (.call F.osierref03_In [(.tmp 116), (.tmp 117)]) (some 118) [] (
  .rd 9 (some (113, true)) (.un .not (.tmp 118)) (some 119) false <|
  .rd 10 none (.pick (.tmp 113) (.tmp 119) (.const (.bool false))) (some 120) false <|
  .rd 11 none (.mv (.tmp 120)) (some 15) false <|
  .done) .none) .none
noncomputable def F.osierlaw10_TreeMoves.r23 : Plan :=
  .rd 0 none (.mv (.tmp 10)) (some 122) false <|
  .rd 1 none (.ldn 2 (.tmp 13)) (some 123) false <|
  .ef 2 none (.call F.movetree_Tree_Parent [(.tmp 122), (.tmp 123)]) (some 124) [] (
  .rd 3 none (.mv (.tmp 124)) (some 121) false <|
  .rd 4 none (.ext 0 (.tmp 121)) (some 125) false <|
  .rd 5 none (.ext 1 (.tmp 121)) (some 126) false <|
  .rd 6 none (.ext 2 (.tmp 121)) (some 127) false <|
  .ef 7 none (.alloc [(.int .i64 0), (.int .i64 0)]) (some 16) [] (
  .ef 8 none (.st 2 (.tmp 16) (.tmp 125)) none [] (
  .rd 9 none (.mv (.tmp 126)) (some 17) false <|
  .rd 10 none (.mv (.tmp 127)) (some 18) false <|
  .done) .none) .none) .none
noncomputable def F.osierlaw10_TreeMoves.r24 : Plan :=
  .rd 0 none (.build [(.int .i64 0), (.int .i64 0)] [(0, (1, (.const (.int .i64 99)))), (1, (1, (.const (.int .i64 99))))]) (some 128) false <|
  .ef 1 none (.alloc [(.int .i64 0), (.int .i64 0)]) (some 19) [] (
  .ef 2 none (.st 2 (.tmp 19) (.tmp 128)) none [] (
  .done) .none) .none
noncomputable def F.osierlaw10_TreeMoves.r25 : Plan :=
  .rd 0 none (.mv (.tmp 10)) (some 129) false <|
  .rd 1 none (.ldn 2 (.tmp 19)) (some 130) false <|
  .rd 2 none (.ldn 2 (.tmp 13)) (some 131) false <|
  .rd 3 none (.ldn 2 (.tmp 14)) (some 132) false <|
  .rd 4 none (.mv (.tmp 3)) (some 133) false <|
  .ef 5 none (.call F.movetree_Tree_Move [(.tmp 129), (.tmp 130), (.const (.int .i64 1000001)), (.tmp 131), (.tmp 132), (.tmp 133)]) (some 134) [] (
  .rd 6 none (.mv (.tmp 134)) (some 20) false <|
  .done) .none
noncomputable def F.osierlaw10_TreeMoves.r26 : Plan :=
  .rd 0 none (.mv (.tmp 20)) (some 135) false <|
  .rd 1 none (.bin .eql (.tmp 135) (.const (.int .i64 32))) (some 136) false <|
  .done
noncomputable def F.osierlaw10_TreeMoves.r27 : Plan :=
  .rd 0 none (.mv (.const (.bool true))) (some 8) false <|
  .done
noncomputable def F.osierlaw10_TreeMoves.r28 : Plan :=
  .rd 0 none (.mv (.tmp 10)) (some 138) false <|
  .rd 1 none (.ldn 2 (.tmp 13)) (some 139) false <|
  .ef 2 none (.call F.movetree_Tree_Parent [(.tmp 138), (.tmp 139)]) (some 140) [] (
  .rd 3 none (.mv (.tmp 140)) (some 137) false <|
  .rd 4 none (.ext 0 (.tmp 137)) (some 141) false <|
  .rd 5 none (.ext 1 (.tmp 137)) (some 142) false <|
  .rd 6 none (.ext 2 (.tmp 137)) (some 143) false <|
  .ef 7 none (.alloc [(.int .i64 0), (.int .i64 0)]) (some 21) [] (
  .ef 8 none (.st 2 (.tmp 21) (.tmp 141)) none [] (
  .rd 9 none (.mv (.tmp 142)) (some 22) false <|
  .rd 10 none (.mv (.tmp 143)) (some 23) false <|
  .done) .none) .none) .none
noncomputable def F.osierlaw10_TreeMoves.r29 : Plan :=
  .rd 0 none (.mv (.tmp 20)) (some 144) false <|
  .rd 1 none (.bin .neq (.tmp 144) (.const (.int .i64 0))) (some 145) false <|
  .rd 2 none (.mv (.tmp 145)) (some 146) false <|
  .rd 3 (some (146, false)) (.mv (.tmp 23)) (some 147) false <|
  .rd 4 (some (146, false)) (.un .not (.tmp 147)) (some 148) false <|
  .rd 5 none (.pick (.tmp 146) (.const (.bool true)) (.tmp 148)) (some 149) false <|
  .rd 6 none (.mv (.tmp 149)) (some 150) false <|
  .rd 7 (some (150, false)) (.mv (.tmp 10)) (some 151) false <|
  .rd 8 (some (150, false)) (.ldn 2 (.tmp 19)) (some 152) false <|
  .ef 9 (some (150, false)) (.call F.movetree_Tree_Took [(.tmp 151), (.tmp 152)]) (some 153) [] (
  .rd 10 (some (150, false)) (.mv (.tmp 15)) (some 154) false <|
  .rd 11 (some (150, false)) (.eqS [.b] false true (.tmp 153) (.tmp 154)) (some 155) false <|
  .rd 12 none (.pick (.tmp 150) (.const (.bool true)) (.tmp 155)) (some 156) false <|
  .rd 13 none (.mv (.tmp 156)) (some 157) false <|
  .rd 14 (some (157, false)) (.mv (.tmp 15)) (some 158) false <|
  .rd 15 (some (157, false)) (.mv (.tmp 158)) (some 159) false <|
  .rd 16 (some (159, true)) (.ldn 2 (.tmp 21)) (some 160) false <|
  .rd 17 (some (159, true)) (.ldn 2 (.tmp 14)) (some 161) false <|
  .rd 18 (some (159, true)) (.eqS [(.i .i64), (.i .i64)] true true (.tmp 160) (.tmp 161)) (some 162) false <|
  .rd 19 (some (159, true)) (.mv (.tmp 162)) (some 163) false <|
  .rd 20 (some (163, false)) (.mv (.tmp 22)) (some 164) false <|
  .rd 21 (some (163, false)) (.mv (.tmp 3)) (some 165) false <|
  .rd 22 (some (163, false)) (.bin .neq (.tmp 164) (.tmp 165)) (some 166) false <|
  .rd 23 (some (159, true)) (.pick (.tmp 163) (.const (.bool true)) (.tmp 166)) (some 167) false <|
  .rd 24 (some (157, false)) (.pick (.tmp 159) (.tmp 167) (.const (.bool false))) (some 168) false <|
  .rd 25 none (.pick (.tmp 157) (.const (.bool true)) (.tmp 168)) (some 169) false <|
  .rd 26 none (.mv (.tmp 169)) (some 170) false <|
  .rd 27 (some (170, false)) (.mv (.tmp 15)) (some 171) false <|
  .rd 28 (some (170, false)) (.un .not (.tmp 171)) (some 172) false <|
  .rd 29 (some (170, false)) (.mv (.tmp 172)) (some 173) false <|
  .rd 30 (some (173, true)) (.ldn 2 (.tmp 21)) (some 174) false <|
  .rd 31 (some (173, true)) (.ldn 2 (.tmp 16)) (some 175) false <|
  .rd 32 (some (173, true)) (.eqS [(.i .i64), (.i .i64)] true true (.tmp 174) (.tmp 175)) (some 176) false <|
  .rd 33 (some (173, true)) (.mv (.tmp 176)) (some 177) false <|
  .rd 34 (some (177, false)) (.mv (.tmp 22)) (some 178) false <|
  .rd 35 (some (177, false)) (.mv (.tmp 17)) (some 179) false <|
  .rd 36 (some (177, false)) (.bin .neq (.tmp 178) (.tmp 179)) (some 180) false <|
  .rd 37 (some (173, true)) (.pick (.tmp 177) (.const (.bool true)) (.tmp 180)) (some 181) false <|
  .rd 38 (some (170, false)) (.pick (.tmp 173) (.tmp 181) (.const (.bool false))) (some 182) false <|
  .rd 39 none (.pick (.tmp 170) (.const (.bool true)) (.tmp 182)) (some 183) false <|
  .done) .none
noncomputable def F.osierlaw10_TreeMoves.r30 : Plan :=
  .rd 0 none (.mv (.const (.bool false))) (some 8) false <|
  .done
noncomputable def F.osierlaw10_TreeMoves.r31 : Plan :=
  .rd 0 none (.mv (.tmp 10)) (some 184) false <|
  .ef 1 none (.call F.movetree_Tree_Blocks [(.tmp 184)]) (some 185) [] (
  .rd 2 none (.mv (.tmp 12)) (some 186) false <|
  .ef 3 none (.call F.osierref03_Same [(.tmp 185), (.tmp 186)]) (some 187) [] (
  .rd 4 none (.mv (.tmp 187)) (some 8) false <|
  .done) .none) .none
noncomputable def F.osierlaw10_TreeMoves.ic : IC :=
    (.seq (.reg F.osierlaw10_TreeMoves.r0)
    (.seq (.reg F.osierlaw10_TreeMoves.r1)
    (.seq (.seq (.reg F.osierlaw10_TreeMoves.r2)
    (.cond (.tmp 26) (.seq (.reg F.osierlaw10_TreeMoves.r3)
    .ret) .skip))
    (.seq (.reg F.osierlaw10_TreeMoves.r4)
    (.seq (.seq (.reg F.osierlaw10_TreeMoves.r5)
    (.block 0 (.loop F.osierlaw10_TreeMoves.l0)))
    (.seq (.reg F.osierlaw10_TreeMoves.r11)
    (.seq (.seq (.reg F.osierlaw10_TreeMoves.r12)
    (.cond (.tmp 75) (.seq (.reg F.osierlaw10_TreeMoves.r13)
    .ret) .skip))
    (.seq (.seq (.reg F.osierlaw10_TreeMoves.r14)
    (.cond (.tmp 77) (.reg F.osierlaw10_TreeMoves.r15) .skip))
    (.seq (.seq (.reg F.osierlaw10_TreeMoves.r16)
    (.cond (.tmp 82) (.reg F.osierlaw10_TreeMoves.r17) .skip))
    (.seq (.reg F.osierlaw10_TreeMoves.r18)
    (.seq (.reg F.osierlaw10_TreeMoves.r19)
    (.seq (.seq (.reg F.osierlaw10_TreeMoves.r20)
    (.cond (.tmp 101) (.reg F.osierlaw10_TreeMoves.r21) .skip))
    (.seq (.reg F.osierlaw10_TreeMoves.r22)
    (.seq (.reg F.osierlaw10_TreeMoves.r23)
    (.seq (.reg F.osierlaw10_TreeMoves.r24)
    (.seq (.reg F.osierlaw10_TreeMoves.r25)
    (.seq (.seq (.reg F.osierlaw10_TreeMoves.r26)
    (.cond (.tmp 136) (.seq (.reg F.osierlaw10_TreeMoves.r27)
    .ret) .skip))
    (.seq (.reg F.osierlaw10_TreeMoves.r28)
    (.seq (.seq (.reg F.osierlaw10_TreeMoves.r29)
    (.cond (.tmp 183) (.seq (.reg F.osierlaw10_TreeMoves.r30)
    .ret) .skip))
    (.seq (.reg F.osierlaw10_TreeMoves.r31)
    .ret))))))))))))))))))))
noncomputable def F.osierlaw10_TreeMoves.rs : List RO := [(.mv (.tmp 8))]
theorem F.osierlaw10_TreeMoves.ok : cFunc Go.Proofs.Try.prog F.osierlaw10_TreeMoves = some (188, F.osierlaw10_TreeMoves.ic, F.osierlaw10_TreeMoves.rs) := by kernel_rfl
theorem F.osierlaw10_TreeMoves.cl : callable Go.Proofs.Try.prog F.osierlaw10_TreeMoves = true := by kernel_rfl
noncomputable def F.osierlaw10_awake.r0 : Plan :=
  .rd 0 none (.mv (.const (.bool false))) (some 0) false <|
  .done
noncomputable def F.osierlaw10_awake.r1 : Plan :=
  .ef 0 none (.call F.movetree_New []) (some 12) [] (
  .rd 1 none (.mv (.tmp 12)) (some 1) false <|
  .done) .none
noncomputable def F.osierlaw10_awake.r2 : Plan :=
  .rd 0 none (.build [(.int .i64 0), (.int .i64 0)] [(0, (1, (.const (.int .i64 1)))), (1, (1, (.const (.int .i64 1))))]) (some 13) false <|
  .ef 1 none (.alloc [(.int .i64 0), (.int .i64 0)]) (some 2) [] (
  .ef 2 none (.st 2 (.tmp 2) (.tmp 13)) none [] (
  .done) .none) .none
noncomputable def F.osierlaw10_awake.r3 : Plan :=
  .rd 0 none (.build [(.int .i64 0), (.int .i64 0)] [(0, (1, (.const (.int .i64 1)))), (1, (1, (.const (.int .i64 2))))]) (some 14) false <|
  .ef 1 none (.alloc [(.int .i64 0), (.int .i64 0)]) (some 3) [] (
  .ef 2 none (.st 2 (.tmp 3) (.tmp 14)) none [] (
  .done) .none) .none
noncomputable def F.osierlaw10_awake.r4 : Plan :=
  .rd 0 none (.build [(.int .i64 0), (.int .i64 0)] [(0, (1, (.const (.int .i64 1)))), (1, (1, (.const (.int .i64 3))))]) (some 15) false <|
  .ef 1 none (.alloc [(.int .i64 0), (.int .i64 0)]) (some 4) [] (
  .ef 2 none (.st 2 (.tmp 4) (.tmp 15)) none [] (
  .done) .none) .none
noncomputable def F.osierlaw10_awake.r5 : Plan :=
  .rd 0 none (.build [(.int .i64 0), (.int .i64 0)] [(0, (1, (.const (.int .i64 2)))), (1, (1, (.const (.int .i64 1))))]) (some 16) false <|
  .ef 1 none (.alloc [(.int .i64 0), (.int .i64 0)]) (some 5) [] (
  .ef 2 none (.st 2 (.tmp 5) (.tmp 16)) none [] (
  .done) .none) .none
noncomputable def F.osierlaw10_awake.r6 : Plan :=
  .rd 0 none (.mv (.tmp 1)) (some 17) false <|
  .rd 1 none (.ldn 2 (.tmp 2)) (some 18) true <|
  .rd 2 none (.ldn 2 (.tmp 2)) (some 19) true <|
  .ef 3 none (.call F.api_Root []) (some 20) [0, 1, 2] (
  .ef 4 none (.call F.movetree_Tree_Move [(.tmp 17), (.tmp 18), (.const (.int .i64 1)), (.tmp 19), (.tmp 20), (.const (.string ⟨#[110]⟩))]) (some 21) [] (
  .rd 5 none (.mv (.tmp 21)) (some 6) false <|
  .done) .none) .none
noncomputable def F.osierlaw10_awake.r7 : Plan :=
  .rd 0 none (.mv (.tmp 1)) (some 22) false <|
  .rd 1 none (.ldn 2 (.tmp 3)) (some 23) false <|
  .rd 2 none (.ldn 2 (.tmp 3)) (some 24) false <|
  .rd 3 none (.ldn 2 (.tmp 2)) (some 25) false <|
  .ef 4 none (.call F.movetree_Tree_Move [(.tmp 22), (.tmp 23), (.const (.int .i64 2)), (.tmp 24), (.tmp 25), (.const (.string ⟨#[110]⟩))]) (some 26) [] (
  .rd 5 none (.mv (.tmp 26)) (some 7) false <|
  .done) .none
noncomputable def F.osierlaw10_awake.r8 : Plan :=
  .rd 0 none (.mv (.tmp 1)) (some 27) false <|
  .rd 1 none (.ldn 2 (.tmp 4)) (some 28) false <|
  .rd 2 none (.ldn 2 (.tmp 2)) (some 29) false <|
  .rd 3 none (.ldn 2 (.tmp 3)) (some 30) false <|
  .ef 4 none (.call F.movetree_Tree_Move [(.tmp 27), (.tmp 28), (.const (.int .i64 3)), (.tmp 29), (.tmp 30), (.const (.string ⟨#[110]⟩))]) (some 31) [] (
  .rd 5 none (.mv (.tmp 31)) (some 8) false <|
  .done) .none
noncomputable def F.osierlaw10_awake.r9 : Plan :=
  .rd 0 none (.mv (.tmp 1)) (some 32) false <|
  .rd 1 none (.ldn 2 (.tmp 4)) (some 33) false <|
  .ef 2 none (.call F.movetree_Tree_Took [(.tmp 32), (.tmp 33)]) (some 34) [] (
  .rd 3 none (.mv (.tmp 34)) (some 9) false <|
  .done) .none
noncomputable def F.osierlaw10_awake.r10 : Plan :=
  .rd 0 none (.mv (.tmp 1)) (some 35) false <|
  .rd 1 none (.ldn 2 (.tmp 5)) (some 36) true <|
  .rd 2 none (.ldn 2 (.tmp 3)) (some 37) true <|
  .ef 3 none (.call F.api_Trash []) (some 38) [0, 1, 2] (
  .ef 4 none (.call F.movetree_Tree_Move [(.tmp 35), (.tmp 36), (.const (.int .i64 2)), (.tmp 37), (.tmp 38), (.const (.string ⟨#[110]⟩))]) (some 39) [] (
  .rd 5 none (.mv (.tmp 39)) (some 10) false <|
  .done) .none) .none
noncomputable def F.osierlaw10_awake.r11 : Plan :=
  .rd 0 none (.mv (.tmp 1)) (some 40) false <|
  .rd 1 none (.ldn 2 (.tmp 2)) (some 41) false <|
  .ef 2 none (.call F.movetree_Tree_Path [(.tmp 40), (.tmp 41)]) (some 42) [] (
  .rd 3 none (.mv (.tmp 42)) (some 11) false <|
  .done) .none
noncomputable def F.osierlaw10_awake.r12 : Plan :=
  .rd 0 none (.mv (.tmp 6)) (some 43) false <|
  .rd 1 none (.bin .eql (.tmp 43) (.const (.int .i64 0))) (some 44) false <|
  .rd 2 none (.mv (.tmp 44)) (some 45) false <|
  .rd 3 (some (45, true)) (.mv (.tmp 7)) (some 46) false <|
  .rd 4 (some (45, true)) (.bin .eql (.tmp 46) (.const (.int .i64 0))) (some 47) false <|
  .rd 5 none (.pick (.tmp 45) (.tmp 47) (.const (.bool false))) (some 48) false <|
  .rd 6 none (.mv (.tmp 48)) (some 49) false <|
  .rd 7 (some (49, true)) (.mv (.tmp 8)) (some 50) false <|
  .rd 8 (some (49, true)) (.bin .eql (.tmp 50) (.const (.int .i64 0))) (some 51) false <|
  .rd 9 none (.pick (.tmp 49) (.tmp 51) (.const (.bool false))) (some 52) false <|
  .rd 10 none (.mv (.tmp 52)) (some 53) false <|
  .rd 11 (some (53, true)) (.mv (.tmp 10)) (some 54) false <|
  .rd 12 (some (53, true)) (.bin .eql (.tmp 54) (.const (.int .i64 0))) (some 55) false <|
  .rd 13 none (.pick (.tmp 53) (.tmp 55) (.const (.bool false))) (some 56) false <|
  .rd 14 none (.mv (.tmp 56)) (some 57) false <|
  .rd 15 (some (57, true)) (.mv (.tmp 9)) (some 58) false <|
  .rd 16 (some (57, true)) (.un .not (.tmp 58)) (some 59) false <|
  .rd 17 none (.pick (.tmp 57) (.tmp 59) (.const (.bool false))) (some 60) false <|
  .rd 18 none (.mv (.tmp 60)) (some 61) false <|
  .rd 19 (some (61, true)) (.mv (.tmp 1)) (some 62) false <|
  .rd 20 (some (61, true)) (.ldn 2 (.tmp 4)) (some 63) false <|
  .ef 21 (some (61, true)) (.call F.movetree_Tree_Took [(.tmp 62), (.tmp 63)]) (some 64) [] (
  .rd 22 none (.pick (.tmp 61) (.tmp 64) (.const (.bool false))) (some 65) false <|
  .rd 23 none (.mv (.tmp 65)) (some 66) false <|
  .rd 24 (some (66, true)) (.mv (.tmp 11)) (some 67) false <|
  .rd 25 (some (66, true)) (.len .sl (.tmp 67)) (some 68) false <|
  .rd 26 (some (66, true)) (.bin .eql (.tmp 68) (.const (.int .i64 2))) (some 69) false <|
  .rd 27 none (.pick (.tmp 66) (.tmp 69) (.const (.bool false))) (some 70) false <|
  .rd 28 none (.mv (.tmp 70)) (some 71) false <|
  .rd 29 (some (71, true)) (.mv (.tmp 11)) (some 72) false <|
  .rd 30 (some (71, true)) (.idxA 2 (.tmp 72) (.const (.int .i64 0))) (some 73) false <|
  .rd 31 (some (71, true)) (.ldn 2 (.tmp 73)) (some 74) false <|
  .rd 32 (some (71, true)) (.ldn 2 (.tmp 3)) (some 75) false <|
  .rd 33 (some (71, true)) (.eqS [(.i .i64), (.i .i64)] true false (.tmp 74) (.tmp 75)) (some 76) false <|
  .rd 34 none (.pick (.tmp 71) (.tmp 76) (.const (.bool false))) (some 77) false <|
  .rd 35 none (.mv (.tmp 77)) (some 78) false <|
  .rd 36 (some (78, true)) (.mv (.tmp 11)) (some 79) false <|
  .rd 37 (some (78, true)) (.idxA 2 (.tmp 79) (.const (.int .i64 1))) (some 80) false <|
  .rd 38 (some (78, true)) (.ldn 2 (.tmp 80)) (some 81) true <|
  .ef 39 (some (78, true)) (.call F.api_Trash []) (some 82) [36, 37, 38] (
  .rd 40 (some (78, true)) (.eqS [(.i .i64), (.i .i64)] true false (.tmp 81) (.tmp 82)) (some 83) false <|
  .rd 41 none (.pick (.tmp 78) (.tmp 83) (.const (.bool false))) (some 84) false <|
  .rd 42 none (.mv (.tmp 84)) (some 85) false <|
  .rd 43 (some (85, true)) (.mv (.tmp 1)) (some 86) false <|
  .rd 44 (some (85, true)) (.ldn 2 (.tmp 2)) (some 87) false <|
  .ef 45 (some (85, true)) (.call F.movetree_Tree_There [(.tmp 86), (.tmp 87)]) (some 88) [] (
  .rd 46 none (.pick (.tmp 85) (.tmp 88) (.const (.bool false))) (some 89) false <|
  .rd 47 none (.mv (.tmp 89)) (some 0) false <|
  .done) .none) .none) .none
noncomputable def F.osierlaw10_awake.ic : IC :=
    (.seq (.reg F.osierlaw10_awake.r0)
    (.seq (.reg F.osierlaw10_awake.r1)
    (.seq (.reg F.osierlaw10_awake.r2)
    (.seq (.reg F.osierlaw10_awake.r3)
    (.seq (.reg F.osierlaw10_awake.r4)
    (.seq (.reg F.osierlaw10_awake.r5)
    (.seq (.reg F.osierlaw10_awake.r6)
    (.seq (.reg F.osierlaw10_awake.r7)
    (.seq (.reg F.osierlaw10_awake.r8)
    (.seq (.reg F.osierlaw10_awake.r9)
    (.seq (.reg F.osierlaw10_awake.r10)
    (.seq (.reg F.osierlaw10_awake.r11)
    (.seq (.reg F.osierlaw10_awake.r12)
    .ret)))))))))))))
noncomputable def F.osierlaw10_awake.rs : List RO := [(.mv (.tmp 0))]
theorem F.osierlaw10_awake.ok : cFunc Go.Proofs.Try.prog F.osierlaw10_awake = some (90, F.osierlaw10_awake.ic, F.osierlaw10_awake.rs) := by kernel_rfl
theorem F.osierlaw10_awake.cl : callable Go.Proofs.Try.prog F.osierlaw10_awake = true := by kernel_rfl
noncomputable def F.movetree_New.r0 : Plan :=
  .rd 0 none (.mv (.const (.pointer none))) (some 0) false <|
  .done
noncomputable def F.movetree_New.r1 : Plan :=
  .ef 0 none .mkMap (some 1) [] (
  .ef 1 none .mkMap (some 2) [] (
  .rd 2 none (.build [(.slice none 0 0), (.map none), (.map none)] [(1, (1, (.tmp 1))), (2, (1, (.tmp 2)))]) (some 3) false <|
  .ef 3 none (.box (.tmp 3)) (some 4) [] (
  .rd 4 none (.mv (.tmp 4)) (some 0) false <|
  .done) .none) .none) .none
noncomputable def F.movetree_New.ic : IC :=
    (.seq (.reg F.movetree_New.r0)
    (.seq (.reg F.movetree_New.r1)
    .ret))
noncomputable def F.movetree_New.rs : List RO := [(.mv (.tmp 0))]
theorem F.movetree_New.ok : cFunc Go.Proofs.Try.prog F.movetree_New = some (5, F.movetree_New.ic, F.movetree_New.rs) := by kernel_rfl
theorem F.movetree_New.cl : callable Go.Proofs.Try.prog F.movetree_New = true := by kernel_rfl
noncomputable def F.movetree_Tree_Move.r0 : Plan :=
  .ef 0 none (.box (.tmp 1)) (some 7) [] (
  .ef 1 none (.box (.tmp 3)) (some 9) [] (
  .ef 2 none (.box (.tmp 4)) (some 10) [] (
  .rd 3 none (.mv (.const (.int .i64 0))) (some 12) false <|
  .done) .none) .none) .none
noncomputable def F.movetree_Tree_Move.r1 : Plan :=
  .rd 0 none (.mv (.tmp 0)) (some 16) false <|
  .rd 1 none (.eqNil .ptr false (.tmp 16) (.const (.pointer none))) (some 17) false <|
  .rd 2 none (.mv (.tmp 17)) (some 18) false <|
  .rd 3 (some (18, false)) (.ldn 2 (.tmp 7)) (some 19) false <|
  .ef 4 (some (18, false)) (.call F.movetree_none [(.tmp 19)]) (some 20) [] (
  .rd 5 none (.pick (.tmp 18) (.const (.bool true)) (.tmp 20)) (some 21) false <|
  .rd 6 none (.mv (.tmp 21)) (some 22) false <|
  .rd 7 (some (22, false)) (.ldn 2 (.tmp 9)) (some 23) false <|
  .ef 8 (some (22, false)) (.call F.movetree_none [(.tmp 23)]) (some 24) [] (
  .rd 9 none (.pick (.tmp 22) (.const (.bool true)) (.tmp 24)) (some 25) false <|
  .done) .none) .none
noncomputable def F.movetree_Tree_Move.r2 : Plan :=
  .rd 0 none (.mv (.const (.int .i64 1))) (some 12) false <|
  .done
noncomputable def F.movetree_Tree_Move.r3 : Plan :=
  .rd 0 none (.mv (.tmp 0)) (some 26) false <|
  .rd 1 none (.nilC (.tmp 26)) (some 27) false <|
  .rd 2 none (.fldA 2 (.tmp 27)) (some 28) false <|
  .rd 3 none (.ld1 (.tmp 28)) (some 29) false <|
  .rd 4 none (.ldn 2 (.tmp 7)) (some 30) false <|
  .rd 5 none (.look [(.i .i64), (.i .i64)] true (.bool false) false (.tmp 29) (.tmp 30)) (some 31) false <|
  .done
noncomputable def F.movetree_Tree_Move.r4 : Plan :=
  .rd 0 none (.mv (.const (.int .i64 32))) (some 12) false <|
  .done
noncomputable def F.movetree_Tree_Move.r5 : Plan :=
  .rd 0 none (.mv (.tmp 0)) (some 32) false <|
  .rd 1 none (.nilC (.tmp 32)) (some 33) false <|
  .rd 2 none (.fldA 2 (.tmp 33)) (some 34) false <|
  .rd 3 none (.ld1 (.tmp 34)) (some 35) false <|
  .rd 4 none (.ldn 2 (.tmp 7)) (some 36) false <|
  .ef 5 none (.mset [(.i .i64), (.i .i64)] true (.tmp 35) (.tmp 36) (.const (.bool true))) none [] (
  .done) .none
noncomputable def F.movetree_Tree_Move.r6 : Plan :=
  .rd 0 none (.ldn 2 (.tmp 7)) (some 37) false <|
  .rd 1 none (.mv (.tmp 2)) (some 38) false <|
  .rd 2 none (.ldn 2 (.tmp 10)) (some 39) false <|
  .rd 3 none (.mv (.tmp 5)) (some 40) false <|
  .rd 4 none (.build [(.int .i64 0), (.int .i64 0), (.string ⟨#[]⟩)] [(0, (2, (.tmp 39))), (2, (1, (.tmp 40)))]) (some 41) false <|
  .rd 5 none (.ldn 2 (.tmp 9)) (some 42) false <|
  .rd 6 none (.build [(.int .i64 0), (.int .i64 0), (.int .i64 0), (.int .i64 0), (.int .i64 0), (.string ⟨#[]⟩), (.int .i64 0), (.int .i64 0)] [(0, (2, (.tmp 37))), (2, (1, (.tmp 38))), (3, (3, (.tmp 41))), (6, (2, (.tmp 42)))]) (some 43) false <|
  .ef 7 none (.alloc [(.int .i64 0), (.int .i64 0), (.int .i64 0), (.int .i64 0), (.int .i64 0), (.string ⟨#[]⟩), (.int .i64 0), (.int .i64 0)]) (some 13) [] (
  .ef 8 none (.st 8 (.tmp 13) (.tmp 43)) none [] (
  .done) .none) .none
noncomputable def F.movetree_Tree_Move.r7 : Plan :=
  .rd 0 none (.mv (.const (.slice none 0 0))) (some 14) false <|
  .done
noncomputable def F.movetree_Tree_Move.r8 : Plan :=
  .rd 0 none (.mv (.tmp 0)) (some 44) false <|
  .rd 1 none (.nilC (.tmp 44)) (some 45) false <|
  .rd 2 none (.fldA 0 (.tmp 45)) (some 46) false <|
  .rd 3 none (.ld1 (.tmp 46)) (some 47) false <|
  .rd 4 none (.len .sl (.tmp 47)) (some 48) false <|
  .rd 5 none (.bin .gtr (.tmp 48) (.const (.int .i64 0))) (some 49) false <|
  .rd 6 none (.mv (.tmp 49)) (some 50) false <|
  .rd 7 (some (50, true)) (.mv (.tmp 0)) (some 51) false <|
  .rd 8 (some (50, true)) (.nilC (.tmp 51)) (some 52) false <|
  .rd 9 (some (50, true)) (.fldA 0 (.tmp 52)) (some 53) false <|
  .rd 10 (some (50, true)) (.ld1 (.tmp 53)) (some 54) false <|
  .rd 11 (some (50, true)) (.mv (.tmp 0)) (some 55) false <|
  .rd 12 (some (50, true)) (.nilC (.tmp 55)) (some 56) false <|
  .rd 13 (some (50, true)) (.fldA 0 (.tmp 56)) (some 57) false <|
  .rd 14 (some (50, true)) (.ld1 (.tmp 57)) (some 58) false <|
  .rd 15 (some (50, true)) (.len .sl (.tmp 58)) (some 59) false <|
  .rd 16 (some (50, true)) (.bin .sub (.tmp 59) (.const (.int .i64 1))) (some 60) false <|
  .rd 17 (some (50, true)) (.idxA 13 (.tmp 54) (.tmp 60)) (some 61) false <|
  .rd 18 (some (50, true)) (.fldA 0 (.tmp 61)) (some 62) false <|
  .rd 19 (some (50, true)) (.ldn 8 (.tmp 62)) (some 63) false <|
  .rd 20 (some (50, true)) (.ldn 8 (.tmp 13)) (some 64) false <|
  .ef 21 (some (50, true)) (.call F.movetree_later [(.tmp 63), (.tmp 64)]) (some 65) [] (
  .rd 22 none (.pick (.tmp 50) (.tmp 65) (.const (.bool false))) (some 66) false <|
  .done) .none
noncomputable def F.movetree_Tree_Move.r9 : Plan :=
  .rd 0 none (.mv (.tmp 14)) (some 67) false <|
  .rd 1 none (.mv (.tmp 0)) (some 68) false <|
  .ef 2 none (.call F.movetree_Tree_undo [(.tmp 68)]) (some 69) [] (
  .ef 3 none (.bsl 1 [(.int .i64 0), (.int .i64 0), (.int .i64 0), (.int .i64 0), (.int .i64 0), (.string ⟨#[]⟩), (.int .i64 0), (.int .i64 0)] [(0, (8, (.tmp 69)))]) (some 70) [] (
  .ef 4 none (.app 8 72 (.tmp 67) (.tmp 70)) (some 71) [] (
  .rd 5 none (.mv (.tmp 71)) (some 14) false <|
  .done) .none) .none) .none
noncomputable def F.movetree_Tree_Move.l0 : IC :=
    (.seq (.seq (.reg F.movetree_Tree_Move.r8)
    (.cond (.tmp 66) .skip (.exit 0)))
    (.block 1 (.reg F.movetree_Tree_Move.r9)))
noncomputable def F.movetree_Tree_Move.r10 : Plan :=
  .rd 0 none (.mv (.tmp 0)) (some 72) false <|
  .rd 1 none (.ldn 8 (.tmp 13)) (some 73) false <|
  .ef 2 none (.call F.movetree_Tree_do [(.tmp 72), (.tmp 73)]) (some 74) [] (
  .done) .none
noncomputable def F.movetree_Tree_Move.r11 : Plan :=
  .rd 0 none (.mv (.tmp 14)) (some 75) false <|
  .rd 1 none (.len .sl (.tmp 75)) (some 76) false <|
  .rd 2 none (.bin .sub (.tmp 76) (.const (.int .i64 1))) (some 77) false <|
  .rd 3 none (.mv (.tmp 77)) (some 15) false <|
  .done
noncomputable def F.movetree_Tree_Move.r12 : Plan :=
  .rd 0 none (.mv (.tmp 15)) (some 78) false <|
  .rd 1 none (.bin .geq (.tmp 78) (.const (.int .i64 0))) (some 79) false <|
  .done
noncomputable def F.movetree_Tree_Move.r13 : Plan :=
  .rd 0 none (.mv (.tmp 0)) (some 82) false <|
  .rd 1 none (.mv (.tmp 14)) (some 83) false <|
  .rd 2 none (.mv (.tmp 15)) (some 84) false <|
  .rd 3 none (.idxA 8 (.tmp 83) (.tmp 84)) (some 85) false <|
  .rd 4 none (.ldn 8 (.tmp 85)) (some 86) false <|
  .ef 5 none (.call F.movetree_Tree_do [(.tmp 82), (.tmp 86)]) (some 87) [] (
  .done) .none
noncomputable def F.movetree_Tree_Move.r14 : Plan :=
  .rd 0 none (.mv (.tmp 15)) (some 80) false <|
  .rd 1 none (.bin .sub (.tmp 80) (.const (.int .i64 1))) (some 81) false <|
  .rd 2 none (.mv (.tmp 81)) (some 15) false <|
  .done
noncomputable def F.movetree_Tree_Move.l1 : IC :=
    (.seq (.seq (.reg F.movetree_Tree_Move.r12)
    (.cond (.tmp 79) .skip (.exit 2)))
    (.seq (.block 3 (.reg F.movetree_Tree_Move.r13))
    (.reg F.movetree_Tree_Move.r14)))
noncomputable def F.movetree_Tree_Move.r15 : Plan :=
  .rd 0 none (.mv (.const (.int .i64 0))) (some 12) false <|
  .done
noncomputable def F.movetree_Tree_Move.ic : IC :=
    (.seq (.reg F.movetree_Tree_Move.r0)
    (.seq (.seq (.reg F.movetree_Tree_Move.r1)
    (.cond (.tmp 25) (.seq (.reg F.movetree_Tree_Move.r2)
    .ret) .skip))
    (.seq (.seq (.reg F.movetree_Tree_Move.r3)
    (.cond (.tmp 31) (.seq (.reg F.movetree_Tree_Move.r4)
    .ret) .skip))
    (.seq (.reg F.movetree_Tree_Move.r5)
    (.seq (.reg F.movetree_Tree_Move.r6)
    (.seq (.reg F.movetree_Tree_Move.r7)
    (.seq (.block 0 (.loop F.movetree_Tree_Move.l0))
    (.seq (.reg F.movetree_Tree_Move.r10)
    (.seq (.seq (.reg F.movetree_Tree_Move.r11)
    (.block 2 (.loop F.movetree_Tree_Move.l1)))
    (.seq (.reg F.movetree_Tree_Move.r15)
    .ret))))))))))
noncomputable def F.movetree_Tree_Move.rs : List RO := [(.mv (.tmp 12))]
theorem F.movetree_Tree_Move.ok : cFunc Go.Proofs.Try.prog F.movetree_Tree_Move = some (88, F.movetree_Tree_Move.ic, F.movetree_Tree_Move.rs) := by kernel_rfl
theorem F.movetree_Tree_Move.cl : callable Go.Proofs.Try.prog F.movetree_Tree_Move = true := by kernel_rfl
noncomputable def F.movetree_Tree_Took.r0 : Plan :=
  .ef 0 none (.box (.tmp 1)) (some 3) [] (
  .rd 1 none (.mv (.const (.bool false))) (some 4) false <|
  .done) .none
noncomputable def F.movetree_Tree_Took.r1 : Plan :=
  .rd 0 none (.mv (.tmp 0)) (some 5) false <|
  .rd 1 none (.eqNil .ptr true (.tmp 5) (.const (.pointer none))) (some 6) false <|
  .rd 2 none (.mv (.tmp 6)) (some 7) false <|
  .rd 3 (some (7, true)) (.mv (.tmp 0)) (some 8) false <|
  .rd 4 (some (7, true)) (.nilC (.tmp 8)) (some 9) false <|
  .rd 5 (some (7, true)) (.fldA 0 (.tmp 9)) (some 10) false <|
  .rd 6 (some (7, true)) (.ld1 (.tmp 10)) (some 11) false <|
  .rd 7 (some (7, true)) (.mkF (.func F.movetree_Tree_Took_c1) [] [(.tmp 3)]) (some 12) false <|
  .ef 8 (some (7, true)) (.call F.slices_ContainsFunc_s_movetree_entry_movetree_entry [(.tmp 11), (.tmp 12)]) (some 13) [] (
  .rd 9 none (.pick (.tmp 7) (.tmp 13) (.const (.bool false))) (some 14) false <|
  .rd 10 none (.mv (.tmp 14)) (some 4) false <|
  .done) .none
noncomputable def F.movetree_Tree_Took.ic : IC :=
    (.seq (.reg F.movetree_Tree_Took.r0)
    (.seq (.reg F.movetree_Tree_Took.r1)
    .ret))
noncomputable def F.movetree_Tree_Took.rs : List RO := [(.mv (.tmp 4))]
theorem F.movetree_Tree_Took.ok : cFunc Go.Proofs.Try.prog F.movetree_Tree_Took = some (15, F.movetree_Tree_Took.ic, F.movetree_Tree_Took.rs) := by kernel_rfl
theorem F.movetree_Tree_Took.cl : callable Go.Proofs.Try.prog F.movetree_Tree_Took = true := by kernel_rfl
noncomputable def F.osierref03_Less.r0 : Plan :=
  .ef 0 none (.box (.tmp 0)) (some 2) [] (
  .ef 1 none (.box (.tmp 1)) (some 3) [] (
  .rd 2 none (.mv (.const (.bool false))) (some 4) false <|
  .done) .none) .none
noncomputable def F.osierref03_Less.r1 : Plan :=
  .rd 0 none (.fldA 0 (.tmp 2)) (some 5) false <|
  .rd 1 none (.ld1 (.tmp 5)) (some 6) false <|
  .rd 2 none (.fldA 0 (.tmp 3)) (some 7) false <|
  .rd 3 none (.ld1 (.tmp 7)) (some 8) false <|
  .rd 4 none (.bin .neq (.tmp 6) (.tmp 8)) (some 9) false <|
  .done
noncomputable def F.osierref03_Less.r2 : Plan :=
  .rd 0 none (.fldA 0 (.tmp 2)) (some 10) false <|
  .rd 1 none (.ld1 (.tmp 10)) (some 11) false <|
  .rd 2 none (.fldA 0 (.tmp 3)) (some 12) false <|
  .rd 3 none (.ld1 (.tmp 12)) (some 13) false <|
  .rd 4 none (.bin .lss (.tmp 11) (.tmp 13)) (some 14) false <|
  .rd 5 none (.mv (.tmp 14)) (some 4) false <|
  .done
noncomputable def F.osierref03_Less.r3 : Plan :=
  .rd 0 none (.fldA 1 (.tmp 2)) (some 15) false <|
  .rd 1 none (.ld1 (.tmp 15)) (some 16) false <|
  .rd 2 none (.fldA 1 (.tmp 3)) (some 17) false <|
  .rd 3 none (.ld1 (.tmp 17)) (some 18) false <|
  .rd 4 none (.bin .lss (.tmp 16) (.tmp 18)) (some 19) false <|
  .rd 5 none (.mv (.tmp 19)) (some 4) false <|
  .done
noncomputable def F.osierref03_Less.ic : IC :=
    (.seq (.reg F.osierref03_Less.r0)
    (.seq (.seq (.reg F.osierref03_Less.r1)
    (.cond (.tmp 9) (.seq (.reg F.osierref03_Less.r2)
    .ret) .skip))
    (.seq (.reg F.osierref03_Less.r3)
    .ret)))
noncomputable def F.osierref03_Less.rs : List RO := [(.mv (.tmp 4))]
theorem F.osierref03_Less.ok : cFunc Go.Proofs.Try.prog F.osierref03_Less = some (20, F.osierref03_Less.ic, F.osierref03_Less.rs) := by kernel_rfl
theorem F.osierref03_Less.cl : callable Go.Proofs.Try.prog F.osierref03_Less = true := by kernel_rfl
noncomputable def F.movetree_Tree_Parent.r0 : Plan :=
  .ef 0 none (.box (.tmp 1)) (some 3) [] (
  .ef 1 none (.alloc [(.int .i64 0), (.int .i64 0)]) (some 4) [] (
  .rd 2 none (.mv (.const (.string ⟨#[]⟩))) (some 5) false <|
  .rd 3 none (.mv (.const (.bool false))) (some 6) false <|
  .done) .none) .none
noncomputable def F.movetree_Tree_Parent.r1 : Plan :=
  .rd 0 none (.mv (.tmp 0)) (some 7) false <|
  .rd 1 none (.ldn 2 (.tmp 3)) (some 8) false <|
  .ef 2 none (.call F.movetree_Tree_There [(.tmp 7), (.tmp 8)]) (some 9) [] (
  .rd 3 none (.un .not (.tmp 9)) (some 10) false <|
  .done) .none
noncomputable def F.movetree_Tree_Parent.r2 : Plan :=
  .rd 0 none (.build [(.int .i64 0), (.int .i64 0)] []) (some 11) false <|
  .ef 1 none (.st 2 (.tmp 4) (.tmp 11)) none [] (
  .rd 2 none (.mv (.const (.string ⟨#[]⟩))) (some 5) false <|
  .rd 3 none (.mv (.const (.bool false))) (some 6) false <|
  .done) .none
noncomputable def F.movetree_Tree_Parent.r3 : Plan :=
  .rd 0 none (.mv (.tmp 0)) (some 12) false <|
  .rd 1 none (.nilC (.tmp 12)) (some 13) false <|
  .rd 2 none (.fldA 1 (.tmp 13)) (some 14) false <|
  .rd 3 none (.ld1 (.tmp 14)) (some 15) false <|
  .rd 4 none (.ldn 2 (.tmp 3)) (some 16) false <|
  .rd 5 none (.look [(.i .i64), (.i .i64)] true (.agg #[(.int .i64 0), (.int .i64 0), (.string ⟨#[]⟩)]) false (.tmp 15) (.tmp 16)) (some 17) false <|
  .rd 6 none (.fld 0 2 true (.tmp 17)) (some 18) false <|
  .rd 7 none (.mv (.tmp 0)) (some 19) false <|
  .rd 8 none (.nilC (.tmp 19)) (some 20) false <|
  .rd 9 none (.fldA 1 (.tmp 20)) (some 21) false <|
  .rd 10 none (.ld1 (.tmp 21)) (some 22) true <|
  .rd 11 none (.ldn 2 (.tmp 3)) (some 23) true <|
  .rd 12 none (.look [(.i .i64), (.i .i64)] true (.agg #[(.int .i64 0), (.int .i64 0), (.string ⟨#[]⟩)]) false (.tmp 22) (.tmp 23)) (some 24) true <|
  .rd 13 none (.fld 2 1 false (.tmp 24)) (some 25) false <|
  .ef 14 none (.st 2 (.tmp 4) (.tmp 18)) none [7, 8, 9, 10, 11, 12, 13] (
  .rd 15 none (.mv (.tmp 25)) (some 5) false <|
  .rd 16 none (.mv (.const (.bool true))) (some 6) false <|
  .done) .none
noncomputable def F.movetree_Tree_Parent.ic : IC :=
    (.seq (.reg F.movetree_Tree_Parent.r0)
    (.seq (.seq (.reg F.movetree_Tree_Parent.r1)
    (.cond (.tmp 10) (.seq (.reg F.movetree_Tree_Parent.r2)
    .ret) .skip))
    (.seq (.reg F.movetree_Tree_Parent.r3)
    .ret)))
noncomputable def F.movetree_Tree_Parent.rs : List RO := [(.ldn 2 (.tmp 4)), (.mv (.tmp 5)), (.mv (.tmp 6))]
theorem F.movetree_Tree_Parent.ok : cFunc Go.Proofs.Try.prog F.movetree_Tree_Parent = some (26, F.movetree_Tree_Parent.ic, F.movetree_Tree_Parent.rs) := by kernel_rfl
theorem F.movetree_Tree_Parent.cl : callable Go.Proofs.Try.prog F.movetree_Tree_Parent = true := by kernel_rfl
noncomputable def F.osierref03_Same.r0 : Plan :=
  .rd 0 none (.mv (.const (.bool false))) (some 4) false <|
  .done
noncomputable def F.osierref03_Same.r1 : Plan :=
  .rd 0 none (.mv (.tmp 0)) (some 6) false <|
  .rd 1 none (.len .sl (.tmp 6)) (some 7) false <|
  .rd 2 none (.mv (.tmp 1)) (some 8) false <|
  .rd 3 none (.len .sl (.tmp 8)) (some 9) false <|
  .rd 4 none (.bin .neq (.tmp 7) (.tmp 9)) (some 10) false <|
  .done
noncomputable def F.osierref03_Same.r2 : Plan :=
  .rd 0 none (.mv (.const (.bool false))) (some 4) false <|
  .done
noncomputable def F.osierref03_Same.r3 : Plan :=
  .rd 0 none (.mv (.const (.int .i64 0))) (some 5) false <|
  .done
noncomputable def F.osierref03_Same.r4 : Plan :=
  .rd 0 none (.mv (.tmp 5)) (some 11) false <|
  .rd 1 none (.mv (.tmp 0)) (some 12) false <|
  .rd 2 none (.len .sl (.tmp 12)) (some 13) false <|
  .rd 3 none (.bin .lss (.tmp 11) (.tmp 13)) (some 14) false <|
  .done
noncomputable def F.osierref03_Same.r5 : Plan :=
  .rd 0 none (.mv (.tmp 0)) (some 17) false <|
  .rd 1 none (.mv (.tmp 5)) (some 18) false <|
  .rd 2 none (.idxA 2 (.tmp 17) (.tmp 18)) (some 19) false <|
  .rd 3 none (.ldn 2 (.tmp 19)) (some 20) false <|
  .rd 4 none (.mv (.tmp 1)) (some 21) false <|
  .rd 5 none (.mv (.tmp 5)) (some 22) false <|
  .rd 6 none (.idxA 2 (.tmp 21) (.tmp 22)) (some 23) false <|
  .rd 7 none (.ldn 2 (.tmp 23)) (some 24) false <|
  .rd 8 none (.eqS [(.i .i64), (.i .i64)] true true (.tmp 20) (.tmp 24)) (some 25) false <|
  .done
noncomputable def F.osierref03_Same.r6 : Plan :=
  .rd 0 none (.mv (.const (.bool false))) (some 4) false <|
  .done
noncomputable def F.osierref03_Same.r7 : Plan :=
  .rd 0 none (.mv (.tmp 5)) (some 15) false <|
  .rd 1 none (.bin .add (.tmp 15) (.const (.int .i64 1))) (some 16) false <|
  .rd 2 none (.mv (.tmp 16)) (some 5) false <|
  .done
noncomputable def F.osierref03_Same.l0 : IC :=
    (.seq (.seq (.reg F.osierref03_Same.r4)
    (.cond (.tmp 14) .skip (.exit 0)))
    (.seq (.block 1 (.seq (.reg F.osierref03_Same.r5)
    (.cond (.tmp 25) (.seq (.reg F.osierref03_Same.r6)
    .ret) .skip)))
    (.reg F.osierref03_Same.r7)))
noncomputable def F.osierref03_Same.r8 : Plan :=
  .rd 0 none (.mv (.const (.bool true))) (some 4) false <|
  .done
noncomputable def F.osierref03_Same.ic : IC :=
    (.seq (.reg F.osierref03_Same.r0)
    (.seq (.seq (.reg F.osierref03_Same.r1)
    (.cond (.tmp 10) (.seq (.reg F.osierref03_Same.r2)
    .ret) .skip))
    (.seq (.seq (.reg F.osierref03_Same.r3)
    (.block 0 (.loop F.osierref03_Same.l0)))
    (.seq (.reg F.osierref03_Same.r8)
    .ret))))
noncomputable def F.osierref03_Same.rs : List RO := [(.mv (.tmp 4))]
theorem F.osierref03_Same.ok : cFunc Go.Proofs.Try.prog F.osierref03_Same = some (26, F.osierref03_Same.ic, F.osierref03_Same.rs) := by kernel_rfl
theorem F.osierref03_Same.cl : callable Go.Proofs.Try.prog F.osierref03_Same = true := by kernel_rfl
noncomputable def F.movetree_Tree_Blocks.r0 : Plan :=
  .rd 0 none (.mv (.const (.slice none 0 0))) (some 2) false <|
  .done
noncomputable def F.movetree_Tree_Blocks.r1 : Plan :=
  .rd 0 none (.mv (.tmp 0)) (some 5) false <|
  .rd 1 none (.eqNil .ptr false (.tmp 5) (.const (.pointer none))) (some 6) false <|
  .done
noncomputable def F.movetree_Tree_Blocks.r2 : Plan :=
  .rd 0 none (.mv (.const (.slice none 0 0))) (some 2) false <|
  .done
noncomputable def F.movetree_Tree_Blocks.r3 : Plan :=
  .rd 0 none (.mv (.const (.slice none 0 0))) (some 3) false <|
  .done
noncomputable def F.movetree_Tree_Blocks.r4 : Plan :=
  .rd 0 none (.mv (.tmp 0)) (some 7) false <|
  .rd 1 none (.nilC (.tmp 7)) (some 8) false <|
  .rd 2 none (.fldA 1 (.tmp 8)) (some 9) false <|
  .rd 3 none (.ld1 (.tmp 9)) (some 10) false <|
  .ef 4 none (.rng false (.tmp 10)) (some 11) [] (
  .done) .none
noncomputable def F.movetree_Tree_Blocks.r5 : Plan :=
  .ef 0 none (.nxt false (.tmp 11)) (some 12) [] (
  .rd 1 none (.ext 0 (.tmp 12)) (some 13) false <|
  .done) .none
noncomputable def F.movetree_Tree_Blocks.r6 : Plan :=
  .ef 0 none (.ent (.tmp 11)) (some 14) [] (
  .rd 1 none (.ext 0 (.tmp 14)) (some 15) false <|
  .ef 2 none (.alloc [(.int .i64 0), (.int .i64 0)]) (some 4) [] (
  .ef 3 none (.st 2 (.tmp 4) (.tmp 15)) none [] (
  .done) .none) .none) .none
noncomputable def F.movetree_Tree_Blocks.r7 : Plan :=
  .rd 0 none (.mv (.tmp 3)) (some 16) false <|
  .rd 1 none (.ldn 2 (.tmp 4)) (some 17) false <|
  .ef 2 none (.bsl 1 [(.int .i64 0), (.int .i64 0)] [(0, (2, (.tmp 17)))]) (some 18) [] (
  .ef 3 none (.app 2 16 (.tmp 16) (.tmp 18)) (some 19) [] (
  .rd 4 none (.mv (.tmp 19)) (some 3) false <|
  .done) .none) .none
noncomputable def F.movetree_Tree_Blocks.l0 : IC :=
    (.seq (.reg F.movetree_Tree_Blocks.r5)
    (.seq (.cond (.tmp 13) .skip (.exit 0))
    (.block 1 (.seq (.reg F.movetree_Tree_Blocks.r6)
    (.reg F.movetree_Tree_Blocks.r7)))))
noncomputable def F.movetree_Tree_Blocks.r8 : Plan :=
  .rd 0 none (.mv (.tmp 3)) (some 20) false <|
  .ef 1 none (.call F.dots_Rising [(.tmp 20)]) (some 21) [] (
  .rd 2 none (.mv (.tmp 21)) (some 2) false <|
  .done) .none
noncomputable def F.movetree_Tree_Blocks.ic : IC :=
    (.seq (.reg F.movetree_Tree_Blocks.r0)
    (.seq (.seq (.reg F.movetree_Tree_Blocks.r1)
    (.cond (.tmp 6) (.seq (.reg F.movetree_Tree_Blocks.r2)
    .ret) .skip))
    (.seq (.reg F.movetree_Tree_Blocks.r3)
    (.seq (.seq (.reg F.movetree_Tree_Blocks.r4)
    (.block 0 (.loop F.movetree_Tree_Blocks.l0)))
    (.seq (.reg F.movetree_Tree_Blocks.r8)
    .ret)))))
noncomputable def F.movetree_Tree_Blocks.rs : List RO := [(.mv (.tmp 2))]
theorem F.movetree_Tree_Blocks.ok : cFunc Go.Proofs.Try.prog F.movetree_Tree_Blocks = some (22, F.movetree_Tree_Blocks.ic, F.movetree_Tree_Blocks.rs) := by kernel_rfl
theorem F.movetree_Tree_Blocks.cl : callable Go.Proofs.Try.prog F.movetree_Tree_Blocks = true := by kernel_rfl
noncomputable def F.api_Trash.r0 : Plan :=
  .ef 0 none (.alloc [(.int .i64 0), (.int .i64 0)]) (some 0) [] (
  .done) .none
noncomputable def F.api_Trash.r1 : Plan :=
  .rd 0 none (.build [(.int .i64 0), (.int .i64 0)] [(0, (1, (.const (.int .i64 0)))), (1, (1, (.const (.int .i64 (-2)))))]) (some 1) false <|
  .ef 1 none (.st 2 (.tmp 0) (.tmp 1)) none [] (
  .done) .none
noncomputable def F.api_Trash.ic : IC :=
    (.seq (.reg F.api_Trash.r0)
    (.seq (.reg F.api_Trash.r1)
    .ret))
noncomputable def F.api_Trash.rs : List RO := [(.ldn 2 (.tmp 0))]
theorem F.api_Trash.ok : cFunc Go.Proofs.Try.prog F.api_Trash = some (2, F.api_Trash.ic, F.api_Trash.rs) := by kernel_rfl
theorem F.api_Trash.cl : callable Go.Proofs.Try.prog F.api_Trash = true := by kernel_rfl
noncomputable def F.osierref03_In.r0 : Plan :=
  .ef 0 none (.box (.tmp 1)) (some 3) [] (
  .rd 1 none (.mv (.const (.bool false))) (some 4) false <|
  .done) .none
noncomputable def F.osierref03_In.r1 : Plan :=
  .rd 0 none (.mv (.const (.int .i64 0))) (some 5) false <|
  .done
noncomputable def F.osierref03_In.r2 : Plan :=
  .rd 0 none (.mv (.tmp 5)) (some 6) false <|
  .rd 1 none (.mv (.tmp 0)) (some 7) false <|
  .rd 2 none (.len .sl (.tmp 7)) (some 8) false <|
  .rd 3 none (.bin .lss (.tmp 6) (.tmp 8)) (some 9) false <|
  .done
noncomputable def F.osierref03_In.r3 : Plan :=
  .rd 0 none (.mv (.tmp 0)) (some 12) false <|
  .rd 1 none (.mv (.tmp 5)) (some 13) false <|
  .rd 2 none (.idxA 2 (.tmp 12) (.tmp 13)) (some 14) false <|
  .rd 3 none (.ldn 2 (.tmp 14)) (some 15) false <|
  .rd 4 none (.ldn 2 (.tmp 3)) (some 16) false <|
  .rd 5 none (.eqS [(.i .i64), (.i .i64)] true false (.tmp 15) (.tmp 16)) (some 17) false <|
  .done
noncomputable def F.osierref03_In.r4 : Plan :=
  .rd 0 none (.mv (.const (.bool true))) (some 4) false <|
  .done
noncomputable def F.osierref03_In.r5 : Plan :=
  .rd 0 none (.mv (.tmp 5)) (some 10) false <|
  .rd 1 none (.bin .add (.tmp 10) (.const (.int .i64 1))) (some 11) false <|
  .rd 2 none (.mv (.tmp 11)) (some 5) false <|
  .done
noncomputable def F.osierref03_In.l0 : IC :=
    (.seq (.seq (.reg F.osierref03_In.r2)
    (.cond (.tmp 9) .skip (.exit 0)))
    (.seq (.block 1 (.seq (.reg F.osierref03_In.r3)
    (.cond (.tmp 17) (.seq (.reg F.osierref03_In.r4)
    .ret) .skip)))
    (.reg F.osierref03_In.r5)))
noncomputable def F.osierref03_In.r6 : Plan :=
  .rd 0 none (.mv (.const (.bool false))) (some 4) false <|
  .done
noncomputable def F.osierref03_In.ic : IC :=
    (.seq (.reg F.osierref03_In.r0)
    (.seq (.seq (.reg F.osierref03_In.r1)
    (.block 0 (.loop F.osierref03_In.l0)))
    (.seq (.reg F.osierref03_In.r6)
    .ret)))
noncomputable def F.osierref03_In.rs : List RO := [(.mv (.tmp 4))]
theorem F.osierref03_In.ok : cFunc Go.Proofs.Try.prog F.osierref03_In = some (18, F.osierref03_In.ic, F.osierref03_In.rs) := by kernel_rfl
theorem F.osierref03_In.cl : callable Go.Proofs.Try.prog F.osierref03_In = true := by kernel_rfl
noncomputable def F.movetree_Tree_Path.r0 : Plan :=
  .ef 0 none (.box (.tmp 1)) (some 3) [] (
  .rd 1 none (.mv (.const (.slice none 0 0))) (some 4) false <|
  .done) .none
noncomputable def F.movetree_Tree_Path.r1 : Plan :=
  .rd 0 none (.mv (.const (.slice none 0 0))) (some 5) false <|
  .done
noncomputable def F.movetree_Tree_Path.r2 : Plan :=
  .rd 0 none (.mv (.tmp 0)) (some 6) false <|
  .rd 1 none (.ldn 2 (.tmp 3)) (some 7) false <|
  .ef 2 none (.call F.movetree_Tree_There [(.tmp 6), (.tmp 7)]) (some 8) [] (
  .done) .none
noncomputable def F.movetree_Tree_Path.r3 : Plan :=
  .rd 0 none (.mv (.tmp 0)) (some 9) false <|
  .rd 1 none (.nilC (.tmp 9)) (some 10) false <|
  .rd 2 none (.fldA 1 (.tmp 10)) (some 11) false <|
  .rd 3 none (.ld1 (.tmp 11)) (some 12) false <|
  .rd 4 none (.ldn 2 (.tmp 3)) (some 13) false <|
  .rd 5 none (.look [(.i .i64), (.i .i64)] true (.agg #[(.int .i64 0), (.int .i64 0), (.string ⟨#[]⟩)]) false (.tmp 12) (.tmp 13)) (some 14) false <|
  .rd 6 none (.fld 0 2 true (.tmp 14)) (some 15) false <|
  .ef 7 none (.st 2 (.tmp 3) (.tmp 15)) none [] (
  .done) .none
noncomputable def F.movetree_Tree_Path.r4 : Plan :=
  .rd 0 none (.mv (.tmp 5)) (some 16) false <|
  .rd 1 none (.ldn 2 (.tmp 3)) (some 17) false <|
  .ef 2 none (.bsl 1 [(.int .i64 0), (.int .i64 0)] [(0, (2, (.tmp 17)))]) (some 18) [] (
  .ef 3 none (.app 2 16 (.tmp 16) (.tmp 18)) (some 19) [] (
  .rd 4 none (.mv (.tmp 19)) (some 5) false <|
  .done) .none) .none
noncomputable def F.movetree_Tree_Path.l0 : IC :=
    (.seq (.seq (.reg F.movetree_Tree_Path.r2)
    (.cond (.tmp 8) .skip (.exit 0)))
    (.block 1 (.seq (.reg F.movetree_Tree_Path.r3)
    (.reg F.movetree_Tree_Path.r4))))
noncomputable def F.movetree_Tree_Path.r5 : Plan :=
  .rd 0 none (.mv (.tmp 5)) (some 20) false <|
  .rd 1 none (.mv (.tmp 20)) (some 4) false <|
  .done
noncomputable def F.movetree_Tree_Path.ic : IC :=
    (.seq (.reg F.movetree_Tree_Path.r0)
    (.seq (.reg F.movetree_Tree_Path.r1)
    (.seq (.block 0 (.loop F.movetree_Tree_Path.l0))
    (.seq (.reg F.movetree_Tree_Path.r5)
    .ret))))
noncomputable def F.movetree_Tree_Path.rs : List RO := [(.mv (.tmp 4))]
theorem F.movetree_Tree_Path.ok : cFunc Go.Proofs.Try.prog F.movetree_Tree_Path = some (21, F.movetree_Tree_Path.ic, F.movetree_Tree_Path.rs) := by kernel_rfl
theorem F.movetree_Tree_Path.cl : callable Go.Proofs.Try.prog F.movetree_Tree_Path = true := by kernel_rfl
noncomputable def F.api_Root.r0 : Plan :=
  .ef 0 none (.alloc [(.int .i64 0), (.int .i64 0)]) (some 0) [] (
  .done) .none
noncomputable def F.api_Root.r1 : Plan :=
  .rd 0 none (.build [(.int .i64 0), (.int .i64 0)] [(0, (1, (.const (.int .i64 0)))), (1, (1, (.const (.int .i64 (-1)))))]) (some 1) false <|
  .ef 1 none (.st 2 (.tmp 0) (.tmp 1)) none [] (
  .done) .none
noncomputable def F.api_Root.ic : IC :=
    (.seq (.reg F.api_Root.r0)
    (.seq (.reg F.api_Root.r1)
    .ret))
noncomputable def F.api_Root.rs : List RO := [(.ldn 2 (.tmp 0))]
theorem F.api_Root.ok : cFunc Go.Proofs.Try.prog F.api_Root = some (2, F.api_Root.ic, F.api_Root.rs) := by kernel_rfl
theorem F.api_Root.cl : callable Go.Proofs.Try.prog F.api_Root = true := by kernel_rfl
noncomputable def F.movetree_Tree_There.r0 : Plan :=
  .ef 0 none (.box (.tmp 1)) (some 3) [] (
  .rd 1 none (.mv (.const (.bool false))) (some 4) false <|
  .done) .none
noncomputable def F.movetree_Tree_There.r1 : Plan :=
  .rd 0 none (.mv (.tmp 0)) (some 7) false <|
  .rd 1 none (.eqNil .ptr false (.tmp 7) (.const (.pointer none))) (some 8) false <|
  .done
noncomputable def F.movetree_Tree_There.r2 : Plan :=
  .rd 0 none (.mv (.const (.bool false))) (some 4) false <|
  .done
noncomputable def F.movetree_Tree_There.r3 : Plan :=
  .rd 0 none (.mv (.tmp 0)) (some 10) false <|
  .rd 1 none (.nilC (.tmp 10)) (some 11) false <|
  .rd 2 none (.fldA 1 (.tmp 11)) (some 12) false <|
  .rd 3 none (.ld1 (.tmp 12)) (some 13) true <|
  .rd 4 none (.ldn 2 (.tmp 3)) (some 14) true <|
  .rd 5 none (.look [(.i .i64), (.i .i64)] true (.agg #[(.int .i64 0), (.int .i64 0), (.string ⟨#[]⟩)]) true (.tmp 13) (.tmp 14)) (some 15) true <|
  .rd 6 none (.mv (.tmp 15)) (some 9) false <|
  .rd 7 none (.ext 0 (.tmp 9)) (some 16) false <|
  .rd 8 none (.ext 1 (.tmp 9)) (some 17) false <|
  .ef 9 none (.alloc [(.int .i64 0), (.int .i64 0), (.string ⟨#[]⟩)]) (some 5) [0, 1, 2, 3, 4, 5, 6, 7, 8] (
  .ef 10 none (.st 3 (.tmp 5) (.tmp 16)) none [8] (
  .rd 11 none (.mv (.tmp 17)) (some 6) false <|
  .done) .none) .none
noncomputable def F.movetree_Tree_There.r4 : Plan :=
  .rd 0 none (.mv (.tmp 6)) (some 18) false <|
  .rd 1 none (.mv (.tmp 18)) (some 4) false <|
  .done
noncomputable def F.movetree_Tree_There.ic : IC :=
    (.seq (.reg F.movetree_Tree_There.r0)
    (.seq (.seq (.reg F.movetree_Tree_There.r1)
    (.cond (.tmp 8) (.seq (.reg F.movetree_Tree_There.r2)
    .ret) .skip))
    (.seq (.reg F.movetree_Tree_There.r3)
    (.seq (.reg F.movetree_Tree_There.r4)
    .ret))))
noncomputable def F.movetree_Tree_There.rs : List RO := [(.mv (.tmp 4))]
theorem F.movetree_Tree_There.ok : cFunc Go.Proofs.Try.prog F.movetree_Tree_There = some (19, F.movetree_Tree_There.ic, F.movetree_Tree_There.rs) := by kernel_rfl
theorem F.movetree_Tree_There.cl : callable Go.Proofs.Try.prog F.movetree_Tree_There = true := by kernel_rfl
noncomputable def F.movetree_none.r0 : Plan :=
  .ef 0 none (.box (.tmp 0)) (some 1) [] (
  .rd 1 none (.mv (.const (.bool false))) (some 2) false <|
  .done) .none
noncomputable def F.movetree_none.r1 : Plan :=
  .rd 0 none (.ldn 2 (.tmp 1)) (some 3) false <|
  .rd 1 none (.build [(.int .i64 0), (.int .i64 0)] []) (some 4) false <|
  .rd 2 none (.eqS [(.i .i64), (.i .i64)] true false (.tmp 3) (.tmp 4)) (some 5) false <|
  .rd 3 none (.mv (.tmp 5)) (some 6) false <|
  .rd 4 (some (6, false)) (.ldn 2 (.tmp 1)) (some 7) false <|
  .ef 5 (some (6, false)) (.call F.movetree_always [(.tmp 7)]) (some 8) [] (
  .rd 6 none (.pick (.tmp 6) (.const (.bool true)) (.tmp 8)) (some 9) false <|
  .rd 7 none (.mv (.tmp 9)) (some 2) false <|
  .done) .none
noncomputable def F.movetree_none.ic : IC :=
    (.seq (.reg F.movetree_none.r0)
    (.seq (.reg F.movetree_none.r1)
    .ret))
noncomputable def F.movetree_none.rs : List RO := [(.mv (.tmp 2))]
theorem F.movetree_none.ok : cFunc Go.Proofs.Try.prog F.movetree_none = some (10, F.movetree_none.ic, F.movetree_none.rs) := by kernel_rfl
theorem F.movetree_none.cl : callable Go.Proofs.Try.prog F.movetree_none = true := by kernel_rfl
noncomputable def F.movetree_later.r0 : Plan :=
  .ef 0 none (.box (.tmp 0)) (some 2) [] (
  .ef 1 none (.box (.tmp 1)) (some 3) [] (
  .rd 2 none (.mv (.const (.bool false))) (some 4) false <|
  .done) .none) .none
noncomputable def F.movetree_later.r1 : Plan :=
  .rd 0 none (.fldA 2 (.tmp 2)) (some 5) false <|
  .rd 1 none (.ld1 (.tmp 5)) (some 6) false <|
  .rd 2 none (.fldA 2 (.tmp 3)) (some 7) false <|
  .rd 3 none (.ld1 (.tmp 7)) (some 8) false <|
  .rd 4 none (.bin .neq (.tmp 6) (.tmp 8)) (some 9) false <|
  .done
noncomputable def F.movetree_later.r2 : Plan :=
  .rd 0 none (.fldA 2 (.tmp 2)) (some 10) false <|
  .rd 1 none (.ld1 (.tmp 10)) (some 11) false <|
  .rd 2 none (.fldA 2 (.tmp 3)) (some 12) false <|
  .rd 3 none (.ld1 (.tmp 12)) (some 13) false <|
  .rd 4 none (.bin .gtr (.tmp 11) (.tmp 13)) (some 14) false <|
  .rd 5 none (.mv (.tmp 14)) (some 4) false <|
  .done
noncomputable def F.movetree_later.r3 : Plan :=
  .rd 0 none (.fldA 0 (.tmp 3)) (some 15) false <|
  .rd 1 none (.ldn 2 (.tmp 15)) (some 16) false <|
  .rd 2 none (.fldA 0 (.tmp 2)) (some 17) false <|
  .rd 3 none (.ldn 2 (.tmp 17)) (some 18) false <|
  .ef 4 none (.call F.dots_Less [(.tmp 16), (.tmp 18)]) (some 19) [] (
  .rd 5 none (.mv (.tmp 19)) (some 4) false <|
  .done) .none
noncomputable def F.movetree_later.ic : IC :=
    (.seq (.reg F.movetree_later.r0)
    (.seq (.seq (.reg F.movetree_later.r1)
    (.cond (.tmp 9) (.seq (.reg F.movetree_later.r2)
    .ret) .skip))
    (.seq (.reg F.movetree_later.r3)
    .ret)))
noncomputable def F.movetree_later.rs : List RO := [(.mv (.tmp 4))]
theorem F.movetree_later.ok : cFunc Go.Proofs.Try.prog F.movetree_later = some (20, F.movetree_later.ic, F.movetree_later.rs) := by kernel_rfl
theorem F.movetree_later.cl : callable Go.Proofs.Try.prog F.movetree_later = true := by kernel_rfl
noncomputable def F.movetree_Tree_undo.r0 : Plan :=
  .ef 0 none (.alloc [(.int .i64 0), (.int .i64 0), (.int .i64 0), (.int .i64 0), (.int .i64 0), (.string ⟨#[]⟩), (.int .i64 0), (.int .i64 0)]) (some 2) [] (
  .done) .none
noncomputable def F.movetree_Tree_undo.r1 : Plan :=
  .rd 0 none (.mv (.tmp 0)) (some 5) false <|
  .rd 1 none (.nilC (.tmp 5)) (some 6) false <|
  .rd 2 none (.fldA 0 (.tmp 6)) (some 7) false <|
  .rd 3 none (.ld1 (.tmp 7)) (some 8) false <|
  .rd 4 none (.len .sl (.tmp 8)) (some 9) false <|
  .rd 5 none (.bin .sub (.tmp 9) (.const (.int .i64 1))) (some 10) false <|
  .rd 6 none (.mv (.tmp 10)) (some 3) false <|
  .done
noncomputable def F.movetree_Tree_undo.r2 : Plan :=
  .rd 0 none (.mv (.tmp 0)) (some 11) false <|
  .rd 1 none (.nilC (.tmp 11)) (some 12) false <|
  .rd 2 none (.fldA 0 (.tmp 12)) (some 13) false <|
  .rd 3 none (.ld1 (.tmp 13)) (some 14) false <|
  .rd 4 none (.mv (.tmp 3)) (some 15) false <|
  .rd 5 none (.idxA 13 (.tmp 14) (.tmp 15)) (some 16) false <|
  .rd 6 none (.ldn 13 (.tmp 16)) (some 17) false <|
  .ef 7 none (.alloc [(.int .i64 0), (.int .i64 0), (.int .i64 0), (.int .i64 0), (.int .i64 0), (.string ⟨#[]⟩), (.int .i64 0), (.int .i64 0), (.bool false), (.bool false), (.int .i64 0), (.int .i64 0), (.string ⟨#[]⟩)]) (some 4) [] (
  .ef 8 none (.st 13 (.tmp 4) (.tmp 17)) none [] (
  .done) .none) .none
noncomputable def F.movetree_Tree_undo.r3 : Plan :=
  .rd 0 none (.mv (.tmp 0)) (some 18) false <|
  .rd 1 none (.mv (.tmp 0)) (some 19) false <|
  .rd 2 none (.nilC (.tmp 19)) (some 20) false <|
  .rd 3 none (.fldA 0 (.tmp 20)) (some 21) false <|
  .rd 4 none (.ld1 (.tmp 21)) (some 22) false <|
  .rd 5 none (.mv (.tmp 3)) (some 23) false <|
  .rd 6 none (.sl 13 (.tmp 22) none (some (.tmp 23)) none) (some 24) false <|
  .rd 7 none (.nilC (.tmp 18)) (some 25) false <|
  .rd 8 none (.fldA 0 (.tmp 25)) (some 26) false <|
  .ef 9 none (.st 1 (.tmp 26) (.tmp 24)) none [] (
  .done) .none
noncomputable def F.movetree_Tree_undo.r4 : Plan :=
  .rd 0 none (.fldA 8 (.tmp 4)) (some 28) false <|
  .rd 1 none (.ld1 (.tmp 28)) (some 29) false <|
  .rd 2 none (.mv (.tmp 29)) (some 30) false <|
  .rd 3 (some (30, true)) (.fldA 9 (.tmp 4)) (some 31) false <|
  .rd 4 (some (30, true)) (.ld1 (.tmp 31)) (some 32) false <|
  .rd 5 none (.pick (.tmp 30) (.tmp 32) (.const (.bool false))) (some 33) false <|
  .rd 6 none (.mv (.tmp 33)) (some 27) false <|
  .done
noncomputable def F.movetree_Tree_undo.r5 : Plan :=
  .rd 0 none (.mv (.tmp 0)) (some 34) false <|
  .rd 1 none (.nilC (.tmp 34)) (some 35) false <|
  .rd 2 none (.fldA 1 (.tmp 35)) (some 36) false <|
  .rd 3 none (.ld1 (.tmp 36)) (some 37) false <|
  .rd 4 none (.fldA 0 (.tmp 4)) (some 38) false <|
  .rd 5 none (.fldA 6 (.tmp 38)) (some 39) false <|
  .rd 6 none (.ldn 2 (.tmp 39)) (some 40) false <|
  .rd 7 none (.fldA 10 (.tmp 4)) (some 41) false <|
  .rd 8 none (.ldn 3 (.tmp 41)) (some 42) false <|
  .ef 9 none (.mset [(.i .i64), (.i .i64)] true (.tmp 37) (.tmp 40) (.tmp 42)) none [] (
  .done) .none
noncomputable def F.movetree_Tree_undo.r6 : Plan :=
  .rd 0 none (.fldA 8 (.tmp 4)) (some 44) false <|
  .rd 1 none (.ld1 (.tmp 44)) (some 45) false <|
  .rd 2 none (.mv (.tmp 45)) (some 43) false <|
  .done
noncomputable def F.movetree_Tree_undo.r7 : Plan :=
  .rd 0 none (.mv (.tmp 0)) (some 46) false <|
  .rd 1 none (.nilC (.tmp 46)) (some 47) false <|
  .rd 2 none (.fldA 1 (.tmp 47)) (some 48) false <|
  .rd 3 none (.ld1 (.tmp 48)) (some 49) false <|
  .rd 4 none (.fldA 0 (.tmp 4)) (some 50) false <|
  .rd 5 none (.fldA 6 (.tmp 50)) (some 51) false <|
  .rd 6 none (.ldn 2 (.tmp 51)) (some 52) false <|
  .ef 7 none (.mdel [(.i .i64), (.i .i64)] true (.tmp 49) (.tmp 52)) none [] (
  .done) .none
noncomputable def F.movetree_Tree_undo.r8 : Plan :=
  .rd 0 none (.fldA 0 (.tmp 4)) (some 53) false <|
  .rd 1 none (.ldn 8 (.tmp 53)) (some 54) false <|
  .ef 2 none (.st 8 (.tmp 2) (.tmp 54)) none [] (
  .done) .none
noncomputable def F.movetree_Tree_undo.ic : IC :=
    (.seq (.reg F.movetree_Tree_undo.r0)
    (.seq (.reg F.movetree_Tree_undo.r1)
    (.seq (.reg F.movetree_Tree_undo.r2)
    (.seq (.reg F.movetree_Tree_undo.r3)
    (.seq (.block 0 (.seq (.reg F.movetree_Tree_undo.r4)
    (.cond (.tmp 27) (.reg F.movetree_Tree_undo.r5) (.seq (.reg F.movetree_Tree_undo.r6)
    (.cond (.tmp 43) (.reg F.movetree_Tree_undo.r7) .skip)))))
    (.seq (.reg F.movetree_Tree_undo.r8)
    .ret))))))
noncomputable def F.movetree_Tree_undo.rs : List RO := [(.ldn 8 (.tmp 2))]
theorem F.movetree_Tree_undo.ok : cFunc Go.Proofs.Try.prog F.movetree_Tree_undo = some (55, F.movetree_Tree_undo.ic, F.movetree_Tree_undo.rs) := by kernel_rfl
theorem F.movetree_Tree_undo.cl : callable Go.Proofs.Try.prog F.movetree_Tree_undo = true := by kernel_rfl
noncomputable def F.movetree_Tree_do.r0 : Plan :=
  .ef 0 none (.box (.tmp 1)) (some 3) [] (
  .done) .none
noncomputable def F.movetree_Tree_do.r1 : Plan :=
  .rd 0 none (.ldn 8 (.tmp 3)) (some 5) false <|
  .rd 1 none (.build [(.int .i64 0), (.int .i64 0), (.int .i64 0), (.int .i64 0), (.int .i64 0), (.string ⟨#[]⟩), (.int .i64 0), (.int .i64 0), (.bool false), (.bool false), (.int .i64 0), (.int .i64 0), (.string ⟨#[]⟩)] [(0, (8, (.tmp 5)))]) (some 6) false <|
  .ef 2 none (.alloc [(.int .i64 0), (.int .i64 0), (.int .i64 0), (.int .i64 0), (.int .i64 0), (.string ⟨#[]⟩), (.int .i64 0), (.int .i64 0), (.bool false), (.bool false), (.int .i64 0), (.int .i64 0), (.string ⟨#[]⟩)]) (some 4) [] (
  .ef 3 none (.st 13 (.tmp 4) (.tmp 6)) none [] (
  .done) .none) .none
noncomputable def F.movetree_Tree_do.r2 : Plan :=
  .rd 0 none (.mv (.tmp 0)) (some 8) false <|
  .rd 1 none (.nilC (.tmp 8)) (some 9) false <|
  .rd 2 none (.fldA 1 (.tmp 9)) (some 10) false <|
  .rd 3 none (.ld1 (.tmp 10)) (some 11) false <|
  .rd 4 none (.fldA 6 (.tmp 3)) (some 12) false <|
  .rd 5 none (.ldn 2 (.tmp 12)) (some 13) false <|
  .rd 6 none (.look [(.i .i64), (.i .i64)] true (.agg #[(.int .i64 0), (.int .i64 0), (.string ⟨#[]⟩)]) true (.tmp 11) (.tmp 13)) (some 14) false <|
  .rd 7 none (.mv (.tmp 14)) (some 7) false <|
  .rd 8 none (.ext 0 (.tmp 7)) (some 15) false <|
  .rd 9 none (.ext 1 (.tmp 7)) (some 16) false <|
  .rd 10 none (.fldA 10 (.tmp 4)) (some 17) false <|
  .ef 11 none (.st 3 (.tmp 17) (.tmp 15)) none [9] (
  .rd 12 none (.fldA 9 (.tmp 4)) (some 18) false <|
  .ef 13 none (.st 1 (.tmp 18) (.tmp 16)) none [] (
  .done) .none) .none
noncomputable def F.movetree_Tree_do.r3 : Plan :=
  .rd 0 none (.mv (.tmp 0)) (some 19) false <|
  .rd 1 none (.ldn 8 (.tmp 3)) (some 20) false <|
  .ef 2 none (.call F.movetree_Tree_may [(.tmp 19), (.tmp 20)]) (some 21) [] (
  .rd 3 none (.fldA 8 (.tmp 4)) (some 22) false <|
  .ef 4 none (.st 1 (.tmp 22) (.tmp 21)) none [] (
  .done) .none) .none
noncomputable def F.movetree_Tree_do.r4 : Plan :=
  .rd 0 none (.fldA 8 (.tmp 4)) (some 23) false <|
  .rd 1 none (.ld1 (.tmp 23)) (some 24) false <|
  .done
noncomputable def F.movetree_Tree_do.r5 : Plan :=
  .rd 0 none (.mv (.tmp 0)) (some 25) false <|
  .rd 1 none (.nilC (.tmp 25)) (some 26) false <|
  .rd 2 none (.fldA 1 (.tmp 26)) (some 27) false <|
  .rd 3 none (.ld1 (.tmp 27)) (some 28) false <|
  .rd 4 none (.fldA 6 (.tmp 3)) (some 29) false <|
  .rd 5 none (.ldn 2 (.tmp 29)) (some 30) false <|
  .rd 6 none (.fldA 3 (.tmp 3)) (some 31) false <|
  .rd 7 none (.ldn 3 (.tmp 31)) (some 32) false <|
  .ef 8 none (.mset [(.i .i64), (.i .i64)] true (.tmp 28) (.tmp 30) (.tmp 32)) none [] (
  .done) .none
noncomputable def F.movetree_Tree_do.r6 : Plan :=
  .rd 0 none (.mv (.tmp 0)) (some 33) false <|
  .rd 1 none (.mv (.tmp 0)) (some 34) false <|
  .rd 2 none (.nilC (.tmp 34)) (some 35) false <|
  .rd 3 none (.fldA 0 (.tmp 35)) (some 36) false <|
  .rd 4 none (.ld1 (.tmp 36)) (some 37) true <|
  .rd 5 none (.ldn 13 (.tmp 4)) (some 38) false <|
  .ef 6 none (.bsl 1 [(.int .i64 0), (.int .i64 0), (.int .i64 0), (.int .i64 0), (.int .i64 0), (.string ⟨#[]⟩), (.int .i64 0), (.int .i64 0), (.bool false), (.bool false), (.int .i64 0), (.int .i64 0), (.string ⟨#[]⟩)] [(0, (13, (.tmp 38)))]) (some 39) [0, 1, 2, 3, 4] (
  .ef 7 none (.app 13 112 (.tmp 37) (.tmp 39)) (some 40) [0] (
  .rd 8 none (.nilC (.tmp 33)) (some 41) false <|
  .rd 9 none (.fldA 0 (.tmp 41)) (some 42) false <|
  .ef 10 none (.st 1 (.tmp 42) (.tmp 40)) none [] (
  .done) .none) .none) .none
noncomputable def F.movetree_Tree_do.ic : IC :=
    (.seq (.reg F.movetree_Tree_do.r0)
    (.seq (.reg F.movetree_Tree_do.r1)
    (.seq (.reg F.movetree_Tree_do.r2)
    (.seq (.seq (.reg F.movetree_Tree_do.r3)
    (.seq (.reg F.movetree_Tree_do.r4)
    (.cond (.tmp 24) (.reg F.movetree_Tree_do.r5) .skip)))
    (.reg F.movetree_Tree_do.r6)))))
noncomputable def F.movetree_Tree_do.rs : List RO := []
theorem F.movetree_Tree_do.ok : cFunc Go.Proofs.Try.prog F.movetree_Tree_do = some (43, F.movetree_Tree_do.ic, F.movetree_Tree_do.rs) := by kernel_rfl
theorem F.movetree_Tree_do.cl : callable Go.Proofs.Try.prog F.movetree_Tree_do = true := by kernel_rfl
noncomputable def F.slices_ContainsFunc_s_movetree_entry_movetree_entry.r0 : Plan :=
  .rd 0 none (.mv (.const (.bool false))) (some 4) false <|
  .done
noncomputable def F.slices_ContainsFunc_s_movetree_entry_movetree_entry.r1 : Plan :=
  .rd 0 none (.mv (.tmp 0)) (some 5) false <|
  .rd 1 none (.mv (.tmp 1)) (some 6) false <|
  .ef 2 none (.call F.slices_IndexFunc_s_movetree_entry_movetree_entry [(.tmp 5), (.tmp 6)]) (some 7) [] (
  .rd 3 none (.bin .geq (.tmp 7) (.const (.int .i64 0))) (some 8) false <|
  .rd 4 none (.mv (.tmp 8)) (some 4) false <|
  .done) .none
noncomputable def F.slices_ContainsFunc_s_movetree_entry_movetree_entry.ic : IC :=
    (.seq (.reg F.slices_ContainsFunc_s_movetree_entry_movetree_entry.r0)
    (.seq (.reg F.slices_ContainsFunc_s_movetree_entry_movetree_entry.r1)
    .ret))
noncomputable def F.slices_ContainsFunc_s_movetree_entry_movetree_entry.rs : List RO := [(.mv (.tmp 4))]
theorem F.slices_ContainsFunc_s_movetree_entry_movetree_entry.ok : cFunc Go.Proofs.Try.prog F.slices_ContainsFunc_s_movetree_entry_movetree_entry = some (9, F.slices_ContainsFunc_s_movetree_entry_movetree_entry.ic, F.slices_ContainsFunc_s_movetree_entry_movetree_entry.rs) := by kernel_rfl
theorem F.slices_ContainsFunc_s_movetree_entry_movetree_entry.cl : callable Go.Proofs.Try.prog F.slices_ContainsFunc_s_movetree_entry_movetree_entry = true := by kernel_rfl
noncomputable def F.movetree_Tree_Took_c1.r0 : Plan :=
  .ef 0 none (.box (.tmp 0)) (some 2) [] (
  .rd 1 none (.mv (.const (.bool false))) (some 3) false <|
  .done) .none
noncomputable def F.movetree_Tree_Took_c1.r1 : Plan :=
  .rd 0 none (.fldA 0 (.tmp 2)) (some 4) false <|
  .rd 1 none (.fldA 0 (.tmp 4)) (some 5) false <|
  .rd 2 none (.ldn 2 (.tmp 5)) (some 6) false <|
  .rd 3 none (.ldn 2 (.tmp 1)) (some 7) false <|
  .rd 4 none (.eqS [(.i .i64), (.i .i64)] true false (.tmp 6) (.tmp 7)) (some 8) false <|
  .rd 5 none (.mv (.tmp 8)) (some 9) false <|
  .rd 6 (some (9, true)) (.fldA 8 (.tmp 2)) (some 10) false <|
  .rd 7 (some (9, true)) (.ld1 (.tmp 10)) (some 11) false <|
  .rd 8 none (.pick (.tmp 9) (.tmp 11) (.const (.bool false))) (some 12) false <|
  .rd 9 none (.mv (.tmp 12)) (some 3) false <|
  .done
noncomputable def F.movetree_Tree_Took_c1.ic : IC :=
    (.seq (.reg F.movetree_Tree_Took_c1.r0)
    (.seq (.reg F.movetree_Tree_Took_c1.r1)
    .ret))
noncomputable def F.movetree_Tree_Took_c1.rs : List RO := [(.mv (.tmp 3))]
theorem F.movetree_Tree_Took_c1.ok : cFunc Go.Proofs.Try.prog F.movetree_Tree_Took_c1 = some (13, F.movetree_Tree_Took_c1.ic, F.movetree_Tree_Took_c1.rs) := by kernel_rfl
theorem F.movetree_Tree_Took_c1.cl : callable Go.Proofs.Try.prog F.movetree_Tree_Took_c1 = true := by kernel_rfl
noncomputable def F.dots_Less.r0 : Plan :=
  .ef 0 none (.box (.tmp 0)) (some 2) [] (
  .ef 1 none (.box (.tmp 1)) (some 3) [] (
  .rd 2 none (.mv (.const (.bool false))) (some 4) false <|
  .done) .none) .none
noncomputable def F.dots_Less.r1 : Plan :=
  .rd 0 none (.ldn 2 (.tmp 2)) (some 5) false <|
  .rd 1 none (.ldn 2 (.tmp 3)) (some 6) false <|
  .rd 2 none (.eqS [(.i .i64), (.i .i64)] true true (.tmp 5) (.tmp 6)) (some 7) false <|
  .rd 3 none (.mv (.tmp 7)) (some 8) false <|
  .rd 4 (some (8, true)) (.ldn 2 (.tmp 2)) (some 9) false <|
  .rd 5 (some (8, true)) (.ldn 2 (.tmp 3)) (some 10) false <|
  .ef 6 (some (8, true)) (.call F.dots_compare [(.tmp 9), (.tmp 10)]) (some 11) [] (
  .rd 7 (some (8, true)) (.bin .lss (.tmp 11) (.const (.int .i64 0))) (some 12) false <|
  .rd 8 none (.pick (.tmp 8) (.tmp 12) (.const (.bool false))) (some 13) false <|
  .rd 9 none (.mv (.tmp 13)) (some 4) false <|
  .done) .none
noncomputable def F.dots_Less.ic : IC :=
    (.seq (.reg F.dots_Less.r0)
    (.seq (.reg F.dots_Less.r1)
    .ret))
noncomputable def F.dots_Less.rs : List RO := [(.mv (.tmp 4))]
theorem F.dots_Less.ok : cFunc Go.Proofs.Try.prog F.dots_Less = some (14, F.dots_Less.ic, F.dots_Less.rs) := by kernel_rfl
theorem F.dots_Less.cl : callable Go.Proofs.Try.prog F.dots_Less = true := by kernel_rfl
noncomputable def F.dots_Rising.r0 : Plan :=
  .rd 0 none (.mv (.const (.slice none 0 0))) (some 2) false <|
  .done
noncomputable def F.dots_Rising.r1 : Plan :=
  .rd 0 none (.mv (.tmp 0)) (some 3) false <|
  .ef 1 none (.call F.dots_set [(.tmp 3)]) (some 4) [] (
  .ef 2 none (.call F.dots_row [(.tmp 4)]) (some 5) [] (
  .rd 3 none (.mv (.tmp 5)) (some 2) false <|
  .done) .none) .none
noncomputable def F.dots_Rising.ic : IC :=
    (.seq (.reg F.dots_Rising.r0)
    (.seq (.reg F.dots_Rising.r1)
    .ret))
noncomputable def F.dots_Rising.rs : List RO := [(.mv (.tmp 2))]
theorem F.dots_Rising.ok : cFunc Go.Proofs.Try.prog F.dots_Rising = some (6, F.dots_Rising.ic, F.dots_Rising.rs) := by kernel_rfl
theorem F.dots_Rising.cl : callable Go.Proofs.Try.prog F.dots_Rising = true := by kernel_rfl
noncomputable def F.movetree_always.r0 : Plan :=
  .ef 0 none (.box (.tmp 0)) (some 1) [] (
  .rd 1 none (.mv (.const (.bool false))) (some 2) false <|
  .done) .none
noncomputable def F.movetree_always.r1 : Plan :=
  .rd 0 none (.ldn 2 (.tmp 1)) (some 3) true <|
  .ef 1 none (.call F.api_Root []) (some 4) [0] (
  .rd 2 none (.eqS [(.i .i64), (.i .i64)] true false (.tmp 3) (.tmp 4)) (some 5) false <|
  .rd 3 none (.mv (.tmp 5)) (some 6) false <|
  .rd 4 (some (6, false)) (.ldn 2 (.tmp 1)) (some 7) true <|
  .ef 5 (some (6, false)) (.call F.api_Trash []) (some 8) [4] (
  .rd 6 (some (6, false)) (.eqS [(.i .i64), (.i .i64)] true false (.tmp 7) (.tmp 8)) (some 9) false <|
  .rd 7 none (.pick (.tmp 6) (.const (.bool true)) (.tmp 9)) (some 10) false <|
  .rd 8 none (.mv (.tmp 10)) (some 2) false <|
  .done) .none) .none
noncomputable def F.movetree_always.ic : IC :=
    (.seq (.reg F.movetree_always.r0)
    (.seq (.reg F.movetree_always.r1)
    .ret))
noncomputable def F.movetree_always.rs : List RO := [(.mv (.tmp 2))]
theorem F.movetree_always.ok : cFunc Go.Proofs.Try.prog F.movetree_always = some (11, F.movetree_always.ic, F.movetree_always.rs) := by kernel_rfl
theorem F.movetree_always.cl : callable Go.Proofs.Try.prog F.movetree_always = true := by kernel_rfl
noncomputable def F.movetree_Tree_may.r0 : Plan :=
  .ef 0 none (.box (.tmp 1)) (some 3) [] (
  .rd 1 none (.mv (.const (.bool false))) (some 4) false <|
  .done) .none
noncomputable def F.movetree_Tree_may.r1 : Plan :=
  .rd 0 none (.fldA 3 (.tmp 3)) (some 5) false <|
  .rd 1 none (.fldA 0 (.tmp 5)) (some 6) false <|
  .rd 2 none (.ldn 2 (.tmp 6)) (some 7) false <|
  .ef 3 none (.call F.movetree_always [(.tmp 7)]) (some 8) [] (
  .rd 4 none (.un .not (.tmp 8)) (some 9) false <|
  .rd 5 none (.mv (.tmp 9)) (some 10) false <|
  .rd 6 (some (10, true)) (.mv (.tmp 0)) (some 11) false <|
  .rd 7 (some (10, true)) (.fldA 3 (.tmp 3)) (some 12) false <|
  .rd 8 (some (10, true)) (.fldA 0 (.tmp 12)) (some 13) false <|
  .rd 9 (some (10, true)) (.ldn 2 (.tmp 13)) (some 14) false <|
  .ef 10 (some (10, true)) (.call F.movetree_Tree_There [(.tmp 11), (.tmp 14)]) (some 15) [] (
  .rd 11 (some (10, true)) (.un .not (.tmp 15)) (some 16) false <|
  .rd 12 none (.pick (.tmp 10) (.tmp 16) (.const (.bool false))) (some 17) false <|
  .rd 13 none (.mv (.tmp 17)) (some 18) false <|
  .rd 14 (some (18, false)) (.fldA 6 (.tmp 3)) (some 19) false <|
  .rd 15 (some (18, false)) (.ldn 2 (.tmp 19)) (some 20) false <|
  .rd 16 (some (18, false)) (.fldA 0 (.tmp 3)) (some 21) false <|
  .rd 17 (some (18, false)) (.ldn 2 (.tmp 21)) (some 22) false <|
  .rd 18 (some (18, false)) (.eqS [(.i .i64), (.i .i64)] true true (.tmp 20) (.tmp 22)) (some 23) false <|
  .rd 19 (some (18, false)) (.mv (.tmp 23)) (some 24) false <|
  .rd 20 (some (24, true)) (.mv (.tmp 0)) (some 25) false <|
  .rd 21 (some (24, true)) (.fldA 6 (.tmp 3)) (some 26) false <|
  .rd 22 (some (24, true)) (.ldn 2 (.tmp 26)) (some 27) false <|
  .ef 23 (some (24, true)) (.call F.movetree_Tree_There [(.tmp 25), (.tmp 27)]) (some 28) [] (
  .rd 24 (some (24, true)) (.un .not (.tmp 28)) (some 29) false <|
  .rd 25 (some (18, false)) (.pick (.tmp 24) (.tmp 29) (.const (.bool false))) (some 30) false <|
  .rd 26 none (.pick (.tmp 18) (.const (.bool true)) (.tmp 30)) (some 31) false <|
  .done) .none) .none) .none
noncomputable def F.movetree_Tree_may.r2 : Plan :=
  .rd 0 none (.mv (.const (.bool false))) (some 4) false <|
  .done
noncomputable def F.movetree_Tree_may.r3 : Plan :=
  .rd 0 none (.fldA 6 (.tmp 3)) (some 32) false <|
  .rd 1 none (.ldn 2 (.tmp 32)) (some 33) false <|
  .rd 2 none (.fldA 3 (.tmp 3)) (some 34) false <|
  .rd 3 none (.fldA 0 (.tmp 34)) (some 35) false <|
  .rd 4 none (.ldn 2 (.tmp 35)) (some 36) false <|
  .rd 5 none (.eqS [(.i .i64), (.i .i64)] true true (.tmp 33) (.tmp 36)) (some 37) false <|
  .rd 6 none (.mv (.tmp 37)) (some 38) false <|
  .rd 7 (some (38, true)) (.mv (.tmp 0)) (some 39) false <|
  .rd 8 (some (38, true)) (.fldA 3 (.tmp 3)) (some 40) false <|
  .rd 9 (some (38, true)) (.fldA 0 (.tmp 40)) (some 41) false <|
  .rd 10 (some (38, true)) (.ldn 2 (.tmp 41)) (some 42) false <|
  .rd 12 (some (38, true)) (.fldA 6 (.tmp 3)) (some 44) false <|
  .rd 13 (some (38, true)) (.ldn 2 (.tmp 44)) (some 45) true <|
  .ef 11 (some (38, true)) (.call F.movetree_Tree_Path [(.tmp 39), (.tmp 42)]) (some 43) [12, 13] (
  .ef 14 (some (38, true)) (.call F.slices_Contains_s_api_Dot_api_Dot [(.tmp 43), (.tmp 45)]) (some 46) [] (
  .rd 15 (some (38, true)) (.un .not (.tmp 46)) (some 47) false <|
  .rd 16 none (.pick (.tmp 38) (.tmp 47) (.const (.bool false))) (some 48) false <|
  .rd 17 none (.mv (.tmp 48)) (some 4) false <|
  .done) .none) .none
noncomputable def F.movetree_Tree_may.ic : IC :=
    (.seq (.reg F.movetree_Tree_may.r0)
    (.seq (.seq (.reg F.movetree_Tree_may.r1)
    (.cond (.tmp 31) (.seq (.reg F.movetree_Tree_may.r2)
    .ret) .skip))
    (.seq (.reg F.movetree_Tree_may.r3)
    .ret)))
noncomputable def F.movetree_Tree_may.rs : List RO := [(.mv (.tmp 4))]
theorem F.movetree_Tree_may.ok : cFunc Go.Proofs.Try.prog F.movetree_Tree_may = some (49, F.movetree_Tree_may.ic, F.movetree_Tree_may.rs) := by kernel_rfl
theorem F.movetree_Tree_may.cl : callable Go.Proofs.Try.prog F.movetree_Tree_may = true := by kernel_rfl
noncomputable def F.slices_IndexFunc_s_movetree_entry_movetree_entry.r0 : Plan :=
  .rd 0 none (.mv (.const (.int .i64 0))) (some 4) false <|
  .done
noncomputable def F.slices_IndexFunc_s_movetree_entry_movetree_entry.r1 : Plan :=
  .rd 0 none (.mv (.tmp 0)) (some 6) false <|
  .rd 1 none (.len .sl (.tmp 6)) (some 7) false <|
  .rd 2 none (.mv (.const (.int .i64 0))) (some 8) false <|
  .done
noncomputable def F.slices_IndexFunc_s_movetree_entry_movetree_entry.r2 : Plan :=
  .rd 0 none (.bin .lss (.tmp 8) (.tmp 7)) (some 9) false <|
  .done
noncomputable def F.slices_IndexFunc_s_movetree_entry_movetree_entry.r3 : Plan :=
  .rd 0 none (.mv (.tmp 8)) (some 10) false <|
  .rd 1 none (.mv (.tmp 10)) (some 5) false <|
  .done
noncomputable def F.slices_IndexFunc_s_movetree_entry_movetree_entry.r4 : Plan :=
  .rd 0 none (.mv (.tmp 1)) (some 11) false <|
  .rd 1 none (.mv (.tmp 0)) (some 12) false <|
  .rd 2 none (.mv (.tmp 5)) (some 13) false <|
  .rd 3 none (.idxA 13 (.tmp 12) (.tmp 13)) (some 14) false <|
  .rd 4 none (.ldn 13 (.tmp 14)) (some 15) false <|
  .ef 5 none (.callv (.tmp 11) [(.tmp 15)]) (some 16) [] (
  .done) .none
noncomputable def F.slices_IndexFunc_s_movetree_entry_movetree_entry.r5 : Plan :=
  .rd 0 none (.mv (.tmp 5)) (some 17) false <|
  .rd 1 none (.mv (.tmp 17)) (some 4) false <|
  .done
noncomputable def F.slices_IndexFunc_s_movetree_entry_movetree_entry.r6 : Plan :=
  .rd 0 none (.bin .add (.tmp 8) (.const (.int .i64 1))) (some 18) false <|
  .rd 1 none (.mv (.tmp 18)) (some 8) false <|
  .done
noncomputable def F.slices_IndexFunc_s_movetree_entry_movetree_entry.l0 : IC :=
    (.seq (.reg F.slices_IndexFunc_s_movetree_entry_movetree_entry.r2)
    (.seq (.cond (.tmp 9) .skip (.exit 0))
    (.seq (.block 1 (.seq (.reg F.slices_IndexFunc_s_movetree_entry_movetree_entry.r3)
    (.seq (.reg F.slices_IndexFunc_s_movetree_entry_movetree_entry.r4)
    (.cond (.tmp 16) (.seq (.reg F.slices_IndexFunc_s_movetree_entry_movetree_entry.r5)
    .ret) .skip))))
    (.reg F.slices_IndexFunc_s_movetree_entry_movetree_entry.r6))))
noncomputable def F.slices_IndexFunc_s_movetree_entry_movetree_entry.r7 : Plan :=
  .rd 0 none (.mv (.const (.int .i64 (-1)))) (some 4) false <|
  .done
noncomputable def F.slices_IndexFunc_s_movetree_entry_movetree_entry.ic : IC :=
    (.seq (.reg F.slices_IndexFunc_s_movetree_entry_movetree_entry.r0)
    (.seq (.seq (.reg F.slices_IndexFunc_s_movetree_entry_movetree_entry.r1)
    (.block 0 (.loop F.slices_IndexFunc_s_movetree_entry_movetree_entry.l0)))
    (.seq (.reg F.slices_IndexFunc_s_movetree_entry_movetree_entry.r7)
    .ret)))
noncomputable def F.slices_IndexFunc_s_movetree_entry_movetree_entry.rs : List RO := [(.mv (.tmp 4))]
theorem F.slices_IndexFunc_s_movetree_entry_movetree_entry.ok : cFunc Go.Proofs.Try.prog F.slices_IndexFunc_s_movetree_entry_movetree_entry = some (19, F.slices_IndexFunc_s_movetree_entry_movetree_entry.ic, F.slices_IndexFunc_s_movetree_entry_movetree_entry.rs) := by kernel_rfl
theorem F.slices_IndexFunc_s_movetree_entry_movetree_entry.cl : callable Go.Proofs.Try.prog F.slices_IndexFunc_s_movetree_entry_movetree_entry = true := by kernel_rfl
noncomputable def F.dots_compare.r0 : Plan :=
  .ef 0 none (.box (.tmp 0)) (some 2) [] (
  .ef 1 none (.box (.tmp 1)) (some 3) [] (
  .rd 2 none (.mv (.const (.int .i64 0))) (some 4) false <|
  .done) .none) .none
noncomputable def F.dots_compare.r1 : Plan :=
  .rd 0 none (.fldA 0 (.tmp 2)) (some 5) false <|
  .rd 1 none (.ld1 (.tmp 5)) (some 6) false <|
  .rd 2 none (.fldA 0 (.tmp 3)) (some 7) false <|
  .rd 3 none (.ld1 (.tmp 7)) (some 8) false <|
  .rd 5 none (.fldA 1 (.tmp 2)) (some 10) false <|
  .rd 6 none (.ld1 (.tmp 10)) (some 11) true <|
  .rd 7 none (.fldA 1 (.tmp 3)) (some 12) false <|
  .rd 8 none (.ld1 (.tmp 12)) (some 13) true <|
  .ef 4 none (.call F.cmp_Compare_int [(.tmp 6), (.tmp 8)]) (some 9) [5, 6, 7, 8] (
  .ef 9 none (.call F.cmp_Compare_int [(.tmp 11), (.tmp 13)]) (some 14) [] (
  .ef 10 none (.bsl 2 [(.int .i64 0), (.int .i64 0)] [(0, (1, (.tmp 9))), (1, (1, (.tmp 14)))]) (some 15) [] (
  .ef 11 none (.call F.cmp_Or_int [(.tmp 15)]) (some 16) [] (
  .rd 12 none (.mv (.tmp 16)) (some 4) false <|
  .done) .none) .none) .none) .none
noncomputable def F.dots_compare.ic : IC :=
    (.seq (.reg F.dots_compare.r0)
    (.seq (.reg F.dots_compare.r1)
    .ret))
noncomputable def F.dots_compare.rs : List RO := [(.mv (.tmp 4))]
theorem F.dots_compare.ok : cFunc Go.Proofs.Try.prog F.dots_compare = some (17, F.dots_compare.ic, F.dots_compare.rs) := by kernel_rfl
theorem F.dots_compare.cl : callable Go.Proofs.Try.prog F.dots_compare = true := by kernel_rfl
noncomputable def F.dots_row.r0 : Plan :=
  .rd 0 none (.mv (.const (.slice none 0 0))) (some 2) false <|
  .done
noncomputable def F.dots_row.r1 : Plan :=
  .ef 0 none (.bsl 0 [] []) (some 5) [] (
  .rd 1 none (.mv (.tmp 5)) (some 3) false <|
  .done) .none
noncomputable def F.dots_row.r2 : Plan :=
  .rd 0 none (.mv (.tmp 0)) (some 6) false <|
  .ef 1 none (.rng false (.tmp 6)) (some 7) [] (
  .done) .none
noncomputable def F.dots_row.r3 : Plan :=
  .ef 0 none (.nxt false (.tmp 7)) (some 8) [] (
  .rd 1 none (.ext 0 (.tmp 8)) (some 9) false <|
  .done) .none
noncomputable def F.dots_row.r4 : Plan :=
  .ef 0 none (.ent (.tmp 7)) (some 10) [] (
  .rd 1 none (.ext 0 (.tmp 10)) (some 11) false <|
  .ef 2 none (.alloc [(.int .i64 0), (.int .i64 0)]) (some 4) [] (
  .ef 3 none (.st 2 (.tmp 4) (.tmp 11)) none [] (
  .done) .none) .none) .none
noncomputable def F.dots_row.r5 : Plan :=
  .rd 0 none (.mv (.tmp 3)) (some 12) false <|
  .rd 1 none (.ldn 2 (.tmp 4)) (some 13) false <|
  .ef 2 none (.bsl 1 [(.int .i64 0), (.int .i64 0)] [(0, (2, (.tmp 13)))]) (some 14) [] (
  .ef 3 none (.app 2 16 (.tmp 12) (.tmp 14)) (some 15) [] (
  .rd 4 none (.mv (.tmp 15)) (some 3) false <|
  .done) .none) .none
noncomputable def F.dots_row.l0 : IC :=
    (.seq (.reg F.dots_row.r3)
    (.seq (.cond (.tmp 9) .skip (.exit 0))
    (.block 1 (.seq (.reg F.dots_row.r4)
    (.reg F.dots_row.r5)))))
noncomputable def F.dots_row.r6 : Plan :=
  .rd 0 none (.mv (.tmp 3)) (some 16) false <|
  .ef 1 none (.call F.slices_SortFunc_s_api_Dot_api_Dot [(.tmp 16), (.func F.dots_compare)]) (some 17) [] (
  .done) .none
noncomputable def F.dots_row.r7 : Plan :=
  .rd 0 none (.mv (.tmp 3)) (some 18) false <|
  .rd 1 none (.mv (.tmp 18)) (some 2) false <|
  .done
noncomputable def F.dots_row.ic : IC :=
    (.seq (.reg F.dots_row.r0)
    (.seq (.reg F.dots_row.r1)
    (.seq (.seq (.reg F.dots_row.r2)
    (.block 0 (.loop F.dots_row.l0)))
    (.seq (.reg F.dots_row.r6)
    (.seq (.reg F.dots_row.r7)
    .ret)))))
noncomputable def F.dots_row.rs : List RO := [(.mv (.tmp 2))]
theorem F.dots_row.ok : cFunc Go.Proofs.Try.prog F.dots_row = some (19, F.dots_row.ic, F.dots_row.rs) := by kernel_rfl
theorem F.dots_row.cl : callable Go.Proofs.Try.prog F.dots_row = true := by kernel_rfl
noncomputable def F.dots_set.r0 : Plan :=
  .rd 0 none (.mv (.const (.map none))) (some 2) false <|
  .done
noncomputable def F.dots_set.r1 : Plan :=
  .ef 0 none .mkMap (some 6) [] (
  .rd 1 none (.mv (.tmp 6)) (some 3) false <|
  .done) .none
noncomputable def F.dots_set.r2 : Plan :=
  .rd 0 none (.mv (.tmp 0)) (some 7) false <|
  .rd 1 none (.len .sl (.tmp 7)) (some 8) false <|
  .rd 2 none (.mv (.const (.int .i64 0))) (some 9) false <|
  .done
noncomputable def F.dots_set.r3 : Plan :=
  .rd 0 none (.bin .lss (.tmp 9) (.tmp 8)) (some 10) false <|
  .done
noncomputable def F.dots_set.r4 : Plan :=
  .rd 0 none (.idxA 2 (.tmp 7) (.tmp 9)) (some 11) false <|
  .rd 1 none (.ldn 2 (.tmp 11)) (some 12) false <|
  .ef 2 none (.alloc [(.int .i64 0), (.int .i64 0)]) (some 5) [] (
  .ef 3 none (.st 2 (.tmp 5) (.tmp 12)) none [] (
  .done) .none) .none
noncomputable def F.dots_set.r5 : Plan :=
  .rd 0 none (.mv (.tmp 3)) (some 13) false <|
  .rd 1 none (.ldn 2 (.tmp 5)) (some 14) false <|
  .ef 2 none (.mset [(.i .i64), (.i .i64)] true (.tmp 13) (.tmp 14) (.const (.bool true))) none [] (
  .done) .none
noncomputable def F.dots_set.r6 : Plan :=
  .rd 0 none (.bin .add (.tmp 9) (.const (.int .i64 1))) (some 15) false <|
  .rd 1 none (.mv (.tmp 15)) (some 9) false <|
  .done
noncomputable def F.dots_set.l0 : IC :=
    (.seq (.reg F.dots_set.r3)
    (.seq (.cond (.tmp 10) .skip (.exit 0))
    (.seq (.block 1 (.seq (.reg F.dots_set.r4)
    (.reg F.dots_set.r5)))
    (.reg F.dots_set.r6))))
noncomputable def F.dots_set.r7 : Plan :=
  .rd 0 none (.mv (.tmp 3)) (some 16) false <|
  .rd 1 none (.mv (.tmp 16)) (some 2) false <|
  .done
noncomputable def F.dots_set.ic : IC :=
    (.seq (.reg F.dots_set.r0)
    (.seq (.reg F.dots_set.r1)
    (.seq (.seq (.reg F.dots_set.r2)
    (.block 0 (.loop F.dots_set.l0)))
    (.seq (.reg F.dots_set.r7)
    .ret))))
noncomputable def F.dots_set.rs : List RO := [(.mv (.tmp 2))]
theorem F.dots_set.ok : cFunc Go.Proofs.Try.prog F.dots_set = some (17, F.dots_set.ic, F.dots_set.rs) := by kernel_rfl
theorem F.dots_set.cl : callable Go.Proofs.Try.prog F.dots_set = true := by kernel_rfl
noncomputable def F.slices_Contains_s_api_Dot_api_Dot.r0 : Plan :=
  .ef 0 none (.box (.tmp 1)) (some 3) [] (
  .rd 1 none (.mv (.const (.bool false))) (some 4) false <|
  .done) .none
noncomputable def F.slices_Contains_s_api_Dot_api_Dot.r1 : Plan :=
  .rd 0 none (.mv (.tmp 0)) (some 5) false <|
  .rd 1 none (.ldn 2 (.tmp 3)) (some 6) false <|
  .ef 2 none (.call F.slices_Index_s_api_Dot_api_Dot [(.tmp 5), (.tmp 6)]) (some 7) [] (
  .rd 3 none (.bin .geq (.tmp 7) (.const (.int .i64 0))) (some 8) false <|
  .rd 4 none (.mv (.tmp 8)) (some 4) false <|
  .done) .none
noncomputable def F.slices_Contains_s_api_Dot_api_Dot.ic : IC :=
    (.seq (.reg F.slices_Contains_s_api_Dot_api_Dot.r0)
    (.seq (.reg F.slices_Contains_s_api_Dot_api_Dot.r1)
    .ret))
noncomputable def F.slices_Contains_s_api_Dot_api_Dot.rs : List RO := [(.mv (.tmp 4))]
theorem F.slices_Contains_s_api_Dot_api_Dot.ok : cFunc Go.Proofs.Try.prog F.slices_Contains_s_api_Dot_api_Dot = some (9, F.slices_Contains_s_api_Dot_api_Dot.ic, F.slices_Contains_s_api_Dot_api_Dot.rs) := by kernel_rfl
theorem F.slices_Contains_s_api_Dot_api_Dot.cl : callable Go.Proofs.Try.prog F.slices_Contains_s_api_Dot_api_Dot = true := by kernel_rfl
noncomputable def F.cmp_Or_int.r0 : Plan :=
  .rd 0 none (.mv (.const (.int .i64 0))) (some 2) false <|
  .done
noncomputable def F.cmp_Or_int.r1 : Plan :=
  .rd 0 none (.mv (.const (.int .i64 0))) (some 3) false <|
  .done
noncomputable def F.cmp_Or_int.r2 : Plan :=
  .rd 0 none (.mv (.tmp 0)) (some 6) false <|
  .rd 1 none (.len .sl (.tmp 6)) (some 7) false <|
  .rd 2 none (.mv (.const (.int .i64 0))) (some 8) false <|
  .done
noncomputable def F.cmp_Or_int.r3 : Plan :=
  .rd 0 none (.bin .lss (.tmp 8) (.tmp 7)) (some 9) false <|
  .done
noncomputable def F.cmp_Or_int.r4 : Plan :=
  .rd 0 none (.idxA 1 (.tmp 6) (.tmp 8)) (some 10) false <|
  .rd 1 none (.ld1 (.tmp 10)) (some 11) false <|
  .rd 2 none (.mv (.tmp 11)) (some 5) false <|
  .done
noncomputable def F.cmp_Or_int.r5 : Plan :=
  .rd 0 none (.mv (.tmp 5)) (some 12) false <|
  .rd 1 none (.mv (.tmp 3)) (some 13) false <|
  .rd 2 none (.bin .neq (.tmp 12) (.tmp 13)) (some 14) false <|
  .done
noncomputable def F.cmp_Or_int.r6 : Plan :=
  .rd 0 none (.mv (.tmp 5)) (some 15) false <|
  .rd 1 none (.mv (.tmp 15)) (some 2) false <|
  .done
noncomputable def F.cmp_Or_int.r7 : Plan :=
  .rd 0 none (.bin .add (.tmp 8) (.const (.int .i64 1))) (some 16) false <|
  .rd 1 none (.mv (.tmp 16)) (some 8) false <|
  .done
noncomputable def F.cmp_Or_int.l0 : IC :=
    (.seq (.reg F.cmp_Or_int.r3)
    (.seq (.cond (.tmp 9) .skip (.exit 0))
    (.seq (.block 1 (.seq (.reg F.cmp_Or_int.r4)
    (.seq (.reg F.cmp_Or_int.r5)
    (.cond (.tmp 14) (.seq (.reg F.cmp_Or_int.r6)
    .ret) .skip))))
    (.reg F.cmp_Or_int.r7))))
noncomputable def F.cmp_Or_int.r8 : Plan :=
  .rd 0 none (.mv (.tmp 3)) (some 17) false <|
  .rd 1 none (.mv (.tmp 17)) (some 2) false <|
  .done
noncomputable def F.cmp_Or_int.ic : IC :=
    (.seq (.reg F.cmp_Or_int.r0)
    (.seq (.reg F.cmp_Or_int.r1)
    (.seq (.seq (.reg F.cmp_Or_int.r2)
    (.block 0 (.loop F.cmp_Or_int.l0)))
    (.seq (.reg F.cmp_Or_int.r8)
    .ret))))
noncomputable def F.cmp_Or_int.rs : List RO := [(.mv (.tmp 2))]
theorem F.cmp_Or_int.ok : cFunc Go.Proofs.Try.prog F.cmp_Or_int = some (18, F.cmp_Or_int.ic, F.cmp_Or_int.rs) := by kernel_rfl
theorem F.cmp_Or_int.cl : callable Go.Proofs.Try.prog F.cmp_Or_int = true := by kernel_rfl
noncomputable def F.cmp_Compare_int.r0 : Plan :=
  .rd 0 none (.mv (.const (.int .i64 0))) (some 4) false <|
  .done
noncomputable def F.cmp_Compare_int.r1 : Plan :=
  .rd 0 none (.mv (.tmp 0)) (some 7) false <|
  .ef 1 none (.call F.cmp_isNaN_int [(.tmp 7)]) (some 8) [] (
  .rd 2 none (.mv (.tmp 8)) (some 5) false <|
  .done) .none
noncomputable def F.cmp_Compare_int.r2 : Plan :=
  .rd 0 none (.mv (.tmp 1)) (some 9) false <|
  .ef 1 none (.call F.cmp_isNaN_int [(.tmp 9)]) (some 10) [] (
  .rd 2 none (.mv (.tmp 10)) (some 6) false <|
  .done) .none
noncomputable def F.cmp_Compare_int.r3 : Plan :=
  .rd 0 none (.mv (.tmp 5)) (some 11) false <|
  .done
noncomputable def F.cmp_Compare_int.r4 : Plan :=
  .rd 0 none (.mv (.tmp 6)) (some 12) false <|
  .done
noncomputable def F.cmp_Compare_int.r5 : Plan :=
  .rd 0 none (.mv (.const (.int .i64 0))) (some 4) false <|
  .done
noncomputable def F.cmp_Compare_int.r6 : Plan :=
  .rd 0 none (.mv (.const (.int .i64 (-1)))) (some 4) false <|
  .done
noncomputable def F.cmp_Compare_int.r7 : Plan :=
  .rd 0 none (.mv (.tmp 6)) (some 13) false <|
  .done
noncomputable def F.cmp_Compare_int.r8 : Plan :=
  .rd 0 none (.mv (.const (.int .i64 1))) (some 4) false <|
  .done
noncomputable def F.cmp_Compare_int.r9 : Plan :=
  .rd 0 none (.mv (.tmp 0)) (some 14) false <|
  .rd 1 none (.mv (.tmp 1)) (some 15) false <|
  .rd 2 none (.bin .lss (.tmp 14) (.tmp 15)) (some 16) false <|
  .done
noncomputable def F.cmp_Compare_int.r10 : Plan :=
  .rd 0 none (.mv (.const (.int .i64 (-1)))) (some 4) false <|
  .done
noncomputable def F.cmp_Compare_int.r11 : Plan :=
  .rd 0 none (.mv (.tmp 0)) (some 17) false <|
  .rd 1 none (.mv (.tmp 1)) (some 18) false <|
  .rd 2 none (.bin .gtr (.tmp 17) (.tmp 18)) (some 19) false <|
  .done
noncomputable def F.cmp_Compare_int.r12 : Plan :=
  .rd 0 none (.mv (.const (.int .i64 1))) (some 4) false <|
  .done
noncomputable def F.cmp_Compare_int.r13 : Plan :=
  .rd 0 none (.mv (.const (.int .i64 0))) (some 4) false <|
  .done
noncomputable def F.cmp_Compare_int.ic : IC :=
    (.seq (.reg F.cmp_Compare_int.r0)
    (.seq (.reg F.cmp_Compare_int.r1)
    (.seq (.reg F.cmp_Compare_int.r2)
    (.seq (.seq (.reg F.cmp_Compare_int.r3)
    (.cond (.tmp 11) (.seq (.seq (.reg F.cmp_Compare_int.r4)
    (.cond (.tmp 12) (.seq (.reg F.cmp_Compare_int.r5)
    .ret) .skip))
    (.seq (.reg F.cmp_Compare_int.r6)
    .ret)) .skip))
    (.seq (.seq (.reg F.cmp_Compare_int.r7)
    (.cond (.tmp 13) (.seq (.reg F.cmp_Compare_int.r8)
    .ret) .skip))
    (.seq (.seq (.reg F.cmp_Compare_int.r9)
    (.cond (.tmp 16) (.seq (.reg F.cmp_Compare_int.r10)
    .ret) .skip))
    (.seq (.seq (.reg F.cmp_Compare_int.r11)
    (.cond (.tmp 19) (.seq (.reg F.cmp_Compare_int.r12)
    .ret) .skip))
    (.seq (.reg F.cmp_Compare_int.r13)
    .ret))))))))
noncomputable def F.cmp_Compare_int.rs : List RO := [(.mv (.tmp 4))]
theorem F.cmp_Compare_int.ok : cFunc Go.Proofs.Try.prog F.cmp_Compare_int = some (20, F.cmp_Compare_int.ic, F.cmp_Compare_int.rs) := by kernel_rfl
theorem F.cmp_Compare_int.cl : callable Go.Proofs.Try.prog F.cmp_Compare_int = true := by kernel_rfl
noncomputable def F.slices_Index_s_api_Dot_api_Dot.r0 : Plan :=
  .ef 0 none (.box (.tmp 1)) (some 3) [] (
  .rd 1 none (.mv (.const (.int .i64 0))) (some 4) false <|
  .done) .none
noncomputable def F.slices_Index_s_api_Dot_api_Dot.r1 : Plan :=
  .rd 0 none (.mv (.tmp 0)) (some 6) false <|
  .rd 1 none (.len .sl (.tmp 6)) (some 7) false <|
  .rd 2 none (.mv (.const (.int .i64 0))) (some 8) false <|
  .done
noncomputable def F.slices_Index_s_api_Dot_api_Dot.r2 : Plan :=
  .rd 0 none (.bin .lss (.tmp 8) (.tmp 7)) (some 9) false <|
  .done
noncomputable def F.slices_Index_s_api_Dot_api_Dot.r3 : Plan :=
  .rd 0 none (.mv (.tmp 8)) (some 10) false <|
  .rd 1 none (.mv (.tmp 10)) (some 5) false <|
  .done
noncomputable def F.slices_Index_s_api_Dot_api_Dot.r4 : Plan :=
  .rd 0 none (.ldn 2 (.tmp 3)) (some 11) false <|
  .rd 1 none (.mv (.tmp 0)) (some 12) false <|
  .rd 2 none (.mv (.tmp 5)) (some 13) false <|
  .rd 3 none (.idxA 2 (.tmp 12) (.tmp 13)) (some 14) false <|
  .rd 4 none (.ldn 2 (.tmp 14)) (some 15) false <|
  .rd 5 none (.eqS [(.i .i64), (.i .i64)] true false (.tmp 11) (.tmp 15)) (some 16) false <|
  .done
noncomputable def F.slices_Index_s_api_Dot_api_Dot.r5 : Plan :=
  .rd 0 none (.mv (.tmp 5)) (some 17) false <|
  .rd 1 none (.mv (.tmp 17)) (some 4) false <|
  .done
noncomputable def F.slices_Index_s_api_Dot_api_Dot.r6 : Plan :=
  .rd 0 none (.bin .add (.tmp 8) (.const (.int .i64 1))) (some 18) false <|
  .rd 1 none (.mv (.tmp 18)) (some 8) false <|
  .done
noncomputable def F.slices_Index_s_api_Dot_api_Dot.l0 : IC :=
    (.seq (.reg F.slices_Index_s_api_Dot_api_Dot.r2)
    (.seq (.cond (.tmp 9) .skip (.exit 0))
    (.seq (.block 1 (.seq (.reg F.slices_Index_s_api_Dot_api_Dot.r3)
    (.seq (.reg F.slices_Index_s_api_Dot_api_Dot.r4)
    (.cond (.tmp 16) (.seq (.reg F.slices_Index_s_api_Dot_api_Dot.r5)
    .ret) .skip))))
    (.reg F.slices_Index_s_api_Dot_api_Dot.r6))))
noncomputable def F.slices_Index_s_api_Dot_api_Dot.r7 : Plan :=
  .rd 0 none (.mv (.const (.int .i64 (-1)))) (some 4) false <|
  .done
noncomputable def F.slices_Index_s_api_Dot_api_Dot.ic : IC :=
    (.seq (.reg F.slices_Index_s_api_Dot_api_Dot.r0)
    (.seq (.seq (.reg F.slices_Index_s_api_Dot_api_Dot.r1)
    (.block 0 (.loop F.slices_Index_s_api_Dot_api_Dot.l0)))
    (.seq (.reg F.slices_Index_s_api_Dot_api_Dot.r7)
    .ret)))
noncomputable def F.slices_Index_s_api_Dot_api_Dot.rs : List RO := [(.mv (.tmp 4))]
theorem F.slices_Index_s_api_Dot_api_Dot.ok : cFunc Go.Proofs.Try.prog F.slices_Index_s_api_Dot_api_Dot = some (19, F.slices_Index_s_api_Dot_api_Dot.ic, F.slices_Index_s_api_Dot_api_Dot.rs) := by kernel_rfl
theorem F.slices_Index_s_api_Dot_api_Dot.cl : callable Go.Proofs.Try.prog F.slices_Index_s_api_Dot_api_Dot = true := by kernel_rfl
noncomputable def F.cmp_isNaN_int.r0 : Plan :=
  .rd 0 none (.mv (.const (.bool false))) (some 2) false <|
  .done
noncomputable def F.cmp_isNaN_int.r1 : Plan :=
  .rd 0 none (.mv (.tmp 0)) (some 3) false <|
  .rd 1 none (.mv (.tmp 0)) (some 4) false <|
  .rd 2 none (.bin .neq (.tmp 3) (.tmp 4)) (some 5) false <|
  .rd 3 none (.mv (.tmp 5)) (some 2) false <|
  .done
noncomputable def F.cmp_isNaN_int.ic : IC :=
    (.seq (.reg F.cmp_isNaN_int.r0)
    (.seq (.reg F.cmp_isNaN_int.r1)
    .ret))
noncomputable def F.cmp_isNaN_int.rs : List RO := [(.mv (.tmp 2))]
theorem F.cmp_isNaN_int.ok : cFunc Go.Proofs.Try.prog F.cmp_isNaN_int = some (6, F.cmp_isNaN_int.ic, F.cmp_isNaN_int.rs) := by kernel_rfl
theorem F.cmp_isNaN_int.cl : callable Go.Proofs.Try.prog F.cmp_isNaN_int = true := by kernel_rfl
attribute [go_sem] F.api_Root.r0 F.api_Root.r1 F.api_Root.ic F.api_Root.rs
attribute [go_sem] F.api_Trash.r0 F.api_Trash.r1 F.api_Trash.ic F.api_Trash.rs
attribute [go_sem] F.cmp_Compare_int.r0 F.cmp_Compare_int.r1 F.cmp_Compare_int.r2 F.cmp_Compare_int.r3 F.cmp_Compare_int.r4 F.cmp_Compare_int.r5 F.cmp_Compare_int.r6 F.cmp_Compare_int.r7 F.cmp_Compare_int.r8 F.cmp_Compare_int.r9 F.cmp_Compare_int.r10 F.cmp_Compare_int.r11 F.cmp_Compare_int.r12 F.cmp_Compare_int.r13 F.cmp_Compare_int.ic F.cmp_Compare_int.rs
attribute [go_sem] F.cmp_Or_int.r0 F.cmp_Or_int.r1 F.cmp_Or_int.r2 F.cmp_Or_int.r3 F.cmp_Or_int.r4 F.cmp_Or_int.r5 F.cmp_Or_int.r6 F.cmp_Or_int.r7 F.cmp_Or_int.r8 F.cmp_Or_int.ic F.cmp_Or_int.rs
attribute [go_sem] F.cmp_isNaN_int.r0 F.cmp_isNaN_int.r1 F.cmp_isNaN_int.ic F.cmp_isNaN_int.rs
attribute [go_sem] F.dots_Less.r0 F.dots_Less.r1 F.dots_Less.ic F.dots_Less.rs
attribute [go_sem] F.dots_Rising.r0 F.dots_Rising.r1 F.dots_Rising.ic F.dots_Rising.rs
attribute [go_sem] F.dots_compare.r0 F.dots_compare.r1 F.dots_compare.ic F.dots_compare.rs
attribute [go_sem] F.dots_row.r0 F.dots_row.r1 F.dots_row.r2 F.dots_row.r3 F.dots_row.r4 F.dots_row.r5 F.dots_row.r6 F.dots_row.r7 F.dots_row.ic F.dots_row.rs
attribute [go_sem] F.dots_set.r0 F.dots_set.r1 F.dots_set.r2 F.dots_set.r3 F.dots_set.r4 F.dots_set.r5 F.dots_set.r6 F.dots_set.r7 F.dots_set.ic F.dots_set.rs
attribute [go_sem] F.movetree_New.r0 F.movetree_New.r1 F.movetree_New.ic F.movetree_New.rs
attribute [go_sem] F.movetree_Tree_Blocks.r0 F.movetree_Tree_Blocks.r1 F.movetree_Tree_Blocks.r2 F.movetree_Tree_Blocks.r3 F.movetree_Tree_Blocks.r4 F.movetree_Tree_Blocks.r5 F.movetree_Tree_Blocks.r6 F.movetree_Tree_Blocks.r7 F.movetree_Tree_Blocks.r8 F.movetree_Tree_Blocks.ic F.movetree_Tree_Blocks.rs
attribute [go_sem] F.movetree_Tree_Move.r0 F.movetree_Tree_Move.r1 F.movetree_Tree_Move.r2 F.movetree_Tree_Move.r3 F.movetree_Tree_Move.r4 F.movetree_Tree_Move.r5 F.movetree_Tree_Move.r6 F.movetree_Tree_Move.r7 F.movetree_Tree_Move.r8 F.movetree_Tree_Move.r9 F.movetree_Tree_Move.r10 F.movetree_Tree_Move.r11 F.movetree_Tree_Move.r12 F.movetree_Tree_Move.r13 F.movetree_Tree_Move.r14 F.movetree_Tree_Move.r15 F.movetree_Tree_Move.ic F.movetree_Tree_Move.rs
attribute [go_sem] F.movetree_Tree_Parent.r0 F.movetree_Tree_Parent.r1 F.movetree_Tree_Parent.r2 F.movetree_Tree_Parent.r3 F.movetree_Tree_Parent.ic F.movetree_Tree_Parent.rs
attribute [go_sem] F.movetree_Tree_Path.r0 F.movetree_Tree_Path.r1 F.movetree_Tree_Path.r2 F.movetree_Tree_Path.r3 F.movetree_Tree_Path.r4 F.movetree_Tree_Path.r5 F.movetree_Tree_Path.ic F.movetree_Tree_Path.rs
attribute [go_sem] F.movetree_Tree_There.r0 F.movetree_Tree_There.r1 F.movetree_Tree_There.r2 F.movetree_Tree_There.r3 F.movetree_Tree_There.r4 F.movetree_Tree_There.ic F.movetree_Tree_There.rs
attribute [go_sem] F.movetree_Tree_Took.r0 F.movetree_Tree_Took.r1 F.movetree_Tree_Took.ic F.movetree_Tree_Took.rs
attribute [go_sem] F.movetree_Tree_Took_c1.r0 F.movetree_Tree_Took_c1.r1 F.movetree_Tree_Took_c1.ic F.movetree_Tree_Took_c1.rs
attribute [go_sem] F.movetree_Tree_do.r0 F.movetree_Tree_do.r1 F.movetree_Tree_do.r2 F.movetree_Tree_do.r3 F.movetree_Tree_do.r4 F.movetree_Tree_do.r5 F.movetree_Tree_do.r6 F.movetree_Tree_do.ic F.movetree_Tree_do.rs
attribute [go_sem] F.movetree_Tree_may.r0 F.movetree_Tree_may.r1 F.movetree_Tree_may.r2 F.movetree_Tree_may.r3 F.movetree_Tree_may.ic F.movetree_Tree_may.rs
attribute [go_sem] F.movetree_Tree_undo.r0 F.movetree_Tree_undo.r1 F.movetree_Tree_undo.r2 F.movetree_Tree_undo.r3 F.movetree_Tree_undo.r4 F.movetree_Tree_undo.r5 F.movetree_Tree_undo.r6 F.movetree_Tree_undo.r7 F.movetree_Tree_undo.r8 F.movetree_Tree_undo.ic F.movetree_Tree_undo.rs
attribute [go_sem] F.movetree_always.r0 F.movetree_always.r1 F.movetree_always.ic F.movetree_always.rs
attribute [go_sem] F.movetree_later.r0 F.movetree_later.r1 F.movetree_later.r2 F.movetree_later.r3 F.movetree_later.ic F.movetree_later.rs
attribute [go_sem] F.movetree_none.r0 F.movetree_none.r1 F.movetree_none.ic F.movetree_none.rs
attribute [go_sem] F.osierlaw10_TreeLast.r0 F.osierlaw10_TreeLast.r1 F.osierlaw10_TreeLast.r2 F.osierlaw10_TreeLast.r3 F.osierlaw10_TreeLast.r4 F.osierlaw10_TreeLast.r5 F.osierlaw10_TreeLast.r6 F.osierlaw10_TreeLast.r7 F.osierlaw10_TreeLast.r8 F.osierlaw10_TreeLast.r9 F.osierlaw10_TreeLast.r10 F.osierlaw10_TreeLast.r11 F.osierlaw10_TreeLast.r12 F.osierlaw10_TreeLast.r13 F.osierlaw10_TreeLast.r14 F.osierlaw10_TreeLast.r15 F.osierlaw10_TreeLast.r16 F.osierlaw10_TreeLast.r17 F.osierlaw10_TreeLast.r18 F.osierlaw10_TreeLast.r19 F.osierlaw10_TreeLast.r20 F.osierlaw10_TreeLast.r21 F.osierlaw10_TreeLast.r22 F.osierlaw10_TreeLast.r23 F.osierlaw10_TreeLast.r24 F.osierlaw10_TreeLast.r25 F.osierlaw10_TreeLast.r26 F.osierlaw10_TreeLast.r27 F.osierlaw10_TreeLast.r28 F.osierlaw10_TreeLast.r29 F.osierlaw10_TreeLast.ic F.osierlaw10_TreeLast.rs
attribute [go_sem] F.osierlaw10_TreeMoves.r0 F.osierlaw10_TreeMoves.r1 F.osierlaw10_TreeMoves.r2 F.osierlaw10_TreeMoves.r3 F.osierlaw10_TreeMoves.r4 F.osierlaw10_TreeMoves.r5 F.osierlaw10_TreeMoves.r6 F.osierlaw10_TreeMoves.r7 F.osierlaw10_TreeMoves.r8 F.osierlaw10_TreeMoves.r9 F.osierlaw10_TreeMoves.r10 F.osierlaw10_TreeMoves.r11 F.osierlaw10_TreeMoves.r12 F.osierlaw10_TreeMoves.r13 F.osierlaw10_TreeMoves.r14 F.osierlaw10_TreeMoves.r15 F.osierlaw10_TreeMoves.r16 F.osierlaw10_TreeMoves.r17 F.osierlaw10_TreeMoves.r18 F.osierlaw10_TreeMoves.r19 F.osierlaw10_TreeMoves.r20 F.osierlaw10_TreeMoves.r21 F.osierlaw10_TreeMoves.r22 F.osierlaw10_TreeMoves.r23 F.osierlaw10_TreeMoves.r24 F.osierlaw10_TreeMoves.r25 F.osierlaw10_TreeMoves.r26 F.osierlaw10_TreeMoves.r27 F.osierlaw10_TreeMoves.r28 F.osierlaw10_TreeMoves.r29 F.osierlaw10_TreeMoves.r30 F.osierlaw10_TreeMoves.r31 F.osierlaw10_TreeMoves.ic F.osierlaw10_TreeMoves.rs
attribute [go_sem] F.osierlaw10_awake.r0 F.osierlaw10_awake.r1 F.osierlaw10_awake.r2 F.osierlaw10_awake.r3 F.osierlaw10_awake.r4 F.osierlaw10_awake.r5 F.osierlaw10_awake.r6 F.osierlaw10_awake.r7 F.osierlaw10_awake.r8 F.osierlaw10_awake.r9 F.osierlaw10_awake.r10 F.osierlaw10_awake.r11 F.osierlaw10_awake.r12 F.osierlaw10_awake.ic F.osierlaw10_awake.rs
attribute [go_sem] F.osierref03_In.r0 F.osierref03_In.r1 F.osierref03_In.r2 F.osierref03_In.r3 F.osierref03_In.r4 F.osierref03_In.r5 F.osierref03_In.r6 F.osierref03_In.ic F.osierref03_In.rs
attribute [go_sem] F.osierref03_Less.r0 F.osierref03_Less.r1 F.osierref03_Less.r2 F.osierref03_Less.r3 F.osierref03_Less.ic F.osierref03_Less.rs
attribute [go_sem] F.osierref03_Same.r0 F.osierref03_Same.r1 F.osierref03_Same.r2 F.osierref03_Same.r3 F.osierref03_Same.r4 F.osierref03_Same.r5 F.osierref03_Same.r6 F.osierref03_Same.r7 F.osierref03_Same.r8 F.osierref03_Same.ic F.osierref03_Same.rs
attribute [go_sem] F.slices_ContainsFunc_s_movetree_entry_movetree_entry.r0 F.slices_ContainsFunc_s_movetree_entry_movetree_entry.r1 F.slices_ContainsFunc_s_movetree_entry_movetree_entry.ic F.slices_ContainsFunc_s_movetree_entry_movetree_entry.rs
attribute [go_sem] F.slices_Contains_s_api_Dot_api_Dot.r0 F.slices_Contains_s_api_Dot_api_Dot.r1 F.slices_Contains_s_api_Dot_api_Dot.ic F.slices_Contains_s_api_Dot_api_Dot.rs
attribute [go_sem] F.slices_IndexFunc_s_movetree_entry_movetree_entry.r0 F.slices_IndexFunc_s_movetree_entry_movetree_entry.r1 F.slices_IndexFunc_s_movetree_entry_movetree_entry.r2 F.slices_IndexFunc_s_movetree_entry_movetree_entry.r3 F.slices_IndexFunc_s_movetree_entry_movetree_entry.r4 F.slices_IndexFunc_s_movetree_entry_movetree_entry.r5 F.slices_IndexFunc_s_movetree_entry_movetree_entry.r6 F.slices_IndexFunc_s_movetree_entry_movetree_entry.r7 F.slices_IndexFunc_s_movetree_entry_movetree_entry.ic F.slices_IndexFunc_s_movetree_entry_movetree_entry.rs
attribute [go_sem] F.slices_Index_s_api_Dot_api_Dot.r0 F.slices_Index_s_api_Dot_api_Dot.r1 F.slices_Index_s_api_Dot_api_Dot.r2 F.slices_Index_s_api_Dot_api_Dot.r3 F.slices_Index_s_api_Dot_api_Dot.r4 F.slices_Index_s_api_Dot_api_Dot.r5 F.slices_Index_s_api_Dot_api_Dot.r6 F.slices_Index_s_api_Dot_api_Dot.r7 F.slices_Index_s_api_Dot_api_Dot.ic F.slices_Index_s_api_Dot_api_Dot.rs
end Go.Osj
