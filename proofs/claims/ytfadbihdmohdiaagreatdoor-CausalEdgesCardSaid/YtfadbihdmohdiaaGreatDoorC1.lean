/- The compiled code of functions (printed by a program, checked by the kernel). -/
import Derived.Test.YtfadbihdmohdiaaGreatDoorC0
import Derived.Test.YtfadbihdmohdiaaGreatDoorOsjN
set_option linter.unusedSimpArgs false
set_option linter.unusedVariables false
set_option maxRecDepth 100000
namespace Go.Osj
noncomputable def F.api_Root.r0 : Plan :=
  .ef 0 none (.alloc [(.int .i64 0), (.int .i64 0)]) (some 0) [] (
  .done) .none
noncomputable def F.api_Root.r1 : Plan :=
  .rd 0 none (.build [(.int .i64 0), (.int .i64 0)] [(0, (1, (.const (.int .i64 0)))), (1, (1, (.const (.int .i64 (-1)))))]) (some 1) false <|
  .ef 1 none (.st 2 (.tmp 0) (.tmp 1)) none [] (
  .done) .none
noncomputable def F.api_Root.ic : IC :=
    (.seq (.reg F.api_Root.r0)
    (.seq (.reg F.api_Root.r1)
    .ret))
noncomputable def F.api_Root.rs : List RO := [(.ldn 2 (.tmp 0))]
theorem F.api_Root.ok : cFunc Go.Proofs.Tryz.prog F.api_Root = some (2, F.api_Root.ic, F.api_Root.rs) := by kernel_rfl
theorem F.api_Root.cl : callable Go.Proofs.Tryz.prog F.api_Root = true := by kernel_rfl
noncomputable def F.api_Trash.r0 : Plan :=
  .ef 0 none (.alloc [(.int .i64 0), (.int .i64 0)]) (some 0) [] (
  .done) .none
noncomputable def F.api_Trash.r1 : Plan :=
  .rd 0 none (.build [(.int .i64 0), (.int .i64 0)] [(0, (1, (.const (.int .i64 0)))), (1, (1, (.const (.int .i64 (-2)))))]) (some 1) false <|
  .ef 1 none (.st 2 (.tmp 0) (.tmp 1)) none [] (
  .done) .none
noncomputable def F.api_Trash.ic : IC :=
    (.seq (.reg F.api_Trash.r0)
    (.seq (.reg F.api_Trash.r1)
    .ret))
noncomputable def F.api_Trash.rs : List RO := [(.ldn 2 (.tmp 0))]
theorem F.api_Trash.ok : cFunc Go.Proofs.Tryz.prog F.api_Trash = some (2, F.api_Trash.ic, F.api_Trash.rs) := by kernel_rfl
theorem F.api_Trash.cl : callable Go.Proofs.Tryz.prog F.api_Trash = true := by kernel_rfl
noncomputable def F.ops_Check.r0 : Plan :=
  .ef 0 none (.box (.tmp 0)) (some 1) [] (
  .rd 1 none (.mv (.const (.bool false))) (some 2) false <|
  .done) .none
noncomputable def F.ops_Check.r1 : Plan :=
  .rd 0 none (.fldA 0 (.tmp 1)) (some 5) false <|
  .rd 1 none (.ldn 2 (.tmp 5)) (some 6) false <|
  .ef 2 none (.call F.dots_May [(.tmp 6)]) (some 7) [] (
  .rd 3 none (.un .not (.tmp 7)) (some 8) false <|
  .rd 4 none (.mv (.tmp 8)) (some 9) false <|
  .rd 5 (some (9, false)) (.fldA 2 (.tmp 1)) (some 10) false <|
  .rd 6 (some (9, false)) (.ld1 (.tmp 10)) (some 11) false <|
  .rd 7 (some (9, false)) (.bin .lss (.tmp 11) (.const (.int .i64 1))) (some 12) false <|
  .rd 8 none (.pick (.tmp 9) (.const (.bool true)) (.tmp 12)) (some 13) false <|
  .rd 9 none (.mv (.tmp 13)) (some 14) false <|
  .rd 10 (some (14, false)) (.fldA 2 (.tmp 1)) (some 15) false <|
  .rd 11 (some (14, false)) (.ld1 (.tmp 15)) (some 16) false <|
  .rd 12 (some (14, false)) (.bin .gtr (.tmp 16) (.const (.int .i64 1099511627776))) (some 17) false <|
  .rd 13 none (.pick (.tmp 14) (.const (.bool true)) (.tmp 17)) (some 18) false <|
  .rd 14 none (.mv (.tmp 18)) (some 19) false <|
  .rd 15 (some (19, false)) (.fldA 3 (.tmp 1)) (some 20) false <|
  .rd 16 (some (19, false)) (.ld1 (.tmp 20)) (some 21) false <|
  .ef 17 (some (19, false)) (.call F.vector_May [(.tmp 21)]) (some 22) [] (
  .rd 18 (some (19, false)) (.un .not (.tmp 22)) (some 23) false <|
  .rd 19 none (.pick (.tmp 19) (.const (.bool true)) (.tmp 23)) (some 24) false <|
  .rd 20 none (.mv (.tmp 24)) (some 25) false <|
  .rd 21 (some (25, false)) (.fldA 3 (.tmp 1)) (some 26) false <|
  .rd 22 (some (25, false)) (.ld1 (.tmp 26)) (some 27) false <|
  .rd 23 (some (25, false)) (.fldA 0 (.tmp 1)) (some 28) false <|
  .rd 24 (some (25, false)) (.fldA 0 (.tmp 28)) (some 29) false <|
  .rd 25 (some (25, false)) (.ld1 (.tmp 29)) (some 30) false <|
  .rd 27 (some (25, false)) (.fldA 0 (.tmp 1)) (some 32) false <|
  .rd 28 (some (25, false)) (.fldA 1 (.tmp 32)) (some 33) false <|
  .rd 29 (some (25, false)) (.ld1 (.tmp 33)) (some 34) true <|
  .rd 30 (some (25, false)) (.bin .sub (.tmp 34) (.const (.int .i64 1))) (some 35) false <|
  .ef 26 (some (25, false)) (.call F.vector_Get [(.tmp 27), (.tmp 30)]) (some 31) [27, 28, 29, 30] (
  .rd 31 (some (25, false)) (.bin .neq (.tmp 31) (.tmp 35)) (some 36) false <|
  .rd 32 none (.pick (.tmp 25) (.const (.bool true)) (.tmp 36)) (some 37) false <|
  .done) .none) .none) .none
noncomputable def F.ops_Check.r2 : Plan :=
  .rd 0 none (.mv (.const (.bool false))) (some 2) false <|
  .done
noncomputable def F.ops_Check.r3 : Plan :=
  .rd 0 none (.mkF (.func F.ops_Check_c1) [] [(.tmp 1)]) (some 38) false <|
  .rd 1 none (.mv (.tmp 38)) (some 3) false <|
  .done
noncomputable def F.ops_Check.r4 : Plan :=
  .rd 0 none (.build [(.int .i64 0), (.int .i64 0)] []) (some 39) false <|
  .ef 1 none (.alloc [(.int .i64 0), (.int .i64 0)]) (some 4) [] (
  .ef 2 none (.st 2 (.tmp 4) (.tmp 39)) none [] (
  .done) .none) .none
noncomputable def F.ops_Check.r5 : Plan :=
  .rd 0 none (.fldA 4 (.tmp 1)) (some 40) false <|
  .rd 1 none (.ld1 (.tmp 40)) (some 41) false <|
  .done
noncomputable def F.ops_Check.r6 : Plan :=
  .rd 0 none (.bin .eql (.tmp 41) (.const (.int .i64 1))) (some 43) false <|
  .rd 1 none (.mv (.tmp 43)) (some 42) false <|
  .done
noncomputable def F.ops_Check.r7 : Plan :=
  .rd 0 none (.fldA 7 (.tmp 1)) (some 44) false <|
  .rd 1 none (.ldn 2 (.tmp 44)) (some 45) false <|
  .rd 2 none (.ldn 2 (.tmp 4)) (some 46) false <|
  .rd 3 none (.eqS [(.i .i64), (.i .i64)] true true (.tmp 45) (.tmp 46)) (some 47) false <|
  .rd 4 none (.mv (.tmp 47)) (some 48) false <|
  .rd 5 (some (48, true)) (.mv (.tmp 3)) (some 49) false <|
  .rd 6 (some (48, true)) (.fldA 7 (.tmp 1)) (some 50) false <|
  .rd 7 (some (48, true)) (.ldn 2 (.tmp 50)) (some 51) false <|
  .ef 8 (some (48, true)) (.callv (.tmp 49) [(.tmp 51)]) (some 52) [] (
  .rd 9 (some (48, true)) (.un .not (.tmp 52)) (some 53) false <|
  .rd 10 none (.pick (.tmp 48) (.tmp 53) (.const (.bool false))) (some 54) false <|
  .rd 11 none (.mv (.tmp 54)) (some 55) false <|
  .rd 12 (some (55, false)) (.fldA 7 (.tmp 1)) (some 56) false <|
  .rd 13 (some (55, false)) (.ldn 2 (.tmp 56)) (some 57) false <|
  .rd 14 (some (55, false)) (.ldn 2 (.tmp 4)) (some 58) false <|
  .rd 15 (some (55, false)) (.eqS [(.i .i64), (.i .i64)] true false (.tmp 57) (.tmp 58)) (some 59) false <|
  .rd 16 (some (55, false)) (.mv (.tmp 59)) (some 60) false <|
  .rd 17 (some (60, true)) (.fldA 9 (.tmp 1)) (some 61) false <|
  .rd 18 (some (60, true)) (.ld1 (.tmp 61)) (some 62) false <|
  .rd 19 (some (60, true)) (.bin .neq (.tmp 62) (.const (.int .i64 1))) (some 63) false <|
  .rd 20 (some (55, false)) (.pick (.tmp 60) (.tmp 63) (.const (.bool false))) (some 64) false <|
  .rd 21 none (.pick (.tmp 55) (.const (.bool true)) (.tmp 64)) (some 65) false <|
  .rd 22 none (.mv (.tmp 65)) (some 66) false <|
  .rd 23 (some (66, false)) (.fldA 9 (.tmp 1)) (some 67) false <|
  .rd 24 (some (66, false)) (.ld1 (.tmp 67)) (some 68) false <|
  .rd 25 (some (66, false)) (.bin .neq (.tmp 68) (.const (.int .i64 0))) (some 69) false <|
  .rd 26 (some (66, false)) (.mv (.tmp 69)) (some 70) false <|
  .rd 27 (some (70, true)) (.fldA 9 (.tmp 1)) (some 71) false <|
  .rd 28 (some (70, true)) (.ld1 (.tmp 71)) (some 72) false <|
  .rd 29 (some (70, true)) (.bin .neq (.tmp 72) (.const (.int .i64 1))) (some 73) false <|
  .rd 30 (some (66, false)) (.pick (.tmp 70) (.tmp 73) (.const (.bool false))) (some 74) false <|
  .rd 31 none (.pick (.tmp 66) (.const (.bool true)) (.tmp 74)) (some 75) false <|
  .done) .none
noncomputable def F.ops_Check.r8 : Plan :=
  .rd 0 none (.mv (.const (.bool false))) (some 2) false <|
  .done
noncomputable def F.ops_Check.r9 : Plan :=
  .rd 0 none (.mv (.tmp 3)) (some 76) false <|
  .rd 1 none (.fldA 5 (.tmp 1)) (some 77) false <|
  .rd 2 none (.ldn 2 (.tmp 77)) (some 78) false <|
  .ef 3 none (.callv (.tmp 76) [(.tmp 78)]) (some 79) [] (
  .rd 4 none (.mv (.tmp 79)) (some 80) false <|
  .rd 5 (some (80, true)) (.fldA 10 (.tmp 1)) (some 81) false <|
  .rd 6 (some (80, true)) (.ld1 (.tmp 81)) (some 82) false <|
  .rd 7 (some (80, true)) (.bin .geq (.tmp 82) (.const (.int .i64 0))) (some 83) false <|
  .rd 8 none (.pick (.tmp 80) (.tmp 83) (.const (.bool false))) (some 84) false <|
  .rd 9 none (.mv (.tmp 84)) (some 85) false <|
  .rd 10 (some (85, true)) (.fldA 10 (.tmp 1)) (some 86) false <|
  .rd 11 (some (85, true)) (.ld1 (.tmp 86)) (some 87) false <|
  .rd 12 (some (85, true)) (.bin .leq (.tmp 87) (.const (.int .i64 1114111))) (some 88) false <|
  .rd 13 none (.pick (.tmp 85) (.tmp 88) (.const (.bool false))) (some 89) false <|
  .rd 14 none (.mv (.tmp 89)) (some 90) false <|
  .rd 15 (some (90, true)) (.fldA 10 (.tmp 1)) (some 91) false <|
  .rd 16 (some (90, true)) (.ld1 (.tmp 91)) (some 92) false <|
  .rd 17 (some (90, true)) (.bin .shr (.tmp 92) (.const (.int .u64 11))) (some 93) false <|
  .rd 18 (some (90, true)) (.bin .neq (.tmp 93) (.const (.int .i64 27))) (some 94) false <|
  .rd 19 none (.pick (.tmp 90) (.tmp 94) (.const (.bool false))) (some 95) false <|
  .rd 20 none (.mv (.tmp 95)) (some 96) false <|
  .rd 21 (some (96, true)) (.fldA 11 (.tmp 1)) (some 97) false <|
  .rd 22 (some (96, true)) (.ldn 2 (.tmp 97)) (some 98) false <|
  .rd 23 (some (96, true)) (.ldn 2 (.tmp 4)) (some 99) false <|
  .rd 24 (some (96, true)) (.eqS [(.i .i64), (.i .i64)] true false (.tmp 98) (.tmp 99)) (some 100) false <|
  .rd 25 none (.pick (.tmp 96) (.tmp 100) (.const (.bool false))) (some 101) false <|
  .rd 26 none (.mv (.tmp 101)) (some 102) false <|
  .rd 27 (some (102, true)) (.fldA 13 (.tmp 1)) (some 103) false <|
  .rd 28 (some (102, true)) (.ld1 (.tmp 103)) (some 104) false <|
  .rd 29 (some (102, true)) (.bin .eql (.tmp 104) (.const (.string ⟨#[]⟩))) (some 105) false <|
  .rd 30 none (.pick (.tmp 102) (.tmp 105) (.const (.bool false))) (some 106) false <|
  .rd 31 none (.mv (.tmp 106)) (some 2) false <|
  .done) .none
noncomputable def F.ops_Check.r10 : Plan :=
  .rd 0 none (.bin .eql (.tmp 41) (.const (.int .i64 2))) (some 108) false <|
  .rd 1 none (.mv (.tmp 108)) (some 107) false <|
  .done
noncomputable def F.ops_Check.r11 : Plan :=
  .rd 0 none (.mv (.tmp 3)) (some 109) false <|
  .rd 1 none (.fldA 5 (.tmp 1)) (some 110) false <|
  .rd 2 none (.ldn 2 (.tmp 110)) (some 111) false <|
  .ef 3 none (.callv (.tmp 109) [(.tmp 111)]) (some 112) [] (
  .rd 4 none (.mv (.tmp 112)) (some 113) false <|
  .rd 5 (some (113, true)) (.mv (.tmp 3)) (some 114) false <|
  .rd 6 (some (113, true)) (.fldA 7 (.tmp 1)) (some 115) false <|
  .rd 7 (some (113, true)) (.ldn 2 (.tmp 115)) (some 116) false <|
  .ef 8 (some (113, true)) (.callv (.tmp 114) [(.tmp 116)]) (some 117) [] (
  .rd 9 none (.pick (.tmp 113) (.tmp 117) (.const (.bool false))) (some 118) false <|
  .rd 10 none (.mv (.tmp 118)) (some 119) false <|
  .rd 11 (some (119, true)) (.fldA 9 (.tmp 1)) (some 120) false <|
  .rd 12 (some (119, true)) (.ld1 (.tmp 120)) (some 121) false <|
  .rd 13 (some (119, true)) (.bin .eql (.tmp 121) (.const (.int .i64 0))) (some 122) false <|
  .rd 14 none (.pick (.tmp 119) (.tmp 122) (.const (.bool false))) (some 123) false <|
  .rd 15 none (.mv (.tmp 123)) (some 124) false <|
  .rd 16 (some (124, true)) (.fldA 10 (.tmp 1)) (some 125) false <|
  .rd 17 (some (124, true)) (.ld1 (.tmp 125)) (some 126) false <|
  .rd 18 (some (124, true)) (.bin .eql (.tmp 126) (.const (.int .i64 0))) (some 127) false <|
  .rd 19 none (.pick (.tmp 124) (.tmp 127) (.const (.bool false))) (some 128) false <|
  .rd 20 none (.mv (.tmp 128)) (some 129) false <|
  .rd 21 (some (129, true)) (.fldA 11 (.tmp 1)) (some 130) false <|
  .rd 22 (some (129, true)) (.ldn 2 (.tmp 130)) (some 131) false <|
  .rd 23 (some (129, true)) (.ldn 2 (.tmp 4)) (some 132) false <|
  .rd 24 (some (129, true)) (.eqS [(.i .i64), (.i .i64)] true false (.tmp 131) (.tmp 132)) (some 133) false <|
  .rd 25 none (.pick (.tmp 129) (.tmp 133) (.const (.bool false))) (some 134) false <|
  .rd 26 none (.mv (.tmp 134)) (some 135) false <|
  .rd 27 (some (135, true)) (.fldA 13 (.tmp 1)) (some 136) false <|
  .rd 28 (some (135, true)) (.ld1 (.tmp 136)) (some 137) false <|
  .rd 29 (some (135, true)) (.bin .eql (.tmp 137) (.const (.string ⟨#[]⟩))) (some 138) false <|
  .rd 30 none (.pick (.tmp 135) (.tmp 138) (.const (.bool false))) (some 139) false <|
  .rd 31 none (.mv (.tmp 139)) (some 2) false <|
  .done) .none) .none
noncomputable def F.ops_Check.r12 : Plan :=
  .rd 0 none (.bin .eql (.tmp 41) (.const (.int .i64 3))) (some 141) false <|
  .rd 1 none (.mv (.tmp 141)) (some 140) false <|
  .done
noncomputable def F.ops_Check.r13 : Plan :=
  .rd 0 none (.fldA 5 (.tmp 1)) (some 142) false <|
  .rd 1 none (.ldn 2 (.tmp 142)) (some 143) false <|
  .rd 2 none (.fldA 0 (.tmp 1)) (some 144) false <|
  .rd 3 none (.ldn 2 (.tmp 144)) (some 145) false <|
  .rd 4 none (.eqS [(.i .i64), (.i .i64)] true true (.tmp 143) (.tmp 145)) (some 146) false <|
  .rd 5 none (.mv (.tmp 146)) (some 147) false <|
  .rd 6 (some (147, true)) (.mv (.tmp 3)) (some 148) false <|
  .rd 7 (some (147, true)) (.fldA 5 (.tmp 1)) (some 149) false <|
  .rd 8 (some (147, true)) (.ldn 2 (.tmp 149)) (some 150) false <|
  .ef 9 (some (147, true)) (.callv (.tmp 148) [(.tmp 150)]) (some 151) [] (
  .rd 10 (some (147, true)) (.un .not (.tmp 151)) (some 152) false <|
  .rd 11 none (.pick (.tmp 147) (.tmp 152) (.const (.bool false))) (some 153) false <|
  .rd 12 none (.mv (.tmp 153)) (some 154) false <|
  .rd 13 (some (154, false)) (.fldA 11 (.tmp 1)) (some 155) false <|
  .rd 14 (some (154, false)) (.ldn 2 (.tmp 155)) (some 156) true <|
  .ef 15 (some (154, false)) (.call F.api_Root []) (some 157) [13, 14] (
  .rd 16 (some (154, false)) (.eqS [(.i .i64), (.i .i64)] true true (.tmp 156) (.tmp 157)) (some 158) false <|
  .rd 17 (some (154, false)) (.mv (.tmp 158)) (some 159) false <|
  .rd 18 (some (159, true)) (.fldA 11 (.tmp 1)) (some 160) false <|
  .rd 19 (some (159, true)) (.ldn 2 (.tmp 160)) (some 161) true <|
  .ef 20 (some (159, true)) (.call F.api_Trash []) (some 162) [18, 19] (
  .rd 21 (some (159, true)) (.eqS [(.i .i64), (.i .i64)] true true (.tmp 161) (.tmp 162)) (some 163) false <|
  .rd 22 (some (154, false)) (.pick (.tmp 159) (.tmp 163) (.const (.bool false))) (some 164) false <|
  .rd 23 (some (154, false)) (.mv (.tmp 164)) (some 165) false <|
  .rd 24 (some (165, true)) (.mv (.tmp 3)) (some 166) false <|
  .rd 25 (some (165, true)) (.fldA 11 (.tmp 1)) (some 167) false <|
  .rd 26 (some (165, true)) (.ldn 2 (.tmp 167)) (some 168) false <|
  .ef 27 (some (165, true)) (.callv (.tmp 166) [(.tmp 168)]) (some 169) [] (
  .rd 28 (some (165, true)) (.un .not (.tmp 169)) (some 170) false <|
  .rd 29 (some (154, false)) (.pick (.tmp 165) (.tmp 170) (.const (.bool false))) (some 171) false <|
  .rd 30 none (.pick (.tmp 154) (.const (.bool true)) (.tmp 171)) (some 172) false <|
  .done) .none) .none) .none) .none
noncomputable def F.ops_Check.r14 : Plan :=
  .rd 0 none (.mv (.const (.bool false))) (some 2) false <|
  .done
noncomputable def F.ops_Check.r15 : Plan :=
  .rd 0 none (.fldA 11 (.tmp 1)) (some 173) false <|
  .rd 1 none (.ldn 2 (.tmp 173)) (some 174) false <|
  .rd 2 none (.fldA 5 (.tmp 1)) (some 175) false <|
  .rd 3 none (.ldn 2 (.tmp 175)) (some 176) false <|
  .rd 4 none (.eqS [(.i .i64), (.i .i64)] true true (.tmp 174) (.tmp 176)) (some 177) false <|
  .rd 5 none (.mv (.tmp 177)) (some 178) false <|
  .rd 6 (some (178, true)) (.fldA 13 (.tmp 1)) (some 179) false <|
  .rd 7 (some (178, true)) (.ld1 (.tmp 179)) (some 180) false <|
  .ef 8 (some (178, true)) (.call F.keys_May [(.tmp 180)]) (some 181) [] (
  .rd 9 none (.pick (.tmp 178) (.tmp 181) (.const (.bool false))) (some 182) false <|
  .rd 10 none (.mv (.tmp 182)) (some 183) false <|
  .rd 11 (some (183, true)) (.fldA 7 (.tmp 1)) (some 184) false <|
  .rd 12 (some (183, true)) (.ldn 2 (.tmp 184)) (some 185) false <|
  .rd 13 (some (183, true)) (.ldn 2 (.tmp 4)) (some 186) false <|
  .rd 14 (some (183, true)) (.eqS [(.i .i64), (.i .i64)] true false (.tmp 185) (.tmp 186)) (some 187) false <|
  .rd 15 none (.pick (.tmp 183) (.tmp 187) (.const (.bool false))) (some 188) false <|
  .rd 16 none (.mv (.tmp 188)) (some 189) false <|
  .rd 17 (some (189, true)) (.fldA 9 (.tmp 1)) (some 190) false <|
  .rd 18 (some (189, true)) (.ld1 (.tmp 190)) (some 191) false <|
  .rd 19 (some (189, true)) (.bin .eql (.tmp 191) (.const (.int .i64 0))) (some 192) false <|
  .rd 20 none (.pick (.tmp 189) (.tmp 192) (.const (.bool false))) (some 193) false <|
  .rd 21 none (.mv (.tmp 193)) (some 194) false <|
  .rd 22 (some (194, true)) (.fldA 10 (.tmp 1)) (some 195) false <|
  .rd 23 (some (194, true)) (.ld1 (.tmp 195)) (some 196) false <|
  .rd 24 (some (194, true)) (.bin .eql (.tmp 196) (.const (.int .i64 0))) (some 197) false <|
  .rd 25 none (.pick (.tmp 194) (.tmp 197) (.const (.bool false))) (some 198) false <|
  .rd 26 none (.mv (.tmp 198)) (some 2) false <|
  .done) .none
noncomputable def F.ops_Check.r16 : Plan :=
  .rd 0 none (.mv (.const (.bool false))) (some 2) false <|
  .done
noncomputable def F.ops_Check.ic : IC :=
    (.seq (.reg F.ops_Check.r0)
    (.seq (.seq (.reg F.ops_Check.r1)
    (.cond (.tmp 37) (.seq (.reg F.ops_Check.r2)
    .ret) .skip))
    (.seq (.reg F.ops_Check.r3)
    (.seq (.reg F.ops_Check.r4)
    (.seq (.seq (.reg F.ops_Check.r5)
    (.block 0 (.seq (.reg F.ops_Check.r6)
    (.cond (.tmp 42) (.seq (.seq (.reg F.ops_Check.r7)
    (.cond (.tmp 75) (.seq (.reg F.ops_Check.r8)
    .ret) .skip))
    (.seq (.reg F.ops_Check.r9)
    .ret)) (.seq (.reg F.ops_Check.r10)
    (.cond (.tmp 107) (.seq (.reg F.ops_Check.r11)
    .ret) (.seq (.reg F.ops_Check.r12)
    (.cond (.tmp 140) (.seq (.seq (.reg F.ops_Check.r13)
    (.cond (.tmp 172) (.seq (.reg F.ops_Check.r14)
    .ret) .skip))
    (.seq (.reg F.ops_Check.r15)
    .ret)) .skip))))))))
    (.seq (.reg F.ops_Check.r16)
    .ret))))))
noncomputable def F.ops_Check.rs : List RO := [(.mv (.tmp 2))]
theorem F.ops_Check.ok : cFunc Go.Proofs.Tryz.prog F.ops_Check = some (199, F.ops_Check.ic, F.ops_Check.rs) := by kernel_rfl
theorem F.ops_Check.cl : callable Go.Proofs.Tryz.prog F.ops_Check = true := by kernel_rfl
noncomputable def F.vector_Has.r0 : Plan :=
  .ef 0 none (.box (.tmp 1)) (some 3) [] (
  .rd 1 none (.mv (.const (.bool false))) (some 4) false <|
  .done) .none
noncomputable def F.vector_Has.r1 : Plan :=
  .rd 0 none (.ldn 2 (.tmp 3)) (some 5) false <|
  .ef 1 none (.call F.dots_May [(.tmp 5)]) (some 6) [] (
  .rd 2 none (.mv (.tmp 6)) (some 7) false <|
  .rd 3 (some (7, true)) (.fldA 1 (.tmp 3)) (some 8) false <|
  .rd 4 (some (7, true)) (.ld1 (.tmp 8)) (some 9) true <|
  .rd 5 (some (7, true)) (.mv (.tmp 0)) (some 10) false <|
  .rd 6 (some (7, true)) (.fldA 0 (.tmp 3)) (some 11) false <|
  .rd 7 (some (7, true)) (.ld1 (.tmp 11)) (some 12) false <|
  .ef 8 (some (7, true)) (.call F.vector_Get [(.tmp 10), (.tmp 12)]) (some 13) [3, 4] (
  .rd 9 (some (7, true)) (.bin .leq (.tmp 9) (.tmp 13)) (some 14) false <|
  .rd 10 none (.pick (.tmp 7) (.tmp 14) (.const (.bool false))) (some 15) false <|
  .rd 11 none (.mv (.tmp 15)) (some 4) false <|
  .done) .none) .none
noncomputable def F.vector_Has.ic : IC :=
    (.seq (.reg F.vector_Has.r0)
    (.seq (.reg F.vector_Has.r1)
    .ret))
noncomputable def F.vector_Has.rs : List RO := [(.mv (.tmp 4))]
theorem F.vector_Has.ok : cFunc Go.Proofs.Tryz.prog F.vector_Has = some (16, F.vector_Has.ic, F.vector_Has.rs) := by kernel_rfl
theorem F.vector_Has.cl : callable Go.Proofs.Tryz.prog F.vector_Has = true := by kernel_rfl
noncomputable def F.causal_counted.r0 : Plan :=
  .rd 0 none (.mv (.const (.slice none 0 0))) (some 2) false <|
  .done
noncomputable def F.causal_counted.r1 : Plan :=
  .ef 0 none .mkMap (some 7) [] (
  .rd 1 none (.mv (.tmp 7)) (some 3) false <|
  .done) .none
noncomputable def F.causal_counted.r2 : Plan :=
  .ef 0 none (.bsl 0 [] []) (some 8) [] (
  .rd 1 none (.mv (.tmp 8)) (some 4) false <|
  .done) .none
noncomputable def F.causal_counted.r3 : Plan :=
  .rd 0 none (.mv (.tmp 0)) (some 9) false <|
  .rd 1 none (.len .sl (.tmp 9)) (some 10) false <|
  .rd 2 none (.mv (.const (.int .i64 0))) (some 11) false <|
  .done
noncomputable def F.causal_counted.r4 : Plan :=
  .rd 0 none (.bin .lss (.tmp 11) (.tmp 10)) (some 12) false <|
  .done
noncomputable def F.causal_counted.r5 : Plan :=
  .rd 0 none (.idxA 14 (.tmp 9) (.tmp 11)) (some 13) false <|
  .rd 1 none (.ldn 14 (.tmp 13)) (some 14) false <|
  .ef 2 none (.alloc [(.int .i64 0), (.int .i64 0), (.int .i64 0), (.slice none 0 0), (.int .i64 0), (.int .i64 0), (.int .i64 0), (.int .i64 0), (.int .i64 0), (.int .i64 0), (.int .i64 0), (.int .i64 0), (.int .i64 0), (.string ⟨#[]⟩)]) (some 6) [] (
  .ef 3 none (.st 14 (.tmp 6) (.tmp 14)) none [] (
  .done) .none) .none
noncomputable def F.causal_counted.r6 : Plan :=
  .rd 0 none (.ldn 14 (.tmp 6)) (some 15) false <|
  .ef 1 none (.call F.ops_Check [(.tmp 15)]) (some 16) [] (
  .rd 2 none (.mv (.tmp 16)) (some 17) false <|
  .rd 3 (some (17, true)) (.mv (.tmp 3)) (some 18) false <|
  .rd 4 (some (17, true)) (.fldA 0 (.tmp 6)) (some 19) false <|
  .rd 5 (some (17, true)) (.ldn 2 (.tmp 19)) (some 20) false <|
  .rd 6 (some (17, true)) (.look [(.i .i64), (.i .i64)] true (.bool false) false (.tmp 18) (.tmp 20)) (some 21) false <|
  .rd 7 (some (17, true)) (.un .not (.tmp 21)) (some 22) false <|
  .rd 8 none (.pick (.tmp 17) (.tmp 22) (.const (.bool false))) (some 23) false <|
  .done) .none
noncomputable def F.causal_counted.r7 : Plan :=
  .rd 0 none (.mv (.tmp 3)) (some 24) false <|
  .rd 1 none (.fldA 0 (.tmp 6)) (some 25) false <|
  .rd 2 none (.ldn 2 (.tmp 25)) (some 26) false <|
  .ef 3 none (.mset [(.i .i64), (.i .i64)] true (.tmp 24) (.tmp 26) (.const (.bool true))) none [] (
  .done) .none
noncomputable def F.causal_counted.r8 : Plan :=
  .rd 0 none (.fldA 3 (.tmp 6)) (some 27) false <|
  .rd 1 none (.ld1 (.tmp 27)) (some 28) false <|
  .ef 2 none (.call F.slices_Clone_api_Vector_api_Dot [(.tmp 28)]) (some 29) [] (
  .rd 3 none (.fldA 3 (.tmp 6)) (some 30) false <|
  .ef 4 none (.st 1 (.tmp 30) (.tmp 29)) none [] (
  .done) .none) .none
noncomputable def F.causal_counted.r9 : Plan :=
  .rd 0 none (.mv (.tmp 4)) (some 31) false <|
  .rd 1 none (.ldn 14 (.tmp 6)) (some 32) false <|
  .ef 2 none (.bsl 1 [(.int .i64 0), (.int .i64 0), (.int .i64 0), (.slice none 0 0), (.int .i64 0), (.int .i64 0), (.int .i64 0), (.int .i64 0), (.int .i64 0), (.int .i64 0), (.int .i64 0), (.int .i64 0), (.int .i64 0), (.string ⟨#[]⟩)] [(0, (14, (.tmp 32)))]) (some 33) [] (
  .ef 3 none (.app 14 136 (.tmp 31) (.tmp 33)) (some 34) [] (
  .rd 4 none (.mv (.tmp 34)) (some 4) false <|
  .done) .none) .none
noncomputable def F.causal_counted.r10 : Plan :=
  .rd 0 none (.bin .add (.tmp 11) (.const (.int .i64 1))) (some 35) false <|
  .rd 1 none (.mv (.tmp 35)) (some 11) false <|
  .done
noncomputable def F.causal_counted.l0 : IC :=
    (.seq (.reg F.causal_counted.r4)
    (.seq (.cond (.tmp 12) .skip (.exit 0))
    (.seq (.block 1 (.seq (.reg F.causal_counted.r5)
    (.seq (.reg F.causal_counted.r6)
    (.cond (.tmp 23) (.seq (.reg F.causal_counted.r7)
    (.seq (.reg F.causal_counted.r8)
    (.reg F.causal_counted.r9))) .skip))))
    (.reg F.causal_counted.r10))))
noncomputable def F.causal_counted.r11 : Plan :=
  .rd 0 none (.mv (.tmp 4)) (some 36) false <|
  .ef 1 none (.call F.slices_SortStableFunc_s_api_Op_api_Op [(.tmp 36), (.func F.causal_compare)]) (some 37) [] (
  .done) .none
noncomputable def F.causal_counted.r12 : Plan :=
  .rd 0 none (.mv (.tmp 4)) (some 38) false <|
  .rd 1 none (.mv (.tmp 38)) (some 2) false <|
  .done
noncomputable def F.causal_counted.ic : IC :=
    (.seq (.reg F.causal_counted.r0)
    (.seq (.reg F.causal_counted.r1)
    (.seq (.reg F.causal_counted.r2)
    (.seq (.seq (.reg F.causal_counted.r3)
    (.block 0 (.loop F.causal_counted.l0)))
    (.seq (.reg F.causal_counted.r11)
    (.seq (.reg F.causal_counted.r12)
    .ret))))))
noncomputable def F.causal_counted.rs : List RO := [(.mv (.tmp 2))]
theorem F.causal_counted.ok : cFunc Go.Proofs.Tryz.prog F.causal_counted = some (39, F.causal_counted.ic, F.causal_counted.rs) := by kernel_rfl
theorem F.causal_counted.cl : callable Go.Proofs.Tryz.prog F.causal_counted = true := by kernel_rfl
noncomputable def F.dots_May.r0 : Plan :=
  .ef 0 none (.box (.tmp 0)) (some 1) [] (
  .rd 1 none (.mv (.const (.bool false))) (some 2) false <|
  .done) .none
noncomputable def F.dots_May.r1 : Plan :=
  .rd 0 none (.fldA 0 (.tmp 1)) (some 3) false <|
  .rd 1 none (.ld1 (.tmp 3)) (some 4) false <|
  .rd 2 none (.bin .geq (.tmp 4) (.const (.int .i64 0))) (some 5) false <|
  .rd 3 none (.mv (.tmp 5)) (some 6) false <|
  .rd 4 (some (6, true)) (.fldA 0 (.tmp 1)) (some 7) false <|
  .rd 5 (some (6, true)) (.ld1 (.tmp 7)) (some 8) false <|
  .rd 6 (some (6, true)) (.bin .lss (.tmp 8) (.const (.int .i64 16777216))) (some 9) false <|
  .rd 7 none (.pick (.tmp 6) (.tmp 9) (.const (.bool false))) (some 10) false <|
  .rd 8 none (.mv (.tmp 10)) (some 11) false <|
  .rd 9 (some (11, true)) (.fldA 1 (.tmp 1)) (some 12) false <|
  .rd 10 (some (11, true)) (.ld1 (.tmp 12)) (some 13) false <|
  .rd 11 (some (11, true)) (.bin .geq (.tmp 13) (.const (.int .i64 1))) (some 14) false <|
  .rd 12 none (.pick (.tmp 11) (.tmp 14) (.const (.bool false))) (some 15) false <|
  .rd 13 none (.mv (.tmp 15)) (some 16) false <|
  .rd 14 (some (16, true)) (.fldA 1 (.tmp 1)) (some 17) false <|
  .rd 15 (some (16, true)) (.ld1 (.tmp 17)) (some 18) false <|
  .rd 16 (some (16, true)) (.bin .leq (.tmp 18) (.const (.int .i64 1073741824))) (some 19) false <|
  .rd 17 none (.pick (.tmp 16) (.tmp 19) (.const (.bool false))) (some 20) false <|
  .rd 18 none (.mv (.tmp 20)) (some 2) false <|
  .done
noncomputable def F.dots_May.ic : IC :=
    (.seq (.reg F.dots_May.r0)
    (.seq (.reg F.dots_May.r1)
    .ret))
noncomputable def F.dots_May.rs : List RO := [(.mv (.tmp 2))]
theorem F.dots_May.ok : cFunc Go.Proofs.Tryz.prog F.dots_May = some (21, F.dots_May.ic, F.dots_May.rs) := by kernel_rfl
theorem F.dots_May.cl : callable Go.Proofs.Tryz.prog F.dots_May = true := by kernel_rfl
noncomputable def F.vector_May.r0 : Plan :=
  .rd 0 none (.mv (.const (.bool false))) (some 2) false <|
  .done
noncomputable def F.vector_May.r1 : Plan :=
  .rd 0 none (.mv (.const (.int .i64 (-1)))) (some 3) false <|
  .done
noncomputable def F.vector_May.r2 : Plan :=
  .rd 0 none (.mv (.tmp 0)) (some 6) false <|
  .rd 1 none (.len .sl (.tmp 6)) (some 7) false <|
  .rd 2 none (.mv (.const (.int .i64 0))) (some 8) false <|
  .done
noncomputable def F.vector_May.r3 : Plan :=
  .rd 0 none (.bin .lss (.tmp 8) (.tmp 7)) (some 9) false <|
  .done
noncomputable def F.vector_May.r4 : Plan :=
  .rd 0 none (.idxA 2 (.tmp 6) (.tmp 8)) (some 10) false <|
  .rd 1 none (.ldn 2 (.tmp 10)) (some 11) false <|
  .ef 2 none (.alloc [(.int .i64 0), (.int .i64 0)]) (some 5) [] (
  .ef 3 none (.st 2 (.tmp 5) (.tmp 11)) none [] (
  .done) .none) .none
noncomputable def F.vector_May.r5 : Plan :=
  .rd 0 none (.ldn 2 (.tmp 5)) (some 12) false <|
  .ef 1 none (.call F.dots_May [(.tmp 12)]) (some 13) [] (
  .rd 2 none (.un .not (.tmp 13)) (some 14) false <|
  .rd 3 none (.mv (.tmp 14)) (some 15) false <|
  .rd 4 (some (15, false)) (.fldA 0 (.tmp 5)) (some 16) false <|
  .rd 5 (some (15, false)) (.ld1 (.tmp 16)) (some 17) false <|
  .rd 6 (some (15, false)) (.mv (.tmp 3)) (some 18) false <|
  .rd 7 (some (15, false)) (.bin .leq (.tmp 17) (.tmp 18)) (some 19) false <|
  .rd 8 none (.pick (.tmp 15) (.const (.bool true)) (.tmp 19)) (some 20) false <|
  .done) .none
noncomputable def F.vector_May.r6 : Plan :=
  .rd 0 none (.mv (.const (.bool false))) (some 2) false <|
  .done
noncomputable def F.vector_May.r7 : Plan :=
  .rd 0 none (.fldA 0 (.tmp 5)) (some 21) false <|
  .rd 1 none (.ld1 (.tmp 21)) (some 22) false <|
  .rd 2 none (.mv (.tmp 22)) (some 3) false <|
  .done
noncomputable def F.vector_May.r8 : Plan :=
  .rd 0 none (.bin .add (.tmp 8) (.const (.int .i64 1))) (some 23) false <|
  .rd 1 none (.mv (.tmp 23)) (some 8) false <|
  .done
noncomputable def F.vector_May.l0 : IC :=
    (.seq (.reg F.vector_May.r3)
    (.seq (.cond (.tmp 9) .skip (.exit 0))
    (.seq (.block 1 (.seq (.reg F.vector_May.r4)
    (.seq (.seq (.reg F.vector_May.r5)
    (.cond (.tmp 20) (.seq (.reg F.vector_May.r6)
    .ret) .skip))
    (.reg F.vector_May.r7))))
    (.reg F.vector_May.r8))))
noncomputable def F.vector_May.r9 : Plan :=
  .rd 0 none (.mv (.const (.bool true))) (some 2) false <|
  .done
noncomputable def F.vector_May.ic : IC :=
    (.seq (.reg F.vector_May.r0)
    (.seq (.reg F.vector_May.r1)
    (.seq (.seq (.reg F.vector_May.r2)
    (.block 0 (.loop F.vector_May.l0)))
    (.seq (.reg F.vector_May.r9)
    .ret))))
noncomputable def F.vector_May.rs : List RO := [(.mv (.tmp 2))]
theorem F.vector_May.ok : cFunc Go.Proofs.Tryz.prog F.vector_May = some (24, F.vector_May.ic, F.vector_May.rs) := by kernel_rfl
theorem F.vector_May.cl : callable Go.Proofs.Tryz.prog F.vector_May = true := by kernel_rfl
noncomputable def F.vector_Get.r0 : Plan :=
  .ef 0 none (.box (.tmp 1)) (some 3) [] (
  .rd 1 none (.mv (.const (.int .i64 0))) (some 4) false <|
  .done) .none
noncomputable def F.vector_Get.r1 : Plan :=
  .rd 0 none (.mv (.tmp 0)) (some 6) false <|
  .rd 1 none (.mkF (.func F.vector_Get_c1) [] [(.tmp 3)]) (some 7) false <|
  .ef 2 none (.call F.slices_IndexFunc_api_Vector_api_Dot [(.tmp 6), (.tmp 7)]) (some 8) [] (
  .rd 3 none (.mv (.tmp 8)) (some 5) false <|
  .done) .none
noncomputable def F.vector_Get.r2 : Plan :=
  .rd 0 none (.mv (.tmp 5)) (some 9) false <|
  .rd 1 none (.bin .geq (.tmp 9) (.const (.int .i64 0))) (some 10) false <|
  .done
noncomputable def F.vector_Get.r3 : Plan :=
  .rd 0 none (.mv (.tmp 0)) (some 11) false <|
  .rd 1 none (.mv (.tmp 5)) (some 12) false <|
  .rd 2 none (.idxA 2 (.tmp 11) (.tmp 12)) (some 13) false <|
  .rd 3 none (.fldA 1 (.tmp 13)) (some 14) false <|
  .rd 4 none (.ld1 (.tmp 14)) (some 15) false <|
  .rd 5 none (.mv (.tmp 15)) (some 4) false <|
  .done
noncomputable def F.vector_Get.r4 : Plan :=
  .rd 0 none (.mv (.const (.int .i64 0))) (some 4) false <|
  .done
noncomputable def F.vector_Get.ic : IC :=
    (.seq (.reg F.vector_Get.r0)
    (.seq (.seq (.reg F.vector_Get.r1)
    (.seq (.reg F.vector_Get.r2)
    (.cond (.tmp 10) (.seq (.reg F.vector_Get.r3)
    .ret) .skip)))
    (.seq (.reg F.vector_Get.r4)
    .ret)))
noncomputable def F.vector_Get.rs : List RO := [(.mv (.tmp 4))]
theorem F.vector_Get.ok : cFunc Go.Proofs.Tryz.prog F.vector_Get = some (16, F.vector_Get.ic, F.vector_Get.rs) := by kernel_rfl
theorem F.vector_Get.cl : callable Go.Proofs.Tryz.prog F.vector_Get = true := by kernel_rfl
noncomputable def F.ops_Check_c1.r0 : Plan :=
  .ef 0 none (.box (.tmp 0)) (some 2) [] (
  .rd 1 none (.mv (.const (.bool false))) (some 3) false <|
  .done) .none
noncomputable def F.ops_Check_c1.r1 : Plan :=
  .rd 0 none (.fldA 3 (.tmp 1)) (some 4) false <|
  .rd 1 none (.ld1 (.tmp 4)) (some 5) false <|
  .rd 2 none (.ldn 2 (.tmp 2)) (some 6) false <|
  .ef 3 none (.call F.vector_Has [(.tmp 5), (.tmp 6)]) (some 7) [] (
  .rd 4 none (.mv (.tmp 7)) (some 3) false <|
  .done) .none
noncomputable def F.ops_Check_c1.ic : IC :=
    (.seq (.reg F.ops_Check_c1.r0)
    (.seq (.reg F.ops_Check_c1.r1)
    .ret))
noncomputable def F.ops_Check_c1.rs : List RO := [(.mv (.tmp 3))]
theorem F.ops_Check_c1.ok : cFunc Go.Proofs.Tryz.prog F.ops_Check_c1 = some (8, F.ops_Check_c1.ic, F.ops_Check_c1.rs) := by kernel_rfl
theorem F.ops_Check_c1.cl : callable Go.Proofs.Tryz.prog F.ops_Check_c1 = true := by kernel_rfl
noncomputable def F.keys_May.r0 : Plan :=
  .rd 0 none (.mv (.const (.bool false))) (some 2) false <|
  .done
noncomputable def F.keys_May.r1 : Plan :=
  .rd 0 none (.mv (.tmp 0)) (some 4) false <|
  .rd 1 none (.len .str (.tmp 4)) (some 5) false <|
  .rd 2 none (.mv (.tmp 5)) (some 3) false <|
  .done
noncomputable def F.keys_May.r2 : Plan :=
  .rd 0 none (.mv (.tmp 3)) (some 6) false <|
  .rd 1 none (.bin .gtr (.tmp 6) (.const (.int .i64 0))) (some 7) false <|
  .rd 2 none (.mv (.tmp 7)) (some 8) false <|
  .rd 3 (some (8, true)) (.mv (.tmp 3)) (some 9) false <|
  .rd 4 (some (8, true)) (.bin .leq (.tmp 9) (.const (.int .i64 200))) (some 10) false <|
  .rd 5 none (.pick (.tmp 8) (.tmp 10) (.const (.bool false))) (some 11) false <|
  .rd 6 none (.mv (.tmp 11)) (some 12) false <|
  .rd 7 (some (12, true)) (.mv (.tmp 0)) (some 13) false <|
  .rd 8 (some (12, true)) (.mv (.tmp 3)) (some 14) false <|
  .rd 9 (some (12, true)) (.bin .sub (.tmp 14) (.const (.int .i64 1))) (some 15) false <|
  .rd 10 (some (12, true)) (.idxS (.tmp 13) (.tmp 15)) (some 16) false <|
  .rd 11 (some (12, true)) (.bin .neq (.tmp 16) (.const (.int .u8 97))) (some 17) false <|
  .rd 12 none (.pick (.tmp 12) (.tmp 17) (.const (.bool false))) (some 18) false <|
  .rd 13 none (.mv (.tmp 18)) (some 19) false <|
  .rd 14 (some (19, true)) (.mv (.tmp 0)) (some 20) false <|
  .ef 15 (some (19, true)) (.call F.strings_Trim [(.tmp 20), (.const (.string ⟨#[97, 98, 99, 100, 101, 102, 103, 104, 105, 106, 107, 108, 109, 110, 111, 112, 113, 114, 115, 116, 117, 118, 119, 120, 121, 122]⟩))]) (some 21) [] (
  .rd 16 (some (19, true)) (.bin .eql (.tmp 21) (.const (.string ⟨#[]⟩))) (some 22) false <|
  .rd 17 none (.pick (.tmp 19) (.tmp 22) (.const (.bool false))) (some 23) false <|
  .rd 18 none (.mv (.tmp 23)) (some 2) false <|
  .done) .none
noncomputable def F.keys_May.ic : IC :=
    (.seq (.reg F.keys_May.r0)
    (.seq (.reg F.keys_May.r1)
    (.seq (.reg F.keys_May.r2)
    .ret)))
noncomputable def F.keys_May.rs : List RO := [(.mv (.tmp 2))]
theorem F.keys_May.ok : cFunc Go.Proofs.Tryz.prog F.keys_May = some (24, F.keys_May.ic, F.keys_May.rs) := by kernel_rfl
theorem F.keys_May.cl : callable Go.Proofs.Tryz.prog F.keys_May = true := by kernel_rfl
noncomputable def F.slices_Clone_api_Vector_api_Dot.r0 : Plan :=
  .rd 0 none (.mv (.const (.slice none 0 0))) (some 2) false <|
  .done
noncomputable def F.slices_Clone_api_Vector_api_Dot.r1 : Plan :=
  .rd 0 none (.mv (.tmp 0)) (some 3) false <|
  .rd 1 none (.eqNil .sl false (.tmp 3) (.const (.slice none 0 0))) (some 4) false <|
  .done
noncomputable def F.slices_Clone_api_Vector_api_Dot.r2 : Plan :=
  .rd 0 none (.mv (.const (.slice none 0 0))) (some 2) false <|
  .done
noncomputable def F.slices_Clone_api_Vector_api_Dot.r3 : Plan :=
  .ef 0 none (.bsl 0 [] []) (some 5) [] (
  .rd 1 none (.mv (.tmp 0)) (some 6) false <|
  .ef 2 none (.app 2 16 (.tmp 5) (.tmp 6)) (some 7) [] (
  .rd 3 none (.mv (.tmp 7)) (some 2) false <|
  .done) .none) .none
noncomputable def F.slices_Clone_api_Vector_api_Dot.ic : IC :=
    (.seq (.reg F.slices_Clone_api_Vector_api_Dot.r0)
    (.seq (.seq (.reg F.slices_Clone_api_Vector_api_Dot.r1)
    (.cond (.tmp 4) (.seq (.reg F.slices_Clone_api_Vector_api_Dot.r2)
    .ret) .skip))
    (.seq (.reg F.slices_Clone_api_Vector_api_Dot.r3)
    .ret)))
noncomputable def F.slices_Clone_api_Vector_api_Dot.rs : List RO := [(.mv (.tmp 2))]
theorem F.slices_Clone_api_Vector_api_Dot.ok : cFunc Go.Proofs.Tryz.prog F.slices_Clone_api_Vector_api_Dot = some (8, F.slices_Clone_api_Vector_api_Dot.ic, F.slices_Clone_api_Vector_api_Dot.rs) := by kernel_rfl
theorem F.slices_Clone_api_Vector_api_Dot.cl : callable Go.Proofs.Tryz.prog F.slices_Clone_api_Vector_api_Dot = true := by kernel_rfl
noncomputable def F.slices_SortStableFunc_s_api_Op_api_Op.r0 : Plan :=
  .rd 0 none (.mv (.tmp 0)) (some 4) false <|
  .rd 1 none (.mv (.tmp 0)) (some 5) false <|
  .rd 2 none (.len .sl (.tmp 5)) (some 6) false <|
  .rd 3 none (.mv (.tmp 1)) (some 7) false <|
  .ef 4 none (.call F.slices_stableCmpFunc_api_Op [(.tmp 4), (.tmp 6), (.tmp 7)]) (some 8) [] (
  .done) .none
noncomputable def F.slices_SortStableFunc_s_api_Op_api_Op.ic : IC :=
    (.reg F.slices_SortStableFunc_s_api_Op_api_Op.r0)
noncomputable def F.slices_SortStableFunc_s_api_Op_api_Op.rs : List RO := []
theorem F.slices_SortStableFunc_s_api_Op_api_Op.ok : cFunc Go.Proofs.Tryz.prog F.slices_SortStableFunc_s_api_Op_api_Op = some (9, F.slices_SortStableFunc_s_api_Op_api_Op.ic, F.slices_SortStableFunc_s_api_Op_api_Op.rs) := by kernel_rfl
theorem F.slices_SortStableFunc_s_api_Op_api_Op.cl : callable Go.Proofs.Tryz.prog F.slices_SortStableFunc_s_api_Op_api_Op = true := by kernel_rfl
noncomputable def F.causal_compare.r0 : Plan :=
  .ef 0 none (.box (.tmp 0)) (some 2) [] (
  .ef 1 none (.box (.tmp 1)) (some 3) [] (
  .rd 2 none (.mv (.const (.int .i64 0))) (some 4) false <|
  .done) .none) .none
noncomputable def F.causal_compare.r1 : Plan :=
  .rd 0 none (.ldn 14 (.tmp 2)) (some 6) false <|
  .rd 1 none (.ldn 14 (.tmp 3)) (some 7) false <|
  .ef 2 none (.call F.ops_Less [(.tmp 6), (.tmp 7)]) (some 8) [] (
  .rd 3 none (.mv (.tmp 8)) (some 5) false <|
  .done) .none
noncomputable def F.causal_compare.r2 : Plan :=
  .rd 0 none (.mv (.const (.int .i64 (-1)))) (some 4) false <|
  .done
noncomputable def F.causal_compare.r3 : Plan :=
  .rd 0 none (.ldn 14 (.tmp 3)) (some 10) false <|
  .rd 1 none (.ldn 14 (.tmp 2)) (some 11) false <|
  .ef 2 none (.call F.ops_Less [(.tmp 10), (.tmp 11)]) (some 12) [] (
  .rd 3 none (.mv (.tmp 12)) (some 9) false <|
  .done) .none
noncomputable def F.causal_compare.r4 : Plan :=
  .rd 0 none (.mv (.const (.int .i64 1))) (some 4) false <|
  .done
noncomputable def F.causal_compare.r5 : Plan :=
  .rd 0 none (.mv (.const (.int .i64 0))) (some 4) false <|
  .done
noncomputable def F.causal_compare.ic : IC :=
    (.seq (.reg F.causal_compare.r0)
    (.seq (.block 0 (.seq (.reg F.causal_compare.r1)
    (.cond (.tmp 5) (.seq (.reg F.causal_compare.r2)
    .ret) (.seq (.reg F.causal_compare.r3)
    (.cond (.tmp 9) (.seq (.reg F.causal_compare.r4)
    .ret) .skip)))))
    (.seq (.reg F.causal_compare.r5)
    .ret)))
noncomputable def F.causal_compare.rs : List RO := [(.mv (.tmp 4))]
theorem F.causal_compare.ok : cFunc Go.Proofs.Tryz.prog F.causal_compare = some (13, F.causal_compare.ic, F.causal_compare.rs) := by kernel_rfl
theorem F.causal_compare.cl : callable Go.Proofs.Tryz.prog F.causal_compare = true := by kernel_rfl
noncomputable def F.slices_IndexFunc_api_Vector_api_Dot.r0 : Plan :=
  .rd 0 none (.mv (.const (.int .i64 0))) (some 4) false <|
  .done
noncomputable def F.slices_IndexFunc_api_Vector_api_Dot.r1 : Plan :=
  .rd 0 none (.mv (.tmp 0)) (some 6) false <|
  .rd 1 none (.len .sl (.tmp 6)) (some 7) false <|
  .rd 2 none (.mv (.const (.int .i64 0))) (some 8) false <|
  .done
noncomputable def F.slices_IndexFunc_api_Vector_api_Dot.r2 : Plan :=
  .rd 0 none (.bin .lss (.tmp 8) (.tmp 7)) (some 9) false <|
  .done
noncomputable def F.slices_IndexFunc_api_Vector_api_Dot.r3 : Plan :=
  .rd 0 none (.mv (.tmp 8)) (some 10) false <|
  .rd 1 none (.mv (.tmp 10)) (some 5) false <|
  .done
noncomputable def F.slices_IndexFunc_api_Vector_api_Dot.r4 : Plan :=
  .rd 0 none (.mv (.tmp 1)) (some 11) false <|
  .rd 1 none (.mv (.tmp 0)) (some 12) false <|
  .rd 2 none (.mv (.tmp 5)) (some 13) false <|
  .rd 3 none (.idxA 2 (.tmp 12) (.tmp 13)) (some 14) false <|
  .rd 4 none (.ldn 2 (.tmp 14)) (some 15) false <|
  .ef 5 none (.callv (.tmp 11) [(.tmp 15)]) (some 16) [] (
  .done) .none
noncomputable def F.slices_IndexFunc_api_Vector_api_Dot.r5 : Plan :=
  .rd 0 none (.mv (.tmp 5)) (some 17) false <|
  .rd 1 none (.mv (.tmp 17)) (some 4) false <|
  .done
noncomputable def F.slices_IndexFunc_api_Vector_api_Dot.r6 : Plan :=
  .rd 0 none (.bin .add (.tmp 8) (.const (.int .i64 1))) (some 18) false <|
  .rd 1 none (.mv (.tmp 18)) (some 8) false <|
  .done
noncomputable def F.slices_IndexFunc_api_Vector_api_Dot.l0 : IC :=
    (.seq (.reg F.slices_IndexFunc_api_Vector_api_Dot.r2)
    (.seq (.cond (.tmp 9) .skip (.exit 0))
    (.seq (.block 1 (.seq (.reg F.slices_IndexFunc_api_Vector_api_Dot.r3)
    (.seq (.reg F.slices_IndexFunc_api_Vector_api_Dot.r4)
    (.cond (.tmp 16) (.seq (.reg F.slices_IndexFunc_api_Vector_api_Dot.r5)
    .ret) .skip))))
    (.reg F.slices_IndexFunc_api_Vector_api_Dot.r6))))
noncomputable def F.slices_IndexFunc_api_Vector_api_Dot.r7 : Plan :=
  .rd 0 none (.mv (.const (.int .i64 (-1)))) (some 4) false <|
  .done
noncomputable def F.slices_IndexFunc_api_Vector_api_Dot.ic : IC :=
    (.seq (.reg F.slices_IndexFunc_api_Vector_api_Dot.r0)
    (.seq (.seq (.reg F.slices_IndexFunc_api_Vector_api_Dot.r1)
    (.block 0 (.loop F.slices_IndexFunc_api_Vector_api_Dot.l0)))
    (.seq (.reg F.slices_IndexFunc_api_Vector_api_Dot.r7)
    .ret)))
noncomputable def F.slices_IndexFunc_api_Vector_api_Dot.rs : List RO := [(.mv (.tmp 4))]
theorem F.slices_IndexFunc_api_Vector_api_Dot.ok : cFunc Go.Proofs.Tryz.prog F.slices_IndexFunc_api_Vector_api_Dot = some (19, F.slices_IndexFunc_api_Vector_api_Dot.ic, F.slices_IndexFunc_api_Vector_api_Dot.rs) := by kernel_rfl
theorem F.slices_IndexFunc_api_Vector_api_Dot.cl : callable Go.Proofs.Tryz.prog F.slices_IndexFunc_api_Vector_api_Dot = true := by kernel_rfl
noncomputable def F.vector_Get_c1.r0 : Plan :=
  .ef 0 none (.box (.tmp 0)) (some 2) [] (
  .rd 1 none (.mv (.const (.bool false))) (some 3) false <|
  .done) .none
noncomputable def F.vector_Get_c1.r1 : Plan :=
  .rd 0 none (.fldA 0 (.tmp 2)) (some 4) false <|
  .rd 1 none (.ld1 (.tmp 4)) (some 5) false <|
  .rd 2 none (.ld1 (.tmp 1)) (some 6) false <|
  .rd 3 none (.bin .eql (.tmp 5) (.tmp 6)) (some 7) false <|
  .rd 4 none (.mv (.tmp 7)) (some 3) false <|
  .done
noncomputable def F.vector_Get_c1.ic : IC :=
    (.seq (.reg F.vector_Get_c1.r0)
    (.seq (.reg F.vector_Get_c1.r1)
    .ret))
noncomputable def F.vector_Get_c1.rs : List RO := [(.mv (.tmp 3))]
theorem F.vector_Get_c1.ok : cFunc Go.Proofs.Tryz.prog F.vector_Get_c1 = some (8, F.vector_Get_c1.ic, F.vector_Get_c1.rs) := by kernel_rfl
theorem F.vector_Get_c1.cl : callable Go.Proofs.Tryz.prog F.vector_Get_c1 = true := by kernel_rfl
noncomputable def F.strings_Trim.r0 : Plan :=
  .rd 0 none (.mv (.const (.string ⟨#[]⟩))) (some 4) false <|
  .done
noncomputable def F.strings_Trim.r1 : Plan :=
  .rd 0 none (.mv (.tmp 0)) (some 7) false <|
  .rd 1 none (.bin .eql (.tmp 7) (.const (.string ⟨#[]⟩))) (some 8) false <|
  .rd 2 none (.mv (.tmp 8)) (some 9) false <|
  .rd 3 (some (9, false)) (.mv (.tmp 1)) (some 10) false <|
  .rd 4 (some (9, false)) (.bin .eql (.tmp 10) (.const (.string ⟨#[]⟩))) (some 11) false <|
  .rd 5 none (.pick (.tmp 9) (.const (.bool true)) (.tmp 11)) (some 12) false <|
  .done
noncomputable def F.strings_Trim.r2 : Plan :=
  .rd 0 none (.mv (.tmp 0)) (some 13) false <|
  .rd 1 none (.mv (.tmp 13)) (some 4) false <|
  .done
noncomputable def F.strings_Trim.r3 : Plan :=
  .rd 0 none (.mv (.tmp 1)) (some 14) false <|
  .rd 1 none (.len .str (.tmp 14)) (some 15) false <|
  .rd 2 none (.bin .eql (.tmp 15) (.const (.int .i64 1))) (some 16) false <|
  .rd 3 none (.mv (.tmp 16)) (some 17) false <|
  .rd 4 (some (17, true)) (.mv (.tmp 1)) (some 18) false <|
  .rd 5 (some (17, true)) (.idxS (.tmp 18) (.const (.int .i64 0))) (some 19) false <|
  .rd 6 (some (17, true)) (.bin .lss (.tmp 19) (.const (.int .u8 128))) (some 20) false <|
  .rd 7 none (.pick (.tmp 17) (.tmp 20) (.const (.bool false))) (some 21) false <|
  .done
noncomputable def F.strings_Trim.r4 : Plan :=
  .rd 0 none (.mv (.tmp 0)) (some 22) false <|
  .rd 1 none (.mv (.tmp 1)) (some 23) false <|
  .rd 2 none (.idxS (.tmp 23) (.const (.int .i64 0))) (some 24) false <|
  .rd 4 none (.mv (.tmp 1)) (some 26) false <|
  .rd 5 none (.idxS (.tmp 26) (.const (.int .i64 0))) (some 27) false <|
  .ef 3 none (.call F.strings_trimRightByte [(.tmp 22), (.tmp 24)]) (some 25) [4, 5] (
  .ef 6 none (.call F.strings_trimLeftByte [(.tmp 25), (.tmp 27)]) (some 28) [] (
  .rd 7 none (.mv (.tmp 28)) (some 4) false <|
  .done) .none) .none
noncomputable def F.strings_Trim.r5 : Plan :=
  .rd 0 none (.mv (.tmp 1)) (some 30) false <|
  .ef 1 none (.call F.strings_makeASCIISet [(.tmp 30)]) (some 31) [] (
  .rd 2 none (.mv (.tmp 31)) (some 29) false <|
  .rd 3 none (.ext 0 (.tmp 29)) (some 32) false <|
  .rd 4 none (.ext 1 (.tmp 29)) (some 33) false <|
  .ef 5 none (.alloc [(.bool false), (.bool false), (.bool false), (.bool false), (.bool false), (.bool false), (.bool false), (.bool false), (.bool false), (.bool false), (.bool false), (.bool false), (.bool false), (.bool false), (.bool false), (.bool false), (.bool false), (.bool false), (.bool false), (.bool false), (.bool false), (.bool false), (.bool false), (.bool false), (.bool false), (.bool false), (.bool false), (.bool false), (.bool false), (.bool false), (.bool false), (.bool false), (.bool false), (.bool false), (.bool false), (.bool false), (.bool false), (.bool false), (.bool false), (.bool false), (.bool false), (.bool false), (.bool false), (.bool false), (.bool false), (.bool false), (.bool false), (.bool false), (.bool false), (.bool false), (.bool false), (.bool false), (.bool false), (.bool false), (.bool false), (.bool false), (.bool false), (.bool false), (.bool false), (.bool false), (.bool false), (.bool false), (.bool false), (.bool false), (.bool false), (.bool false), (.bool false), (.bool false), (.bool false), (.bool false), (.bool false), (.bool false), (.bool false), (.bool false), (.bool false), (.bool false), (.bool false), (.bool false), (.bool false), (.bool false), (.bool false), (.bool false), (.bool false), (.bool false), (.bool false), (.bool false), (.bool false), (.bool false), (.bool false), (.bool false), (.bool false), (.bool false), (.bool false), (.bool false), (.bool false), (.bool false), (.bool false), (.bool false), (.bool false), (.bool false), (.bool false), (.bool false), (.bool false), (.bool false), (.bool false), (.bool false), (.bool false), (.bool false), (.bool false), (.bool false), (.bool false), (.bool false), (.bool false), (.bool false), (.bool false), (.bool false), (.bool false), (.bool false), (.bool false), (.bool false), (.bool false), (.bool false), (.bool false), (.bool false), (.bool false), (.bool false), (.bool false), (.bool false), (.bool false), (.bool false), (.bool false), (.bool false), (.bool false), (.bool false), (.bool false), (.bool false), (.bool false), (.bool false), (.bool false), (.bool false), (.bool false), (.bool false), (.bool false), (.bool false), (.bool false), (.bool false), (.bool false), (.bool false), (.bool false), (.bool false), (.bool false), (.bool false), (.bool false), (.bool false), (.bool false), (.bool false), (.bool false), (.bool false), (.bool false), (.bool false), (.bool false), (.bool false), (.bool false), (.bool false), (.bool false), (.bool false), (.bool false), (.bool false), (.bool false), (.bool false), (.bool false), (.bool false), (.bool false), (.bool false), (.bool false), (.bool false), (.bool false), (.bool false), (.bool false), (.bool false), (.bool false), (.bool false), (.bool false), (.bool false), (.bool false), (.bool false), (.bool false), (.bool false), (.bool false), (.bool false), (.bool false), (.bool false), (.bool false), (.bool false), (.bool false), (.bool false), (.bool false), (.bool false), (.bool false), (.bool false), (.bool false), (.bool false), (.bool false), (.bool false), (.bool false), (.bool false), (.bool false), (.bool false), (.bool false), (.bool false), (.bool false), (.bool false), (.bool false), (.bool false), (.bool false), (.bool false), (.bool false), (.bool false), (.bool false), (.bool false), (.bool false), (.bool false), (.bool false), (.bool false), (.bool false), (.bool false), (.bool false), (.bool false), (.bool false), (.bool false), (.bool false), (.bool false), (.bool false), (.bool false), (.bool false), (.bool false), (.bool false), (.bool false), (.bool false), (.bool false), (.bool false), (.bool false), (.bool false), (.bool false), (.bool false), (.bool false), (.bool false), (.bool false), (.bool false), (.bool false), (.bool false), (.bool false), (.bool false), (.bool false), (.bool false), (.bool false)]) (some 5) [] (
  .ef 6 none (.st 256 (.tmp 5) (.tmp 32)) none [] (
  .rd 7 none (.mv (.tmp 33)) (some 6) false <|
  .done) .none) .none) .none
noncomputable def F.strings_Trim.r6 : Plan :=
  .rd 0 none (.mv (.tmp 6)) (some 34) false <|
  .done
noncomputable def F.strings_Trim.r7 : Plan :=
  .rd 0 none (.mv (.tmp 0)) (some 35) false <|
  .ef 1 none (.call F.strings_trimRightASCII [(.tmp 35), (.tmp 5)]) (some 36) [] (
  .ef 2 none (.call F.strings_trimLeftASCII [(.tmp 36), (.tmp 5)]) (some 37) [] (
  .rd 3 none (.mv (.tmp 37)) (some 4) false <|
  .done) .none) .none
noncomputable def F.strings_Trim.r8 : Plan :=
  .rd 0 none (.mv (.tmp 0)) (some 38) false <|
  .rd 1 none (.mv (.tmp 1)) (some 39) false <|
  .ef 2 none (.call F.strings_trimRightUnicode [(.tmp 38), (.tmp 39)]) (some 40) [] (
  .rd 3 none (.mv (.tmp 1)) (some 41) false <|
  .ef 4 none (.call F.strings_trimLeftUnicode [(.tmp 40), (.tmp 41)]) (some 42) [] (
  .rd 5 none (.mv (.tmp 42)) (some 4) false <|
  .done) .none) .none
noncomputable def F.strings_Trim.ic : IC :=
    (.seq (.reg F.strings_Trim.r0)
    (.seq (.seq (.reg F.strings_Trim.r1)
    (.cond (.tmp 12) (.seq (.reg F.strings_Trim.r2)
    .ret) .skip))
    (.seq (.seq (.reg F.strings_Trim.r3)
    (.cond (.tmp 21) (.seq (.reg F.strings_Trim.r4)
    .ret) .skip))
    (.seq (.seq (.reg F.strings_Trim.r5)
    (.seq (.reg F.strings_Trim.r6)
    (.cond (.tmp 34) (.seq (.reg F.strings_Trim.r7)
    .ret) .skip)))
    (.seq (.reg F.strings_Trim.r8)
    .ret)))))
noncomputable def F.strings_Trim.rs : List RO := [(.mv (.tmp 4))]
theorem F.strings_Trim.ok : cFunc Go.Proofs.Tryz.prog F.strings_Trim = some (43, F.strings_Trim.ic, F.strings_Trim.rs) := by kernel_rfl
theorem F.strings_Trim.cl : callable Go.Proofs.Tryz.prog F.strings_Trim = true := by kernel_rfl
noncomputable def F.slices_stableCmpFunc_api_Op.r0 : Plan :=
  .rd 0 none (.mv (.const (.int .i64 20))) (some 6) false <|
  .done
noncomputable def F.slices_stableCmpFunc_api_Op.r1 : Plan :=
  .rd 0 none (.mv (.tmp 6)) (some 10) false <|
  .rd 1 none (.mv (.const (.int .i64 0))) (some 7) false <|
  .rd 2 none (.mv (.tmp 10)) (some 8) false <|
  .done
noncomputable def F.slices_stableCmpFunc_api_Op.r2 : Plan :=
  .rd 0 none (.mv (.tmp 8)) (some 11) false <|
  .rd 1 none (.mv (.tmp 1)) (some 12) false <|
  .rd 2 none (.bin .leq (.tmp 11) (.tmp 12)) (some 13) false <|
  .done
noncomputable def F.slices_stableCmpFunc_api_Op.r3 : Plan :=
  .rd 0 none (.mv (.tmp 0)) (some 14) false <|
  .rd 1 none (.mv (.tmp 7)) (some 15) false <|
  .rd 2 none (.mv (.tmp 8)) (some 16) false <|
  .rd 3 none (.mv (.tmp 2)) (some 17) false <|
  .ef 4 none (.call F.slices_insertionSortCmpFunc_api_Op [(.tmp 14), (.tmp 15), (.tmp 16), (.tmp 17)]) (some 18) [] (
  .done) .none
noncomputable def F.slices_stableCmpFunc_api_Op.r4 : Plan :=
  .rd 0 none (.mv (.tmp 8)) (some 19) false <|
  .rd 1 none (.mv (.tmp 19)) (some 7) false <|
  .done
noncomputable def F.slices_stableCmpFunc_api_Op.r5 : Plan :=
  .rd 0 none (.mv (.tmp 8)) (some 20) false <|
  .rd 1 none (.mv (.tmp 6)) (some 21) false <|
  .rd 2 none (.bin .add (.tmp 20) (.tmp 21)) (some 22) false <|
  .rd 3 none (.mv (.tmp 22)) (some 8) false <|
  .done
noncomputable def F.slices_stableCmpFunc_api_Op.l0 : IC :=
    (.seq (.seq (.reg F.slices_stableCmpFunc_api_Op.r2)
    (.cond (.tmp 13) .skip (.exit 0)))
    (.block 1 (.seq (.reg F.slices_stableCmpFunc_api_Op.r3)
    (.seq (.reg F.slices_stableCmpFunc_api_Op.r4)
    (.reg F.slices_stableCmpFunc_api_Op.r5)))))
noncomputable def F.slices_stableCmpFunc_api_Op.r6 : Plan :=
  .rd 0 none (.mv (.tmp 0)) (some 23) false <|
  .rd 1 none (.mv (.tmp 7)) (some 24) false <|
  .rd 2 none (.mv (.tmp 1)) (some 25) false <|
  .rd 3 none (.mv (.tmp 2)) (some 26) false <|
  .ef 4 none (.call F.slices_insertionSortCmpFunc_api_Op [(.tmp 23), (.tmp 24), (.tmp 25), (.tmp 26)]) (some 27) [] (
  .done) .none
noncomputable def F.slices_stableCmpFunc_api_Op.r7 : Plan :=
  .rd 0 none (.mv (.tmp 6)) (some 28) false <|
  .rd 1 none (.mv (.tmp 1)) (some 29) false <|
  .rd 2 none (.bin .lss (.tmp 28) (.tmp 29)) (some 30) false <|
  .done
noncomputable def F.slices_stableCmpFunc_api_Op.r8 : Plan :=
  .rd 0 none (.mv (.tmp 6)) (some 31) false <|
  .rd 1 none (.bin .mul (.const (.int .i64 2)) (.tmp 31)) (some 32) false <|
  .rd 2 none (.mv (.const (.int .i64 0))) (some 7) false <|
  .rd 3 none (.mv (.tmp 32)) (some 8) false <|
  .done
noncomputable def F.slices_stableCmpFunc_api_Op.r9 : Plan :=
  .rd 0 none (.mv (.tmp 8)) (some 33) false <|
  .rd 1 none (.mv (.tmp 1)) (some 34) false <|
  .rd 2 none (.bin .leq (.tmp 33) (.tmp 34)) (some 35) false <|
  .done
noncomputable def F.slices_stableCmpFunc_api_Op.r10 : Plan :=
  .rd 0 none (.mv (.tmp 0)) (some 36) false <|
  .rd 1 none (.mv (.tmp 7)) (some 37) false <|
  .rd 2 none (.mv (.tmp 7)) (some 38) false <|
  .rd 3 none (.mv (.tmp 6)) (some 39) false <|
  .rd 4 none (.bin .add (.tmp 38) (.tmp 39)) (some 40) false <|
  .rd 5 none (.mv (.tmp 8)) (some 41) false <|
  .rd 6 none (.mv (.tmp 2)) (some 42) false <|
  .ef 7 none (.call F.slices_symMergeCmpFunc_api_Op [(.tmp 36), (.tmp 37), (.tmp 40), (.tmp 41), (.tmp 42)]) (some 43) [] (
  .done) .none
noncomputable def F.slices_stableCmpFunc_api_Op.r11 : Plan :=
  .rd 0 none (.mv (.tmp 8)) (some 44) false <|
  .rd 1 none (.mv (.tmp 44)) (some 7) false <|
  .done
noncomputable def F.slices_stableCmpFunc_api_Op.r12 : Plan :=
  .rd 0 none (.mv (.tmp 8)) (some 45) false <|
  .rd 1 none (.mv (.tmp 6)) (some 46) false <|
  .rd 2 none (.bin .mul (.const (.int .i64 2)) (.tmp 46)) (some 47) false <|
  .rd 3 none (.bin .add (.tmp 45) (.tmp 47)) (some 48) false <|
  .rd 4 none (.mv (.tmp 48)) (some 8) false <|
  .done
noncomputable def F.slices_stableCmpFunc_api_Op.l1 : IC :=
    (.seq (.seq (.reg F.slices_stableCmpFunc_api_Op.r9)
    (.cond (.tmp 35) .skip (.exit 4)))
    (.block 5 (.seq (.reg F.slices_stableCmpFunc_api_Op.r10)
    (.seq (.reg F.slices_stableCmpFunc_api_Op.r11)
    (.reg F.slices_stableCmpFunc_api_Op.r12)))))
noncomputable def F.slices_stableCmpFunc_api_Op.r13 : Plan :=
  .rd 0 none (.mv (.tmp 7)) (some 49) false <|
  .rd 1 none (.mv (.tmp 6)) (some 50) false <|
  .rd 2 none (.bin .add (.tmp 49) (.tmp 50)) (some 51) false <|
  .rd 3 none (.mv (.tmp 51)) (some 9) false <|
  .done
noncomputable def F.slices_stableCmpFunc_api_Op.r14 : Plan :=
  .rd 0 none (.mv (.tmp 9)) (some 52) false <|
  .rd 1 none (.mv (.tmp 1)) (some 53) false <|
  .rd 2 none (.bin .lss (.tmp 52) (.tmp 53)) (some 54) false <|
  .done
noncomputable def F.slices_stableCmpFunc_api_Op.r15 : Plan :=
  .rd 0 none (.mv (.tmp 0)) (some 55) false <|
  .rd 1 none (.mv (.tmp 7)) (some 56) false <|
  .rd 2 none (.mv (.tmp 9)) (some 57) false <|
  .rd 3 none (.mv (.tmp 1)) (some 58) false <|
  .rd 4 none (.mv (.tmp 2)) (some 59) false <|
  .ef 5 none (.call F.slices_symMergeCmpFunc_api_Op [(.tmp 55), (.tmp 56), (.tmp 57), (.tmp 58), (.tmp 59)]) (some 60) [] (
  .done) .none
noncomputable def F.slices_stableCmpFunc_api_Op.r16 : Plan :=
  .rd 0 none (.mv (.tmp 6)) (some 61) false <|
  .rd 1 none (.bin .mul (.tmp 61) (.const (.int .i64 2))) (some 62) false <|
  .rd 2 none (.mv (.tmp 62)) (some 6) false <|
  .done
noncomputable def F.slices_stableCmpFunc_api_Op.l2 : IC :=
    (.seq (.seq (.reg F.slices_stableCmpFunc_api_Op.r7)
    (.cond (.tmp 30) .skip (.exit 2)))
    (.block 3 (.seq (.reg F.slices_stableCmpFunc_api_Op.r8)
    (.seq (.block 4 (.loop F.slices_stableCmpFunc_api_Op.l1))
    (.seq (.seq (.reg F.slices_stableCmpFunc_api_Op.r13)
    (.seq (.reg F.slices_stableCmpFunc_api_Op.r14)
    (.cond (.tmp 54) (.reg F.slices_stableCmpFunc_api_Op.r15) .skip)))
    (.reg F.slices_stableCmpFunc_api_Op.r16))))))
noncomputable def F.slices_stableCmpFunc_api_Op.ic : IC :=
    (.seq (.reg F.slices_stableCmpFunc_api_Op.r0)
    (.seq (.reg F.slices_stableCmpFunc_api_Op.r1)
    (.seq (.block 0 (.loop F.slices_stableCmpFunc_api_Op.l0))
    (.seq (.reg F.slices_stableCmpFunc_api_Op.r6)
    (.block 2 (.loop F.slices_stableCmpFunc_api_Op.l2))))))
noncomputable def F.slices_stableCmpFunc_api_Op.rs : List RO := []
theorem F.slices_stableCmpFunc_api_Op.ok : cFunc Go.Proofs.Tryz.prog F.slices_stableCmpFunc_api_Op = some (63, F.slices_stableCmpFunc_api_Op.ic, F.slices_stableCmpFunc_api_Op.rs) := by kernel_rfl
theorem F.slices_stableCmpFunc_api_Op.cl : callable Go.Proofs.Tryz.prog F.slices_stableCmpFunc_api_Op = true := by kernel_rfl
noncomputable def F.ops_Less.r0 : Plan :=
  .ef 0 none (.box (.tmp 0)) (some 2) [] (
  .ef 1 none (.box (.tmp 1)) (some 3) [] (
  .rd 2 none (.mv (.const (.bool false))) (some 4) false <|
  .done) .none) .none
noncomputable def F.ops_Less.r1 : Plan :=
  .rd 0 none (.fldA 2 (.tmp 2)) (some 5) false <|
  .rd 1 none (.ld1 (.tmp 5)) (some 6) false <|
  .rd 2 none (.fldA 2 (.tmp 3)) (some 7) false <|
  .rd 3 none (.ld1 (.tmp 7)) (some 8) false <|
  .rd 4 none (.bin .neq (.tmp 6) (.tmp 8)) (some 9) false <|
  .done
noncomputable def F.ops_Less.r2 : Plan :=
  .rd 0 none (.fldA 2 (.tmp 2)) (some 10) false <|
  .rd 1 none (.ld1 (.tmp 10)) (some 11) false <|
  .rd 2 none (.fldA 2 (.tmp 3)) (some 12) false <|
  .rd 3 none (.ld1 (.tmp 12)) (some 13) false <|
  .rd 4 none (.bin .lss (.tmp 11) (.tmp 13)) (some 14) false <|
  .rd 5 none (.mv (.tmp 14)) (some 4) false <|
  .done
noncomputable def F.ops_Less.r3 : Plan :=
  .rd 0 none (.fldA 0 (.tmp 2)) (some 15) false <|
  .rd 1 none (.ldn 2 (.tmp 15)) (some 16) false <|
  .rd 2 none (.fldA 0 (.tmp 3)) (some 17) false <|
  .rd 3 none (.ldn 2 (.tmp 17)) (some 18) false <|
  .ef 4 none (.call F.dots_Less [(.tmp 16), (.tmp 18)]) (some 19) [] (
  .rd 5 none (.mv (.tmp 19)) (some 4) false <|
  .done) .none
noncomputable def F.ops_Less.ic : IC :=
    (.seq (.reg F.ops_Less.r0)
    (.seq (.seq (.reg F.ops_Less.r1)
    (.cond (.tmp 9) (.seq (.reg F.ops_Less.r2)
    .ret) .skip))
    (.seq (.reg F.ops_Less.r3)
    .ret)))
noncomputable def F.ops_Less.rs : List RO := [(.mv (.tmp 4))]
theorem F.ops_Less.ok : cFunc Go.Proofs.Tryz.prog F.ops_Less = some (20, F.ops_Less.ic, F.ops_Less.rs) := by kernel_rfl
theorem F.ops_Less.cl : callable Go.Proofs.Tryz.prog F.ops_Less = true := by kernel_rfl
noncomputable def F.dots_compare.r0 : Plan :=
  .ef 0 none (.box (.tmp 0)) (some 2) [] (
  .ef 1 none (.box (.tmp 1)) (some 3) [] (
  .rd 2 none (.mv (.const (.int .i64 0))) (some 4) false <|
  .done) .none) .none
noncomputable def F.dots_compare.r1 : Plan :=
  .rd 0 none (.fldA 0 (.tmp 2)) (some 5) false <|
  .rd 1 none (.ld1 (.tmp 5)) (some 6) false <|
  .rd 2 none (.fldA 0 (.tmp 3)) (some 7) false <|
  .rd 3 none (.ld1 (.tmp 7)) (some 8) false <|
  .rd 5 none (.fldA 1 (.tmp 2)) (some 10) false <|
  .rd 6 none (.ld1 (.tmp 10)) (some 11) true <|
  .rd 7 none (.fldA 1 (.tmp 3)) (some 12) false <|
  .rd 8 none (.ld1 (.tmp 12)) (some 13) true <|
  .ef 4 none (.call F.cmp_Compare_int [(.tmp 6), (.tmp 8)]) (some 9) [5, 6, 7, 8] (
  .ef 9 none (.call F.cmp_Compare_int [(.tmp 11), (.tmp 13)]) (some 14) [] (
  .ef 10 none (.bsl 2 [(.int .i64 0), (.int .i64 0)] [(0, (1, (.tmp 9))), (1, (1, (.tmp 14)))]) (some 15) [] (
  .ef 11 none (.call F.cmp_Or_int [(.tmp 15)]) (some 16) [] (
  .rd 12 none (.mv (.tmp 16)) (some 4) false <|
  .done) .none) .none) .none) .none
noncomputable def F.dots_compare.ic : IC :=
    (.seq (.reg F.dots_compare.r0)
    (.seq (.reg F.dots_compare.r1)
    .ret))
noncomputable def F.dots_compare.rs : List RO := [(.mv (.tmp 4))]
theorem F.dots_compare.ok : cFunc Go.Proofs.Tryz.prog F.dots_compare = some (17, F.dots_compare.ic, F.dots_compare.rs) := by kernel_rfl
theorem F.dots_compare.cl : callable Go.Proofs.Tryz.prog F.dots_compare = true := by kernel_rfl
noncomputable def F.strings_trimLeftByte.r0 : Plan :=
  .rd 0 none (.mv (.const (.string ⟨#[]⟩))) (some 4) false <|
  .done
noncomputable def F.strings_trimLeftByte.r1 : Plan :=
  .rd 0 none (.mv (.tmp 0)) (some 5) false <|
  .rd 1 none (.len .str (.tmp 5)) (some 6) false <|
  .rd 2 none (.bin .gtr (.tmp 6) (.const (.int .i64 0))) (some 7) false <|
  .rd 3 none (.mv (.tmp 7)) (some 8) false <|
  .rd 4 (some (8, true)) (.mv (.tmp 0)) (some 9) false <|
  .rd 5 (some (8, true)) (.idxS (.tmp 9) (.const (.int .i64 0))) (some 10) false <|
  .rd 6 (some (8, true)) (.mv (.tmp 1)) (some 11) false <|
  .rd 7 (some (8, true)) (.bin .eql (.tmp 10) (.tmp 11)) (some 12) false <|
  .rd 8 none (.pick (.tmp 8) (.tmp 12) (.const (.bool false))) (some 13) false <|
  .done
noncomputable def F.strings_trimLeftByte.r2 : Plan :=
  .rd 0 none (.mv (.tmp 0)) (some 14) false <|
  .rd 1 none (.slS (.tmp 14) (some (.const (.int .i64 1))) none) (some 15) false <|
  .rd 2 none (.mv (.tmp 15)) (some 0) false <|
  .done
noncomputable def F.strings_trimLeftByte.l0 : IC :=
    (.seq (.seq (.reg F.strings_trimLeftByte.r1)
    (.cond (.tmp 13) .skip (.exit 0)))
    (.block 1 (.reg F.strings_trimLeftByte.r2)))
noncomputable def F.strings_trimLeftByte.r3 : Plan :=
  .rd 0 none (.mv (.tmp 0)) (some 16) false <|
  .rd 1 none (.mv (.tmp 16)) (some 4) false <|
  .done
noncomputable def F.strings_trimLeftByte.ic : IC :=
    (.seq (.reg F.strings_trimLeftByte.r0)
    (.seq (.block 0 (.loop F.strings_trimLeftByte.l0))
    (.seq (.reg F.strings_trimLeftByte.r3)
    .ret)))
noncomputable def F.strings_trimLeftByte.rs : List RO := [(.mv (.tmp 4))]
theorem F.strings_trimLeftByte.ok : cFunc Go.Proofs.Tryz.prog F.strings_trimLeftByte = some (17, F.strings_trimLeftByte.ic, F.strings_trimLeftByte.rs) := by kernel_rfl
theorem F.strings_trimLeftByte.cl : callable Go.Proofs.Tryz.prog F.strings_trimLeftByte = true := by kernel_rfl
noncomputable def F.strings_trimRightByte.r0 : Plan :=
  .rd 0 none (.mv (.const (.string ⟨#[]⟩))) (some 4) false <|
  .done
noncomputable def F.strings_trimRightByte.r1 : Plan :=
  .rd 0 none (.mv (.tmp 0)) (some 5) false <|
  .rd 1 none (.len .str (.tmp 5)) (some 6) false <|
  .rd 2 none (.bin .gtr (.tmp 6) (.const (.int .i64 0))) (some 7) false <|
  .rd 3 none (.mv (.tmp 7)) (some 8) false <|
  .rd 4 (some (8, true)) (.mv (.tmp 0)) (some 9) false <|
  .rd 5 (some (8, true)) (.mv (.tmp 0)) (some 10) false <|
  .rd 6 (some (8, true)) (.len .str (.tmp 10)) (some 11) false <|
  .rd 7 (some (8, true)) (.bin .sub (.tmp 11) (.const (.int .i64 1))) (some 12) false <|
  .rd 8 (some (8, true)) (.idxS (.tmp 9) (.tmp 12)) (some 13) false <|
  .rd 9 (some (8, true)) (.mv (.tmp 1)) (some 14) false <|
  .rd 10 (some (8, true)) (.bin .eql (.tmp 13) (.tmp 14)) (some 15) false <|
  .rd 11 none (.pick (.tmp 8) (.tmp 15) (.const (.bool false))) (some 16) false <|
  .done
noncomputable def F.strings_trimRightByte.r2 : Plan :=
  .rd 0 none (.mv (.tmp 0)) (some 17) false <|
  .rd 1 none (.mv (.tmp 0)) (some 18) false <|
  .rd 2 none (.len .str (.tmp 18)) (some 19) false <|
  .rd 3 none (.bin .sub (.tmp 19) (.const (.int .i64 1))) (some 20) false <|
  .rd 4 none (.slS (.tmp 17) none (some (.tmp 20))) (some 21) false <|
  .rd 5 none (.mv (.tmp 21)) (some 0) false <|
  .done
noncomputable def F.strings_trimRightByte.l0 : IC :=
    (.seq (.seq (.reg F.strings_trimRightByte.r1)
    (.cond (.tmp 16) .skip (.exit 0)))
    (.block 1 (.reg F.strings_trimRightByte.r2)))
noncomputable def F.strings_trimRightByte.r3 : Plan :=
  .rd 0 none (.mv (.tmp 0)) (some 22) false <|
  .rd 1 none (.mv (.tmp 22)) (some 4) false <|
  .done
noncomputable def F.strings_trimRightByte.ic : IC :=
    (.seq (.reg F.strings_trimRightByte.r0)
    (.seq (.block 0 (.loop F.strings_trimRightByte.l0))
    (.seq (.reg F.strings_trimRightByte.r3)
    .ret)))
noncomputable def F.strings_trimRightByte.rs : List RO := [(.mv (.tmp 4))]
theorem F.strings_trimRightByte.ok : cFunc Go.Proofs.Tryz.prog F.strings_trimRightByte = some (23, F.strings_trimRightByte.ic, F.strings_trimRightByte.rs) := by kernel_rfl
theorem F.strings_trimRightByte.cl : callable Go.Proofs.Tryz.prog F.strings_trimRightByte = true := by kernel_rfl
noncomputable def F.strings_makeASCIISet.r0 : Plan :=
  .ef 0 none (.alloc [(.bool false), (.bool false), (.bool false), (.bool false), (.bool false), (.bool false), (.bool false), (.bool false), (.bool false), (.bool false), (.bool false), (.bool false), (.bool false), (.bool false), (.bool false), (.bool false), (.bool false), (.bool false), (.bool false), (.bool false), (.bool false), (.bool false), (.bool false), (.bool false), (.bool false), (.bool false), (.bool false), (.bool false), (.bool false), (.bool false), (.bool false), (.bool false), (.bool false), (.bool false), (.bool false), (.bool false), (.bool false), (.bool false), (.bool false), (.bool false), (.bool false), (.bool false), (.bool false), (.bool false), (.bool false), (.bool false), (.bool false), (.bool false), (.bool false), (.bool false), (.bool false), (.bool false), (.bool false), (.bool false), (.bool false), (.bool false), (.bool false), (.bool false), (.bool false), (.bool false), (.bool false), (.bool false), (.bool false), (.bool false), (.bool false), (.bool false), (.bool false), (.bool false), (.bool false), (.bool false), (.bool false), (.bool false), (.bool false), (.bool false), (.bool false), (.bool false), (.bool false), (.bool false), (.bool false), (.bool false), (.bool false), (.bool false), (.bool false), (.bool false), (.bool false), (.bool false), (.bool false), (.bool false), (.bool false), (.bool false), (.bool false), (.bool false), (.bool false), (.bool false), (.bool false), (.bool false), (.bool false), (.bool false), (.bool false), (.bool false), (.bool false), (.bool false), (.bool false), (.bool false), (.bool false), (.bool false), (.bool false), (.bool false), (.bool false), (.bool false), (.bool false), (.bool false), (.bool false), (.bool false), (.bool false), (.bool false), (.bool false), (.bool false), (.bool false), (.bool false), (.bool false), (.bool false), (.bool false), (.bool false), (.bool false), (.bool false), (.bool false), (.bool false), (.bool false), (.bool false), (.bool false), (.bool false), (.bool false), (.bool false), (.bool false), (.bool false), (.bool false), (.bool false), (.bool false), (.bool false), (.bool false), (.bool false), (.bool false), (.bool false), (.bool false), (.bool false), (.bool false), (.bool false), (.bool false), (.bool false), (.bool false), (.bool false), (.bool false), (.bool false), (.bool false), (.bool false), (.bool false), (.bool false), (.bool false), (.bool false), (.bool false), (.bool false), (.bool false), (.bool false), (.bool false), (.bool false), (.bool false), (.bool false), (.bool false), (.bool false), (.bool false), (.bool false), (.bool false), (.bool false), (.bool false), (.bool false), (.bool false), (.bool false), (.bool false), (.bool false), (.bool false), (.bool false), (.bool false), (.bool false), (.bool false), (.bool false), (.bool false), (.bool false), (.bool false), (.bool false), (.bool false), (.bool false), (.bool false), (.bool false), (.bool false), (.bool false), (.bool false), (.bool false), (.bool false), (.bool false), (.bool false), (.bool false), (.bool false), (.bool false), (.bool false), (.bool false), (.bool false), (.bool false), (.bool false), (.bool false), (.bool false), (.bool false), (.bool false), (.bool false), (.bool false), (.bool false), (.bool false), (.bool false), (.bool false), (.bool false), (.bool false), (.bool false), (.bool false), (.bool false), (.bool false), (.bool false), (.bool false), (.bool false), (.bool false), (.bool false), (.bool false), (.bool false), (.bool false), (.bool false), (.bool false), (.bool false), (.bool false), (.bool false), (.bool false), (.bool false), (.bool false), (.bool false), (.bool false), (.bool false), (.bool false), (.bool false), (.bool false), (.bool false), (.bool false), (.bool false), (.bool false), (.bool false), (.bool false), (.bool false), (.bool false), (.bool false)]) (some 2) [] (
  .rd 1 none (.mv (.const (.bool false))) (some 3) false <|
  .done) .none
noncomputable def F.strings_makeASCIISet.r1 : Plan :=
  .rd 0 none (.mv (.const (.int .i64 0))) (some 4) false <|
  .done
noncomputable def F.strings_makeASCIISet.r2 : Plan :=
  .rd 0 none (.mv (.tmp 4)) (some 6) false <|
  .rd 1 none (.mv (.tmp 0)) (some 7) false <|
  .rd 2 none (.len .str (.tmp 7)) (some 8) false <|
  .rd 3 none (.bin .lss (.tmp 6) (.tmp 8)) (some 9) false <|
  .done
noncomputable def F.strings_makeASCIISet.r3 : Plan :=
  .rd 0 none (.mv (.tmp 0)) (some 12) false <|
  .rd 1 none (.mv (.tmp 4)) (some 13) false <|
  .rd 2 none (.idxS (.tmp 12) (.tmp 13)) (some 14) false <|
  .rd 3 none (.mv (.tmp 14)) (some 5) false <|
  .done
noncomputable def F.strings_makeASCIISet.r4 : Plan :=
  .rd 0 none (.mv (.tmp 5)) (some 15) false <|
  .rd 1 none (.bin .geq (.tmp 15) (.const (.int .u8 128))) (some 16) false <|
  .done
noncomputable def F.strings_makeASCIISet.r5 : Plan :=
  .rd 0 none (.ldn 256 (.tmp 2)) (some 17) false <|
  .ef 1 none (.st 256 (.tmp 2) (.tmp 17)) none [] (
  .rd 2 none (.mv (.const (.bool false))) (some 3) false <|
  .done) .none
noncomputable def F.strings_makeASCIISet.r6 : Plan :=
  .rd 0 none (.mv (.tmp 5)) (some 18) false <|
  .rd 1 none (.arrA 256 1 (.tmp 2) (.tmp 18)) (some 19) false <|
  .ef 2 none (.st 1 (.tmp 19) (.const (.bool true))) none [] (
  .done) .none
noncomputable def F.strings_makeASCIISet.r7 : Plan :=
  .rd 0 none (.mv (.tmp 4)) (some 10) false <|
  .rd 1 none (.bin .add (.tmp 10) (.const (.int .i64 1))) (some 11) false <|
  .rd 2 none (.mv (.tmp 11)) (some 4) false <|
  .done
noncomputable def F.strings_makeASCIISet.l0 : IC :=
    (.seq (.seq (.reg F.strings_makeASCIISet.r2)
    (.cond (.tmp 9) .skip (.exit 0)))
    (.seq (.block 1 (.seq (.reg F.strings_makeASCIISet.r3)
    (.seq (.seq (.reg F.strings_makeASCIISet.r4)
    (.cond (.tmp 16) (.seq (.reg F.strings_makeASCIISet.r5)
    .ret) .skip))
    (.reg F.strings_makeASCIISet.r6))))
    (.reg F.strings_makeASCIISet.r7)))
noncomputable def F.strings_makeASCIISet.r8 : Plan :=
  .rd 0 none (.ldn 256 (.tmp 2)) (some 20) false <|
  .ef 1 none (.st 256 (.tmp 2) (.tmp 20)) none [] (
  .rd 2 none (.mv (.const (.bool true))) (some 3) false <|
  .done) .none
noncomputable def F.strings_makeASCIISet.ic : IC :=
    (.seq (.reg F.strings_makeASCIISet.r0)
    (.seq (.seq (.reg F.strings_makeASCIISet.r1)
    (.block 0 (.loop F.strings_makeASCIISet.l0)))
    (.seq (.reg F.strings_makeASCIISet.r8)
    .ret)))
noncomputable def F.strings_makeASCIISet.rs : List RO := [(.ldn 256 (.tmp 2)), (.mv (.tmp 3))]
theorem F.strings_makeASCIISet.ok : cFunc Go.Proofs.Tryz.prog F.strings_makeASCIISet = some (21, F.strings_makeASCIISet.ic, F.strings_makeASCIISet.rs) := by kernel_rfl
theorem F.strings_makeASCIISet.cl : callable Go.Proofs.Tryz.prog F.strings_makeASCIISet = true := by kernel_rfl
noncomputable def F.strings_trimLeftASCII.r0 : Plan :=
  .rd 0 none (.mv (.const (.string ⟨#[]⟩))) (some 4) false <|
  .done
noncomputable def F.strings_trimLeftASCII.r1 : Plan :=
  .rd 0 none (.mv (.tmp 0)) (some 5) false <|
  .rd 1 none (.len .str (.tmp 5)) (some 6) false <|
  .rd 2 none (.bin .gtr (.tmp 6) (.const (.int .i64 0))) (some 7) false <|
  .done
noncomputable def F.strings_trimLeftASCII.r2 : Plan :=
  .rd 0 none (.mv (.tmp 1)) (some 8) false <|
  .rd 1 none (.mv (.tmp 0)) (some 9) false <|
  .rd 2 none (.idxS (.tmp 9) (.const (.int .i64 0))) (some 10) false <|
  .ef 3 none (.call F.strings_asciiSet_contains [(.tmp 8), (.tmp 10)]) (some 11) [] (
  .rd 4 none (.un .not (.tmp 11)) (some 12) false <|
  .done) .none
noncomputable def F.strings_trimLeftASCII.r3 : Plan :=
  .rd 0 none (.mv (.tmp 0)) (some 13) false <|
  .rd 1 none (.slS (.tmp 13) (some (.const (.int .i64 1))) none) (some 14) false <|
  .rd 2 none (.mv (.tmp 14)) (some 0) false <|
  .done
noncomputable def F.strings_trimLeftASCII.l0 : IC :=
    (.seq (.seq (.reg F.strings_trimLeftASCII.r1)
    (.cond (.tmp 7) .skip (.exit 0)))
    (.block 1 (.seq (.seq (.reg F.strings_trimLeftASCII.r2)
    (.cond (.tmp 12) (.exit 0) .skip))
    (.reg F.strings_trimLeftASCII.r3))))
noncomputable def F.strings_trimLeftASCII.r4 : Plan :=
  .rd 0 none (.mv (.tmp 0)) (some 15) false <|
  .rd 1 none (.mv (.tmp 15)) (some 4) false <|
  .done
noncomputable def F.strings_trimLeftASCII.ic : IC :=
    (.seq (.reg F.strings_trimLeftASCII.r0)
    (.seq (.block 0 (.loop F.strings_trimLeftASCII.l0))
    (.seq (.reg F.strings_trimLeftASCII.r4)
    .ret)))
noncomputable def F.strings_trimLeftASCII.rs : List RO := [(.mv (.tmp 4))]
theorem F.strings_trimLeftASCII.ok : cFunc Go.Proofs.Tryz.prog F.strings_trimLeftASCII = some (16, F.strings_trimLeftASCII.ic, F.strings_trimLeftASCII.rs) := by kernel_rfl
theorem F.strings_trimLeftASCII.cl : callable Go.Proofs.Tryz.prog F.strings_trimLeftASCII = true := by kernel_rfl
noncomputable def F.strings_trimRightASCII.r0 : Plan :=
  .rd 0 none (.mv (.const (.string ⟨#[]⟩))) (some 4) false <|
  .done
noncomputable def F.strings_trimRightASCII.r1 : Plan :=
  .rd 0 none (.mv (.tmp 0)) (some 5) false <|
  .rd 1 none (.len .str (.tmp 5)) (some 6) false <|
  .rd 2 none (.bin .gtr (.tmp 6) (.const (.int .i64 0))) (some 7) false <|
  .done
noncomputable def F.strings_trimRightASCII.r2 : Plan :=
  .rd 0 none (.mv (.tmp 1)) (some 8) false <|
  .rd 1 none (.mv (.tmp 0)) (some 9) false <|
  .rd 2 none (.mv (.tmp 0)) (some 10) false <|
  .rd 3 none (.len .str (.tmp 10)) (some 11) false <|
  .rd 4 none (.bin .sub (.tmp 11) (.const (.int .i64 1))) (some 12) false <|
  .rd 5 none (.idxS (.tmp 9) (.tmp 12)) (some 13) false <|
  .ef 6 none (.call F.strings_asciiSet_contains [(.tmp 8), (.tmp 13)]) (some 14) [] (
  .rd 7 none (.un .not (.tmp 14)) (some 15) false <|
  .done) .none
noncomputable def F.strings_trimRightASCII.r3 : Plan :=
  .rd 0 none (.mv (.tmp 0)) (some 16) false <|
  .rd 1 none (.mv (.tmp 0)) (some 17) false <|
  .rd 2 none (.len .str (.tmp 17)) (some 18) false <|
  .rd 3 none (.bin .sub (.tmp 18) (.const (.int .i64 1))) (some 19) false <|
  .rd 4 none (.slS (.tmp 16) none (some (.tmp 19))) (some 20) false <|
  .rd 5 none (.mv (.tmp 20)) (some 0) false <|
  .done
noncomputable def F.strings_trimRightASCII.l0 : IC :=
    (.seq (.seq (.reg F.strings_trimRightASCII.r1)
    (.cond (.tmp 7) .skip (.exit 0)))
    (.block 1 (.seq (.seq (.reg F.strings_trimRightASCII.r2)
    (.cond (.tmp 15) (.exit 0) .skip))
    (.reg F.strings_trimRightASCII.r3))))
noncomputable def F.strings_trimRightASCII.r4 : Plan :=
  .rd 0 none (.mv (.tmp 0)) (some 21) false <|
  .rd 1 none (.mv (.tmp 21)) (some 4) false <|
  .done
noncomputable def F.strings_trimRightASCII.ic : IC :=
    (.seq (.reg F.strings_trimRightASCII.r0)
    (.seq (.block 0 (.loop F.strings_trimRightASCII.l0))
    (.seq (.reg F.strings_trimRightASCII.r4)
    .ret)))
noncomputable def F.strings_trimRightASCII.rs : List RO := [(.mv (.tmp 4))]
theorem F.strings_trimRightASCII.ok : cFunc Go.Proofs.Tryz.prog F.strings_trimRightASCII = some (22, F.strings_trimRightASCII.ic, F.strings_trimRightASCII.rs) := by kernel_rfl
theorem F.strings_trimRightASCII.cl : callable Go.Proofs.Tryz.prog F.strings_trimRightASCII = true := by kernel_rfl
noncomputable def F.strings_trimLeftUnicode.r0 : Plan :=
  .rd 0 none (.mv (.const (.string ⟨#[]⟩))) (some 4) false <|
  .done
noncomputable def F.strings_trimLeftUnicode.r1 : Plan :=
  .rd 0 none (.mv (.tmp 0)) (some 7) false <|
  .rd 1 none (.len .str (.tmp 7)) (some 8) false <|
  .rd 2 none (.bin .gtr (.tmp 8) (.const (.int .i64 0))) (some 9) false <|
  .done
noncomputable def F.strings_trimLeftUnicode.r2 : Plan :=
  .rd 0 none (.mv (.tmp 0)) (some 11) false <|
  .ef 1 none (.call F.utf8_DecodeRuneInString [(.tmp 11)]) (some 12) [] (
  .rd 2 none (.mv (.tmp 12)) (some 10) false <|
  .rd 3 none (.ext 0 (.tmp 10)) (some 13) false <|
  .rd 4 none (.ext 1 (.tmp 10)) (some 14) false <|
  .rd 5 none (.mv (.tmp 13)) (some 5) false <|
  .rd 6 none (.mv (.tmp 14)) (some 6) false <|
  .done) .none
noncomputable def F.strings_trimLeftUnicode.r3 : Plan :=
  .rd 0 none (.mv (.tmp 1)) (some 15) false <|
  .rd 1 none (.mv (.tmp 5)) (some 16) false <|
  .ef 2 none (.call F.strings_ContainsRune [(.tmp 15), (.tmp 16)]) (some 17) [] (
  .rd 3 none (.un .not (.tmp 17)) (some 18) false <|
  .done) .none
noncomputable def F.strings_trimLeftUnicode.r4 : Plan :=
  .rd 0 none (.mv (.tmp 0)) (some 19) false <|
  .rd 1 none (.mv (.tmp 6)) (some 20) false <|
  .rd 2 none (.slS (.tmp 19) (some (.tmp 20)) none) (some 21) false <|
  .rd 3 none (.mv (.tmp 21)) (some 0) false <|
  .done
noncomputable def F.strings_trimLeftUnicode.l0 : IC :=
    (.seq (.seq (.reg F.strings_trimLeftUnicode.r1)
    (.cond (.tmp 9) .skip (.exit 0)))
    (.block 1 (.seq (.reg F.strings_trimLeftUnicode.r2)
    (.seq (.seq (.reg F.strings_trimLeftUnicode.r3)
    (.cond (.tmp 18) (.exit 0) .skip))
    (.reg F.strings_trimLeftUnicode.r4)))))
noncomputable def F.strings_trimLeftUnicode.r5 : Plan :=
  .rd 0 none (.mv (.tmp 0)) (some 22) false <|
  .rd 1 none (.mv (.tmp 22)) (some 4) false <|
  .done
noncomputable def F.strings_trimLeftUnicode.ic : IC :=
    (.seq (.reg F.strings_trimLeftUnicode.r0)
    (.seq (.block 0 (.loop F.strings_trimLeftUnicode.l0))
    (.seq (.reg F.strings_trimLeftUnicode.r5)
    .ret)))
noncomputable def F.strings_trimLeftUnicode.rs : List RO := [(.mv (.tmp 4))]
theorem F.strings_trimLeftUnicode.ok : cFunc Go.Proofs.Tryz.prog F.strings_trimLeftUnicode = some (23, F.strings_trimLeftUnicode.ic, F.strings_trimLeftUnicode.rs) := by kernel_rfl
theorem F.strings_trimLeftUnicode.cl : callable Go.Proofs.Tryz.prog F.strings_trimLeftUnicode = true := by kernel_rfl
noncomputable def F.strings_trimRightUnicode.r0 : Plan :=
  .rd 0 none (.mv (.const (.string ⟨#[]⟩))) (some 4) false <|
  .done
noncomputable def F.strings_trimRightUnicode.r1 : Plan :=
  .rd 0 none (.mv (.tmp 0)) (some 7) false <|
  .rd 1 none (.len .str (.tmp 7)) (some 8) false <|
  .rd 2 none (.bin .gtr (.tmp 8) (.const (.int .i64 0))) (some 9) false <|
  .done
noncomputable def F.strings_trimRightUnicode.r2 : Plan :=
  .rd 0 none (.mv (.tmp 0)) (some 10) false <|
  .rd 1 none (.mv (.tmp 0)) (some 11) false <|
  .rd 2 none (.len .str (.tmp 11)) (some 12) false <|
  .rd 3 none (.bin .sub (.tmp 12) (.const (.int .i64 1))) (some 13) false <|
  .rd 4 none (.idxS (.tmp 10) (.tmp 13)) (some 14) false <|
  .rd 5 none (.convI .i32 (.tmp 14)) (some 15) false <|
  .rd 6 none (.mv (.tmp 15)) (some 5) false <|
  .rd 7 none (.mv (.const (.int .i64 1))) (some 6) false <|
  .done
noncomputable def F.strings_trimRightUnicode.r3 : Plan :=
  .rd 0 none (.mv (.tmp 5)) (some 16) false <|
  .rd 1 none (.bin .geq (.tmp 16) (.const (.int .i32 128))) (some 17) false <|
  .done
noncomputable def F.strings_trimRightUnicode.r4 : Plan :=
  .rd 0 none (.mv (.tmp 0)) (some 19) false <|
  .ef 1 none (.call F.utf8_DecodeLastRuneInString [(.tmp 19)]) (some 20) [] (
  .rd 2 none (.mv (.tmp 20)) (some 18) false <|
  .rd 3 none (.ext 0 (.tmp 18)) (some 21) false <|
  .rd 4 none (.ext 1 (.tmp 18)) (some 22) false <|
  .rd 5 none (.mv (.tmp 21)) (some 5) false <|
  .rd 6 none (.mv (.tmp 22)) (some 6) false <|
  .done) .none
noncomputable def F.strings_trimRightUnicode.r5 : Plan :=
  .rd 0 none (.mv (.tmp 1)) (some 23) false <|
  .rd 1 none (.mv (.tmp 5)) (some 24) false <|
  .ef 2 none (.call F.strings_ContainsRune [(.tmp 23), (.tmp 24)]) (some 25) [] (
  .rd 3 none (.un .not (.tmp 25)) (some 26) false <|
  .done) .none
noncomputable def F.strings_trimRightUnicode.r6 : Plan :=
  .rd 0 none (.mv (.tmp 0)) (some 27) false <|
  .rd 1 none (.mv (.tmp 0)) (some 28) false <|
  .rd 2 none (.len .str (.tmp 28)) (some 29) false <|
  .rd 3 none (.mv (.tmp 6)) (some 30) false <|
  .rd 4 none (.bin .sub (.tmp 29) (.tmp 30)) (some 31) false <|
  .rd 5 none (.slS (.tmp 27) none (some (.tmp 31))) (some 32) false <|
  .rd 6 none (.mv (.tmp 32)) (some 0) false <|
  .done
noncomputable def F.strings_trimRightUnicode.l0 : IC :=
    (.seq (.seq (.reg F.strings_trimRightUnicode.r1)
    (.cond (.tmp 9) .skip (.exit 0)))
    (.block 1 (.seq (.reg F.strings_trimRightUnicode.r2)
    (.seq (.seq (.reg F.strings_trimRightUnicode.r3)
    (.cond (.tmp 17) (.reg F.strings_trimRightUnicode.r4) .skip))
    (.seq (.seq (.reg F.strings_trimRightUnicode.r5)
    (.cond (.tmp 26) (.exit 0) .skip))
    (.reg F.strings_trimRightUnicode.r6))))))
noncomputable def F.strings_trimRightUnicode.r7 : Plan :=
  .rd 0 none (.mv (.tmp 0)) (some 33) false <|
  .rd 1 none (.mv (.tmp 33)) (some 4) false <|
  .done
noncomputable def F.strings_trimRightUnicode.ic : IC :=
    (.seq (.reg F.strings_trimRightUnicode.r0)
    (.seq (.block 0 (.loop F.strings_trimRightUnicode.l0))
    (.seq (.reg F.strings_trimRightUnicode.r7)
    .ret)))
noncomputable def F.strings_trimRightUnicode.rs : List RO := [(.mv (.tmp 4))]
theorem F.strings_trimRightUnicode.ok : cFunc Go.Proofs.Tryz.prog F.strings_trimRightUnicode = some (34, F.strings_trimRightUnicode.ic, F.strings_trimRightUnicode.rs) := by kernel_rfl
theorem F.strings_trimRightUnicode.cl : callable Go.Proofs.Tryz.prog F.strings_trimRightUnicode = true := by kernel_rfl
noncomputable def F.slices_insertionSortCmpFunc_api_Op.r0 : Plan :=
  .rd 0 none (.mv (.tmp 1)) (some 10) false <|
  .rd 1 none (.bin .add (.tmp 10) (.const (.int .i64 1))) (some 11) false <|
  .rd 2 none (.mv (.tmp 11)) (some 8) false <|
  .done
noncomputable def F.slices_insertionSortCmpFunc_api_Op.r1 : Plan :=
  .rd 0 none (.mv (.tmp 8)) (some 12) false <|
  .rd 1 none (.mv (.tmp 2)) (some 13) false <|
  .rd 2 none (.bin .lss (.tmp 12) (.tmp 13)) (some 14) false <|
  .done
noncomputable def F.slices_insertionSortCmpFunc_api_Op.r2 : Plan :=
  .rd 0 none (.mv (.tmp 8)) (some 17) false <|
  .rd 1 none (.mv (.tmp 17)) (some 9) false <|
  .done
noncomputable def F.slices_insertionSortCmpFunc_api_Op.r3 : Plan :=
  .rd 0 none (.mv (.tmp 9)) (some 18) false <|
  .rd 1 none (.mv (.tmp 1)) (some 19) false <|
  .rd 2 none (.bin .gtr (.tmp 18) (.tmp 19)) (some 20) false <|
  .rd 3 none (.mv (.tmp 20)) (some 21) false <|
  .rd 4 (some (21, true)) (.mv (.tmp 3)) (some 22) false <|
  .rd 5 (some (21, true)) (.mv (.tmp 0)) (some 23) false <|
  .rd 6 (some (21, true)) (.mv (.tmp 9)) (some 24) false <|
  .rd 7 (some (21, true)) (.idxA 14 (.tmp 23) (.tmp 24)) (some 25) false <|
  .rd 8 (some (21, true)) (.ldn 14 (.tmp 25)) (some 26) false <|
  .rd 9 (some (21, true)) (.mv (.tmp 0)) (some 27) false <|
  .rd 10 (some (21, true)) (.mv (.tmp 9)) (some 28) false <|
  .rd 11 (some (21, true)) (.bin .sub (.tmp 28) (.const (.int .i64 1))) (some 29) false <|
  .rd 12 (some (21, true)) (.idxA 14 (.tmp 27) (.tmp 29)) (some 30) false <|
  .rd 13 (some (21, true)) (.ldn 14 (.tmp 30)) (some 31) false <|
  .ef 14 (some (21, true)) (.callv (.tmp 22) [(.tmp 26), (.tmp 31)]) (some 32) [] (
  .rd 15 (some (21, true)) (.bin .lss (.tmp 32) (.const (.int .i64 0))) (some 33) false <|
  .rd 16 none (.pick (.tmp 21) (.tmp 33) (.const (.bool false))) (some 34) false <|
  .done) .none
noncomputable def F.slices_insertionSortCmpFunc_api_Op.r4 : Plan :=
  .rd 0 none (.mv (.tmp 0)) (some 37) false <|
  .rd 1 none (.mv (.tmp 9)) (some 38) false <|
  .rd 2 none (.mv (.tmp 0)) (some 39) false <|
  .rd 3 none (.mv (.tmp 9)) (some 40) false <|
  .rd 4 none (.bin .sub (.tmp 40) (.const (.int .i64 1))) (some 41) false <|
  .rd 5 none (.mv (.tmp 0)) (some 42) false <|
  .rd 6 none (.mv (.tmp 9)) (some 43) false <|
  .rd 7 none (.bin .sub (.tmp 43) (.const (.int .i64 1))) (some 44) false <|
  .rd 8 none (.idxA 14 (.tmp 42) (.tmp 44)) (some 45) false <|
  .rd 9 none (.ldn 14 (.tmp 45)) (some 46) false <|
  .rd 10 none (.mv (.tmp 0)) (some 47) false <|
  .rd 11 none (.mv (.tmp 9)) (some 48) false <|
  .rd 12 none (.idxA 14 (.tmp 47) (.tmp 48)) (some 49) false <|
  .rd 13 none (.ldn 14 (.tmp 49)) (some 50) false <|
  .rd 14 none (.idxA 14 (.tmp 37) (.tmp 38)) (some 51) false <|
  .ef 15 none (.st 14 (.tmp 51) (.tmp 46)) none [2, 3, 4] (
  .rd 16 none (.idxA 14 (.tmp 39) (.tmp 41)) (some 52) false <|
  .ef 17 none (.st 14 (.tmp 52) (.tmp 50)) none [] (
  .done) .none) .none
noncomputable def F.slices_insertionSortCmpFunc_api_Op.r5 : Plan :=
  .rd 0 none (.mv (.tmp 9)) (some 35) false <|
  .rd 1 none (.bin .sub (.tmp 35) (.const (.int .i64 1))) (some 36) false <|
  .rd 2 none (.mv (.tmp 36)) (some 9) false <|
  .done
noncomputable def F.slices_insertionSortCmpFunc_api_Op.l0 : IC :=
    (.seq (.seq (.reg F.slices_insertionSortCmpFunc_api_Op.r3)
    (.cond (.tmp 34) .skip (.exit 2)))
    (.seq (.block 3 (.reg F.slices_insertionSortCmpFunc_api_Op.r4))
    (.reg F.slices_insertionSortCmpFunc_api_Op.r5)))
noncomputable def F.slices_insertionSortCmpFunc_api_Op.r6 : Plan :=
  .rd 0 none (.mv (.tmp 8)) (some 15) false <|
  .rd 1 none (.bin .add (.tmp 15) (.const (.int .i64 1))) (some 16) false <|
  .rd 2 none (.mv (.tmp 16)) (some 8) false <|
  .done
noncomputable def F.slices_insertionSortCmpFunc_api_Op.l1 : IC :=
    (.seq (.seq (.reg F.slices_insertionSortCmpFunc_api_Op.r1)
    (.cond (.tmp 14) .skip (.exit 0)))
    (.seq (.block 1 (.seq (.reg F.slices_insertionSortCmpFunc_api_Op.r2)
    (.block 2 (.loop F.slices_insertionSortCmpFunc_api_Op.l0))))
    (.reg F.slices_insertionSortCmpFunc_api_Op.r6)))
noncomputable def F.slices_insertionSortCmpFunc_api_Op.ic : IC :=
    (.seq (.reg F.slices_insertionSortCmpFunc_api_Op.r0)
    (.block 0 (.loop F.slices_insertionSortCmpFunc_api_Op.l1)))
noncomputable def F.slices_insertionSortCmpFunc_api_Op.rs : List RO := []
theorem F.slices_insertionSortCmpFunc_api_Op.ok : cFunc Go.Proofs.Tryz.prog F.slices_insertionSortCmpFunc_api_Op = some (53, F.slices_insertionSortCmpFunc_api_Op.ic, F.slices_insertionSortCmpFunc_api_Op.rs) := by kernel_rfl
theorem F.slices_insertionSortCmpFunc_api_Op.cl : callable Go.Proofs.Tryz.prog F.slices_insertionSortCmpFunc_api_Op = true := by kernel_rfl
noncomputable def F.slices_symMergeCmpFunc_api_Op.r0 : Plan :=
  .rd 0 none (.mv (.tmp 2)) (some 25) false <|
  .rd 1 none (.mv (.tmp 1)) (some 26) false <|
  .rd 2 none (.bin .sub (.tmp 25) (.tmp 26)) (some 27) false <|
  .rd 3 none (.bin .eql (.tmp 27) (.const (.int .i64 1))) (some 28) false <|
  .done
noncomputable def F.slices_symMergeCmpFunc_api_Op.r1 : Plan :=
  .rd 0 none (.mv (.tmp 2)) (some 29) false <|
  .rd 1 none (.mv (.tmp 29)) (some 10) false <|
  .done
noncomputable def F.slices_symMergeCmpFunc_api_Op.r2 : Plan :=
  .rd 0 none (.mv (.tmp 3)) (some 30) false <|
  .rd 1 none (.mv (.tmp 30)) (some 11) false <|
  .done
noncomputable def F.slices_symMergeCmpFunc_api_Op.r3 : Plan :=
  .rd 0 none (.mv (.tmp 10)) (some 31) false <|
  .rd 1 none (.mv (.tmp 11)) (some 32) false <|
  .rd 2 none (.bin .lss (.tmp 31) (.tmp 32)) (some 33) false <|
  .done
noncomputable def F.slices_symMergeCmpFunc_api_Op.r4 : Plan :=
  .rd 0 none (.mv (.tmp 10)) (some 34) false <|
  .rd 1 none (.mv (.tmp 11)) (some 35) false <|
  .rd 2 none (.bin .add (.tmp 34) (.tmp 35)) (some 36) false <|
  .rd 3 none (.convI .u64 (.tmp 36)) (some 37) false <|
  .rd 4 none (.bin .shr (.tmp 37) (.const (.int .u64 1))) (some 38) false <|
  .rd 5 none (.convI .i64 (.tmp 38)) (some 39) false <|
  .rd 6 none (.mv (.tmp 39)) (some 12) false <|
  .done
noncomputable def F.slices_symMergeCmpFunc_api_Op.r5 : Plan :=
  .rd 0 none (.mv (.tmp 4)) (some 40) false <|
  .rd 1 none (.mv (.tmp 0)) (some 41) false <|
  .rd 2 none (.mv (.tmp 12)) (some 42) false <|
  .rd 3 none (.idxA 14 (.tmp 41) (.tmp 42)) (some 43) false <|
  .rd 4 none (.ldn 14 (.tmp 43)) (some 44) false <|
  .rd 5 none (.mv (.tmp 0)) (some 45) false <|
  .rd 6 none (.mv (.tmp 1)) (some 46) false <|
  .rd 7 none (.idxA 14 (.tmp 45) (.tmp 46)) (some 47) false <|
  .rd 8 none (.ldn 14 (.tmp 47)) (some 48) false <|
  .ef 9 none (.callv (.tmp 40) [(.tmp 44), (.tmp 48)]) (some 49) [] (
  .rd 10 none (.bin .lss (.tmp 49) (.const (.int .i64 0))) (some 50) false <|
  .done) .none
noncomputable def F.slices_symMergeCmpFunc_api_Op.r6 : Plan :=
  .rd 0 none (.mv (.tmp 12)) (some 51) false <|
  .rd 1 none (.bin .add (.tmp 51) (.const (.int .i64 1))) (some 52) false <|
  .rd 2 none (.mv (.tmp 52)) (some 10) false <|
  .done
noncomputable def F.slices_symMergeCmpFunc_api_Op.r7 : Plan :=
  .rd 0 none (.mv (.tmp 12)) (some 53) false <|
  .rd 1 none (.mv (.tmp 53)) (some 11) false <|
  .done
noncomputable def F.slices_symMergeCmpFunc_api_Op.l0 : IC :=
    (.seq (.seq (.reg F.slices_symMergeCmpFunc_api_Op.r3)
    (.cond (.tmp 33) .skip (.exit 0)))
    (.block 1 (.seq (.reg F.slices_symMergeCmpFunc_api_Op.r4)
    (.seq (.reg F.slices_symMergeCmpFunc_api_Op.r5)
    (.cond (.tmp 50) (.reg F.slices_symMergeCmpFunc_api_Op.r6) (.reg F.slices_symMergeCmpFunc_api_Op.r7))))))
noncomputable def F.slices_symMergeCmpFunc_api_Op.r8 : Plan :=
  .rd 0 none (.mv (.tmp 1)) (some 54) false <|
  .rd 1 none (.mv (.tmp 54)) (some 13) false <|
  .done
noncomputable def F.slices_symMergeCmpFunc_api_Op.r9 : Plan :=
  .rd 0 none (.mv (.tmp 13)) (some 55) false <|
  .rd 1 none (.mv (.tmp 10)) (some 56) false <|
  .rd 2 none (.bin .sub (.tmp 56) (.const (.int .i64 1))) (some 57) false <|
  .rd 3 none (.bin .lss (.tmp 55) (.tmp 57)) (some 58) false <|
  .done
noncomputable def F.slices_symMergeCmpFunc_api_Op.r10 : Plan :=
  .rd 0 none (.mv (.tmp 0)) (some 61) false <|
  .rd 1 none (.mv (.tmp 13)) (some 62) false <|
  .rd 2 none (.mv (.tmp 0)) (some 63) false <|
  .rd 3 none (.mv (.tmp 13)) (some 64) false <|
  .rd 4 none (.bin .add (.tmp 64) (.const (.int .i64 1))) (some 65) false <|
  .rd 5 none (.mv (.tmp 0)) (some 66) false <|
  .rd 6 none (.mv (.tmp 13)) (some 67) false <|
  .rd 7 none (.bin .add (.tmp 67) (.const (.int .i64 1))) (some 68) false <|
  .rd 8 none (.idxA 14 (.tmp 66) (.tmp 68)) (some 69) false <|
  .rd 9 none (.ldn 14 (.tmp 69)) (some 70) false <|
  .rd 10 none (.mv (.tmp 0)) (some 71) false <|
  .rd 11 none (.mv (.tmp 13)) (some 72) false <|
  .rd 12 none (.idxA 14 (.tmp 71) (.tmp 72)) (some 73) false <|
  .rd 13 none (.ldn 14 (.tmp 73)) (some 74) false <|
  .rd 14 none (.idxA 14 (.tmp 61) (.tmp 62)) (some 75) false <|
  .ef 15 none (.st 14 (.tmp 75) (.tmp 70)) none [2, 3, 4] (
  .rd 16 none (.idxA 14 (.tmp 63) (.tmp 65)) (some 76) false <|
  .ef 17 none (.st 14 (.tmp 76) (.tmp 74)) none [] (
  .done) .none) .none
noncomputable def F.slices_symMergeCmpFunc_api_Op.r11 : Plan :=
  .rd 0 none (.mv (.tmp 13)) (some 59) false <|
  .rd 1 none (.bin .add (.tmp 59) (.const (.int .i64 1))) (some 60) false <|
  .rd 2 none (.mv (.tmp 60)) (some 13) false <|
  .done
noncomputable def F.slices_symMergeCmpFunc_api_Op.l1 : IC :=
    (.seq (.seq (.reg F.slices_symMergeCmpFunc_api_Op.r9)
    (.cond (.tmp 58) .skip (.exit 2)))
    (.seq (.block 3 (.reg F.slices_symMergeCmpFunc_api_Op.r10))
    (.reg F.slices_symMergeCmpFunc_api_Op.r11)))
noncomputable def F.slices_symMergeCmpFunc_api_Op.r12 : Plan :=
  .rd 0 none (.mv (.tmp 3)) (some 77) false <|
  .rd 1 none (.mv (.tmp 2)) (some 78) false <|
  .rd 2 none (.bin .sub (.tmp 77) (.tmp 78)) (some 79) false <|
  .rd 3 none (.bin .eql (.tmp 79) (.const (.int .i64 1))) (some 80) false <|
  .done
noncomputable def F.slices_symMergeCmpFunc_api_Op.r13 : Plan :=
  .rd 0 none (.mv (.tmp 1)) (some 81) false <|
  .rd 1 none (.mv (.tmp 81)) (some 14) false <|
  .done
noncomputable def F.slices_symMergeCmpFunc_api_Op.r14 : Plan :=
  .rd 0 none (.mv (.tmp 2)) (some 82) false <|
  .rd 1 none (.mv (.tmp 82)) (some 15) false <|
  .done
noncomputable def F.slices_symMergeCmpFunc_api_Op.r15 : Plan :=
  .rd 0 none (.mv (.tmp 14)) (some 83) false <|
  .rd 1 none (.mv (.tmp 15)) (some 84) false <|
  .rd 2 none (.bin .lss (.tmp 83) (.tmp 84)) (some 85) false <|
  .done
noncomputable def F.slices_symMergeCmpFunc_api_Op.r16 : Plan :=
  .rd 0 none (.mv (.tmp 14)) (some 86) false <|
  .rd 1 none (.mv (.tmp 15)) (some 87) false <|
  .rd 2 none (.bin .add (.tmp 86) (.tmp 87)) (some 88) false <|
  .rd 3 none (.convI .u64 (.tmp 88)) (some 89) false <|
  .rd 4 none (.bin .shr (.tmp 89) (.const (.int .u64 1))) (some 90) false <|
  .rd 5 none (.convI .i64 (.tmp 90)) (some 91) false <|
  .rd 6 none (.mv (.tmp 91)) (some 16) false <|
  .done
noncomputable def F.slices_symMergeCmpFunc_api_Op.r17 : Plan :=
  .rd 0 none (.mv (.tmp 4)) (some 92) false <|
  .rd 1 none (.mv (.tmp 0)) (some 93) false <|
  .rd 2 none (.mv (.tmp 2)) (some 94) false <|
  .rd 3 none (.idxA 14 (.tmp 93) (.tmp 94)) (some 95) false <|
  .rd 4 none (.ldn 14 (.tmp 95)) (some 96) false <|
  .rd 5 none (.mv (.tmp 0)) (some 97) false <|
  .rd 6 none (.mv (.tmp 16)) (some 98) false <|
  .rd 7 none (.idxA 14 (.tmp 97) (.tmp 98)) (some 99) false <|
  .rd 8 none (.ldn 14 (.tmp 99)) (some 100) false <|
  .ef 9 none (.callv (.tmp 92) [(.tmp 96), (.tmp 100)]) (some 101) [] (
  .rd 10 none (.bin .lss (.tmp 101) (.const (.int .i64 0))) (some 102) false <|
  .rd 11 none (.un .not (.tmp 102)) (some 103) false <|
  .done) .none
noncomputable def F.slices_symMergeCmpFunc_api_Op.r18 : Plan :=
  .rd 0 none (.mv (.tmp 16)) (some 104) false <|
  .rd 1 none (.bin .add (.tmp 104) (.const (.int .i64 1))) (some 105) false <|
  .rd 2 none (.mv (.tmp 105)) (some 14) false <|
  .done
noncomputable def F.slices_symMergeCmpFunc_api_Op.r19 : Plan :=
  .rd 0 none (.mv (.tmp 16)) (some 106) false <|
  .rd 1 none (.mv (.tmp 106)) (some 15) false <|
  .done
noncomputable def F.slices_symMergeCmpFunc_api_Op.l2 : IC :=
    (.seq (.seq (.reg F.slices_symMergeCmpFunc_api_Op.r15)
    (.cond (.tmp 85) .skip (.exit 4)))
    (.block 5 (.seq (.reg F.slices_symMergeCmpFunc_api_Op.r16)
    (.seq (.reg F.slices_symMergeCmpFunc_api_Op.r17)
    (.cond (.tmp 103) (.reg F.slices_symMergeCmpFunc_api_Op.r18) (.reg F.slices_symMergeCmpFunc_api_Op.r19))))))
noncomputable def F.slices_symMergeCmpFunc_api_Op.r20 : Plan :=
  .rd 0 none (.mv (.tmp 2)) (some 107) false <|
  .rd 1 none (.mv (.tmp 107)) (some 17) false <|
  .done
noncomputable def F.slices_symMergeCmpFunc_api_Op.r21 : Plan :=
  .rd 0 none (.mv (.tmp 17)) (some 108) false <|
  .rd 1 none (.mv (.tmp 14)) (some 109) false <|
  .rd 2 none (.bin .gtr (.tmp 108) (.tmp 109)) (some 110) false <|
  .done
noncomputable def F.slices_symMergeCmpFunc_api_Op.r22 : Plan :=
  .rd 0 none (.mv (.tmp 0)) (some 113) false <|
  .rd 1 none (.mv (.tmp 17)) (some 114) false <|
  .rd 2 none (.mv (.tmp 0)) (some 115) false <|
  .rd 3 none (.mv (.tmp 17)) (some 116) false <|
  .rd 4 none (.bin .sub (.tmp 116) (.const (.int .i64 1))) (some 117) false <|
  .rd 5 none (.mv (.tmp 0)) (some 118) false <|
  .rd 6 none (.mv (.tmp 17)) (some 119) false <|
  .rd 7 none (.bin .sub (.tmp 119) (.const (.int .i64 1))) (some 120) false <|
  .rd 8 none (.idxA 14 (.tmp 118) (.tmp 120)) (some 121) false <|
  .rd 9 none (.ldn 14 (.tmp 121)) (some 122) false <|
  .rd 10 none (.mv (.tmp 0)) (some 123) false <|
  .rd 11 none (.mv (.tmp 17)) (some 124) false <|
  .rd 12 none (.idxA 14 (.tmp 123) (.tmp 124)) (some 125) false <|
  .rd 13 none (.ldn 14 (.tmp 125)) (some 126) false <|
  .rd 14 none (.idxA 14 (.tmp 113) (.tmp 114)) (some 127) false <|
  .ef 15 none (.st 14 (.tmp 127) (.tmp 122)) none [2, 3, 4] (
  .rd 16 none (.idxA 14 (.tmp 115) (.tmp 117)) (some 128) false <|
  .ef 17 none (.st 14 (.tmp 128) (.tmp 126)) none [] (
  .done) .none) .none
noncomputable def F.slices_symMergeCmpFunc_api_Op.r23 : Plan :=
  .rd 0 none (.mv (.tmp 17)) (some 111) false <|
  .rd 1 none (.bin .sub (.tmp 111) (.const (.int .i64 1))) (some 112) false <|
  .rd 2 none (.mv (.tmp 112)) (some 17) false <|
  .done
noncomputable def F.slices_symMergeCmpFunc_api_Op.l3 : IC :=
    (.seq (.seq (.reg F.slices_symMergeCmpFunc_api_Op.r21)
    (.cond (.tmp 110) .skip (.exit 6)))
    (.seq (.block 7 (.reg F.slices_symMergeCmpFunc_api_Op.r22))
    (.reg F.slices_symMergeCmpFunc_api_Op.r23)))
noncomputable def F.slices_symMergeCmpFunc_api_Op.r24 : Plan :=
  .rd 0 none (.mv (.tmp 1)) (some 129) false <|
  .rd 1 none (.mv (.tmp 3)) (some 130) false <|
  .rd 2 none (.bin .add (.tmp 129) (.tmp 130)) (some 131) false <|
  .rd 3 none (.convI .u64 (.tmp 131)) (some 132) false <|
  .rd 4 none (.bin .shr (.tmp 132) (.const (.int .u64 1))) (some 133) false <|
  .rd 5 none (.convI .i64 (.tmp 133)) (some 134) false <|
  .rd 6 none (.mv (.tmp 134)) (some 18) false <|
  .done
noncomputable def F.slices_symMergeCmpFunc_api_Op.r25 : Plan :=
  .rd 0 none (.mv (.tmp 18)) (some 135) false <|
  .rd 1 none (.mv (.tmp 2)) (some 136) false <|
  .rd 2 none (.bin .add (.tmp 135) (.tmp 136)) (some 137) false <|
  .rd 3 none (.mv (.tmp 137)) (some 19) false <|
  .done
noncomputable def F.slices_symMergeCmpFunc_api_Op.r26 : Plan :=
  .rd 0 none (.mv (.const (.int .i64 0))) (some 20) false <|
  .rd 1 none (.mv (.const (.int .i64 0))) (some 21) false <|
  .done
noncomputable def F.slices_symMergeCmpFunc_api_Op.r27 : Plan :=
  .rd 0 none (.mv (.tmp 2)) (some 138) false <|
  .rd 1 none (.mv (.tmp 18)) (some 139) false <|
  .rd 2 none (.bin .gtr (.tmp 138) (.tmp 139)) (some 140) false <|
  .done
noncomputable def F.slices_symMergeCmpFunc_api_Op.r28 : Plan :=
  .rd 0 none (.mv (.tmp 19)) (some 141) false <|
  .rd 1 none (.mv (.tmp 3)) (some 142) false <|
  .rd 2 none (.bin .sub (.tmp 141) (.tmp 142)) (some 143) false <|
  .rd 3 none (.mv (.tmp 143)) (some 20) false <|
  .done
noncomputable def F.slices_symMergeCmpFunc_api_Op.r29 : Plan :=
  .rd 0 none (.mv (.tmp 18)) (some 144) false <|
  .rd 1 none (.mv (.tmp 144)) (some 21) false <|
  .done
noncomputable def F.slices_symMergeCmpFunc_api_Op.r30 : Plan :=
  .rd 0 none (.mv (.tmp 1)) (some 145) false <|
  .rd 1 none (.mv (.tmp 145)) (some 20) false <|
  .done
noncomputable def F.slices_symMergeCmpFunc_api_Op.r31 : Plan :=
  .rd 0 none (.mv (.tmp 2)) (some 146) false <|
  .rd 1 none (.mv (.tmp 146)) (some 21) false <|
  .done
noncomputable def F.slices_symMergeCmpFunc_api_Op.r32 : Plan :=
  .rd 0 none (.mv (.tmp 19)) (some 147) false <|
  .rd 1 none (.bin .sub (.tmp 147) (.const (.int .i64 1))) (some 148) false <|
  .rd 2 none (.mv (.tmp 148)) (some 22) false <|
  .done
noncomputable def F.slices_symMergeCmpFunc_api_Op.r33 : Plan :=
  .rd 0 none (.mv (.tmp 20)) (some 149) false <|
  .rd 1 none (.mv (.tmp 21)) (some 150) false <|
  .rd 2 none (.bin .lss (.tmp 149) (.tmp 150)) (some 151) false <|
  .done
noncomputable def F.slices_symMergeCmpFunc_api_Op.r34 : Plan :=
  .rd 0 none (.mv (.tmp 20)) (some 152) false <|
  .rd 1 none (.mv (.tmp 21)) (some 153) false <|
  .rd 2 none (.bin .add (.tmp 152) (.tmp 153)) (some 154) false <|
  .rd 3 none (.convI .u64 (.tmp 154)) (some 155) false <|
  .rd 4 none (.bin .shr (.tmp 155) (.const (.int .u64 1))) (some 156) false <|
  .rd 5 none (.convI .i64 (.tmp 156)) (some 157) false <|
  .rd 6 none (.mv (.tmp 157)) (some 23) false <|
  .done
noncomputable def F.slices_symMergeCmpFunc_api_Op.r35 : Plan :=
  .rd 0 none (.mv (.tmp 4)) (some 158) false <|
  .rd 1 none (.mv (.tmp 0)) (some 159) false <|
  .rd 2 none (.mv (.tmp 22)) (some 160) false <|
  .rd 3 none (.mv (.tmp 23)) (some 161) false <|
  .rd 4 none (.bin .sub (.tmp 160) (.tmp 161)) (some 162) false <|
  .rd 5 none (.idxA 14 (.tmp 159) (.tmp 162)) (some 163) false <|
  .rd 6 none (.ldn 14 (.tmp 163)) (some 164) false <|
  .rd 7 none (.mv (.tmp 0)) (some 165) false <|
  .rd 8 none (.mv (.tmp 23)) (some 166) false <|
  .rd 9 none (.idxA 14 (.tmp 165) (.tmp 166)) (some 167) false <|
  .rd 10 none (.ldn 14 (.tmp 167)) (some 168) false <|
  .ef 11 none (.callv (.tmp 158) [(.tmp 164), (.tmp 168)]) (some 169) [] (
  .rd 12 none (.bin .lss (.tmp 169) (.const (.int .i64 0))) (some 170) false <|
  .rd 13 none (.un .not (.tmp 170)) (some 171) false <|
  .done) .none
noncomputable def F.slices_symMergeCmpFunc_api_Op.r36 : Plan :=
  .rd 0 none (.mv (.tmp 23)) (some 172) false <|
  .rd 1 none (.bin .add (.tmp 172) (.const (.int .i64 1))) (some 173) false <|
  .rd 2 none (.mv (.tmp 173)) (some 20) false <|
  .done
noncomputable def F.slices_symMergeCmpFunc_api_Op.r37 : Plan :=
  .rd 0 none (.mv (.tmp 23)) (some 174) false <|
  .rd 1 none (.mv (.tmp 174)) (some 21) false <|
  .done
noncomputable def F.slices_symMergeCmpFunc_api_Op.l4 : IC :=
    (.seq (.seq (.reg F.slices_symMergeCmpFunc_api_Op.r33)
    (.cond (.tmp 151) .skip (.exit 8)))
    (.block 9 (.seq (.reg F.slices_symMergeCmpFunc_api_Op.r34)
    (.seq (.reg F.slices_symMergeCmpFunc_api_Op.r35)
    (.cond (.tmp 171) (.reg F.slices_symMergeCmpFunc_api_Op.r36) (.reg F.slices_symMergeCmpFunc_api_Op.r37))))))
noncomputable def F.slices_symMergeCmpFunc_api_Op.r38 : Plan :=
  .rd 0 none (.mv (.tmp 19)) (some 175) false <|
  .rd 1 none (.mv (.tmp 20)) (some 176) false <|
  .rd 2 none (.bin .sub (.tmp 175) (.tmp 176)) (some 177) false <|
  .rd 3 none (.mv (.tmp 177)) (some 24) false <|
  .done
noncomputable def F.slices_symMergeCmpFunc_api_Op.r39 : Plan :=
  .rd 0 none (.mv (.tmp 20)) (some 178) false <|
  .rd 1 none (.mv (.tmp 2)) (some 179) false <|
  .rd 2 none (.bin .lss (.tmp 178) (.tmp 179)) (some 180) false <|
  .rd 3 none (.mv (.tmp 180)) (some 181) false <|
  .rd 4 (some (181, true)) (.mv (.tmp 2)) (some 182) false <|
  .rd 5 (some (181, true)) (.mv (.tmp 24)) (some 183) false <|
  .rd 6 (some (181, true)) (.bin .lss (.tmp 182) (.tmp 183)) (some 184) false <|
  .rd 7 none (.pick (.tmp 181) (.tmp 184) (.const (.bool false))) (some 185) false <|
  .done
noncomputable def F.slices_symMergeCmpFunc_api_Op.r40 : Plan :=
  .rd 0 none (.mv (.tmp 0)) (some 186) false <|
  .rd 1 none (.mv (.tmp 20)) (some 187) false <|
  .rd 2 none (.mv (.tmp 2)) (some 188) false <|
  .rd 3 none (.mv (.tmp 24)) (some 189) false <|
  .rd 4 none (.mv (.tmp 4)) (some 190) false <|
  .ef 5 none (.call F.slices_rotateCmpFunc_api_Op [(.tmp 186), (.tmp 187), (.tmp 188), (.tmp 189), (.tmp 190)]) (some 191) [] (
  .done) .none
noncomputable def F.slices_symMergeCmpFunc_api_Op.r41 : Plan :=
  .rd 0 none (.mv (.tmp 1)) (some 192) false <|
  .rd 1 none (.mv (.tmp 20)) (some 193) false <|
  .rd 2 none (.bin .lss (.tmp 192) (.tmp 193)) (some 194) false <|
  .rd 3 none (.mv (.tmp 194)) (some 195) false <|
  .rd 4 (some (195, true)) (.mv (.tmp 20)) (some 196) false <|
  .rd 5 (some (195, true)) (.mv (.tmp 18)) (some 197) false <|
  .rd 6 (some (195, true)) (.bin .lss (.tmp 196) (.tmp 197)) (some 198) false <|
  .rd 7 none (.pick (.tmp 195) (.tmp 198) (.const (.bool false))) (some 199) false <|
  .done
noncomputable def F.slices_symMergeCmpFunc_api_Op.r42 : Plan :=
  .rd 0 none (.mv (.tmp 0)) (some 200) false <|
  .rd 1 none (.mv (.tmp 1)) (some 201) false <|
  .rd 2 none (.mv (.tmp 20)) (some 202) false <|
  .rd 3 none (.mv (.tmp 18)) (some 203) false <|
  .rd 4 none (.mv (.tmp 4)) (some 204) false <|
  .ef 5 none (.call F.slices_symMergeCmpFunc_api_Op [(.tmp 200), (.tmp 201), (.tmp 202), (.tmp 203), (.tmp 204)]) (some 205) [] (
  .done) .none
noncomputable def F.slices_symMergeCmpFunc_api_Op.r43 : Plan :=
  .rd 0 none (.mv (.tmp 18)) (some 206) false <|
  .rd 1 none (.mv (.tmp 24)) (some 207) false <|
  .rd 2 none (.bin .lss (.tmp 206) (.tmp 207)) (some 208) false <|
  .rd 3 none (.mv (.tmp 208)) (some 209) false <|
  .rd 4 (some (209, true)) (.mv (.tmp 24)) (some 210) false <|
  .rd 5 (some (209, true)) (.mv (.tmp 3)) (some 211) false <|
  .rd 6 (some (209, true)) (.bin .lss (.tmp 210) (.tmp 211)) (some 212) false <|
  .rd 7 none (.pick (.tmp 209) (.tmp 212) (.const (.bool false))) (some 213) false <|
  .done
noncomputable def F.slices_symMergeCmpFunc_api_Op.r44 : Plan :=
  .rd 0 none (.mv (.tmp 0)) (some 214) false <|
  .rd 1 none (.mv (.tmp 18)) (some 215) false <|
  .rd 2 none (.mv (.tmp 24)) (some 216) false <|
  .rd 3 none (.mv (.tmp 3)) (some 217) false <|
  .rd 4 none (.mv (.tmp 4)) (some 218) false <|
  .ef 5 none (.call F.slices_symMergeCmpFunc_api_Op [(.tmp 214), (.tmp 215), (.tmp 216), (.tmp 217), (.tmp 218)]) (some 219) [] (
  .done) .none
noncomputable def F.slices_symMergeCmpFunc_api_Op.ic : IC :=
    (.seq (.seq (.reg F.slices_symMergeCmpFunc_api_Op.r0)
    (.cond (.tmp 28) (.seq (.reg F.slices_symMergeCmpFunc_api_Op.r1)
    (.seq (.reg F.slices_symMergeCmpFunc_api_Op.r2)
    (.seq (.block 0 (.loop F.slices_symMergeCmpFunc_api_Op.l0))
    (.seq (.seq (.reg F.slices_symMergeCmpFunc_api_Op.r8)
    (.block 2 (.loop F.slices_symMergeCmpFunc_api_Op.l1)))
    .ret)))) .skip))
    (.seq (.seq (.reg F.slices_symMergeCmpFunc_api_Op.r12)
    (.cond (.tmp 80) (.seq (.reg F.slices_symMergeCmpFunc_api_Op.r13)
    (.seq (.reg F.slices_symMergeCmpFunc_api_Op.r14)
    (.seq (.block 4 (.loop F.slices_symMergeCmpFunc_api_Op.l2))
    (.seq (.seq (.reg F.slices_symMergeCmpFunc_api_Op.r20)
    (.block 6 (.loop F.slices_symMergeCmpFunc_api_Op.l3)))
    .ret)))) .skip))
    (.seq (.reg F.slices_symMergeCmpFunc_api_Op.r24)
    (.seq (.reg F.slices_symMergeCmpFunc_api_Op.r25)
    (.seq (.reg F.slices_symMergeCmpFunc_api_Op.r26)
    (.seq (.seq (.reg F.slices_symMergeCmpFunc_api_Op.r27)
    (.cond (.tmp 140) (.seq (.reg F.slices_symMergeCmpFunc_api_Op.r28)
    (.reg F.slices_symMergeCmpFunc_api_Op.r29)) (.seq (.reg F.slices_symMergeCmpFunc_api_Op.r30)
    (.reg F.slices_symMergeCmpFunc_api_Op.r31))))
    (.seq (.reg F.slices_symMergeCmpFunc_api_Op.r32)
    (.seq (.block 8 (.loop F.slices_symMergeCmpFunc_api_Op.l4))
    (.seq (.reg F.slices_symMergeCmpFunc_api_Op.r38)
    (.seq (.seq (.reg F.slices_symMergeCmpFunc_api_Op.r39)
    (.cond (.tmp 185) (.reg F.slices_symMergeCmpFunc_api_Op.r40) .skip))
    (.seq (.seq (.reg F.slices_symMergeCmpFunc_api_Op.r41)
    (.cond (.tmp 199) (.reg F.slices_symMergeCmpFunc_api_Op.r42) .skip))
    (.seq (.reg F.slices_symMergeCmpFunc_api_Op.r43)
    (.cond (.tmp 213) (.reg F.slices_symMergeCmpFunc_api_Op.r44) .skip)))))))))))))
noncomputable def F.slices_symMergeCmpFunc_api_Op.rs : List RO := []
theorem F.slices_symMergeCmpFunc_api_Op.ok : cFunc Go.Proofs.Tryz.prog F.slices_symMergeCmpFunc_api_Op = some (220, F.slices_symMergeCmpFunc_api_Op.ic, F.slices_symMergeCmpFunc_api_Op.rs) := by kernel_rfl
theorem F.slices_symMergeCmpFunc_api_Op.cl : callable Go.Proofs.Tryz.prog F.slices_symMergeCmpFunc_api_Op = true := by kernel_rfl
noncomputable def F.dots_Less.r0 : Plan :=
  .ef 0 none (.box (.tmp 0)) (some 2) [] (
  .ef 1 none (.box (.tmp 1)) (some 3) [] (
  .rd 2 none (.mv (.const (.bool false))) (some 4) false <|
  .done) .none) .none
noncomputable def F.dots_Less.r1 : Plan :=
  .rd 0 none (.ldn 2 (.tmp 2)) (some 5) false <|
  .rd 1 none (.ldn 2 (.tmp 3)) (some 6) false <|
  .rd 2 none (.eqS [(.i .i64), (.i .i64)] true true (.tmp 5) (.tmp 6)) (some 7) false <|
  .rd 3 none (.mv (.tmp 7)) (some 8) false <|
  .rd 4 (some (8, true)) (.ldn 2 (.tmp 2)) (some 9) false <|
  .rd 5 (some (8, true)) (.ldn 2 (.tmp 3)) (some 10) false <|
  .ef 6 (some (8, true)) (.call F.dots_compare [(.tmp 9), (.tmp 10)]) (some 11) [] (
  .rd 7 (some (8, true)) (.bin .lss (.tmp 11) (.const (.int .i64 0))) (some 12) false <|
  .rd 8 none (.pick (.tmp 8) (.tmp 12) (.const (.bool false))) (some 13) false <|
  .rd 9 none (.mv (.tmp 13)) (some 4) false <|
  .done) .none
noncomputable def F.dots_Less.ic : IC :=
    (.seq (.reg F.dots_Less.r0)
    (.seq (.reg F.dots_Less.r1)
    .ret))
noncomputable def F.dots_Less.rs : List RO := [(.mv (.tmp 4))]
theorem F.dots_Less.ok : cFunc Go.Proofs.Tryz.prog F.dots_Less = some (14, F.dots_Less.ic, F.dots_Less.rs) := by kernel_rfl
theorem F.dots_Less.cl : callable Go.Proofs.Tryz.prog F.dots_Less = true := by kernel_rfl
noncomputable def F.cmp_Or_int.r0 : Plan :=
  .rd 0 none (.mv (.const (.int .i64 0))) (some 2) false <|
  .done
noncomputable def F.cmp_Or_int.r1 : Plan :=
  .rd 0 none (.mv (.const (.int .i64 0))) (some 3) false <|
  .done
noncomputable def F.cmp_Or_int.r2 : Plan :=
  .rd 0 none (.mv (.tmp 0)) (some 6) false <|
  .rd 1 none (.len .sl (.tmp 6)) (some 7) false <|
  .rd 2 none (.mv (.const (.int .i64 0))) (some 8) false <|
  .done
noncomputable def F.cmp_Or_int.r3 : Plan :=
  .rd 0 none (.bin .lss (.tmp 8) (.tmp 7)) (some 9) false <|
  .done
noncomputable def F.cmp_Or_int.r4 : Plan :=
  .rd 0 none (.idxA 1 (.tmp 6) (.tmp 8)) (some 10) false <|
  .rd 1 none (.ld1 (.tmp 10)) (some 11) false <|
  .rd 2 none (.mv (.tmp 11)) (some 5) false <|
  .done
noncomputable def F.cmp_Or_int.r5 : Plan :=
  .rd 0 none (.mv (.tmp 5)) (some 12) false <|
  .rd 1 none (.mv (.tmp 3)) (some 13) false <|
  .rd 2 none (.bin .neq (.tmp 12) (.tmp 13)) (some 14) false <|
  .done
noncomputable def F.cmp_Or_int.r6 : Plan :=
  .rd 0 none (.mv (.tmp 5)) (some 15) false <|
  .rd 1 none (.mv (.tmp 15)) (some 2) false <|
  .done
noncomputable def F.cmp_Or_int.r7 : Plan :=
  .rd 0 none (.bin .add (.tmp 8) (.const (.int .i64 1))) (some 16) false <|
  .rd 1 none (.mv (.tmp 16)) (some 8) false <|
  .done
noncomputable def F.cmp_Or_int.l0 : IC :=
    (.seq (.reg F.cmp_Or_int.r3)
    (.seq (.cond (.tmp 9) .skip (.exit 0))
    (.seq (.block 1 (.seq (.reg F.cmp_Or_int.r4)
    (.seq (.reg F.cmp_Or_int.r5)
    (.cond (.tmp 14) (.seq (.reg F.cmp_Or_int.r6)
    .ret) .skip))))
    (.reg F.cmp_Or_int.r7))))
noncomputable def F.cmp_Or_int.r8 : Plan :=
  .rd 0 none (.mv (.tmp 3)) (some 17) false <|
  .rd 1 none (.mv (.tmp 17)) (some 2) false <|
  .done
noncomputable def F.cmp_Or_int.ic : IC :=
    (.seq (.reg F.cmp_Or_int.r0)
    (.seq (.reg F.cmp_Or_int.r1)
    (.seq (.seq (.reg F.cmp_Or_int.r2)
    (.block 0 (.loop F.cmp_Or_int.l0)))
    (.seq (.reg F.cmp_Or_int.r8)
    .ret))))
noncomputable def F.cmp_Or_int.rs : List RO := [(.mv (.tmp 2))]
theorem F.cmp_Or_int.ok : cFunc Go.Proofs.Tryz.prog F.cmp_Or_int = some (18, F.cmp_Or_int.ic, F.cmp_Or_int.rs) := by kernel_rfl
theorem F.cmp_Or_int.cl : callable Go.Proofs.Tryz.prog F.cmp_Or_int = true := by kernel_rfl
noncomputable def F.cmp_Compare_int.r0 : Plan :=
  .rd 0 none (.mv (.const (.int .i64 0))) (some 4) false <|
  .done
noncomputable def F.cmp_Compare_int.r1 : Plan :=
  .rd 0 none (.mv (.tmp 0)) (some 7) false <|
  .ef 1 none (.call F.cmp_isNaN_int [(.tmp 7)]) (some 8) [] (
  .rd 2 none (.mv (.tmp 8)) (some 5) false <|
  .done) .none
noncomputable def F.cmp_Compare_int.r2 : Plan :=
  .rd 0 none (.mv (.tmp 1)) (some 9) false <|
  .ef 1 none (.call F.cmp_isNaN_int [(.tmp 9)]) (some 10) [] (
  .rd 2 none (.mv (.tmp 10)) (some 6) false <|
  .done) .none
noncomputable def F.cmp_Compare_int.r3 : Plan :=
  .rd 0 none (.mv (.tmp 5)) (some 11) false <|
  .done
noncomputable def F.cmp_Compare_int.r4 : Plan :=
  .rd 0 none (.mv (.tmp 6)) (some 12) false <|
  .done
noncomputable def F.cmp_Compare_int.r5 : Plan :=
  .rd 0 none (.mv (.const (.int .i64 0))) (some 4) false <|
  .done
noncomputable def F.cmp_Compare_int.r6 : Plan :=
  .rd 0 none (.mv (.const (.int .i64 (-1)))) (some 4) false <|
  .done
noncomputable def F.cmp_Compare_int.r7 : Plan :=
  .rd 0 none (.mv (.tmp 6)) (some 13) false <|
  .done
noncomputable def F.cmp_Compare_int.r8 : Plan :=
  .rd 0 none (.mv (.const (.int .i64 1))) (some 4) false <|
  .done
noncomputable def F.cmp_Compare_int.r9 : Plan :=
  .rd 0 none (.mv (.tmp 0)) (some 14) false <|
  .rd 1 none (.mv (.tmp 1)) (some 15) false <|
  .rd 2 none (.bin .lss (.tmp 14) (.tmp 15)) (some 16) false <|
  .done
noncomputable def F.cmp_Compare_int.r10 : Plan :=
  .rd 0 none (.mv (.const (.int .i64 (-1)))) (some 4) false <|
  .done
noncomputable def F.cmp_Compare_int.r11 : Plan :=
  .rd 0 none (.mv (.tmp 0)) (some 17) false <|
  .rd 1 none (.mv (.tmp 1)) (some 18) false <|
  .rd 2 none (.bin .gtr (.tmp 17) (.tmp 18)) (some 19) false <|
  .done
noncomputable def F.cmp_Compare_int.r12 : Plan :=
  .rd 0 none (.mv (.const (.int .i64 1))) (some 4) false <|
  .done
noncomputable def F.cmp_Compare_int.r13 : Plan :=
  .rd 0 none (.mv (.const (.int .i64 0))) (some 4) false <|
  .done
noncomputable def F.cmp_Compare_int.ic : IC :=
    (.seq (.reg F.cmp_Compare_int.r0)
    (.seq (.reg F.cmp_Compare_int.r1)
    (.seq (.reg F.cmp_Compare_int.r2)
    (.seq (.seq (.reg F.cmp_Compare_int.r3)
    (.cond (.tmp 11) (.seq (.seq (.reg F.cmp_Compare_int.r4)
    (.cond (.tmp 12) (.seq (.reg F.cmp_Compare_int.r5)
    .ret) .skip))
    (.seq (.reg F.cmp_Compare_int.r6)
    .ret)) .skip))
    (.seq (.seq (.reg F.cmp_Compare_int.r7)
    (.cond (.tmp 13) (.seq (.reg F.cmp_Compare_int.r8)
    .ret) .skip))
    (.seq (.seq (.reg F.cmp_Compare_int.r9)
    (.cond (.tmp 16) (.seq (.reg F.cmp_Compare_int.r10)
    .ret) .skip))
    (.seq (.seq (.reg F.cmp_Compare_int.r11)
    (.cond (.tmp 19) (.seq (.reg F.cmp_Compare_int.r12)
    .ret) .skip))
    (.seq (.reg F.cmp_Compare_int.r13)
    .ret))))))))
noncomputable def F.cmp_Compare_int.rs : List RO := [(.mv (.tmp 4))]
theorem F.cmp_Compare_int.ok : cFunc Go.Proofs.Tryz.prog F.cmp_Compare_int = some (20, F.cmp_Compare_int.ic, F.cmp_Compare_int.rs) := by kernel_rfl
theorem F.cmp_Compare_int.cl : callable Go.Proofs.Tryz.prog F.cmp_Compare_int = true := by kernel_rfl
noncomputable def F.strings_asciiSet_contains.r0 : Plan :=
  .rd 0 none (.mv (.const (.bool false))) (some 4) false <|
  .done
noncomputable def F.strings_asciiSet_contains.r1 : Plan :=
  .rd 0 none (.mv (.tmp 0)) (some 5) false <|
  .rd 1 none (.mv (.tmp 1)) (some 6) false <|
  .rd 2 none (.nilC (.tmp 5)) (some 7) false <|
  .rd 3 none (.arrA 256 1 (.tmp 7) (.tmp 6)) (some 8) false <|
  .rd 4 none (.ld1 (.tmp 8)) (some 9) false <|
  .rd 5 none (.mv (.tmp 9)) (some 4) false <|
  .done
noncomputable def F.strings_asciiSet_contains.ic : IC :=
    (.seq (.reg F.strings_asciiSet_contains.r0)
    (.seq (.reg F.strings_asciiSet_contains.r1)
    .ret))
noncomputable def F.strings_asciiSet_contains.rs : List RO := [(.mv (.tmp 4))]
theorem F.strings_asciiSet_contains.ok : cFunc Go.Proofs.Tryz.prog F.strings_asciiSet_contains = some (10, F.strings_asciiSet_contains.ic, F.strings_asciiSet_contains.rs) := by kernel_rfl
theorem F.strings_asciiSet_contains.cl : callable Go.Proofs.Tryz.prog F.strings_asciiSet_contains = true := by kernel_rfl
noncomputable def F.utf8_DecodeRuneInString.r0 : Plan :=
  .rd 0 none (.mv (.const (.int .i32 0))) (some 2) false <|
  .rd 1 none (.mv (.const (.int .i64 0))) (some 3) false <|
  .done
noncomputable def F.utf8_DecodeRuneInString.r1 : Plan :=
  .rd 0 none (.mv (.tmp 0)) (some 4) false <|
  .rd 1 none (.bin .neq (.tmp 4) (.const (.string ⟨#[]⟩))) (some 5) false <|
  .rd 2 none (.mv (.tmp 5)) (some 6) false <|
  .rd 3 (some (6, true)) (.mv (.tmp 0)) (some 7) false <|
  .rd 4 (some (6, true)) (.idxS (.tmp 7) (.const (.int .i64 0))) (some 8) false <|
  .rd 5 (some (6, true)) (.bin .lss (.tmp 8) (.const (.int .u8 128))) (some 9) false <|
  .rd 6 none (.pick (.tmp 6) (.tmp 9) (.const (.bool false))) (some 10) false <|
  .done
noncomputable def F.utf8_DecodeRuneInString.r2 : Plan :=
  .rd 0 none (.mv (.tmp 0)) (some 11) false <|
  .rd 1 none (.idxS (.tmp 11) (.const (.int .i64 0))) (some 12) false <|
  .rd 2 none (.convI .i32 (.tmp 12)) (some 13) false <|
  .rd 3 none (.mv (.tmp 13)) (some 2) false <|
  .rd 4 none (.mv (.const (.int .i64 1))) (some 3) false <|
  .done
noncomputable def F.utf8_DecodeRuneInString.r3 : Plan :=
  .rd 0 none (.mv (.tmp 0)) (some 15) false <|
  .ef 1 none (.call F.utf8_decodeRuneInStringSlow [(.tmp 15)]) (some 16) [] (
  .rd 2 none (.mv (.tmp 16)) (some 14) false <|
  .rd 3 none (.ext 0 (.tmp 14)) (some 17) false <|
  .rd 4 none (.ext 1 (.tmp 14)) (some 18) false <|
  .rd 5 none (.mv (.tmp 17)) (some 2) false <|
  .rd 6 none (.mv (.tmp 18)) (some 3) false <|
  .done) .none
noncomputable def F.utf8_DecodeRuneInString.ic : IC :=
    (.seq (.reg F.utf8_DecodeRuneInString.r0)
    (.seq (.seq (.reg F.utf8_DecodeRuneInString.r1)
    (.cond (.tmp 10) (.seq (.reg F.utf8_DecodeRuneInString.r2)
    .ret) (.reg F.utf8_DecodeRuneInString.r3)))
    .ret))
noncomputable def F.utf8_DecodeRuneInString.rs : List RO := [(.mv (.tmp 2)), (.mv (.tmp 3))]
theorem F.utf8_DecodeRuneInString.ok : cFunc Go.Proofs.Tryz.prog F.utf8_DecodeRuneInString = some (19, F.utf8_DecodeRuneInString.ic, F.utf8_DecodeRuneInString.rs) := by kernel_rfl
theorem F.utf8_DecodeRuneInString.cl : callable Go.Proofs.Tryz.prog F.utf8_DecodeRuneInString = true := by kernel_rfl
noncomputable def F.strings_ContainsRune.r0 : Plan :=
  .rd 0 none (.mv (.const (.bool false))) (some 4) false <|
  .done
noncomputable def F.strings_ContainsRune.r1 : Plan :=
  .rd 0 none (.mv (.tmp 0)) (some 5) false <|
  .rd 1 none (.mv (.tmp 1)) (some 6) false <|
  .ef 2 none (.call F.strings_IndexRune [(.tmp 5), (.tmp 6)]) (some 7) [] (
  .rd 3 none (.bin .geq (.tmp 7) (.const (.int .i64 0))) (some 8) false <|
  .rd 4 none (.mv (.tmp 8)) (some 4) false <|
  .done) .none
noncomputable def F.strings_ContainsRune.ic : IC :=
    (.seq (.reg F.strings_ContainsRune.r0)
    (.seq (.reg F.strings_ContainsRune.r1)
    .ret))
noncomputable def F.strings_ContainsRune.rs : List RO := [(.mv (.tmp 4))]
theorem F.strings_ContainsRune.ok : cFunc Go.Proofs.Tryz.prog F.strings_ContainsRune = some (9, F.strings_ContainsRune.ic, F.strings_ContainsRune.rs) := by kernel_rfl
theorem F.strings_ContainsRune.cl : callable Go.Proofs.Tryz.prog F.strings_ContainsRune = true := by kernel_rfl
noncomputable def F.utf8_DecodeLastRuneInString.r0 : Plan :=
  .rd 0 none (.mv (.const (.int .i32 0))) (some 2) false <|
  .rd 1 none (.mv (.const (.int .i64 0))) (some 3) false <|
  .done
noncomputable def F.utf8_DecodeLastRuneInString.r1 : Plan :=
  .rd 0 none (.mv (.tmp 0)) (some 7) false <|
  .rd 1 none (.len .str (.tmp 7)) (some 8) false <|
  .rd 2 none (.mv (.tmp 8)) (some 4) false <|
  .done
noncomputable def F.utf8_DecodeLastRuneInString.r2 : Plan :=
  .rd 0 none (.mv (.tmp 4)) (some 9) false <|
  .rd 1 none (.bin .eql (.tmp 9) (.const (.int .i64 0))) (some 10) false <|
  .done
noncomputable def F.utf8_DecodeLastRuneInString.r3 : Plan :=
  .rd 0 none (.mv (.const (.int .i32 65533))) (some 2) false <|
  .rd 1 none (.mv (.const (.int .i64 0))) (some 3) false <|
  .done
noncomputable def F.utf8_DecodeLastRuneInString.r4 : Plan :=
  .rd 0 none (.mv (.tmp 4)) (some 11) false <|
  .rd 1 none (.bin .sub (.tmp 11) (.const (.int .i64 1))) (some 12) false <|
  .rd 2 none (.mv (.tmp 12)) (some 5) false <|
  .done
noncomputable def F.utf8_DecodeLastRuneInString.r5 : Plan :=
  .rd 0 none (.mv (.tmp 0)) (some 13) false <|
  .rd 1 none (.mv (.tmp 5)) (some 14) false <|
  .rd 2 none (.idxS (.tmp 13) (.tmp 14)) (some 15) false <|
  .rd 3 none (.convI .i32 (.tmp 15)) (some 16) false <|
  .rd 4 none (.mv (.tmp 16)) (some 2) false <|
  .done
noncomputable def F.utf8_DecodeLastRuneInString.r6 : Plan :=
  .rd 0 none (.mv (.tmp 2)) (some 17) false <|
  .rd 1 none (.bin .lss (.tmp 17) (.const (.int .i32 128))) (some 18) false <|
  .done
noncomputable def F.utf8_DecodeLastRuneInString.r7 : Plan :=
  .rd 0 none (.mv (.tmp 2)) (some 19) false <|
  .rd 1 none (.mv (.tmp 19)) (some 2) false <|
  .rd 2 none (.mv (.const (.int .i64 1))) (some 3) false <|
  .done
noncomputable def F.utf8_DecodeLastRuneInString.r8 : Plan :=
  .rd 0 none (.mv (.tmp 4)) (some 20) false <|
  .rd 1 none (.bin .sub (.tmp 20) (.const (.int .i64 4))) (some 21) false <|
  .rd 2 none (.maxI true (.tmp 21) (.const (.int .i64 0))) (some 22) false <|
  .rd 3 none (.mv (.tmp 22)) (some 6) false <|
  .done
noncomputable def F.utf8_DecodeLastRuneInString.r9 : Plan :=
  .rd 0 none (.mv (.tmp 5)) (some 23) false <|
  .rd 1 none (.bin .sub (.tmp 23) (.const (.int .i64 1))) (some 24) false <|
  .rd 2 none (.mv (.tmp 24)) (some 5) false <|
  .done
noncomputable def F.utf8_DecodeLastRuneInString.r10 : Plan :=
  .rd 0 none (.mv (.tmp 5)) (some 25) false <|
  .rd 1 none (.mv (.tmp 6)) (some 26) false <|
  .rd 2 none (.bin .geq (.tmp 25) (.tmp 26)) (some 27) false <|
  .done
noncomputable def F.utf8_DecodeLastRuneInString.r11 : Plan :=
  .rd 0 none (.mv (.tmp 0)) (some 30) false <|
  .rd 1 none (.mv (.tmp 5)) (some 31) false <|
  .rd 2 none (.idxS (.tmp 30) (.tmp 31)) (some 32) false <|
  .ef 3 none (.call F.utf8_RuneStart [(.tmp 32)]) (some 33) [] (
  .done) .none
noncomputable def F.utf8_DecodeLastRuneInString.r12 : Plan :=
  .rd 0 none (.mv (.tmp 5)) (some 28) false <|
  .rd 1 none (.bin .sub (.tmp 28) (.const (.int .i64 1))) (some 29) false <|
  .rd 2 none (.mv (.tmp 29)) (some 5) false <|
  .done
noncomputable def F.utf8_DecodeLastRuneInString.l0 : IC :=
    (.seq (.seq (.reg F.utf8_DecodeLastRuneInString.r10)
    (.cond (.tmp 27) .skip (.exit 0)))
    (.seq (.block 1 (.seq (.reg F.utf8_DecodeLastRuneInString.r11)
    (.cond (.tmp 33) (.exit 0) .skip)))
    (.reg F.utf8_DecodeLastRuneInString.r12)))
noncomputable def F.utf8_DecodeLastRuneInString.r13 : Plan :=
  .rd 0 none (.mv (.tmp 5)) (some 34) false <|
  .rd 1 none (.bin .lss (.tmp 34) (.const (.int .i64 0))) (some 35) false <|
  .done
noncomputable def F.utf8_DecodeLastRuneInString.r14 : Plan :=
  .rd 0 none (.mv (.const (.int .i64 0))) (some 5) false <|
  .done
noncomputable def F.utf8_DecodeLastRuneInString.r15 : Plan :=
  .rd 0 none (.mv (.tmp 0)) (some 37) false <|
  .rd 1 none (.mv (.tmp 5)) (some 38) false <|
  .rd 2 none (.mv (.tmp 4)) (some 39) false <|
  .rd 3 none (.slS (.tmp 37) (some (.tmp 38)) (some (.tmp 39))) (some 40) false <|
  .ef 4 none (.call F.utf8_DecodeRuneInString [(.tmp 40)]) (some 41) [] (
  .rd 5 none (.mv (.tmp 41)) (some 36) false <|
  .rd 6 none (.ext 0 (.tmp 36)) (some 42) false <|
  .rd 7 none (.ext 1 (.tmp 36)) (some 43) false <|
  .rd 8 none (.mv (.tmp 42)) (some 2) false <|
  .rd 9 none (.mv (.tmp 43)) (some 3) false <|
  .done) .none
noncomputable def F.utf8_DecodeLastRuneInString.r16 : Plan :=
  .rd 0 none (.mv (.tmp 5)) (some 44) false <|
  .rd 1 none (.mv (.tmp 3)) (some 45) false <|
  .rd 2 none (.bin .add (.tmp 44) (.tmp 45)) (some 46) false <|
  .rd 3 none (.mv (.tmp 4)) (some 47) false <|
  .rd 4 none (.bin .neq (.tmp 46) (.tmp 47)) (some 48) false <|
  .done
noncomputable def F.utf8_DecodeLastRuneInString.r17 : Plan :=
  .rd 0 none (.mv (.const (.int .i32 65533))) (some 2) false <|
  .rd 1 none (.mv (.const (.int .i64 1))) (some 3) false <|
  .done
noncomputable def F.utf8_DecodeLastRuneInString.r18 : Plan :=
  .rd 0 none (.mv (.tmp 2)) (some 49) false <|
  .rd 1 none (.mv (.tmp 3)) (some 50) false <|
  .rd 2 none (.mv (.tmp 49)) (some 2) false <|
  .rd 3 none (.mv (.tmp 50)) (some 3) false <|
  .done
noncomputable def F.utf8_DecodeLastRuneInString.ic : IC :=
    (.seq (.reg F.utf8_DecodeLastRuneInString.r0)
    (.seq (.reg F.utf8_DecodeLastRuneInString.r1)
    (.seq (.seq (.reg F.utf8_DecodeLastRuneInString.r2)
    (.cond (.tmp 10) (.seq (.reg F.utf8_DecodeLastRuneInString.r3)
    .ret) .skip))
    (.seq (.reg F.utf8_DecodeLastRuneInString.r4)
    (.seq (.reg F.utf8_DecodeLastRuneInString.r5)
    (.seq (.seq (.reg F.utf8_DecodeLastRuneInString.r6)
    (.cond (.tmp 18) (.seq (.reg F.utf8_DecodeLastRuneInString.r7)
    .ret) .skip))
    (.seq (.reg F.utf8_DecodeLastRuneInString.r8)
    (.seq (.seq (.reg F.utf8_DecodeLastRuneInString.r9)
    (.block 0 (.loop F.utf8_DecodeLastRuneInString.l0)))
    (.seq (.seq (.reg F.utf8_DecodeLastRuneInString.r13)
    (.cond (.tmp 35) (.reg F.utf8_DecodeLastRuneInString.r14) .skip))
    (.seq (.reg F.utf8_DecodeLastRuneInString.r15)
    (.seq (.seq (.reg F.utf8_DecodeLastRuneInString.r16)
    (.cond (.tmp 48) (.seq (.reg F.utf8_DecodeLastRuneInString.r17)
    .ret) .skip))
    (.seq (.reg F.utf8_DecodeLastRuneInString.r18)
    .ret))))))))))))
noncomputable def F.utf8_DecodeLastRuneInString.rs : List RO := [(.mv (.tmp 2)), (.mv (.tmp 3))]
theorem F.utf8_DecodeLastRuneInString.ok : cFunc Go.Proofs.Tryz.prog F.utf8_DecodeLastRuneInString = some (51, F.utf8_DecodeLastRuneInString.ic, F.utf8_DecodeLastRuneInString.rs) := by kernel_rfl
theorem F.utf8_DecodeLastRuneInString.cl : callable Go.Proofs.Tryz.prog F.utf8_DecodeLastRuneInString = true := by kernel_rfl
noncomputable def F.slices_rotateCmpFunc_api_Op.r0 : Plan :=
  .rd 0 none (.mv (.tmp 2)) (some 12) false <|
  .rd 1 none (.mv (.tmp 1)) (some 13) false <|
  .rd 2 none (.bin .sub (.tmp 12) (.tmp 13)) (some 14) false <|
  .rd 3 none (.mv (.tmp 14)) (some 10) false <|
  .done
noncomputable def F.slices_rotateCmpFunc_api_Op.r1 : Plan :=
  .rd 0 none (.mv (.tmp 3)) (some 15) false <|
  .rd 1 none (.mv (.tmp 2)) (some 16) false <|
  .rd 2 none (.bin .sub (.tmp 15) (.tmp 16)) (some 17) false <|
  .rd 3 none (.mv (.tmp 17)) (some 11) false <|
  .done
noncomputable def F.slices_rotateCmpFunc_api_Op.r2 : Plan :=
  .rd 0 none (.mv (.tmp 10)) (some 18) false <|
  .rd 1 none (.mv (.tmp 11)) (some 19) false <|
  .rd 2 none (.bin .neq (.tmp 18) (.tmp 19)) (some 20) false <|
  .done
noncomputable def F.slices_rotateCmpFunc_api_Op.r3 : Plan :=
  .rd 0 none (.mv (.tmp 10)) (some 21) false <|
  .rd 1 none (.mv (.tmp 11)) (some 22) false <|
  .rd 2 none (.bin .gtr (.tmp 21) (.tmp 22)) (some 23) false <|
  .done
noncomputable def F.slices_rotateCmpFunc_api_Op.r4 : Plan :=
  .rd 0 none (.mv (.tmp 0)) (some 24) false <|
  .rd 1 none (.mv (.tmp 2)) (some 25) false <|
  .rd 2 none (.mv (.tmp 10)) (some 26) false <|
  .rd 3 none (.bin .sub (.tmp 25) (.tmp 26)) (some 27) false <|
  .rd 4 none (.mv (.tmp 2)) (some 28) false <|
  .rd 5 none (.mv (.tmp 11)) (some 29) false <|
  .rd 6 none (.mv (.tmp 4)) (some 30) false <|
  .ef 7 none (.call F.slices_swapRangeCmpFunc_api_Op [(.tmp 24), (.tmp 27), (.tmp 28), (.tmp 29), (.tmp 30)]) (some 31) [] (
  .done) .none
noncomputable def F.slices_rotateCmpFunc_api_Op.r5 : Plan :=
  .rd 0 none (.mv (.tmp 10)) (some 32) false <|
  .rd 1 none (.mv (.tmp 11)) (some 33) false <|
  .rd 2 none (.bin .sub (.tmp 32) (.tmp 33)) (some 34) false <|
  .rd 3 none (.mv (.tmp 34)) (some 10) false <|
  .done
noncomputable def F.slices_rotateCmpFunc_api_Op.r6 : Plan :=
  .rd 0 none (.mv (.tmp 0)) (some 35) false <|
  .rd 1 none (.mv (.tmp 2)) (some 36) false <|
  .rd 2 none (.mv (.tmp 10)) (some 37) false <|
  .rd 3 none (.bin .sub (.tmp 36) (.tmp 37)) (some 38) false <|
  .rd 4 none (.mv (.tmp 2)) (some 39) false <|
  .rd 5 none (.mv (.tmp 11)) (some 40) false <|
  .rd 6 none (.bin .add (.tmp 39) (.tmp 40)) (some 41) false <|
  .rd 7 none (.mv (.tmp 10)) (some 42) false <|
  .rd 8 none (.bin .sub (.tmp 41) (.tmp 42)) (some 43) false <|
  .rd 9 none (.mv (.tmp 10)) (some 44) false <|
  .rd 10 none (.mv (.tmp 4)) (some 45) false <|
  .ef 11 none (.call F.slices_swapRangeCmpFunc_api_Op [(.tmp 35), (.tmp 38), (.tmp 43), (.tmp 44), (.tmp 45)]) (some 46) [] (
  .done) .none
noncomputable def F.slices_rotateCmpFunc_api_Op.r7 : Plan :=
  .rd 0 none (.mv (.tmp 11)) (some 47) false <|
  .rd 1 none (.mv (.tmp 10)) (some 48) false <|
  .rd 2 none (.bin .sub (.tmp 47) (.tmp 48)) (some 49) false <|
  .rd 3 none (.mv (.tmp 49)) (some 11) false <|
  .done
noncomputable def F.slices_rotateCmpFunc_api_Op.l0 : IC :=
    (.seq (.seq (.reg F.slices_rotateCmpFunc_api_Op.r2)
    (.cond (.tmp 20) .skip (.exit 0)))
    (.block 1 (.seq (.reg F.slices_rotateCmpFunc_api_Op.r3)
    (.cond (.tmp 23) (.seq (.reg F.slices_rotateCmpFunc_api_Op.r4)
    (.reg F.slices_rotateCmpFunc_api_Op.r5)) (.seq (.reg F.slices_rotateCmpFunc_api_Op.r6)
    (.reg F.slices_rotateCmpFunc_api_Op.r7))))))
noncomputable def F.slices_rotateCmpFunc_api_Op.r8 : Plan :=
  .rd 0 none (.mv (.tmp 0)) (some 50) false <|
  .rd 1 none (.mv (.tmp 2)) (some 51) false <|
  .rd 2 none (.mv (.tmp 10)) (some 52) false <|
  .rd 3 none (.bin .sub (.tmp 51) (.tmp 52)) (some 53) false <|
  .rd 4 none (.mv (.tmp 2)) (some 54) false <|
  .rd 5 none (.mv (.tmp 10)) (some 55) false <|
  .rd 6 none (.mv (.tmp 4)) (some 56) false <|
  .ef 7 none (.call F.slices_swapRangeCmpFunc_api_Op [(.tmp 50), (.tmp 53), (.tmp 54), (.tmp 55), (.tmp 56)]) (some 57) [] (
  .done) .none
noncomputable def F.slices_rotateCmpFunc_api_Op.ic : IC :=
    (.seq (.reg F.slices_rotateCmpFunc_api_Op.r0)
    (.seq (.reg F.slices_rotateCmpFunc_api_Op.r1)
    (.seq (.block 0 (.loop F.slices_rotateCmpFunc_api_Op.l0))
    (.reg F.slices_rotateCmpFunc_api_Op.r8))))
noncomputable def F.slices_rotateCmpFunc_api_Op.rs : List RO := []
theorem F.slices_rotateCmpFunc_api_Op.ok : cFunc Go.Proofs.Tryz.prog F.slices_rotateCmpFunc_api_Op = some (58, F.slices_rotateCmpFunc_api_Op.ic, F.slices_rotateCmpFunc_api_Op.rs) := by kernel_rfl
theorem F.slices_rotateCmpFunc_api_Op.cl : callable Go.Proofs.Tryz.prog F.slices_rotateCmpFunc_api_Op = true := by kernel_rfl
noncomputable def F.cmp_isNaN_int.r0 : Plan :=
  .rd 0 none (.mv (.const (.bool false))) (some 2) false <|
  .done
noncomputable def F.cmp_isNaN_int.r1 : Plan :=
  .rd 0 none (.mv (.tmp 0)) (some 3) false <|
  .rd 1 none (.mv (.tmp 0)) (some 4) false <|
  .rd 2 none (.bin .neq (.tmp 3) (.tmp 4)) (some 5) false <|
  .rd 3 none (.mv (.tmp 5)) (some 2) false <|
  .done
noncomputable def F.cmp_isNaN_int.ic : IC :=
    (.seq (.reg F.cmp_isNaN_int.r0)
    (.seq (.reg F.cmp_isNaN_int.r1)
    .ret))
noncomputable def F.cmp_isNaN_int.rs : List RO := [(.mv (.tmp 2))]
theorem F.cmp_isNaN_int.ok : cFunc Go.Proofs.Tryz.prog F.cmp_isNaN_int = some (6, F.cmp_isNaN_int.ic, F.cmp_isNaN_int.rs) := by kernel_rfl
theorem F.cmp_isNaN_int.cl : callable Go.Proofs.Tryz.prog F.cmp_isNaN_int = true := by kernel_rfl
noncomputable def F.utf8_decodeRuneInStringSlow.r0 : Plan :=
  .rd 0 none (.mv (.const (.int .i32 0))) (some 2) false <|
  .rd 1 none (.mv (.const (.int .i64 0))) (some 3) false <|
  .done
noncomputable def F.utf8_decodeRuneInStringSlow.r1 : Plan :=
  .rd 0 none (.mv (.tmp 0)) (some 13) false <|
  .rd 1 none (.len .str (.tmp 13)) (some 14) false <|
  .rd 2 none (.mv (.tmp 14)) (some 4) false <|
  .done
noncomputable def F.utf8_decodeRuneInStringSlow.r2 : Plan :=
  .rd 0 none (.mv (.tmp 4)) (some 15) false <|
  .rd 1 none (.bin .lss (.tmp 15) (.const (.int .i64 1))) (some 16) false <|
  .done
noncomputable def F.utf8_decodeRuneInStringSlow.r3 : Plan :=
  .rd 0 none (.mv (.const (.int .i32 65533))) (some 2) false <|
  .rd 1 none (.mv (.const (.int .i64 0))) (some 3) false <|
  .done
noncomputable def F.utf8_decodeRuneInStringSlow.r4 : Plan :=
  .rd 0 none (.mv (.tmp 0)) (some 17) false <|
  .rd 1 none (.idxS (.tmp 17) (.const (.int .i64 0))) (some 18) false <|
  .rd 2 none (.mv (.tmp 18)) (some 5) false <|
  .done
noncomputable def F.utf8_decodeRuneInStringSlow.r5 : Plan :=
  .rd 0 none (.mv (.tmp 5)) (some 19) false <|
  .rd 1 none (.arrA 256 1 (.global 0) (.tmp 19)) (some 20) false <|
  .rd 2 none (.ld1 (.tmp 20)) (some 21) false <|
  .rd 3 none (.mv (.tmp 21)) (some 6) false <|
  .done
noncomputable def F.utf8_decodeRuneInStringSlow.r6 : Plan :=
  .rd 0 none (.mv (.tmp 6)) (some 22) false <|
  .rd 1 none (.bin .geq (.tmp 22) (.const (.int .u8 240))) (some 23) false <|
  .done
noncomputable def F.utf8_decodeRuneInStringSlow.r7 : Plan :=
  .rd 0 none (.mv (.tmp 6)) (some 24) false <|
  .rd 1 none (.convI .i32 (.tmp 24)) (some 25) false <|
  .rd 2 none (.bin .shl (.tmp 25) (.const (.int .u64 31))) (some 26) false <|
  .rd 3 none (.bin .shr (.tmp 26) (.const (.int .u64 31))) (some 27) false <|
  .rd 4 none (.mv (.tmp 27)) (some 7) false <|
  .done
noncomputable def F.utf8_decodeRuneInStringSlow.r8 : Plan :=
  .rd 0 none (.mv (.tmp 0)) (some 28) false <|
  .rd 1 none (.idxS (.tmp 28) (.const (.int .i64 0))) (some 29) false <|
  .rd 2 none (.convI .i32 (.tmp 29)) (some 30) false <|
  .rd 3 none (.mv (.tmp 7)) (some 31) false <|
  .rd 4 none (.bin .andNot (.tmp 30) (.tmp 31)) (some 32) false <|
  .rd 5 none (.mv (.tmp 7)) (some 33) false <|
  .rd 6 none (.bin .and (.const (.int .i32 65533)) (.tmp 33)) (some 34) false <|
  .rd 7 none (.bin .or (.tmp 32) (.tmp 34)) (some 35) false <|
  .rd 8 none (.mv (.tmp 35)) (some 2) false <|
  .rd 9 none (.mv (.const (.int .i64 1))) (some 3) false <|
  .done
noncomputable def F.utf8_decodeRuneInStringSlow.r9 : Plan :=
  .rd 0 none (.mv (.tmp 6)) (some 36) false <|
  .rd 1 none (.bin .and (.tmp 36) (.const (.int .u8 7))) (some 37) false <|
  .rd 2 none (.convI .i64 (.tmp 37)) (some 38) false <|
  .rd 3 none (.mv (.tmp 38)) (some 8) false <|
  .done
noncomputable def F.utf8_decodeRuneInStringSlow.r10 : Plan :=
  .rd 0 none (.mv (.tmp 6)) (some 39) false <|
  .rd 1 none (.bin .shr (.tmp 39) (.const (.int .u64 4))) (some 40) false <|
  .rd 2 none (.arrA 16 2 (.global 1) (.tmp 40)) (some 41) false <|
  .rd 3 none (.ldn 2 (.tmp 41)) (some 42) false <|
  .ef 4 none (.alloc [(.int .u8 0), (.int .u8 0)]) (some 9) [] (
  .ef 5 none (.st 2 (.tmp 9) (.tmp 42)) none [] (
  .done) .none) .none
noncomputable def F.utf8_decodeRuneInStringSlow.r11 : Plan :=
  .rd 0 none (.mv (.tmp 4)) (some 43) false <|
  .rd 1 none (.mv (.tmp 8)) (some 44) false <|
  .rd 2 none (.bin .lss (.tmp 43) (.tmp 44)) (some 45) false <|
  .done
noncomputable def F.utf8_decodeRuneInStringSlow.r12 : Plan :=
  .rd 0 none (.mv (.const (.int .i32 65533))) (some 2) false <|
  .rd 1 none (.mv (.const (.int .i64 1))) (some 3) false <|
  .done
noncomputable def F.utf8_decodeRuneInStringSlow.r13 : Plan :=
  .rd 0 none (.mv (.tmp 0)) (some 46) false <|
  .rd 1 none (.idxS (.tmp 46) (.const (.int .i64 1))) (some 47) false <|
  .rd 2 none (.mv (.tmp 47)) (some 10) false <|
  .done
noncomputable def F.utf8_decodeRuneInStringSlow.r14 : Plan :=
  .rd 0 none (.mv (.tmp 10)) (some 48) false <|
  .rd 1 none (.fldA 0 (.tmp 9)) (some 49) false <|
  .rd 2 none (.ld1 (.tmp 49)) (some 50) false <|
  .rd 3 none (.bin .lss (.tmp 48) (.tmp 50)) (some 51) false <|
  .rd 4 none (.mv (.tmp 51)) (some 52) false <|
  .rd 5 (some (52, false)) (.fldA 1 (.tmp 9)) (some 53) false <|
  .rd 6 (some (52, false)) (.ld1 (.tmp 53)) (some 54) false <|
  .rd 7 (some (52, false)) (.mv (.tmp 10)) (some 55) false <|
  .rd 8 (some (52, false)) (.bin .lss (.tmp 54) (.tmp 55)) (some 56) false <|
  .rd 9 none (.pick (.tmp 52) (.const (.bool true)) (.tmp 56)) (some 57) false <|
  .done
noncomputable def F.utf8_decodeRuneInStringSlow.r15 : Plan :=
  .rd 0 none (.mv (.const (.int .i32 65533))) (some 2) false <|
  .rd 1 none (.mv (.const (.int .i64 1))) (some 3) false <|
  .done
noncomputable def F.utf8_decodeRuneInStringSlow.r16 : Plan :=
  .rd 0 none (.mv (.tmp 8)) (some 58) false <|
  .rd 1 none (.bin .leq (.tmp 58) (.const (.int .i64 2))) (some 59) false <|
  .done
noncomputable def F.utf8_decodeRuneInStringSlow.r17 : Plan :=
  .rd 0 none (.mv (.tmp 5)) (some 60) false <|
  .rd 1 none (.bin .and (.tmp 60) (.const (.int .u8 31))) (some 61) false <|
  .rd 2 none (.convI .i32 (.tmp 61)) (some 62) false <|
  .rd 3 none (.bin .shl (.tmp 62) (.const (.int .u64 6))) (some 63) false <|
  .rd 4 none (.mv (.tmp 10)) (some 64) false <|
  .rd 5 none (.bin .and (.tmp 64) (.const (.int .u8 63))) (some 65) false <|
  .rd 6 none (.convI .i32 (.tmp 65)) (some 66) false <|
  .rd 7 none (.bin .or (.tmp 63) (.tmp 66)) (some 67) false <|
  .rd 8 none (.mv (.tmp 67)) (some 2) false <|
  .rd 9 none (.mv (.const (.int .i64 2))) (some 3) false <|
  .done
noncomputable def F.utf8_decodeRuneInStringSlow.r18 : Plan :=
  .rd 0 none (.mv (.tmp 0)) (some 68) false <|
  .rd 1 none (.idxS (.tmp 68) (.const (.int .i64 2))) (some 69) false <|
  .rd 2 none (.mv (.tmp 69)) (some 11) false <|
  .done
noncomputable def F.utf8_decodeRuneInStringSlow.r19 : Plan :=
  .rd 0 none (.mv (.tmp 11)) (some 70) false <|
  .rd 1 none (.bin .lss (.tmp 70) (.const (.int .u8 128))) (some 71) false <|
  .rd 2 none (.mv (.tmp 71)) (some 72) false <|
  .rd 3 (some (72, false)) (.mv (.tmp 11)) (some 73) false <|
  .rd 4 (some (72, false)) (.bin .lss (.const (.int .u8 191)) (.tmp 73)) (some 74) false <|
  .rd 5 none (.pick (.tmp 72) (.const (.bool true)) (.tmp 74)) (some 75) false <|
  .done
noncomputable def F.utf8_decodeRuneInStringSlow.r20 : Plan :=
  .rd 0 none (.mv (.const (.int .i32 65533))) (some 2) false <|
  .rd 1 none (.mv (.const (.int .i64 1))) (some 3) false <|
  .done
noncomputable def F.utf8_decodeRuneInStringSlow.r21 : Plan :=
  .rd 0 none (.mv (.tmp 8)) (some 76) false <|
  .rd 1 none (.bin .leq (.tmp 76) (.const (.int .i64 3))) (some 77) false <|
  .done
noncomputable def F.utf8_decodeRuneInStringSlow.r22 : Plan :=
  .rd 0 none (.mv (.tmp 5)) (some 78) false <|
  .rd 1 none (.bin .and (.tmp 78) (.const (.int .u8 15))) (some 79) false <|
  .rd 2 none (.convI .i32 (.tmp 79)) (some 80) false <|
  .rd 3 none (.bin .shl (.tmp 80) (.const (.int .u64 12))) (some 81) false <|
  .rd 4 none (.mv (.tmp 10)) (some 82) false <|
  .rd 5 none (.bin .and (.tmp 82) (.const (.int .u8 63))) (some 83) false <|
  .rd 6 none (.convI .i32 (.tmp 83)) (some 84) false <|
  .rd 7 none (.bin .shl (.tmp 84) (.const (.int .u64 6))) (some 85) false <|
  .rd 8 none (.bin .or (.tmp 81) (.tmp 85)) (some 86) false <|
  .rd 9 none (.mv (.tmp 11)) (some 87) false <|
  .rd 10 none (.bin .and (.tmp 87) (.const (.int .u8 63))) (some 88) false <|
  .rd 11 none (.convI .i32 (.tmp 88)) (some 89) false <|
  .rd 12 none (.bin .or (.tmp 86) (.tmp 89)) (some 90) false <|
  .rd 13 none (.mv (.tmp 90)) (some 2) false <|
  .rd 14 none (.mv (.const (.int .i64 3))) (some 3) false <|
  .done
noncomputable def F.utf8_decodeRuneInStringSlow.r23 : Plan :=
  .rd 0 none (.mv (.tmp 0)) (some 91) false <|
  .rd 1 none (.idxS (.tmp 91) (.const (.int .i64 3))) (some 92) false <|
  .rd 2 none (.mv (.tmp 92)) (some 12) false <|
  .done
noncomputable def F.utf8_decodeRuneInStringSlow.r24 : Plan :=
  .rd 0 none (.mv (.tmp 12)) (some 93) false <|
  .rd 1 none (.bin .lss (.tmp 93) (.const (.int .u8 128))) (some 94) false <|
  .rd 2 none (.mv (.tmp 94)) (some 95) false <|
  .rd 3 (some (95, false)) (.mv (.tmp 12)) (some 96) false <|
  .rd 4 (some (95, false)) (.bin .lss (.const (.int .u8 191)) (.tmp 96)) (some 97) false <|
  .rd 5 none (.pick (.tmp 95) (.const (.bool true)) (.tmp 97)) (some 98) false <|
  .done
noncomputable def F.utf8_decodeRuneInStringSlow.r25 : Plan :=
  .rd 0 none (.mv (.const (.int .i32 65533))) (some 2) false <|
  .rd 1 none (.mv (.const (.int .i64 1))) (some 3) false <|
  .done
noncomputable def F.utf8_decodeRuneInStringSlow.r26 : Plan :=
  .rd 0 none (.mv (.tmp 5)) (some 99) false <|
  .rd 1 none (.bin .and (.tmp 99) (.const (.int .u8 7))) (some 100) false <|
  .rd 2 none (.convI .i32 (.tmp 100)) (some 101) false <|
  .rd 3 none (.bin .shl (.tmp 101) (.const (.int .u64 18))) (some 102) false <|
  .rd 4 none (.mv (.tmp 10)) (some 103) false <|
  .rd 5 none (.bin .and (.tmp 103) (.const (.int .u8 63))) (some 104) false <|
  .rd 6 none (.convI .i32 (.tmp 104)) (some 105) false <|
  .rd 7 none (.bin .shl (.tmp 105) (.const (.int .u64 12))) (some 106) false <|
  .rd 8 none (.bin .or (.tmp 102) (.tmp 106)) (some 107) false <|
  .rd 9 none (.mv (.tmp 11)) (some 108) false <|
  .rd 10 none (.bin .and (.tmp 108) (.const (.int .u8 63))) (some 109) false <|
  .rd 11 none (.convI .i32 (.tmp 109)) (some 110) false <|
  .rd 12 none (.bin .shl (.tmp 110) (.const (.int .u64 6))) (some 111) false <|
  .rd 13 none (.bin .or (.tmp 107) (.tmp 111)) (some 112) false <|
  .rd 14 none (.mv (.tmp 12)) (some 113) false <|
  .rd 15 none (.bin .and (.tmp 113) (.const (.int .u8 63))) (some 114) false <|
  .rd 16 none (.convI .i32 (.tmp 114)) (some 115) false <|
  .rd 17 none (.bin .or (.tmp 112) (.tmp 115)) (some 116) false <|
  .rd 18 none (.mv (.tmp 116)) (some 2) false <|
  .rd 19 none (.mv (.const (.int .i64 4))) (some 3) false <|
  .done
noncomputable def F.utf8_decodeRuneInStringSlow.ic : IC :=
    (.seq (.reg F.utf8_decodeRuneInStringSlow.r0)
    (.seq (.reg F.utf8_decodeRuneInStringSlow.r1)
    (.seq (.seq (.reg F.utf8_decodeRuneInStringSlow.r2)
    (.cond (.tmp 16) (.seq (.reg F.utf8_decodeRuneInStringSlow.r3)
    .ret) .skip))
    (.seq (.reg F.utf8_decodeRuneInStringSlow.r4)
    (.seq (.reg F.utf8_decodeRuneInStringSlow.r5)
    (.seq (.seq (.reg F.utf8_decodeRuneInStringSlow.r6)
    (.cond (.tmp 23) (.seq (.reg F.utf8_decodeRuneInStringSlow.r7)
    (.seq (.reg F.utf8_decodeRuneInStringSlow.r8)
    .ret)) .skip))
    (.seq (.reg F.utf8_decodeRuneInStringSlow.r9)
    (.seq (.reg F.utf8_decodeRuneInStringSlow.r10)
    (.seq (.seq (.reg F.utf8_decodeRuneInStringSlow.r11)
    (.cond (.tmp 45) (.seq (.reg F.utf8_decodeRuneInStringSlow.r12)
    .ret) .skip))
    (.seq (.reg F.utf8_decodeRuneInStringSlow.r13)
    (.seq (.seq (.reg F.utf8_decodeRuneInStringSlow.r14)
    (.cond (.tmp 57) (.seq (.reg F.utf8_decodeRuneInStringSlow.r15)
    .ret) .skip))
    (.seq (.seq (.reg F.utf8_decodeRuneInStringSlow.r16)
    (.cond (.tmp 59) (.seq (.reg F.utf8_decodeRuneInStringSlow.r17)
    .ret) .skip))
    (.seq (.reg F.utf8_decodeRuneInStringSlow.r18)
    (.seq (.seq (.reg F.utf8_decodeRuneInStringSlow.r19)
    (.cond (.tmp 75) (.seq (.reg F.utf8_decodeRuneInStringSlow.r20)
    .ret) .skip))
    (.seq (.seq (.reg F.utf8_decodeRuneInStringSlow.r21)
    (.cond (.tmp 77) (.seq (.reg F.utf8_decodeRuneInStringSlow.r22)
    .ret) .skip))
    (.seq (.reg F.utf8_decodeRuneInStringSlow.r23)
    (.seq (.seq (.reg F.utf8_decodeRuneInStringSlow.r24)
    (.cond (.tmp 98) (.seq (.reg F.utf8_decodeRuneInStringSlow.r25)
    .ret) .skip))
    (.seq (.reg F.utf8_decodeRuneInStringSlow.r26)
    .ret))))))))))))))))))
noncomputable def F.utf8_decodeRuneInStringSlow.rs : List RO := [(.mv (.tmp 2)), (.mv (.tmp 3))]
theorem F.utf8_decodeRuneInStringSlow.ok : cFunc Go.Proofs.Tryz.prog F.utf8_decodeRuneInStringSlow = some (117, F.utf8_decodeRuneInStringSlow.ic, F.utf8_decodeRuneInStringSlow.rs) := by kernel_rfl
theorem F.utf8_decodeRuneInStringSlow.cl : callable Go.Proofs.Tryz.prog F.utf8_decodeRuneInStringSlow = true := by kernel_rfl
noncomputable def F.utf8_RuneStart.r0 : Plan :=
  .rd 0 none (.mv (.const (.bool false))) (some 2) false <|
  .done
noncomputable def F.utf8_RuneStart.r1 : Plan :=
  .rd 0 none (.mv (.tmp 0)) (some 3) false <|
  .rd 1 none (.bin .and (.tmp 3) (.const (.int .u8 192))) (some 4) false <|
  .rd 2 none (.bin .neq (.tmp 4) (.const (.int .u8 128))) (some 5) false <|
  .rd 3 none (.mv (.tmp 5)) (some 2) false <|
  .done
noncomputable def F.utf8_RuneStart.ic : IC :=
    (.seq (.reg F.utf8_RuneStart.r0)
    (.seq (.reg F.utf8_RuneStart.r1)
    .ret))
noncomputable def F.utf8_RuneStart.rs : List RO := [(.mv (.tmp 2))]
theorem F.utf8_RuneStart.ok : cFunc Go.Proofs.Tryz.prog F.utf8_RuneStart = some (6, F.utf8_RuneStart.ic, F.utf8_RuneStart.rs) := by kernel_rfl
theorem F.utf8_RuneStart.cl : callable Go.Proofs.Tryz.prog F.utf8_RuneStart = true := by kernel_rfl
noncomputable def F.slices_swapRangeCmpFunc_api_Op.r0 : Plan :=
  .rd 0 none (.mv (.const (.int .i64 0))) (some 10) false <|
  .done
noncomputable def F.slices_swapRangeCmpFunc_api_Op.r1 : Plan :=
  .rd 0 none (.mv (.tmp 10)) (some 11) false <|
  .rd 1 none (.mv (.tmp 3)) (some 12) false <|
  .rd 2 none (.bin .lss (.tmp 11) (.tmp 12)) (some 13) false <|
  .done
noncomputable def F.slices_swapRangeCmpFunc_api_Op.r2 : Plan :=
  .rd 0 none (.mv (.tmp 0)) (some 16) false <|
  .rd 1 none (.mv (.tmp 1)) (some 17) false <|
  .rd 2 none (.mv (.tmp 10)) (some 18) false <|
  .rd 3 none (.bin .add (.tmp 17) (.tmp 18)) (some 19) false <|
  .rd 4 none (.mv (.tmp 0)) (some 20) false <|
  .rd 5 none (.mv (.tmp 2)) (some 21) false <|
  .rd 6 none (.mv (.tmp 10)) (some 22) false <|
  .rd 7 none (.bin .add (.tmp 21) (.tmp 22)) (some 23) false <|
  .rd 8 none (.mv (.tmp 0)) (some 24) false <|
  .rd 9 none (.mv (.tmp 2)) (some 25) false <|
  .rd 10 none (.mv (.tmp 10)) (some 26) false <|
  .rd 11 none (.bin .add (.tmp 25) (.tmp 26)) (some 27) false <|
  .rd 12 none (.idxA 14 (.tmp 24) (.tmp 27)) (some 28) false <|
  .rd 13 none (.ldn 14 (.tmp 28)) (some 29) false <|
  .rd 14 none (.mv (.tmp 0)) (some 30) false <|
  .rd 15 none (.mv (.tmp 1)) (some 31) false <|
  .rd 16 none (.mv (.tmp 10)) (some 32) false <|
  .rd 17 none (.bin .add (.tmp 31) (.tmp 32)) (some 33) false <|
  .rd 18 none (.idxA 14 (.tmp 30) (.tmp 33)) (some 34) false <|
  .rd 19 none (.ldn 14 (.tmp 34)) (some 35) false <|
  .rd 20 none (.idxA 14 (.tmp 16) (.tmp 19)) (some 36) false <|
  .ef 21 none (.st 14 (.tmp 36) (.tmp 29)) none [4, 5, 6, 7] (
  .rd 22 none (.idxA 14 (.tmp 20) (.tmp 23)) (some 37) false <|
  .ef 23 none (.st 14 (.tmp 37) (.tmp 35)) none [] (
  .done) .none) .none
noncomputable def F.slices_swapRangeCmpFunc_api_Op.r3 : Plan :=
  .rd 0 none (.mv (.tmp 10)) (some 14) false <|
  .rd 1 none (.bin .add (.tmp 14) (.const (.int .i64 1))) (some 15) false <|
  .rd 2 none (.mv (.tmp 15)) (some 10) false <|
  .done
noncomputable def F.slices_swapRangeCmpFunc_api_Op.l0 : IC :=
    (.seq (.seq (.reg F.slices_swapRangeCmpFunc_api_Op.r1)
    (.cond (.tmp 13) .skip (.exit 0)))
    (.seq (.block 1 (.reg F.slices_swapRangeCmpFunc_api_Op.r2))
    (.reg F.slices_swapRangeCmpFunc_api_Op.r3)))
noncomputable def F.slices_swapRangeCmpFunc_api_Op.ic : IC :=
    (.seq (.reg F.slices_swapRangeCmpFunc_api_Op.r0)
    (.block 0 (.loop F.slices_swapRangeCmpFunc_api_Op.l0)))
noncomputable def F.slices_swapRangeCmpFunc_api_Op.rs : List RO := []
theorem F.slices_swapRangeCmpFunc_api_Op.ok : cFunc Go.Proofs.Tryz.prog F.slices_swapRangeCmpFunc_api_Op = some (38, F.slices_swapRangeCmpFunc_api_Op.ic, F.slices_swapRangeCmpFunc_api_Op.rs) := by kernel_rfl
theorem F.slices_swapRangeCmpFunc_api_Op.cl : callable Go.Proofs.Tryz.prog F.slices_swapRangeCmpFunc_api_Op = true := by kernel_rfl
attribute [go_sem] F.api_Root.r0 F.api_Root.r1 F.api_Root.ic F.api_Root.rs
attribute [go_sem] F.api_Trash.r0 F.api_Trash.r1 F.api_Trash.ic F.api_Trash.rs
attribute [go_sem] F.causal_compare.r0 F.causal_compare.r1 F.causal_compare.r2 F.causal_compare.r3 F.causal_compare.r4 F.causal_compare.r5 F.causal_compare.ic F.causal_compare.rs
attribute [go_sem] F.causal_counted.r0 F.causal_counted.r1 F.causal_counted.r2 F.causal_counted.r3 F.causal_counted.r4 F.causal_counted.r5 F.causal_counted.r6 F.causal_counted.r7 F.causal_counted.r8 F.causal_counted.r9 F.causal_counted.r10 F.causal_counted.r11 F.causal_counted.r12 F.causal_counted.ic F.causal_counted.rs
attribute [go_sem] F.cmp_Compare_int.r0 F.cmp_Compare_int.r1 F.cmp_Compare_int.r2 F.cmp_Compare_int.r3 F.cmp_Compare_int.r4 F.cmp_Compare_int.r5 F.cmp_Compare_int.r6 F.cmp_Compare_int.r7 F.cmp_Compare_int.r8 F.cmp_Compare_int.r9 F.cmp_Compare_int.r10 F.cmp_Compare_int.r11 F.cmp_Compare_int.r12 F.cmp_Compare_int.r13 F.cmp_Compare_int.ic F.cmp_Compare_int.rs
attribute [go_sem] F.cmp_Or_int.r0 F.cmp_Or_int.r1 F.cmp_Or_int.r2 F.cmp_Or_int.r3 F.cmp_Or_int.r4 F.cmp_Or_int.r5 F.cmp_Or_int.r6 F.cmp_Or_int.r7 F.cmp_Or_int.r8 F.cmp_Or_int.ic F.cmp_Or_int.rs
attribute [go_sem] F.cmp_isNaN_int.r0 F.cmp_isNaN_int.r1 F.cmp_isNaN_int.ic F.cmp_isNaN_int.rs
attribute [go_sem] F.dots_Less.r0 F.dots_Less.r1 F.dots_Less.ic F.dots_Less.rs
attribute [go_sem] F.dots_May.r0 F.dots_May.r1 F.dots_May.ic F.dots_May.rs
attribute [go_sem] F.dots_compare.r0 F.dots_compare.r1 F.dots_compare.ic F.dots_compare.rs
attribute [go_sem] F.keys_May.r0 F.keys_May.r1 F.keys_May.r2 F.keys_May.ic F.keys_May.rs
attribute [go_sem] F.ops_Check.r0 F.ops_Check.r1 F.ops_Check.r2 F.ops_Check.r3 F.ops_Check.r4 F.ops_Check.r5 F.ops_Check.r6 F.ops_Check.r7 F.ops_Check.r8 F.ops_Check.r9 F.ops_Check.r10 F.ops_Check.r11 F.ops_Check.r12 F.ops_Check.r13 F.ops_Check.r14 F.ops_Check.r15 F.ops_Check.r16 F.ops_Check.ic F.ops_Check.rs
attribute [go_sem] F.ops_Check_c1.r0 F.ops_Check_c1.r1 F.ops_Check_c1.ic F.ops_Check_c1.rs
attribute [go_sem] F.ops_Less.r0 F.ops_Less.r1 F.ops_Less.r2 F.ops_Less.r3 F.ops_Less.ic F.ops_Less.rs
attribute [go_sem] F.slices_Clone_api_Vector_api_Dot.r0 F.slices_Clone_api_Vector_api_Dot.r1 F.slices_Clone_api_Vector_api_Dot.r2 F.slices_Clone_api_Vector_api_Dot.r3 F.slices_Clone_api_Vector_api_Dot.ic F.slices_Clone_api_Vector_api_Dot.rs
attribute [go_sem] F.slices_IndexFunc_api_Vector_api_Dot.r0 F.slices_IndexFunc_api_Vector_api_Dot.r1 F.slices_IndexFunc_api_Vector_api_Dot.r2 F.slices_IndexFunc_api_Vector_api_Dot.r3 F.slices_IndexFunc_api_Vector_api_Dot.r4 F.slices_IndexFunc_api_Vector_api_Dot.r5 F.slices_IndexFunc_api_Vector_api_Dot.r6 F.slices_IndexFunc_api_Vector_api_Dot.r7 F.slices_IndexFunc_api_Vector_api_Dot.ic F.slices_IndexFunc_api_Vector_api_Dot.rs
attribute [go_sem] F.slices_SortStableFunc_s_api_Op_api_Op.r0 F.slices_SortStableFunc_s_api_Op_api_Op.ic F.slices_SortStableFunc_s_api_Op_api_Op.rs
attribute [go_sem] F.slices_insertionSortCmpFunc_api_Op.r0 F.slices_insertionSortCmpFunc_api_Op.r1 F.slices_insertionSortCmpFunc_api_Op.r2 F.slices_insertionSortCmpFunc_api_Op.r3 F.slices_insertionSortCmpFunc_api_Op.r4 F.slices_insertionSortCmpFunc_api_Op.r5 F.slices_insertionSortCmpFunc_api_Op.r6 F.slices_insertionSortCmpFunc_api_Op.ic F.slices_insertionSortCmpFunc_api_Op.rs
attribute [go_sem] F.slices_rotateCmpFunc_api_Op.r0 F.slices_rotateCmpFunc_api_Op.r1 F.slices_rotateCmpFunc_api_Op.r2 F.slices_rotateCmpFunc_api_Op.r3 F.slices_rotateCmpFunc_api_Op.r4 F.slices_rotateCmpFunc_api_Op.r5 F.slices_rotateCmpFunc_api_Op.r6 F.slices_rotateCmpFunc_api_Op.r7 F.slices_rotateCmpFunc_api_Op.r8 F.slices_rotateCmpFunc_api_Op.ic F.slices_rotateCmpFunc_api_Op.rs
attribute [go_sem] F.slices_stableCmpFunc_api_Op.r0 F.slices_stableCmpFunc_api_Op.r1 F.slices_stableCmpFunc_api_Op.r2 F.slices_stableCmpFunc_api_Op.r3 F.slices_stableCmpFunc_api_Op.r4 F.slices_stableCmpFunc_api_Op.r5 F.slices_stableCmpFunc_api_Op.r6 F.slices_stableCmpFunc_api_Op.r7 F.slices_stableCmpFunc_api_Op.r8 F.slices_stableCmpFunc_api_Op.r9 F.slices_stableCmpFunc_api_Op.r10 F.slices_stableCmpFunc_api_Op.r11 F.slices_stableCmpFunc_api_Op.r12 F.slices_stableCmpFunc_api_Op.r13 F.slices_stableCmpFunc_api_Op.r14 F.slices_stableCmpFunc_api_Op.r15 F.slices_stableCmpFunc_api_Op.r16 F.slices_stableCmpFunc_api_Op.ic F.slices_stableCmpFunc_api_Op.rs
attribute [go_sem] F.slices_swapRangeCmpFunc_api_Op.r0 F.slices_swapRangeCmpFunc_api_Op.r1 F.slices_swapRangeCmpFunc_api_Op.r2 F.slices_swapRangeCmpFunc_api_Op.r3 F.slices_swapRangeCmpFunc_api_Op.ic F.slices_swapRangeCmpFunc_api_Op.rs
attribute [go_sem] F.slices_symMergeCmpFunc_api_Op.r0 F.slices_symMergeCmpFunc_api_Op.r1 F.slices_symMergeCmpFunc_api_Op.r2 F.slices_symMergeCmpFunc_api_Op.r3 F.slices_symMergeCmpFunc_api_Op.r4 F.slices_symMergeCmpFunc_api_Op.r5 F.slices_symMergeCmpFunc_api_Op.r6 F.slices_symMergeCmpFunc_api_Op.r7 F.slices_symMergeCmpFunc_api_Op.r8 F.slices_symMergeCmpFunc_api_Op.r9 F.slices_symMergeCmpFunc_api_Op.r10 F.slices_symMergeCmpFunc_api_Op.r11 F.slices_symMergeCmpFunc_api_Op.r12 F.slices_symMergeCmpFunc_api_Op.r13 F.slices_symMergeCmpFunc_api_Op.r14 F.slices_symMergeCmpFunc_api_Op.r15 F.slices_symMergeCmpFunc_api_Op.r16 F.slices_symMergeCmpFunc_api_Op.r17 F.slices_symMergeCmpFunc_api_Op.r18 F.slices_symMergeCmpFunc_api_Op.r19 F.slices_symMergeCmpFunc_api_Op.r20 F.slices_symMergeCmpFunc_api_Op.r21 F.slices_symMergeCmpFunc_api_Op.r22 F.slices_symMergeCmpFunc_api_Op.r23 F.slices_symMergeCmpFunc_api_Op.r24 F.slices_symMergeCmpFunc_api_Op.r25 F.slices_symMergeCmpFunc_api_Op.r26 F.slices_symMergeCmpFunc_api_Op.r27 F.slices_symMergeCmpFunc_api_Op.r28 F.slices_symMergeCmpFunc_api_Op.r29 F.slices_symMergeCmpFunc_api_Op.r30 F.slices_symMergeCmpFunc_api_Op.r31 F.slices_symMergeCmpFunc_api_Op.r32 F.slices_symMergeCmpFunc_api_Op.r33 F.slices_symMergeCmpFunc_api_Op.r34 F.slices_symMergeCmpFunc_api_Op.r35 F.slices_symMergeCmpFunc_api_Op.r36 F.slices_symMergeCmpFunc_api_Op.r37 F.slices_symMergeCmpFunc_api_Op.r38 F.slices_symMergeCmpFunc_api_Op.r39 F.slices_symMergeCmpFunc_api_Op.r40 F.slices_symMergeCmpFunc_api_Op.r41 F.slices_symMergeCmpFunc_api_Op.r42 F.slices_symMergeCmpFunc_api_Op.r43 F.slices_symMergeCmpFunc_api_Op.r44 F.slices_symMergeCmpFunc_api_Op.ic F.slices_symMergeCmpFunc_api_Op.rs
attribute [go_sem] F.strings_ContainsRune.r0 F.strings_ContainsRune.r1 F.strings_ContainsRune.ic F.strings_ContainsRune.rs
attribute [go_sem] F.strings_Trim.r0 F.strings_Trim.r1 F.strings_Trim.r2 F.strings_Trim.r3 F.strings_Trim.r4 F.strings_Trim.r6 F.strings_Trim.r7 F.strings_Trim.r8 F.strings_Trim.ic F.strings_Trim.rs
attribute [go_sem] F.strings_asciiSet_contains.r0 F.strings_asciiSet_contains.r1 F.strings_asciiSet_contains.ic F.strings_asciiSet_contains.rs
attribute [go_sem] F.strings_makeASCIISet.r1 F.strings_makeASCIISet.r2 F.strings_makeASCIISet.r3 F.strings_makeASCIISet.r4 F.strings_makeASCIISet.r5 F.strings_makeASCIISet.r6 F.strings_makeASCIISet.r7 F.strings_makeASCIISet.r8 F.strings_makeASCIISet.ic F.strings_makeASCIISet.rs
attribute [go_sem] F.strings_trimLeftASCII.r0 F.strings_trimLeftASCII.r1 F.strings_trimLeftASCII.r2 F.strings_trimLeftASCII.r3 F.strings_trimLeftASCII.r4 F.strings_trimLeftASCII.ic F.strings_trimLeftASCII.rs
attribute [go_sem] F.strings_trimLeftByte.r0 F.strings_trimLeftByte.r1 F.strings_trimLeftByte.r2 F.strings_trimLeftByte.r3 F.strings_trimLeftByte.ic F.strings_trimLeftByte.rs
attribute [go_sem] F.strings_trimLeftUnicode.r0 F.strings_trimLeftUnicode.r1 F.strings_trimLeftUnicode.r2 F.strings_trimLeftUnicode.r3 F.strings_trimLeftUnicode.r4 F.strings_trimLeftUnicode.r5 F.strings_trimLeftUnicode.ic F.strings_trimLeftUnicode.rs
attribute [go_sem] F.strings_trimRightASCII.r0 F.strings_trimRightASCII.r1 F.strings_trimRightASCII.r2 F.strings_trimRightASCII.r3 F.strings_trimRightASCII.r4 F.strings_trimRightASCII.ic F.strings_trimRightASCII.rs
attribute [go_sem] F.strings_trimRightByte.r0 F.strings_trimRightByte.r1 F.strings_trimRightByte.r2 F.strings_trimRightByte.r3 F.strings_trimRightByte.ic F.strings_trimRightByte.rs
attribute [go_sem] F.strings_trimRightUnicode.r0 F.strings_trimRightUnicode.r1 F.strings_trimRightUnicode.r2 F.strings_trimRightUnicode.r3 F.strings_trimRightUnicode.r4 F.strings_trimRightUnicode.r5 F.strings_trimRightUnicode.r6 F.strings_trimRightUnicode.r7 F.strings_trimRightUnicode.ic F.strings_trimRightUnicode.rs
attribute [go_sem] F.utf8_DecodeLastRuneInString.r0 F.utf8_DecodeLastRuneInString.r1 F.utf8_DecodeLastRuneInString.r2 F.utf8_DecodeLastRuneInString.r3 F.utf8_DecodeLastRuneInString.r4 F.utf8_DecodeLastRuneInString.r5 F.utf8_DecodeLastRuneInString.r6 F.utf8_DecodeLastRuneInString.r7 F.utf8_DecodeLastRuneInString.r8 F.utf8_DecodeLastRuneInString.r9 F.utf8_DecodeLastRuneInString.r10 F.utf8_DecodeLastRuneInString.r11 F.utf8_DecodeLastRuneInString.r12 F.utf8_DecodeLastRuneInString.r13 F.utf8_DecodeLastRuneInString.r14 F.utf8_DecodeLastRuneInString.r15 F.utf8_DecodeLastRuneInString.r16 F.utf8_DecodeLastRuneInString.r17 F.utf8_DecodeLastRuneInString.r18 F.utf8_DecodeLastRuneInString.ic F.utf8_DecodeLastRuneInString.rs
attribute [go_sem] F.utf8_DecodeRuneInString.r0 F.utf8_DecodeRuneInString.r1 F.utf8_DecodeRuneInString.r2 F.utf8_DecodeRuneInString.r3 F.utf8_DecodeRuneInString.ic F.utf8_DecodeRuneInString.rs
attribute [go_sem] F.utf8_RuneStart.r0 F.utf8_RuneStart.r1 F.utf8_RuneStart.ic F.utf8_RuneStart.rs
attribute [go_sem] F.utf8_decodeRuneInStringSlow.r0 F.utf8_decodeRuneInStringSlow.r1 F.utf8_decodeRuneInStringSlow.r2 F.utf8_decodeRuneInStringSlow.r3 F.utf8_decodeRuneInStringSlow.r4 F.utf8_decodeRuneInStringSlow.r5 F.utf8_decodeRuneInStringSlow.r6 F.utf8_decodeRuneInStringSlow.r7 F.utf8_decodeRuneInStringSlow.r8 F.utf8_decodeRuneInStringSlow.r9 F.utf8_decodeRuneInStringSlow.r10 F.utf8_decodeRuneInStringSlow.r11 F.utf8_decodeRuneInStringSlow.r12 F.utf8_decodeRuneInStringSlow.r13 F.utf8_decodeRuneInStringSlow.r14 F.utf8_decodeRuneInStringSlow.r15 F.utf8_decodeRuneInStringSlow.r16 F.utf8_decodeRuneInStringSlow.r17 F.utf8_decodeRuneInStringSlow.r18 F.utf8_decodeRuneInStringSlow.r19 F.utf8_decodeRuneInStringSlow.r20 F.utf8_decodeRuneInStringSlow.r21 F.utf8_decodeRuneInStringSlow.r22 F.utf8_decodeRuneInStringSlow.r23 F.utf8_decodeRuneInStringSlow.r24 F.utf8_decodeRuneInStringSlow.r25 F.utf8_decodeRuneInStringSlow.r26 F.utf8_decodeRuneInStringSlow.ic F.utf8_decodeRuneInStringSlow.rs
attribute [go_sem] F.vector_Get.r0 F.vector_Get.r1 F.vector_Get.r2 F.vector_Get.r3 F.vector_Get.r4 F.vector_Get.ic F.vector_Get.rs
attribute [go_sem] F.vector_Get_c1.r0 F.vector_Get_c1.r1 F.vector_Get_c1.ic F.vector_Get_c1.rs
attribute [go_sem] F.vector_Has.r0 F.vector_Has.r1 F.vector_Has.ic F.vector_Has.rs
attribute [go_sem] F.vector_May.r0 F.vector_May.r1 F.vector_May.r2 F.vector_May.r3 F.vector_May.r4 F.vector_May.r5 F.vector_May.r6 F.vector_May.r7 F.vector_May.r8 F.vector_May.r9 F.vector_May.ic F.vector_May.rs
end Go.Osj
