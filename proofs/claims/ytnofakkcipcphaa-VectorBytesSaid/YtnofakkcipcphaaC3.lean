/- The compiled code of functions (printed by a program, checked by the kernel). -/
import Derived.Test.YtnofakkcipcphaaC0
import Derived.Test.YtnofakkcipcphaaOsjN
set_option maxRecDepth 100000
namespace Go.Osj
noncomputable def F.osierlaw04_VectorMay.r0 : Plan :=
  .ef 0 none (.box (.tmp 1)) (some 4) [] (
  .rd 1 none (.mv (.const (.bool false))) (some 6) false <|
  .done) .none
noncomputable def F.osierlaw04_VectorMay.r1 : Plan :=
  .ef 0 none (.call F.osierlaw04_awake []) (some 11) [] (
  .rd 1 none (.mv (.tmp 11)) (some 7) false <|
  .done) .none
noncomputable def F.osierlaw04_VectorMay.r2 : Plan :=
  .rd 0 none (.mv (.tmp 7)) (some 12) false <|
  .rd 1 none (.un .not (.tmp 12)) (some 13) false <|
  .done
noncomputable def F.osierlaw04_VectorMay.r3 : Plan :=
  .rd 0 none (.mv (.const (.bool false))) (some 6) false <|
  .done
noncomputable def F.osierlaw04_VectorMay.r4 : Plan :=
  .rd 0 none (.mv (.tmp 0)) (some 14) false <|
  .rd 1 none (.len .sl (.tmp 14)) (some 15) false <|
  .rd 2 none (.bin .gtr (.tmp 15) (.const (.int .i64 200))) (some 16) false <|
  .done
noncomputable def F.osierlaw04_VectorMay.r5 : Plan :=
  .rd 0 none (.mv (.const (.bool true))) (some 6) false <|
  .done
noncomputable def F.osierlaw04_VectorMay.r6 : Plan :=
  .rd 0 none (.mv (.tmp 2)) (some 17) false <|
  .ef 1 none (.call F.osierref04_Made [(.tmp 17)]) (some 18) [] (
  .rd 2 none (.mv (.tmp 18)) (some 8) false <|
  .done) .none
noncomputable def F.osierlaw04_VectorMay.r7 : Plan :=
  .rd 0 none (.mv (.tmp 0)) (some 19) false <|
  .ef 1 none (.call F.vector_May [(.tmp 19)]) (some 20) [] (
  .rd 2 none (.mv (.tmp 0)) (some 21) false <|
  .ef 3 none (.call F.osierref04_May [(.tmp 21)]) (some 22) [] (
  .rd 4 none (.eqS [.b] false false (.tmp 20) (.tmp 22)) (some 23) false <|
  .rd 5 none (.mv (.tmp 23)) (some 9) false <|
  .done) .none) .none
noncomputable def F.osierlaw04_VectorMay.r8 : Plan :=
  .rd 0 none (.mv (.tmp 8)) (some 24) false <|
  .rd 1 none (.fldA 0 (.tmp 4)) (some 25) false <|
  .rd 2 none (.ld1 (.tmp 25)) (some 26) false <|
  .rd 4 none (.mv (.tmp 8)) (some 28) false <|
  .rd 5 none (.fldA 0 (.tmp 4)) (some 29) false <|
  .rd 6 none (.ld1 (.tmp 29)) (some 30) true <|
  .ef 3 none (.call F.vector_Get [(.tmp 24), (.tmp 26)]) (some 27) [4, 5, 6] (
  .ef 7 none (.call F.osierref04_Get [(.tmp 28), (.tmp 30)]) (some 31) [] (
  .rd 8 none (.bin .eql (.tmp 27) (.tmp 31)) (some 32) false <|
  .rd 9 none (.mv (.tmp 32)) (some 33) false <|
  .rd 10 (some (33, true)) (.mv (.tmp 8)) (some 34) false <|
  .rd 11 (some (33, true)) (.ldn 2 (.tmp 4)) (some 35) false <|
  .rd 13 (some (33, true)) (.mv (.tmp 8)) (some 37) false <|
  .rd 14 (some (33, true)) (.ldn 2 (.tmp 4)) (some 38) true <|
  .ef 12 (some (33, true)) (.call F.vector_Has [(.tmp 34), (.tmp 35)]) (some 36) [13, 14] (
  .ef 15 (some (33, true)) (.call F.osierref04_Has [(.tmp 37), (.tmp 38)]) (some 39) [] (
  .rd 16 (some (33, true)) (.eqS [.b] false false (.tmp 36) (.tmp 39)) (some 40) false <|
  .rd 17 none (.pick (.tmp 33) (.tmp 40) (.const (.bool false))) (some 41) false <|
  .rd 18 none (.mv (.tmp 41)) (some 10) false <|
  .done) .none) .none) .none) .none
noncomputable def F.osierlaw04_VectorMay.r9 : Plan :=
  .rd 0 none (.mv (.tmp 9)) (some 42) false <|
  .rd 1 none (.mv (.tmp 42)) (some 43) false <|
  .rd 2 (some (43, true)) (.mv (.tmp 10)) (some 44) false <|
  .rd 3 none (.pick (.tmp 43) (.tmp 44) (.const (.bool false))) (some 45) false <|
  .rd 4 none (.mv (.tmp 45)) (some 46) false <|
  .rd 5 (some (46, true)) (.mv (.tmp 8)) (some 47) false <|
  .ef 6 (some (46, true)) (.call F.vector_Count [(.tmp 47)]) (some 48) [] (
  .rd 7 (some (46, true)) (.mv (.tmp 8)) (some 49) false <|
  .ef 8 (some (46, true)) (.call F.osierref04_Count [(.tmp 49)]) (some 50) [] (
  .rd 9 (some (46, true)) (.bin .eql (.tmp 48) (.tmp 50)) (some 51) false <|
  .rd 10 none (.pick (.tmp 46) (.tmp 51) (.const (.bool false))) (some 52) false <|
  .rd 11 none (.mv (.tmp 52)) (some 53) false <|
  .rd 12 (some (53, true)) (.mv (.tmp 8)) (some 54) false <|
  .ef 13 (some (53, true)) (.call F.vector_May [(.tmp 54)]) (some 55) [] (
  .rd 14 none (.pick (.tmp 53) (.tmp 55) (.const (.bool false))) (some 56) false <|
  .rd 15 none (.mv (.tmp 56)) (some 6) false <|
  .done) .none) .none) .none
noncomputable def F.osierlaw04_VectorMay.ic : IC :=
    (.seq (.reg F.osierlaw04_VectorMay.r0)
    (.seq (.reg F.osierlaw04_VectorMay.r1)
    (.seq (.seq (.reg F.osierlaw04_VectorMay.r2)
    (.cond (.tmp 13) (.seq (.reg F.osierlaw04_VectorMay.r3)
    .ret) .skip))
    (.seq (.seq (.reg F.osierlaw04_VectorMay.r4)
    (.cond (.tmp 16) (.seq (.reg F.osierlaw04_VectorMay.r5)
    .ret) .skip))
    (.seq (.reg F.osierlaw04_VectorMay.r6)
    (.seq (.reg F.osierlaw04_VectorMay.r7)
    (.seq (.reg F.osierlaw04_VectorMay.r8)
    (.seq (.reg F.osierlaw04_VectorMay.r9)
    .ret))))))))
noncomputable def F.osierlaw04_VectorMay.rs : List RO := [(.mv (.tmp 6))]
theorem F.osierlaw04_VectorMay.ok : cFunc Go.Proofs.Try.prog F.osierlaw04_VectorMay = some (57, F.osierlaw04_VectorMay.ic, F.osierlaw04_VectorMay.rs) := by kernel_rfl
theorem F.osierlaw04_VectorMay.cl : callable Go.Proofs.Try.prog F.osierlaw04_VectorMay = true := by kernel_rfl
noncomputable def F.osierlaw04_VectorLaws.r0 : Plan :=
  .rd 0 none (.mv (.const (.bool false))) (some 6) false <|
  .done
noncomputable def F.osierlaw04_VectorLaws.r1 : Plan :=
  .ef 0 none (.call F.osierlaw04_awake []) (some 19) [] (
  .rd 1 none (.mv (.tmp 19)) (some 7) false <|
  .done) .none
noncomputable def F.osierlaw04_VectorLaws.r2 : Plan :=
  .rd 0 none (.mv (.tmp 7)) (some 20) false <|
  .rd 1 none (.un .not (.tmp 20)) (some 21) false <|
  .done
noncomputable def F.osierlaw04_VectorLaws.r3 : Plan :=
  .rd 0 none (.mv (.const (.bool false))) (some 6) false <|
  .done
noncomputable def F.osierlaw04_VectorLaws.r4 : Plan :=
  .rd 0 none (.mv (.tmp 0)) (some 22) false <|
  .ef 1 none (.call F.osierref04_Made [(.tmp 22)]) (some 23) [] (
  .rd 2 none (.mv (.tmp 23)) (some 8) false <|
  .done) .none
noncomputable def F.osierlaw04_VectorLaws.r5 : Plan :=
  .rd 0 none (.mv (.tmp 1)) (some 24) false <|
  .ef 1 none (.call F.osierref04_Made [(.tmp 24)]) (some 25) [] (
  .rd 2 none (.mv (.tmp 25)) (some 9) false <|
  .done) .none
noncomputable def F.osierlaw04_VectorLaws.r6 : Plan :=
  .rd 0 none (.mv (.tmp 2)) (some 26) false <|
  .ef 1 none (.call F.osierref04_Made [(.tmp 26)]) (some 27) [] (
  .rd 2 none (.mv (.tmp 27)) (some 10) false <|
  .done) .none
noncomputable def F.osierlaw04_VectorLaws.r7 : Plan :=
  .rd 0 none (.mv (.tmp 0)) (some 28) false <|
  .ef 1 none (.call F.osierref04_Made [(.tmp 28)]) (some 29) [] (
  .rd 2 none (.mv (.tmp 29)) (some 11) false <|
  .done) .none
noncomputable def F.osierlaw04_VectorLaws.r8 : Plan :=
  .rd 0 none (.mv (.tmp 8)) (some 30) false <|
  .rd 1 none (.mv (.tmp 9)) (some 31) false <|
  .ef 2 none (.call F.vector_Join [(.tmp 30), (.tmp 31)]) (some 32) [] (
  .rd 3 none (.mv (.tmp 32)) (some 12) false <|
  .done) .none
noncomputable def F.osierlaw04_VectorLaws.r9 : Plan :=
  .rd 0 none (.mv (.tmp 8)) (some 33) false <|
  .rd 1 none (.mv (.tmp 9)) (some 34) false <|
  .ef 2 none (.call F.vector_Meet [(.tmp 33), (.tmp 34)]) (some 35) [] (
  .rd 3 none (.mv (.tmp 35)) (some 13) false <|
  .done) .none
noncomputable def F.osierlaw04_VectorLaws.r10 : Plan :=
  .rd 0 none (.mv (.tmp 8)) (some 36) false <|
  .rd 1 none (.mv (.tmp 12)) (some 37) false <|
  .ef 2 none (.call F.vector_Below [(.tmp 36), (.tmp 37)]) (some 38) [] (
  .rd 3 none (.mv (.tmp 38)) (some 39) false <|
  .rd 4 (some (39, true)) (.mv (.tmp 9)) (some 40) false <|
  .rd 5 (some (39, true)) (.mv (.tmp 12)) (some 41) false <|
  .ef 6 (some (39, true)) (.call F.vector_Below [(.tmp 40), (.tmp 41)]) (some 42) [] (
  .rd 7 none (.pick (.tmp 39) (.tmp 42) (.const (.bool false))) (some 43) false <|
  .rd 8 none (.mv (.tmp 43)) (some 44) false <|
  .rd 9 (some (44, true)) (.mv (.tmp 13)) (some 45) false <|
  .rd 10 (some (44, true)) (.mv (.tmp 8)) (some 46) false <|
  .ef 11 (some (44, true)) (.call F.vector_Below [(.tmp 45), (.tmp 46)]) (some 47) [] (
  .rd 12 none (.pick (.tmp 44) (.tmp 47) (.const (.bool false))) (some 48) false <|
  .rd 13 none (.mv (.tmp 48)) (some 49) false <|
  .rd 14 (some (49, true)) (.mv (.tmp 13)) (some 50) false <|
  .rd 15 (some (49, true)) (.mv (.tmp 9)) (some 51) false <|
  .ef 16 (some (49, true)) (.call F.vector_Below [(.tmp 50), (.tmp 51)]) (some 52) [] (
  .rd 17 none (.pick (.tmp 49) (.tmp 52) (.const (.bool false))) (some 53) false <|
  .rd 18 none (.mv (.tmp 53)) (some 54) false <|
  .rd 19 (some (54, true)) (.mv (.tmp 12)) (some 55) false <|
  .ef 20 (some (54, true)) (.call F.vector_May [(.tmp 55)]) (some 56) [] (
  .rd 21 none (.pick (.tmp 54) (.tmp 56) (.const (.bool false))) (some 57) false <|
  .rd 22 none (.mv (.tmp 57)) (some 58) false <|
  .rd 23 (some (58, true)) (.mv (.tmp 13)) (some 59) false <|
  .ef 24 (some (58, true)) (.call F.vector_May [(.tmp 59)]) (some 60) [] (
  .rd 25 none (.pick (.tmp 58) (.tmp 60) (.const (.bool false))) (some 61) false <|
  .rd 26 none (.mv (.tmp 61)) (some 14) false <|
  .done) .none) .none) .none) .none) .none) .none
noncomputable def F.osierlaw04_VectorLaws.r11 : Plan :=
  .rd 0 none (.mv (.tmp 12)) (some 62) false <|
  .rd 1 none (.mv (.tmp 9)) (some 63) false <|
  .rd 2 none (.mv (.tmp 8)) (some 64) false <|
  .ef 3 none (.call F.vector_Join [(.tmp 63), (.tmp 64)]) (some 65) [] (
  .ef 4 none (.call F.vector_Same [(.tmp 62), (.tmp 65)]) (some 66) [] (
  .rd 5 none (.mv (.tmp 66)) (some 67) false <|
  .rd 6 (some (67, true)) (.mv (.tmp 13)) (some 68) false <|
  .rd 7 (some (67, true)) (.mv (.tmp 9)) (some 69) false <|
  .rd 8 (some (67, true)) (.mv (.tmp 8)) (some 70) false <|
  .ef 9 (some (67, true)) (.call F.vector_Meet [(.tmp 69), (.tmp 70)]) (some 71) [] (
  .ef 10 (some (67, true)) (.call F.vector_Same [(.tmp 68), (.tmp 71)]) (some 72) [] (
  .rd 11 none (.pick (.tmp 67) (.tmp 72) (.const (.bool false))) (some 73) false <|
  .rd 12 none (.mv (.tmp 73)) (some 15) false <|
  .done) .none) .none) .none) .none
noncomputable def F.osierlaw04_VectorLaws.r12 : Plan :=
  .rd 0 none (.mv (.tmp 8)) (some 74) false <|
  .rd 1 none (.mv (.tmp 10)) (some 75) false <|
  .ef 2 none (.call F.vector_Below [(.tmp 74), (.tmp 75)]) (some 76) [] (
  .rd 3 none (.un .not (.tmp 76)) (some 77) false <|
  .rd 4 none (.mv (.tmp 77)) (some 78) false <|
  .rd 5 (some (78, false)) (.mv (.tmp 9)) (some 79) false <|
  .rd 6 (some (78, false)) (.mv (.tmp 10)) (some 80) false <|
  .ef 7 (some (78, false)) (.call F.vector_Below [(.tmp 79), (.tmp 80)]) (some 81) [] (
  .rd 8 (some (78, false)) (.un .not (.tmp 81)) (some 82) false <|
  .rd 9 none (.pick (.tmp 78) (.const (.bool true)) (.tmp 82)) (some 83) false <|
  .rd 10 none (.mv (.tmp 83)) (some 84) false <|
  .rd 11 (some (84, false)) (.mv (.tmp 12)) (some 85) false <|
  .rd 12 (some (84, false)) (.mv (.tmp 10)) (some 86) false <|
  .ef 13 (some (84, false)) (.call F.vector_Below [(.tmp 85), (.tmp 86)]) (some 87) [] (
  .rd 14 none (.pick (.tmp 84) (.const (.bool true)) (.tmp 87)) (some 88) false <|
  .rd 15 none (.mv (.tmp 88)) (some 89) false <|
  .rd 16 (some (89, true)) (.mv (.tmp 10)) (some 90) false <|
  .rd 17 (some (89, true)) (.mv (.tmp 8)) (some 91) false <|
  .ef 18 (some (89, true)) (.call F.vector_Below [(.tmp 90), (.tmp 91)]) (some 92) [] (
  .rd 19 (some (89, true)) (.un .not (.tmp 92)) (some 93) false <|
  .rd 20 (some (89, true)) (.mv (.tmp 93)) (some 94) false <|
  .rd 21 (some (94, false)) (.mv (.tmp 10)) (some 95) false <|
  .rd 22 (some (94, false)) (.mv (.tmp 9)) (some 96) false <|
  .ef 23 (some (94, false)) (.call F.vector_Below [(.tmp 95), (.tmp 96)]) (some 97) [] (
  .rd 24 (some (94, false)) (.un .not (.tmp 97)) (some 98) false <|
  .rd 25 (some (89, true)) (.pick (.tmp 94) (.const (.bool true)) (.tmp 98)) (some 99) false <|
  .rd 26 (some (89, true)) (.mv (.tmp 99)) (some 100) false <|
  .rd 27 (some (100, false)) (.mv (.tmp 10)) (some 101) false <|
  .rd 28 (some (100, false)) (.mv (.tmp 13)) (some 102) false <|
  .ef 29 (some (100, false)) (.call F.vector_Below [(.tmp 101), (.tmp 102)]) (some 103) [] (
  .rd 30 (some (89, true)) (.pick (.tmp 100) (.const (.bool true)) (.tmp 103)) (some 104) false <|
  .rd 31 none (.pick (.tmp 89) (.tmp 104) (.const (.bool false))) (some 105) false <|
  .rd 32 none (.mv (.tmp 105)) (some 16) false <|
  .done) .none) .none) .none) .none) .none) .none
noncomputable def F.osierlaw04_VectorLaws.r13 : Plan :=
  .rd 0 none (.mv (.tmp 12)) (some 106) false <|
  .rd 1 none (.mv (.tmp 10)) (some 107) false <|
  .ef 2 none (.call F.vector_Join [(.tmp 106), (.tmp 107)]) (some 108) [] (
  .rd 3 none (.mv (.tmp 8)) (some 109) false <|
  .rd 4 none (.mv (.tmp 9)) (some 110) false <|
  .rd 5 none (.mv (.tmp 10)) (some 111) false <|
  .ef 6 none (.call F.vector_Join [(.tmp 110), (.tmp 111)]) (some 112) [] (
  .ef 7 none (.call F.vector_Join [(.tmp 109), (.tmp 112)]) (some 113) [] (
  .ef 8 none (.call F.vector_Same [(.tmp 108), (.tmp 113)]) (some 114) [] (
  .rd 9 none (.mv (.tmp 114)) (some 115) false <|
  .rd 10 (some (115, true)) (.mv (.tmp 8)) (some 116) false <|
  .rd 11 (some (115, true)) (.mv (.tmp 8)) (some 117) false <|
  .ef 12 (some (115, true)) (.call F.vector_Join [(.tmp 116), (.tmp 117)]) (some 118) [] (
  .rd 13 (some (115, true)) (.mv (.tmp 8)) (some 119) false <|
  .ef 14 (some (115, true)) (.call F.vector_Same [(.tmp 118), (.tmp 119)]) (some 120) [] (
  .rd 15 none (.pick (.tmp 115) (.tmp 120) (.const (.bool false))) (some 121) false <|
  .rd 16 none (.mv (.tmp 121)) (some 122) false <|
  .rd 17 (some (122, true)) (.mv (.tmp 8)) (some 123) false <|
  .rd 18 (some (122, true)) (.mv (.tmp 13)) (some 124) false <|
  .ef 19 (some (122, true)) (.call F.vector_Join [(.tmp 123), (.tmp 124)]) (some 125) [] (
  .rd 20 (some (122, true)) (.mv (.tmp 8)) (some 126) false <|
  .ef 21 (some (122, true)) (.call F.vector_Same [(.tmp 125), (.tmp 126)]) (some 127) [] (
  .rd 22 none (.pick (.tmp 122) (.tmp 127) (.const (.bool false))) (some 128) false <|
  .rd 23 none (.mv (.tmp 128)) (some 17) false <|
  .done) .none) .none) .none) .none) .none) .none) .none) .none
noncomputable def F.osierlaw04_VectorLaws.r14 : Plan :=
  .rd 0 none (.mv (.const (.int .i64 0))) (some 18) false <|
  .done
noncomputable def F.osierlaw04_VectorLaws.r15 : Plan :=
  .rd 0 none (.mv (.tmp 18)) (some 129) false <|
  .rd 1 none (.mv (.tmp 12)) (some 130) false <|
  .rd 2 none (.len .sl (.tmp 130)) (some 131) false <|
  .rd 3 none (.bin .lss (.tmp 129) (.tmp 131)) (some 132) false <|
  .done
noncomputable def F.osierlaw04_VectorLaws.r16 : Plan :=
  .rd 0 none (.mv (.tmp 12)) (some 135) false <|
  .rd 1 none (.mv (.tmp 18)) (some 136) false <|
  .rd 2 none (.idxA 2 (.tmp 135) (.tmp 136)) (some 137) false <|
  .rd 3 none (.fldA 1 (.tmp 137)) (some 138) false <|
  .ef 4 none (.st 1 (.tmp 138) (.const (.int .i64 77))) none [] (
  .done) .none
noncomputable def F.osierlaw04_VectorLaws.r17 : Plan :=
  .rd 0 none (.mv (.tmp 18)) (some 133) false <|
  .rd 1 none (.bin .add (.tmp 133) (.const (.int .i64 1))) (some 134) false <|
  .rd 2 none (.mv (.tmp 134)) (some 18) false <|
  .done
noncomputable def F.osierlaw04_VectorLaws.l0 : IC :=
    (.seq (.seq (.reg F.osierlaw04_VectorLaws.r15)
    (.cond (.tmp 132) .skip (.exit 0)))
    (.seq (.block 1 (.reg F.osierlaw04_VectorLaws.r16))
    (.reg F.osierlaw04_VectorLaws.r17)))
noncomputable def F.osierlaw04_VectorLaws.r18 : Plan :=
  .rd 0 none (.mv (.tmp 14)) (some 139) false <|
  .rd 1 none (.mv (.tmp 139)) (some 140) false <|
  .rd 2 (some (140, true)) (.mv (.tmp 15)) (some 141) false <|
  .rd 3 none (.pick (.tmp 140) (.tmp 141) (.const (.bool false))) (some 142) false <|
  .rd 4 none (.mv (.tmp 142)) (some 143) false <|
  .rd 5 (some (143, true)) (.mv (.tmp 16)) (some 144) false <|
  .rd 6 none (.pick (.tmp 143) (.tmp 144) (.const (.bool false))) (some 145) false <|
  .rd 7 none (.mv (.tmp 145)) (some 146) false <|
  .rd 8 (some (146, true)) (.mv (.tmp 17)) (some 147) false <|
  .rd 9 none (.pick (.tmp 146) (.tmp 147) (.const (.bool false))) (some 148) false <|
  .rd 10 none (.mv (.tmp 148)) (some 149) false <|
  .rd 11 (some (149, true)) (.mv (.tmp 8)) (some 150) false <|
  .rd 12 (some (149, true)) (.mv (.tmp 11)) (some 151) false <|
  .ef 13 (some (149, true)) (.call F.osierref04_Same [(.tmp 150), (.tmp 151)]) (some 152) [] (
  .rd 14 none (.pick (.tmp 149) (.tmp 152) (.const (.bool false))) (some 153) false <|
  .rd 15 none (.mv (.tmp 153)) (some 6) false <|
  .done) .none
noncomputable def F.osierlaw04_VectorLaws.ic : IC :=
    (.seq (.reg F.osierlaw04_VectorLaws.r0)
    (.seq (.reg F.osierlaw04_VectorLaws.r1)
    (.seq (.seq (.reg F.osierlaw04_VectorLaws.r2)
    (.cond (.tmp 21) (.seq (.reg F.osierlaw04_VectorLaws.r3)
    .ret) .skip))
    (.seq (.reg F.osierlaw04_VectorLaws.r4)
    (.seq (.reg F.osierlaw04_VectorLaws.r5)
    (.seq (.reg F.osierlaw04_VectorLaws.r6)
    (.seq (.reg F.osierlaw04_VectorLaws.r7)
    (.seq (.reg F.osierlaw04_VectorLaws.r8)
    (.seq (.reg F.osierlaw04_VectorLaws.r9)
    (.seq (.reg F.osierlaw04_VectorLaws.r10)
    (.seq (.reg F.osierlaw04_VectorLaws.r11)
    (.seq (.reg F.osierlaw04_VectorLaws.r12)
    (.seq (.reg F.osierlaw04_VectorLaws.r13)
    (.seq (.seq (.reg F.osierlaw04_VectorLaws.r14)
    (.block 0 (.loop F.osierlaw04_VectorLaws.l0)))
    (.seq (.reg F.osierlaw04_VectorLaws.r18)
    .ret)))))))))))))))
noncomputable def F.osierlaw04_VectorLaws.rs : List RO := [(.mv (.tmp 6))]
theorem F.osierlaw04_VectorLaws.ok : cFunc Go.Proofs.Try.prog F.osierlaw04_VectorLaws = some (154, F.osierlaw04_VectorLaws.ic, F.osierlaw04_VectorLaws.rs) := by kernel_rfl
theorem F.osierlaw04_VectorLaws.cl : callable Go.Proofs.Try.prog F.osierlaw04_VectorLaws = true := by kernel_rfl
noncomputable def F.osierlaw04_VectorWith.r0 : Plan :=
  .ef 0 none (.box (.tmp 1)) (some 4) [] (
  .ef 1 none (.box (.tmp 2)) (some 5) [] (
  .rd 2 none (.mv (.const (.bool false))) (some 6) false <|
  .done) .none) .none
noncomputable def F.osierlaw04_VectorWith.r1 : Plan :=
  .ef 0 none (.call F.osierlaw04_awake []) (some 14) [] (
  .rd 1 none (.mv (.tmp 14)) (some 7) false <|
  .done) .none
noncomputable def F.osierlaw04_VectorWith.r2 : Plan :=
  .rd 0 none (.mv (.tmp 7)) (some 15) false <|
  .rd 1 none (.un .not (.tmp 15)) (some 16) false <|
  .done
noncomputable def F.osierlaw04_VectorWith.r3 : Plan :=
  .rd 0 none (.mv (.const (.bool false))) (some 6) false <|
  .done
noncomputable def F.osierlaw04_VectorWith.r4 : Plan :=
  .rd 0 none (.mv (.tmp 0)) (some 17) false <|
  .ef 1 none (.call F.osierref04_Made [(.tmp 17)]) (some 18) [] (
  .rd 2 none (.mv (.tmp 18)) (some 8) false <|
  .done) .none
noncomputable def F.osierlaw04_VectorWith.r5 : Plan :=
  .rd 0 none (.mv (.tmp 8)) (some 19) false <|
  .rd 1 none (.ldn 2 (.tmp 4)) (some 20) false <|
  .ef 2 none (.call F.vector_With [(.tmp 19), (.tmp 20)]) (some 21) [] (
  .rd 3 none (.mv (.tmp 21)) (some 9) false <|
  .done) .none
noncomputable def F.osierlaw04_VectorWith.r6 : Plan :=
  .rd 0 none (.ldn 2 (.tmp 4)) (some 22) false <|
  .ef 1 none (.call F.osierref03_May [(.tmp 22)]) (some 23) [] (
  .rd 2 none (.mv (.tmp 23)) (some 10) false <|
  .done) .none
noncomputable def F.osierlaw04_VectorWith.r7 : Plan :=
  .rd 0 none (.mv (.tmp 10)) (some 24) false <|
  .rd 1 none (.un .not (.tmp 24)) (some 25) false <|
  .done
noncomputable def F.osierlaw04_VectorWith.r8 : Plan :=
  .rd 0 none (.mv (.tmp 8)) (some 26) false <|
  .rd 1 none (.mv (.tmp 9)) (some 27) false <|
  .ef 2 none (.call F.vector_Same [(.tmp 26), (.tmp 27)]) (some 28) [] (
  .rd 3 none (.mv (.tmp 28)) (some 6) false <|
  .done) .none
noncomputable def F.osierlaw04_VectorWith.r9 : Plan :=
  .rd 0 none (.ldn 2 (.tmp 4)) (some 29) false <|
  .ef 1 none (.alloc [(.int .i64 0), (.int .i64 0)]) (some 11) [] (
  .ef 2 none (.st 2 (.tmp 11) (.tmp 29)) none [] (
  .done) .none) .none
noncomputable def F.osierlaw04_VectorWith.r10 : Plan :=
  .rd 0 none (.fldA 1 (.tmp 4)) (some 30) false <|
  .rd 1 none (.ld1 (.tmp 30)) (some 31) false <|
  .rd 2 none (.bin .sub (.tmp 31) (.const (.int .i64 1))) (some 32) false <|
  .rd 3 none (.bin .quo (.tmp 32) (.const (.int .i64 2))) (some 33) false <|
  .rd 4 none (.bin .add (.const (.int .i64 1)) (.tmp 33)) (some 34) false <|
  .rd 5 none (.fldA 1 (.tmp 11)) (some 35) false <|
  .ef 6 none (.st 1 (.tmp 35) (.tmp 34)) none [] (
  .done) .none
noncomputable def F.osierlaw04_VectorWith.r11 : Plan :=
  .rd 0 none (.ldn 2 (.tmp 4)) (some 36) false <|
  .ef 1 none (.alloc [(.int .i64 0), (.int .i64 0)]) (some 12) [] (
  .ef 2 none (.st 2 (.tmp 12) (.tmp 36)) none [] (
  .done) .none) .none
noncomputable def F.osierlaw04_VectorWith.r12 : Plan :=
  .rd 0 none (.fldA 1 (.tmp 4)) (some 37) false <|
  .rd 1 none (.ld1 (.tmp 37)) (some 38) false <|
  .rd 2 none (.bin .add (.tmp 38) (.const (.int .i64 1))) (some 39) false <|
  .rd 3 none (.fldA 1 (.tmp 12)) (some 40) false <|
  .ef 4 none (.st 1 (.tmp 40) (.tmp 39)) none [] (
  .done) .none
noncomputable def F.osierlaw04_VectorWith.r13 : Plan :=
  .rd 0 none (.fldA 0 (.tmp 5)) (some 41) false <|
  .rd 1 none (.ld1 (.tmp 41)) (some 42) false <|
  .rd 2 none (.fldA 0 (.tmp 4)) (some 43) false <|
  .rd 3 none (.ld1 (.tmp 43)) (some 44) false <|
  .rd 4 none (.bin .eql (.tmp 42) (.tmp 44)) (some 45) false <|
  .rd 5 none (.mv (.tmp 45)) (some 46) false <|
  .rd 6 (some (46, false)) (.mv (.tmp 9)) (some 47) false <|
  .rd 7 (some (46, false)) (.ldn 2 (.tmp 5)) (some 48) false <|
  .rd 9 (some (46, false)) (.mv (.tmp 8)) (some 50) false <|
  .rd 10 (some (46, false)) (.ldn 2 (.tmp 5)) (some 51) true <|
  .ef 8 (some (46, false)) (.call F.vector_Has [(.tmp 47), (.tmp 48)]) (some 49) [9, 10] (
  .ef 11 (some (46, false)) (.call F.vector_Has [(.tmp 50), (.tmp 51)]) (some 52) [] (
  .rd 12 (some (46, false)) (.eqS [.b] false false (.tmp 49) (.tmp 52)) (some 53) false <|
  .rd 13 none (.pick (.tmp 46) (.const (.bool true)) (.tmp 53)) (some 54) false <|
  .rd 14 none (.mv (.tmp 54)) (some 13) false <|
  .done) .none) .none
noncomputable def F.osierlaw04_VectorWith.r14 : Plan :=
  .rd 0 none (.mv (.tmp 9)) (some 55) false <|
  .ef 1 none (.call F.vector_May [(.tmp 55)]) (some 56) [] (
  .rd 2 none (.mv (.tmp 56)) (some 57) false <|
  .rd 3 (some (57, true)) (.mv (.tmp 9)) (some 58) false <|
  .rd 4 (some (57, true)) (.ldn 2 (.tmp 4)) (some 59) false <|
  .ef 5 (some (57, true)) (.call F.vector_Has [(.tmp 58), (.tmp 59)]) (some 60) [] (
  .rd 6 none (.pick (.tmp 57) (.tmp 60) (.const (.bool false))) (some 61) false <|
  .rd 7 none (.mv (.tmp 61)) (some 62) false <|
  .rd 8 (some (62, true)) (.mv (.tmp 9)) (some 63) false <|
  .rd 9 (some (62, true)) (.ldn 2 (.tmp 11)) (some 64) false <|
  .ef 10 (some (62, true)) (.call F.vector_Has [(.tmp 63), (.tmp 64)]) (some 65) [] (
  .rd 11 none (.pick (.tmp 62) (.tmp 65) (.const (.bool false))) (some 66) false <|
  .rd 12 none (.mv (.tmp 66)) (some 67) false <|
  .rd 13 (some (67, true)) (.mv (.tmp 8)) (some 68) false <|
  .rd 14 (some (67, true)) (.mv (.tmp 9)) (some 69) false <|
  .ef 15 (some (67, true)) (.call F.vector_Below [(.tmp 68), (.tmp 69)]) (some 70) [] (
  .rd 16 none (.pick (.tmp 67) (.tmp 70) (.const (.bool false))) (some 71) false <|
  .rd 17 none (.mv (.tmp 71)) (some 72) false <|
  .rd 18 (some (72, true)) (.mv (.tmp 13)) (some 73) false <|
  .rd 19 none (.pick (.tmp 72) (.tmp 73) (.const (.bool false))) (some 74) false <|
  .rd 20 none (.mv (.tmp 74)) (some 75) false <|
  .rd 21 (some (75, true)) (.mv (.tmp 9)) (some 76) false <|
  .rd 22 (some (75, true)) (.ldn 2 (.tmp 12)) (some 77) false <|
  .rd 24 (some (75, true)) (.mv (.tmp 8)) (some 79) false <|
  .rd 25 (some (75, true)) (.ldn 2 (.tmp 12)) (some 80) true <|
  .ef 23 (some (75, true)) (.call F.vector_Has [(.tmp 76), (.tmp 77)]) (some 78) [24, 25] (
  .ef 26 (some (75, true)) (.call F.vector_Has [(.tmp 79), (.tmp 80)]) (some 81) [] (
  .rd 27 (some (75, true)) (.eqS [.b] false false (.tmp 78) (.tmp 81)) (some 82) false <|
  .rd 28 none (.pick (.tmp 75) (.tmp 82) (.const (.bool false))) (some 83) false <|
  .rd 29 none (.mv (.tmp 83)) (some 84) false <|
  .rd 30 (some (84, true)) (.mv (.tmp 9)) (some 85) false <|
  .rd 31 (some (84, true)) (.ldn 2 (.tmp 4)) (some 86) false <|
  .rd 33 (some (84, true)) (.mv (.tmp 9)) (some 88) false <|
  .ef 32 (some (84, true)) (.call F.vector_With [(.tmp 85), (.tmp 86)]) (some 87) [33] (
  .ef 34 (some (84, true)) (.call F.vector_Same [(.tmp 87), (.tmp 88)]) (some 89) [] (
  .rd 35 none (.pick (.tmp 84) (.tmp 89) (.const (.bool false))) (some 90) false <|
  .rd 36 none (.mv (.tmp 90)) (some 6) false <|
  .done) .none) .none) .none) .none) .none) .none) .none) .none
noncomputable def F.osierlaw04_VectorWith.ic : IC :=
    (.seq (.reg F.osierlaw04_VectorWith.r0)
    (.seq (.reg F.osierlaw04_VectorWith.r1)
    (.seq (.seq (.reg F.osierlaw04_VectorWith.r2)
    (.cond (.tmp 16) (.seq (.reg F.osierlaw04_VectorWith.r3)
    .ret) .skip))
    (.seq (.reg F.osierlaw04_VectorWith.r4)
    (.seq (.reg F.osierlaw04_VectorWith.r5)
    (.seq (.reg F.osierlaw04_VectorWith.r6)
    (.seq (.seq (.reg F.osierlaw04_VectorWith.r7)
    (.cond (.tmp 25) (.seq (.reg F.osierlaw04_VectorWith.r8)
    .ret) .skip))
    (.seq (.reg F.osierlaw04_VectorWith.r9)
    (.seq (.reg F.osierlaw04_VectorWith.r10)
    (.seq (.reg F.osierlaw04_VectorWith.r11)
    (.seq (.reg F.osierlaw04_VectorWith.r12)
    (.seq (.reg F.osierlaw04_VectorWith.r13)
    (.seq (.reg F.osierlaw04_VectorWith.r14)
    .ret)))))))))))))
noncomputable def F.osierlaw04_VectorWith.rs : List RO := [(.mv (.tmp 6))]
theorem F.osierlaw04_VectorWith.ok : cFunc Go.Proofs.Try.prog F.osierlaw04_VectorWith = some (91, F.osierlaw04_VectorWith.ic, F.osierlaw04_VectorWith.rs) := by kernel_rfl
theorem F.osierlaw04_VectorWith.cl : callable Go.Proofs.Try.prog F.osierlaw04_VectorWith = true := by kernel_rfl
noncomputable def F.osierlaw04_VectorMissing.r0 : Plan :=
  .rd 0 none (.mv (.const (.bool false))) (some 4) false <|
  .done
noncomputable def F.osierlaw04_VectorMissing.r1 : Plan :=
  .ef 0 none (.call F.osierlaw04_awake []) (some 12) [] (
  .rd 1 none (.mv (.tmp 12)) (some 5) false <|
  .done) .none
noncomputable def F.osierlaw04_VectorMissing.r2 : Plan :=
  .rd 0 none (.mv (.tmp 5)) (some 13) false <|
  .rd 1 none (.un .not (.tmp 13)) (some 14) false <|
  .done
noncomputable def F.osierlaw04_VectorMissing.r3 : Plan :=
  .rd 0 none (.mv (.const (.bool false))) (some 4) false <|
  .done
noncomputable def F.osierlaw04_VectorMissing.r4 : Plan :=
  .rd 0 none (.mv (.tmp 0)) (some 15) false <|
  .ef 1 none (.call F.osierref04_Made [(.tmp 15)]) (some 16) [] (
  .rd 2 none (.mv (.tmp 16)) (some 6) false <|
  .done) .none
noncomputable def F.osierlaw04_VectorMissing.r5 : Plan :=
  .rd 0 none (.mv (.tmp 1)) (some 17) false <|
  .ef 1 none (.call F.osierref04_Made [(.tmp 17)]) (some 18) [] (
  .rd 2 none (.mv (.tmp 18)) (some 7) false <|
  .done) .none
noncomputable def F.osierlaw04_VectorMissing.r6 : Plan :=
  .rd 0 none (.mv (.tmp 6)) (some 19) false <|
  .rd 1 none (.mv (.tmp 7)) (some 20) false <|
  .ef 2 none (.call F.vector_Missing [(.tmp 19), (.tmp 20), (.const (.int .i64 2000))]) (some 21) [] (
  .rd 3 none (.mv (.tmp 21)) (some 8) false <|
  .done) .none
noncomputable def F.osierlaw04_VectorMissing.r7 : Plan :=
  .rd 0 none (.mv (.tmp 8)) (some 22) false <|
  .rd 1 none (.len .sl (.tmp 22)) (some 23) false <|
  .rd 2 none (.bin .geq (.tmp 23) (.const (.int .i64 2000))) (some 24) false <|
  .done
noncomputable def F.osierlaw04_VectorMissing.r8 : Plan :=
  .rd 0 none (.mv (.const (.bool true))) (some 4) false <|
  .done
noncomputable def F.osierlaw04_VectorMissing.r9 : Plan :=
  .rd 0 none (.mv (.tmp 7)) (some 25) false <|
  .rd 1 none (.mv (.tmp 25)) (some 9) false <|
  .done
noncomputable def F.osierlaw04_VectorMissing.r10 : Plan :=
  .rd 0 none (.mv (.const (.int .i64 0))) (some 10) false <|
  .done
noncomputable def F.osierlaw04_VectorMissing.r11 : Plan :=
  .rd 0 none (.mv (.tmp 10)) (some 26) false <|
  .rd 1 none (.mv (.tmp 8)) (some 27) false <|
  .rd 2 none (.len .sl (.tmp 27)) (some 28) false <|
  .rd 3 none (.bin .lss (.tmp 26) (.tmp 28)) (some 29) false <|
  .done
noncomputable def F.osierlaw04_VectorMissing.r12 : Plan :=
  .rd 0 none (.mv (.tmp 6)) (some 32) false <|
  .rd 1 none (.mv (.tmp 8)) (some 33) false <|
  .rd 2 none (.mv (.tmp 10)) (some 34) false <|
  .rd 3 none (.idxA 2 (.tmp 33) (.tmp 34)) (some 35) false <|
  .rd 4 none (.ldn 2 (.tmp 35)) (some 36) false <|
  .ef 5 none (.call F.vector_Has [(.tmp 32), (.tmp 36)]) (some 37) [] (
  .rd 6 none (.un .not (.tmp 37)) (some 38) false <|
  .rd 7 none (.mv (.tmp 38)) (some 39) false <|
  .rd 8 (some (39, false)) (.mv (.tmp 7)) (some 40) false <|
  .rd 9 (some (39, false)) (.mv (.tmp 8)) (some 41) false <|
  .rd 10 (some (39, false)) (.mv (.tmp 10)) (some 42) false <|
  .rd 11 (some (39, false)) (.idxA 2 (.tmp 41) (.tmp 42)) (some 43) false <|
  .rd 12 (some (39, false)) (.ldn 2 (.tmp 43)) (some 44) false <|
  .ef 13 (some (39, false)) (.call F.vector_Has [(.tmp 40), (.tmp 44)]) (some 45) [] (
  .rd 14 none (.pick (.tmp 39) (.const (.bool true)) (.tmp 45)) (some 46) false <|
  .rd 15 none (.mv (.tmp 46)) (some 47) false <|
  .rd 16 (some (47, false)) (.mv (.tmp 10)) (some 48) false <|
  .rd 17 (some (47, false)) (.bin .gtr (.tmp 48) (.const (.int .i64 0))) (some 49) false <|
  .rd 18 (some (47, false)) (.mv (.tmp 49)) (some 50) false <|
  .rd 19 (some (50, true)) (.mv (.tmp 8)) (some 51) false <|
  .rd 20 (some (50, true)) (.mv (.tmp 10)) (some 52) false <|
  .rd 21 (some (50, true)) (.bin .sub (.tmp 52) (.const (.int .i64 1))) (some 53) false <|
  .rd 22 (some (50, true)) (.idxA 2 (.tmp 51) (.tmp 53)) (some 54) false <|
  .rd 23 (some (50, true)) (.ldn 2 (.tmp 54)) (some 55) false <|
  .rd 24 (some (50, true)) (.mv (.tmp 8)) (some 56) false <|
  .rd 25 (some (50, true)) (.mv (.tmp 10)) (some 57) false <|
  .rd 26 (some (50, true)) (.idxA 2 (.tmp 56) (.tmp 57)) (some 58) false <|
  .rd 27 (some (50, true)) (.ldn 2 (.tmp 58)) (some 59) false <|
  .ef 28 (some (50, true)) (.call F.osierref03_Less [(.tmp 55), (.tmp 59)]) (some 60) [] (
  .rd 29 (some (50, true)) (.un .not (.tmp 60)) (some 61) false <|
  .rd 30 (some (47, false)) (.pick (.tmp 50) (.tmp 61) (.const (.bool false))) (some 62) false <|
  .rd 31 none (.pick (.tmp 47) (.const (.bool true)) (.tmp 62)) (some 63) false <|
  .done) .none) .none) .none
noncomputable def F.osierlaw04_VectorMissing.r13 : Plan :=
  .rd 0 none (.mv (.const (.bool false))) (some 4) false <|
  .done
noncomputable def F.osierlaw04_VectorMissing.r14 : Plan :=
  .rd 0 none (.mv (.tmp 9)) (some 64) false <|
  .rd 1 none (.mv (.tmp 8)) (some 65) false <|
  .rd 2 none (.mv (.tmp 10)) (some 66) false <|
  .rd 3 none (.idxA 2 (.tmp 65) (.tmp 66)) (some 67) false <|
  .rd 4 none (.ldn 2 (.tmp 67)) (some 68) false <|
  .ef 5 none (.call F.vector_With [(.tmp 64), (.tmp 68)]) (some 69) [] (
  .rd 6 none (.mv (.tmp 69)) (some 9) false <|
  .done) .none
noncomputable def F.osierlaw04_VectorMissing.r15 : Plan :=
  .rd 0 none (.mv (.tmp 10)) (some 30) false <|
  .rd 1 none (.bin .add (.tmp 30) (.const (.int .i64 1))) (some 31) false <|
  .rd 2 none (.mv (.tmp 31)) (some 10) false <|
  .done
noncomputable def F.osierlaw04_VectorMissing.l0 : IC :=
    (.seq (.seq (.reg F.osierlaw04_VectorMissing.r11)
    (.cond (.tmp 29) .skip (.exit 0)))
    (.seq (.block 1 (.seq (.seq (.reg F.osierlaw04_VectorMissing.r12)
    (.cond (.tmp 63) (.seq (.reg F.osierlaw04_VectorMissing.r13)
    .ret) .skip))
    (.reg F.osierlaw04_VectorMissing.r14)))
    (.reg F.osierlaw04_VectorMissing.r15)))
noncomputable def F.osierlaw04_VectorMissing.r16 : Plan :=
  .rd 0 none (.mv (.tmp 6)) (some 70) false <|
  .rd 1 none (.mv (.tmp 7)) (some 71) false <|
  .ef 2 none (.call F.vector_Join [(.tmp 70), (.tmp 71)]) (some 72) [] (
  .rd 3 none (.mv (.tmp 72)) (some 11) false <|
  .done) .none
noncomputable def F.osierlaw04_VectorMissing.r17 : Plan :=
  .rd 0 none (.mv (.tmp 9)) (some 73) false <|
  .rd 1 none (.mv (.tmp 11)) (some 74) false <|
  .ef 2 none (.call F.vector_Same [(.tmp 73), (.tmp 74)]) (some 75) [] (
  .rd 3 none (.mv (.tmp 75)) (some 76) false <|
  .rd 4 (some (76, true)) (.mv (.tmp 11)) (some 77) false <|
  .ef 5 (some (76, true)) (.call F.vector_Count [(.tmp 77)]) (some 78) [] (
  .rd 6 (some (76, true)) (.mv (.tmp 7)) (some 79) false <|
  .ef 7 (some (76, true)) (.call F.vector_Count [(.tmp 79)]) (some 80) [] (
  .rd 8 (some (76, true)) (.mv (.tmp 8)) (some 81) false <|
  .rd 9 (some (76, true)) (.len .sl (.tmp 81)) (some 82) false <|
  .rd 10 (some (76, true)) (.bin .add (.tmp 80) (.tmp 82)) (some 83) false <|
  .rd 11 (some (76, true)) (.bin .eql (.tmp 78) (.tmp 83)) (some 84) false <|
  .rd 12 none (.pick (.tmp 76) (.tmp 84) (.const (.bool false))) (some 85) false <|
  .rd 13 none (.mv (.tmp 85)) (some 4) false <|
  .done) .none) .none) .none
noncomputable def F.osierlaw04_VectorMissing.ic : IC :=
    (.seq (.reg F.osierlaw04_VectorMissing.r0)
    (.seq (.reg F.osierlaw04_VectorMissing.r1)
    (.seq (.seq (.reg F.osierlaw04_VectorMissing.r2)
    (.cond (.tmp 14) (.seq (.reg F.osierlaw04_VectorMissing.r3)
    .ret) .skip))
    (.seq (.reg F.osierlaw04_VectorMissing.r4)
    (.seq (.reg F.osierlaw04_VectorMissing.r5)
    (.seq (.reg F.osierlaw04_VectorMissing.r6)
    (.seq (.seq (.reg F.osierlaw04_VectorMissing.r7)
    (.cond (.tmp 24) (.seq (.reg F.osierlaw04_VectorMissing.r8)
    .ret) .skip))
    (.seq (.reg F.osierlaw04_VectorMissing.r9)
    (.seq (.seq (.reg F.osierlaw04_VectorMissing.r10)
    (.block 0 (.loop F.osierlaw04_VectorMissing.l0)))
    (.seq (.reg F.osierlaw04_VectorMissing.r16)
    (.seq (.reg F.osierlaw04_VectorMissing.r17)
    .ret)))))))))))
noncomputable def F.osierlaw04_VectorMissing.rs : List RO := [(.mv (.tmp 4))]
theorem F.osierlaw04_VectorMissing.ok : cFunc Go.Proofs.Try.prog F.osierlaw04_VectorMissing = some (86, F.osierlaw04_VectorMissing.ic, F.osierlaw04_VectorMissing.rs) := by kernel_rfl
theorem F.osierlaw04_VectorMissing.cl : callable Go.Proofs.Try.prog F.osierlaw04_VectorMissing = true := by kernel_rfl
noncomputable def F.osierlaw04_VectorJoins.r0 : Plan :=
  .ef 0 none (.box (.tmp 2)) (some 6) [] (
  .rd 1 none (.mv (.const (.bool false))) (some 8) false <|
  .done) .none
noncomputable def F.osierlaw04_VectorJoins.r1 : Plan :=
  .ef 0 none (.call F.osierlaw04_awake []) (some 15) [] (
  .rd 1 none (.mv (.tmp 15)) (some 9) false <|
  .done) .none
noncomputable def F.osierlaw04_VectorJoins.r2 : Plan :=
  .rd 0 none (.mv (.tmp 9)) (some 16) false <|
  .rd 1 none (.un .not (.tmp 16)) (some 17) false <|
  .done
noncomputable def F.osierlaw04_VectorJoins.r3 : Plan :=
  .rd 0 none (.mv (.const (.bool false))) (some 8) false <|
  .done
noncomputable def F.osierlaw04_VectorJoins.r4 : Plan :=
  .rd 0 none (.mv (.tmp 0)) (some 18) false <|
  .ef 1 none (.call F.osierref04_Made [(.tmp 18)]) (some 19) [] (
  .rd 2 none (.mv (.tmp 19)) (some 10) false <|
  .done) .none
noncomputable def F.osierlaw04_VectorJoins.r5 : Plan :=
  .rd 0 none (.mv (.tmp 1)) (some 20) false <|
  .ef 1 none (.call F.osierref04_Made [(.tmp 20)]) (some 21) [] (
  .rd 2 none (.mv (.tmp 21)) (some 11) false <|
  .done) .none
noncomputable def F.osierlaw04_VectorJoins.r6 : Plan :=
  .rd 0 none (.mv (.tmp 10)) (some 22) false <|
  .rd 1 none (.mv (.tmp 11)) (some 23) false <|
  .ef 2 none (.call F.vector_Join [(.tmp 22), (.tmp 23)]) (some 24) [] (
  .rd 3 none (.mv (.tmp 10)) (some 25) false <|
  .rd 4 none (.mv (.tmp 11)) (some 26) false <|
  .ef 5 none (.call F.osierref04_Join [(.tmp 25), (.tmp 26), (.const (.bool false))]) (some 27) [] (
  .ef 6 none (.call F.osierref04_Same [(.tmp 24), (.tmp 27)]) (some 28) [] (
  .rd 7 none (.mv (.tmp 28)) (some 29) false <|
  .rd 8 (some (29, true)) (.mv (.tmp 10)) (some 30) false <|
  .rd 9 (some (29, true)) (.mv (.tmp 11)) (some 31) false <|
  .ef 10 (some (29, true)) (.call F.vector_Meet [(.tmp 30), (.tmp 31)]) (some 32) [] (
  .rd 11 (some (29, true)) (.mv (.tmp 10)) (some 33) false <|
  .rd 12 (some (29, true)) (.mv (.tmp 11)) (some 34) false <|
  .ef 13 (some (29, true)) (.call F.osierref04_Join [(.tmp 33), (.tmp 34), (.const (.bool true))]) (some 35) [] (
  .ef 14 (some (29, true)) (.call F.osierref04_Same [(.tmp 32), (.tmp 35)]) (some 36) [] (
  .rd 15 none (.pick (.tmp 29) (.tmp 36) (.const (.bool false))) (some 37) false <|
  .rd 16 none (.mv (.tmp 37)) (some 12) false <|
  .done) .none) .none) .none) .none) .none) .none
noncomputable def F.osierlaw04_VectorJoins.r7 : Plan :=
  .rd 0 none (.mv (.tmp 10)) (some 38) false <|
  .rd 1 none (.ldn 2 (.tmp 6)) (some 39) false <|
  .rd 3 none (.mv (.tmp 10)) (some 41) false <|
  .rd 4 none (.ldn 2 (.tmp 6)) (some 42) true <|
  .ef 2 none (.call F.vector_With [(.tmp 38), (.tmp 39)]) (some 40) [3, 4] (
  .ef 5 none (.call F.osierref04_With [(.tmp 41), (.tmp 42)]) (some 43) [] (
  .ef 6 none (.call F.osierref04_Same [(.tmp 40), (.tmp 43)]) (some 44) [] (
  .rd 7 none (.mv (.tmp 44)) (some 45) false <|
  .rd 8 (some (45, true)) (.mv (.tmp 10)) (some 46) false <|
  .rd 9 (some (45, true)) (.mv (.tmp 11)) (some 47) false <|
  .rd 11 (some (45, true)) (.mv (.tmp 10)) (some 49) false <|
  .rd 12 (some (45, true)) (.mv (.tmp 11)) (some 50) false <|
  .ef 10 (some (45, true)) (.call F.vector_Below [(.tmp 46), (.tmp 47)]) (some 48) [11, 12] (
  .ef 13 (some (45, true)) (.call F.osierref04_Below [(.tmp 49), (.tmp 50)]) (some 51) [] (
  .rd 14 (some (45, true)) (.eqS [.b] false false (.tmp 48) (.tmp 51)) (some 52) false <|
  .rd 15 none (.pick (.tmp 45) (.tmp 52) (.const (.bool false))) (some 53) false <|
  .rd 16 none (.mv (.tmp 53)) (some 54) false <|
  .rd 17 (some (54, true)) (.mv (.tmp 10)) (some 55) false <|
  .rd 18 (some (54, true)) (.mv (.tmp 11)) (some 56) false <|
  .rd 20 (some (54, true)) (.mv (.tmp 10)) (some 58) false <|
  .rd 21 (some (54, true)) (.mv (.tmp 11)) (some 59) false <|
  .ef 19 (some (54, true)) (.call F.vector_Same [(.tmp 55), (.tmp 56)]) (some 57) [20, 21] (
  .ef 22 (some (54, true)) (.call F.osierref04_Same [(.tmp 58), (.tmp 59)]) (some 60) [] (
  .rd 23 (some (54, true)) (.eqS [.b] false false (.tmp 57) (.tmp 60)) (some 61) false <|
  .rd 24 none (.pick (.tmp 54) (.tmp 61) (.const (.bool false))) (some 62) false <|
  .rd 25 none (.mv (.tmp 62)) (some 13) false <|
  .done) .none) .none) .none) .none) .none) .none) .none
noncomputable def F.osierlaw04_VectorJoins.r8 : Plan :=
  .rd 0 none (.mv (.tmp 3)) (some 63) false <|
  .rd 1 none (.bin .gtr (.tmp 63) (.const (.int .i64 1000))) (some 64) false <|
  .done
noncomputable def F.osierlaw04_VectorJoins.r9 : Plan :=
  .rd 0 none (.mv (.const (.int .i64 1000))) (some 3) false <|
  .done
noncomputable def F.osierlaw04_VectorJoins.r10 : Plan :=
  .rd 0 none (.mv (.tmp 10)) (some 65) false <|
  .rd 1 none (.mv (.tmp 11)) (some 66) false <|
  .rd 2 none (.mv (.tmp 3)) (some 67) false <|
  .ef 3 none (.call F.vector_Missing [(.tmp 65), (.tmp 66), (.tmp 67)]) (some 68) [] (
  .rd 4 none (.mv (.tmp 10)) (some 69) false <|
  .rd 5 none (.mv (.tmp 11)) (some 70) false <|
  .rd 6 none (.mv (.tmp 3)) (some 71) false <|
  .ef 7 none (.call F.osierref04_Missing [(.tmp 69), (.tmp 70), (.tmp 71)]) (some 72) [] (
  .ef 8 none (.call F.osierref03_Same [(.tmp 68), (.tmp 72)]) (some 73) [] (
  .rd 9 none (.mv (.tmp 73)) (some 14) false <|
  .done) .none) .none) .none
noncomputable def F.osierlaw04_VectorJoins.r11 : Plan :=
  .rd 0 none (.mv (.tmp 12)) (some 74) false <|
  .rd 1 none (.mv (.tmp 74)) (some 75) false <|
  .rd 2 (some (75, true)) (.mv (.tmp 13)) (some 76) false <|
  .rd 3 none (.pick (.tmp 75) (.tmp 76) (.const (.bool false))) (some 77) false <|
  .rd 4 none (.mv (.tmp 77)) (some 78) false <|
  .rd 5 (some (78, true)) (.mv (.tmp 14)) (some 79) false <|
  .rd 6 none (.pick (.tmp 78) (.tmp 79) (.const (.bool false))) (some 80) false <|
  .rd 7 none (.mv (.tmp 80)) (some 8) false <|
  .done
noncomputable def F.osierlaw04_VectorJoins.ic : IC :=
    (.seq (.reg F.osierlaw04_VectorJoins.r0)
    (.seq (.reg F.osierlaw04_VectorJoins.r1)
    (.seq (.seq (.reg F.osierlaw04_VectorJoins.r2)
    (.cond (.tmp 17) (.seq (.reg F.osierlaw04_VectorJoins.r3)
    .ret) .skip))
    (.seq (.reg F.osierlaw04_VectorJoins.r4)
    (.seq (.reg F.osierlaw04_VectorJoins.r5)
    (.seq (.reg F.osierlaw04_VectorJoins.r6)
    (.seq (.reg F.osierlaw04_VectorJoins.r7)
    (.seq (.seq (.reg F.osierlaw04_VectorJoins.r8)
    (.cond (.tmp 64) (.reg F.osierlaw04_VectorJoins.r9) .skip))
    (.seq (.reg F.osierlaw04_VectorJoins.r10)
    (.seq (.reg F.osierlaw04_VectorJoins.r11)
    .ret))))))))))
noncomputable def F.osierlaw04_VectorJoins.rs : List RO := [(.mv (.tmp 8))]
theorem F.osierlaw04_VectorJoins.ok : cFunc Go.Proofs.Try.prog F.osierlaw04_VectorJoins = some (81, F.osierlaw04_VectorJoins.ic, F.osierlaw04_VectorJoins.rs) := by kernel_rfl
theorem F.osierlaw04_VectorJoins.cl : callable Go.Proofs.Try.prog F.osierlaw04_VectorJoins = true := by kernel_rfl
noncomputable def F.osierlaw04_awake.r0 : Plan :=
  .rd 0 none (.mv (.const (.bool false))) (some 0) false <|
  .done
noncomputable def F.osierlaw04_awake.r1 : Plan :=
  .rd 0 none (.build [(.int .i64 0), (.int .i64 0)] [(0, (1, (.const (.int .i64 1)))), (1, (1, (.const (.int .i64 3))))]) (some 5) false <|
  .rd 1 none (.build [(.int .i64 0), (.int .i64 0)] [(0, (1, (.const (.int .i64 2)))), (1, (1, (.const (.int .i64 1))))]) (some 6) false <|
  .ef 2 none (.bsl 2 [(.int .i64 0), (.int .i64 0), (.int .i64 0), (.int .i64 0)] [(0, (2, (.tmp 5))), (2, (2, (.tmp 6)))]) (some 7) [] (
  .rd 3 none (.mv (.tmp 7)) (some 1) false <|
  .done) .none
noncomputable def F.osierlaw04_awake.r2 : Plan :=
  .rd 0 none (.build [(.int .i64 0), (.int .i64 0)] [(0, (1, (.const (.int .i64 2)))), (1, (1, (.const (.int .i64 4))))]) (some 8) false <|
  .ef 1 none (.bsl 1 [(.int .i64 0), (.int .i64 0)] [(0, (2, (.tmp 8)))]) (some 9) [] (
  .rd 2 none (.mv (.tmp 9)) (some 2) false <|
  .done) .none
noncomputable def F.osierlaw04_awake.r3 : Plan :=
  .rd 0 none (.mv (.tmp 1)) (some 10) false <|
  .rd 1 none (.mv (.tmp 2)) (some 11) false <|
  .ef 2 none (.call F.vector_Join [(.tmp 10), (.tmp 11)]) (some 12) [] (
  .rd 3 none (.mv (.tmp 12)) (some 3) false <|
  .done) .none
noncomputable def F.osierlaw04_awake.r4 : Plan :=
  .rd 0 none (.mv (.tmp 1)) (some 13) false <|
  .rd 1 none (.mv (.tmp 2)) (some 14) false <|
  .ef 2 none (.call F.vector_Meet [(.tmp 13), (.tmp 14)]) (some 15) [] (
  .rd 3 none (.mv (.tmp 15)) (some 4) false <|
  .done) .none
noncomputable def F.osierlaw04_awake.r5 : Plan :=
  .rd 0 none (.mv (.tmp 3)) (some 16) false <|
  .rd 1 none (.len .sl (.tmp 16)) (some 17) false <|
  .rd 2 none (.bin .eql (.tmp 17) (.const (.int .i64 2))) (some 18) false <|
  .rd 3 none (.mv (.tmp 18)) (some 19) false <|
  .rd 4 (some (19, true)) (.mv (.tmp 3)) (some 20) false <|
  .rd 5 (some (19, true)) (.idxA 2 (.tmp 20) (.const (.int .i64 0))) (some 21) false <|
  .rd 6 (some (19, true)) (.fldA 1 (.tmp 21)) (some 22) false <|
  .rd 7 (some (19, true)) (.ld1 (.tmp 22)) (some 23) false <|
  .rd 8 (some (19, true)) (.bin .eql (.tmp 23) (.const (.int .i64 3))) (some 24) false <|
  .rd 9 none (.pick (.tmp 19) (.tmp 24) (.const (.bool false))) (some 25) false <|
  .rd 10 none (.mv (.tmp 25)) (some 26) false <|
  .rd 11 (some (26, true)) (.mv (.tmp 3)) (some 27) false <|
  .rd 12 (some (26, true)) (.idxA 2 (.tmp 27) (.const (.int .i64 1))) (some 28) false <|
  .rd 13 (some (26, true)) (.fldA 1 (.tmp 28)) (some 29) false <|
  .rd 14 (some (26, true)) (.ld1 (.tmp 29)) (some 30) false <|
  .rd 15 (some (26, true)) (.bin .eql (.tmp 30) (.const (.int .i64 4))) (some 31) false <|
  .rd 16 none (.pick (.tmp 26) (.tmp 31) (.const (.bool false))) (some 32) false <|
  .rd 17 none (.mv (.tmp 32)) (some 33) false <|
  .rd 18 (some (33, true)) (.mv (.tmp 4)) (some 34) false <|
  .rd 19 (some (33, true)) (.len .sl (.tmp 34)) (some 35) false <|
  .rd 20 (some (33, true)) (.bin .eql (.tmp 35) (.const (.int .i64 1))) (some 36) false <|
  .rd 21 none (.pick (.tmp 33) (.tmp 36) (.const (.bool false))) (some 37) false <|
  .rd 22 none (.mv (.tmp 37)) (some 38) false <|
  .rd 23 (some (38, true)) (.mv (.tmp 4)) (some 39) false <|
  .rd 24 (some (38, true)) (.idxA 2 (.tmp 39) (.const (.int .i64 0))) (some 40) false <|
  .rd 25 (some (38, true)) (.fldA 1 (.tmp 40)) (some 41) false <|
  .rd 26 (some (38, true)) (.ld1 (.tmp 41)) (some 42) false <|
  .rd 27 (some (38, true)) (.bin .eql (.tmp 42) (.const (.int .i64 1))) (some 43) false <|
  .rd 28 none (.pick (.tmp 38) (.tmp 43) (.const (.bool false))) (some 44) false <|
  .rd 29 none (.mv (.tmp 44)) (some 45) false <|
  .rd 30 (some (45, true)) (.mv (.tmp 1)) (some 46) false <|
  .ef 31 (some (45, true)) (.call F.vector_Count [(.tmp 46)]) (some 47) [] (
  .rd 32 (some (45, true)) (.bin .eql (.tmp 47) (.const (.int .i64 4))) (some 48) false <|
  .rd 33 none (.pick (.tmp 45) (.tmp 48) (.const (.bool false))) (some 49) false <|
  .rd 34 none (.mv (.tmp 49)) (some 50) false <|
  .rd 35 (some (50, true)) (.mv (.tmp 1)) (some 51) false <|
  .rd 36 (some (50, true)) (.build [(.int .i64 0), (.int .i64 0)] [(0, (1, (.const (.int .i64 1)))), (1, (1, (.const (.int .i64 2))))]) (some 52) false <|
  .ef 37 (some (50, true)) (.call F.vector_Has [(.tmp 51), (.tmp 52)]) (some 53) [] (
  .rd 38 none (.pick (.tmp 50) (.tmp 53) (.const (.bool false))) (some 54) false <|
  .rd 39 none (.mv (.tmp 54)) (some 55) false <|
  .rd 40 (some (55, true)) (.mv (.tmp 1)) (some 56) false <|
  .ef 41 (some (55, true)) (.call F.vector_May [(.tmp 56)]) (some 57) [] (
  .rd 42 none (.pick (.tmp 55) (.tmp 57) (.const (.bool false))) (some 58) false <|
  .rd 43 none (.mv (.tmp 58)) (some 59) false <|
  .rd 44 (some (59, true)) (.mv (.tmp 2)) (some 60) false <|
  .rd 45 (some (59, true)) (.idxA 2 (.tmp 60) (.const (.int .i64 0))) (some 61) false <|
  .rd 46 (some (59, true)) (.ldn 2 (.tmp 61)) (some 62) false <|
  .rd 47 (some (59, true)) (.mv (.tmp 1)) (some 63) false <|
  .rd 48 (some (59, true)) (.idxA 2 (.tmp 63) (.const (.int .i64 0))) (some 64) false <|
  .rd 49 (some (59, true)) (.ldn 2 (.tmp 64)) (some 65) false <|
  .ef 50 (some (59, true)) (.bsl 2 [(.int .i64 0), (.int .i64 0), (.int .i64 0), (.int .i64 0)] [(0, (2, (.tmp 62))), (2, (2, (.tmp 65)))]) (some 66) [] (
  .ef 51 (some (59, true)) (.call F.vector_May [(.tmp 66)]) (some 67) [] (
  .rd 52 (some (59, true)) (.un .not (.tmp 67)) (some 68) false <|
  .rd 53 none (.pick (.tmp 59) (.tmp 68) (.const (.bool false))) (some 69) false <|
  .rd 54 none (.mv (.tmp 69)) (some 0) false <|
  .done) .none) .none) .none) .none) .none
noncomputable def F.osierlaw04_awake.ic : IC :=
    (.seq (.reg F.osierlaw04_awake.r0)
    (.seq (.reg F.osierlaw04_awake.r1)
    (.seq (.reg F.osierlaw04_awake.r2)
    (.seq (.reg F.osierlaw04_awake.r3)
    (.seq (.reg F.osierlaw04_awake.r4)
    (.seq (.reg F.osierlaw04_awake.r5)
    .ret))))))
noncomputable def F.osierlaw04_awake.rs : List RO := [(.mv (.tmp 0))]
theorem F.osierlaw04_awake.ok : cFunc Go.Proofs.Try.prog F.osierlaw04_awake = some (70, F.osierlaw04_awake.ic, F.osierlaw04_awake.rs) := by kernel_rfl
theorem F.osierlaw04_awake.cl : callable Go.Proofs.Try.prog F.osierlaw04_awake = true := by kernel_rfl
noncomputable def F.osierref04_Made.r0 : Plan :=
  .rd 0 none (.mv (.const (.slice none 0 0))) (some 2) false <|
  .done
noncomputable def F.osierref04_Made.r1 : Plan :=
  .rd 0 none (.mv (.const (.slice none 0 0))) (some 3) false <|
  .done
noncomputable def F.osierref04_Made.r2 : Plan :=
  .rd 0 none (.mv (.const (.int .i64 0))) (some 4) false <|
  .done
noncomputable def F.osierref04_Made.r3 : Plan :=
  .rd 0 none (.mv (.tmp 4)) (some 5) false <|
  .rd 1 none (.mv (.tmp 0)) (some 6) false <|
  .rd 2 none (.len .sl (.tmp 6)) (some 7) false <|
  .rd 3 none (.bin .lss (.tmp 5) (.tmp 7)) (some 8) false <|
  .rd 4 none (.mv (.tmp 8)) (some 9) false <|
  .rd 5 (some (9, true)) (.mv (.tmp 4)) (some 10) false <|
  .rd 6 (some (9, true)) (.bin .lss (.tmp 10) (.const (.int .i64 50))) (some 11) false <|
  .rd 7 none (.pick (.tmp 9) (.tmp 11) (.const (.bool false))) (some 12) false <|
  .done
noncomputable def F.osierref04_Made.r4 : Plan :=
  .rd 0 none (.mv (.tmp 3)) (some 15) false <|
  .rd 1 none (.mv (.tmp 0)) (some 16) false <|
  .rd 2 none (.mv (.tmp 4)) (some 17) false <|
  .rd 3 none (.idxA 2 (.tmp 16) (.tmp 17)) (some 18) false <|
  .rd 4 none (.ldn 2 (.tmp 18)) (some 19) false <|
  .ef 5 none (.call F.osierref04_With [(.tmp 15), (.tmp 19)]) (some 20) [] (
  .rd 6 none (.mv (.tmp 20)) (some 3) false <|
  .done) .none
noncomputable def F.osierref04_Made.r5 : Plan :=
  .rd 0 none (.mv (.tmp 4)) (some 13) false <|
  .rd 1 none (.bin .add (.tmp 13) (.const (.int .i64 1))) (some 14) false <|
  .rd 2 none (.mv (.tmp 14)) (some 4) false <|
  .done
noncomputable def F.osierref04_Made.l0 : IC :=
    (.seq (.seq (.reg F.osierref04_Made.r3)
    (.cond (.tmp 12) .skip (.exit 0)))
    (.seq (.block 1 (.reg F.osierref04_Made.r4))
    (.reg F.osierref04_Made.r5)))
noncomputable def F.osierref04_Made.r6 : Plan :=
  .rd 0 none (.mv (.tmp 3)) (some 21) false <|
  .rd 1 none (.mv (.tmp 21)) (some 2) false <|
  .done
noncomputable def F.osierref04_Made.ic : IC :=
    (.seq (.reg F.osierref04_Made.r0)
    (.seq (.reg F.osierref04_Made.r1)
    (.seq (.seq (.reg F.osierref04_Made.r2)
    (.block 0 (.loop F.osierref04_Made.l0)))
    (.seq (.reg F.osierref04_Made.r6)
    .ret))))
noncomputable def F.osierref04_Made.rs : List RO := [(.mv (.tmp 2))]
theorem F.osierref04_Made.ok : cFunc Go.Proofs.Try.prog F.osierref04_Made = some (22, F.osierref04_Made.ic, F.osierref04_Made.rs) := by kernel_rfl
theorem F.osierref04_Made.cl : callable Go.Proofs.Try.prog F.osierref04_Made = true := by kernel_rfl
noncomputable def F.vector_May.r0 : Plan :=
  .rd 0 none (.mv (.const (.bool false))) (some 2) false <|
  .done
noncomputable def F.vector_May.r1 : Plan :=
  .rd 0 none (.mv (.const (.int .i64 (-1)))) (some 3) false <|
  .done
noncomputable def F.vector_May.r2 : Plan :=
  .rd 0 none (.mv (.tmp 0)) (some 6) false <|
  .rd 1 none (.len .sl (.tmp 6)) (some 7) false <|
  .rd 2 none (.mv (.const (.int .i64 0))) (some 8) false <|
  .done
noncomputable def F.vector_May.r3 : Plan :=
  .rd 0 none (.bin .lss (.tmp 8) (.tmp 7)) (some 9) false <|
  .done
noncomputable def F.vector_May.r4 : Plan :=
  .rd 0 none (.idxA 2 (.tmp 6) (.tmp 8)) (some 10) false <|
  .rd 1 none (.ldn 2 (.tmp 10)) (some 11) false <|
  .ef 2 none (.alloc [(.int .i64 0), (.int .i64 0)]) (some 5) [] (
  .ef 3 none (.st 2 (.tmp 5) (.tmp 11)) none [] (
  .done) .none) .none
noncomputable def F.vector_May.r5 : Plan :=
  .rd 0 none (.ldn 2 (.tmp 5)) (some 12) false <|
  .ef 1 none (.call F.dots_May [(.tmp 12)]) (some 13) [] (
  .rd 2 none (.un .not (.tmp 13)) (some 14) false <|
  .rd 3 none (.mv (.tmp 14)) (some 15) false <|
  .rd 4 (some (15, false)) (.fldA 0 (.tmp 5)) (some 16) false <|
  .rd 5 (some (15, false)) (.ld1 (.tmp 16)) (some 17) false <|
  .rd 6 (some (15, false)) (.mv (.tmp 3)) (some 18) false <|
  .rd 7 (some (15, false)) (.bin .leq (.tmp 17) (.tmp 18)) (some 19) false <|
  .rd 8 none (.pick (.tmp 15) (.const (.bool true)) (.tmp 19)) (some 20) false <|
  .done) .none
noncomputable def F.vector_May.r6 : Plan :=
  .rd 0 none (.mv (.const (.bool false))) (some 2) false <|
  .done
noncomputable def F.vector_May.r7 : Plan :=
  .rd 0 none (.fldA 0 (.tmp 5)) (some 21) false <|
  .rd 1 none (.ld1 (.tmp 21)) (some 22) false <|
  .rd 2 none (.mv (.tmp 22)) (some 3) false <|
  .done
noncomputable def F.vector_May.r8 : Plan :=
  .rd 0 none (.bin .add (.tmp 8) (.const (.int .i64 1))) (some 23) false <|
  .rd 1 none (.mv (.tmp 23)) (some 8) false <|
  .done
noncomputable def F.vector_May.l0 : IC :=
    (.seq (.reg F.vector_May.r3)
    (.seq (.cond (.tmp 9) .skip (.exit 0))
    (.seq (.block 1 (.seq (.reg F.vector_May.r4)
    (.seq (.seq (.reg F.vector_May.r5)
    (.cond (.tmp 20) (.seq (.reg F.vector_May.r6)
    .ret) .skip))
    (.reg F.vector_May.r7))))
    (.reg F.vector_May.r8))))
noncomputable def F.vector_May.r9 : Plan :=
  .rd 0 none (.mv (.const (.bool true))) (some 2) false <|
  .done
noncomputable def F.vector_May.ic : IC :=
    (.seq (.reg F.vector_May.r0)
    (.seq (.reg F.vector_May.r1)
    (.seq (.seq (.reg F.vector_May.r2)
    (.block 0 (.loop F.vector_May.l0)))
    (.seq (.reg F.vector_May.r9)
    .ret))))
noncomputable def F.vector_May.rs : List RO := [(.mv (.tmp 2))]
theorem F.vector_May.ok : cFunc Go.Proofs.Try.prog F.vector_May = some (24, F.vector_May.ic, F.vector_May.rs) := by kernel_rfl
theorem F.vector_May.cl : callable Go.Proofs.Try.prog F.vector_May = true := by kernel_rfl
noncomputable def F.osierref04_May.r0 : Plan :=
  .rd 0 none (.mv (.const (.bool false))) (some 2) false <|
  .done
noncomputable def F.osierref04_May.r1 : Plan :=
  .rd 0 none (.mv (.const (.int .i64 0))) (some 3) false <|
  .done
noncomputable def F.osierref04_May.r2 : Plan :=
  .rd 0 none (.mv (.tmp 3)) (some 5) false <|
  .rd 1 none (.mv (.tmp 0)) (some 6) false <|
  .rd 2 none (.len .sl (.tmp 6)) (some 7) false <|
  .rd 3 none (.bin .lss (.tmp 5) (.tmp 7)) (some 8) false <|
  .done
noncomputable def F.osierref04_May.r3 : Plan :=
  .rd 0 none (.mv (.tmp 0)) (some 11) false <|
  .rd 1 none (.mv (.tmp 3)) (some 12) false <|
  .rd 2 none (.idxA 2 (.tmp 11) (.tmp 12)) (some 13) false <|
  .rd 3 none (.ldn 2 (.tmp 13)) (some 14) false <|
  .ef 4 none (.call F.osierref03_May [(.tmp 14)]) (some 15) [] (
  .rd 5 none (.mv (.tmp 15)) (some 4) false <|
  .done) .none
noncomputable def F.osierref04_May.r4 : Plan :=
  .rd 0 none (.mv (.tmp 4)) (some 16) false <|
  .rd 1 none (.un .not (.tmp 16)) (some 17) false <|
  .rd 2 none (.mv (.tmp 17)) (some 18) false <|
  .rd 3 (some (18, false)) (.mv (.tmp 3)) (some 19) false <|
  .rd 4 (some (18, false)) (.bin .gtr (.tmp 19) (.const (.int .i64 0))) (some 20) false <|
  .rd 5 (some (18, false)) (.mv (.tmp 20)) (some 21) false <|
  .rd 6 (some (21, true)) (.mv (.tmp 0)) (some 22) false <|
  .rd 7 (some (21, true)) (.mv (.tmp 3)) (some 23) false <|
  .rd 8 (some (21, true)) (.bin .sub (.tmp 23) (.const (.int .i64 1))) (some 24) false <|
  .rd 9 (some (21, true)) (.idxA 2 (.tmp 22) (.tmp 24)) (some 25) false <|
  .rd 10 (some (21, true)) (.fldA 0 (.tmp 25)) (some 26) false <|
  .rd 11 (some (21, true)) (.ld1 (.tmp 26)) (some 27) false <|
  .rd 12 (some (21, true)) (.mv (.tmp 0)) (some 28) false <|
  .rd 13 (some (21, true)) (.mv (.tmp 3)) (some 29) false <|
  .rd 14 (some (21, true)) (.idxA 2 (.tmp 28) (.tmp 29)) (some 30) false <|
  .rd 15 (some (21, true)) (.fldA 0 (.tmp 30)) (some 31) false <|
  .rd 16 (some (21, true)) (.ld1 (.tmp 31)) (some 32) false <|
  .rd 17 (some (21, true)) (.bin .geq (.tmp 27) (.tmp 32)) (some 33) false <|
  .rd 18 (some (18, false)) (.pick (.tmp 21) (.tmp 33) (.const (.bool false))) (some 34) false <|
  .rd 19 none (.pick (.tmp 18) (.const (.bool true)) (.tmp 34)) (some 35) false <|
  .done
noncomputable def F.osierref04_May.r5 : Plan :=
  .rd 0 none (.mv (.const (.bool false))) (some 2) false <|
  .done
noncomputable def F.osierref04_May.r6 : Plan :=
  .rd 0 none (.mv (.tmp 3)) (some 9) false <|
  .rd 1 none (.bin .add (.tmp 9) (.const (.int .i64 1))) (some 10) false <|
  .rd 2 none (.mv (.tmp 10)) (some 3) false <|
  .done
noncomputable def F.osierref04_May.l0 : IC :=
    (.seq (.seq (.reg F.osierref04_May.r2)
    (.cond (.tmp 8) .skip (.exit 0)))
    (.seq (.block 1 (.seq (.reg F.osierref04_May.r3)
    (.seq (.reg F.osierref04_May.r4)
    (.cond (.tmp 35) (.seq (.reg F.osierref04_May.r5)
    .ret) .skip))))
    (.reg F.osierref04_May.r6)))
noncomputable def F.osierref04_May.r7 : Plan :=
  .rd 0 none (.mv (.const (.bool true))) (some 2) false <|
  .done
noncomputable def F.osierref04_May.ic : IC :=
    (.seq (.reg F.osierref04_May.r0)
    (.seq (.seq (.reg F.osierref04_May.r1)
    (.block 0 (.loop F.osierref04_May.l0)))
    (.seq (.reg F.osierref04_May.r7)
    .ret)))
noncomputable def F.osierref04_May.rs : List RO := [(.mv (.tmp 2))]
theorem F.osierref04_May.ok : cFunc Go.Proofs.Try.prog F.osierref04_May = some (36, F.osierref04_May.ic, F.osierref04_May.rs) := by kernel_rfl
theorem F.osierref04_May.cl : callable Go.Proofs.Try.prog F.osierref04_May = true := by kernel_rfl
noncomputable def F.vector_Get.r0 : Plan :=
  .ef 0 none (.box (.tmp 1)) (some 3) [] (
  .rd 1 none (.mv (.const (.int .i64 0))) (some 4) false <|
  .done) .none
noncomputable def F.vector_Get.r1 : Plan :=
  .rd 0 none (.mv (.tmp 0)) (some 6) false <|
  .rd 1 none (.mkF (.func F.vector_Get_c1) [] [(.tmp 3)]) (some 7) false <|
  .ef 2 none (.call F.slices_IndexFunc_api_Vector_api_Dot [(.tmp 6), (.tmp 7)]) (some 8) [] (
  .rd 3 none (.mv (.tmp 8)) (some 5) false <|
  .done) .none
noncomputable def F.vector_Get.r2 : Plan :=
  .rd 0 none (.mv (.tmp 5)) (some 9) false <|
  .rd 1 none (.bin .geq (.tmp 9) (.const (.int .i64 0))) (some 10) false <|
  .done
noncomputable def F.vector_Get.r3 : Plan :=
  .rd 0 none (.mv (.tmp 0)) (some 11) false <|
  .rd 1 none (.mv (.tmp 5)) (some 12) false <|
  .rd 2 none (.idxA 2 (.tmp 11) (.tmp 12)) (some 13) false <|
  .rd 3 none (.fldA 1 (.tmp 13)) (some 14) false <|
  .rd 4 none (.ld1 (.tmp 14)) (some 15) false <|
  .rd 5 none (.mv (.tmp 15)) (some 4) false <|
  .done
noncomputable def F.vector_Get.r4 : Plan :=
  .rd 0 none (.mv (.const (.int .i64 0))) (some 4) false <|
  .done
noncomputable def F.vector_Get.ic : IC :=
    (.seq (.reg F.vector_Get.r0)
    (.seq (.seq (.reg F.vector_Get.r1)
    (.seq (.reg F.vector_Get.r2)
    (.cond (.tmp 10) (.seq (.reg F.vector_Get.r3)
    .ret) .skip)))
    (.seq (.reg F.vector_Get.r4)
    .ret)))
noncomputable def F.vector_Get.rs : List RO := [(.mv (.tmp 4))]
theorem F.vector_Get.ok : cFunc Go.Proofs.Try.prog F.vector_Get = some (16, F.vector_Get.ic, F.vector_Get.rs) := by kernel_rfl
theorem F.vector_Get.cl : callable Go.Proofs.Try.prog F.vector_Get = true := by kernel_rfl
noncomputable def F.osierref04_Get.r0 : Plan :=
  .rd 0 none (.mv (.const (.int .i64 0))) (some 4) false <|
  .done
noncomputable def F.osierref04_Get.r1 : Plan :=
  .rd 0 none (.mv (.const (.int .i64 0))) (some 5) false <|
  .done
noncomputable def F.osierref04_Get.r2 : Plan :=
  .rd 0 none (.mv (.tmp 5)) (some 6) false <|
  .rd 1 none (.mv (.tmp 0)) (some 7) false <|
  .rd 2 none (.len .sl (.tmp 7)) (some 8) false <|
  .rd 3 none (.bin .lss (.tmp 6) (.tmp 8)) (some 9) false <|
  .done
noncomputable def F.osierref04_Get.r3 : Plan :=
  .rd 0 none (.mv (.tmp 0)) (some 12) false <|
  .rd 1 none (.mv (.tmp 5)) (some 13) false <|
  .rd 2 none (.idxA 2 (.tmp 12) (.tmp 13)) (some 14) false <|
  .rd 3 none (.fldA 0 (.tmp 14)) (some 15) false <|
  .rd 4 none (.ld1 (.tmp 15)) (some 16) false <|
  .rd 5 none (.mv (.tmp 1)) (some 17) false <|
  .rd 6 none (.bin .eql (.tmp 16) (.tmp 17)) (some 18) false <|
  .done
noncomputable def F.osierref04_Get.r4 : Plan :=
  .rd 0 none (.mv (.tmp 0)) (some 19) false <|
  .rd 1 none (.mv (.tmp 5)) (some 20) false <|
  .rd 2 none (.idxA 2 (.tmp 19) (.tmp 20)) (some 21) false <|
  .rd 3 none (.fldA 1 (.tmp 21)) (some 22) false <|
  .rd 4 none (.ld1 (.tmp 22)) (some 23) false <|
  .rd 5 none (.mv (.tmp 23)) (some 4) false <|
  .done
noncomputable def F.osierref04_Get.r5 : Plan :=
  .rd 0 none (.mv (.tmp 5)) (some 10) false <|
  .rd 1 none (.bin .add (.tmp 10) (.const (.int .i64 1))) (some 11) false <|
  .rd 2 none (.mv (.tmp 11)) (some 5) false <|
  .done
noncomputable def F.osierref04_Get.l0 : IC :=
    (.seq (.seq (.reg F.osierref04_Get.r2)
    (.cond (.tmp 9) .skip (.exit 0)))
    (.seq (.block 1 (.seq (.reg F.osierref04_Get.r3)
    (.cond (.tmp 18) (.seq (.reg F.osierref04_Get.r4)
    .ret) .skip)))
    (.reg F.osierref04_Get.r5)))
noncomputable def F.osierref04_Get.r6 : Plan :=
  .rd 0 none (.mv (.const (.int .i64 0))) (some 4) false <|
  .done
noncomputable def F.osierref04_Get.ic : IC :=
    (.seq (.reg F.osierref04_Get.r0)
    (.seq (.seq (.reg F.osierref04_Get.r1)
    (.block 0 (.loop F.osierref04_Get.l0)))
    (.seq (.reg F.osierref04_Get.r6)
    .ret)))
noncomputable def F.osierref04_Get.rs : List RO := [(.mv (.tmp 4))]
theorem F.osierref04_Get.ok : cFunc Go.Proofs.Try.prog F.osierref04_Get = some (24, F.osierref04_Get.ic, F.osierref04_Get.rs) := by kernel_rfl
theorem F.osierref04_Get.cl : callable Go.Proofs.Try.prog F.osierref04_Get = true := by kernel_rfl
noncomputable def F.vector_Has.r0 : Plan :=
  .ef 0 none (.box (.tmp 1)) (some 3) [] (
  .rd 1 none (.mv (.const (.bool false))) (some 4) false <|
  .done) .none
noncomputable def F.vector_Has.r1 : Plan :=
  .rd 0 none (.ldn 2 (.tmp 3)) (some 5) false <|
  .ef 1 none (.call F.dots_May [(.tmp 5)]) (some 6) [] (
  .rd 2 none (.mv (.tmp 6)) (some 7) false <|
  .rd 3 (some (7, true)) (.fldA 1 (.tmp 3)) (some 8) false <|
  .rd 4 (some (7, true)) (.ld1 (.tmp 8)) (some 9) true <|
  .rd 5 (some (7, true)) (.mv (.tmp 0)) (some 10) false <|
  .rd 6 (some (7, true)) (.fldA 0 (.tmp 3)) (some 11) false <|
  .rd 7 (some (7, true)) (.ld1 (.tmp 11)) (some 12) false <|
  .ef 8 (some (7, true)) (.call F.vector_Get [(.tmp 10), (.tmp 12)]) (some 13) [3, 4] (
  .rd 9 (some (7, true)) (.bin .leq (.tmp 9) (.tmp 13)) (some 14) false <|
  .rd 10 none (.pick (.tmp 7) (.tmp 14) (.const (.bool false))) (some 15) false <|
  .rd 11 none (.mv (.tmp 15)) (some 4) false <|
  .done) .none) .none
noncomputable def F.vector_Has.ic : IC :=
    (.seq (.reg F.vector_Has.r0)
    (.seq (.reg F.vector_Has.r1)
    .ret))
noncomputable def F.vector_Has.rs : List RO := [(.mv (.tmp 4))]
theorem F.vector_Has.ok : cFunc Go.Proofs.Try.prog F.vector_Has = some (16, F.vector_Has.ic, F.vector_Has.rs) := by kernel_rfl
theorem F.vector_Has.cl : callable Go.Proofs.Try.prog F.vector_Has = true := by kernel_rfl
noncomputable def F.osierref04_Has.r0 : Plan :=
  .ef 0 none (.box (.tmp 1)) (some 3) [] (
  .rd 1 none (.mv (.const (.bool false))) (some 4) false <|
  .done) .none
noncomputable def F.osierref04_Has.r1 : Plan :=
  .rd 0 none (.ldn 2 (.tmp 3)) (some 6) false <|
  .ef 1 none (.call F.osierref03_May [(.tmp 6)]) (some 7) [] (
  .rd 2 none (.mv (.tmp 7)) (some 5) false <|
  .done) .none
noncomputable def F.osierref04_Has.r2 : Plan :=
  .rd 0 none (.mv (.tmp 5)) (some 8) false <|
  .rd 1 none (.mv (.tmp 8)) (some 9) false <|
  .rd 2 (some (9, true)) (.fldA 1 (.tmp 3)) (some 10) false <|
  .rd 3 (some (9, true)) (.ld1 (.tmp 10)) (some 11) true <|
  .rd 4 (some (9, true)) (.mv (.tmp 0)) (some 12) false <|
  .rd 5 (some (9, true)) (.fldA 0 (.tmp 3)) (some 13) false <|
  .rd 6 (some (9, true)) (.ld1 (.tmp 13)) (some 14) false <|
  .ef 7 (some (9, true)) (.call F.osierref04_Get [(.tmp 12), (.tmp 14)]) (some 15) [2, 3] (
  .rd 8 (some (9, true)) (.bin .leq (.tmp 11) (.tmp 15)) (some 16) false <|
  .rd 9 none (.pick (.tmp 9) (.tmp 16) (.const (.bool false))) (some 17) false <|
  .rd 10 none (.mv (.tmp 17)) (some 4) false <|
  .done) .none
noncomputable def F.osierref04_Has.ic : IC :=
    (.seq (.reg F.osierref04_Has.r0)
    (.seq (.reg F.osierref04_Has.r1)
    (.seq (.reg F.osierref04_Has.r2)
    .ret)))
noncomputable def F.osierref04_Has.rs : List RO := [(.mv (.tmp 4))]
theorem F.osierref04_Has.ok : cFunc Go.Proofs.Try.prog F.osierref04_Has = some (18, F.osierref04_Has.ic, F.osierref04_Has.rs) := by kernel_rfl
theorem F.osierref04_Has.cl : callable Go.Proofs.Try.prog F.osierref04_Has = true := by kernel_rfl
noncomputable def F.vector_Count.r0 : Plan :=
  .rd 0 none (.mv (.const (.int .i64 0))) (some 2) false <|
  .done
noncomputable def F.vector_Count.r1 : Plan :=
  .rd 0 none (.mv (.const (.int .i64 0))) (some 3) false <|
  .done
noncomputable def F.vector_Count.r2 : Plan :=
  .rd 0 none (.mv (.tmp 0)) (some 6) false <|
  .rd 1 none (.len .sl (.tmp 6)) (some 7) false <|
  .rd 2 none (.mv (.const (.int .i64 0))) (some 8) false <|
  .done
noncomputable def F.vector_Count.r3 : Plan :=
  .rd 0 none (.bin .lss (.tmp 8) (.tmp 7)) (some 9) false <|
  .done
noncomputable def F.vector_Count.r4 : Plan :=
  .rd 0 none (.idxA 2 (.tmp 6) (.tmp 8)) (some 10) false <|
  .rd 1 none (.ldn 2 (.tmp 10)) (some 11) false <|
  .ef 2 none (.alloc [(.int .i64 0), (.int .i64 0)]) (some 5) [] (
  .ef 3 none (.st 2 (.tmp 5) (.tmp 11)) none [] (
  .done) .none) .none
noncomputable def F.vector_Count.r5 : Plan :=
  .rd 0 none (.mv (.tmp 3)) (some 12) false <|
  .rd 1 none (.fldA 1 (.tmp 5)) (some 13) false <|
  .rd 2 none (.ld1 (.tmp 13)) (some 14) false <|
  .rd 3 none (.bin .add (.tmp 12) (.tmp 14)) (some 15) false <|
  .rd 4 none (.mv (.tmp 15)) (some 3) false <|
  .done
noncomputable def F.vector_Count.r6 : Plan :=
  .rd 0 none (.bin .add (.tmp 8) (.const (.int .i64 1))) (some 16) false <|
  .rd 1 none (.mv (.tmp 16)) (some 8) false <|
  .done
noncomputable def F.vector_Count.l0 : IC :=
    (.seq (.reg F.vector_Count.r3)
    (.seq (.cond (.tmp 9) .skip (.exit 0))
    (.seq (.block 1 (.seq (.reg F.vector_Count.r4)
    (.reg F.vector_Count.r5)))
    (.reg F.vector_Count.r6))))
noncomputable def F.vector_Count.r7 : Plan :=
  .rd 0 none (.mv (.tmp 3)) (some 17) false <|
  .rd 1 none (.mv (.tmp 17)) (some 2) false <|
  .done
noncomputable def F.vector_Count.ic : IC :=
    (.seq (.reg F.vector_Count.r0)
    (.seq (.reg F.vector_Count.r1)
    (.seq (.seq (.reg F.vector_Count.r2)
    (.block 0 (.loop F.vector_Count.l0)))
    (.seq (.reg F.vector_Count.r7)
    .ret))))
noncomputable def F.vector_Count.rs : List RO := [(.mv (.tmp 2))]
theorem F.vector_Count.ok : cFunc Go.Proofs.Try.prog F.vector_Count = some (18, F.vector_Count.ic, F.vector_Count.rs) := by kernel_rfl
theorem F.vector_Count.cl : callable Go.Proofs.Try.prog F.vector_Count = true := by kernel_rfl
noncomputable def F.osierref04_Count.r0 : Plan :=
  .rd 0 none (.mv (.const (.int .i64 0))) (some 2) false <|
  .done
noncomputable def F.osierref04_Count.r1 : Plan :=
  .rd 0 none (.mv (.const (.int .i64 0))) (some 3) false <|
  .done
noncomputable def F.osierref04_Count.r2 : Plan :=
  .rd 0 none (.mv (.const (.int .i64 0))) (some 4) false <|
  .done
noncomputable def F.osierref04_Count.r3 : Plan :=
  .rd 0 none (.mv (.tmp 4)) (some 5) false <|
  .rd 1 none (.mv (.tmp 0)) (some 6) false <|
  .rd 2 none (.len .sl (.tmp 6)) (some 7) false <|
  .rd 3 none (.bin .lss (.tmp 5) (.tmp 7)) (some 8) false <|
  .done
noncomputable def F.osierref04_Count.r4 : Plan :=
  .rd 0 none (.mv (.tmp 3)) (some 11) false <|
  .rd 1 none (.mv (.tmp 0)) (some 12) false <|
  .rd 2 none (.mv (.tmp 4)) (some 13) false <|
  .rd 3 none (.idxA 2 (.tmp 12) (.tmp 13)) (some 14) false <|
  .rd 4 none (.fldA 1 (.tmp 14)) (some 15) false <|
  .rd 5 none (.ld1 (.tmp 15)) (some 16) false <|
  .rd 6 none (.bin .add (.tmp 11) (.tmp 16)) (some 17) false <|
  .rd 7 none (.mv (.tmp 17)) (some 3) false <|
  .done
noncomputable def F.osierref04_Count.r5 : Plan :=
  .rd 0 none (.mv (.tmp 4)) (some 9) false <|
  .rd 1 none (.bin .add (.tmp 9) (.const (.int .i64 1))) (some 10) false <|
  .rd 2 none (.mv (.tmp 10)) (some 4) false <|
  .done
noncomputable def F.osierref04_Count.l0 : IC :=
    (.seq (.seq (.reg F.osierref04_Count.r3)
    (.cond (.tmp 8) .skip (.exit 0)))
    (.seq (.block 1 (.reg F.osierref04_Count.r4))
    (.reg F.osierref04_Count.r5)))
noncomputable def F.osierref04_Count.r6 : Plan :=
  .rd 0 none (.mv (.tmp 3)) (some 18) false <|
  .rd 1 none (.mv (.tmp 18)) (some 2) false <|
  .done
noncomputable def F.osierref04_Count.ic : IC :=
    (.seq (.reg F.osierref04_Count.r0)
    (.seq (.reg F.osierref04_Count.r1)
    (.seq (.seq (.reg F.osierref04_Count.r2)
    (.block 0 (.loop F.osierref04_Count.l0)))
    (.seq (.reg F.osierref04_Count.r6)
    .ret))))
noncomputable def F.osierref04_Count.rs : List RO := [(.mv (.tmp 2))]
theorem F.osierref04_Count.ok : cFunc Go.Proofs.Try.prog F.osierref04_Count = some (19, F.osierref04_Count.ic, F.osierref04_Count.rs) := by kernel_rfl
theorem F.osierref04_Count.cl : callable Go.Proofs.Try.prog F.osierref04_Count = true := by kernel_rfl
noncomputable def F.vector_Join.r0 : Plan :=
  .rd 0 none (.mv (.const (.slice none 0 0))) (some 4) false <|
  .done
noncomputable def F.vector_Join.r1 : Plan :=
  .rd 0 none (.mv (.tmp 0)) (some 5) false <|
  .rd 1 none (.mv (.tmp 1)) (some 6) false <|
  .ef 2 none (.call F.vector_each [(.tmp 5), (.tmp 6), (.func F.vector_Join_c1)]) (some 7) [] (
  .rd 3 none (.mv (.tmp 7)) (some 4) false <|
  .done) .none
noncomputable def F.vector_Join.ic : IC :=
    (.seq (.reg F.vector_Join.r0)
    (.seq (.reg F.vector_Join.r1)
    .ret))
noncomputable def F.vector_Join.rs : List RO := [(.mv (.tmp 4))]
theorem F.vector_Join.ok : cFunc Go.Proofs.Try.prog F.vector_Join = some (8, F.vector_Join.ic, F.vector_Join.rs) := by kernel_rfl
theorem F.vector_Join.cl : callable Go.Proofs.Try.prog F.vector_Join = true := by kernel_rfl
noncomputable def F.vector_Meet.r0 : Plan :=
  .rd 0 none (.mv (.const (.slice none 0 0))) (some 4) false <|
  .done
noncomputable def F.vector_Meet.r1 : Plan :=
  .rd 0 none (.mv (.tmp 0)) (some 5) false <|
  .rd 1 none (.mv (.tmp 1)) (some 6) false <|
  .ef 2 none (.call F.vector_each [(.tmp 5), (.tmp 6), (.func F.vector_Meet_c1)]) (some 7) [] (
  .rd 3 none (.mv (.tmp 7)) (some 4) false <|
  .done) .none
noncomputable def F.vector_Meet.ic : IC :=
    (.seq (.reg F.vector_Meet.r0)
    (.seq (.reg F.vector_Meet.r1)
    .ret))
noncomputable def F.vector_Meet.rs : List RO := [(.mv (.tmp 4))]
theorem F.vector_Meet.ok : cFunc Go.Proofs.Try.prog F.vector_Meet = some (8, F.vector_Meet.ic, F.vector_Meet.rs) := by kernel_rfl
theorem F.vector_Meet.cl : callable Go.Proofs.Try.prog F.vector_Meet = true := by kernel_rfl
noncomputable def F.vector_Below.r0 : Plan :=
  .ef 0 none (.box (.tmp 1)) (some 3) [] (
  .rd 1 none (.mv (.const (.bool false))) (some 4) false <|
  .done) .none
noncomputable def F.vector_Below.r1 : Plan :=
  .rd 0 none (.mv (.tmp 0)) (some 5) false <|
  .rd 1 none (.mkF (.func F.vector_Below_c1) [] [(.tmp 3)]) (some 6) false <|
  .ef 2 none (.call F.slices_ContainsFunc_api_Vector_api_Dot [(.tmp 5), (.tmp 6)]) (some 7) [] (
  .rd 3 none (.un .not (.tmp 7)) (some 8) false <|
  .rd 4 none (.mv (.tmp 8)) (some 4) false <|
  .done) .none
noncomputable def F.vector_Below.ic : IC :=
    (.seq (.reg F.vector_Below.r0)
    (.seq (.reg F.vector_Below.r1)
    .ret))
noncomputable def F.vector_Below.rs : List RO := [(.mv (.tmp 4))]
theorem F.vector_Below.ok : cFunc Go.Proofs.Try.prog F.vector_Below = some (9, F.vector_Below.ic, F.vector_Below.rs) := by kernel_rfl
theorem F.vector_Below.cl : callable Go.Proofs.Try.prog F.vector_Below = true := by kernel_rfl
noncomputable def F.vector_Same.r0 : Plan :=
  .rd 0 none (.mv (.const (.bool false))) (some 4) false <|
  .done
noncomputable def F.vector_Same.r1 : Plan :=
  .rd 0 none (.mv (.tmp 0)) (some 5) false <|
  .rd 1 none (.mv (.tmp 1)) (some 6) false <|
  .ef 2 none (.call F.slices_Equal_api_Vector_api_Dot [(.tmp 5), (.tmp 6)]) (some 7) [] (
  .rd 3 none (.mv (.tmp 7)) (some 4) false <|
  .done) .none
noncomputable def F.vector_Same.ic : IC :=
    (.seq (.reg F.vector_Same.r0)
    (.seq (.reg F.vector_Same.r1)
    .ret))
noncomputable def F.vector_Same.rs : List RO := [(.mv (.tmp 4))]
theorem F.vector_Same.ok : cFunc Go.Proofs.Try.prog F.vector_Same = some (8, F.vector_Same.ic, F.vector_Same.rs) := by kernel_rfl
theorem F.vector_Same.cl : callable Go.Proofs.Try.prog F.vector_Same = true := by kernel_rfl
noncomputable def F.osierref04_Same.r0 : Plan :=
  .rd 0 none (.mv (.const (.bool false))) (some 4) false <|
  .done
noncomputable def F.osierref04_Same.r1 : Plan :=
  .rd 0 none (.mv (.tmp 0)) (some 6) false <|
  .rd 1 none (.len .sl (.tmp 6)) (some 7) false <|
  .rd 2 none (.mv (.tmp 1)) (some 8) false <|
  .rd 3 none (.len .sl (.tmp 8)) (some 9) false <|
  .rd 4 none (.bin .neq (.tmp 7) (.tmp 9)) (some 10) false <|
  .done
noncomputable def F.osierref04_Same.r2 : Plan :=
  .rd 0 none (.mv (.const (.bool false))) (some 4) false <|
  .done
noncomputable def F.osierref04_Same.r3 : Plan :=
  .rd 0 none (.mv (.const (.int .i64 0))) (some 5) false <|
  .done
noncomputable def F.osierref04_Same.r4 : Plan :=
  .rd 0 none (.mv (.tmp 5)) (some 11) false <|
  .rd 1 none (.mv (.tmp 0)) (some 12) false <|
  .rd 2 none (.len .sl (.tmp 12)) (some 13) false <|
  .rd 3 none (.bin .lss (.tmp 11) (.tmp 13)) (some 14) false <|
  .done
noncomputable def F.osierref04_Same.r5 : Plan :=
  .rd 0 none (.mv (.tmp 0)) (some 17) false <|
  .rd 1 none (.mv (.tmp 5)) (some 18) false <|
  .rd 2 none (.idxA 2 (.tmp 17) (.tmp 18)) (some 19) false <|
  .rd 3 none (.ldn 2 (.tmp 19)) (some 20) false <|
  .rd 4 none (.mv (.tmp 1)) (some 21) false <|
  .rd 5 none (.mv (.tmp 5)) (some 22) false <|
  .rd 6 none (.idxA 2 (.tmp 21) (.tmp 22)) (some 23) false <|
  .rd 7 none (.ldn 2 (.tmp 23)) (some 24) false <|
  .rd 8 none (.eqS [(.i .i64), (.i .i64)] true true (.tmp 20) (.tmp 24)) (some 25) false <|
  .done
noncomputable def F.osierref04_Same.r6 : Plan :=
  .rd 0 none (.mv (.const (.bool false))) (some 4) false <|
  .done
noncomputable def F.osierref04_Same.r7 : Plan :=
  .rd 0 none (.mv (.tmp 5)) (some 15) false <|
  .rd 1 none (.bin .add (.tmp 15) (.const (.int .i64 1))) (some 16) false <|
  .rd 2 none (.mv (.tmp 16)) (some 5) false <|
  .done
noncomputable def F.osierref04_Same.l0 : IC :=
    (.seq (.seq (.reg F.osierref04_Same.r4)
    (.cond (.tmp 14) .skip (.exit 0)))
    (.seq (.block 1 (.seq (.reg F.osierref04_Same.r5)
    (.cond (.tmp 25) (.seq (.reg F.osierref04_Same.r6)
    .ret) .skip)))
    (.reg F.osierref04_Same.r7)))
noncomputable def F.osierref04_Same.r8 : Plan :=
  .rd 0 none (.mv (.const (.bool true))) (some 4) false <|
  .done
noncomputable def F.osierref04_Same.ic : IC :=
    (.seq (.reg F.osierref04_Same.r0)
    (.seq (.seq (.reg F.osierref04_Same.r1)
    (.cond (.tmp 10) (.seq (.reg F.osierref04_Same.r2)
    .ret) .skip))
    (.seq (.seq (.reg F.osierref04_Same.r3)
    (.block 0 (.loop F.osierref04_Same.l0)))
    (.seq (.reg F.osierref04_Same.r8)
    .ret))))
noncomputable def F.osierref04_Same.rs : List RO := [(.mv (.tmp 4))]
theorem F.osierref04_Same.ok : cFunc Go.Proofs.Try.prog F.osierref04_Same = some (26, F.osierref04_Same.ic, F.osierref04_Same.rs) := by kernel_rfl
theorem F.osierref04_Same.cl : callable Go.Proofs.Try.prog F.osierref04_Same = true := by kernel_rfl
noncomputable def F.vector_With.r0 : Plan :=
  .ef 0 none (.box (.tmp 1)) (some 3) [] (
  .rd 1 none (.mv (.const (.slice none 0 0))) (some 4) false <|
  .done) .none
noncomputable def F.vector_With.r1 : Plan :=
  .rd 0 none (.ldn 2 (.tmp 3)) (some 5) false <|
  .ef 1 none (.call F.dots_May [(.tmp 5)]) (some 6) [] (
  .rd 2 none (.un .not (.tmp 6)) (some 7) false <|
  .done) .none
noncomputable def F.vector_With.r2 : Plan :=
  .rd 0 none (.mv (.tmp 0)) (some 8) false <|
  .ef 1 none (.call F.slices_Clone_api_Vector_api_Dot [(.tmp 8)]) (some 9) [] (
  .rd 2 none (.mv (.tmp 9)) (some 4) false <|
  .done) .none
noncomputable def F.vector_With.r3 : Plan :=
  .rd 0 none (.mv (.tmp 0)) (some 10) false <|
  .rd 1 none (.ldn 2 (.tmp 3)) (some 11) false <|
  .ef 2 none (.bsl 1 [(.int .i64 0), (.int .i64 0)] [(0, (2, (.tmp 11)))]) (some 12) [] (
  .ef 3 none (.call F.vector_Join [(.tmp 10), (.tmp 12)]) (some 13) [] (
  .rd 4 none (.mv (.tmp 13)) (some 4) false <|
  .done) .none) .none
noncomputable def F.vector_With.ic : IC :=
    (.seq (.reg F.vector_With.r0)
    (.seq (.seq (.reg F.vector_With.r1)
    (.cond (.tmp 7) (.seq (.reg F.vector_With.r2)
    .ret) .skip))
    (.seq (.reg F.vector_With.r3)
    .ret)))
noncomputable def F.vector_With.rs : List RO := [(.mv (.tmp 4))]
theorem F.vector_With.ok : cFunc Go.Proofs.Try.prog F.vector_With = some (14, F.vector_With.ic, F.vector_With.rs) := by kernel_rfl
theorem F.vector_With.cl : callable Go.Proofs.Try.prog F.vector_With = true := by kernel_rfl
noncomputable def F.vector_Missing.r0 : Plan :=
  .rd 0 none (.mv (.const (.slice none 0 0))) (some 6) false <|
  .done
noncomputable def F.vector_Missing.r1 : Plan :=
  .ef 0 none (.bsl 0 [] []) (some 11) [] (
  .rd 1 none (.mv (.tmp 11)) (some 7) false <|
  .done) .none
noncomputable def F.vector_Missing.r2 : Plan :=
  .rd 0 none (.mv (.tmp 0)) (some 12) false <|
  .rd 1 none (.len .sl (.tmp 12)) (some 13) false <|
  .rd 2 none (.mv (.const (.int .i64 0))) (some 14) false <|
  .done
noncomputable def F.vector_Missing.r3 : Plan :=
  .rd 0 none (.bin .lss (.tmp 14) (.tmp 13)) (some 15) false <|
  .done
noncomputable def F.vector_Missing.r4 : Plan :=
  .rd 0 none (.idxA 2 (.tmp 12) (.tmp 14)) (some 16) false <|
  .rd 1 none (.ldn 2 (.tmp 16)) (some 17) false <|
  .ef 2 none (.alloc [(.int .i64 0), (.int .i64 0)]) (some 9) [] (
  .ef 3 none (.st 2 (.tmp 9) (.tmp 17)) none [] (
  .done) .none) .none
noncomputable def F.vector_Missing.r5 : Plan :=
  .rd 0 none (.mv (.tmp 1)) (some 18) false <|
  .rd 1 none (.fldA 0 (.tmp 9)) (some 19) false <|
  .rd 2 none (.ld1 (.tmp 19)) (some 20) false <|
  .ef 3 none (.call F.vector_Get [(.tmp 18), (.tmp 20)]) (some 21) [] (
  .rd 4 none (.bin .add (.tmp 21) (.const (.int .i64 1))) (some 22) false <|
  .rd 5 none (.mv (.tmp 22)) (some 10) false <|
  .done) .none
noncomputable def F.vector_Missing.r6 : Plan :=
  .rd 0 none (.mv (.tmp 10)) (some 23) false <|
  .rd 1 none (.fldA 1 (.tmp 9)) (some 24) false <|
  .rd 2 none (.ld1 (.tmp 24)) (some 25) false <|
  .rd 3 none (.bin .leq (.tmp 23) (.tmp 25)) (some 26) false <|
  .done
noncomputable def F.vector_Missing.r7 : Plan :=
  .rd 0 none (.mv (.tmp 7)) (some 29) false <|
  .rd 1 none (.len .sl (.tmp 29)) (some 30) false <|
  .rd 2 none (.mv (.tmp 2)) (some 31) false <|
  .rd 3 none (.bin .geq (.tmp 30) (.tmp 31)) (some 32) false <|
  .done
noncomputable def F.vector_Missing.r8 : Plan :=
  .rd 0 none (.mv (.tmp 7)) (some 33) false <|
  .rd 1 none (.fldA 0 (.tmp 9)) (some 34) false <|
  .rd 2 none (.ld1 (.tmp 34)) (some 35) false <|
  .rd 3 none (.mv (.tmp 10)) (some 36) false <|
  .rd 4 none (.build [(.int .i64 0), (.int .i64 0)] [(0, (1, (.tmp 35))), (1, (1, (.tmp 36)))]) (some 37) false <|
  .ef 5 none (.bsl 1 [(.int .i64 0), (.int .i64 0)] [(0, (2, (.tmp 37)))]) (some 38) [] (
  .ef 6 none (.app 2 16 (.tmp 33) (.tmp 38)) (some 39) [] (
  .rd 7 none (.mv (.tmp 39)) (some 7) false <|
  .done) .none) .none
noncomputable def F.vector_Missing.r9 : Plan :=
  .rd 0 none (.mv (.tmp 10)) (some 27) false <|
  .rd 1 none (.bin .add (.tmp 27) (.const (.int .i64 1))) (some 28) false <|
  .rd 2 none (.mv (.tmp 28)) (some 10) false <|
  .done
noncomputable def F.vector_Missing.l0 : IC :=
    (.seq (.seq (.reg F.vector_Missing.r6)
    (.cond (.tmp 26) .skip (.exit 2)))
    (.seq (.block 3 (.seq (.seq (.reg F.vector_Missing.r7)
    (.cond (.tmp 32) (.exit 0) .skip))
    (.reg F.vector_Missing.r8)))
    (.reg F.vector_Missing.r9)))
noncomputable def F.vector_Missing.r10 : Plan :=
  .rd 0 none (.bin .add (.tmp 14) (.const (.int .i64 1))) (some 40) false <|
  .rd 1 none (.mv (.tmp 40)) (some 14) false <|
  .done
noncomputable def F.vector_Missing.l1 : IC :=
    (.seq (.reg F.vector_Missing.r3)
    (.seq (.cond (.tmp 15) .skip (.exit 0))
    (.seq (.block 1 (.seq (.reg F.vector_Missing.r4)
    (.seq (.reg F.vector_Missing.r5)
    (.block 2 (.loop F.vector_Missing.l0)))))
    (.reg F.vector_Missing.r10))))
noncomputable def F.vector_Missing.r11 : Plan :=
  .rd 0 none (.mv (.tmp 7)) (some 41) false <|
  .rd 1 none (.mv (.tmp 41)) (some 6) false <|
  .done
noncomputable def F.vector_Missing.ic : IC :=
    (.seq (.reg F.vector_Missing.r0)
    (.seq (.reg F.vector_Missing.r1)
    (.seq .skip
    (.seq (.seq (.reg F.vector_Missing.r2)
    (.block 0 (.loop F.vector_Missing.l1)))
    (.seq (.reg F.vector_Missing.r11)
    .ret)))))
noncomputable def F.vector_Missing.rs : List RO := [(.mv (.tmp 6))]
theorem F.vector_Missing.ok : cFunc Go.Proofs.Try.prog F.vector_Missing = some (42, F.vector_Missing.ic, F.vector_Missing.rs) := by kernel_rfl
theorem F.vector_Missing.cl : callable Go.Proofs.Try.prog F.vector_Missing = true := by kernel_rfl
noncomputable def F.osierref04_Join.r0 : Plan :=
  .rd 0 none (.mv (.const (.slice none 0 0))) (some 6) false <|
  .done
noncomputable def F.osierref04_Join.r1 : Plan :=
  .rd 0 none (.mv (.const (.slice none 0 0))) (some 7) false <|
  .done
noncomputable def F.osierref04_Join.r2 : Plan :=
  .rd 0 none (.mv (.tmp 0)) (some 13) false <|
  .rd 1 none (.mv (.tmp 1)) (some 14) false <|
  .ef 2 none (.call F.osierref04_acts [(.tmp 13), (.tmp 14)]) (some 15) [] (
  .rd 3 none (.mv (.tmp 15)) (some 8) false <|
  .done) .none
noncomputable def F.osierref04_Join.r3 : Plan :=
  .rd 0 none (.mv (.const (.int .i64 0))) (some 9) false <|
  .done
noncomputable def F.osierref04_Join.r4 : Plan :=
  .rd 0 none (.mv (.tmp 9)) (some 16) false <|
  .rd 1 none (.mv (.tmp 8)) (some 17) false <|
  .rd 2 none (.len .sl (.tmp 17)) (some 18) false <|
  .rd 3 none (.bin .lss (.tmp 16) (.tmp 18)) (some 19) false <|
  .done
noncomputable def F.osierref04_Join.r5 : Plan :=
  .rd 0 none (.mv (.tmp 0)) (some 22) false <|
  .rd 1 none (.mv (.tmp 8)) (some 23) false <|
  .rd 2 none (.mv (.tmp 9)) (some 24) false <|
  .rd 3 none (.idxA 1 (.tmp 23) (.tmp 24)) (some 25) false <|
  .rd 4 none (.ld1 (.tmp 25)) (some 26) false <|
  .ef 5 none (.call F.osierref04_Get [(.tmp 22), (.tmp 26)]) (some 27) [] (
  .rd 6 none (.mv (.tmp 27)) (some 10) false <|
  .done) .none
noncomputable def F.osierref04_Join.r6 : Plan :=
  .rd 0 none (.mv (.tmp 1)) (some 28) false <|
  .rd 1 none (.mv (.tmp 8)) (some 29) false <|
  .rd 2 none (.mv (.tmp 9)) (some 30) false <|
  .rd 3 none (.idxA 1 (.tmp 29) (.tmp 30)) (some 31) false <|
  .rd 4 none (.ld1 (.tmp 31)) (some 32) false <|
  .ef 5 none (.call F.osierref04_Get [(.tmp 28), (.tmp 32)]) (some 33) [] (
  .rd 6 none (.mv (.tmp 33)) (some 11) false <|
  .done) .none
noncomputable def F.osierref04_Join.r7 : Plan :=
  .rd 0 none (.mv (.tmp 10)) (some 34) false <|
  .rd 1 none (.mv (.tmp 34)) (some 12) false <|
  .done
noncomputable def F.osierref04_Join.r8 : Plan :=
  .rd 0 none (.mv (.tmp 11)) (some 35) false <|
  .rd 1 none (.mv (.tmp 10)) (some 36) false <|
  .rd 2 none (.bin .gtr (.tmp 35) (.tmp 36)) (some 37) false <|
  .rd 3 none (.mv (.tmp 2)) (some 38) false <|
  .rd 4 none (.eqS [.b] false true (.tmp 37) (.tmp 38)) (some 39) false <|
  .done
noncomputable def F.osierref04_Join.r9 : Plan :=
  .rd 0 none (.mv (.tmp 11)) (some 40) false <|
  .rd 1 none (.mv (.tmp 40)) (some 12) false <|
  .done
noncomputable def F.osierref04_Join.r10 : Plan :=
  .rd 0 none (.mv (.tmp 12)) (some 41) false <|
  .rd 1 none (.bin .gtr (.tmp 41) (.const (.int .i64 0))) (some 42) false <|
  .done
noncomputable def F.osierref04_Join.r11 : Plan :=
  .rd 0 none (.mv (.tmp 7)) (some 43) false <|
  .rd 1 none (.mv (.tmp 8)) (some 44) false <|
  .rd 2 none (.mv (.tmp 9)) (some 45) false <|
  .rd 3 none (.idxA 1 (.tmp 44) (.tmp 45)) (some 46) false <|
  .rd 4 none (.ld1 (.tmp 46)) (some 47) false <|
  .rd 5 none (.mv (.tmp 12)) (some 48) false <|
  .rd 6 none (.build [(.int .i64 0), (.int .i64 0)] [(0, (1, (.tmp 47))), (1, (1, (.tmp 48)))]) (some 49) false <|
  .ef 7 none (.bsl 1 [(.int .i64 0), (.int .i64 0)] [(0, (2, (.tmp 49)))]) (some 50) [] (
  .ef 8 none (.app 2 16 (.tmp 43) (.tmp 50)) (some 51) [] (
  .rd 9 none (.mv (.tmp 51)) (some 7) false <|
  .done) .none) .none
noncomputable def F.osierref04_Join.r12 : Plan :=
  .rd 0 none (.mv (.tmp 9)) (some 20) false <|
  .rd 1 none (.bin .add (.tmp 20) (.const (.int .i64 1))) (some 21) false <|
  .rd 2 none (.mv (.tmp 21)) (some 9) false <|
  .done
noncomputable def F.osierref04_Join.l0 : IC :=
    (.seq (.seq (.reg F.osierref04_Join.r4)
    (.cond (.tmp 19) .skip (.exit 0)))
    (.seq (.block 1 (.seq (.reg F.osierref04_Join.r5)
    (.seq (.reg F.osierref04_Join.r6)
    (.seq (.reg F.osierref04_Join.r7)
    (.seq (.seq (.reg F.osierref04_Join.r8)
    (.cond (.tmp 39) (.reg F.osierref04_Join.r9) .skip))
    (.seq (.reg F.osierref04_Join.r10)
    (.cond (.tmp 42) (.reg F.osierref04_Join.r11) .skip)))))))
    (.reg F.osierref04_Join.r12)))
noncomputable def F.osierref04_Join.r13 : Plan :=
  .rd 0 none (.mv (.tmp 7)) (some 52) false <|
  .rd 1 none (.mv (.tmp 52)) (some 6) false <|
  .done
noncomputable def F.osierref04_Join.ic : IC :=
    (.seq (.reg F.osierref04_Join.r0)
    (.seq (.reg F.osierref04_Join.r1)
    (.seq (.reg F.osierref04_Join.r2)
    (.seq (.seq (.reg F.osierref04_Join.r3)
    (.block 0 (.loop F.osierref04_Join.l0)))
    (.seq (.reg F.osierref04_Join.r13)
    .ret)))))
noncomputable def F.osierref04_Join.rs : List RO := [(.mv (.tmp 6))]
theorem F.osierref04_Join.ok : cFunc Go.Proofs.Try.prog F.osierref04_Join = some (53, F.osierref04_Join.ic, F.osierref04_Join.rs) := by kernel_rfl
theorem F.osierref04_Join.cl : callable Go.Proofs.Try.prog F.osierref04_Join = true := by kernel_rfl
noncomputable def F.osierref04_With.r0 : Plan :=
  .ef 0 none (.box (.tmp 1)) (some 3) [] (
  .rd 1 none (.mv (.const (.slice none 0 0))) (some 4) false <|
  .done) .none
noncomputable def F.osierref04_With.r1 : Plan :=
  .rd 0 none (.ldn 2 (.tmp 3)) (some 6) false <|
  .ef 1 none (.call F.osierref03_May [(.tmp 6)]) (some 7) [] (
  .rd 2 none (.mv (.tmp 7)) (some 5) false <|
  .done) .none
noncomputable def F.osierref04_With.r2 : Plan :=
  .rd 0 none (.mv (.tmp 5)) (some 8) false <|
  .rd 1 none (.un .not (.tmp 8)) (some 9) false <|
  .done
noncomputable def F.osierref04_With.r3 : Plan :=
  .rd 0 none (.mv (.tmp 0)) (some 10) false <|
  .rd 1 none (.mv (.tmp 10)) (some 4) false <|
  .done
noncomputable def F.osierref04_With.r4 : Plan :=
  .rd 0 none (.mv (.tmp 0)) (some 11) false <|
  .rd 1 none (.ldn 2 (.tmp 3)) (some 12) false <|
  .ef 2 none (.bsl 1 [(.int .i64 0), (.int .i64 0)] [(0, (2, (.tmp 12)))]) (some 13) [] (
  .ef 3 none (.call F.osierref04_Join [(.tmp 11), (.tmp 13), (.const (.bool false))]) (some 14) [] (
  .rd 4 none (.mv (.tmp 14)) (some 4) false <|
  .done) .none) .none
noncomputable def F.osierref04_With.ic : IC :=
    (.seq (.reg F.osierref04_With.r0)
    (.seq (.reg F.osierref04_With.r1)
    (.seq (.seq (.reg F.osierref04_With.r2)
    (.cond (.tmp 9) (.seq (.reg F.osierref04_With.r3)
    .ret) .skip))
    (.seq (.reg F.osierref04_With.r4)
    .ret))))
noncomputable def F.osierref04_With.rs : List RO := [(.mv (.tmp 4))]
theorem F.osierref04_With.ok : cFunc Go.Proofs.Try.prog F.osierref04_With = some (15, F.osierref04_With.ic, F.osierref04_With.rs) := by kernel_rfl
theorem F.osierref04_With.cl : callable Go.Proofs.Try.prog F.osierref04_With = true := by kernel_rfl
noncomputable def F.osierref04_Below.r0 : Plan :=
  .rd 0 none (.mv (.const (.bool false))) (some 4) false <|
  .done
noncomputable def F.osierref04_Below.r1 : Plan :=
  .rd 0 none (.mv (.const (.int .i64 0))) (some 5) false <|
  .done
noncomputable def F.osierref04_Below.r2 : Plan :=
  .rd 0 none (.mv (.tmp 5)) (some 6) false <|
  .rd 1 none (.mv (.tmp 0)) (some 7) false <|
  .rd 2 none (.len .sl (.tmp 7)) (some 8) false <|
  .rd 3 none (.bin .lss (.tmp 6) (.tmp 8)) (some 9) false <|
  .done
noncomputable def F.osierref04_Below.r3 : Plan :=
  .rd 0 none (.mv (.tmp 1)) (some 12) false <|
  .rd 1 none (.mv (.tmp 0)) (some 13) false <|
  .rd 2 none (.mv (.tmp 5)) (some 14) false <|
  .rd 3 none (.idxA 2 (.tmp 13) (.tmp 14)) (some 15) false <|
  .rd 4 none (.fldA 0 (.tmp 15)) (some 16) false <|
  .rd 5 none (.ld1 (.tmp 16)) (some 17) false <|
  .rd 7 none (.mv (.tmp 0)) (some 19) false <|
  .rd 8 none (.mv (.tmp 5)) (some 20) false <|
  .rd 9 none (.idxA 2 (.tmp 19) (.tmp 20)) (some 21) false <|
  .rd 10 none (.fldA 1 (.tmp 21)) (some 22) false <|
  .rd 11 none (.ld1 (.tmp 22)) (some 23) true <|
  .ef 6 none (.call F.osierref04_Get [(.tmp 12), (.tmp 17)]) (some 18) [7, 8, 9, 10, 11] (
  .rd 12 none (.bin .lss (.tmp 18) (.tmp 23)) (some 24) false <|
  .done) .none
noncomputable def F.osierref04_Below.r4 : Plan :=
  .rd 0 none (.mv (.const (.bool false))) (some 4) false <|
  .done
noncomputable def F.osierref04_Below.r5 : Plan :=
  .rd 0 none (.mv (.tmp 5)) (some 10) false <|
  .rd 1 none (.bin .add (.tmp 10) (.const (.int .i64 1))) (some 11) false <|
  .rd 2 none (.mv (.tmp 11)) (some 5) false <|
  .done
noncomputable def F.osierref04_Below.l0 : IC :=
    (.seq (.seq (.reg F.osierref04_Below.r2)
    (.cond (.tmp 9) .skip (.exit 0)))
    (.seq (.block 1 (.seq (.reg F.osierref04_Below.r3)
    (.cond (.tmp 24) (.seq (.reg F.osierref04_Below.r4)
    .ret) .skip)))
    (.reg F.osierref04_Below.r5)))
noncomputable def F.osierref04_Below.r6 : Plan :=
  .rd 0 none (.mv (.const (.bool true))) (some 4) false <|
  .done
noncomputable def F.osierref04_Below.ic : IC :=
    (.seq (.reg F.osierref04_Below.r0)
    (.seq (.seq (.reg F.osierref04_Below.r1)
    (.block 0 (.loop F.osierref04_Below.l0)))
    (.seq (.reg F.osierref04_Below.r6)
    .ret)))
noncomputable def F.osierref04_Below.rs : List RO := [(.mv (.tmp 4))]
theorem F.osierref04_Below.ok : cFunc Go.Proofs.Try.prog F.osierref04_Below = some (25, F.osierref04_Below.ic, F.osierref04_Below.rs) := by kernel_rfl
theorem F.osierref04_Below.cl : callable Go.Proofs.Try.prog F.osierref04_Below = true := by kernel_rfl
noncomputable def F.osierref04_Missing.r0 : Plan :=
  .rd 0 none (.mv (.const (.slice none 0 0))) (some 6) false <|
  .done
noncomputable def F.osierref04_Missing.r1 : Plan :=
  .rd 0 none (.mv (.const (.slice none 0 0))) (some 7) false <|
  .done
noncomputable def F.osierref04_Missing.r2 : Plan :=
  .rd 0 none (.mv (.const (.int .i64 0))) (some 8) false <|
  .done
noncomputable def F.osierref04_Missing.r3 : Plan :=
  .rd 0 none (.mv (.tmp 8)) (some 10) false <|
  .rd 1 none (.mv (.tmp 0)) (some 11) false <|
  .rd 2 none (.len .sl (.tmp 11)) (some 12) false <|
  .rd 3 none (.bin .lss (.tmp 10) (.tmp 12)) (some 13) false <|
  .done
noncomputable def F.osierref04_Missing.r4 : Plan :=
  .rd 0 none (.mv (.tmp 1)) (some 16) false <|
  .rd 1 none (.mv (.tmp 0)) (some 17) false <|
  .rd 2 none (.mv (.tmp 8)) (some 18) false <|
  .rd 3 none (.idxA 2 (.tmp 17) (.tmp 18)) (some 19) false <|
  .rd 4 none (.fldA 0 (.tmp 19)) (some 20) false <|
  .rd 5 none (.ld1 (.tmp 20)) (some 21) false <|
  .ef 6 none (.call F.osierref04_Get [(.tmp 16), (.tmp 21)]) (some 22) [] (
  .rd 7 none (.bin .add (.tmp 22) (.const (.int .i64 1))) (some 23) false <|
  .rd 8 none (.mv (.tmp 23)) (some 9) false <|
  .done) .none
noncomputable def F.osierref04_Missing.r5 : Plan :=
  .rd 0 none (.mv (.tmp 9)) (some 24) false <|
  .rd 1 none (.mv (.tmp 0)) (some 25) false <|
  .rd 2 none (.mv (.tmp 8)) (some 26) false <|
  .rd 3 none (.idxA 2 (.tmp 25) (.tmp 26)) (some 27) false <|
  .rd 4 none (.fldA 1 (.tmp 27)) (some 28) false <|
  .rd 5 none (.ld1 (.tmp 28)) (some 29) false <|
  .rd 6 none (.bin .leq (.tmp 24) (.tmp 29)) (some 30) false <|
  .rd 7 none (.mv (.tmp 30)) (some 31) false <|
  .rd 8 (some (31, true)) (.mv (.tmp 7)) (some 32) false <|
  .rd 9 (some (31, true)) (.len .sl (.tmp 32)) (some 33) false <|
  .rd 10 (some (31, true)) (.mv (.tmp 2)) (some 34) false <|
  .rd 11 (some (31, true)) (.bin .lss (.tmp 33) (.tmp 34)) (some 35) false <|
  .rd 12 none (.pick (.tmp 31) (.tmp 35) (.const (.bool false))) (some 36) false <|
  .done
noncomputable def F.osierref04_Missing.r6 : Plan :=
  .rd 0 none (.mv (.tmp 7)) (some 37) false <|
  .rd 1 none (.mv (.tmp 0)) (some 38) false <|
  .rd 2 none (.mv (.tmp 8)) (some 39) false <|
  .rd 3 none (.idxA 2 (.tmp 38) (.tmp 39)) (some 40) false <|
  .rd 4 none (.fldA 0 (.tmp 40)) (some 41) false <|
  .rd 5 none (.ld1 (.tmp 41)) (some 42) false <|
  .rd 6 none (.mv (.tmp 9)) (some 43) false <|
  .rd 7 none (.build [(.int .i64 0), (.int .i64 0)] [(0, (1, (.tmp 42))), (1, (1, (.tmp 43)))]) (some 44) false <|
  .ef 8 none (.bsl 1 [(.int .i64 0), (.int .i64 0)] [(0, (2, (.tmp 44)))]) (some 45) [] (
  .ef 9 none (.app 2 16 (.tmp 37) (.tmp 45)) (some 46) [] (
  .rd 10 none (.mv (.tmp 46)) (some 7) false <|
  .done) .none) .none
noncomputable def F.osierref04_Missing.r7 : Plan :=
  .rd 0 none (.mv (.tmp 9)) (some 47) false <|
  .rd 1 none (.bin .add (.tmp 47) (.const (.int .i64 1))) (some 48) false <|
  .rd 2 none (.mv (.tmp 48)) (some 9) false <|
  .done
noncomputable def F.osierref04_Missing.l0 : IC :=
    (.seq (.seq (.reg F.osierref04_Missing.r5)
    (.cond (.tmp 36) .skip (.exit 2)))
    (.block 3 (.seq (.reg F.osierref04_Missing.r6)
    (.reg F.osierref04_Missing.r7))))
noncomputable def F.osierref04_Missing.r8 : Plan :=
  .rd 0 none (.mv (.tmp 8)) (some 14) false <|
  .rd 1 none (.bin .add (.tmp 14) (.const (.int .i64 1))) (some 15) false <|
  .rd 2 none (.mv (.tmp 15)) (some 8) false <|
  .done
noncomputable def F.osierref04_Missing.l1 : IC :=
    (.seq (.seq (.reg F.osierref04_Missing.r3)
    (.cond (.tmp 13) .skip (.exit 0)))
    (.seq (.block 1 (.seq (.reg F.osierref04_Missing.r4)
    (.block 2 (.loop F.osierref04_Missing.l0))))
    (.reg F.osierref04_Missing.r8)))
noncomputable def F.osierref04_Missing.r9 : Plan :=
  .rd 0 none (.mv (.tmp 7)) (some 49) false <|
  .rd 1 none (.mv (.tmp 49)) (some 6) false <|
  .done
noncomputable def F.osierref04_Missing.ic : IC :=
    (.seq (.reg F.osierref04_Missing.r0)
    (.seq (.reg F.osierref04_Missing.r1)
    (.seq (.seq (.reg F.osierref04_Missing.r2)
    (.block 0 (.loop F.osierref04_Missing.l1)))
    (.seq (.reg F.osierref04_Missing.r9)
    .ret))))
noncomputable def F.osierref04_Missing.rs : List RO := [(.mv (.tmp 6))]
theorem F.osierref04_Missing.ok : cFunc Go.Proofs.Try.prog F.osierref04_Missing = some (50, F.osierref04_Missing.ic, F.osierref04_Missing.rs) := by kernel_rfl
theorem F.osierref04_Missing.cl : callable Go.Proofs.Try.prog F.osierref04_Missing = true := by kernel_rfl
noncomputable def F.slices_IndexFunc_api_Vector_api_Dot.r0 : Plan :=
  .rd 0 none (.mv (.const (.int .i64 0))) (some 4) false <|
  .done
noncomputable def F.slices_IndexFunc_api_Vector_api_Dot.r1 : Plan :=
  .rd 0 none (.mv (.tmp 0)) (some 6) false <|
  .rd 1 none (.len .sl (.tmp 6)) (some 7) false <|
  .rd 2 none (.mv (.const (.int .i64 0))) (some 8) false <|
  .done
noncomputable def F.slices_IndexFunc_api_Vector_api_Dot.r2 : Plan :=
  .rd 0 none (.bin .lss (.tmp 8) (.tmp 7)) (some 9) false <|
  .done
noncomputable def F.slices_IndexFunc_api_Vector_api_Dot.r3 : Plan :=
  .rd 0 none (.mv (.tmp 8)) (some 10) false <|
  .rd 1 none (.mv (.tmp 10)) (some 5) false <|
  .done
noncomputable def F.slices_IndexFunc_api_Vector_api_Dot.r4 : Plan :=
  .rd 0 none (.mv (.tmp 1)) (some 11) false <|
  .rd 1 none (.mv (.tmp 0)) (some 12) false <|
  .rd 2 none (.mv (.tmp 5)) (some 13) false <|
  .rd 3 none (.idxA 2 (.tmp 12) (.tmp 13)) (some 14) false <|
  .rd 4 none (.ldn 2 (.tmp 14)) (some 15) false <|
  .ef 5 none (.callv (.tmp 11) [(.tmp 15)]) (some 16) [] (
  .done) .none
noncomputable def F.slices_IndexFunc_api_Vector_api_Dot.r5 : Plan :=
  .rd 0 none (.mv (.tmp 5)) (some 17) false <|
  .rd 1 none (.mv (.tmp 17)) (some 4) false <|
  .done
noncomputable def F.slices_IndexFunc_api_Vector_api_Dot.r6 : Plan :=
  .rd 0 none (.bin .add (.tmp 8) (.const (.int .i64 1))) (some 18) false <|
  .rd 1 none (.mv (.tmp 18)) (some 8) false <|
  .done
noncomputable def F.slices_IndexFunc_api_Vector_api_Dot.l0 : IC :=
    (.seq (.reg F.slices_IndexFunc_api_Vector_api_Dot.r2)
    (.seq (.cond (.tmp 9) .skip (.exit 0))
    (.seq (.block 1 (.seq (.reg F.slices_IndexFunc_api_Vector_api_Dot.r3)
    (.seq (.reg F.slices_IndexFunc_api_Vector_api_Dot.r4)
    (.cond (.tmp 16) (.seq (.reg F.slices_IndexFunc_api_Vector_api_Dot.r5)
    .ret) .skip))))
    (.reg F.slices_IndexFunc_api_Vector_api_Dot.r6))))
noncomputable def F.slices_IndexFunc_api_Vector_api_Dot.r7 : Plan :=
  .rd 0 none (.mv (.const (.int .i64 (-1)))) (some 4) false <|
  .done
noncomputable def F.slices_IndexFunc_api_Vector_api_Dot.ic : IC :=
    (.seq (.reg F.slices_IndexFunc_api_Vector_api_Dot.r0)
    (.seq (.seq (.reg F.slices_IndexFunc_api_Vector_api_Dot.r1)
    (.block 0 (.loop F.slices_IndexFunc_api_Vector_api_Dot.l0)))
    (.seq (.reg F.slices_IndexFunc_api_Vector_api_Dot.r7)
    .ret)))
noncomputable def F.slices_IndexFunc_api_Vector_api_Dot.rs : List RO := [(.mv (.tmp 4))]
theorem F.slices_IndexFunc_api_Vector_api_Dot.ok : cFunc Go.Proofs.Try.prog F.slices_IndexFunc_api_Vector_api_Dot = some (19, F.slices_IndexFunc_api_Vector_api_Dot.ic, F.slices_IndexFunc_api_Vector_api_Dot.rs) := by kernel_rfl
theorem F.slices_IndexFunc_api_Vector_api_Dot.cl : callable Go.Proofs.Try.prog F.slices_IndexFunc_api_Vector_api_Dot = true := by kernel_rfl
noncomputable def F.vector_Get_c1.r0 : Plan :=
  .ef 0 none (.box (.tmp 0)) (some 2) [] (
  .rd 1 none (.mv (.const (.bool false))) (some 3) false <|
  .done) .none
noncomputable def F.vector_Get_c1.r1 : Plan :=
  .rd 0 none (.fldA 0 (.tmp 2)) (some 4) false <|
  .rd 1 none (.ld1 (.tmp 4)) (some 5) false <|
  .rd 2 none (.ld1 (.tmp 1)) (some 6) false <|
  .rd 3 none (.bin .eql (.tmp 5) (.tmp 6)) (some 7) false <|
  .rd 4 none (.mv (.tmp 7)) (some 3) false <|
  .done
noncomputable def F.vector_Get_c1.ic : IC :=
    (.seq (.reg F.vector_Get_c1.r0)
    (.seq (.reg F.vector_Get_c1.r1)
    .ret))
noncomputable def F.vector_Get_c1.rs : List RO := [(.mv (.tmp 3))]
theorem F.vector_Get_c1.ok : cFunc Go.Proofs.Try.prog F.vector_Get_c1 = some (8, F.vector_Get_c1.ic, F.vector_Get_c1.rs) := by kernel_rfl
theorem F.vector_Get_c1.cl : callable Go.Proofs.Try.prog F.vector_Get_c1 = true := by kernel_rfl
noncomputable def F.vector_each.r0 : Plan :=
  .rd 0 none (.mv (.const (.slice none 0 0))) (some 6) false <|
  .done
noncomputable def F.vector_each.r1 : Plan :=
  .ef 0 none (.bsl 0 [] []) (some 11) [] (
  .rd 1 none (.mv (.tmp 11)) (some 7) false <|
  .done) .none
noncomputable def F.vector_each.r2 : Plan :=
  .rd 0 none (.mv (.tmp 0)) (some 12) false <|
  .rd 1 none (.mv (.tmp 1)) (some 13) false <|
  .ef 2 none (.bsl 2 [(.slice none 0 0), (.slice none 0 0)] [(0, (1, (.tmp 12))), (1, (1, (.tmp 13)))]) (some 14) [] (
  .ef 3 none (.call F.slices_Concat_api_Vector_api_Dot [(.tmp 14)]) (some 15) [] (
  .ef 4 none (.call F.dots_Rising [(.tmp 15)]) (some 16) [] (
  .rd 5 none (.len .sl (.tmp 16)) (some 17) false <|
  .rd 6 none (.mv (.const (.int .i64 0))) (some 18) false <|
  .done) .none) .none) .none
noncomputable def F.vector_each.r3 : Plan :=
  .rd 0 none (.bin .lss (.tmp 18) (.tmp 17)) (some 19) false <|
  .done
noncomputable def F.vector_each.r4 : Plan :=
  .rd 0 none (.idxA 2 (.tmp 16) (.tmp 18)) (some 20) false <|
  .rd 1 none (.ldn 2 (.tmp 20)) (some 21) false <|
  .ef 2 none (.alloc [(.int .i64 0), (.int .i64 0)]) (some 9) [] (
  .ef 3 none (.st 2 (.tmp 9) (.tmp 21)) none [] (
  .done) .none) .none
noncomputable def F.vector_each.r5 : Plan :=
  .rd 0 none (.mv (.tmp 2)) (some 22) false <|
  .rd 1 none (.mv (.tmp 0)) (some 23) false <|
  .rd 2 none (.fldA 0 (.tmp 9)) (some 24) false <|
  .rd 3 none (.ld1 (.tmp 24)) (some 25) false <|
  .rd 5 none (.mv (.tmp 1)) (some 27) false <|
  .rd 6 none (.fldA 0 (.tmp 9)) (some 28) false <|
  .rd 7 none (.ld1 (.tmp 28)) (some 29) true <|
  .ef 4 none (.call F.vector_Get [(.tmp 23), (.tmp 25)]) (some 26) [0, 5, 6, 7] (
  .ef 8 none (.call F.vector_Get [(.tmp 27), (.tmp 29)]) (some 30) [0] (
  .ef 9 none (.callv (.tmp 22) [(.tmp 26), (.tmp 30)]) (some 31) [] (
  .rd 10 none (.mv (.tmp 31)) (some 10) false <|
  .done) .none) .none) .none
noncomputable def F.vector_each.r6 : Plan :=
  .rd 0 none (.mv (.tmp 10)) (some 32) false <|
  .rd 1 none (.bin .gtr (.tmp 32) (.const (.int .i64 0))) (some 33) false <|
  .rd 2 none (.mv (.tmp 33)) (some 34) false <|
  .rd 3 (some (34, true)) (.mv (.tmp 7)) (some 35) false <|
  .rd 4 (some (34, true)) (.len .sl (.tmp 35)) (some 36) false <|
  .rd 5 (some (34, true)) (.bin .eql (.tmp 36) (.const (.int .i64 0))) (some 37) false <|
  .rd 6 (some (34, true)) (.mv (.tmp 37)) (some 38) false <|
  .rd 7 (some (38, false)) (.mv (.tmp 7)) (some 39) false <|
  .rd 8 (some (38, false)) (.mv (.tmp 7)) (some 40) false <|
  .rd 9 (some (38, false)) (.len .sl (.tmp 40)) (some 41) false <|
  .rd 10 (some (38, false)) (.bin .sub (.tmp 41) (.const (.int .i64 1))) (some 42) false <|
  .rd 11 (some (38, false)) (.idxA 2 (.tmp 39) (.tmp 42)) (some 43) false <|
  .rd 12 (some (38, false)) (.fldA 0 (.tmp 43)) (some 44) false <|
  .rd 13 (some (38, false)) (.ld1 (.tmp 44)) (some 45) false <|
  .rd 14 (some (38, false)) (.fldA 0 (.tmp 9)) (some 46) false <|
  .rd 15 (some (38, false)) (.ld1 (.tmp 46)) (some 47) false <|
  .rd 16 (some (38, false)) (.bin .lss (.tmp 45) (.tmp 47)) (some 48) false <|
  .rd 17 (some (34, true)) (.pick (.tmp 38) (.const (.bool true)) (.tmp 48)) (some 49) false <|
  .rd 18 none (.pick (.tmp 34) (.tmp 49) (.const (.bool false))) (some 50) false <|
  .done
noncomputable def F.vector_each.r7 : Plan :=
  .rd 0 none (.mv (.tmp 7)) (some 51) false <|
  .rd 1 none (.fldA 0 (.tmp 9)) (some 52) false <|
  .rd 2 none (.ld1 (.tmp 52)) (some 53) false <|
  .rd 3 none (.mv (.tmp 10)) (some 54) false <|
  .rd 4 none (.build [(.int .i64 0), (.int .i64 0)] [(0, (1, (.tmp 53))), (1, (1, (.tmp 54)))]) (some 55) false <|
  .ef 5 none (.bsl 1 [(.int .i64 0), (.int .i64 0)] [(0, (2, (.tmp 55)))]) (some 56) [] (
  .ef 6 none (.app 2 16 (.tmp 51) (.tmp 56)) (some 57) [] (
  .rd 7 none (.mv (.tmp 57)) (some 7) false <|
  .done) .none) .none
noncomputable def F.vector_each.r8 : Plan :=
  .rd 0 none (.bin .add (.tmp 18) (.const (.int .i64 1))) (some 58) false <|
  .rd 1 none (.mv (.tmp 58)) (some 18) false <|
  .done
noncomputable def F.vector_each.l0 : IC :=
    (.seq (.reg F.vector_each.r3)
    (.seq (.cond (.tmp 19) .skip (.exit 0))
    (.seq (.block 1 (.seq (.reg F.vector_each.r4)
    (.seq (.reg F.vector_each.r5)
    (.seq (.reg F.vector_each.r6)
    (.cond (.tmp 50) (.reg F.vector_each.r7) .skip)))))
    (.reg F.vector_each.r8))))
noncomputable def F.vector_each.r9 : Plan :=
  .rd 0 none (.mv (.tmp 7)) (some 59) false <|
  .rd 1 none (.mv (.tmp 59)) (some 6) false <|
  .done
noncomputable def F.vector_each.ic : IC :=
    (.seq (.reg F.vector_each.r0)
    (.seq (.reg F.vector_each.r1)
    (.seq (.seq (.reg F.vector_each.r2)
    (.block 0 (.loop F.vector_each.l0)))
    (.seq (.reg F.vector_each.r9)
    .ret))))
noncomputable def F.vector_each.rs : List RO := [(.mv (.tmp 6))]
theorem F.vector_each.ok : cFunc Go.Proofs.Try.prog F.vector_each = some (60, F.vector_each.ic, F.vector_each.rs) := by kernel_rfl
theorem F.vector_each.cl : callable Go.Proofs.Try.prog F.vector_each = true := by kernel_rfl
noncomputable def F.vector_Join_c1.r0 : Plan :=
  .rd 0 none (.mv (.const (.int .i64 0))) (some 4) false <|
  .done
noncomputable def F.vector_Join_c1.r1 : Plan :=
  .rd 0 none (.mv (.tmp 0)) (some 5) false <|
  .rd 1 none (.mv (.tmp 1)) (some 6) false <|
  .rd 2 none (.maxI true (.tmp 5) (.tmp 6)) (some 7) false <|
  .rd 3 none (.mv (.tmp 7)) (some 4) false <|
  .done
noncomputable def F.vector_Join_c1.ic : IC :=
    (.seq (.reg F.vector_Join_c1.r0)
    (.seq (.reg F.vector_Join_c1.r1)
    .ret))
noncomputable def F.vector_Join_c1.rs : List RO := [(.mv (.tmp 4))]
theorem F.vector_Join_c1.ok : cFunc Go.Proofs.Try.prog F.vector_Join_c1 = some (8, F.vector_Join_c1.ic, F.vector_Join_c1.rs) := by kernel_rfl
theorem F.vector_Join_c1.cl : callable Go.Proofs.Try.prog F.vector_Join_c1 = true := by kernel_rfl
noncomputable def F.vector_Meet_c1.r0 : Plan :=
  .rd 0 none (.mv (.const (.int .i64 0))) (some 4) false <|
  .done
noncomputable def F.vector_Meet_c1.r1 : Plan :=
  .rd 0 none (.mv (.tmp 0)) (some 5) false <|
  .rd 1 none (.mv (.tmp 1)) (some 6) false <|
  .rd 2 none (.maxI false (.tmp 5) (.tmp 6)) (some 7) false <|
  .rd 3 none (.mv (.tmp 7)) (some 4) false <|
  .done
noncomputable def F.vector_Meet_c1.ic : IC :=
    (.seq (.reg F.vector_Meet_c1.r0)
    (.seq (.reg F.vector_Meet_c1.r1)
    .ret))
noncomputable def F.vector_Meet_c1.rs : List RO := [(.mv (.tmp 4))]
theorem F.vector_Meet_c1.ok : cFunc Go.Proofs.Try.prog F.vector_Meet_c1 = some (8, F.vector_Meet_c1.ic, F.vector_Meet_c1.rs) := by kernel_rfl
theorem F.vector_Meet_c1.cl : callable Go.Proofs.Try.prog F.vector_Meet_c1 = true := by kernel_rfl
noncomputable def F.slices_ContainsFunc_api_Vector_api_Dot.r0 : Plan :=
  .rd 0 none (.mv (.const (.bool false))) (some 4) false <|
  .done
noncomputable def F.slices_ContainsFunc_api_Vector_api_Dot.r1 : Plan :=
  .rd 0 none (.mv (.tmp 0)) (some 5) false <|
  .rd 1 none (.mv (.tmp 1)) (some 6) false <|
  .ef 2 none (.call F.slices_IndexFunc_api_Vector_api_Dot [(.tmp 5), (.tmp 6)]) (some 7) [] (
  .rd 3 none (.bin .geq (.tmp 7) (.const (.int .i64 0))) (some 8) false <|
  .rd 4 none (.mv (.tmp 8)) (some 4) false <|
  .done) .none
noncomputable def F.slices_ContainsFunc_api_Vector_api_Dot.ic : IC :=
    (.seq (.reg F.slices_ContainsFunc_api_Vector_api_Dot.r0)
    (.seq (.reg F.slices_ContainsFunc_api_Vector_api_Dot.r1)
    .ret))
noncomputable def F.slices_ContainsFunc_api_Vector_api_Dot.rs : List RO := [(.mv (.tmp 4))]
theorem F.slices_ContainsFunc_api_Vector_api_Dot.ok : cFunc Go.Proofs.Try.prog F.slices_ContainsFunc_api_Vector_api_Dot = some (9, F.slices_ContainsFunc_api_Vector_api_Dot.ic, F.slices_ContainsFunc_api_Vector_api_Dot.rs) := by kernel_rfl
theorem F.slices_ContainsFunc_api_Vector_api_Dot.cl : callable Go.Proofs.Try.prog F.slices_ContainsFunc_api_Vector_api_Dot = true := by kernel_rfl
noncomputable def F.vector_Below_c1.r0 : Plan :=
  .ef 0 none (.box (.tmp 0)) (some 2) [] (
  .rd 1 none (.mv (.const (.bool false))) (some 3) false <|
  .done) .none
noncomputable def F.vector_Below_c1.r1 : Plan :=
  .rd 0 none (.ld1 (.tmp 1)) (some 4) false <|
  .rd 1 none (.fldA 0 (.tmp 2)) (some 5) false <|
  .rd 2 none (.ld1 (.tmp 5)) (some 6) false <|
  .rd 4 none (.fldA 1 (.tmp 2)) (some 8) false <|
  .rd 5 none (.ld1 (.tmp 8)) (some 9) true <|
  .ef 3 none (.call F.vector_Get [(.tmp 4), (.tmp 6)]) (some 7) [4, 5] (
  .rd 6 none (.bin .lss (.tmp 7) (.tmp 9)) (some 10) false <|
  .rd 7 none (.mv (.tmp 10)) (some 3) false <|
  .done) .none
noncomputable def F.vector_Below_c1.ic : IC :=
    (.seq (.reg F.vector_Below_c1.r0)
    (.seq (.reg F.vector_Below_c1.r1)
    .ret))
noncomputable def F.vector_Below_c1.rs : List RO := [(.mv (.tmp 3))]
theorem F.vector_Below_c1.ok : cFunc Go.Proofs.Try.prog F.vector_Below_c1 = some (11, F.vector_Below_c1.ic, F.vector_Below_c1.rs) := by kernel_rfl
theorem F.vector_Below_c1.cl : callable Go.Proofs.Try.prog F.vector_Below_c1 = true := by kernel_rfl
noncomputable def F.slices_Equal_api_Vector_api_Dot.r0 : Plan :=
  .rd 0 none (.mv (.const (.bool false))) (some 4) false <|
  .done
noncomputable def F.slices_Equal_api_Vector_api_Dot.r1 : Plan :=
  .rd 0 none (.mv (.tmp 0)) (some 6) false <|
  .rd 1 none (.len .sl (.tmp 6)) (some 7) false <|
  .rd 2 none (.mv (.tmp 1)) (some 8) false <|
  .rd 3 none (.len .sl (.tmp 8)) (some 9) false <|
  .rd 4 none (.bin .neq (.tmp 7) (.tmp 9)) (some 10) false <|
  .done
noncomputable def F.slices_Equal_api_Vector_api_Dot.r2 : Plan :=
  .rd 0 none (.mv (.const (.bool false))) (some 4) false <|
  .done
noncomputable def F.slices_Equal_api_Vector_api_Dot.r3 : Plan :=
  .rd 0 none (.mv (.tmp 0)) (some 11) false <|
  .rd 1 none (.len .sl (.tmp 11)) (some 12) false <|
  .rd 2 none (.mv (.const (.int .i64 0))) (some 13) false <|
  .done
noncomputable def F.slices_Equal_api_Vector_api_Dot.r4 : Plan :=
  .rd 0 none (.bin .lss (.tmp 13) (.tmp 12)) (some 14) false <|
  .done
noncomputable def F.slices_Equal_api_Vector_api_Dot.r5 : Plan :=
  .rd 0 none (.mv (.tmp 13)) (some 15) false <|
  .rd 1 none (.mv (.tmp 15)) (some 5) false <|
  .done
noncomputable def F.slices_Equal_api_Vector_api_Dot.r6 : Plan :=
  .rd 0 none (.mv (.tmp 0)) (some 16) false <|
  .rd 1 none (.mv (.tmp 5)) (some 17) false <|
  .rd 2 none (.idxA 2 (.tmp 16) (.tmp 17)) (some 18) false <|
  .rd 3 none (.ldn 2 (.tmp 18)) (some 19) false <|
  .rd 4 none (.mv (.tmp 1)) (some 20) false <|
  .rd 5 none (.mv (.tmp 5)) (some 21) false <|
  .rd 6 none (.idxA 2 (.tmp 20) (.tmp 21)) (some 22) false <|
  .rd 7 none (.ldn 2 (.tmp 22)) (some 23) false <|
  .rd 8 none (.eqS [(.i .i64), (.i .i64)] true true (.tmp 19) (.tmp 23)) (some 24) false <|
  .done
noncomputable def F.slices_Equal_api_Vector_api_Dot.r7 : Plan :=
  .rd 0 none (.mv (.const (.bool false))) (some 4) false <|
  .done
noncomputable def F.slices_Equal_api_Vector_api_Dot.r8 : Plan :=
  .rd 0 none (.bin .add (.tmp 13) (.const (.int .i64 1))) (some 25) false <|
  .rd 1 none (.mv (.tmp 25)) (some 13) false <|
  .done
noncomputable def F.slices_Equal_api_Vector_api_Dot.l0 : IC :=
    (.seq (.reg F.slices_Equal_api_Vector_api_Dot.r4)
    (.seq (.cond (.tmp 14) .skip (.exit 0))
    (.seq (.block 1 (.seq (.reg F.slices_Equal_api_Vector_api_Dot.r5)
    (.seq (.reg F.slices_Equal_api_Vector_api_Dot.r6)
    (.cond (.tmp 24) (.seq (.reg F.slices_Equal_api_Vector_api_Dot.r7)
    .ret) .skip))))
    (.reg F.slices_Equal_api_Vector_api_Dot.r8))))
noncomputable def F.slices_Equal_api_Vector_api_Dot.r9 : Plan :=
  .rd 0 none (.mv (.const (.bool true))) (some 4) false <|
  .done
noncomputable def F.slices_Equal_api_Vector_api_Dot.ic : IC :=
    (.seq (.reg F.slices_Equal_api_Vector_api_Dot.r0)
    (.seq (.seq (.reg F.slices_Equal_api_Vector_api_Dot.r1)
    (.cond (.tmp 10) (.seq (.reg F.slices_Equal_api_Vector_api_Dot.r2)
    .ret) .skip))
    (.seq (.seq (.reg F.slices_Equal_api_Vector_api_Dot.r3)
    (.block 0 (.loop F.slices_Equal_api_Vector_api_Dot.l0)))
    (.seq (.reg F.slices_Equal_api_Vector_api_Dot.r9)
    .ret))))
noncomputable def F.slices_Equal_api_Vector_api_Dot.rs : List RO := [(.mv (.tmp 4))]
theorem F.slices_Equal_api_Vector_api_Dot.ok : cFunc Go.Proofs.Try.prog F.slices_Equal_api_Vector_api_Dot = some (26, F.slices_Equal_api_Vector_api_Dot.ic, F.slices_Equal_api_Vector_api_Dot.rs) := by kernel_rfl
theorem F.slices_Equal_api_Vector_api_Dot.cl : callable Go.Proofs.Try.prog F.slices_Equal_api_Vector_api_Dot = true := by kernel_rfl
noncomputable def F.slices_Clone_api_Vector_api_Dot.r0 : Plan :=
  .rd 0 none (.mv (.const (.slice none 0 0))) (some 2) false <|
  .done
noncomputable def F.slices_Clone_api_Vector_api_Dot.r1 : Plan :=
  .rd 0 none (.mv (.tmp 0)) (some 3) false <|
  .rd 1 none (.eqNil .sl false (.tmp 3) (.const (.slice none 0 0))) (some 4) false <|
  .done
noncomputable def F.slices_Clone_api_Vector_api_Dot.r2 : Plan :=
  .rd 0 none (.mv (.const (.slice none 0 0))) (some 2) false <|
  .done
noncomputable def F.slices_Clone_api_Vector_api_Dot.r3 : Plan :=
  .ef 0 none (.bsl 0 [] []) (some 5) [] (
  .rd 1 none (.mv (.tmp 0)) (some 6) false <|
  .ef 2 none (.app 2 16 (.tmp 5) (.tmp 6)) (some 7) [] (
  .rd 3 none (.mv (.tmp 7)) (some 2) false <|
  .done) .none) .none
noncomputable def F.slices_Clone_api_Vector_api_Dot.ic : IC :=
    (.seq (.reg F.slices_Clone_api_Vector_api_Dot.r0)
    (.seq (.seq (.reg F.slices_Clone_api_Vector_api_Dot.r1)
    (.cond (.tmp 4) (.seq (.reg F.slices_Clone_api_Vector_api_Dot.r2)
    .ret) .skip))
    (.seq (.reg F.slices_Clone_api_Vector_api_Dot.r3)
    .ret)))
noncomputable def F.slices_Clone_api_Vector_api_Dot.rs : List RO := [(.mv (.tmp 2))]
theorem F.slices_Clone_api_Vector_api_Dot.ok : cFunc Go.Proofs.Try.prog F.slices_Clone_api_Vector_api_Dot = some (8, F.slices_Clone_api_Vector_api_Dot.ic, F.slices_Clone_api_Vector_api_Dot.rs) := by kernel_rfl
theorem F.slices_Clone_api_Vector_api_Dot.cl : callable Go.Proofs.Try.prog F.slices_Clone_api_Vector_api_Dot = true := by kernel_rfl
noncomputable def F.osierref04_acts.r0 : Plan :=
  .rd 0 none (.mv (.const (.slice none 0 0))) (some 4) false <|
  .done
noncomputable def F.osierref04_acts.r1 : Plan :=
  .rd 0 none (.mv (.const (.slice none 0 0))) (some 5) false <|
  .done
noncomputable def F.osierref04_acts.r2 : Plan :=
  .rd 0 none (.mv (.const (.int .i64 0))) (some 6) false <|
  .done
noncomputable def F.osierref04_acts.r3 : Plan :=
  .rd 0 none (.mv (.const (.int .i64 0))) (some 7) false <|
  .done
noncomputable def F.osierref04_acts.r4 : Plan :=
  .rd 0 none (.mv (.tmp 6)) (some 8) false <|
  .rd 1 none (.mv (.tmp 0)) (some 9) false <|
  .rd 2 none (.len .sl (.tmp 9)) (some 10) false <|
  .rd 3 none (.bin .lss (.tmp 8) (.tmp 10)) (some 11) false <|
  .rd 4 none (.mv (.tmp 11)) (some 12) false <|
  .rd 5 (some (12, false)) (.mv (.tmp 7)) (some 13) false <|
  .rd 6 (some (12, false)) (.mv (.tmp 1)) (some 14) false <|
  .rd 7 (some (12, false)) (.len .sl (.tmp 14)) (some 15) false <|
  .rd 8 (some (12, false)) (.bin .lss (.tmp 13) (.tmp 15)) (some 16) false <|
  .rd 9 none (.pick (.tmp 12) (.const (.bool true)) (.tmp 16)) (some 17) false <|
  .done
noncomputable def F.osierref04_acts.r5 : Plan :=
  .rd 0 none (.mv (.tmp 7)) (some 18) false <|
  .rd 1 none (.mv (.tmp 1)) (some 19) false <|
  .rd 2 none (.len .sl (.tmp 19)) (some 20) false <|
  .rd 3 none (.bin .eql (.tmp 18) (.tmp 20)) (some 21) false <|
  .rd 4 none (.mv (.tmp 21)) (some 22) false <|
  .rd 5 (some (22, false)) (.mv (.tmp 6)) (some 23) false <|
  .rd 6 (some (22, false)) (.mv (.tmp 0)) (some 24) false <|
  .rd 7 (some (22, false)) (.len .sl (.tmp 24)) (some 25) false <|
  .rd 8 (some (22, false)) (.bin .lss (.tmp 23) (.tmp 25)) (some 26) false <|
  .rd 9 (some (22, false)) (.mv (.tmp 26)) (some 27) false <|
  .rd 10 (some (27, true)) (.mv (.tmp 0)) (some 28) false <|
  .rd 11 (some (27, true)) (.mv (.tmp 6)) (some 29) false <|
  .rd 12 (some (27, true)) (.idxA 2 (.tmp 28) (.tmp 29)) (some 30) false <|
  .rd 13 (some (27, true)) (.fldA 0 (.tmp 30)) (some 31) false <|
  .rd 14 (some (27, true)) (.ld1 (.tmp 31)) (some 32) false <|
  .rd 15 (some (27, true)) (.mv (.tmp 1)) (some 33) false <|
  .rd 16 (some (27, true)) (.mv (.tmp 7)) (some 34) false <|
  .rd 17 (some (27, true)) (.idxA 2 (.tmp 33) (.tmp 34)) (some 35) false <|
  .rd 18 (some (27, true)) (.fldA 0 (.tmp 35)) (some 36) false <|
  .rd 19 (some (27, true)) (.ld1 (.tmp 36)) (some 37) false <|
  .rd 20 (some (27, true)) (.bin .lss (.tmp 32) (.tmp 37)) (some 38) false <|
  .rd 21 (some (22, false)) (.pick (.tmp 27) (.tmp 38) (.const (.bool false))) (some 39) false <|
  .rd 22 none (.pick (.tmp 22) (.const (.bool true)) (.tmp 39)) (some 40) false <|
  .done
noncomputable def F.osierref04_acts.r6 : Plan :=
  .rd 0 none (.mv (.tmp 5)) (some 41) false <|
  .rd 1 none (.mv (.tmp 0)) (some 42) false <|
  .rd 2 none (.mv (.tmp 6)) (some 43) false <|
  .rd 3 none (.idxA 2 (.tmp 42) (.tmp 43)) (some 44) false <|
  .rd 4 none (.fldA 0 (.tmp 44)) (some 45) false <|
  .rd 5 none (.ld1 (.tmp 45)) (some 46) false <|
  .ef 6 none (.bsl 1 [(.int .i64 0)] [(0, (1, (.tmp 46)))]) (some 47) [] (
  .ef 7 none (.app 1 8 (.tmp 41) (.tmp 47)) (some 48) [] (
  .rd 8 none (.mv (.tmp 48)) (some 5) false <|
  .done) .none) .none
noncomputable def F.osierref04_acts.r7 : Plan :=
  .rd 0 none (.mv (.tmp 6)) (some 49) false <|
  .rd 1 none (.bin .add (.tmp 49) (.const (.int .i64 1))) (some 50) false <|
  .rd 2 none (.mv (.tmp 50)) (some 6) false <|
  .done
noncomputable def F.osierref04_acts.r8 : Plan :=
  .rd 0 none (.mv (.tmp 6)) (some 51) false <|
  .rd 1 none (.mv (.tmp 0)) (some 52) false <|
  .rd 2 none (.len .sl (.tmp 52)) (some 53) false <|
  .rd 3 none (.bin .eql (.tmp 51) (.tmp 53)) (some 54) false <|
  .rd 4 none (.mv (.tmp 54)) (some 55) false <|
  .rd 5 (some (55, false)) (.mv (.tmp 1)) (some 56) false <|
  .rd 6 (some (55, false)) (.mv (.tmp 7)) (some 57) false <|
  .rd 7 (some (55, false)) (.idxA 2 (.tmp 56) (.tmp 57)) (some 58) false <|
  .rd 8 (some (55, false)) (.fldA 0 (.tmp 58)) (some 59) false <|
  .rd 9 (some (55, false)) (.ld1 (.tmp 59)) (some 60) false <|
  .rd 10 (some (55, false)) (.mv (.tmp 0)) (some 61) false <|
  .rd 11 (some (55, false)) (.mv (.tmp 6)) (some 62) false <|
  .rd 12 (some (55, false)) (.idxA 2 (.tmp 61) (.tmp 62)) (some 63) false <|
  .rd 13 (some (55, false)) (.fldA 0 (.tmp 63)) (some 64) false <|
  .rd 14 (some (55, false)) (.ld1 (.tmp 64)) (some 65) false <|
  .rd 15 (some (55, false)) (.bin .lss (.tmp 60) (.tmp 65)) (some 66) false <|
  .rd 16 none (.pick (.tmp 55) (.const (.bool true)) (.tmp 66)) (some 67) false <|
  .done
noncomputable def F.osierref04_acts.r9 : Plan :=
  .rd 0 none (.mv (.tmp 5)) (some 68) false <|
  .rd 1 none (.mv (.tmp 1)) (some 69) false <|
  .rd 2 none (.mv (.tmp 7)) (some 70) false <|
  .rd 3 none (.idxA 2 (.tmp 69) (.tmp 70)) (some 71) false <|
  .rd 4 none (.fldA 0 (.tmp 71)) (some 72) false <|
  .rd 5 none (.ld1 (.tmp 72)) (some 73) false <|
  .ef 6 none (.bsl 1 [(.int .i64 0)] [(0, (1, (.tmp 73)))]) (some 74) [] (
  .ef 7 none (.app 1 8 (.tmp 68) (.tmp 74)) (some 75) [] (
  .rd 8 none (.mv (.tmp 75)) (some 5) false <|
  .done) .none) .none
noncomputable def F.osierref04_acts.r10 : Plan :=
  .rd 0 none (.mv (.tmp 7)) (some 76) false <|
  .rd 1 none (.bin .add (.tmp 76) (.const (.int .i64 1))) (some 77) false <|
  .rd 2 none (.mv (.tmp 77)) (some 7) false <|
  .done
noncomputable def F.osierref04_acts.r11 : Plan :=
  .rd 0 none (.mv (.tmp 5)) (some 78) false <|
  .rd 1 none (.mv (.tmp 0)) (some 79) false <|
  .rd 2 none (.mv (.tmp 6)) (some 80) false <|
  .rd 3 none (.idxA 2 (.tmp 79) (.tmp 80)) (some 81) false <|
  .rd 4 none (.fldA 0 (.tmp 81)) (some 82) false <|
  .rd 5 none (.ld1 (.tmp 82)) (some 83) false <|
  .ef 6 none (.bsl 1 [(.int .i64 0)] [(0, (1, (.tmp 83)))]) (some 84) [] (
  .ef 7 none (.app 1 8 (.tmp 78) (.tmp 84)) (some 85) [] (
  .rd 8 none (.mv (.tmp 85)) (some 5) false <|
  .done) .none) .none
noncomputable def F.osierref04_acts.r12 : Plan :=
  .rd 0 none (.mv (.tmp 6)) (some 86) false <|
  .rd 1 none (.bin .add (.tmp 86) (.const (.int .i64 1))) (some 87) false <|
  .rd 2 none (.mv (.tmp 87)) (some 6) false <|
  .done
noncomputable def F.osierref04_acts.r13 : Plan :=
  .rd 0 none (.mv (.tmp 7)) (some 88) false <|
  .rd 1 none (.bin .add (.tmp 88) (.const (.int .i64 1))) (some 89) false <|
  .rd 2 none (.mv (.tmp 89)) (some 7) false <|
  .done
noncomputable def F.osierref04_acts.l0 : IC :=
    (.seq (.seq (.reg F.osierref04_acts.r4)
    (.cond (.tmp 17) .skip (.exit 0)))
    (.block 1 (.seq (.reg F.osierref04_acts.r5)
    (.cond (.tmp 40) (.seq (.reg F.osierref04_acts.r6)
    (.reg F.osierref04_acts.r7)) (.seq (.reg F.osierref04_acts.r8)
    (.cond (.tmp 67) (.seq (.reg F.osierref04_acts.r9)
    (.reg F.osierref04_acts.r10)) (.seq (.reg F.osierref04_acts.r11)
    (.seq (.reg F.osierref04_acts.r12)
    (.reg F.osierref04_acts.r13)))))))))
noncomputable def F.osierref04_acts.r14 : Plan :=
  .rd 0 none (.mv (.tmp 5)) (some 90) false <|
  .rd 1 none (.mv (.tmp 90)) (some 4) false <|
  .done
noncomputable def F.osierref04_acts.ic : IC :=
    (.seq (.reg F.osierref04_acts.r0)
    (.seq (.reg F.osierref04_acts.r1)
    (.seq (.reg F.osierref04_acts.r2)
    (.seq (.reg F.osierref04_acts.r3)
    (.seq (.block 0 (.loop F.osierref04_acts.l0))
    (.seq (.reg F.osierref04_acts.r14)
    .ret))))))
noncomputable def F.osierref04_acts.rs : List RO := [(.mv (.tmp 4))]
theorem F.osierref04_acts.ok : cFunc Go.Proofs.Try.prog F.osierref04_acts = some (91, F.osierref04_acts.ic, F.osierref04_acts.rs) := by kernel_rfl
theorem F.osierref04_acts.cl : callable Go.Proofs.Try.prog F.osierref04_acts = true := by kernel_rfl
noncomputable def F.slices_Concat_api_Vector_api_Dot.r0 : Plan :=
  .rd 0 none (.mv (.const (.slice none 0 0))) (some 2) false <|
  .done
noncomputable def F.slices_Concat_api_Vector_api_Dot.r1 : Plan :=
  .rd 0 none (.mv (.const (.int .i64 0))) (some 3) false <|
  .done
noncomputable def F.slices_Concat_api_Vector_api_Dot.r2 : Plan :=
  .rd 0 none (.mv (.tmp 0)) (some 9) false <|
  .rd 1 none (.len .sl (.tmp 9)) (some 10) false <|
  .rd 2 none (.mv (.const (.int .i64 0))) (some 11) false <|
  .done
noncomputable def F.slices_Concat_api_Vector_api_Dot.r3 : Plan :=
  .rd 0 none (.bin .lss (.tmp 11) (.tmp 10)) (some 12) false <|
  .done
noncomputable def F.slices_Concat_api_Vector_api_Dot.r4 : Plan :=
  .rd 0 none (.idxA 1 (.tmp 9) (.tmp 11)) (some 13) false <|
  .rd 1 none (.ld1 (.tmp 13)) (some 14) false <|
  .rd 2 none (.mv (.tmp 14)) (some 5) false <|
  .done
noncomputable def F.slices_Concat_api_Vector_api_Dot.r5 : Plan :=
  .rd 0 none (.mv (.tmp 3)) (some 15) false <|
  .rd 1 none (.mv (.tmp 5)) (some 16) false <|
  .rd 2 none (.len .sl (.tmp 16)) (some 17) false <|
  .rd 3 none (.bin .add (.tmp 15) (.tmp 17)) (some 18) false <|
  .rd 4 none (.mv (.tmp 18)) (some 3) false <|
  .done
noncomputable def F.slices_Concat_api_Vector_api_Dot.r6 : Plan :=
  .rd 0 none (.mv (.tmp 3)) (some 19) false <|
  .rd 1 none (.bin .lss (.tmp 19) (.const (.int .i64 0))) (some 20) false <|
  .done
noncomputable def F.slices_Concat_api_Vector_api_Dot.r7 : Plan :=
  .rd 0 none (.mkI 9 (.const (.string ⟨#[108, 101, 110, 32, 111, 117, 116, 32, 111, 102, 32, 114, 97, 110, 103, 101]⟩))) (some 21) false <|
  .ef 1 none .pan none [] (
  .done) .none
noncomputable def F.slices_Concat_api_Vector_api_Dot.r8 : Plan :=
  .rd 0 none (.bin .add (.tmp 11) (.const (.int .i64 1))) (some 22) false <|
  .rd 1 none (.mv (.tmp 22)) (some 11) false <|
  .done
noncomputable def F.slices_Concat_api_Vector_api_Dot.l0 : IC :=
    (.seq (.reg F.slices_Concat_api_Vector_api_Dot.r3)
    (.seq (.cond (.tmp 12) .skip (.exit 0))
    (.seq (.block 1 (.seq (.reg F.slices_Concat_api_Vector_api_Dot.r4)
    (.seq (.reg F.slices_Concat_api_Vector_api_Dot.r5)
    (.seq (.reg F.slices_Concat_api_Vector_api_Dot.r6)
    (.cond (.tmp 20) (.reg F.slices_Concat_api_Vector_api_Dot.r7) .skip)))))
    (.reg F.slices_Concat_api_Vector_api_Dot.r8))))
noncomputable def F.slices_Concat_api_Vector_api_Dot.r9 : Plan :=
  .rd 0 none (.mv (.tmp 3)) (some 23) false <|
  .ef 1 none (.call F.slices_Grow_api_Vector_api_Dot [(.const (.slice none 0 0)), (.tmp 23)]) (some 24) [] (
  .rd 2 none (.mv (.tmp 24)) (some 6) false <|
  .done) .none
noncomputable def F.slices_Concat_api_Vector_api_Dot.r10 : Plan :=
  .rd 0 none (.mv (.tmp 0)) (some 25) false <|
  .rd 1 none (.len .sl (.tmp 25)) (some 26) false <|
  .rd 2 none (.mv (.const (.int .i64 0))) (some 27) false <|
  .done
noncomputable def F.slices_Concat_api_Vector_api_Dot.r11 : Plan :=
  .rd 0 none (.bin .lss (.tmp 27) (.tmp 26)) (some 28) false <|
  .done
noncomputable def F.slices_Concat_api_Vector_api_Dot.r12 : Plan :=
  .rd 0 none (.idxA 1 (.tmp 25) (.tmp 27)) (some 29) false <|
  .rd 1 none (.ld1 (.tmp 29)) (some 30) false <|
  .rd 2 none (.mv (.tmp 30)) (some 8) false <|
  .done
noncomputable def F.slices_Concat_api_Vector_api_Dot.r13 : Plan :=
  .rd 0 none (.mv (.tmp 6)) (some 31) false <|
  .rd 1 none (.mv (.tmp 8)) (some 32) false <|
  .ef 2 none (.app 2 16 (.tmp 31) (.tmp 32)) (some 33) [] (
  .rd 3 none (.mv (.tmp 33)) (some 6) false <|
  .done) .none
noncomputable def F.slices_Concat_api_Vector_api_Dot.r14 : Plan :=
  .rd 0 none (.bin .add (.tmp 27) (.const (.int .i64 1))) (some 34) false <|
  .rd 1 none (.mv (.tmp 34)) (some 27) false <|
  .done
noncomputable def F.slices_Concat_api_Vector_api_Dot.l1 : IC :=
    (.seq (.reg F.slices_Concat_api_Vector_api_Dot.r11)
    (.seq (.cond (.tmp 28) .skip (.exit 2))
    (.seq (.block 3 (.seq (.reg F.slices_Concat_api_Vector_api_Dot.r12)
    (.reg F.slices_Concat_api_Vector_api_Dot.r13)))
    (.reg F.slices_Concat_api_Vector_api_Dot.r14))))
noncomputable def F.slices_Concat_api_Vector_api_Dot.r15 : Plan :=
  .rd 0 none (.mv (.tmp 6)) (some 35) false <|
  .rd 1 none (.mv (.tmp 35)) (some 2) false <|
  .done
noncomputable def F.slices_Concat_api_Vector_api_Dot.ic : IC :=
    (.seq (.reg F.slices_Concat_api_Vector_api_Dot.r0)
    (.seq (.reg F.slices_Concat_api_Vector_api_Dot.r1)
    (.seq (.seq (.reg F.slices_Concat_api_Vector_api_Dot.r2)
    (.block 0 (.loop F.slices_Concat_api_Vector_api_Dot.l0)))
    (.seq (.reg F.slices_Concat_api_Vector_api_Dot.r9)
    (.seq (.seq (.reg F.slices_Concat_api_Vector_api_Dot.r10)
    (.block 2 (.loop F.slices_Concat_api_Vector_api_Dot.l1)))
    (.seq (.reg F.slices_Concat_api_Vector_api_Dot.r15)
    .ret))))))
noncomputable def F.slices_Concat_api_Vector_api_Dot.rs : List RO := [(.mv (.tmp 2))]
theorem F.slices_Concat_api_Vector_api_Dot.ok : cFunc Go.Proofs.Try.prog F.slices_Concat_api_Vector_api_Dot = some (36, F.slices_Concat_api_Vector_api_Dot.ic, F.slices_Concat_api_Vector_api_Dot.rs) := by kernel_rfl
theorem F.slices_Concat_api_Vector_api_Dot.cl : callable Go.Proofs.Try.prog F.slices_Concat_api_Vector_api_Dot = true := by kernel_rfl
noncomputable def F.slices_Grow_api_Vector_api_Dot.r0 : Plan :=
  .rd 0 none (.mv (.const (.slice none 0 0))) (some 4) false <|
  .done
noncomputable def F.slices_Grow_api_Vector_api_Dot.r1 : Plan :=
  .rd 0 none (.mv (.tmp 1)) (some 5) false <|
  .rd 1 none (.bin .lss (.tmp 5) (.const (.int .i64 0))) (some 6) false <|
  .done
noncomputable def F.slices_Grow_api_Vector_api_Dot.r2 : Plan :=
  .rd 0 none (.mkI 9 (.const (.string ⟨#[99, 97, 110, 110, 111, 116, 32, 98, 101, 32, 110, 101, 103, 97, 116, 105, 118, 101]⟩))) (some 7) false <|
  .ef 1 none .pan none [] (
  .done) .none
noncomputable def F.slices_Grow_api_Vector_api_Dot.r3 : Plan :=
  .rd 0 none (.mv (.tmp 1)) (some 8) false <|
  .rd 1 none (.mv (.tmp 0)) (some 9) false <|
  .rd 2 none (.capS (.tmp 9)) (some 10) false <|
  .rd 3 none (.mv (.tmp 0)) (some 11) false <|
  .rd 4 none (.len .sl (.tmp 11)) (some 12) false <|
  .rd 5 none (.bin .sub (.tmp 10) (.tmp 12)) (some 13) false <|
  .rd 6 none (.bin .sub (.tmp 8) (.tmp 13)) (some 14) false <|
  .rd 7 none (.mv (.tmp 14)) (some 1) false <|
  .done
noncomputable def F.slices_Grow_api_Vector_api_Dot.r4 : Plan :=
  .rd 0 none (.mv (.tmp 1)) (some 15) false <|
  .rd 1 none (.bin .gtr (.tmp 15) (.const (.int .i64 0))) (some 16) false <|
  .done
noncomputable def F.slices_Grow_api_Vector_api_Dot.r5 : Plan :=
  .rd 0 none (.mv (.tmp 0)) (some 17) false <|
  .rd 1 none (.mv (.tmp 0)) (some 18) false <|
  .rd 2 none (.capS (.tmp 18)) (some 19) false <|
  .rd 3 none (.sl 2 (.tmp 17) none (some (.tmp 19)) none) (some 20) false <|
  .rd 4 none (.mv (.tmp 1)) (some 21) false <|
  .ef 5 none (.appZ 2 16 [(.int .i64 0), (.int .i64 0)] (.tmp 20) (.tmp 21)) (some 22) [] (
  .rd 6 none (.mv (.tmp 0)) (some 23) false <|
  .rd 7 none (.len .sl (.tmp 23)) (some 24) false <|
  .rd 8 none (.sl 2 (.tmp 22) none (some (.tmp 24)) none) (some 25) false <|
  .rd 9 none (.mv (.tmp 25)) (some 0) false <|
  .done) .none
noncomputable def F.slices_Grow_api_Vector_api_Dot.r6 : Plan :=
  .rd 0 none (.mv (.tmp 0)) (some 26) false <|
  .rd 1 none (.mv (.tmp 26)) (some 4) false <|
  .done
noncomputable def F.slices_Grow_api_Vector_api_Dot.ic : IC :=
    (.seq (.reg F.slices_Grow_api_Vector_api_Dot.r0)
    (.seq (.seq (.reg F.slices_Grow_api_Vector_api_Dot.r1)
    (.cond (.tmp 6) (.reg F.slices_Grow_api_Vector_api_Dot.r2) .skip))
    (.seq (.seq (.reg F.slices_Grow_api_Vector_api_Dot.r3)
    (.seq (.reg F.slices_Grow_api_Vector_api_Dot.r4)
    (.cond (.tmp 16) (.reg F.slices_Grow_api_Vector_api_Dot.r5) .skip)))
    (.seq (.reg F.slices_Grow_api_Vector_api_Dot.r6)
    .ret))))
noncomputable def F.slices_Grow_api_Vector_api_Dot.rs : List RO := [(.mv (.tmp 4))]
theorem F.slices_Grow_api_Vector_api_Dot.ok : cFunc Go.Proofs.Try.prog F.slices_Grow_api_Vector_api_Dot = some (27, F.slices_Grow_api_Vector_api_Dot.ic, F.slices_Grow_api_Vector_api_Dot.rs) := by kernel_rfl
theorem F.slices_Grow_api_Vector_api_Dot.cl : callable Go.Proofs.Try.prog F.slices_Grow_api_Vector_api_Dot = true := by kernel_rfl
attribute [go_sem] F.osierlaw04_VectorJoins.r0 F.osierlaw04_VectorJoins.r1 F.osierlaw04_VectorJoins.r2 F.osierlaw04_VectorJoins.r3 F.osierlaw04_VectorJoins.r4 F.osierlaw04_VectorJoins.r5 F.osierlaw04_VectorJoins.r6 F.osierlaw04_VectorJoins.r7 F.osierlaw04_VectorJoins.r8 F.osierlaw04_VectorJoins.r9 F.osierlaw04_VectorJoins.r10 F.osierlaw04_VectorJoins.r11 F.osierlaw04_VectorJoins.ic F.osierlaw04_VectorJoins.rs
attribute [go_sem] F.osierlaw04_VectorLaws.r0 F.osierlaw04_VectorLaws.r1 F.osierlaw04_VectorLaws.r2 F.osierlaw04_VectorLaws.r3 F.osierlaw04_VectorLaws.r4 F.osierlaw04_VectorLaws.r5 F.osierlaw04_VectorLaws.r6 F.osierlaw04_VectorLaws.r7 F.osierlaw04_VectorLaws.r8 F.osierlaw04_VectorLaws.r9 F.osierlaw04_VectorLaws.r10 F.osierlaw04_VectorLaws.r11 F.osierlaw04_VectorLaws.r12 F.osierlaw04_VectorLaws.r13 F.osierlaw04_VectorLaws.r14 F.osierlaw04_VectorLaws.r15 F.osierlaw04_VectorLaws.r16 F.osierlaw04_VectorLaws.r17 F.osierlaw04_VectorLaws.r18 F.osierlaw04_VectorLaws.ic F.osierlaw04_VectorLaws.rs
attribute [go_sem] F.osierlaw04_VectorMay.r0 F.osierlaw04_VectorMay.r1 F.osierlaw04_VectorMay.r2 F.osierlaw04_VectorMay.r3 F.osierlaw04_VectorMay.r4 F.osierlaw04_VectorMay.r5 F.osierlaw04_VectorMay.r6 F.osierlaw04_VectorMay.r7 F.osierlaw04_VectorMay.r8 F.osierlaw04_VectorMay.r9 F.osierlaw04_VectorMay.ic F.osierlaw04_VectorMay.rs
attribute [go_sem] F.osierlaw04_VectorMissing.r0 F.osierlaw04_VectorMissing.r1 F.osierlaw04_VectorMissing.r2 F.osierlaw04_VectorMissing.r3 F.osierlaw04_VectorMissing.r4 F.osierlaw04_VectorMissing.r5 F.osierlaw04_VectorMissing.r6 F.osierlaw04_VectorMissing.r7 F.osierlaw04_VectorMissing.r8 F.osierlaw04_VectorMissing.r9 F.osierlaw04_VectorMissing.r10 F.osierlaw04_VectorMissing.r11 F.osierlaw04_VectorMissing.r12 F.osierlaw04_VectorMissing.r13 F.osierlaw04_VectorMissing.r14 F.osierlaw04_VectorMissing.r15 F.osierlaw04_VectorMissing.r16 F.osierlaw04_VectorMissing.r17 F.osierlaw04_VectorMissing.ic F.osierlaw04_VectorMissing.rs
attribute [go_sem] F.osierlaw04_VectorWith.r0 F.osierlaw04_VectorWith.r1 F.osierlaw04_VectorWith.r2 F.osierlaw04_VectorWith.r3 F.osierlaw04_VectorWith.r4 F.osierlaw04_VectorWith.r5 F.osierlaw04_VectorWith.r6 F.osierlaw04_VectorWith.r7 F.osierlaw04_VectorWith.r8 F.osierlaw04_VectorWith.r9 F.osierlaw04_VectorWith.r10 F.osierlaw04_VectorWith.r11 F.osierlaw04_VectorWith.r12 F.osierlaw04_VectorWith.r13 F.osierlaw04_VectorWith.r14 F.osierlaw04_VectorWith.ic F.osierlaw04_VectorWith.rs
attribute [go_sem] F.osierlaw04_awake.r0 F.osierlaw04_awake.r1 F.osierlaw04_awake.r2 F.osierlaw04_awake.r3 F.osierlaw04_awake.r4 F.osierlaw04_awake.r5 F.osierlaw04_awake.ic F.osierlaw04_awake.rs
attribute [go_sem] F.osierref04_Below.r0 F.osierref04_Below.r1 F.osierref04_Below.r2 F.osierref04_Below.r3 F.osierref04_Below.r4 F.osierref04_Below.r5 F.osierref04_Below.r6 F.osierref04_Below.ic F.osierref04_Below.rs
attribute [go_sem] F.osierref04_Count.r0 F.osierref04_Count.r1 F.osierref04_Count.r2 F.osierref04_Count.r3 F.osierref04_Count.r4 F.osierref04_Count.r5 F.osierref04_Count.r6 F.osierref04_Count.ic F.osierref04_Count.rs
attribute [go_sem] F.osierref04_Get.r0 F.osierref04_Get.r1 F.osierref04_Get.r2 F.osierref04_Get.r3 F.osierref04_Get.r4 F.osierref04_Get.r5 F.osierref04_Get.r6 F.osierref04_Get.ic F.osierref04_Get.rs
attribute [go_sem] F.osierref04_Has.r0 F.osierref04_Has.r1 F.osierref04_Has.r2 F.osierref04_Has.ic F.osierref04_Has.rs
attribute [go_sem] F.osierref04_Join.r0 F.osierref04_Join.r1 F.osierref04_Join.r2 F.osierref04_Join.r3 F.osierref04_Join.r4 F.osierref04_Join.r5 F.osierref04_Join.r6 F.osierref04_Join.r7 F.osierref04_Join.r8 F.osierref04_Join.r9 F.osierref04_Join.r10 F.osierref04_Join.r11 F.osierref04_Join.r12 F.osierref04_Join.r13 F.osierref04_Join.ic F.osierref04_Join.rs
attribute [go_sem] F.osierref04_Made.r0 F.osierref04_Made.r1 F.osierref04_Made.r2 F.osierref04_Made.r3 F.osierref04_Made.r4 F.osierref04_Made.r5 F.osierref04_Made.r6 F.osierref04_Made.ic F.osierref04_Made.rs
attribute [go_sem] F.osierref04_May.r0 F.osierref04_May.r1 F.osierref04_May.r2 F.osierref04_May.r3 F.osierref04_May.r4 F.osierref04_May.r5 F.osierref04_May.r6 F.osierref04_May.r7 F.osierref04_May.ic F.osierref04_May.rs
attribute [go_sem] F.osierref04_Missing.r0 F.osierref04_Missing.r1 F.osierref04_Missing.r2 F.osierref04_Missing.r3 F.osierref04_Missing.r4 F.osierref04_Missing.r5 F.osierref04_Missing.r6 F.osierref04_Missing.r7 F.osierref04_Missing.r8 F.osierref04_Missing.r9 F.osierref04_Missing.ic F.osierref04_Missing.rs
attribute [go_sem] F.osierref04_Same.r0 F.osierref04_Same.r1 F.osierref04_Same.r2 F.osierref04_Same.r3 F.osierref04_Same.r4 F.osierref04_Same.r5 F.osierref04_Same.r6 F.osierref04_Same.r7 F.osierref04_Same.r8 F.osierref04_Same.ic F.osierref04_Same.rs
attribute [go_sem] F.osierref04_With.r0 F.osierref04_With.r1 F.osierref04_With.r2 F.osierref04_With.r3 F.osierref04_With.r4 F.osierref04_With.ic F.osierref04_With.rs
attribute [go_sem] F.osierref04_acts.r0 F.osierref04_acts.r1 F.osierref04_acts.r2 F.osierref04_acts.r3 F.osierref04_acts.r4 F.osierref04_acts.r5 F.osierref04_acts.r6 F.osierref04_acts.r7 F.osierref04_acts.r8 F.osierref04_acts.r9 F.osierref04_acts.r10 F.osierref04_acts.r11 F.osierref04_acts.r12 F.osierref04_acts.r13 F.osierref04_acts.r14 F.osierref04_acts.ic F.osierref04_acts.rs
attribute [go_sem] F.slices_Clone_api_Vector_api_Dot.r0 F.slices_Clone_api_Vector_api_Dot.r1 F.slices_Clone_api_Vector_api_Dot.r2 F.slices_Clone_api_Vector_api_Dot.r3 F.slices_Clone_api_Vector_api_Dot.ic F.slices_Clone_api_Vector_api_Dot.rs
attribute [go_sem] F.slices_Concat_api_Vector_api_Dot.r0 F.slices_Concat_api_Vector_api_Dot.r1 F.slices_Concat_api_Vector_api_Dot.r2 F.slices_Concat_api_Vector_api_Dot.r3 F.slices_Concat_api_Vector_api_Dot.r4 F.slices_Concat_api_Vector_api_Dot.r5 F.slices_Concat_api_Vector_api_Dot.r6 F.slices_Concat_api_Vector_api_Dot.r7 F.slices_Concat_api_Vector_api_Dot.r8 F.slices_Concat_api_Vector_api_Dot.r9 F.slices_Concat_api_Vector_api_Dot.r10 F.slices_Concat_api_Vector_api_Dot.r11 F.slices_Concat_api_Vector_api_Dot.r12 F.slices_Concat_api_Vector_api_Dot.r13 F.slices_Concat_api_Vector_api_Dot.r14 F.slices_Concat_api_Vector_api_Dot.r15 F.slices_Concat_api_Vector_api_Dot.ic F.slices_Concat_api_Vector_api_Dot.rs
attribute [go_sem] F.slices_ContainsFunc_api_Vector_api_Dot.r0 F.slices_ContainsFunc_api_Vector_api_Dot.r1 F.slices_ContainsFunc_api_Vector_api_Dot.ic F.slices_ContainsFunc_api_Vector_api_Dot.rs
attribute [go_sem] F.slices_Equal_api_Vector_api_Dot.r0 F.slices_Equal_api_Vector_api_Dot.r1 F.slices_Equal_api_Vector_api_Dot.r2 F.slices_Equal_api_Vector_api_Dot.r3 F.slices_Equal_api_Vector_api_Dot.r4 F.slices_Equal_api_Vector_api_Dot.r5 F.slices_Equal_api_Vector_api_Dot.r6 F.slices_Equal_api_Vector_api_Dot.r7 F.slices_Equal_api_Vector_api_Dot.r8 F.slices_Equal_api_Vector_api_Dot.r9 F.slices_Equal_api_Vector_api_Dot.ic F.slices_Equal_api_Vector_api_Dot.rs
attribute [go_sem] F.slices_Grow_api_Vector_api_Dot.r0 F.slices_Grow_api_Vector_api_Dot.r1 F.slices_Grow_api_Vector_api_Dot.r2 F.slices_Grow_api_Vector_api_Dot.r3 F.slices_Grow_api_Vector_api_Dot.r4 F.slices_Grow_api_Vector_api_Dot.r5 F.slices_Grow_api_Vector_api_Dot.r6 F.slices_Grow_api_Vector_api_Dot.ic F.slices_Grow_api_Vector_api_Dot.rs
attribute [go_sem] F.slices_IndexFunc_api_Vector_api_Dot.r0 F.slices_IndexFunc_api_Vector_api_Dot.r1 F.slices_IndexFunc_api_Vector_api_Dot.r2 F.slices_IndexFunc_api_Vector_api_Dot.r3 F.slices_IndexFunc_api_Vector_api_Dot.r4 F.slices_IndexFunc_api_Vector_api_Dot.r5 F.slices_IndexFunc_api_Vector_api_Dot.r6 F.slices_IndexFunc_api_Vector_api_Dot.r7 F.slices_IndexFunc_api_Vector_api_Dot.ic F.slices_IndexFunc_api_Vector_api_Dot.rs
attribute [go_sem] F.vector_Below.r0 F.vector_Below.r1 F.vector_Below.ic F.vector_Below.rs
attribute [go_sem] F.vector_Below_c1.r0 F.vector_Below_c1.r1 F.vector_Below_c1.ic F.vector_Below_c1.rs
attribute [go_sem] F.vector_Count.r0 F.vector_Count.r1 F.vector_Count.r2 F.vector_Count.r3 F.vector_Count.r4 F.vector_Count.r5 F.vector_Count.r6 F.vector_Count.r7 F.vector_Count.ic F.vector_Count.rs
attribute [go_sem] F.vector_Get.r0 F.vector_Get.r1 F.vector_Get.r2 F.vector_Get.r3 F.vector_Get.r4 F.vector_Get.ic F.vector_Get.rs
attribute [go_sem] F.vector_Get_c1.r0 F.vector_Get_c1.r1 F.vector_Get_c1.ic F.vector_Get_c1.rs
attribute [go_sem] F.vector_Has.r0 F.vector_Has.r1 F.vector_Has.ic F.vector_Has.rs
attribute [go_sem] F.vector_Join.r0 F.vector_Join.r1 F.vector_Join.ic F.vector_Join.rs
attribute [go_sem] F.vector_Join_c1.r0 F.vector_Join_c1.r1 F.vector_Join_c1.ic F.vector_Join_c1.rs
attribute [go_sem] F.vector_May.r0 F.vector_May.r1 F.vector_May.r2 F.vector_May.r3 F.vector_May.r4 F.vector_May.r5 F.vector_May.r6 F.vector_May.r7 F.vector_May.r8 F.vector_May.r9 F.vector_May.ic F.vector_May.rs
attribute [go_sem] F.vector_Meet.r0 F.vector_Meet.r1 F.vector_Meet.ic F.vector_Meet.rs
attribute [go_sem] F.vector_Meet_c1.r0 F.vector_Meet_c1.r1 F.vector_Meet_c1.ic F.vector_Meet_c1.rs
attribute [go_sem] F.vector_Missing.r0 F.vector_Missing.r1 F.vector_Missing.r2 F.vector_Missing.r3 F.vector_Missing.r4 F.vector_Missing.r5 F.vector_Missing.r6 F.vector_Missing.r7 F.vector_Missing.r8 F.vector_Missing.r9 F.vector_Missing.r10 F.vector_Missing.r11 F.vector_Missing.ic F.vector_Missing.rs
attribute [go_sem] F.vector_Same.r0 F.vector_Same.r1 F.vector_Same.ic F.vector_Same.rs
attribute [go_sem] F.vector_With.r0 F.vector_With.r1 F.vector_With.r2 F.vector_With.r3 F.vector_With.ic F.vector_With.rs
attribute [go_sem] F.vector_each.r0 F.vector_each.r1 F.vector_each.r2 F.vector_each.r3 F.vector_each.r4 F.vector_each.r5 F.vector_each.r6 F.vector_each.r7 F.vector_each.r8 F.vector_each.r9 F.vector_each.ic F.vector_each.rs
end Go.Osj
