/- The compiled code of functions (printed by a program, checked by the kernel). -/
import Derived.Test.YtfadbihdmohdiaaGreatDoorC0
import Derived.Test.YtfadbihdmohdiaaGreatDoorOsjN
set_option linter.unusedSimpArgs false
set_option linter.unusedVariables false
set_option maxRecDepth 100000
namespace Go.Osj
noncomputable def F.osierlaw08_CausalTurned.r0 : Plan :=
  .rd 0 none (.mv (.const (.bool false))) (some 4) false <|
  .done
noncomputable def F.osierlaw08_CausalTurned.r1 : Plan :=
  .ef 0 none (.call F.osierlaw08_awake []) (some 15) [] (
  .rd 1 none (.mv (.tmp 15)) (some 5) false <|
  .done) .none
noncomputable def F.osierlaw08_CausalTurned.r2 : Plan :=
  .rd 0 none (.mv (.tmp 5)) (some 16) false <|
  .rd 1 none (.un .not (.tmp 16)) (some 17) false <|
  .done
noncomputable def F.osierlaw08_CausalTurned.r3 : Plan :=
  .rd 0 none (.mv (.const (.bool false))) (some 4) false <|
  .done
noncomputable def F.osierlaw08_CausalTurned.r4 : Plan :=
  .rd 0 none (.mv (.tmp 0)) (some 18) false <|
  .ef 1 none (.call F.osierref08_Story [(.tmp 18)]) (some 19) [] (
  .rd 2 none (.mv (.tmp 19)) (some 6) false <|
  .done) .none
noncomputable def F.osierlaw08_CausalTurned.r5 : Plan :=
  .rd 0 none (.mv (.const (.slice none 0 0))) (some 7) false <|
  .done
noncomputable def F.osierlaw08_CausalTurned.r6 : Plan :=
  .rd 0 none (.mv (.tmp 7)) (some 20) false <|
  .rd 1 none (.mv (.tmp 6)) (some 21) false <|
  .ef 2 none (.app 14 136 (.tmp 20) (.tmp 21)) (some 22) [] (
  .rd 3 none (.mv (.tmp 22)) (some 7) false <|
  .done) .none
noncomputable def F.osierlaw08_CausalTurned.r7 : Plan :=
  .rd 0 none (.mv (.const (.int .i64 0))) (some 8) false <|
  .done
noncomputable def F.osierlaw08_CausalTurned.r8 : Plan :=
  .rd 0 none (.mv (.tmp 8)) (some 23) false <|
  .rd 1 none (.mv (.tmp 7)) (some 24) false <|
  .rd 2 none (.len .sl (.tmp 24)) (some 25) false <|
  .rd 3 none (.bin .lss (.tmp 23) (.tmp 25)) (some 26) false <|
  .rd 4 none (.mv (.tmp 26)) (some 27) false <|
  .rd 5 (some (27, true)) (.mv (.tmp 8)) (some 28) false <|
  .rd 6 (some (27, true)) (.mv (.tmp 1)) (some 29) false <|
  .rd 7 (some (27, true)) (.len .sl (.tmp 29)) (some 30) false <|
  .rd 8 (some (27, true)) (.bin .lss (.tmp 28) (.tmp 30)) (some 31) false <|
  .rd 9 none (.pick (.tmp 27) (.tmp 31) (.const (.bool false))) (some 32) false <|
  .done
noncomputable def F.osierlaw08_CausalTurned.r9 : Plan :=
  .rd 0 none (.mv (.tmp 1)) (some 35) false <|
  .rd 1 none (.mv (.tmp 8)) (some 36) false <|
  .rd 2 none (.idxA 1 (.tmp 35) (.tmp 36)) (some 37) false <|
  .rd 3 none (.ld1 (.tmp 37)) (some 38) false <|
  .rd 4 none (.mv (.tmp 7)) (some 39) false <|
  .rd 5 none (.len .sl (.tmp 39)) (some 40) false <|
  .rd 6 none (.bin .rem (.tmp 38) (.tmp 40)) (some 41) false <|
  .rd 7 none (.mv (.tmp 41)) (some 9) false <|
  .done
noncomputable def F.osierlaw08_CausalTurned.r10 : Plan :=
  .rd 0 none (.mv (.tmp 9)) (some 42) false <|
  .rd 1 none (.bin .lss (.tmp 42) (.const (.int .i64 0))) (some 43) false <|
  .done
noncomputable def F.osierlaw08_CausalTurned.r11 : Plan :=
  .rd 0 none (.mv (.tmp 9)) (some 44) false <|
  .rd 1 none (.un .neg (.tmp 44)) (some 45) false <|
  .rd 2 none (.mv (.tmp 45)) (some 9) false <|
  .done
noncomputable def F.osierlaw08_CausalTurned.r12 : Plan :=
  .rd 0 none (.mv (.tmp 7)) (some 46) false <|
  .rd 1 none (.mv (.tmp 8)) (some 47) false <|
  .rd 2 none (.idxA 14 (.tmp 46) (.tmp 47)) (some 48) false <|
  .rd 3 none (.ldn 14 (.tmp 48)) (some 49) false <|
  .ef 4 none (.alloc [(.int .i64 0), (.int .i64 0), (.int .i64 0), (.slice none 0 0), (.int .i64 0), (.int .i64 0), (.int .i64 0), (.int .i64 0), (.int .i64 0), (.int .i64 0), (.int .i64 0), (.int .i64 0), (.int .i64 0), (.string ⟨#[]⟩)]) (some 10) [] (
  .ef 5 none (.st 14 (.tmp 10) (.tmp 49)) none [] (
  .done) .none) .none
noncomputable def F.osierlaw08_CausalTurned.r13 : Plan :=
  .rd 0 none (.mv (.tmp 7)) (some 50) false <|
  .rd 1 none (.mv (.tmp 8)) (some 51) false <|
  .rd 2 none (.mv (.tmp 7)) (some 52) false <|
  .rd 3 none (.mv (.tmp 9)) (some 53) false <|
  .rd 4 none (.idxA 14 (.tmp 52) (.tmp 53)) (some 54) false <|
  .rd 5 none (.ldn 14 (.tmp 54)) (some 55) false <|
  .rd 6 none (.idxA 14 (.tmp 50) (.tmp 51)) (some 56) false <|
  .ef 7 none (.st 14 (.tmp 56) (.tmp 55)) none [] (
  .done) .none
noncomputable def F.osierlaw08_CausalTurned.r14 : Plan :=
  .rd 0 none (.mv (.tmp 7)) (some 57) false <|
  .rd 1 none (.mv (.tmp 9)) (some 58) false <|
  .rd 2 none (.ldn 14 (.tmp 10)) (some 59) false <|
  .rd 3 none (.idxA 14 (.tmp 57) (.tmp 58)) (some 60) false <|
  .ef 4 none (.st 14 (.tmp 60) (.tmp 59)) none [] (
  .done) .none
noncomputable def F.osierlaw08_CausalTurned.r15 : Plan :=
  .rd 0 none (.mv (.tmp 8)) (some 33) false <|
  .rd 1 none (.bin .add (.tmp 33) (.const (.int .i64 1))) (some 34) false <|
  .rd 2 none (.mv (.tmp 34)) (some 8) false <|
  .done
noncomputable def F.osierlaw08_CausalTurned.l0 : IC :=
    (.seq (.seq (.reg F.osierlaw08_CausalTurned.r8)
    (.cond (.tmp 32) .skip (.exit 0)))
    (.seq (.block 1 (.seq (.reg F.osierlaw08_CausalTurned.r9)
    (.seq (.seq (.reg F.osierlaw08_CausalTurned.r10)
    (.cond (.tmp 43) (.reg F.osierlaw08_CausalTurned.r11) .skip))
    (.seq (.reg F.osierlaw08_CausalTurned.r12)
    (.seq (.reg F.osierlaw08_CausalTurned.r13)
    (.reg F.osierlaw08_CausalTurned.r14))))))
    (.reg F.osierlaw08_CausalTurned.r15)))
noncomputable def F.osierlaw08_CausalTurned.r16 : Plan :=
  .rd 0 none (.mv (.tmp 6)) (some 62) false <|
  .ef 1 none (.call F.causal_Order [(.tmp 62)]) (some 63) [] (
  .rd 2 none (.mv (.tmp 63)) (some 61) false <|
  .rd 3 none (.ext 0 (.tmp 61)) (some 64) false <|
  .rd 4 none (.ext 1 (.tmp 61)) (some 65) false <|
  .rd 5 none (.mv (.tmp 64)) (some 11) false <|
  .rd 6 none (.mv (.tmp 65)) (some 12) false <|
  .done) .none
noncomputable def F.osierlaw08_CausalTurned.r17 : Plan :=
  .rd 0 none (.mv (.tmp 7)) (some 67) false <|
  .ef 1 none (.call F.causal_Order [(.tmp 67)]) (some 68) [] (
  .rd 2 none (.mv (.tmp 68)) (some 66) false <|
  .rd 3 none (.ext 0 (.tmp 66)) (some 69) false <|
  .rd 4 none (.ext 1 (.tmp 66)) (some 70) false <|
  .rd 5 none (.mv (.tmp 69)) (some 13) false <|
  .rd 6 none (.mv (.tmp 70)) (some 14) false <|
  .done) .none
noncomputable def F.osierlaw08_CausalTurned.r18 : Plan :=
  .rd 0 none (.mv (.tmp 11)) (some 71) false <|
  .rd 1 none (.mv (.tmp 13)) (some 72) false <|
  .ef 2 none (.call F.osierref07_Rows [(.tmp 71), (.tmp 72)]) (some 73) [] (
  .rd 3 none (.mv (.tmp 73)) (some 74) false <|
  .rd 4 (some (74, true)) (.mv (.tmp 11)) (some 75) false <|
  .rd 5 (some (74, true)) (.len .sl (.tmp 75)) (some 76) false <|
  .rd 6 (some (74, true)) (.mv (.tmp 6)) (some 77) false <|
  .rd 7 (some (74, true)) (.len .sl (.tmp 77)) (some 78) false <|
  .rd 8 (some (74, true)) (.bin .eql (.tmp 76) (.tmp 78)) (some 79) false <|
  .rd 9 none (.pick (.tmp 74) (.tmp 79) (.const (.bool false))) (some 80) false <|
  .rd 10 none (.mv (.tmp 80)) (some 81) false <|
  .rd 11 (some (81, true)) (.mv (.tmp 12)) (some 82) false <|
  .rd 12 (some (81, true)) (.len .sl (.tmp 82)) (some 83) false <|
  .rd 13 (some (81, true)) (.bin .eql (.tmp 83) (.const (.int .i64 0))) (some 84) false <|
  .rd 14 none (.pick (.tmp 81) (.tmp 84) (.const (.bool false))) (some 85) false <|
  .rd 15 none (.mv (.tmp 85)) (some 86) false <|
  .rd 16 (some (86, true)) (.mv (.tmp 14)) (some 87) false <|
  .rd 17 (some (86, true)) (.len .sl (.tmp 87)) (some 88) false <|
  .rd 18 (some (86, true)) (.bin .eql (.tmp 88) (.const (.int .i64 0))) (some 89) false <|
  .rd 19 none (.pick (.tmp 86) (.tmp 89) (.const (.bool false))) (some 90) false <|
  .rd 20 none (.mv (.tmp 90)) (some 91) false <|
  .rd 21 (some (91, true)) (.mv (.tmp 7)) (some 92) false <|
  .ef 22 (some (91, true)) (.call F.causal_Right [(.tmp 92)]) (some 93) [] (
  .rd 23 none (.pick (.tmp 91) (.tmp 93) (.const (.bool false))) (some 94) false <|
  .rd 24 none (.mv (.tmp 94)) (some 4) false <|
  .done) .none) .none
noncomputable def F.osierlaw08_CausalTurned.ic : IC :=
    (.seq (.reg F.osierlaw08_CausalTurned.r0)
    (.seq (.reg F.osierlaw08_CausalTurned.r1)
    (.seq (.seq (.reg F.osierlaw08_CausalTurned.r2)
    (.cond (.tmp 17) (.seq (.reg F.osierlaw08_CausalTurned.r3)
    .ret) .skip))
    (.seq (.reg F.osierlaw08_CausalTurned.r4)
    (.seq (.reg F.osierlaw08_CausalTurned.r5)
    (.seq (.reg F.osierlaw08_CausalTurned.r6)
    (.seq (.seq (.reg F.osierlaw08_CausalTurned.r7)
    (.block 0 (.loop F.osierlaw08_CausalTurned.l0)))
    (.seq (.reg F.osierlaw08_CausalTurned.r16)
    (.seq (.reg F.osierlaw08_CausalTurned.r17)
    (.seq (.reg F.osierlaw08_CausalTurned.r18)
    .ret))))))))))
noncomputable def F.osierlaw08_CausalTurned.rs : List RO := [(.mv (.tmp 4))]
theorem F.osierlaw08_CausalTurned.ok : cFunc Go.Proofs.Tryz.prog F.osierlaw08_CausalTurned = some (95, F.osierlaw08_CausalTurned.ic, F.osierlaw08_CausalTurned.rs) := by kernel_rfl
theorem F.osierlaw08_CausalTurned.cl : callable Go.Proofs.Tryz.prog F.osierlaw08_CausalTurned = true := by kernel_rfl
noncomputable def F.osierlaw08_CausalEdges.r0 : Plan :=
  .rd 0 none (.mv (.const (.bool false))) (some 2) false <|
  .done
noncomputable def F.osierlaw08_CausalEdges.r1 : Plan :=
  .ef 0 none (.call F.osierlaw08_awake []) (some 10) [] (
  .rd 1 none (.mv (.tmp 10)) (some 3) false <|
  .done) .none
noncomputable def F.osierlaw08_CausalEdges.r2 : Plan :=
  .rd 0 none (.mv (.tmp 3)) (some 11) false <|
  .rd 1 none (.un .not (.tmp 11)) (some 12) false <|
  .done
noncomputable def F.osierlaw08_CausalEdges.r3 : Plan :=
  .rd 0 none (.mv (.const (.bool false))) (some 2) false <|
  .done
noncomputable def F.osierlaw08_CausalEdges.r4 : Plan :=
  .rd 0 none (.mv (.tmp 0)) (some 13) false <|
  .ef 1 none (.call F.osierref08_Story [(.tmp 13)]) (some 14) [] (
  .rd 2 none (.mv (.tmp 14)) (some 4) false <|
  .done) .none
noncomputable def F.osierlaw08_CausalEdges.r5 : Plan :=
  .rd 0 none (.mv (.tmp 4)) (some 15) false <|
  .ef 1 none (.call F.causal_Frontier [(.tmp 15)]) (some 16) [] (
  .rd 2 none (.mv (.tmp 16)) (some 5) false <|
  .done) .none
noncomputable def F.osierlaw08_CausalEdges.r6 : Plan :=
  .rd 0 none (.mv (.const (.int .i64 0))) (some 6) false <|
  .done
noncomputable def F.osierlaw08_CausalEdges.r7 : Plan :=
  .rd 0 none (.mv (.tmp 6)) (some 17) false <|
  .rd 1 none (.mv (.tmp 4)) (some 18) false <|
  .rd 2 none (.len .sl (.tmp 18)) (some 19) false <|
  .rd 3 none (.bin .lss (.tmp 17) (.tmp 19)) (some 20) false <|
  .done
noncomputable def F.osierlaw08_CausalEdges.r8 : Plan :=
  .rd 0 none (.mv (.tmp 5)) (some 23) false <|
  .rd 1 none (.mv (.tmp 4)) (some 24) false <|
  .rd 2 none (.mv (.tmp 6)) (some 25) false <|
  .rd 3 none (.idxA 14 (.tmp 24) (.tmp 25)) (some 26) false <|
  .rd 4 none (.fldA 0 (.tmp 26)) (some 27) false <|
  .rd 5 none (.ldn 2 (.tmp 27)) (some 28) false <|
  .ef 6 none (.call F.osierref03_In [(.tmp 23), (.tmp 28)]) (some 29) [] (
  .rd 7 none (.mv (.tmp 29)) (some 7) false <|
  .done) .none
noncomputable def F.osierlaw08_CausalEdges.r9 : Plan :=
  .rd 0 none (.mv (.const (.int .i64 0))) (some 8) false <|
  .done
noncomputable def F.osierlaw08_CausalEdges.r10 : Plan :=
  .rd 0 none (.mv (.tmp 8)) (some 30) false <|
  .rd 1 none (.mv (.tmp 4)) (some 31) false <|
  .rd 2 none (.len .sl (.tmp 31)) (some 32) false <|
  .rd 3 none (.bin .lss (.tmp 30) (.tmp 32)) (some 33) false <|
  .done
noncomputable def F.osierlaw08_CausalEdges.r11 : Plan :=
  .rd 0 none (.mv (.tmp 5)) (some 36) false <|
  .rd 1 none (.mv (.tmp 4)) (some 37) false <|
  .rd 2 none (.mv (.tmp 8)) (some 38) false <|
  .rd 3 none (.idxA 14 (.tmp 37) (.tmp 38)) (some 39) false <|
  .rd 4 none (.fldA 0 (.tmp 39)) (some 40) false <|
  .rd 5 none (.ldn 2 (.tmp 40)) (some 41) false <|
  .ef 6 none (.call F.osierref03_In [(.tmp 36), (.tmp 41)]) (some 42) [] (
  .rd 7 none (.mv (.tmp 42)) (some 9) false <|
  .done) .none
noncomputable def F.osierlaw08_CausalEdges.r12 : Plan :=
  .rd 0 none (.mv (.tmp 9)) (some 43) false <|
  .rd 1 none (.mv (.tmp 43)) (some 44) false <|
  .rd 2 (some (44, true)) (.mv (.tmp 4)) (some 45) false <|
  .rd 3 (some (44, true)) (.mv (.tmp 6)) (some 46) false <|
  .rd 4 (some (44, true)) (.idxA 14 (.tmp 45) (.tmp 46)) (some 47) false <|
  .rd 5 (some (44, true)) (.ldn 14 (.tmp 47)) (some 48) false <|
  .rd 6 (some (44, true)) (.mv (.tmp 4)) (some 49) false <|
  .rd 7 (some (44, true)) (.mv (.tmp 8)) (some 50) false <|
  .rd 8 (some (44, true)) (.idxA 14 (.tmp 49) (.tmp 50)) (some 51) false <|
  .rd 9 (some (44, true)) (.ldn 14 (.tmp 51)) (some 52) false <|
  .ef 10 (some (44, true)) (.call F.causal_Ahead [(.tmp 48), (.tmp 52)]) (some 53) [] (
  .rd 11 none (.pick (.tmp 44) (.tmp 53) (.const (.bool false))) (some 54) false <|
  .done) .none
noncomputable def F.osierlaw08_CausalEdges.r13 : Plan :=
  .rd 0 none (.mv (.tmp 5)) (some 55) false <|
  .rd 1 none (.mv (.tmp 4)) (some 56) false <|
  .rd 2 none (.mv (.tmp 6)) (some 57) false <|
  .rd 3 none (.idxA 14 (.tmp 56) (.tmp 57)) (some 58) false <|
  .rd 4 none (.fldA 0 (.tmp 58)) (some 59) false <|
  .rd 5 none (.ldn 2 (.tmp 59)) (some 60) false <|
  .ef 6 none (.call F.osierref03_In [(.tmp 55), (.tmp 60)]) (some 61) [] (
  .done) .none
noncomputable def F.osierlaw08_CausalEdges.r14 : Plan :=
  .rd 0 none (.mv (.const (.bool false))) (some 2) false <|
  .done
noncomputable def F.osierlaw08_CausalEdges.r15 : Plan :=
  .rd 0 none (.mv (.const (.bool true))) (some 7) false <|
  .done
noncomputable def F.osierlaw08_CausalEdges.r16 : Plan :=
  .rd 0 none (.mv (.tmp 8)) (some 34) false <|
  .rd 1 none (.bin .add (.tmp 34) (.const (.int .i64 1))) (some 35) false <|
  .rd 2 none (.mv (.tmp 35)) (some 8) false <|
  .done
noncomputable def F.osierlaw08_CausalEdges.l0 : IC :=
    (.seq (.seq (.reg F.osierlaw08_CausalEdges.r10)
    (.cond (.tmp 33) .skip (.exit 2)))
    (.seq (.block 3 (.seq (.reg F.osierlaw08_CausalEdges.r11)
    (.seq (.reg F.osierlaw08_CausalEdges.r12)
    (.cond (.tmp 54) (.seq (.seq (.reg F.osierlaw08_CausalEdges.r13)
    (.cond (.tmp 61) (.seq (.reg F.osierlaw08_CausalEdges.r14)
    .ret) .skip))
    (.reg F.osierlaw08_CausalEdges.r15)) .skip))))
    (.reg F.osierlaw08_CausalEdges.r16)))
noncomputable def F.osierlaw08_CausalEdges.r17 : Plan :=
  .rd 0 none (.mv (.tmp 7)) (some 62) false <|
  .rd 1 none (.un .not (.tmp 62)) (some 63) false <|
  .done
noncomputable def F.osierlaw08_CausalEdges.r18 : Plan :=
  .rd 0 none (.mv (.const (.bool false))) (some 2) false <|
  .done
noncomputable def F.osierlaw08_CausalEdges.r19 : Plan :=
  .rd 0 none (.mv (.tmp 6)) (some 21) false <|
  .rd 1 none (.bin .add (.tmp 21) (.const (.int .i64 1))) (some 22) false <|
  .rd 2 none (.mv (.tmp 22)) (some 6) false <|
  .done
noncomputable def F.osierlaw08_CausalEdges.l1 : IC :=
    (.seq (.seq (.reg F.osierlaw08_CausalEdges.r7)
    (.cond (.tmp 20) .skip (.exit 0)))
    (.seq (.block 1 (.seq (.reg F.osierlaw08_CausalEdges.r8)
    (.seq (.seq (.reg F.osierlaw08_CausalEdges.r9)
    (.block 2 (.loop F.osierlaw08_CausalEdges.l0)))
    (.seq (.reg F.osierlaw08_CausalEdges.r17)
    (.cond (.tmp 63) (.seq (.reg F.osierlaw08_CausalEdges.r18)
    .ret) .skip)))))
    (.reg F.osierlaw08_CausalEdges.r19)))
noncomputable def F.osierlaw08_CausalEdges.r20 : Plan :=
  .rd 0 none (.mv (.tmp 5)) (some 64) false <|
  .rd 1 none (.len .sl (.tmp 64)) (some 65) false <|
  .rd 2 none (.bin .eql (.tmp 65) (.const (.int .i64 0))) (some 66) false <|
  .rd 3 none (.mv (.tmp 4)) (some 67) false <|
  .rd 4 none (.len .sl (.tmp 67)) (some 68) false <|
  .rd 5 none (.bin .eql (.tmp 68) (.const (.int .i64 0))) (some 69) false <|
  .rd 6 none (.eqS [.b] false false (.tmp 66) (.tmp 69)) (some 70) false <|
  .rd 7 none (.mv (.tmp 70)) (some 2) false <|
  .done
noncomputable def F.osierlaw08_CausalEdges.ic : IC :=
    (.seq (.reg F.osierlaw08_CausalEdges.r0)
    (.seq (.reg F.osierlaw08_CausalEdges.r1)
    (.seq (.seq (.reg F.osierlaw08_CausalEdges.r2)
    (.cond (.tmp 12) (.seq (.reg F.osierlaw08_CausalEdges.r3)
    .ret) .skip))
    (.seq (.reg F.osierlaw08_CausalEdges.r4)
    (.seq (.reg F.osierlaw08_CausalEdges.r5)
    (.seq (.seq (.reg F.osierlaw08_CausalEdges.r6)
    (.block 0 (.loop F.osierlaw08_CausalEdges.l1)))
    (.seq (.reg F.osierlaw08_CausalEdges.r20)
    .ret)))))))
noncomputable def F.osierlaw08_CausalEdges.rs : List RO := [(.mv (.tmp 2))]
theorem F.osierlaw08_CausalEdges.ok : cFunc Go.Proofs.Tryz.prog F.osierlaw08_CausalEdges = some (71, F.osierlaw08_CausalEdges.ic, F.osierlaw08_CausalEdges.rs) := by kernel_rfl
theorem F.osierlaw08_CausalEdges.cl : callable Go.Proofs.Tryz.prog F.osierlaw08_CausalEdges = true := by kernel_rfl
noncomputable def F.osierref08_Story.r0 : Plan :=
  .rd 0 none (.mv (.const (.slice none 0 0))) (some 2) false <|
  .done
noncomputable def F.osierref08_Story.r1 : Plan :=
  .rd 0 none (.mv (.const (.slice none 0 0))) (some 3) false <|
  .done
noncomputable def F.osierref08_Story.r2 : Plan :=
  .ef 0 none (.alloc [(.slice none 0 0), (.slice none 0 0), (.slice none 0 0), (.slice none 0 0)]) (some 4) [] (
  .done) .none
noncomputable def F.osierref08_Story.r3 : Plan :=
  .rd 0 none (.mv (.const (.int .i64 0))) (some 5) false <|
  .done
noncomputable def F.osierref08_Story.r4 : Plan :=
  .rd 0 none (.mv (.tmp 5)) (some 12) false <|
  .rd 1 none (.mv (.tmp 0)) (some 13) false <|
  .rd 2 none (.len .sl (.tmp 13)) (some 14) false <|
  .rd 3 none (.bin .lss (.tmp 12) (.tmp 14)) (some 15) false <|
  .rd 4 none (.mv (.tmp 15)) (some 16) false <|
  .rd 5 (some (16, true)) (.mv (.tmp 5)) (some 17) false <|
  .rd 6 (some (16, true)) (.bin .lss (.tmp 17) (.const (.int .i64 60))) (some 18) false <|
  .rd 7 none (.pick (.tmp 16) (.tmp 18) (.const (.bool false))) (some 19) false <|
  .done
noncomputable def F.osierref08_Story.r5 : Plan :=
  .rd 0 none (.mv (.tmp 0)) (some 22) false <|
  .rd 1 none (.mv (.tmp 5)) (some 23) false <|
  .rd 2 none (.idxA 6 (.tmp 22) (.tmp 23)) (some 24) false <|
  .rd 3 none (.ldn 6 (.tmp 24)) (some 25) false <|
  .ef 4 none (.alloc [(.int .i64 0), (.int .i64 0), (.int .i64 0), (.int .i64 0), (.int .i64 0), (.string ⟨#[]⟩)]) (some 6) [] (
  .ef 5 none (.st 6 (.tmp 6) (.tmp 25)) none [] (
  .done) .none) .none
noncomputable def F.osierref08_Story.r6 : Plan :=
  .rd 0 none (.fldA 0 (.tmp 6)) (some 26) false <|
  .rd 1 none (.ld1 (.tmp 26)) (some 27) false <|
  .ef 2 none (.call F.osierref08_abs [(.tmp 27)]) (some 28) [] (
  .rd 3 none (.bin .rem (.tmp 28) (.const (.int .i64 4))) (some 29) false <|
  .rd 4 none (.mv (.tmp 29)) (some 7) false <|
  .done) .none
noncomputable def F.osierref08_Story.r7 : Plan :=
  .rd 0 none (.fldA 1 (.tmp 6)) (some 30) false <|
  .rd 1 none (.ld1 (.tmp 30)) (some 31) false <|
  .ef 2 none (.call F.osierref08_abs [(.tmp 31)]) (some 32) [] (
  .rd 3 none (.mv (.tmp 3)) (some 33) false <|
  .rd 4 none (.len .sl (.tmp 33)) (some 34) false <|
  .rd 5 none (.bin .add (.tmp 34) (.const (.int .i64 1))) (some 35) false <|
  .rd 6 none (.bin .rem (.tmp 32) (.tmp 35)) (some 36) false <|
  .rd 7 none (.mv (.tmp 36)) (some 8) false <|
  .done) .none
noncomputable def F.osierref08_Story.r8 : Plan :=
  .rd 0 none (.mv (.const (.int .i64 0))) (some 9) false <|
  .done
noncomputable def F.osierref08_Story.r9 : Plan :=
  .rd 0 none (.mv (.tmp 9)) (some 37) false <|
  .rd 1 none (.mv (.tmp 8)) (some 38) false <|
  .rd 2 none (.bin .lss (.tmp 37) (.tmp 38)) (some 39) false <|
  .done
noncomputable def F.osierref08_Story.r10 : Plan :=
  .rd 0 none (.mv (.tmp 3)) (some 42) false <|
  .rd 1 none (.mv (.tmp 9)) (some 43) false <|
  .rd 2 none (.idxA 14 (.tmp 42) (.tmp 43)) (some 44) false <|
  .rd 3 none (.fldA 3 (.tmp 44)) (some 45) false <|
  .rd 4 none (.ld1 (.tmp 45)) (some 46) false <|
  .rd 5 none (.mv (.tmp 7)) (some 47) false <|
  .rd 6 none (.arrA 4 1 (.tmp 4) (.tmp 47)) (some 48) false <|
  .rd 7 none (.ld1 (.tmp 48)) (some 49) false <|
  .ef 8 none (.call F.osierref04_Below [(.tmp 46), (.tmp 49)]) (some 50) [] (
  .rd 9 none (.mv (.tmp 50)) (some 10) false <|
  .done) .none
noncomputable def F.osierref08_Story.r11 : Plan :=
  .rd 0 none (.mv (.tmp 10)) (some 51) false <|
  .done
noncomputable def F.osierref08_Story.r12 : Plan :=
  .rd 0 none (.mv (.tmp 7)) (some 52) false <|
  .rd 1 none (.mv (.tmp 7)) (some 53) false <|
  .rd 2 none (.arrA 4 1 (.tmp 4) (.tmp 53)) (some 54) false <|
  .rd 3 none (.ld1 (.tmp 54)) (some 55) false <|
  .rd 4 none (.mv (.tmp 3)) (some 56) false <|
  .rd 5 none (.mv (.tmp 9)) (some 57) false <|
  .rd 6 none (.idxA 14 (.tmp 56) (.tmp 57)) (some 58) false <|
  .rd 7 none (.fldA 0 (.tmp 58)) (some 59) false <|
  .rd 8 none (.ldn 2 (.tmp 59)) (some 60) false <|
  .ef 9 none (.call F.osierref04_With [(.tmp 55), (.tmp 60)]) (some 61) [0] (
  .rd 10 none (.arrA 4 1 (.tmp 4) (.tmp 52)) (some 62) false <|
  .ef 11 none (.st 1 (.tmp 62) (.tmp 61)) none [] (
  .done) .none) .none
noncomputable def F.osierref08_Story.r13 : Plan :=
  .rd 0 none (.mv (.tmp 9)) (some 40) false <|
  .rd 1 none (.bin .add (.tmp 40) (.const (.int .i64 1))) (some 41) false <|
  .rd 2 none (.mv (.tmp 41)) (some 9) false <|
  .done
noncomputable def F.osierref08_Story.l0 : IC :=
    (.seq (.seq (.reg F.osierref08_Story.r9)
    (.cond (.tmp 39) .skip (.exit 2)))
    (.seq (.block 3 (.seq (.reg F.osierref08_Story.r10)
    (.seq (.reg F.osierref08_Story.r11)
    (.cond (.tmp 51) (.reg F.osierref08_Story.r12) .skip))))
    (.reg F.osierref08_Story.r13)))
noncomputable def F.osierref08_Story.r14 : Plan :=
  .rd 0 none (.mv (.tmp 3)) (some 63) false <|
  .rd 1 none (.mv (.tmp 7)) (some 64) false <|
  .rd 2 none (.arrA 4 1 (.tmp 4) (.tmp 64)) (some 65) false <|
  .rd 3 none (.ld1 (.tmp 65)) (some 66) true <|
  .rd 4 none (.mv (.tmp 7)) (some 67) false <|
  .rd 5 none (.bin .mul (.tmp 67) (.const (.int .i64 256))) (some 68) false <|
  .rd 6 none (.bin .add (.const (.int .i64 1)) (.tmp 68)) (some 69) false <|
  .rd 7 none (.ldn 6 (.tmp 6)) (some 70) true <|
  .ef 8 none (.call F.osierref08_one [(.tmp 63), (.tmp 66), (.tmp 69), (.tmp 70)]) (some 71) [] (
  .ef 9 none (.alloc [(.int .i64 0), (.int .i64 0), (.int .i64 0), (.slice none 0 0), (.int .i64 0), (.int .i64 0), (.int .i64 0), (.int .i64 0), (.int .i64 0), (.int .i64 0), (.int .i64 0), (.int .i64 0), (.int .i64 0), (.string ⟨#[]⟩)]) (some 11) [0, 1, 2, 3, 4, 5, 6, 7] (
  .ef 10 none (.st 14 (.tmp 11) (.tmp 71)) none [] (
  .done) .none) .none) (
    .ef 9 none (.alloc [(.int .i64 0), (.int .i64 0), (.int .i64 0), (.slice none 0 0), (.int .i64 0), (.int .i64 0), (.int .i64 0), (.int .i64 0), (.int .i64 0), (.int .i64 0), (.int .i64 0), (.int .i64 0), (.int .i64 0), (.string ⟨#[]⟩)]) (some 11) [0, 1, 2, 3, 4, 5, 6, 7] (
    .ef 8 none (.call F.osierref08_one [(.tmp 63), (.tmp 66), (.tmp 69), (.tmp 70)]) (some 71) [] (
    .ef 10 none (.st 14 (.tmp 11) (.tmp 71)) none [] (
    .done) .none) .none) .none)
noncomputable def F.osierref08_Story.r15 : Plan :=
  .rd 0 none (.ldn 14 (.tmp 11)) (some 72) false <|
  .ef 1 none (.call F.osierref07_Check [(.tmp 72)]) (some 73) [] (
  .done) .none
noncomputable def F.osierref08_Story.r16 : Plan :=
  .rd 0 none (.mv (.tmp 3)) (some 74) false <|
  .rd 1 none (.ldn 14 (.tmp 11)) (some 75) false <|
  .ef 2 none (.bsl 1 [(.int .i64 0), (.int .i64 0), (.int .i64 0), (.slice none 0 0), (.int .i64 0), (.int .i64 0), (.int .i64 0), (.int .i64 0), (.int .i64 0), (.int .i64 0), (.int .i64 0), (.int .i64 0), (.int .i64 0), (.string ⟨#[]⟩)] [(0, (14, (.tmp 75)))]) (some 76) [] (
  .ef 3 none (.app 14 136 (.tmp 74) (.tmp 76)) (some 77) [] (
  .rd 4 none (.mv (.tmp 77)) (some 3) false <|
  .done) .none) .none
noncomputable def F.osierref08_Story.r17 : Plan :=
  .rd 0 none (.mv (.tmp 7)) (some 78) false <|
  .rd 1 none (.mv (.tmp 7)) (some 79) false <|
  .rd 2 none (.arrA 4 1 (.tmp 4) (.tmp 79)) (some 80) false <|
  .rd 3 none (.ld1 (.tmp 80)) (some 81) false <|
  .rd 4 none (.fldA 0 (.tmp 11)) (some 82) false <|
  .rd 5 none (.ldn 2 (.tmp 82)) (some 83) false <|
  .ef 6 none (.call F.osierref04_With [(.tmp 81), (.tmp 83)]) (some 84) [0] (
  .rd 7 none (.arrA 4 1 (.tmp 4) (.tmp 78)) (some 85) false <|
  .ef 8 none (.st 1 (.tmp 85) (.tmp 84)) none [] (
  .done) .none) .none
noncomputable def F.osierref08_Story.r18 : Plan :=
  .rd 0 none (.mv (.tmp 5)) (some 20) false <|
  .rd 1 none (.bin .add (.tmp 20) (.const (.int .i64 1))) (some 21) false <|
  .rd 2 none (.mv (.tmp 21)) (some 5) false <|
  .done
noncomputable def F.osierref08_Story.l1 : IC :=
    (.seq (.seq (.reg F.osierref08_Story.r4)
    (.cond (.tmp 19) .skip (.exit 0)))
    (.seq (.block 1 (.seq (.reg F.osierref08_Story.r5)
    (.seq (.reg F.osierref08_Story.r6)
    (.seq (.reg F.osierref08_Story.r7)
    (.seq (.seq (.reg F.osierref08_Story.r8)
    (.block 2 (.loop F.osierref08_Story.l0)))
    (.seq (.reg F.osierref08_Story.r14)
    (.seq (.reg F.osierref08_Story.r15)
    (.cond (.tmp 73) (.seq (.reg F.osierref08_Story.r16)
    (.reg F.osierref08_Story.r17)) .skip))))))))
    (.reg F.osierref08_Story.r18)))
noncomputable def F.osierref08_Story.r19 : Plan :=
  .rd 0 none (.mv (.tmp 3)) (some 86) false <|
  .rd 1 none (.mv (.tmp 86)) (some 2) false <|
  .done
noncomputable def F.osierref08_Story.ic : IC :=
    (.seq (.reg F.osierref08_Story.r0)
    (.seq (.reg F.osierref08_Story.r1)
    (.seq (.reg F.osierref08_Story.r2)
    (.seq (.seq (.reg F.osierref08_Story.r3)
    (.block 0 (.loop F.osierref08_Story.l1)))
    (.seq (.reg F.osierref08_Story.r19)
    .ret)))))
noncomputable def F.osierref08_Story.rs : List RO := [(.mv (.tmp 2))]
theorem F.osierref08_Story.ok : cFunc Go.Proofs.Tryz.prog F.osierref08_Story = some (87, F.osierref08_Story.ic, F.osierref08_Story.rs) := by kernel_rfl
theorem F.osierref08_Story.cl : callable Go.Proofs.Tryz.prog F.osierref08_Story = true := by kernel_rfl
noncomputable def F.osierref03_In.r0 : Plan :=
  .ef 0 none (.box (.tmp 1)) (some 3) [] (
  .rd 1 none (.mv (.const (.bool false))) (some 4) false <|
  .done) .none
noncomputable def F.osierref03_In.r1 : Plan :=
  .rd 0 none (.mv (.const (.int .i64 0))) (some 5) false <|
  .done
noncomputable def F.osierref03_In.r2 : Plan :=
  .rd 0 none (.mv (.tmp 5)) (some 6) false <|
  .rd 1 none (.mv (.tmp 0)) (some 7) false <|
  .rd 2 none (.len .sl (.tmp 7)) (some 8) false <|
  .rd 3 none (.bin .lss (.tmp 6) (.tmp 8)) (some 9) false <|
  .done
noncomputable def F.osierref03_In.r3 : Plan :=
  .rd 0 none (.mv (.tmp 0)) (some 12) false <|
  .rd 1 none (.mv (.tmp 5)) (some 13) false <|
  .rd 2 none (.idxA 2 (.tmp 12) (.tmp 13)) (some 14) false <|
  .rd 3 none (.ldn 2 (.tmp 14)) (some 15) false <|
  .rd 4 none (.ldn 2 (.tmp 3)) (some 16) false <|
  .rd 5 none (.eqS [(.i .i64), (.i .i64)] true false (.tmp 15) (.tmp 16)) (some 17) false <|
  .done
noncomputable def F.osierref03_In.r4 : Plan :=
  .rd 0 none (.mv (.const (.bool true))) (some 4) false <|
  .done
noncomputable def F.osierref03_In.r5 : Plan :=
  .rd 0 none (.mv (.tmp 5)) (some 10) false <|
  .rd 1 none (.bin .add (.tmp 10) (.const (.int .i64 1))) (some 11) false <|
  .rd 2 none (.mv (.tmp 11)) (some 5) false <|
  .done
noncomputable def F.osierref03_In.l0 : IC :=
    (.seq (.seq (.reg F.osierref03_In.r2)
    (.cond (.tmp 9) .skip (.exit 0)))
    (.seq (.block 1 (.seq (.reg F.osierref03_In.r3)
    (.cond (.tmp 17) (.seq (.reg F.osierref03_In.r4)
    .ret) .skip)))
    (.reg F.osierref03_In.r5)))
noncomputable def F.osierref03_In.r6 : Plan :=
  .rd 0 none (.mv (.const (.bool false))) (some 4) false <|
  .done
noncomputable def F.osierref03_In.ic : IC :=
    (.seq (.reg F.osierref03_In.r0)
    (.seq (.seq (.reg F.osierref03_In.r1)
    (.block 0 (.loop F.osierref03_In.l0)))
    (.seq (.reg F.osierref03_In.r6)
    .ret)))
noncomputable def F.osierref03_In.rs : List RO := [(.mv (.tmp 4))]
theorem F.osierref03_In.ok : cFunc Go.Proofs.Tryz.prog F.osierref03_In = some (18, F.osierref03_In.ic, F.osierref03_In.rs) := by kernel_rfl
theorem F.osierref03_In.cl : callable Go.Proofs.Tryz.prog F.osierref03_In = true := by kernel_rfl
noncomputable def F.osierref08_abs.r0 : Plan :=
  .rd 0 none (.mv (.const (.int .i64 0))) (some 2) false <|
  .done
noncomputable def F.osierref08_abs.r1 : Plan :=
  .rd 0 none (.mv (.tmp 0)) (some 3) false <|
  .rd 1 none (.bin .lss (.tmp 3) (.const (.int .i64 0))) (some 4) false <|
  .done
noncomputable def F.osierref08_abs.r2 : Plan :=
  .rd 0 none (.mv (.tmp 0)) (some 5) false <|
  .rd 1 none (.bin .add (.tmp 5) (.const (.int .i64 1))) (some 6) false <|
  .rd 2 none (.un .neg (.tmp 6)) (some 7) false <|
  .rd 3 none (.mv (.tmp 7)) (some 2) false <|
  .done
noncomputable def F.osierref08_abs.r3 : Plan :=
  .rd 0 none (.mv (.tmp 0)) (some 8) false <|
  .rd 1 none (.mv (.tmp 8)) (some 2) false <|
  .done
noncomputable def F.osierref08_abs.ic : IC :=
    (.seq (.reg F.osierref08_abs.r0)
    (.seq (.seq (.reg F.osierref08_abs.r1)
    (.cond (.tmp 4) (.seq (.reg F.osierref08_abs.r2)
    .ret) .skip))
    (.seq (.reg F.osierref08_abs.r3)
    .ret)))
noncomputable def F.osierref08_abs.rs : List RO := [(.mv (.tmp 2))]
theorem F.osierref08_abs.ok : cFunc Go.Proofs.Tryz.prog F.osierref08_abs = some (9, F.osierref08_abs.ic, F.osierref08_abs.rs) := by kernel_rfl
theorem F.osierref08_abs.cl : callable Go.Proofs.Tryz.prog F.osierref08_abs = true := by kernel_rfl
noncomputable def F.osierref08_one.r0 : Plan :=
  .ef 0 none (.box (.tmp 3)) (some 7) [] (
  .ef 1 none (.alloc [(.int .i64 0), (.int .i64 0), (.int .i64 0), (.slice none 0 0), (.int .i64 0), (.int .i64 0), (.int .i64 0), (.int .i64 0), (.int .i64 0), (.int .i64 0), (.int .i64 0), (.int .i64 0), (.int .i64 0), (.string ⟨#[]⟩)]) (some 8) [] (
  .done) .none) .none
noncomputable def F.osierref08_one.r1 : Plan :=
  .rd 0 none (.mv (.tmp 2)) (some 16) false <|
  .rd 1 none (.mv (.tmp 1)) (some 17) false <|
  .rd 2 none (.mv (.tmp 2)) (some 18) false <|
  .rd 6 none (.mv (.tmp 0)) (some 22) false <|
  .rd 7 none (.mv (.tmp 1)) (some 23) false <|
  .rd 10 none (.mv (.tmp 1)) (some 26) false <|
  .rd 11 none (.fldA 2 (.tmp 7)) (some 27) false <|
  .rd 12 none (.ld1 (.tmp 27)) (some 28) true <|
  .ef 3 none (.call F.osierref04_Get [(.tmp 17), (.tmp 18)]) (some 19) [0, 6, 7, 10, 11, 12] (
  .rd 4 none (.bin .add (.tmp 19) (.const (.int .i64 1))) (some 20) false <|
  .rd 5 none (.build [(.int .i64 0), (.int .i64 0)] [(0, (1, (.tmp 16))), (1, (1, (.tmp 20)))]) (some 21) false <|
  .ef 8 none (.call F.osierref08_Latest [(.tmp 22), (.tmp 23)]) (some 24) [0, 4, 5, 10, 11, 12] (
  .rd 9 none (.bin .add (.tmp 24) (.const (.int .i64 1))) (some 25) false <|
  .ef 13 none (.call F.osierref08_abs [(.tmp 28)]) (some 29) [0, 4, 5, 9, 10] (
  .rd 14 none (.bin .rem (.tmp 29) (.const (.int .i64 3))) (some 30) false <|
  .rd 15 none (.bin .add (.const (.int .i64 1)) (.tmp 30)) (some 31) false <|
  .rd 16 none (.build [(.int .i64 0), (.int .i64 0), (.int .i64 0), (.slice none 0 0), (.int .i64 0), (.int .i64 0), (.int .i64 0), (.int .i64 0), (.int .i64 0), (.int .i64 0), (.int .i64 0), (.int .i64 0), (.int .i64 0), (.string ⟨#[]⟩)] [(0, (2, (.tmp 21))), (2, (1, (.tmp 25))), (3, (1, (.tmp 26))), (4, (1, (.tmp 31)))]) (some 32) false <|
  .ef 17 none (.alloc [(.int .i64 0), (.int .i64 0), (.int .i64 0), (.slice none 0 0), (.int .i64 0), (.int .i64 0), (.int .i64 0), (.int .i64 0), (.int .i64 0), (.int .i64 0), (.int .i64 0), (.int .i64 0), (.int .i64 0), (.string ⟨#[]⟩)]) (some 9) [0, 1, 2, 4, 5, 6, 7, 9, 10, 11, 12, 14, 15, 16] (
  .ef 18 none (.st 14 (.tmp 9) (.tmp 32)) none [] (
  .done) .none) .none) (
    .ef 17 none (.alloc [(.int .i64 0), (.int .i64 0), (.int .i64 0), (.slice none 0 0), (.int .i64 0), (.int .i64 0), (.int .i64 0), (.int .i64 0), (.int .i64 0), (.int .i64 0), (.int .i64 0), (.int .i64 0), (.int .i64 0), (.string ⟨#[]⟩)]) (some 9) [0, 1, 2, 4, 5, 6, 7, 9, 10, 11, 12] (
    .ef 13 none (.call F.osierref08_abs [(.tmp 28)]) (some 29) [0, 4, 5, 9, 10] (
    .rd 14 none (.bin .rem (.tmp 29) (.const (.int .i64 3))) (some 30) false <|
    .rd 15 none (.bin .add (.const (.int .i64 1)) (.tmp 30)) (some 31) false <|
    .rd 16 none (.build [(.int .i64 0), (.int .i64 0), (.int .i64 0), (.slice none 0 0), (.int .i64 0), (.int .i64 0), (.int .i64 0), (.int .i64 0), (.int .i64 0), (.int .i64 0), (.int .i64 0), (.int .i64 0), (.int .i64 0), (.string ⟨#[]⟩)] [(0, (2, (.tmp 21))), (2, (1, (.tmp 25))), (3, (1, (.tmp 26))), (4, (1, (.tmp 31)))]) (some 32) false <|
    .ef 18 none (.st 14 (.tmp 9) (.tmp 32)) none [] (
    .done) .none) .none) .none)) (
    .ef 17 none (.alloc [(.int .i64 0), (.int .i64 0), (.int .i64 0), (.slice none 0 0), (.int .i64 0), (.int .i64 0), (.int .i64 0), (.int .i64 0), (.int .i64 0), (.int .i64 0), (.int .i64 0), (.int .i64 0), (.int .i64 0), (.string ⟨#[]⟩)]) (some 9) [0, 1, 2, 4, 5, 6, 7, 10, 11, 12] (
    .ef 8 none (.call F.osierref08_Latest [(.tmp 22), (.tmp 23)]) (some 24) [0, 4, 5, 10, 11, 12] (
    .rd 9 none (.bin .add (.tmp 24) (.const (.int .i64 1))) (some 25) false <|
    .ef 13 none (.call F.osierref08_abs [(.tmp 28)]) (some 29) [0, 4, 5, 9, 10] (
    .rd 14 none (.bin .rem (.tmp 29) (.const (.int .i64 3))) (some 30) false <|
    .rd 15 none (.bin .add (.const (.int .i64 1)) (.tmp 30)) (some 31) false <|
    .rd 16 none (.build [(.int .i64 0), (.int .i64 0), (.int .i64 0), (.slice none 0 0), (.int .i64 0), (.int .i64 0), (.int .i64 0), (.int .i64 0), (.int .i64 0), (.int .i64 0), (.int .i64 0), (.int .i64 0), (.int .i64 0), (.string ⟨#[]⟩)] [(0, (2, (.tmp 21))), (2, (1, (.tmp 25))), (3, (1, (.tmp 26))), (4, (1, (.tmp 31)))]) (some 32) false <|
    .ef 18 none (.st 14 (.tmp 9) (.tmp 32)) none [] (
    .done) .none) .none) .none) .none)) (
    .ef 17 none (.alloc [(.int .i64 0), (.int .i64 0), (.int .i64 0), (.slice none 0 0), (.int .i64 0), (.int .i64 0), (.int .i64 0), (.int .i64 0), (.int .i64 0), (.int .i64 0), (.int .i64 0), (.int .i64 0), (.int .i64 0), (.string ⟨#[]⟩)]) (some 9) [0, 1, 2, 6, 7, 10, 11, 12] (
    .ef 3 none (.call F.osierref04_Get [(.tmp 17), (.tmp 18)]) (some 19) [0, 6, 7, 10, 11, 12] (
    .rd 4 none (.bin .add (.tmp 19) (.const (.int .i64 1))) (some 20) false <|
    .rd 5 none (.build [(.int .i64 0), (.int .i64 0)] [(0, (1, (.tmp 16))), (1, (1, (.tmp 20)))]) (some 21) false <|
    .ef 8 none (.call F.osierref08_Latest [(.tmp 22), (.tmp 23)]) (some 24) [0, 4, 5, 10, 11, 12] (
    .rd 9 none (.bin .add (.tmp 24) (.const (.int .i64 1))) (some 25) false <|
    .ef 13 none (.call F.osierref08_abs [(.tmp 28)]) (some 29) [0, 4, 5, 9, 10] (
    .rd 14 none (.bin .rem (.tmp 29) (.const (.int .i64 3))) (some 30) false <|
    .rd 15 none (.bin .add (.const (.int .i64 1)) (.tmp 30)) (some 31) false <|
    .rd 16 none (.build [(.int .i64 0), (.int .i64 0), (.int .i64 0), (.slice none 0 0), (.int .i64 0), (.int .i64 0), (.int .i64 0), (.int .i64 0), (.int .i64 0), (.int .i64 0), (.int .i64 0), (.int .i64 0), (.int .i64 0), (.string ⟨#[]⟩)] [(0, (2, (.tmp 21))), (2, (1, (.tmp 25))), (3, (1, (.tmp 26))), (4, (1, (.tmp 31)))]) (some 32) false <|
    .ef 18 none (.st 14 (.tmp 9) (.tmp 32)) none [] (
    .done) .none) .none) .none) .none) .none)
noncomputable def F.osierref08_one.r2 : Plan :=
  .rd 0 none (.mv (.const (.slice none 0 0))) (some 10) false <|
  .done
noncomputable def F.osierref08_one.r3 : Plan :=
  .rd 0 none (.mv (.const (.int .i64 0))) (some 11) false <|
  .done
noncomputable def F.osierref08_one.r4 : Plan :=
  .rd 0 none (.mv (.tmp 11)) (some 33) false <|
  .rd 1 none (.mv (.tmp 0)) (some 34) false <|
  .rd 2 none (.len .sl (.tmp 34)) (some 35) false <|
  .rd 3 none (.bin .lss (.tmp 33) (.tmp 35)) (some 36) false <|
  .done
noncomputable def F.osierref08_one.r5 : Plan :=
  .rd 0 none (.mv (.tmp 1)) (some 39) false <|
  .rd 1 none (.mv (.tmp 0)) (some 40) false <|
  .rd 2 none (.mv (.tmp 11)) (some 41) false <|
  .rd 3 none (.idxA 14 (.tmp 40) (.tmp 41)) (some 42) false <|
  .rd 4 none (.fldA 0 (.tmp 42)) (some 43) false <|
  .rd 5 none (.ldn 2 (.tmp 43)) (some 44) false <|
  .ef 6 none (.call F.osierref04_Has [(.tmp 39), (.tmp 44)]) (some 45) [] (
  .rd 7 none (.mv (.tmp 45)) (some 12) false <|
  .done) .none
noncomputable def F.osierref08_one.r6 : Plan :=
  .rd 0 none (.mv (.tmp 12)) (some 46) false <|
  .rd 1 none (.mv (.tmp 46)) (some 47) false <|
  .rd 2 (some (47, true)) (.mv (.tmp 0)) (some 48) false <|
  .rd 3 (some (47, true)) (.mv (.tmp 11)) (some 49) false <|
  .rd 4 (some (47, true)) (.idxA 14 (.tmp 48) (.tmp 49)) (some 50) false <|
  .rd 5 (some (47, true)) (.fldA 4 (.tmp 50)) (some 51) false <|
  .rd 6 (some (47, true)) (.ld1 (.tmp 51)) (some 52) false <|
  .rd 7 (some (47, true)) (.bin .eql (.tmp 52) (.const (.int .i64 3))) (some 53) false <|
  .rd 8 none (.pick (.tmp 47) (.tmp 53) (.const (.bool false))) (some 54) false <|
  .rd 9 none (.mv (.tmp 54)) (some 55) false <|
  .rd 10 (some (55, true)) (.mv (.tmp 0)) (some 56) false <|
  .rd 11 (some (55, true)) (.mv (.tmp 11)) (some 57) false <|
  .rd 12 (some (55, true)) (.idxA 14 (.tmp 56) (.tmp 57)) (some 58) false <|
  .rd 13 (some (55, true)) (.fldA 5 (.tmp 58)) (some 59) false <|
  .rd 14 (some (55, true)) (.ldn 2 (.tmp 59)) (some 60) false <|
  .rd 15 (some (55, true)) (.mv (.tmp 0)) (some 61) false <|
  .rd 16 (some (55, true)) (.mv (.tmp 11)) (some 62) false <|
  .rd 17 (some (55, true)) (.idxA 14 (.tmp 61) (.tmp 62)) (some 63) false <|
  .rd 18 (some (55, true)) (.fldA 0 (.tmp 63)) (some 64) false <|
  .rd 19 (some (55, true)) (.ldn 2 (.tmp 64)) (some 65) false <|
  .rd 20 (some (55, true)) (.eqS [(.i .i64), (.i .i64)] true false (.tmp 60) (.tmp 65)) (some 66) false <|
  .rd 21 none (.pick (.tmp 55) (.tmp 66) (.const (.bool false))) (some 67) false <|
  .done
noncomputable def F.osierref08_one.r7 : Plan :=
  .rd 0 none (.mv (.tmp 10)) (some 68) false <|
  .rd 1 none (.mv (.tmp 0)) (some 69) false <|
  .rd 2 none (.mv (.tmp 11)) (some 70) false <|
  .rd 3 none (.idxA 14 (.tmp 69) (.tmp 70)) (some 71) false <|
  .rd 4 none (.fldA 0 (.tmp 71)) (some 72) false <|
  .rd 5 none (.ldn 2 (.tmp 72)) (some 73) false <|
  .ef 6 none (.bsl 1 [(.int .i64 0), (.int .i64 0)] [(0, (2, (.tmp 73)))]) (some 74) [] (
  .ef 7 none (.app 2 16 (.tmp 68) (.tmp 74)) (some 75) [] (
  .rd 8 none (.mv (.tmp 75)) (some 10) false <|
  .done) .none) .none
noncomputable def F.osierref08_one.r8 : Plan :=
  .rd 0 none (.mv (.tmp 11)) (some 37) false <|
  .rd 1 none (.bin .add (.tmp 37) (.const (.int .i64 1))) (some 38) false <|
  .rd 2 none (.mv (.tmp 38)) (some 11) false <|
  .done
noncomputable def F.osierref08_one.l0 : IC :=
    (.seq (.seq (.reg F.osierref08_one.r4)
    (.cond (.tmp 36) .skip (.exit 0)))
    (.seq (.block 1 (.seq (.reg F.osierref08_one.r5)
    (.seq (.reg F.osierref08_one.r6)
    (.cond (.tmp 67) (.reg F.osierref08_one.r7) .skip))))
    (.reg F.osierref08_one.r8)))
noncomputable def F.osierref08_one.r9 : Plan :=
  .rd 0 none (.mv (.tmp 10)) (some 76) false <|
  .rd 1 none (.len .sl (.tmp 76)) (some 77) false <|
  .rd 2 none (.bin .eql (.tmp 77) (.const (.int .i64 0))) (some 78) false <|
  .done
noncomputable def F.osierref08_one.r10 : Plan :=
  .rd 0 none (.fldA 4 (.tmp 9)) (some 79) false <|
  .ef 1 none (.st 1 (.tmp 79) (.const (.int .i64 3))) none [] (
  .done) .none
noncomputable def F.osierref08_one.r11 : Plan :=
  .rd 0 none (.fldA 4 (.tmp 9)) (some 80) false <|
  .rd 1 none (.ld1 (.tmp 80)) (some 81) false <|
  .rd 2 none (.bin .eql (.tmp 81) (.const (.int .i64 3))) (some 82) false <|
  .done
noncomputable def F.osierref08_one.r12 : Plan :=
  .rd 0 none (.ldn 14 (.tmp 9)) (some 83) false <|
  .rd 1 none (.mv (.tmp 10)) (some 84) false <|
  .rd 2 none (.ldn 6 (.tmp 7)) (some 85) false <|
  .ef 3 none (.call F.osierref08_moved [(.tmp 83), (.tmp 84), (.tmp 85)]) (some 86) [] (
  .ef 4 none (.st 14 (.tmp 8) (.tmp 86)) none [] (
  .done) .none) .none
noncomputable def F.osierref08_one.r13 : Plan :=
  .rd 0 none (.mv (.tmp 10)) (some 87) false <|
  .rd 1 none (.fldA 3 (.tmp 7)) (some 88) false <|
  .rd 2 none (.ld1 (.tmp 88)) (some 89) false <|
  .ef 3 none (.call F.osierref08_abs [(.tmp 89)]) (some 90) [] (
  .rd 4 none (.mv (.tmp 10)) (some 91) false <|
  .rd 5 none (.len .sl (.tmp 91)) (some 92) false <|
  .rd 6 none (.bin .rem (.tmp 90) (.tmp 92)) (some 93) false <|
  .rd 7 none (.idxA 2 (.tmp 87) (.tmp 93)) (some 94) false <|
  .rd 8 none (.ldn 2 (.tmp 94)) (some 95) false <|
  .rd 9 none (.fldA 5 (.tmp 9)) (some 96) false <|
  .ef 10 none (.st 2 (.tmp 96) (.tmp 95)) none [] (
  .done) .none) .none
noncomputable def F.osierref08_one.r14 : Plan :=
  .rd 0 none (.mv (.const (.slice none 0 0))) (some 13) false <|
  .done
noncomputable def F.osierref08_one.r15 : Plan :=
  .rd 0 none (.mv (.const (.int .i64 0))) (some 14) false <|
  .done
noncomputable def F.osierref08_one.r16 : Plan :=
  .rd 0 none (.mv (.tmp 14)) (some 97) false <|
  .rd 1 none (.mv (.tmp 0)) (some 98) false <|
  .rd 2 none (.len .sl (.tmp 98)) (some 99) false <|
  .rd 3 none (.bin .lss (.tmp 97) (.tmp 99)) (some 100) false <|
  .done
noncomputable def F.osierref08_one.r17 : Plan :=
  .rd 0 none (.mv (.tmp 1)) (some 103) false <|
  .rd 1 none (.mv (.tmp 0)) (some 104) false <|
  .rd 2 none (.mv (.tmp 14)) (some 105) false <|
  .rd 3 none (.idxA 14 (.tmp 104) (.tmp 105)) (some 106) false <|
  .rd 4 none (.fldA 0 (.tmp 106)) (some 107) false <|
  .rd 5 none (.ldn 2 (.tmp 107)) (some 108) false <|
  .ef 6 none (.call F.osierref04_Has [(.tmp 103), (.tmp 108)]) (some 109) [] (
  .rd 7 none (.mv (.tmp 109)) (some 15) false <|
  .done) .none
noncomputable def F.osierref08_one.r18 : Plan :=
  .rd 0 none (.mv (.tmp 15)) (some 110) false <|
  .rd 1 none (.mv (.tmp 110)) (some 111) false <|
  .rd 2 (some (111, true)) (.mv (.tmp 0)) (some 112) false <|
  .rd 3 (some (111, true)) (.mv (.tmp 14)) (some 113) false <|
  .rd 4 (some (111, true)) (.idxA 14 (.tmp 112) (.tmp 113)) (some 114) false <|
  .rd 5 (some (111, true)) (.fldA 4 (.tmp 114)) (some 115) false <|
  .rd 6 (some (111, true)) (.ld1 (.tmp 115)) (some 116) false <|
  .rd 7 (some (111, true)) (.bin .eql (.tmp 116) (.const (.int .i64 1))) (some 117) false <|
  .rd 8 none (.pick (.tmp 111) (.tmp 117) (.const (.bool false))) (some 118) false <|
  .rd 9 none (.mv (.tmp 118)) (some 119) false <|
  .rd 10 (some (119, true)) (.mv (.tmp 0)) (some 120) false <|
  .rd 11 (some (119, true)) (.mv (.tmp 14)) (some 121) false <|
  .rd 12 (some (119, true)) (.idxA 14 (.tmp 120) (.tmp 121)) (some 122) false <|
  .rd 13 (some (119, true)) (.fldA 5 (.tmp 122)) (some 123) false <|
  .rd 14 (some (119, true)) (.ldn 2 (.tmp 123)) (some 124) false <|
  .rd 15 (some (119, true)) (.fldA 5 (.tmp 9)) (some 125) false <|
  .rd 16 (some (119, true)) (.ldn 2 (.tmp 125)) (some 126) false <|
  .rd 17 (some (119, true)) (.eqS [(.i .i64), (.i .i64)] true false (.tmp 124) (.tmp 126)) (some 127) false <|
  .rd 18 none (.pick (.tmp 119) (.tmp 127) (.const (.bool false))) (some 128) false <|
  .done
noncomputable def F.osierref08_one.r19 : Plan :=
  .rd 0 none (.mv (.tmp 13)) (some 129) false <|
  .rd 1 none (.mv (.tmp 0)) (some 130) false <|
  .rd 2 none (.mv (.tmp 14)) (some 131) false <|
  .rd 3 none (.idxA 14 (.tmp 130) (.tmp 131)) (some 132) false <|
  .rd 4 none (.fldA 0 (.tmp 132)) (some 133) false <|
  .rd 5 none (.ldn 2 (.tmp 133)) (some 134) false <|
  .ef 6 none (.bsl 1 [(.int .i64 0), (.int .i64 0)] [(0, (2, (.tmp 134)))]) (some 135) [] (
  .ef 7 none (.app 2 16 (.tmp 129) (.tmp 135)) (some 136) [] (
  .rd 8 none (.mv (.tmp 136)) (some 13) false <|
  .done) .none) .none
noncomputable def F.osierref08_one.r20 : Plan :=
  .rd 0 none (.mv (.tmp 14)) (some 101) false <|
  .rd 1 none (.bin .add (.tmp 101) (.const (.int .i64 1))) (some 102) false <|
  .rd 2 none (.mv (.tmp 102)) (some 14) false <|
  .done
noncomputable def F.osierref08_one.l1 : IC :=
    (.seq (.seq (.reg F.osierref08_one.r16)
    (.cond (.tmp 100) .skip (.exit 2)))
    (.seq (.block 3 (.seq (.reg F.osierref08_one.r17)
    (.seq (.reg F.osierref08_one.r18)
    (.cond (.tmp 128) (.reg F.osierref08_one.r19) .skip))))
    (.reg F.osierref08_one.r20)))
noncomputable def F.osierref08_one.r21 : Plan :=
  .rd 0 none (.mv (.tmp 13)) (some 137) false <|
  .rd 1 none (.len .sl (.tmp 137)) (some 138) false <|
  .rd 2 none (.bin .eql (.tmp 138) (.const (.int .i64 0))) (some 139) false <|
  .done
noncomputable def F.osierref08_one.r22 : Plan :=
  .rd 0 none (.fldA 4 (.tmp 9)) (some 140) false <|
  .ef 1 none (.st 1 (.tmp 140) (.const (.int .i64 1))) none [] (
  .done) .none
noncomputable def F.osierref08_one.r23 : Plan :=
  .rd 0 none (.mv (.tmp 13)) (some 141) false <|
  .rd 1 none (.fldA 4 (.tmp 7)) (some 142) false <|
  .rd 2 none (.ld1 (.tmp 142)) (some 143) false <|
  .ef 3 none (.call F.osierref08_abs [(.tmp 143)]) (some 144) [] (
  .rd 4 none (.mv (.tmp 13)) (some 145) false <|
  .rd 5 none (.len .sl (.tmp 145)) (some 146) false <|
  .rd 6 none (.bin .rem (.tmp 144) (.tmp 146)) (some 147) false <|
  .rd 7 none (.idxA 2 (.tmp 141) (.tmp 147)) (some 148) false <|
  .rd 8 none (.ldn 2 (.tmp 148)) (some 149) false <|
  .rd 9 none (.fldA 7 (.tmp 9)) (some 150) false <|
  .ef 10 none (.st 2 (.tmp 150) (.tmp 149)) none [] (
  .done) .none) .none
noncomputable def F.osierref08_one.r24 : Plan :=
  .rd 0 none (.fldA 4 (.tmp 9)) (some 151) false <|
  .rd 1 none (.ld1 (.tmp 151)) (some 152) false <|
  .rd 2 none (.bin .eql (.tmp 152) (.const (.int .i64 1))) (some 153) false <|
  .done
noncomputable def F.osierref08_one.r25 : Plan :=
  .rd 0 none (.fldA 9 (.tmp 9)) (some 154) false <|
  .ef 1 none (.st 1 (.tmp 154) (.const (.int .i64 1))) none [] (
  .done) .none
noncomputable def F.osierref08_one.r26 : Plan :=
  .rd 0 none (.fldA 2 (.tmp 7)) (some 155) false <|
  .rd 1 none (.ld1 (.tmp 155)) (some 156) false <|
  .ef 2 none (.call F.osierref08_abs [(.tmp 156)]) (some 157) [] (
  .rd 3 none (.bin .rem (.tmp 157) (.const (.int .i64 26))) (some 158) false <|
  .rd 4 none (.bin .add (.const (.int .i64 97)) (.tmp 158)) (some 159) false <|
  .rd 5 none (.fldA 10 (.tmp 9)) (some 160) false <|
  .ef 6 none (.st 1 (.tmp 160) (.tmp 159)) none [] (
  .done) .none) .none
noncomputable def F.osierref08_one.r27 : Plan :=
  .rd 0 none (.fldA 7 (.tmp 9)) (some 161) false <|
  .rd 1 none (.ldn 2 (.tmp 161)) (some 162) false <|
  .rd 2 none (.build [(.int .i64 0), (.int .i64 0)] []) (some 163) false <|
  .rd 3 none (.eqS [(.i .i64), (.i .i64)] true true (.tmp 162) (.tmp 163)) (some 164) false <|
  .done
noncomputable def F.osierref08_one.r28 : Plan :=
  .rd 0 none (.fldA 1 (.tmp 7)) (some 165) false <|
  .rd 1 none (.ld1 (.tmp 165)) (some 166) false <|
  .ef 2 none (.call F.osierref08_abs [(.tmp 166)]) (some 167) [] (
  .rd 3 none (.bin .rem (.tmp 167) (.const (.int .i64 2))) (some 168) false <|
  .rd 4 none (.fldA 9 (.tmp 9)) (some 169) false <|
  .ef 5 none (.st 1 (.tmp 169) (.tmp 168)) none [] (
  .done) .none) .none
noncomputable def F.osierref08_one.r29 : Plan :=
  .rd 0 none (.fldA 4 (.tmp 7)) (some 170) false <|
  .rd 1 none (.ld1 (.tmp 170)) (some 171) false <|
  .ef 2 none (.call F.osierref08_abs [(.tmp 171)]) (some 172) [] (
  .rd 3 none (.bin .rem (.tmp 172) (.const (.int .i64 5))) (some 173) false <|
  .rd 4 none (.bin .eql (.tmp 173) (.const (.int .i64 0))) (some 174) false <|
  .done) .none
noncomputable def F.osierref08_one.r30 : Plan :=
  .rd 0 none (.build [(.int .i64 0), (.int .i64 0)] []) (some 175) false <|
  .rd 1 none (.fldA 7 (.tmp 9)) (some 176) false <|
  .ef 2 none (.st 2 (.tmp 176) (.tmp 175)) none [] (
  .done) .none
noncomputable def F.osierref08_one.r31 : Plan :=
  .rd 0 none (.fldA 9 (.tmp 9)) (some 177) false <|
  .ef 1 none (.st 1 (.tmp 177) (.const (.int .i64 1))) none [] (
  .done) .none
noncomputable def F.osierref08_one.r32 : Plan :=
  .rd 0 none (.ldn 14 (.tmp 9)) (some 178) false <|
  .ef 1 none (.st 14 (.tmp 8) (.tmp 178)) none [] (
  .done) .none
noncomputable def F.osierref08_one.ic : IC :=
    (.seq (.reg F.osierref08_one.r0)
    (.seq (.reg F.osierref08_one.r1)
    (.seq (.reg F.osierref08_one.r2)
    (.seq (.seq (.reg F.osierref08_one.r3)
    (.block 0 (.loop F.osierref08_one.l0)))
    (.seq (.seq (.reg F.osierref08_one.r9)
    (.cond (.tmp 78) (.reg F.osierref08_one.r10) .skip))
    (.seq (.seq (.reg F.osierref08_one.r11)
    (.cond (.tmp 82) (.seq (.reg F.osierref08_one.r12)
    .ret) .skip))
    (.seq (.reg F.osierref08_one.r13)
    (.seq (.reg F.osierref08_one.r14)
    (.seq (.seq (.reg F.osierref08_one.r15)
    (.block 2 (.loop F.osierref08_one.l1)))
    (.seq (.seq (.reg F.osierref08_one.r21)
    (.cond (.tmp 139) (.reg F.osierref08_one.r22) (.reg F.osierref08_one.r23)))
    (.seq (.seq (.reg F.osierref08_one.r24)
    (.cond (.tmp 153) (.seq (.reg F.osierref08_one.r25)
    (.seq (.reg F.osierref08_one.r26)
    (.seq (.seq (.reg F.osierref08_one.r27)
    (.cond (.tmp 164) (.reg F.osierref08_one.r28) .skip))
    (.seq (.reg F.osierref08_one.r29)
    (.cond (.tmp 174) (.seq (.reg F.osierref08_one.r30)
    (.reg F.osierref08_one.r31)) .skip))))) .skip))
    (.seq (.reg F.osierref08_one.r32)
    .ret))))))))))))
noncomputable def F.osierref08_one.rs : List RO := [(.ldn 14 (.tmp 8))]
theorem F.osierref08_one.ok : cFunc Go.Proofs.Tryz.prog F.osierref08_one = some (179, F.osierref08_one.ic, F.osierref08_one.rs) := by kernel_rfl
theorem F.osierref08_one.cl : callable Go.Proofs.Tryz.prog F.osierref08_one = true := by kernel_rfl
noncomputable def F.osierref08_Latest.r0 : Plan :=
  .rd 0 none (.mv (.const (.int .i64 0))) (some 4) false <|
  .done
noncomputable def F.osierref08_Latest.r1 : Plan :=
  .rd 0 none (.mv (.const (.int .i64 0))) (some 5) false <|
  .done
noncomputable def F.osierref08_Latest.r2 : Plan :=
  .rd 0 none (.mv (.const (.int .i64 0))) (some 6) false <|
  .done
noncomputable def F.osierref08_Latest.r3 : Plan :=
  .rd 0 none (.mv (.tmp 6)) (some 8) false <|
  .rd 1 none (.mv (.tmp 0)) (some 9) false <|
  .rd 2 none (.len .sl (.tmp 9)) (some 10) false <|
  .rd 3 none (.bin .lss (.tmp 8) (.tmp 10)) (some 11) false <|
  .done
noncomputable def F.osierref08_Latest.r4 : Plan :=
  .rd 0 none (.mv (.tmp 1)) (some 14) false <|
  .rd 1 none (.mv (.tmp 0)) (some 15) false <|
  .rd 2 none (.mv (.tmp 6)) (some 16) false <|
  .rd 3 none (.idxA 14 (.tmp 15) (.tmp 16)) (some 17) false <|
  .rd 4 none (.fldA 0 (.tmp 17)) (some 18) false <|
  .rd 5 none (.ldn 2 (.tmp 18)) (some 19) false <|
  .ef 6 none (.call F.osierref04_Has [(.tmp 14), (.tmp 19)]) (some 20) [] (
  .rd 7 none (.mv (.tmp 20)) (some 7) false <|
  .done) .none
noncomputable def F.osierref08_Latest.r5 : Plan :=
  .rd 0 none (.mv (.tmp 7)) (some 21) false <|
  .rd 1 none (.mv (.tmp 21)) (some 22) false <|
  .rd 2 (some (22, true)) (.mv (.tmp 0)) (some 23) false <|
  .rd 3 (some (22, true)) (.mv (.tmp 6)) (some 24) false <|
  .rd 4 (some (22, true)) (.idxA 14 (.tmp 23) (.tmp 24)) (some 25) false <|
  .rd 5 (some (22, true)) (.fldA 2 (.tmp 25)) (some 26) false <|
  .rd 6 (some (22, true)) (.ld1 (.tmp 26)) (some 27) false <|
  .rd 7 (some (22, true)) (.mv (.tmp 5)) (some 28) false <|
  .rd 8 (some (22, true)) (.bin .gtr (.tmp 27) (.tmp 28)) (some 29) false <|
  .rd 9 none (.pick (.tmp 22) (.tmp 29) (.const (.bool false))) (some 30) false <|
  .done
noncomputable def F.osierref08_Latest.r6 : Plan :=
  .rd 0 none (.mv (.tmp 0)) (some 31) false <|
  .rd 1 none (.mv (.tmp 6)) (some 32) false <|
  .rd 2 none (.idxA 14 (.tmp 31) (.tmp 32)) (some 33) false <|
  .rd 3 none (.fldA 2 (.tmp 33)) (some 34) false <|
  .rd 4 none (.ld1 (.tmp 34)) (some 35) false <|
  .rd 5 none (.mv (.tmp 35)) (some 5) false <|
  .done
noncomputable def F.osierref08_Latest.r7 : Plan :=
  .rd 0 none (.mv (.tmp 6)) (some 12) false <|
  .rd 1 none (.bin .add (.tmp 12) (.const (.int .i64 1))) (some 13) false <|
  .rd 2 none (.mv (.tmp 13)) (some 6) false <|
  .done
noncomputable def F.osierref08_Latest.l0 : IC :=
    (.seq (.seq (.reg F.osierref08_Latest.r3)
    (.cond (.tmp 11) .skip (.exit 0)))
    (.seq (.block 1 (.seq (.reg F.osierref08_Latest.r4)
    (.seq (.reg F.osierref08_Latest.r5)
    (.cond (.tmp 30) (.reg F.osierref08_Latest.r6) .skip))))
    (.reg F.osierref08_Latest.r7)))
noncomputable def F.osierref08_Latest.r8 : Plan :=
  .rd 0 none (.mv (.tmp 5)) (some 36) false <|
  .rd 1 none (.mv (.tmp 36)) (some 4) false <|
  .done
noncomputable def F.osierref08_Latest.ic : IC :=
    (.seq (.reg F.osierref08_Latest.r0)
    (.seq (.reg F.osierref08_Latest.r1)
    (.seq (.seq (.reg F.osierref08_Latest.r2)
    (.block 0 (.loop F.osierref08_Latest.l0)))
    (.seq (.reg F.osierref08_Latest.r8)
    .ret))))
noncomputable def F.osierref08_Latest.rs : List RO := [(.mv (.tmp 4))]
theorem F.osierref08_Latest.ok : cFunc Go.Proofs.Tryz.prog F.osierref08_Latest = some (37, F.osierref08_Latest.ic, F.osierref08_Latest.rs) := by kernel_rfl
theorem F.osierref08_Latest.cl : callable Go.Proofs.Tryz.prog F.osierref08_Latest = true := by kernel_rfl
noncomputable def F.osierref08_moved.r0 : Plan :=
  .ef 0 none (.box (.tmp 0)) (some 3) [] (
  .ef 1 none (.box (.tmp 2)) (some 5) [] (
  .ef 2 none (.alloc [(.int .i64 0), (.int .i64 0), (.int .i64 0), (.slice none 0 0), (.int .i64 0), (.int .i64 0), (.int .i64 0), (.int .i64 0), (.int .i64 0), (.int .i64 0), (.int .i64 0), (.int .i64 0), (.int .i64 0), (.string ⟨#[]⟩)]) (some 6) [] (
  .done) .none) .none) .none
noncomputable def F.osierref08_moved.r1 : Plan :=
  .rd 0 none (.fldA 5 (.tmp 5)) (some 9) false <|
  .rd 1 none (.ld1 (.tmp 9)) (some 10) false <|
  .rd 2 none (.fldA 13 (.tmp 3)) (some 11) false <|
  .ef 3 none (.st 1 (.tmp 11) (.tmp 10)) none [] (
  .done) .none
noncomputable def F.osierref08_moved.r2 : Plan :=
  .rd 0 none (.build [(.int .i64 0), (.int .i64 0)] [(0, (1, (.const (.int .i64 0)))), (1, (1, (.const (.int .i64 (-1)))))]) (some 12) false <|
  .rd 1 none (.build [(.int .i64 0), (.int .i64 0)] [(0, (1, (.const (.int .i64 0)))), (1, (1, (.const (.int .i64 (-2)))))]) (some 13) false <|
  .ef 2 none (.bsl 2 [(.int .i64 0), (.int .i64 0), (.int .i64 0), (.int .i64 0)] [(0, (2, (.tmp 12))), (2, (2, (.tmp 13)))]) (some 14) [] (
  .rd 3 none (.mv (.tmp 14)) (some 7) false <|
  .done) .none
noncomputable def F.osierref08_moved.r3 : Plan :=
  .rd 0 none (.mv (.tmp 7)) (some 15) false <|
  .rd 1 none (.mv (.tmp 1)) (some 16) false <|
  .ef 2 none (.app 2 16 (.tmp 15) (.tmp 16)) (some 17) [] (
  .rd 3 none (.mv (.tmp 17)) (some 7) false <|
  .done) .none
noncomputable def F.osierref08_moved.r4 : Plan :=
  .rd 0 none (.fldA 0 (.tmp 3)) (some 18) false <|
  .rd 1 none (.ldn 2 (.tmp 18)) (some 19) false <|
  .rd 2 none (.fldA 5 (.tmp 3)) (some 20) false <|
  .ef 3 none (.st 2 (.tmp 20) (.tmp 19)) none [] (
  .done) .none
noncomputable def F.osierref08_moved.r5 : Plan :=
  .rd 0 none (.mv (.tmp 1)) (some 21) false <|
  .rd 1 none (.len .sl (.tmp 21)) (some 22) false <|
  .rd 2 none (.bin .gtr (.tmp 22) (.const (.int .i64 0))) (some 23) false <|
  .rd 3 none (.mv (.tmp 23)) (some 24) false <|
  .rd 4 (some (24, true)) (.fldA 3 (.tmp 5)) (some 25) false <|
  .rd 5 (some (24, true)) (.ld1 (.tmp 25)) (some 26) false <|
  .ef 6 (some (24, true)) (.call F.osierref08_abs [(.tmp 26)]) (some 27) [] (
  .rd 7 (some (24, true)) (.bin .rem (.tmp 27) (.const (.int .i64 3))) (some 28) false <|
  .rd 8 (some (24, true)) (.bin .gtr (.tmp 28) (.const (.int .i64 0))) (some 29) false <|
  .rd 9 none (.pick (.tmp 24) (.tmp 29) (.const (.bool false))) (some 30) false <|
  .done) .none
noncomputable def F.osierref08_moved.r6 : Plan :=
  .rd 0 none (.mv (.tmp 1)) (some 31) false <|
  .rd 1 none (.fldA 3 (.tmp 5)) (some 32) false <|
  .rd 2 none (.ld1 (.tmp 32)) (some 33) false <|
  .ef 3 none (.call F.osierref08_abs [(.tmp 33)]) (some 34) [] (
  .rd 4 none (.mv (.tmp 1)) (some 35) false <|
  .rd 5 none (.len .sl (.tmp 35)) (some 36) false <|
  .rd 6 none (.bin .rem (.tmp 34) (.tmp 36)) (some 37) false <|
  .rd 7 none (.idxA 2 (.tmp 31) (.tmp 37)) (some 38) false <|
  .rd 8 none (.ldn 2 (.tmp 38)) (some 39) false <|
  .rd 9 none (.fldA 5 (.tmp 3)) (some 40) false <|
  .ef 10 none (.st 2 (.tmp 40) (.tmp 39)) none [] (
  .done) .none) .none
noncomputable def F.osierref08_moved.r7 : Plan :=
  .rd 0 none (.fldA 4 (.tmp 5)) (some 41) false <|
  .rd 1 none (.ld1 (.tmp 41)) (some 42) false <|
  .ef 2 none (.call F.osierref08_abs [(.tmp 42)]) (some 43) [] (
  .rd 3 none (.mv (.tmp 7)) (some 44) false <|
  .rd 4 none (.len .sl (.tmp 44)) (some 45) false <|
  .rd 5 none (.bin .add (.tmp 45) (.const (.int .i64 2))) (some 46) false <|
  .rd 6 none (.bin .rem (.tmp 43) (.tmp 46)) (some 47) false <|
  .rd 7 none (.mv (.tmp 47)) (some 8) false <|
  .done) .none
noncomputable def F.osierref08_moved.r8 : Plan :=
  .rd 0 none (.mv (.tmp 8)) (some 48) false <|
  .rd 1 none (.mv (.tmp 7)) (some 49) false <|
  .rd 2 none (.len .sl (.tmp 49)) (some 50) false <|
  .rd 3 none (.bin .geq (.tmp 48) (.tmp 50)) (some 51) false <|
  .done
noncomputable def F.osierref08_moved.r9 : Plan :=
  .rd 0 none (.mv (.const (.int .i64 0))) (some 8) false <|
  .done
noncomputable def F.osierref08_moved.r10 : Plan :=
  .rd 0 none (.mv (.tmp 7)) (some 52) false <|
  .rd 1 none (.mv (.tmp 8)) (some 53) false <|
  .rd 2 none (.idxA 2 (.tmp 52) (.tmp 53)) (some 54) false <|
  .rd 3 none (.ldn 2 (.tmp 54)) (some 55) false <|
  .rd 4 none (.fldA 11 (.tmp 3)) (some 56) false <|
  .ef 5 none (.st 2 (.tmp 56) (.tmp 55)) none [] (
  .done) .none
noncomputable def F.osierref08_moved.r11 : Plan :=
  .rd 0 none (.ldn 14 (.tmp 3)) (some 57) false <|
  .ef 1 none (.st 14 (.tmp 6) (.tmp 57)) none [] (
  .done) .none
noncomputable def F.osierref08_moved.ic : IC :=
    (.seq (.reg F.osierref08_moved.r0)
    (.seq (.reg F.osierref08_moved.r1)
    (.seq (.reg F.osierref08_moved.r2)
    (.seq (.reg F.osierref08_moved.r3)
    (.seq (.reg F.osierref08_moved.r4)
    (.seq (.seq (.reg F.osierref08_moved.r5)
    (.cond (.tmp 30) (.reg F.osierref08_moved.r6) .skip))
    (.seq (.reg F.osierref08_moved.r7)
    (.seq (.seq (.reg F.osierref08_moved.r8)
    (.cond (.tmp 51) (.reg F.osierref08_moved.r9) .skip))
    (.seq (.reg F.osierref08_moved.r10)
    (.seq (.reg F.osierref08_moved.r11)
    .ret))))))))))
noncomputable def F.osierref08_moved.rs : List RO := [(.ldn 14 (.tmp 6))]
theorem F.osierref08_moved.ok : cFunc Go.Proofs.Tryz.prog F.osierref08_moved = some (58, F.osierref08_moved.ic, F.osierref08_moved.rs) := by kernel_rfl
theorem F.osierref08_moved.cl : callable Go.Proofs.Tryz.prog F.osierref08_moved = true := by kernel_rfl
attribute [go_sem] F.osierlaw08_CausalEdges.r0 F.osierlaw08_CausalEdges.r1 F.osierlaw08_CausalEdges.r2 F.osierlaw08_CausalEdges.r3 F.osierlaw08_CausalEdges.r4 F.osierlaw08_CausalEdges.r5 F.osierlaw08_CausalEdges.r6 F.osierlaw08_CausalEdges.r7 F.osierlaw08_CausalEdges.r8 F.osierlaw08_CausalEdges.r9 F.osierlaw08_CausalEdges.r10 F.osierlaw08_CausalEdges.r11 F.osierlaw08_CausalEdges.r12 F.osierlaw08_CausalEdges.r13 F.osierlaw08_CausalEdges.r14 F.osierlaw08_CausalEdges.r15 F.osierlaw08_CausalEdges.r16 F.osierlaw08_CausalEdges.r17 F.osierlaw08_CausalEdges.r18 F.osierlaw08_CausalEdges.r19 F.osierlaw08_CausalEdges.r20 F.osierlaw08_CausalEdges.ic F.osierlaw08_CausalEdges.rs
attribute [go_sem] F.osierlaw08_CausalTurned.r0 F.osierlaw08_CausalTurned.r1 F.osierlaw08_CausalTurned.r2 F.osierlaw08_CausalTurned.r3 F.osierlaw08_CausalTurned.r4 F.osierlaw08_CausalTurned.r5 F.osierlaw08_CausalTurned.r6 F.osierlaw08_CausalTurned.r7 F.osierlaw08_CausalTurned.r8 F.osierlaw08_CausalTurned.r9 F.osierlaw08_CausalTurned.r10 F.osierlaw08_CausalTurned.r11 F.osierlaw08_CausalTurned.r12 F.osierlaw08_CausalTurned.r13 F.osierlaw08_CausalTurned.r14 F.osierlaw08_CausalTurned.r15 F.osierlaw08_CausalTurned.r16 F.osierlaw08_CausalTurned.r17 F.osierlaw08_CausalTurned.r18 F.osierlaw08_CausalTurned.ic F.osierlaw08_CausalTurned.rs
attribute [go_sem] F.osierref03_In.r0 F.osierref03_In.r1 F.osierref03_In.r2 F.osierref03_In.r3 F.osierref03_In.r4 F.osierref03_In.r5 F.osierref03_In.r6 F.osierref03_In.ic F.osierref03_In.rs
attribute [go_sem] F.osierref08_Latest.r0 F.osierref08_Latest.r1 F.osierref08_Latest.r2 F.osierref08_Latest.r3 F.osierref08_Latest.r4 F.osierref08_Latest.r5 F.osierref08_Latest.r6 F.osierref08_Latest.r7 F.osierref08_Latest.r8 F.osierref08_Latest.ic F.osierref08_Latest.rs
attribute [go_sem] F.osierref08_Story.r0 F.osierref08_Story.r1 F.osierref08_Story.r2 F.osierref08_Story.r3 F.osierref08_Story.r4 F.osierref08_Story.r5 F.osierref08_Story.r6 F.osierref08_Story.r7 F.osierref08_Story.r8 F.osierref08_Story.r9 F.osierref08_Story.r10 F.osierref08_Story.r11 F.osierref08_Story.r12 F.osierref08_Story.r13 F.osierref08_Story.r14 F.osierref08_Story.r15 F.osierref08_Story.r16 F.osierref08_Story.r17 F.osierref08_Story.r18 F.osierref08_Story.r19 F.osierref08_Story.ic F.osierref08_Story.rs
attribute [go_sem] F.osierref08_abs.r0 F.osierref08_abs.r1 F.osierref08_abs.r2 F.osierref08_abs.r3 F.osierref08_abs.ic F.osierref08_abs.rs
attribute [go_sem] F.osierref08_moved.r0 F.osierref08_moved.r1 F.osierref08_moved.r2 F.osierref08_moved.r3 F.osierref08_moved.r4 F.osierref08_moved.r5 F.osierref08_moved.r6 F.osierref08_moved.r7 F.osierref08_moved.r8 F.osierref08_moved.r9 F.osierref08_moved.r10 F.osierref08_moved.r11 F.osierref08_moved.ic F.osierref08_moved.rs
attribute [go_sem] F.osierref08_one.r0 F.osierref08_one.r1 F.osierref08_one.r2 F.osierref08_one.r3 F.osierref08_one.r4 F.osierref08_one.r5 F.osierref08_one.r6 F.osierref08_one.r7 F.osierref08_one.r8 F.osierref08_one.r9 F.osierref08_one.r10 F.osierref08_one.r11 F.osierref08_one.r12 F.osierref08_one.r13 F.osierref08_one.r14 F.osierref08_one.r15 F.osierref08_one.r16 F.osierref08_one.r17 F.osierref08_one.r18 F.osierref08_one.r19 F.osierref08_one.r20 F.osierref08_one.r21 F.osierref08_one.r22 F.osierref08_one.r23 F.osierref08_one.r24 F.osierref08_one.r25 F.osierref08_one.r26 F.osierref08_one.r27 F.osierref08_one.r28 F.osierref08_one.r29 F.osierref08_one.r30 F.osierref08_one.r31 F.osierref08_one.r32 F.osierref08_one.ic F.osierref08_one.rs
end Go.Osj
