/- The compiled code of functions (printed by a program, checked by the kernel). -/
import Derived.Test.YtfadbihdmohdiaaDoorC0
import Derived.Test.YtfadbihdmohdiaaDoorOsjN
set_option linter.unusedSimpArgs false
set_option linter.unusedVariables false
set_option maxRecDepth 100000
namespace Go.Osj
noncomputable def F.osierlaw08_CausalBehind.r0 : Plan :=
  .rd 0 none (.mv (.const (.bool false))) (some 2) false <|
  .done
noncomputable def F.osierlaw08_CausalBehind.r1 : Plan :=
  .ef 0 none (.call F.osierlaw08_awake []) (some 12) [] (
  .rd 1 none (.mv (.tmp 12)) (some 3) false <|
  .done) .none
noncomputable def F.osierlaw08_CausalBehind.r2 : Plan :=
  .rd 0 none (.mv (.tmp 3)) (some 13) false <|
  .rd 1 none (.un .not (.tmp 13)) (some 14) false <|
  .done
noncomputable def F.osierlaw08_CausalBehind.r3 : Plan :=
  .rd 0 none (.mv (.const (.bool false))) (some 2) false <|
  .done
noncomputable def F.osierlaw08_CausalBehind.r4 : Plan :=
  .rd 0 none (.mv (.tmp 0)) (some 15) false <|
  .ef 1 none (.call F.osierlaw08_small [(.tmp 15)]) (some 16) [] (
  .rd 2 none (.mv (.tmp 16)) (some 4) false <|
  .done) .none
noncomputable def F.osierlaw08_CausalBehind.r5 : Plan :=
  .rd 0 none (.mv (.tmp 4)) (some 17) false <|
  .rd 1 none (.un .not (.tmp 17)) (some 18) false <|
  .done
noncomputable def F.osierlaw08_CausalBehind.r6 : Plan :=
  .rd 0 none (.mv (.const (.bool true))) (some 2) false <|
  .done
noncomputable def F.osierlaw08_CausalBehind.r7 : Plan :=
  .rd 0 none (.mv (.tmp 0)) (some 20) false <|
  .ef 1 none (.call F.causal_Order [(.tmp 20)]) (some 21) [] (
  .rd 2 none (.mv (.tmp 21)) (some 19) false <|
  .rd 3 none (.ext 0 (.tmp 19)) (some 22) false <|
  .rd 4 none (.ext 1 (.tmp 19)) (some 23) false <|
  .rd 5 none (.mv (.tmp 22)) (some 5) false <|
  .rd 6 none (.mv (.tmp 23)) (some 6) false <|
  .done) .none
noncomputable def F.osierlaw08_CausalBehind.r8 : Plan :=
  .rd 0 none (.mv (.tmp 0)) (some 24) false <|
  .ef 1 none (.call F.causal_Right [(.tmp 24)]) (some 25) [] (
  .rd 2 none (.mv (.tmp 25)) (some 7) false <|
  .done) .none
noncomputable def F.osierlaw08_CausalBehind.r9 : Plan :=
  .rd 0 none (.mv (.const (.int .i64 0))) (some 8) false <|
  .done
noncomputable def F.osierlaw08_CausalBehind.r10 : Plan :=
  .rd 0 none (.mv (.tmp 8)) (some 26) false <|
  .rd 1 none (.mv (.tmp 5)) (some 27) false <|
  .rd 2 none (.len .sl (.tmp 27)) (some 28) false <|
  .rd 3 none (.bin .lss (.tmp 26) (.tmp 28)) (some 29) false <|
  .done
noncomputable def F.osierlaw08_CausalBehind.r11 : Plan :=
  .rd 0 none (.mv (.const (.int .i64 0))) (some 9) false <|
  .done
noncomputable def F.osierlaw08_CausalBehind.r12 : Plan :=
  .rd 0 none (.mv (.tmp 9)) (some 32) false <|
  .rd 1 none (.mv (.tmp 8)) (some 33) false <|
  .rd 2 none (.bin .lss (.tmp 32) (.tmp 33)) (some 34) false <|
  .done
noncomputable def F.osierlaw08_CausalBehind.r13 : Plan :=
  .rd 0 none (.mv (.tmp 5)) (some 37) false <|
  .rd 1 none (.mv (.tmp 8)) (some 38) false <|
  .rd 2 none (.idxA 14 (.tmp 37) (.tmp 38)) (some 39) false <|
  .rd 3 none (.ldn 14 (.tmp 39)) (some 40) false <|
  .rd 4 none (.mv (.tmp 5)) (some 41) false <|
  .rd 5 none (.mv (.tmp 9)) (some 42) false <|
  .rd 6 none (.idxA 14 (.tmp 41) (.tmp 42)) (some 43) false <|
  .rd 7 none (.ldn 14 (.tmp 43)) (some 44) false <|
  .ef 8 none (.call F.causal_Ahead [(.tmp 40), (.tmp 44)]) (some 45) [] (
  .rd 9 none (.mv (.tmp 45)) (some 46) false <|
  .rd 10 (some (46, false)) (.mv (.tmp 5)) (some 47) false <|
  .rd 11 (some (46, false)) (.mv (.tmp 8)) (some 48) false <|
  .rd 12 (some (46, false)) (.idxA 14 (.tmp 47) (.tmp 48)) (some 49) false <|
  .rd 13 (some (46, false)) (.fldA 0 (.tmp 49)) (some 50) false <|
  .rd 14 (some (46, false)) (.ldn 2 (.tmp 50)) (some 51) false <|
  .rd 15 (some (46, false)) (.mv (.tmp 5)) (some 52) false <|
  .rd 16 (some (46, false)) (.mv (.tmp 9)) (some 53) false <|
  .rd 17 (some (46, false)) (.idxA 14 (.tmp 52) (.tmp 53)) (some 54) false <|
  .rd 18 (some (46, false)) (.fldA 0 (.tmp 54)) (some 55) false <|
  .rd 19 (some (46, false)) (.ldn 2 (.tmp 55)) (some 56) false <|
  .rd 20 (some (46, false)) (.eqS [(.i .i64), (.i .i64)] true false (.tmp 51) (.tmp 56)) (some 57) false <|
  .rd 21 none (.pick (.tmp 46) (.const (.bool true)) (.tmp 57)) (some 58) false <|
  .done) .none
noncomputable def F.osierlaw08_CausalBehind.r14 : Plan :=
  .rd 0 none (.mv (.const (.bool false))) (some 2) false <|
  .done
noncomputable def F.osierlaw08_CausalBehind.r15 : Plan :=
  .rd 0 none (.mv (.tmp 7)) (some 59) false <|
  .rd 1 none (.mv (.tmp 59)) (some 60) false <|
  .rd 2 (some (60, true)) (.mv (.tmp 5)) (some 61) false <|
  .rd 3 (some (60, true)) (.mv (.tmp 8)) (some 62) false <|
  .rd 4 (some (60, true)) (.idxA 14 (.tmp 61) (.tmp 62)) (some 63) false <|
  .rd 5 (some (60, true)) (.fldA 2 (.tmp 63)) (some 64) false <|
  .rd 6 (some (60, true)) (.ld1 (.tmp 64)) (some 65) false <|
  .rd 7 (some (60, true)) (.mv (.tmp 5)) (some 66) false <|
  .rd 8 (some (60, true)) (.mv (.tmp 9)) (some 67) false <|
  .rd 9 (some (60, true)) (.idxA 14 (.tmp 66) (.tmp 67)) (some 68) false <|
  .rd 10 (some (60, true)) (.fldA 2 (.tmp 68)) (some 69) false <|
  .rd 11 (some (60, true)) (.ld1 (.tmp 69)) (some 70) false <|
  .rd 12 (some (60, true)) (.bin .lss (.tmp 65) (.tmp 70)) (some 71) false <|
  .rd 13 none (.pick (.tmp 60) (.tmp 71) (.const (.bool false))) (some 72) false <|
  .done
noncomputable def F.osierlaw08_CausalBehind.r16 : Plan :=
  .rd 0 none (.mv (.const (.bool false))) (some 2) false <|
  .done
noncomputable def F.osierlaw08_CausalBehind.r17 : Plan :=
  .rd 0 none (.mv (.tmp 9)) (some 35) false <|
  .rd 1 none (.bin .add (.tmp 35) (.const (.int .i64 1))) (some 36) false <|
  .rd 2 none (.mv (.tmp 36)) (some 9) false <|
  .done
noncomputable def F.osierlaw08_CausalBehind.l0 : IC :=
    (.seq (.seq (.reg F.osierlaw08_CausalBehind.r12)
    (.cond (.tmp 34) .skip (.exit 2)))
    (.seq (.block 3 (.seq (.seq (.reg F.osierlaw08_CausalBehind.r13)
    (.cond (.tmp 58) (.seq (.reg F.osierlaw08_CausalBehind.r14)
    .ret) .skip))
    (.seq (.reg F.osierlaw08_CausalBehind.r15)
    (.cond (.tmp 72) (.seq (.reg F.osierlaw08_CausalBehind.r16)
    .ret) .skip))))
    (.reg F.osierlaw08_CausalBehind.r17)))
noncomputable def F.osierlaw08_CausalBehind.r18 : Plan :=
  .rd 0 none (.mv (.tmp 8)) (some 30) false <|
  .rd 1 none (.bin .add (.tmp 30) (.const (.int .i64 1))) (some 31) false <|
  .rd 2 none (.mv (.tmp 31)) (some 8) false <|
  .done
noncomputable def F.osierlaw08_CausalBehind.l1 : IC :=
    (.seq (.seq (.reg F.osierlaw08_CausalBehind.r10)
    (.cond (.tmp 29) .skip (.exit 0)))
    (.seq (.block 1 (.seq (.reg F.osierlaw08_CausalBehind.r11)
    (.block 2 (.loop F.osierlaw08_CausalBehind.l0))))
    (.reg F.osierlaw08_CausalBehind.r18)))
noncomputable def F.osierlaw08_CausalBehind.r19 : Plan :=
  .rd 0 none (.mv (.tmp 5)) (some 73) false <|
  .ef 1 none (.call F.causal_Version [(.tmp 73)]) (some 74) [] (
  .rd 2 none (.mv (.tmp 74)) (some 10) false <|
  .done) .none
noncomputable def F.osierlaw08_CausalBehind.r20 : Plan :=
  .rd 0 none (.mv (.const (.int .i64 0))) (some 11) false <|
  .done
noncomputable def F.osierlaw08_CausalBehind.r21 : Plan :=
  .rd 0 none (.mv (.tmp 11)) (some 75) false <|
  .rd 1 none (.mv (.tmp 6)) (some 76) false <|
  .rd 2 none (.len .sl (.tmp 76)) (some 77) false <|
  .rd 3 none (.bin .lss (.tmp 75) (.tmp 77)) (some 78) false <|
  .done
noncomputable def F.osierlaw08_CausalBehind.r22 : Plan :=
  .rd 0 none (.mv (.tmp 10)) (some 81) false <|
  .rd 1 none (.mv (.tmp 6)) (some 82) false <|
  .rd 2 none (.mv (.tmp 11)) (some 83) false <|
  .rd 3 none (.idxA 14 (.tmp 82) (.tmp 83)) (some 84) false <|
  .rd 4 none (.ldn 14 (.tmp 84)) (some 85) false <|
  .ef 5 none (.call F.causal_Ready [(.tmp 81), (.tmp 85)]) (some 86) [] (
  .rd 6 none (.bin .neq (.tmp 86) (.const (.int .i64 31))) (some 87) false <|
  .done) .none
noncomputable def F.osierlaw08_CausalBehind.r23 : Plan :=
  .rd 0 none (.mv (.const (.bool false))) (some 2) false <|
  .done
noncomputable def F.osierlaw08_CausalBehind.r24 : Plan :=
  .rd 0 none (.mv (.tmp 11)) (some 79) false <|
  .rd 1 none (.bin .add (.tmp 79) (.const (.int .i64 1))) (some 80) false <|
  .rd 2 none (.mv (.tmp 80)) (some 11) false <|
  .done
noncomputable def F.osierlaw08_CausalBehind.l2 : IC :=
    (.seq (.seq (.reg F.osierlaw08_CausalBehind.r21)
    (.cond (.tmp 78) .skip (.exit 4)))
    (.seq (.block 5 (.seq (.reg F.osierlaw08_CausalBehind.r22)
    (.cond (.tmp 87) (.seq (.reg F.osierlaw08_CausalBehind.r23)
    .ret) .skip)))
    (.reg F.osierlaw08_CausalBehind.r24)))
noncomputable def F.osierlaw08_CausalBehind.r25 : Plan :=
  .rd 0 none (.mv (.const (.bool true))) (some 2) false <|
  .done
noncomputable def F.osierlaw08_CausalBehind.ic : IC :=
    (.seq (.reg F.osierlaw08_CausalBehind.r0)
    (.seq (.reg F.osierlaw08_CausalBehind.r1)
    (.seq (.seq (.reg F.osierlaw08_CausalBehind.r2)
    (.cond (.tmp 14) (.seq (.reg F.osierlaw08_CausalBehind.r3)
    .ret) .skip))
    (.seq (.reg F.osierlaw08_CausalBehind.r4)
    (.seq (.seq (.reg F.osierlaw08_CausalBehind.r5)
    (.cond (.tmp 18) (.seq (.reg F.osierlaw08_CausalBehind.r6)
    .ret) .skip))
    (.seq (.reg F.osierlaw08_CausalBehind.r7)
    (.seq (.reg F.osierlaw08_CausalBehind.r8)
    (.seq (.seq (.reg F.osierlaw08_CausalBehind.r9)
    (.block 0 (.loop F.osierlaw08_CausalBehind.l1)))
    (.seq (.reg F.osierlaw08_CausalBehind.r19)
    (.seq (.seq (.reg F.osierlaw08_CausalBehind.r20)
    (.block 4 (.loop F.osierlaw08_CausalBehind.l2)))
    (.seq (.reg F.osierlaw08_CausalBehind.r25)
    .ret)))))))))))
noncomputable def F.osierlaw08_CausalBehind.rs : List RO := [(.mv (.tmp 2))]
theorem F.osierlaw08_CausalBehind.ok : cFunc Go.Proofs.Tryd.prog F.osierlaw08_CausalBehind = some (88, F.osierlaw08_CausalBehind.ic, F.osierlaw08_CausalBehind.rs) := by kernel_rfl
theorem F.osierlaw08_CausalBehind.cl : callable Go.Proofs.Tryd.prog F.osierlaw08_CausalBehind = true := by kernel_rfl
noncomputable def F.osierlaw08_awake.r0 : Plan :=
  .rd 0 none (.mv (.const (.bool false))) (some 0) false <|
  .done
noncomputable def F.osierlaw08_awake.r1 : Plan :=
  .rd 0 none (.build [(.int .i64 0), (.int .i64 0)] [(0, (1, (.const (.int .i64 1)))), (1, (1, (.const (.int .i64 1))))]) (some 9) false <|
  .ef 1 none (.alloc [(.int .i64 0), (.int .i64 0)]) (some 1) [] (
  .ef 2 none (.st 2 (.tmp 1) (.tmp 9)) none [] (
  .done) .none) .none
noncomputable def F.osierlaw08_awake.r2 : Plan :=
  .rd 0 none (.ldn 2 (.tmp 1)) (some 10) true <|
  .rd 1 none (.ldn 2 (.tmp 1)) (some 11) true <|
  .ef 2 none (.call F.api_Root []) (some 12) [0, 1] (
  .rd 3 none (.build [(.int .i64 0), (.int .i64 0), (.int .i64 0), (.slice none 0 0), (.int .i64 0), (.int .i64 0), (.int .i64 0), (.int .i64 0), (.int .i64 0), (.int .i64 0), (.int .i64 0), (.int .i64 0), (.int .i64 0), (.string ⟨#[]⟩)] [(0, (2, (.tmp 10))), (2, (1, (.const (.int .i64 1)))), (4, (1, (.const (.int .i64 3)))), (5, (2, (.tmp 11))), (11, (2, (.tmp 12))), (13, (1, (.const (.string ⟨#[110]⟩))))]) (some 13) false <|
  .ef 4 none (.alloc [(.int .i64 0), (.int .i64 0), (.int .i64 0), (.slice none 0 0), (.int .i64 0), (.int .i64 0), (.int .i64 0), (.int .i64 0), (.int .i64 0), (.int .i64 0), (.int .i64 0), (.int .i64 0), (.int .i64 0), (.string ⟨#[]⟩)]) (some 2) [0, 1, 3] (
  .ef 5 none (.st 14 (.tmp 2) (.tmp 13)) none [] (
  .done) .none) .none) (
    .ef 4 none (.alloc [(.int .i64 0), (.int .i64 0), (.int .i64 0), (.slice none 0 0), (.int .i64 0), (.int .i64 0), (.int .i64 0), (.int .i64 0), (.int .i64 0), (.int .i64 0), (.int .i64 0), (.int .i64 0), (.int .i64 0), (.string ⟨#[]⟩)]) (some 2) [0, 1] (
    .ef 2 none (.call F.api_Root []) (some 12) [0, 1] (
    .rd 3 none (.build [(.int .i64 0), (.int .i64 0), (.int .i64 0), (.slice none 0 0), (.int .i64 0), (.int .i64 0), (.int .i64 0), (.int .i64 0), (.int .i64 0), (.int .i64 0), (.int .i64 0), (.int .i64 0), (.int .i64 0), (.string ⟨#[]⟩)] [(0, (2, (.tmp 10))), (2, (1, (.const (.int .i64 1)))), (4, (1, (.const (.int .i64 3)))), (5, (2, (.tmp 11))), (11, (2, (.tmp 12))), (13, (1, (.const (.string ⟨#[110]⟩))))]) (some 13) false <|
    .ef 5 none (.st 14 (.tmp 2) (.tmp 13)) none [] (
    .done) .none) .none) .none)
noncomputable def F.osierlaw08_awake.r3 : Plan :=
  .rd 0 none (.build [(.int .i64 0), (.int .i64 0)] [(0, (1, (.const (.int .i64 1)))), (1, (1, (.const (.int .i64 2))))]) (some 14) false <|
  .rd 1 none (.ldn 2 (.tmp 1)) (some 15) true <|
  .rd 3 none (.ldn 2 (.tmp 1)) (some 17) true <|
  .ef 2 none (.bsl 1 [(.int .i64 0), (.int .i64 0)] [(0, (2, (.tmp 15)))]) (some 16) [0, 3] (
  .ef 4 none (.call F.api_Trash []) (some 18) [0, 1, 3] (
  .rd 5 none (.build [(.int .i64 0), (.int .i64 0), (.int .i64 0), (.slice none 0 0), (.int .i64 0), (.int .i64 0), (.int .i64 0), (.int .i64 0), (.int .i64 0), (.int .i64 0), (.int .i64 0), (.int .i64 0), (.int .i64 0), (.string ⟨#[]⟩)] [(0, (2, (.tmp 14))), (2, (1, (.const (.int .i64 2)))), (3, (1, (.tmp 16))), (4, (1, (.const (.int .i64 3)))), (5, (2, (.tmp 17))), (11, (2, (.tmp 18))), (13, (1, (.const (.string ⟨#[110]⟩))))]) (some 19) false <|
  .ef 6 none (.alloc [(.int .i64 0), (.int .i64 0), (.int .i64 0), (.slice none 0 0), (.int .i64 0), (.int .i64 0), (.int .i64 0), (.int .i64 0), (.int .i64 0), (.int .i64 0), (.int .i64 0), (.int .i64 0), (.int .i64 0), (.string ⟨#[]⟩)]) (some 3) [0, 1, 3, 5] (
  .ef 7 none (.st 14 (.tmp 3) (.tmp 19)) none [] (
  .done) .none) .none) (
    .ef 6 none (.alloc [(.int .i64 0), (.int .i64 0), (.int .i64 0), (.slice none 0 0), (.int .i64 0), (.int .i64 0), (.int .i64 0), (.int .i64 0), (.int .i64 0), (.int .i64 0), (.int .i64 0), (.int .i64 0), (.int .i64 0), (.string ⟨#[]⟩)]) (some 3) [0, 1, 3] (
    .ef 4 none (.call F.api_Trash []) (some 18) [0, 1, 3] (
    .rd 5 none (.build [(.int .i64 0), (.int .i64 0), (.int .i64 0), (.slice none 0 0), (.int .i64 0), (.int .i64 0), (.int .i64 0), (.int .i64 0), (.int .i64 0), (.int .i64 0), (.int .i64 0), (.int .i64 0), (.int .i64 0), (.string ⟨#[]⟩)] [(0, (2, (.tmp 14))), (2, (1, (.const (.int .i64 2)))), (3, (1, (.tmp 16))), (4, (1, (.const (.int .i64 3)))), (5, (2, (.tmp 17))), (11, (2, (.tmp 18))), (13, (1, (.const (.string ⟨#[110]⟩))))]) (some 19) false <|
    .ef 7 none (.st 14 (.tmp 3) (.tmp 19)) none [] (
    .done) .none) .none) .none)) (
    .ef 4 none (.call F.api_Trash []) (some 18) [0, 1, 3] (
    .ef 2 none (.bsl 1 [(.int .i64 0), (.int .i64 0)] [(0, (2, (.tmp 15)))]) (some 16) [0, 3] (
    .rd 5 none (.build [(.int .i64 0), (.int .i64 0), (.int .i64 0), (.slice none 0 0), (.int .i64 0), (.int .i64 0), (.int .i64 0), (.int .i64 0), (.int .i64 0), (.int .i64 0), (.int .i64 0), (.int .i64 0), (.int .i64 0), (.string ⟨#[]⟩)] [(0, (2, (.tmp 14))), (2, (1, (.const (.int .i64 2)))), (3, (1, (.tmp 16))), (4, (1, (.const (.int .i64 3)))), (5, (2, (.tmp 17))), (11, (2, (.tmp 18))), (13, (1, (.const (.string ⟨#[110]⟩))))]) (some 19) false <|
    .ef 6 none (.alloc [(.int .i64 0), (.int .i64 0), (.int .i64 0), (.slice none 0 0), (.int .i64 0), (.int .i64 0), (.int .i64 0), (.int .i64 0), (.int .i64 0), (.int .i64 0), (.int .i64 0), (.int .i64 0), (.int .i64 0), (.string ⟨#[]⟩)]) (some 3) [0, 1, 3, 5] (
    .ef 7 none (.st 14 (.tmp 3) (.tmp 19)) none [] (
    .done) .none) .none) (
      .ef 6 none (.alloc [(.int .i64 0), (.int .i64 0), (.int .i64 0), (.slice none 0 0), (.int .i64 0), (.int .i64 0), (.int .i64 0), (.int .i64 0), (.int .i64 0), (.int .i64 0), (.int .i64 0), (.int .i64 0), (.int .i64 0), (.string ⟨#[]⟩)]) (some 3) [0, 1, 3] (
      .ef 2 none (.bsl 1 [(.int .i64 0), (.int .i64 0)] [(0, (2, (.tmp 15)))]) (some 16) [0, 3] (
      .rd 5 none (.build [(.int .i64 0), (.int .i64 0), (.int .i64 0), (.slice none 0 0), (.int .i64 0), (.int .i64 0), (.int .i64 0), (.int .i64 0), (.int .i64 0), (.int .i64 0), (.int .i64 0), (.int .i64 0), (.int .i64 0), (.string ⟨#[]⟩)] [(0, (2, (.tmp 14))), (2, (1, (.const (.int .i64 2)))), (3, (1, (.tmp 16))), (4, (1, (.const (.int .i64 3)))), (5, (2, (.tmp 17))), (11, (2, (.tmp 18))), (13, (1, (.const (.string ⟨#[110]⟩))))]) (some 19) false <|
      .ef 7 none (.st 14 (.tmp 3) (.tmp 19)) none [] (
      .done) .none) .none) .none)) (
      .ef 6 none (.alloc [(.int .i64 0), (.int .i64 0), (.int .i64 0), (.slice none 0 0), (.int .i64 0), (.int .i64 0), (.int .i64 0), (.int .i64 0), (.int .i64 0), (.int .i64 0), (.int .i64 0), (.int .i64 0), (.int .i64 0), (.string ⟨#[]⟩)]) (some 3) [0, 1, 3] (
      .ef 2 none (.bsl 1 [(.int .i64 0), (.int .i64 0)] [(0, (2, (.tmp 15)))]) (some 16) [0, 3] (
      .ef 4 none (.call F.api_Trash []) (some 18) [0, 1, 3] (
      .rd 5 none (.build [(.int .i64 0), (.int .i64 0), (.int .i64 0), (.slice none 0 0), (.int .i64 0), (.int .i64 0), (.int .i64 0), (.int .i64 0), (.int .i64 0), (.int .i64 0), (.int .i64 0), (.int .i64 0), (.int .i64 0), (.string ⟨#[]⟩)] [(0, (2, (.tmp 14))), (2, (1, (.const (.int .i64 2)))), (3, (1, (.tmp 16))), (4, (1, (.const (.int .i64 3)))), (5, (2, (.tmp 17))), (11, (2, (.tmp 18))), (13, (1, (.const (.string ⟨#[110]⟩))))]) (some 19) false <|
      .ef 7 none (.st 14 (.tmp 3) (.tmp 19)) none [] (
      .done) .none) .none) (
        .ef 4 none (.call F.api_Trash []) (some 18) [0, 1, 3] (
        .ef 2 none (.bsl 1 [(.int .i64 0), (.int .i64 0)] [(0, (2, (.tmp 15)))]) (some 16) [0, 3] (
        .rd 5 none (.build [(.int .i64 0), (.int .i64 0), (.int .i64 0), (.slice none 0 0), (.int .i64 0), (.int .i64 0), (.int .i64 0), (.int .i64 0), (.int .i64 0), (.int .i64 0), (.int .i64 0), (.int .i64 0), (.int .i64 0), (.string ⟨#[]⟩)] [(0, (2, (.tmp 14))), (2, (1, (.const (.int .i64 2)))), (3, (1, (.tmp 16))), (4, (1, (.const (.int .i64 3)))), (5, (2, (.tmp 17))), (11, (2, (.tmp 18))), (13, (1, (.const (.string ⟨#[110]⟩))))]) (some 19) false <|
        .ef 7 none (.st 14 (.tmp 3) (.tmp 19)) none [] (
        .done) .none) .none) .none)) .none))
noncomputable def F.osierlaw08_awake.r4 : Plan :=
  .rd 0 none (.ldn 14 (.tmp 3)) (some 21) false <|
  .rd 1 none (.ldn 14 (.tmp 2)) (some 22) false <|
  .ef 2 none (.bsl 2 [(.int .i64 0), (.int .i64 0), (.int .i64 0), (.slice none 0 0), (.int .i64 0), (.int .i64 0), (.int .i64 0), (.int .i64 0), (.int .i64 0), (.int .i64 0), (.int .i64 0), (.int .i64 0), (.int .i64 0), (.string ⟨#[]⟩), (.int .i64 0), (.int .i64 0), (.int .i64 0), (.slice none 0 0), (.int .i64 0), (.int .i64 0), (.int .i64 0), (.int .i64 0), (.int .i64 0), (.int .i64 0), (.int .i64 0), (.int .i64 0), (.int .i64 0), (.string ⟨#[]⟩)] [(0, (14, (.tmp 21))), (14, (14, (.tmp 22)))]) (some 23) [] (
  .ef 3 none (.call F.causal_Order [(.tmp 23)]) (some 24) [] (
  .rd 4 none (.mv (.tmp 24)) (some 20) false <|
  .rd 5 none (.ext 0 (.tmp 20)) (some 25) false <|
  .rd 6 none (.ext 1 (.tmp 20)) (some 26) false <|
  .rd 7 none (.mv (.tmp 25)) (some 4) false <|
  .rd 8 none (.mv (.tmp 26)) (some 5) false <|
  .done) .none) .none
noncomputable def F.osierlaw08_awake.r5 : Plan :=
  .rd 0 none (.ldn 14 (.tmp 3)) (some 28) false <|
  .ef 1 none (.bsl 1 [(.int .i64 0), (.int .i64 0), (.int .i64 0), (.slice none 0 0), (.int .i64 0), (.int .i64 0), (.int .i64 0), (.int .i64 0), (.int .i64 0), (.int .i64 0), (.int .i64 0), (.int .i64 0), (.int .i64 0), (.string ⟨#[]⟩)] [(0, (14, (.tmp 28)))]) (some 29) [] (
  .ef 2 none (.call F.causal_Order [(.tmp 29)]) (some 30) [] (
  .rd 3 none (.mv (.tmp 30)) (some 27) false <|
  .rd 4 none (.ext 0 (.tmp 27)) (some 31) false <|
  .rd 5 none (.ext 1 (.tmp 27)) (some 32) false <|
  .rd 6 none (.mv (.tmp 31)) (some 6) false <|
  .rd 7 none (.mv (.tmp 32)) (some 7) false <|
  .done) .none) .none
noncomputable def F.osierlaw08_awake.r6 : Plan :=
  .rd 0 none (.ldn 14 (.tmp 2)) (some 33) false <|
  .rd 1 none (.ldn 14 (.tmp 3)) (some 34) false <|
  .ef 2 none (.bsl 2 [(.int .i64 0), (.int .i64 0), (.int .i64 0), (.slice none 0 0), (.int .i64 0), (.int .i64 0), (.int .i64 0), (.int .i64 0), (.int .i64 0), (.int .i64 0), (.int .i64 0), (.int .i64 0), (.int .i64 0), (.string ⟨#[]⟩), (.int .i64 0), (.int .i64 0), (.int .i64 0), (.slice none 0 0), (.int .i64 0), (.int .i64 0), (.int .i64 0), (.int .i64 0), (.int .i64 0), (.int .i64 0), (.int .i64 0), (.int .i64 0), (.int .i64 0), (.string ⟨#[]⟩)] [(0, (14, (.tmp 33))), (14, (14, (.tmp 34)))]) (some 35) [] (
  .ef 3 none (.call F.causal_Frontier [(.tmp 35)]) (some 36) [] (
  .rd 4 none (.mv (.tmp 36)) (some 8) false <|
  .done) .none) .none
noncomputable def F.osierlaw08_awake.r7 : Plan :=
  .rd 0 none (.mv (.tmp 4)) (some 37) false <|
  .rd 1 none (.len .sl (.tmp 37)) (some 38) false <|
  .rd 2 none (.bin .eql (.tmp 38) (.const (.int .i64 2))) (some 39) false <|
  .rd 3 none (.mv (.tmp 39)) (some 40) false <|
  .rd 4 (some (40, true)) (.mv (.tmp 4)) (some 41) false <|
  .rd 5 (some (40, true)) (.idxA 14 (.tmp 41) (.const (.int .i64 0))) (some 42) false <|
  .rd 6 (some (40, true)) (.fldA 0 (.tmp 42)) (some 43) false <|
  .rd 7 (some (40, true)) (.ldn 2 (.tmp 43)) (some 44) false <|
  .rd 8 (some (40, true)) (.ldn 2 (.tmp 1)) (some 45) false <|
  .rd 9 (some (40, true)) (.eqS [(.i .i64), (.i .i64)] true false (.tmp 44) (.tmp 45)) (some 46) false <|
  .rd 10 none (.pick (.tmp 40) (.tmp 46) (.const (.bool false))) (some 47) false <|
  .rd 11 none (.mv (.tmp 47)) (some 48) false <|
  .rd 12 (some (48, true)) (.mv (.tmp 5)) (some 49) false <|
  .rd 13 (some (48, true)) (.len .sl (.tmp 49)) (some 50) false <|
  .rd 14 (some (48, true)) (.bin .eql (.tmp 50) (.const (.int .i64 0))) (some 51) false <|
  .rd 15 none (.pick (.tmp 48) (.tmp 51) (.const (.bool false))) (some 52) false <|
  .rd 16 none (.mv (.tmp 52)) (some 53) false <|
  .rd 17 (some (53, true)) (.mv (.tmp 6)) (some 54) false <|
  .rd 18 (some (53, true)) (.len .sl (.tmp 54)) (some 55) false <|
  .rd 19 (some (53, true)) (.bin .eql (.tmp 55) (.const (.int .i64 0))) (some 56) false <|
  .rd 20 none (.pick (.tmp 53) (.tmp 56) (.const (.bool false))) (some 57) false <|
  .rd 21 none (.mv (.tmp 57)) (some 58) false <|
  .rd 22 (some (58, true)) (.mv (.tmp 7)) (some 59) false <|
  .rd 23 (some (58, true)) (.len .sl (.tmp 59)) (some 60) false <|
  .rd 24 (some (58, true)) (.bin .eql (.tmp 60) (.const (.int .i64 1))) (some 61) false <|
  .rd 25 none (.pick (.tmp 58) (.tmp 61) (.const (.bool false))) (some 62) false <|
  .rd 26 none (.mv (.tmp 62)) (some 63) false <|
  .rd 27 (some (63, true)) (.mv (.tmp 8)) (some 64) false <|
  .rd 28 (some (63, true)) (.len .sl (.tmp 64)) (some 65) false <|
  .rd 29 (some (63, true)) (.bin .eql (.tmp 65) (.const (.int .i64 1))) (some 66) false <|
  .rd 30 none (.pick (.tmp 63) (.tmp 66) (.const (.bool false))) (some 67) false <|
  .rd 31 none (.mv (.tmp 67)) (some 68) false <|
  .rd 32 (some (68, true)) (.mv (.tmp 8)) (some 69) false <|
  .rd 33 (some (68, true)) (.idxA 2 (.tmp 69) (.const (.int .i64 0))) (some 70) false <|
  .rd 34 (some (68, true)) (.fldA 1 (.tmp 70)) (some 71) false <|
  .rd 35 (some (68, true)) (.ld1 (.tmp 71)) (some 72) false <|
  .rd 36 (some (68, true)) (.bin .eql (.tmp 72) (.const (.int .i64 2))) (some 73) false <|
  .rd 37 none (.pick (.tmp 68) (.tmp 73) (.const (.bool false))) (some 74) false <|
  .rd 38 none (.mv (.tmp 74)) (some 75) false <|
  .rd 39 (some (75, true)) (.ldn 14 (.tmp 2)) (some 76) false <|
  .rd 40 (some (75, true)) (.ldn 14 (.tmp 3)) (some 77) false <|
  .ef 41 (some (75, true)) (.call F.causal_Ahead [(.tmp 76), (.tmp 77)]) (some 78) [] (
  .rd 42 none (.pick (.tmp 75) (.tmp 78) (.const (.bool false))) (some 79) false <|
  .rd 43 none (.mv (.tmp 79)) (some 80) false <|
  .rd 44 (some (80, true)) (.mv (.tmp 4)) (some 81) false <|
  .ef 45 (some (80, true)) (.call F.causal_Right [(.tmp 81)]) (some 82) [] (
  .rd 46 none (.pick (.tmp 80) (.tmp 82) (.const (.bool false))) (some 83) false <|
  .rd 47 none (.mv (.tmp 83)) (some 84) false <|
  .rd 48 (some (84, true)) (.ldn 14 (.tmp 3)) (some 85) false <|
  .ef 49 (some (84, true)) (.call F.causal_Ready [(.const (.slice none 0 0)), (.tmp 85)]) (some 86) [] (
  .rd 50 (some (84, true)) (.bin .eql (.tmp 86) (.const (.int .i64 31))) (some 87) false <|
  .rd 51 none (.pick (.tmp 84) (.tmp 87) (.const (.bool false))) (some 88) false <|
  .rd 52 none (.mv (.tmp 88)) (some 0) false <|
  .done) .none) .none) .none
noncomputable def F.osierlaw08_awake.ic : IC :=
    (.seq (.reg F.osierlaw08_awake.r0)
    (.seq (.reg F.osierlaw08_awake.r1)
    (.seq (.reg F.osierlaw08_awake.r2)
    (.seq (.reg F.osierlaw08_awake.r3)
    (.seq (.reg F.osierlaw08_awake.r4)
    (.seq (.reg F.osierlaw08_awake.r5)
    (.seq (.reg F.osierlaw08_awake.r6)
    (.seq (.reg F.osierlaw08_awake.r7)
    .ret))))))))
noncomputable def F.osierlaw08_awake.rs : List RO := [(.mv (.tmp 0))]
theorem F.osierlaw08_awake.ok : cFunc Go.Proofs.Tryd.prog F.osierlaw08_awake = some (89, F.osierlaw08_awake.ic, F.osierlaw08_awake.rs) := by kernel_rfl
theorem F.osierlaw08_awake.cl : callable Go.Proofs.Tryd.prog F.osierlaw08_awake = true := by kernel_rfl
noncomputable def F.osierlaw08_small.r0 : Plan :=
  .rd 0 none (.mv (.const (.bool false))) (some 2) false <|
  .done
noncomputable def F.osierlaw08_small.r1 : Plan :=
  .rd 0 none (.mv (.const (.int .i64 0))) (some 3) false <|
  .done
noncomputable def F.osierlaw08_small.r2 : Plan :=
  .rd 0 none (.mv (.tmp 3)) (some 4) false <|
  .rd 1 none (.mv (.tmp 0)) (some 5) false <|
  .rd 2 none (.len .sl (.tmp 5)) (some 6) false <|
  .rd 3 none (.bin .lss (.tmp 4) (.tmp 6)) (some 7) false <|
  .done
noncomputable def F.osierlaw08_small.r3 : Plan :=
  .rd 0 none (.mv (.tmp 0)) (some 10) false <|
  .rd 1 none (.mv (.tmp 3)) (some 11) false <|
  .rd 2 none (.idxA 14 (.tmp 10) (.tmp 11)) (some 12) false <|
  .rd 3 none (.fldA 3 (.tmp 12)) (some 13) false <|
  .rd 4 none (.ld1 (.tmp 13)) (some 14) false <|
  .rd 5 none (.len .sl (.tmp 14)) (some 15) false <|
  .rd 6 none (.bin .gtr (.tmp 15) (.const (.int .i64 50))) (some 16) false <|
  .done
noncomputable def F.osierlaw08_small.r4 : Plan :=
  .rd 0 none (.mv (.const (.bool false))) (some 2) false <|
  .done
noncomputable def F.osierlaw08_small.r5 : Plan :=
  .rd 0 none (.mv (.tmp 3)) (some 8) false <|
  .rd 1 none (.bin .add (.tmp 8) (.const (.int .i64 1))) (some 9) false <|
  .rd 2 none (.mv (.tmp 9)) (some 3) false <|
  .done
noncomputable def F.osierlaw08_small.l0 : IC :=
    (.seq (.seq (.reg F.osierlaw08_small.r2)
    (.cond (.tmp 7) .skip (.exit 0)))
    (.seq (.block 1 (.seq (.reg F.osierlaw08_small.r3)
    (.cond (.tmp 16) (.seq (.reg F.osierlaw08_small.r4)
    .ret) .skip)))
    (.reg F.osierlaw08_small.r5)))
noncomputable def F.osierlaw08_small.r6 : Plan :=
  .rd 0 none (.mv (.tmp 0)) (some 17) false <|
  .rd 1 none (.len .sl (.tmp 17)) (some 18) false <|
  .rd 2 none (.bin .leq (.tmp 18) (.const (.int .i64 100))) (some 19) false <|
  .rd 3 none (.mv (.tmp 19)) (some 2) false <|
  .done
noncomputable def F.osierlaw08_small.ic : IC :=
    (.seq (.reg F.osierlaw08_small.r0)
    (.seq (.seq (.reg F.osierlaw08_small.r1)
    (.block 0 (.loop F.osierlaw08_small.l0)))
    (.seq (.reg F.osierlaw08_small.r6)
    .ret)))
noncomputable def F.osierlaw08_small.rs : List RO := [(.mv (.tmp 2))]
theorem F.osierlaw08_small.ok : cFunc Go.Proofs.Tryd.prog F.osierlaw08_small = some (20, F.osierlaw08_small.ic, F.osierlaw08_small.rs) := by kernel_rfl
theorem F.osierlaw08_small.cl : callable Go.Proofs.Tryd.prog F.osierlaw08_small = true := by kernel_rfl
noncomputable def F.causal_Order.r0 : Plan :=
  .rd 0 none (.mv (.const (.slice none 0 0))) (some 2) false <|
  .rd 1 none (.mv (.const (.slice none 0 0))) (some 3) false <|
  .done
noncomputable def F.causal_Order.r1 : Plan :=
  .rd 0 none (.mv (.tmp 0)) (some 9) false <|
  .ef 1 none (.call F.causal_counted [(.tmp 9)]) (some 10) [] (
  .rd 2 none (.mv (.tmp 10)) (some 4) false <|
  .done) .none
noncomputable def F.causal_Order.r2 : Plan :=
  .ef 0 none (.bsl 0 [] []) (some 11) [] (
  .rd 1 none (.mv (.tmp 11)) (some 5) false <|
  .done) .none
noncomputable def F.causal_Order.r3 : Plan :=
  .ef 0 none (.bsl 0 [] []) (some 12) [] (
  .rd 1 none (.mv (.tmp 12)) (some 6) false <|
  .done) .none
noncomputable def F.causal_Order.r4 : Plan :=
  .rd 0 none (.mv (.tmp 4)) (some 13) false <|
  .rd 1 none (.len .sl (.tmp 13)) (some 14) false <|
  .rd 2 none (.mv (.const (.int .i64 0))) (some 15) false <|
  .done
noncomputable def F.causal_Order.r5 : Plan :=
  .rd 0 none (.bin .lss (.tmp 15) (.tmp 14)) (some 16) false <|
  .done
noncomputable def F.causal_Order.r6 : Plan :=
  .rd 0 none (.mv (.tmp 15)) (some 17) false <|
  .rd 1 none (.idxA 14 (.tmp 13) (.tmp 15)) (some 18) false <|
  .rd 2 none (.ldn 14 (.tmp 18)) (some 19) false <|
  .ef 3 none (.alloc [(.int .i64 0), (.int .i64 0), (.int .i64 0), (.slice none 0 0), (.int .i64 0), (.int .i64 0), (.int .i64 0), (.int .i64 0), (.int .i64 0), (.int .i64 0), (.int .i64 0), (.int .i64 0), (.int .i64 0), (.string ⟨#[]⟩)]) (some 8) [] (
  .rd 4 none (.mv (.tmp 17)) (some 7) false <|
  .ef 5 none (.st 14 (.tmp 8) (.tmp 19)) none [] (
  .done) .none) .none
noncomputable def F.causal_Order.r7 : Plan :=
  .rd 0 none (.mv (.tmp 6)) (some 20) false <|
  .rd 1 none (.ldn 14 (.tmp 8)) (some 21) false <|
  .ef 2 none (.call F.causal_Ready [(.tmp 20), (.tmp 21)]) (some 22) [] (
  .rd 3 none (.bin .eql (.tmp 22) (.const (.int .i64 0))) (some 23) false <|
  .done) .none
noncomputable def F.causal_Order.r8 : Plan :=
  .rd 0 none (.mv (.tmp 5)) (some 24) false <|
  .rd 1 none (.ldn 14 (.tmp 8)) (some 25) false <|
  .rd 4 none (.mv (.tmp 6)) (some 28) false <|
  .rd 5 none (.fldA 0 (.tmp 8)) (some 29) false <|
  .rd 6 none (.ldn 2 (.tmp 29)) (some 30) true <|
  .ef 2 none (.bsl 1 [(.int .i64 0), (.int .i64 0), (.int .i64 0), (.slice none 0 0), (.int .i64 0), (.int .i64 0), (.int .i64 0), (.int .i64 0), (.int .i64 0), (.int .i64 0), (.int .i64 0), (.int .i64 0), (.int .i64 0), (.string ⟨#[]⟩)] [(0, (14, (.tmp 25)))]) (some 26) [0, 4, 5, 6] (
  .ef 3 none (.app 14 136 (.tmp 24) (.tmp 26)) (some 27) [4, 5, 6] (
  .ef 7 none (.call F.vector_With [(.tmp 28), (.tmp 30)]) (some 31) [] (
  .rd 8 none (.mv (.tmp 27)) (some 5) false <|
  .rd 9 none (.mv (.tmp 31)) (some 6) false <|
  .done) .none) .none) .none
noncomputable def F.causal_Order.r9 : Plan :=
  .rd 0 none (.mv (.tmp 4)) (some 32) false <|
  .rd 1 none (.mv (.tmp 7)) (some 33) false <|
  .rd 2 none (.mv (.tmp 7)) (some 34) false <|
  .rd 3 none (.bin .add (.tmp 34) (.const (.int .i64 1))) (some 35) false <|
  .ef 4 none (.call F.slices_Delete_s_api_Op_api_Op [(.tmp 32), (.tmp 33), (.tmp 35)]) (some 36) [] (
  .rd 5 none (.mv (.tmp 36)) (some 4) false <|
  .done) .none
noncomputable def F.causal_Order.r10 : Plan :=
  .rd 0 none (.bin .add (.tmp 15) (.const (.int .i64 1))) (some 37) false <|
  .rd 1 none (.mv (.tmp 37)) (some 15) false <|
  .done
noncomputable def F.causal_Order.l0 : IC :=
    (.seq (.reg F.causal_Order.r5)
    (.seq (.cond (.tmp 16) .skip (.exit 2))
    (.seq (.block 3 (.seq (.reg F.causal_Order.r6)
    (.seq (.reg F.causal_Order.r7)
    (.cond (.tmp 23) (.seq (.reg F.causal_Order.r8)
    (.seq (.reg F.causal_Order.r9)
    (.exit 1))) .skip))))
    (.reg F.causal_Order.r10))))
noncomputable def F.causal_Order.r11 : Plan :=
  .rd 0 none (.mv (.tmp 5)) (some 38) false <|
  .rd 1 none (.mv (.tmp 4)) (some 39) false <|
  .rd 2 none (.mv (.tmp 38)) (some 2) false <|
  .rd 3 none (.mv (.tmp 39)) (some 3) false <|
  .done
noncomputable def F.causal_Order.l1 : IC :=
    (.block 1 (.seq (.seq (.reg F.causal_Order.r4)
    (.block 2 (.loop F.causal_Order.l0)))
    (.seq (.reg F.causal_Order.r11)
    .ret)))
noncomputable def F.causal_Order.ic : IC :=
    (.seq (.reg F.causal_Order.r0)
    (.seq (.reg F.causal_Order.r1)
    (.seq (.reg F.causal_Order.r2)
    (.seq (.reg F.causal_Order.r3)
    (.seq .skip
    (.block 0 (.loop F.causal_Order.l1)))))))
noncomputable def F.causal_Order.rs : List RO := [(.mv (.tmp 2)), (.mv (.tmp 3))]
theorem F.causal_Order.ok : cFunc Go.Proofs.Tryd.prog F.causal_Order = some (40, F.causal_Order.ic, F.causal_Order.rs) := by kernel_rfl
theorem F.causal_Order.cl : callable Go.Proofs.Tryd.prog F.causal_Order = true := by kernel_rfl
noncomputable def F.causal_Right.r0 : Plan :=
  .rd 0 none (.mv (.const (.bool false))) (some 2) false <|
  .done
noncomputable def F.causal_Right.r1 : Plan :=
  .rd 0 none (.mv (.tmp 0)) (some 8) false <|
  .ef 1 none (.call F.causal_Order [(.tmp 8)]) (some 9) [] (
  .rd 2 none (.mv (.tmp 9)) (some 7) false <|
  .rd 3 none (.ext 0 (.tmp 7)) (some 10) false <|
  .rd 4 none (.ext 1 (.tmp 7)) (some 11) false <|
  .rd 5 none (.mv (.tmp 10)) (some 3) false <|
  .rd 6 none (.mv (.tmp 11)) (some 4) false <|
  .done) .none
noncomputable def F.causal_Right.r2 : Plan :=
  .rd 0 none (.mv (.tmp 3)) (some 12) false <|
  .rd 1 none (.len .sl (.tmp 12)) (some 13) false <|
  .rd 2 none (.mv (.tmp 0)) (some 14) false <|
  .rd 3 none (.len .sl (.tmp 14)) (some 15) false <|
  .rd 4 none (.bin .neq (.tmp 13) (.tmp 15)) (some 16) false <|
  .done
noncomputable def F.causal_Right.r3 : Plan :=
  .rd 0 none (.mv (.const (.bool false))) (some 2) false <|
  .done
noncomputable def F.causal_Right.r4 : Plan :=
  .rd 0 none (.mv (.tmp 3)) (some 17) false <|
  .rd 1 none (.len .sl (.tmp 17)) (some 18) false <|
  .rd 2 none (.mv (.const (.int .i64 0))) (some 19) false <|
  .done
noncomputable def F.causal_Right.r5 : Plan :=
  .rd 0 none (.bin .lss (.tmp 19) (.tmp 18)) (some 20) false <|
  .done
noncomputable def F.causal_Right.r6 : Plan :=
  .rd 0 none (.idxA 14 (.tmp 17) (.tmp 19)) (some 21) false <|
  .rd 1 none (.ldn 14 (.tmp 21)) (some 22) false <|
  .ef 2 none (.alloc [(.int .i64 0), (.int .i64 0), (.int .i64 0), (.slice none 0 0), (.int .i64 0), (.int .i64 0), (.int .i64 0), (.int .i64 0), (.int .i64 0), (.int .i64 0), (.int .i64 0), (.int .i64 0), (.int .i64 0), (.string ⟨#[]⟩)]) (some 6) [] (
  .ef 3 none (.st 14 (.tmp 6) (.tmp 22)) none [] (
  .done) .none) .none
noncomputable def F.causal_Right.r7 : Plan :=
  .rd 0 none (.mv (.tmp 3)) (some 23) false <|
  .rd 1 none (.mkF (.func F.causal_Right_c1) [] [(.tmp 6)]) (some 24) false <|
  .ef 2 none (.call F.slices_ContainsFunc_s_api_Op_api_Op [(.tmp 23), (.tmp 24)]) (some 25) [] (
  .done) .none
noncomputable def F.causal_Right.r8 : Plan :=
  .rd 0 none (.mv (.const (.bool false))) (some 2) false <|
  .done
noncomputable def F.causal_Right.r9 : Plan :=
  .rd 0 none (.bin .add (.tmp 19) (.const (.int .i64 1))) (some 26) false <|
  .rd 1 none (.mv (.tmp 26)) (some 19) false <|
  .done
noncomputable def F.causal_Right.l0 : IC :=
    (.seq (.reg F.causal_Right.r5)
    (.seq (.cond (.tmp 20) .skip (.exit 0))
    (.seq (.block 1 (.seq (.reg F.causal_Right.r6)
    (.seq (.reg F.causal_Right.r7)
    (.cond (.tmp 25) (.seq (.reg F.causal_Right.r8)
    .ret) .skip))))
    (.reg F.causal_Right.r9))))
noncomputable def F.causal_Right.r10 : Plan :=
  .rd 0 none (.mv (.const (.bool true))) (some 2) false <|
  .done
noncomputable def F.causal_Right.ic : IC :=
    (.seq (.reg F.causal_Right.r0)
    (.seq (.reg F.causal_Right.r1)
    (.seq (.seq (.reg F.causal_Right.r2)
    (.cond (.tmp 16) (.seq (.reg F.causal_Right.r3)
    .ret) .skip))
    (.seq (.seq (.reg F.causal_Right.r4)
    (.block 0 (.loop F.causal_Right.l0)))
    (.seq (.reg F.causal_Right.r10)
    .ret)))))
noncomputable def F.causal_Right.rs : List RO := [(.mv (.tmp 2))]
theorem F.causal_Right.ok : cFunc Go.Proofs.Tryd.prog F.causal_Right = some (27, F.causal_Right.ic, F.causal_Right.rs) := by kernel_rfl
theorem F.causal_Right.cl : callable Go.Proofs.Tryd.prog F.causal_Right = true := by kernel_rfl
noncomputable def F.causal_Ahead.r0 : Plan :=
  .ef 0 none (.box (.tmp 0)) (some 2) [] (
  .ef 1 none (.box (.tmp 1)) (some 3) [] (
  .rd 2 none (.mv (.const (.bool false))) (some 4) false <|
  .done) .none) .none
noncomputable def F.causal_Ahead.r1 : Plan :=
  .rd 0 none (.fldA 3 (.tmp 3)) (some 5) false <|
  .rd 1 none (.ld1 (.tmp 5)) (some 6) false <|
  .rd 2 none (.fldA 0 (.tmp 2)) (some 7) false <|
  .rd 3 none (.ldn 2 (.tmp 7)) (some 8) false <|
  .ef 4 none (.call F.vector_Has [(.tmp 6), (.tmp 8)]) (some 9) [] (
  .rd 5 none (.mv (.tmp 9)) (some 4) false <|
  .done) .none
noncomputable def F.causal_Ahead.ic : IC :=
    (.seq (.reg F.causal_Ahead.r0)
    (.seq (.reg F.causal_Ahead.r1)
    .ret))
noncomputable def F.causal_Ahead.rs : List RO := [(.mv (.tmp 4))]
theorem F.causal_Ahead.ok : cFunc Go.Proofs.Tryd.prog F.causal_Ahead = some (10, F.causal_Ahead.ic, F.causal_Ahead.rs) := by kernel_rfl
theorem F.causal_Ahead.cl : callable Go.Proofs.Tryd.prog F.causal_Ahead = true := by kernel_rfl
noncomputable def F.causal_Version.r0 : Plan :=
  .rd 0 none (.mv (.const (.slice none 0 0))) (some 2) false <|
  .done
noncomputable def F.causal_Version.r1 : Plan :=
  .ef 0 none (.bsl 0 [] []) (some 6) [] (
  .rd 1 none (.mv (.tmp 6)) (some 3) false <|
  .done) .none
noncomputable def F.causal_Version.r2 : Plan :=
  .rd 0 none (.mv (.tmp 0)) (some 7) false <|
  .rd 1 none (.len .sl (.tmp 7)) (some 8) false <|
  .rd 2 none (.mv (.const (.int .i64 0))) (some 9) false <|
  .done
noncomputable def F.causal_Version.r3 : Plan :=
  .rd 0 none (.bin .lss (.tmp 9) (.tmp 8)) (some 10) false <|
  .done
noncomputable def F.causal_Version.r4 : Plan :=
  .rd 0 none (.idxA 14 (.tmp 7) (.tmp 9)) (some 11) false <|
  .rd 1 none (.ldn 14 (.tmp 11)) (some 12) false <|
  .ef 2 none (.alloc [(.int .i64 0), (.int .i64 0), (.int .i64 0), (.slice none 0 0), (.int .i64 0), (.int .i64 0), (.int .i64 0), (.int .i64 0), (.int .i64 0), (.int .i64 0), (.int .i64 0), (.int .i64 0), (.int .i64 0), (.string ⟨#[]⟩)]) (some 5) [] (
  .ef 3 none (.st 14 (.tmp 5) (.tmp 12)) none [] (
  .done) .none) .none
noncomputable def F.causal_Version.r5 : Plan :=
  .rd 0 none (.mv (.tmp 3)) (some 13) false <|
  .rd 1 none (.fldA 0 (.tmp 5)) (some 14) false <|
  .rd 2 none (.ldn 2 (.tmp 14)) (some 15) false <|
  .ef 3 none (.call F.vector_With [(.tmp 13), (.tmp 15)]) (some 16) [] (
  .rd 4 none (.mv (.tmp 16)) (some 3) false <|
  .done) .none
noncomputable def F.causal_Version.r6 : Plan :=
  .rd 0 none (.bin .add (.tmp 9) (.const (.int .i64 1))) (some 17) false <|
  .rd 1 none (.mv (.tmp 17)) (some 9) false <|
  .done
noncomputable def F.causal_Version.l0 : IC :=
    (.seq (.reg F.causal_Version.r3)
    (.seq (.cond (.tmp 10) .skip (.exit 0))
    (.seq (.block 1 (.seq (.reg F.causal_Version.r4)
    (.reg F.causal_Version.r5)))
    (.reg F.causal_Version.r6))))
noncomputable def F.causal_Version.r7 : Plan :=
  .rd 0 none (.mv (.tmp 3)) (some 18) false <|
  .rd 1 none (.mv (.tmp 18)) (some 2) false <|
  .done
noncomputable def F.causal_Version.ic : IC :=
    (.seq (.reg F.causal_Version.r0)
    (.seq (.reg F.causal_Version.r1)
    (.seq (.seq (.reg F.causal_Version.r2)
    (.block 0 (.loop F.causal_Version.l0)))
    (.seq (.reg F.causal_Version.r7)
    .ret))))
noncomputable def F.causal_Version.rs : List RO := [(.mv (.tmp 2))]
theorem F.causal_Version.ok : cFunc Go.Proofs.Tryd.prog F.causal_Version = some (19, F.causal_Version.ic, F.causal_Version.rs) := by kernel_rfl
theorem F.causal_Version.cl : callable Go.Proofs.Tryd.prog F.causal_Version = true := by kernel_rfl
noncomputable def F.causal_Ready.r0 : Plan :=
  .ef 0 none (.box (.tmp 1)) (some 3) [] (
  .rd 1 none (.mv (.const (.int .i64 0))) (some 4) false <|
  .done) .none
noncomputable def F.causal_Ready.r1 : Plan :=
  .rd 0 none (.ldn 14 (.tmp 3)) (some 6) false <|
  .ef 1 none (.call F.ops_Check [(.tmp 6)]) (some 7) [] (
  .rd 2 none (.un .not (.tmp 7)) (some 8) false <|
  .rd 3 none (.mv (.tmp 8)) (some 5) false <|
  .done) .none
noncomputable def F.causal_Ready.r2 : Plan :=
  .rd 0 none (.mv (.const (.int .i64 30))) (some 4) false <|
  .done
noncomputable def F.causal_Ready.r3 : Plan :=
  .rd 0 none (.mv (.tmp 0)) (some 10) false <|
  .rd 1 none (.fldA 0 (.tmp 3)) (some 11) false <|
  .rd 2 none (.ldn 2 (.tmp 11)) (some 12) false <|
  .ef 3 none (.call F.vector_Has [(.tmp 10), (.tmp 12)]) (some 13) [] (
  .rd 4 none (.mv (.tmp 13)) (some 9) false <|
  .done) .none
noncomputable def F.causal_Ready.r4 : Plan :=
  .rd 0 none (.mv (.const (.int .i64 32))) (some 4) false <|
  .done
noncomputable def F.causal_Ready.r5 : Plan :=
  .rd 0 none (.fldA 3 (.tmp 3)) (some 15) false <|
  .rd 1 none (.ld1 (.tmp 15)) (some 16) false <|
  .rd 2 none (.mv (.tmp 0)) (some 17) false <|
  .ef 3 none (.call F.vector_Below [(.tmp 16), (.tmp 17)]) (some 18) [] (
  .rd 4 none (.un .not (.tmp 18)) (some 19) false <|
  .rd 5 none (.mv (.tmp 19)) (some 14) false <|
  .done) .none
noncomputable def F.causal_Ready.r6 : Plan :=
  .rd 0 none (.mv (.const (.int .i64 31))) (some 4) false <|
  .done
noncomputable def F.causal_Ready.r7 : Plan :=
  .rd 0 none (.mv (.const (.int .i64 0))) (some 4) false <|
  .done
noncomputable def F.causal_Ready.ic : IC :=
    (.seq (.reg F.causal_Ready.r0)
    (.seq (.block 0 (.seq (.reg F.causal_Ready.r1)
    (.cond (.tmp 5) (.seq (.reg F.causal_Ready.r2)
    .ret) (.seq (.reg F.causal_Ready.r3)
    (.cond (.tmp 9) (.seq (.reg F.causal_Ready.r4)
    .ret) (.seq (.reg F.causal_Ready.r5)
    (.cond (.tmp 14) (.seq (.reg F.causal_Ready.r6)
    .ret) .skip)))))))
    (.seq (.reg F.causal_Ready.r7)
    .ret)))
noncomputable def F.causal_Ready.rs : List RO := [(.mv (.tmp 4))]
theorem F.causal_Ready.ok : cFunc Go.Proofs.Tryd.prog F.causal_Ready = some (20, F.causal_Ready.ic, F.causal_Ready.rs) := by kernel_rfl
theorem F.causal_Ready.cl : callable Go.Proofs.Tryd.prog F.causal_Ready = true := by kernel_rfl
noncomputable def F.causal_Frontier.r0 : Plan :=
  .rd 0 none (.mv (.const (.slice none 0 0))) (some 2) false <|
  .done
noncomputable def F.causal_Frontier.r1 : Plan :=
  .rd 0 none (.mv (.const (.slice none 0 0))) (some 3) false <|
  .done
noncomputable def F.causal_Frontier.r2 : Plan :=
  .rd 0 none (.mv (.tmp 0)) (some 7) false <|
  .rd 1 none (.len .sl (.tmp 7)) (some 8) false <|
  .rd 2 none (.mv (.const (.int .i64 0))) (some 9) false <|
  .done
noncomputable def F.causal_Frontier.r3 : Plan :=
  .rd 0 none (.bin .lss (.tmp 9) (.tmp 8)) (some 10) false <|
  .done
noncomputable def F.causal_Frontier.r4 : Plan :=
  .rd 0 none (.idxA 14 (.tmp 7) (.tmp 9)) (some 11) false <|
  .rd 1 none (.ldn 14 (.tmp 11)) (some 12) false <|
  .ef 2 none (.alloc [(.int .i64 0), (.int .i64 0), (.int .i64 0), (.slice none 0 0), (.int .i64 0), (.int .i64 0), (.int .i64 0), (.int .i64 0), (.int .i64 0), (.int .i64 0), (.int .i64 0), (.int .i64 0), (.int .i64 0), (.string ⟨#[]⟩)]) (some 5) [] (
  .ef 3 none (.st 14 (.tmp 5) (.tmp 12)) none [] (
  .done) .none) .none
noncomputable def F.causal_Frontier.r5 : Plan :=
  .rd 0 none (.mkF (.func F.causal_Frontier_c1) [] [(.tmp 5)]) (some 13) false <|
  .rd 1 none (.mv (.tmp 13)) (some 6) false <|
  .done
noncomputable def F.causal_Frontier.r6 : Plan :=
  .rd 0 none (.mv (.tmp 0)) (some 14) false <|
  .rd 1 none (.mv (.tmp 6)) (some 15) false <|
  .ef 2 none (.call F.slices_ContainsFunc_s_api_Op_api_Op [(.tmp 14), (.tmp 15)]) (some 16) [] (
  .rd 3 none (.un .not (.tmp 16)) (some 17) false <|
  .done) .none
noncomputable def F.causal_Frontier.r7 : Plan :=
  .rd 0 none (.mv (.tmp 3)) (some 18) false <|
  .rd 1 none (.fldA 0 (.tmp 5)) (some 19) false <|
  .rd 2 none (.ldn 2 (.tmp 19)) (some 20) false <|
  .ef 3 none (.bsl 1 [(.int .i64 0), (.int .i64 0)] [(0, (2, (.tmp 20)))]) (some 21) [] (
  .ef 4 none (.app 2 16 (.tmp 18) (.tmp 21)) (some 22) [] (
  .rd 5 none (.mv (.tmp 22)) (some 3) false <|
  .done) .none) .none
noncomputable def F.causal_Frontier.r8 : Plan :=
  .rd 0 none (.bin .add (.tmp 9) (.const (.int .i64 1))) (some 23) false <|
  .rd 1 none (.mv (.tmp 23)) (some 9) false <|
  .done
noncomputable def F.causal_Frontier.l0 : IC :=
    (.seq (.reg F.causal_Frontier.r3)
    (.seq (.cond (.tmp 10) .skip (.exit 0))
    (.seq (.block 1 (.seq (.reg F.causal_Frontier.r4)
    (.seq (.reg F.causal_Frontier.r5)
    (.seq (.reg F.causal_Frontier.r6)
    (.cond (.tmp 17) (.reg F.causal_Frontier.r7) .skip)))))
    (.reg F.causal_Frontier.r8))))
noncomputable def F.causal_Frontier.r9 : Plan :=
  .rd 0 none (.mv (.tmp 3)) (some 24) false <|
  .ef 1 none (.call F.dots_Rising [(.tmp 24)]) (some 25) [] (
  .rd 2 none (.mv (.tmp 25)) (some 2) false <|
  .done) .none
noncomputable def F.causal_Frontier.ic : IC :=
    (.seq (.reg F.causal_Frontier.r0)
    (.seq (.reg F.causal_Frontier.r1)
    (.seq (.seq (.reg F.causal_Frontier.r2)
    (.block 0 (.loop F.causal_Frontier.l0)))
    (.seq (.reg F.causal_Frontier.r9)
    .ret))))
noncomputable def F.causal_Frontier.rs : List RO := [(.mv (.tmp 2))]
theorem F.causal_Frontier.ok : cFunc Go.Proofs.Tryd.prog F.causal_Frontier = some (26, F.causal_Frontier.ic, F.causal_Frontier.rs) := by kernel_rfl
theorem F.causal_Frontier.cl : callable Go.Proofs.Tryd.prog F.causal_Frontier = true := by kernel_rfl
noncomputable def F.vector_With.r0 : Plan :=
  .ef 0 none (.box (.tmp 1)) (some 3) [] (
  .rd 1 none (.mv (.const (.slice none 0 0))) (some 4) false <|
  .done) .none
noncomputable def F.vector_With.r1 : Plan :=
  .rd 0 none (.ldn 2 (.tmp 3)) (some 5) false <|
  .ef 1 none (.call F.dots_May [(.tmp 5)]) (some 6) [] (
  .rd 2 none (.un .not (.tmp 6)) (some 7) false <|
  .done) .none
noncomputable def F.vector_With.r2 : Plan :=
  .rd 0 none (.mv (.tmp 0)) (some 8) false <|
  .ef 1 none (.call F.slices_Clone_api_Vector_api_Dot [(.tmp 8)]) (some 9) [] (
  .rd 2 none (.mv (.tmp 9)) (some 4) false <|
  .done) .none
noncomputable def F.vector_With.r3 : Plan :=
  .rd 0 none (.mv (.tmp 0)) (some 10) false <|
  .rd 1 none (.ldn 2 (.tmp 3)) (some 11) false <|
  .ef 2 none (.bsl 1 [(.int .i64 0), (.int .i64 0)] [(0, (2, (.tmp 11)))]) (some 12) [] (
  .ef 3 none (.call F.vector_Join [(.tmp 10), (.tmp 12)]) (some 13) [] (
  .rd 4 none (.mv (.tmp 13)) (some 4) false <|
  .done) .none) .none
noncomputable def F.vector_With.ic : IC :=
    (.seq (.reg F.vector_With.r0)
    (.seq (.seq (.reg F.vector_With.r1)
    (.cond (.tmp 7) (.seq (.reg F.vector_With.r2)
    .ret) .skip))
    (.seq (.reg F.vector_With.r3)
    .ret)))
noncomputable def F.vector_With.rs : List RO := [(.mv (.tmp 4))]
theorem F.vector_With.ok : cFunc Go.Proofs.Tryd.prog F.vector_With = some (14, F.vector_With.ic, F.vector_With.rs) := by kernel_rfl
theorem F.vector_With.cl : callable Go.Proofs.Tryd.prog F.vector_With = true := by kernel_rfl
noncomputable def F.slices_Delete_s_api_Op_api_Op.r0 : Plan :=
  .rd 0 none (.mv (.const (.slice none 0 0))) (some 6) false <|
  .done
noncomputable def F.slices_Delete_s_api_Op_api_Op.r1 : Plan :=
  .rd 0 none (.mv (.tmp 0)) (some 8) false <|
  .rd 1 none (.mv (.tmp 1)) (some 9) false <|
  .rd 2 none (.mv (.tmp 2)) (some 10) false <|
  .rd 3 none (.mv (.tmp 0)) (some 11) false <|
  .rd 4 none (.len .sl (.tmp 11)) (some 12) false <|
  .rd 5 none (.sl 14 (.tmp 8) (some (.tmp 9)) (some (.tmp 10)) (some (.tmp 12))) (some 13) false <|
  .done
noncomputable def F.slices_Delete_s_api_Op_api_Op.r2 : Plan :=
  .rd 0 none (.mv (.tmp 1)) (some 14) false <|
  .rd 1 none (.mv (.tmp 2)) (some 15) false <|
  .rd 2 none (.bin .eql (.tmp 14) (.tmp 15)) (some 16) false <|
  .done
noncomputable def F.slices_Delete_s_api_Op_api_Op.r3 : Plan :=
  .rd 0 none (.mv (.tmp 0)) (some 17) false <|
  .rd 1 none (.mv (.tmp 17)) (some 6) false <|
  .done
noncomputable def F.slices_Delete_s_api_Op_api_Op.r4 : Plan :=
  .rd 0 none (.mv (.tmp 0)) (some 18) false <|
  .rd 1 none (.len .sl (.tmp 18)) (some 19) false <|
  .rd 2 none (.mv (.tmp 19)) (some 7) false <|
  .done
noncomputable def F.slices_Delete_s_api_Op_api_Op.r5 : Plan :=
  .rd 0 none (.mv (.tmp 0)) (some 20) false <|
  .rd 1 none (.mv (.tmp 1)) (some 21) false <|
  .rd 2 none (.sl 14 (.tmp 20) none (some (.tmp 21)) none) (some 22) false <|
  .rd 3 none (.mv (.tmp 0)) (some 23) false <|
  .rd 4 none (.mv (.tmp 2)) (some 24) false <|
  .rd 5 none (.sl 14 (.tmp 23) (some (.tmp 24)) none none) (some 25) false <|
  .ef 6 none (.app 14 136 (.tmp 22) (.tmp 25)) (some 26) [] (
  .rd 7 none (.mv (.tmp 26)) (some 0) false <|
  .done) .none
noncomputable def F.slices_Delete_s_api_Op_api_Op.r6 : Plan :=
  .rd 0 none (.mv (.tmp 0)) (some 27) false <|
  .rd 1 none (.mv (.tmp 0)) (some 28) false <|
  .rd 2 none (.len .sl (.tmp 28)) (some 29) false <|
  .rd 3 none (.mv (.tmp 7)) (some 30) false <|
  .rd 4 none (.sl 14 (.tmp 27) (some (.tmp 29)) (some (.tmp 30)) none) (some 31) false <|
  .ef 5 none (.clr 14 [(.int .i64 0), (.int .i64 0), (.int .i64 0), (.slice none 0 0), (.int .i64 0), (.int .i64 0), (.int .i64 0), (.int .i64 0), (.int .i64 0), (.int .i64 0), (.int .i64 0), (.int .i64 0), (.int .i64 0), (.string ⟨#[]⟩)] (.tmp 31)) none [] (
  .done) .none
noncomputable def F.slices_Delete_s_api_Op_api_Op.r7 : Plan :=
  .rd 0 none (.mv (.tmp 0)) (some 32) false <|
  .rd 1 none (.mv (.tmp 32)) (some 6) false <|
  .done
noncomputable def F.slices_Delete_s_api_Op_api_Op.ic : IC :=
    (.seq (.reg F.slices_Delete_s_api_Op_api_Op.r0)
    (.seq (.reg F.slices_Delete_s_api_Op_api_Op.r1)
    (.seq (.seq (.reg F.slices_Delete_s_api_Op_api_Op.r2)
    (.cond (.tmp 16) (.seq (.reg F.slices_Delete_s_api_Op_api_Op.r3)
    .ret) .skip))
    (.seq (.reg F.slices_Delete_s_api_Op_api_Op.r4)
    (.seq (.reg F.slices_Delete_s_api_Op_api_Op.r5)
    (.seq (.reg F.slices_Delete_s_api_Op_api_Op.r6)
    (.seq (.reg F.slices_Delete_s_api_Op_api_Op.r7)
    .ret)))))))
noncomputable def F.slices_Delete_s_api_Op_api_Op.rs : List RO := [(.mv (.tmp 6))]
theorem F.slices_Delete_s_api_Op_api_Op.ok : cFunc Go.Proofs.Tryd.prog F.slices_Delete_s_api_Op_api_Op = some (33, F.slices_Delete_s_api_Op_api_Op.ic, F.slices_Delete_s_api_Op_api_Op.rs) := by kernel_rfl
theorem F.slices_Delete_s_api_Op_api_Op.cl : callable Go.Proofs.Tryd.prog F.slices_Delete_s_api_Op_api_Op = true := by kernel_rfl
noncomputable def F.slices_ContainsFunc_s_api_Op_api_Op.r0 : Plan :=
  .rd 0 none (.mv (.const (.bool false))) (some 4) false <|
  .done
noncomputable def F.slices_ContainsFunc_s_api_Op_api_Op.r1 : Plan :=
  .rd 0 none (.mv (.tmp 0)) (some 5) false <|
  .rd 1 none (.mv (.tmp 1)) (some 6) false <|
  .ef 2 none (.call F.slices_IndexFunc_s_api_Op_api_Op [(.tmp 5), (.tmp 6)]) (some 7) [] (
  .rd 3 none (.bin .geq (.tmp 7) (.const (.int .i64 0))) (some 8) false <|
  .rd 4 none (.mv (.tmp 8)) (some 4) false <|
  .done) .none
noncomputable def F.slices_ContainsFunc_s_api_Op_api_Op.ic : IC :=
    (.seq (.reg F.slices_ContainsFunc_s_api_Op_api_Op.r0)
    (.seq (.reg F.slices_ContainsFunc_s_api_Op_api_Op.r1)
    .ret))
noncomputable def F.slices_ContainsFunc_s_api_Op_api_Op.rs : List RO := [(.mv (.tmp 4))]
theorem F.slices_ContainsFunc_s_api_Op_api_Op.ok : cFunc Go.Proofs.Tryd.prog F.slices_ContainsFunc_s_api_Op_api_Op = some (9, F.slices_ContainsFunc_s_api_Op_api_Op.ic, F.slices_ContainsFunc_s_api_Op_api_Op.rs) := by kernel_rfl
theorem F.slices_ContainsFunc_s_api_Op_api_Op.cl : callable Go.Proofs.Tryd.prog F.slices_ContainsFunc_s_api_Op_api_Op = true := by kernel_rfl
noncomputable def F.causal_Right_c1.r0 : Plan :=
  .ef 0 none (.box (.tmp 0)) (some 2) [] (
  .rd 1 none (.mv (.const (.bool false))) (some 3) false <|
  .done) .none
noncomputable def F.causal_Right_c1.r1 : Plan :=
  .rd 0 none (.ldn 14 (.tmp 2)) (some 4) false <|
  .rd 1 none (.ldn 14 (.tmp 1)) (some 5) false <|
  .ef 2 none (.call F.causal_Ahead [(.tmp 4), (.tmp 5)]) (some 6) [] (
  .rd 3 none (.mv (.tmp 6)) (some 7) false <|
  .rd 4 (some (7, true)) (.fldA 2 (.tmp 2)) (some 8) false <|
  .rd 5 (some (7, true)) (.ld1 (.tmp 8)) (some 9) false <|
  .rd 6 (some (7, true)) (.fldA 2 (.tmp 1)) (some 10) false <|
  .rd 7 (some (7, true)) (.ld1 (.tmp 10)) (some 11) false <|
  .rd 8 (some (7, true)) (.bin .geq (.tmp 9) (.tmp 11)) (some 12) false <|
  .rd 9 none (.pick (.tmp 7) (.tmp 12) (.const (.bool false))) (some 13) false <|
  .rd 10 none (.mv (.tmp 13)) (some 3) false <|
  .done) .none
noncomputable def F.causal_Right_c1.ic : IC :=
    (.seq (.reg F.causal_Right_c1.r0)
    (.seq (.reg F.causal_Right_c1.r1)
    .ret))
noncomputable def F.causal_Right_c1.rs : List RO := [(.mv (.tmp 3))]
theorem F.causal_Right_c1.ok : cFunc Go.Proofs.Tryd.prog F.causal_Right_c1 = some (14, F.causal_Right_c1.ic, F.causal_Right_c1.rs) := by kernel_rfl
theorem F.causal_Right_c1.cl : callable Go.Proofs.Tryd.prog F.causal_Right_c1 = true := by kernel_rfl
noncomputable def F.vector_Below.r0 : Plan :=
  .ef 0 none (.box (.tmp 1)) (some 3) [] (
  .rd 1 none (.mv (.const (.bool false))) (some 4) false <|
  .done) .none
noncomputable def F.vector_Below.r1 : Plan :=
  .rd 0 none (.mv (.tmp 0)) (some 5) false <|
  .rd 1 none (.mkF (.func F.vector_Below_c1) [] [(.tmp 3)]) (some 6) false <|
  .ef 2 none (.call F.slices_ContainsFunc_api_Vector_api_Dot [(.tmp 5), (.tmp 6)]) (some 7) [] (
  .rd 3 none (.un .not (.tmp 7)) (some 8) false <|
  .rd 4 none (.mv (.tmp 8)) (some 4) false <|
  .done) .none
noncomputable def F.vector_Below.ic : IC :=
    (.seq (.reg F.vector_Below.r0)
    (.seq (.reg F.vector_Below.r1)
    .ret))
noncomputable def F.vector_Below.rs : List RO := [(.mv (.tmp 4))]
theorem F.vector_Below.ok : cFunc Go.Proofs.Tryd.prog F.vector_Below = some (9, F.vector_Below.ic, F.vector_Below.rs) := by kernel_rfl
theorem F.vector_Below.cl : callable Go.Proofs.Tryd.prog F.vector_Below = true := by kernel_rfl
noncomputable def F.causal_Frontier_c1.r0 : Plan :=
  .ef 0 none (.box (.tmp 0)) (some 2) [] (
  .rd 1 none (.mv (.const (.bool false))) (some 3) false <|
  .done) .none
noncomputable def F.causal_Frontier_c1.r1 : Plan :=
  .rd 0 none (.fldA 0 (.tmp 2)) (some 4) false <|
  .rd 1 none (.ldn 2 (.tmp 4)) (some 5) false <|
  .rd 2 none (.fldA 0 (.tmp 1)) (some 6) false <|
  .rd 3 none (.ldn 2 (.tmp 6)) (some 7) false <|
  .rd 4 none (.eqS [(.i .i64), (.i .i64)] true true (.tmp 5) (.tmp 7)) (some 8) false <|
  .rd 5 none (.mv (.tmp 8)) (some 9) false <|
  .rd 6 (some (9, true)) (.ldn 14 (.tmp 1)) (some 10) false <|
  .rd 7 (some (9, true)) (.ldn 14 (.tmp 2)) (some 11) false <|
  .ef 8 (some (9, true)) (.call F.causal_Ahead [(.tmp 10), (.tmp 11)]) (some 12) [] (
  .rd 9 none (.pick (.tmp 9) (.tmp 12) (.const (.bool false))) (some 13) false <|
  .rd 10 none (.mv (.tmp 13)) (some 3) false <|
  .done) .none
noncomputable def F.causal_Frontier_c1.ic : IC :=
    (.seq (.reg F.causal_Frontier_c1.r0)
    (.seq (.reg F.causal_Frontier_c1.r1)
    .ret))
noncomputable def F.causal_Frontier_c1.rs : List RO := [(.mv (.tmp 3))]
theorem F.causal_Frontier_c1.ok : cFunc Go.Proofs.Tryd.prog F.causal_Frontier_c1 = some (14, F.causal_Frontier_c1.ic, F.causal_Frontier_c1.rs) := by kernel_rfl
theorem F.causal_Frontier_c1.cl : callable Go.Proofs.Tryd.prog F.causal_Frontier_c1 = true := by kernel_rfl
noncomputable def F.dots_Rising.r0 : Plan :=
  .rd 0 none (.mv (.const (.slice none 0 0))) (some 2) false <|
  .done
noncomputable def F.dots_Rising.r1 : Plan :=
  .rd 0 none (.mv (.tmp 0)) (some 3) false <|
  .ef 1 none (.call F.dots_set [(.tmp 3)]) (some 4) [] (
  .ef 2 none (.call F.dots_row [(.tmp 4)]) (some 5) [] (
  .rd 3 none (.mv (.tmp 5)) (some 2) false <|
  .done) .none) .none
noncomputable def F.dots_Rising.ic : IC :=
    (.seq (.reg F.dots_Rising.r0)
    (.seq (.reg F.dots_Rising.r1)
    .ret))
noncomputable def F.dots_Rising.rs : List RO := [(.mv (.tmp 2))]
theorem F.dots_Rising.ok : cFunc Go.Proofs.Tryd.prog F.dots_Rising = some (6, F.dots_Rising.ic, F.dots_Rising.rs) := by kernel_rfl
theorem F.dots_Rising.cl : callable Go.Proofs.Tryd.prog F.dots_Rising = true := by kernel_rfl
noncomputable def F.vector_Join.r0 : Plan :=
  .rd 0 none (.mv (.const (.slice none 0 0))) (some 4) false <|
  .done
noncomputable def F.vector_Join.r1 : Plan :=
  .rd 0 none (.mv (.tmp 0)) (some 5) false <|
  .rd 1 none (.mv (.tmp 1)) (some 6) false <|
  .ef 2 none (.call F.vector_each [(.tmp 5), (.tmp 6), (.func F.vector_Join_c1)]) (some 7) [] (
  .rd 3 none (.mv (.tmp 7)) (some 4) false <|
  .done) .none
noncomputable def F.vector_Join.ic : IC :=
    (.seq (.reg F.vector_Join.r0)
    (.seq (.reg F.vector_Join.r1)
    .ret))
noncomputable def F.vector_Join.rs : List RO := [(.mv (.tmp 4))]
theorem F.vector_Join.ok : cFunc Go.Proofs.Tryd.prog F.vector_Join = some (8, F.vector_Join.ic, F.vector_Join.rs) := by kernel_rfl
theorem F.vector_Join.cl : callable Go.Proofs.Tryd.prog F.vector_Join = true := by kernel_rfl
noncomputable def F.slices_IndexFunc_s_api_Op_api_Op.r0 : Plan :=
  .rd 0 none (.mv (.const (.int .i64 0))) (some 4) false <|
  .done
noncomputable def F.slices_IndexFunc_s_api_Op_api_Op.r1 : Plan :=
  .rd 0 none (.mv (.tmp 0)) (some 6) false <|
  .rd 1 none (.len .sl (.tmp 6)) (some 7) false <|
  .rd 2 none (.mv (.const (.int .i64 0))) (some 8) false <|
  .done
noncomputable def F.slices_IndexFunc_s_api_Op_api_Op.r2 : Plan :=
  .rd 0 none (.bin .lss (.tmp 8) (.tmp 7)) (some 9) false <|
  .done
noncomputable def F.slices_IndexFunc_s_api_Op_api_Op.r3 : Plan :=
  .rd 0 none (.mv (.tmp 8)) (some 10) false <|
  .rd 1 none (.mv (.tmp 10)) (some 5) false <|
  .done
noncomputable def F.slices_IndexFunc_s_api_Op_api_Op.r4 : Plan :=
  .rd 0 none (.mv (.tmp 1)) (some 11) false <|
  .rd 1 none (.mv (.tmp 0)) (some 12) false <|
  .rd 2 none (.mv (.tmp 5)) (some 13) false <|
  .rd 3 none (.idxA 14 (.tmp 12) (.tmp 13)) (some 14) false <|
  .rd 4 none (.ldn 14 (.tmp 14)) (some 15) false <|
  .ef 5 none (.callv (.tmp 11) [(.tmp 15)]) (some 16) [] (
  .done) .none
noncomputable def F.slices_IndexFunc_s_api_Op_api_Op.r5 : Plan :=
  .rd 0 none (.mv (.tmp 5)) (some 17) false <|
  .rd 1 none (.mv (.tmp 17)) (some 4) false <|
  .done
noncomputable def F.slices_IndexFunc_s_api_Op_api_Op.r6 : Plan :=
  .rd 0 none (.bin .add (.tmp 8) (.const (.int .i64 1))) (some 18) false <|
  .rd 1 none (.mv (.tmp 18)) (some 8) false <|
  .done
noncomputable def F.slices_IndexFunc_s_api_Op_api_Op.l0 : IC :=
    (.seq (.reg F.slices_IndexFunc_s_api_Op_api_Op.r2)
    (.seq (.cond (.tmp 9) .skip (.exit 0))
    (.seq (.block 1 (.seq (.reg F.slices_IndexFunc_s_api_Op_api_Op.r3)
    (.seq (.reg F.slices_IndexFunc_s_api_Op_api_Op.r4)
    (.cond (.tmp 16) (.seq (.reg F.slices_IndexFunc_s_api_Op_api_Op.r5)
    .ret) .skip))))
    (.reg F.slices_IndexFunc_s_api_Op_api_Op.r6))))
noncomputable def F.slices_IndexFunc_s_api_Op_api_Op.r7 : Plan :=
  .rd 0 none (.mv (.const (.int .i64 (-1)))) (some 4) false <|
  .done
noncomputable def F.slices_IndexFunc_s_api_Op_api_Op.ic : IC :=
    (.seq (.reg F.slices_IndexFunc_s_api_Op_api_Op.r0)
    (.seq (.seq (.reg F.slices_IndexFunc_s_api_Op_api_Op.r1)
    (.block 0 (.loop F.slices_IndexFunc_s_api_Op_api_Op.l0)))
    (.seq (.reg F.slices_IndexFunc_s_api_Op_api_Op.r7)
    .ret)))
noncomputable def F.slices_IndexFunc_s_api_Op_api_Op.rs : List RO := [(.mv (.tmp 4))]
theorem F.slices_IndexFunc_s_api_Op_api_Op.ok : cFunc Go.Proofs.Tryd.prog F.slices_IndexFunc_s_api_Op_api_Op = some (19, F.slices_IndexFunc_s_api_Op_api_Op.ic, F.slices_IndexFunc_s_api_Op_api_Op.rs) := by kernel_rfl
theorem F.slices_IndexFunc_s_api_Op_api_Op.cl : callable Go.Proofs.Tryd.prog F.slices_IndexFunc_s_api_Op_api_Op = true := by kernel_rfl
noncomputable def F.slices_ContainsFunc_api_Vector_api_Dot.r0 : Plan :=
  .rd 0 none (.mv (.const (.bool false))) (some 4) false <|
  .done
noncomputable def F.slices_ContainsFunc_api_Vector_api_Dot.r1 : Plan :=
  .rd 0 none (.mv (.tmp 0)) (some 5) false <|
  .rd 1 none (.mv (.tmp 1)) (some 6) false <|
  .ef 2 none (.call F.slices_IndexFunc_api_Vector_api_Dot [(.tmp 5), (.tmp 6)]) (some 7) [] (
  .rd 3 none (.bin .geq (.tmp 7) (.const (.int .i64 0))) (some 8) false <|
  .rd 4 none (.mv (.tmp 8)) (some 4) false <|
  .done) .none
noncomputable def F.slices_ContainsFunc_api_Vector_api_Dot.ic : IC :=
    (.seq (.reg F.slices_ContainsFunc_api_Vector_api_Dot.r0)
    (.seq (.reg F.slices_ContainsFunc_api_Vector_api_Dot.r1)
    .ret))
noncomputable def F.slices_ContainsFunc_api_Vector_api_Dot.rs : List RO := [(.mv (.tmp 4))]
theorem F.slices_ContainsFunc_api_Vector_api_Dot.ok : cFunc Go.Proofs.Tryd.prog F.slices_ContainsFunc_api_Vector_api_Dot = some (9, F.slices_ContainsFunc_api_Vector_api_Dot.ic, F.slices_ContainsFunc_api_Vector_api_Dot.rs) := by kernel_rfl
theorem F.slices_ContainsFunc_api_Vector_api_Dot.cl : callable Go.Proofs.Tryd.prog F.slices_ContainsFunc_api_Vector_api_Dot = true := by kernel_rfl
noncomputable def F.vector_Below_c1.r0 : Plan :=
  .ef 0 none (.box (.tmp 0)) (some 2) [] (
  .rd 1 none (.mv (.const (.bool false))) (some 3) false <|
  .done) .none
noncomputable def F.vector_Below_c1.r1 : Plan :=
  .rd 0 none (.ld1 (.tmp 1)) (some 4) false <|
  .rd 1 none (.fldA 0 (.tmp 2)) (some 5) false <|
  .rd 2 none (.ld1 (.tmp 5)) (some 6) false <|
  .rd 4 none (.fldA 1 (.tmp 2)) (some 8) false <|
  .rd 5 none (.ld1 (.tmp 8)) (some 9) true <|
  .ef 3 none (.call F.vector_Get [(.tmp 4), (.tmp 6)]) (some 7) [4, 5] (
  .rd 6 none (.bin .lss (.tmp 7) (.tmp 9)) (some 10) false <|
  .rd 7 none (.mv (.tmp 10)) (some 3) false <|
  .done) .none
noncomputable def F.vector_Below_c1.ic : IC :=
    (.seq (.reg F.vector_Below_c1.r0)
    (.seq (.reg F.vector_Below_c1.r1)
    .ret))
noncomputable def F.vector_Below_c1.rs : List RO := [(.mv (.tmp 3))]
theorem F.vector_Below_c1.ok : cFunc Go.Proofs.Tryd.prog F.vector_Below_c1 = some (11, F.vector_Below_c1.ic, F.vector_Below_c1.rs) := by kernel_rfl
theorem F.vector_Below_c1.cl : callable Go.Proofs.Tryd.prog F.vector_Below_c1 = true := by kernel_rfl
noncomputable def F.dots_row.r0 : Plan :=
  .rd 0 none (.mv (.const (.slice none 0 0))) (some 2) false <|
  .done
noncomputable def F.dots_row.r1 : Plan :=
  .ef 0 none (.bsl 0 [] []) (some 5) [] (
  .rd 1 none (.mv (.tmp 5)) (some 3) false <|
  .done) .none
noncomputable def F.dots_row.r2 : Plan :=
  .rd 0 none (.mv (.tmp 0)) (some 6) false <|
  .ef 1 none (.rng false (.tmp 6)) (some 7) [] (
  .done) .none
noncomputable def F.dots_row.r3 : Plan :=
  .ef 0 none (.nxt false (.tmp 7)) (some 8) [] (
  .rd 1 none (.ext 0 (.tmp 8)) (some 9) false <|
  .done) .none
noncomputable def F.dots_row.r4 : Plan :=
  .ef 0 none (.ent (.tmp 7)) (some 10) [] (
  .rd 1 none (.ext 0 (.tmp 10)) (some 11) false <|
  .ef 2 none (.alloc [(.int .i64 0), (.int .i64 0)]) (some 4) [] (
  .ef 3 none (.st 2 (.tmp 4) (.tmp 11)) none [] (
  .done) .none) .none) .none
noncomputable def F.dots_row.r5 : Plan :=
  .rd 0 none (.mv (.tmp 3)) (some 12) false <|
  .rd 1 none (.ldn 2 (.tmp 4)) (some 13) false <|
  .ef 2 none (.bsl 1 [(.int .i64 0), (.int .i64 0)] [(0, (2, (.tmp 13)))]) (some 14) [] (
  .ef 3 none (.app 2 16 (.tmp 12) (.tmp 14)) (some 15) [] (
  .rd 4 none (.mv (.tmp 15)) (some 3) false <|
  .done) .none) .none
noncomputable def F.dots_row.l0 : IC :=
    (.seq (.reg F.dots_row.r3)
    (.seq (.cond (.tmp 9) .skip (.exit 0))
    (.block 1 (.seq (.reg F.dots_row.r4)
    (.reg F.dots_row.r5)))))
noncomputable def F.dots_row.r6 : Plan :=
  .rd 0 none (.mv (.tmp 3)) (some 16) false <|
  .ef 1 none (.call F.slices_SortFunc_s_api_Dot_api_Dot [(.tmp 16), (.func F.dots_compare)]) (some 17) [] (
  .done) .none
noncomputable def F.dots_row.r7 : Plan :=
  .rd 0 none (.mv (.tmp 3)) (some 18) false <|
  .rd 1 none (.mv (.tmp 18)) (some 2) false <|
  .done
noncomputable def F.dots_row.ic : IC :=
    (.seq (.reg F.dots_row.r0)
    (.seq (.reg F.dots_row.r1)
    (.seq (.seq (.reg F.dots_row.r2)
    (.block 0 (.loop F.dots_row.l0)))
    (.seq (.reg F.dots_row.r6)
    (.seq (.reg F.dots_row.r7)
    .ret)))))
noncomputable def F.dots_row.rs : List RO := [(.mv (.tmp 2))]
theorem F.dots_row.ok : cFunc Go.Proofs.Tryd.prog F.dots_row = some (19, F.dots_row.ic, F.dots_row.rs) := by kernel_rfl
theorem F.dots_row.cl : callable Go.Proofs.Tryd.prog F.dots_row = true := by kernel_rfl
noncomputable def F.dots_set.r0 : Plan :=
  .rd 0 none (.mv (.const (.map none))) (some 2) false <|
  .done
noncomputable def F.dots_set.r1 : Plan :=
  .ef 0 none .mkMap (some 6) [] (
  .rd 1 none (.mv (.tmp 6)) (some 3) false <|
  .done) .none
noncomputable def F.dots_set.r2 : Plan :=
  .rd 0 none (.mv (.tmp 0)) (some 7) false <|
  .rd 1 none (.len .sl (.tmp 7)) (some 8) false <|
  .rd 2 none (.mv (.const (.int .i64 0))) (some 9) false <|
  .done
noncomputable def F.dots_set.r3 : Plan :=
  .rd 0 none (.bin .lss (.tmp 9) (.tmp 8)) (some 10) false <|
  .done
noncomputable def F.dots_set.r4 : Plan :=
  .rd 0 none (.idxA 2 (.tmp 7) (.tmp 9)) (some 11) false <|
  .rd 1 none (.ldn 2 (.tmp 11)) (some 12) false <|
  .ef 2 none (.alloc [(.int .i64 0), (.int .i64 0)]) (some 5) [] (
  .ef 3 none (.st 2 (.tmp 5) (.tmp 12)) none [] (
  .done) .none) .none
noncomputable def F.dots_set.r5 : Plan :=
  .rd 0 none (.mv (.tmp 3)) (some 13) false <|
  .rd 1 none (.ldn 2 (.tmp 5)) (some 14) false <|
  .ef 2 none (.mset [(.i .i64), (.i .i64)] true (.tmp 13) (.tmp 14) (.const (.bool true))) none [] (
  .done) .none
noncomputable def F.dots_set.r6 : Plan :=
  .rd 0 none (.bin .add (.tmp 9) (.const (.int .i64 1))) (some 15) false <|
  .rd 1 none (.mv (.tmp 15)) (some 9) false <|
  .done
noncomputable def F.dots_set.l0 : IC :=
    (.seq (.reg F.dots_set.r3)
    (.seq (.cond (.tmp 10) .skip (.exit 0))
    (.seq (.block 1 (.seq (.reg F.dots_set.r4)
    (.reg F.dots_set.r5)))
    (.reg F.dots_set.r6))))
noncomputable def F.dots_set.r7 : Plan :=
  .rd 0 none (.mv (.tmp 3)) (some 16) false <|
  .rd 1 none (.mv (.tmp 16)) (some 2) false <|
  .done
noncomputable def F.dots_set.ic : IC :=
    (.seq (.reg F.dots_set.r0)
    (.seq (.reg F.dots_set.r1)
    (.seq (.seq (.reg F.dots_set.r2)
    (.block 0 (.loop F.dots_set.l0)))
    (.seq (.reg F.dots_set.r7)
    .ret))))
noncomputable def F.dots_set.rs : List RO := [(.mv (.tmp 2))]
theorem F.dots_set.ok : cFunc Go.Proofs.Tryd.prog F.dots_set = some (17, F.dots_set.ic, F.dots_set.rs) := by kernel_rfl
theorem F.dots_set.cl : callable Go.Proofs.Tryd.prog F.dots_set = true := by kernel_rfl
noncomputable def F.vector_each.r0 : Plan :=
  .rd 0 none (.mv (.const (.slice none 0 0))) (some 6) false <|
  .done
noncomputable def F.vector_each.r1 : Plan :=
  .ef 0 none (.bsl 0 [] []) (some 11) [] (
  .rd 1 none (.mv (.tmp 11)) (some 7) false <|
  .done) .none
noncomputable def F.vector_each.r2 : Plan :=
  .rd 0 none (.mv (.tmp 0)) (some 12) false <|
  .rd 1 none (.mv (.tmp 1)) (some 13) false <|
  .ef 2 none (.bsl 2 [(.slice none 0 0), (.slice none 0 0)] [(0, (1, (.tmp 12))), (1, (1, (.tmp 13)))]) (some 14) [] (
  .ef 3 none (.call F.slices_Concat_api_Vector_api_Dot [(.tmp 14)]) (some 15) [] (
  .ef 4 none (.call F.dots_Rising [(.tmp 15)]) (some 16) [] (
  .rd 5 none (.len .sl (.tmp 16)) (some 17) false <|
  .rd 6 none (.mv (.const (.int .i64 0))) (some 18) false <|
  .done) .none) .none) .none
noncomputable def F.vector_each.r3 : Plan :=
  .rd 0 none (.bin .lss (.tmp 18) (.tmp 17)) (some 19) false <|
  .done
noncomputable def F.vector_each.r4 : Plan :=
  .rd 0 none (.idxA 2 (.tmp 16) (.tmp 18)) (some 20) false <|
  .rd 1 none (.ldn 2 (.tmp 20)) (some 21) false <|
  .ef 2 none (.alloc [(.int .i64 0), (.int .i64 0)]) (some 9) [] (
  .ef 3 none (.st 2 (.tmp 9) (.tmp 21)) none [] (
  .done) .none) .none
noncomputable def F.vector_each.r5 : Plan :=
  .rd 0 none (.mv (.tmp 2)) (some 22) false <|
  .rd 1 none (.mv (.tmp 0)) (some 23) false <|
  .rd 2 none (.fldA 0 (.tmp 9)) (some 24) false <|
  .rd 3 none (.ld1 (.tmp 24)) (some 25) false <|
  .rd 5 none (.mv (.tmp 1)) (some 27) false <|
  .rd 6 none (.fldA 0 (.tmp 9)) (some 28) false <|
  .rd 7 none (.ld1 (.tmp 28)) (some 29) true <|
  .ef 4 none (.call F.vector_Get [(.tmp 23), (.tmp 25)]) (some 26) [0, 5, 6, 7] (
  .ef 8 none (.call F.vector_Get [(.tmp 27), (.tmp 29)]) (some 30) [0] (
  .ef 9 none (.callv (.tmp 22) [(.tmp 26), (.tmp 30)]) (some 31) [] (
  .rd 10 none (.mv (.tmp 31)) (some 10) false <|
  .done) .none) .none) .none
noncomputable def F.vector_each.r6 : Plan :=
  .rd 0 none (.mv (.tmp 10)) (some 32) false <|
  .rd 1 none (.bin .gtr (.tmp 32) (.const (.int .i64 0))) (some 33) false <|
  .rd 2 none (.mv (.tmp 33)) (some 34) false <|
  .rd 3 (some (34, true)) (.mv (.tmp 7)) (some 35) false <|
  .rd 4 (some (34, true)) (.len .sl (.tmp 35)) (some 36) false <|
  .rd 5 (some (34, true)) (.bin .eql (.tmp 36) (.const (.int .i64 0))) (some 37) false <|
  .rd 6 (some (34, true)) (.mv (.tmp 37)) (some 38) false <|
  .rd 7 (some (38, false)) (.mv (.tmp 7)) (some 39) false <|
  .rd 8 (some (38, false)) (.mv (.tmp 7)) (some 40) false <|
  .rd 9 (some (38, false)) (.len .sl (.tmp 40)) (some 41) false <|
  .rd 10 (some (38, false)) (.bin .sub (.tmp 41) (.const (.int .i64 1))) (some 42) false <|
  .rd 11 (some (38, false)) (.idxA 2 (.tmp 39) (.tmp 42)) (some 43) false <|
  .rd 12 (some (38, false)) (.fldA 0 (.tmp 43)) (some 44) false <|
  .rd 13 (some (38, false)) (.ld1 (.tmp 44)) (some 45) false <|
  .rd 14 (some (38, false)) (.fldA 0 (.tmp 9)) (some 46) false <|
  .rd 15 (some (38, false)) (.ld1 (.tmp 46)) (some 47) false <|
  .rd 16 (some (38, false)) (.bin .lss (.tmp 45) (.tmp 47)) (some 48) false <|
  .rd 17 (some (34, true)) (.pick (.tmp 38) (.const (.bool true)) (.tmp 48)) (some 49) false <|
  .rd 18 none (.pick (.tmp 34) (.tmp 49) (.const (.bool false))) (some 50) false <|
  .done
noncomputable def F.vector_each.r7 : Plan :=
  .rd 0 none (.mv (.tmp 7)) (some 51) false <|
  .rd 1 none (.fldA 0 (.tmp 9)) (some 52) false <|
  .rd 2 none (.ld1 (.tmp 52)) (some 53) false <|
  .rd 3 none (.mv (.tmp 10)) (some 54) false <|
  .rd 4 none (.build [(.int .i64 0), (.int .i64 0)] [(0, (1, (.tmp 53))), (1, (1, (.tmp 54)))]) (some 55) false <|
  .ef 5 none (.bsl 1 [(.int .i64 0), (.int .i64 0)] [(0, (2, (.tmp 55)))]) (some 56) [] (
  .ef 6 none (.app 2 16 (.tmp 51) (.tmp 56)) (some 57) [] (
  .rd 7 none (.mv (.tmp 57)) (some 7) false <|
  .done) .none) .none
noncomputable def F.vector_each.r8 : Plan :=
  .rd 0 none (.bin .add (.tmp 18) (.const (.int .i64 1))) (some 58) false <|
  .rd 1 none (.mv (.tmp 58)) (some 18) false <|
  .done
noncomputable def F.vector_each.l0 : IC :=
    (.seq (.reg F.vector_each.r3)
    (.seq (.cond (.tmp 19) .skip (.exit 0))
    (.seq (.block 1 (.seq (.reg F.vector_each.r4)
    (.seq (.reg F.vector_each.r5)
    (.seq (.reg F.vector_each.r6)
    (.cond (.tmp 50) (.reg F.vector_each.r7) .skip)))))
    (.reg F.vector_each.r8))))
noncomputable def F.vector_each.r9 : Plan :=
  .rd 0 none (.mv (.tmp 7)) (some 59) false <|
  .rd 1 none (.mv (.tmp 59)) (some 6) false <|
  .done
noncomputable def F.vector_each.ic : IC :=
    (.seq (.reg F.vector_each.r0)
    (.seq (.reg F.vector_each.r1)
    (.seq (.seq (.reg F.vector_each.r2)
    (.block 0 (.loop F.vector_each.l0)))
    (.seq (.reg F.vector_each.r9)
    .ret))))
noncomputable def F.vector_each.rs : List RO := [(.mv (.tmp 6))]
theorem F.vector_each.ok : cFunc Go.Proofs.Tryd.prog F.vector_each = some (60, F.vector_each.ic, F.vector_each.rs) := by kernel_rfl
theorem F.vector_each.cl : callable Go.Proofs.Tryd.prog F.vector_each = true := by kernel_rfl
noncomputable def F.vector_Join_c1.r0 : Plan :=
  .rd 0 none (.mv (.const (.int .i64 0))) (some 4) false <|
  .done
noncomputable def F.vector_Join_c1.r1 : Plan :=
  .rd 0 none (.mv (.tmp 0)) (some 5) false <|
  .rd 1 none (.mv (.tmp 1)) (some 6) false <|
  .rd 2 none (.maxI true (.tmp 5) (.tmp 6)) (some 7) false <|
  .rd 3 none (.mv (.tmp 7)) (some 4) false <|
  .done
noncomputable def F.vector_Join_c1.ic : IC :=
    (.seq (.reg F.vector_Join_c1.r0)
    (.seq (.reg F.vector_Join_c1.r1)
    .ret))
noncomputable def F.vector_Join_c1.rs : List RO := [(.mv (.tmp 4))]
theorem F.vector_Join_c1.ok : cFunc Go.Proofs.Tryd.prog F.vector_Join_c1 = some (8, F.vector_Join_c1.ic, F.vector_Join_c1.rs) := by kernel_rfl
theorem F.vector_Join_c1.cl : callable Go.Proofs.Tryd.prog F.vector_Join_c1 = true := by kernel_rfl
noncomputable def F.bits_Len64.r0 : Plan :=
  .rd 0 none (.mv (.const (.int .i64 0))) (some 2) false <|
  .done
noncomputable def F.bits_Len64.r1 : Plan :=
  .rd 0 none (.mv (.tmp 0)) (some 3) false <|
  .rd 1 none (.bin .geq (.tmp 3) (.const (.int .u64 4294967296))) (some 4) false <|
  .done
noncomputable def F.bits_Len64.r2 : Plan :=
  .rd 0 none (.mv (.tmp 0)) (some 5) false <|
  .rd 1 none (.bin .shr (.tmp 5) (.const (.int .u64 32))) (some 6) false <|
  .rd 2 none (.mv (.tmp 6)) (some 0) false <|
  .done
noncomputable def F.bits_Len64.r3 : Plan :=
  .rd 0 none (.mv (.const (.int .i64 32))) (some 2) false <|
  .done
noncomputable def F.bits_Len64.r4 : Plan :=
  .rd 0 none (.mv (.tmp 0)) (some 7) false <|
  .rd 1 none (.bin .geq (.tmp 7) (.const (.int .u64 65536))) (some 8) false <|
  .done
noncomputable def F.bits_Len64.r5 : Plan :=
  .rd 0 none (.mv (.tmp 0)) (some 9) false <|
  .rd 1 none (.bin .shr (.tmp 9) (.const (.int .u64 16))) (some 10) false <|
  .rd 2 none (.mv (.tmp 10)) (some 0) false <|
  .done
noncomputable def F.bits_Len64.r6 : Plan :=
  .rd 0 none (.mv (.tmp 2)) (some 11) false <|
  .rd 1 none (.bin .add (.tmp 11) (.const (.int .i64 16))) (some 12) false <|
  .rd 2 none (.mv (.tmp 12)) (some 2) false <|
  .done
noncomputable def F.bits_Len64.r7 : Plan :=
  .rd 0 none (.mv (.tmp 0)) (some 13) false <|
  .rd 1 none (.bin .geq (.tmp 13) (.const (.int .u64 256))) (some 14) false <|
  .done
noncomputable def F.bits_Len64.r8 : Plan :=
  .rd 0 none (.mv (.tmp 0)) (some 15) false <|
  .rd 1 none (.bin .shr (.tmp 15) (.const (.int .u64 8))) (some 16) false <|
  .rd 2 none (.mv (.tmp 16)) (some 0) false <|
  .done
noncomputable def F.bits_Len64.r9 : Plan :=
  .rd 0 none (.mv (.tmp 2)) (some 17) false <|
  .rd 1 none (.bin .add (.tmp 17) (.const (.int .i64 8))) (some 18) false <|
  .rd 2 none (.mv (.tmp 18)) (some 2) false <|
  .done
noncomputable def F.bits_Len64.r10 : Plan :=
  .rd 0 none (.mv (.tmp 2)) (some 19) false <|
  .rd 1 none (.mv (.tmp 0)) (some 20) false <|
  .rd 2 none (.convI .u8 (.tmp 20)) (some 21) false <|
  .rd 3 none (.idxS (.const (.string ⟨#[0, 1, 2, 2, 3, 3, 3, 3, 4, 4, 4, 4, 4, 4, 4, 4, 5, 5, 5, 5, 5, 5, 5, 5, 5, 5, 5, 5, 5, 5, 5, 5, 6, 6, 6, 6, 6, 6, 6, 6, 6, 6, 6, 6, 6, 6, 6, 6, 6, 6, 6, 6, 6, 6, 6, 6, 6, 6, 6, 6, 6, 6, 6, 6, 7, 7, 7, 7, 7, 7, 7, 7, 7, 7, 7, 7, 7, 7, 7, 7, 7, 7, 7, 7, 7, 7, 7, 7, 7, 7, 7, 7, 7, 7, 7, 7, 7, 7, 7, 7, 7, 7, 7, 7, 7, 7, 7, 7, 7, 7, 7, 7, 7, 7, 7, 7, 7, 7, 7, 7, 7, 7, 7, 7, 7, 7, 7, 7, 8, 8, 8, 8, 8, 8, 8, 8, 8, 8, 8, 8, 8, 8, 8, 8, 8, 8, 8, 8, 8, 8, 8, 8, 8, 8, 8, 8, 8, 8, 8, 8, 8, 8, 8, 8, 8, 8, 8, 8, 8, 8, 8, 8, 8, 8, 8, 8, 8, 8, 8, 8, 8, 8, 8, 8, 8, 8, 8, 8, 8, 8, 8, 8, 8, 8, 8, 8, 8, 8, 8, 8, 8, 8, 8, 8, 8, 8, 8, 8, 8, 8, 8, 8, 8, 8, 8, 8, 8, 8, 8, 8, 8, 8, 8, 8, 8, 8, 8, 8, 8, 8, 8, 8, 8, 8, 8, 8, 8, 8, 8, 8, 8, 8, 8, 8, 8, 8, 8, 8, 8, 8, 8, 8, 8, 8, 8, 8]⟩)) (.tmp 21)) (some 22) false <|
  .rd 4 none (.convI .i64 (.tmp 22)) (some 23) false <|
  .rd 5 none (.bin .add (.tmp 19) (.tmp 23)) (some 24) false <|
  .rd 6 none (.mv (.tmp 24)) (some 2) false <|
  .done
noncomputable def F.bits_Len64.ic : IC :=
    (.seq (.reg F.bits_Len64.r0)
    (.seq (.seq (.reg F.bits_Len64.r1)
    (.cond (.tmp 4) (.seq (.reg F.bits_Len64.r2)
    (.reg F.bits_Len64.r3)) .skip))
    (.seq (.seq (.reg F.bits_Len64.r4)
    (.cond (.tmp 8) (.seq (.reg F.bits_Len64.r5)
    (.reg F.bits_Len64.r6)) .skip))
    (.seq (.seq (.reg F.bits_Len64.r7)
    (.cond (.tmp 14) (.seq (.reg F.bits_Len64.r8)
    (.reg F.bits_Len64.r9)) .skip))
    (.seq (.reg F.bits_Len64.r10)
    .ret)))))
noncomputable def F.bits_Len64.rs : List RO := [(.mv (.tmp 2))]
theorem F.bits_Len64.ok : cFunc Go.Proofs.Tryd.prog F.bits_Len64 = some (25, F.bits_Len64.ic, F.bits_Len64.rs) := by kernel_rfl
theorem F.bits_Len64.cl : callable Go.Proofs.Tryd.prog F.bits_Len64 = true := by kernel_rfl
noncomputable def F.slices_SortFunc_s_api_Dot_api_Dot.r0 : Plan :=
  .rd 0 none (.mv (.tmp 0)) (some 5) false <|
  .rd 1 none (.len .sl (.tmp 5)) (some 6) false <|
  .rd 2 none (.mv (.tmp 6)) (some 4) false <|
  .done
noncomputable def F.slices_SortFunc_s_api_Dot_api_Dot.r1 : Plan :=
  .rd 0 none (.mv (.tmp 0)) (some 7) false <|
  .rd 1 none (.mv (.tmp 4)) (some 8) false <|
  .rd 2 none (.mv (.tmp 4)) (some 9) false <|
  .rd 3 none (.convI .u64 (.tmp 9)) (some 10) false <|
  .ef 4 none (.call F.bits_Len [(.tmp 10)]) (some 11) [] (
  .rd 5 none (.mv (.tmp 1)) (some 12) false <|
  .ef 6 none (.call F.slices_pdqsortCmpFunc_api_Dot [(.tmp 7), (.const (.int .i64 0)), (.tmp 8), (.tmp 11), (.tmp 12)]) (some 13) [] (
  .done) .none) .none
noncomputable def F.slices_SortFunc_s_api_Dot_api_Dot.ic : IC :=
    (.seq (.reg F.slices_SortFunc_s_api_Dot_api_Dot.r0)
    (.reg F.slices_SortFunc_s_api_Dot_api_Dot.r1))
noncomputable def F.slices_SortFunc_s_api_Dot_api_Dot.rs : List RO := []
theorem F.slices_SortFunc_s_api_Dot_api_Dot.ok : cFunc Go.Proofs.Tryd.prog F.slices_SortFunc_s_api_Dot_api_Dot = some (14, F.slices_SortFunc_s_api_Dot_api_Dot.ic, F.slices_SortFunc_s_api_Dot_api_Dot.rs) := by kernel_rfl
theorem F.slices_SortFunc_s_api_Dot_api_Dot.cl : callable Go.Proofs.Tryd.prog F.slices_SortFunc_s_api_Dot_api_Dot = true := by kernel_rfl
noncomputable def F.slices_Concat_api_Vector_api_Dot.r0 : Plan :=
  .rd 0 none (.mv (.const (.slice none 0 0))) (some 2) false <|
  .done
noncomputable def F.slices_Concat_api_Vector_api_Dot.r1 : Plan :=
  .rd 0 none (.mv (.const (.int .i64 0))) (some 3) false <|
  .done
noncomputable def F.slices_Concat_api_Vector_api_Dot.r2 : Plan :=
  .rd 0 none (.mv (.tmp 0)) (some 9) false <|
  .rd 1 none (.len .sl (.tmp 9)) (some 10) false <|
  .rd 2 none (.mv (.const (.int .i64 0))) (some 11) false <|
  .done
noncomputable def F.slices_Concat_api_Vector_api_Dot.r3 : Plan :=
  .rd 0 none (.bin .lss (.tmp 11) (.tmp 10)) (some 12) false <|
  .done
noncomputable def F.slices_Concat_api_Vector_api_Dot.r4 : Plan :=
  .rd 0 none (.idxA 1 (.tmp 9) (.tmp 11)) (some 13) false <|
  .rd 1 none (.ld1 (.tmp 13)) (some 14) false <|
  .rd 2 none (.mv (.tmp 14)) (some 5) false <|
  .done
noncomputable def F.slices_Concat_api_Vector_api_Dot.r5 : Plan :=
  .rd 0 none (.mv (.tmp 3)) (some 15) false <|
  .rd 1 none (.mv (.tmp 5)) (some 16) false <|
  .rd 2 none (.len .sl (.tmp 16)) (some 17) false <|
  .rd 3 none (.bin .add (.tmp 15) (.tmp 17)) (some 18) false <|
  .rd 4 none (.mv (.tmp 18)) (some 3) false <|
  .done
noncomputable def F.slices_Concat_api_Vector_api_Dot.r6 : Plan :=
  .rd 0 none (.mv (.tmp 3)) (some 19) false <|
  .rd 1 none (.bin .lss (.tmp 19) (.const (.int .i64 0))) (some 20) false <|
  .done
noncomputable def F.slices_Concat_api_Vector_api_Dot.r7 : Plan :=
  .rd 0 none (.mkI 9 (.const (.string ⟨#[108, 101, 110, 32, 111, 117, 116, 32, 111, 102, 32, 114, 97, 110, 103, 101]⟩))) (some 21) false <|
  .ef 1 none .pan none [] (
  .done) .none
noncomputable def F.slices_Concat_api_Vector_api_Dot.r8 : Plan :=
  .rd 0 none (.bin .add (.tmp 11) (.const (.int .i64 1))) (some 22) false <|
  .rd 1 none (.mv (.tmp 22)) (some 11) false <|
  .done
noncomputable def F.slices_Concat_api_Vector_api_Dot.l0 : IC :=
    (.seq (.reg F.slices_Concat_api_Vector_api_Dot.r3)
    (.seq (.cond (.tmp 12) .skip (.exit 0))
    (.seq (.block 1 (.seq (.reg F.slices_Concat_api_Vector_api_Dot.r4)
    (.seq (.reg F.slices_Concat_api_Vector_api_Dot.r5)
    (.seq (.reg F.slices_Concat_api_Vector_api_Dot.r6)
    (.cond (.tmp 20) (.reg F.slices_Concat_api_Vector_api_Dot.r7) .skip)))))
    (.reg F.slices_Concat_api_Vector_api_Dot.r8))))
noncomputable def F.slices_Concat_api_Vector_api_Dot.r9 : Plan :=
  .rd 0 none (.mv (.tmp 3)) (some 23) false <|
  .ef 1 none (.call F.slices_Grow_api_Vector_api_Dot [(.const (.slice none 0 0)), (.tmp 23)]) (some 24) [] (
  .rd 2 none (.mv (.tmp 24)) (some 6) false <|
  .done) .none
noncomputable def F.slices_Concat_api_Vector_api_Dot.r10 : Plan :=
  .rd 0 none (.mv (.tmp 0)) (some 25) false <|
  .rd 1 none (.len .sl (.tmp 25)) (some 26) false <|
  .rd 2 none (.mv (.const (.int .i64 0))) (some 27) false <|
  .done
noncomputable def F.slices_Concat_api_Vector_api_Dot.r11 : Plan :=
  .rd 0 none (.bin .lss (.tmp 27) (.tmp 26)) (some 28) false <|
  .done
noncomputable def F.slices_Concat_api_Vector_api_Dot.r12 : Plan :=
  .rd 0 none (.idxA 1 (.tmp 25) (.tmp 27)) (some 29) false <|
  .rd 1 none (.ld1 (.tmp 29)) (some 30) false <|
  .rd 2 none (.mv (.tmp 30)) (some 8) false <|
  .done
noncomputable def F.slices_Concat_api_Vector_api_Dot.r13 : Plan :=
  .rd 0 none (.mv (.tmp 6)) (some 31) false <|
  .rd 1 none (.mv (.tmp 8)) (some 32) false <|
  .ef 2 none (.app 2 16 (.tmp 31) (.tmp 32)) (some 33) [] (
  .rd 3 none (.mv (.tmp 33)) (some 6) false <|
  .done) .none
noncomputable def F.slices_Concat_api_Vector_api_Dot.r14 : Plan :=
  .rd 0 none (.bin .add (.tmp 27) (.const (.int .i64 1))) (some 34) false <|
  .rd 1 none (.mv (.tmp 34)) (some 27) false <|
  .done
noncomputable def F.slices_Concat_api_Vector_api_Dot.l1 : IC :=
    (.seq (.reg F.slices_Concat_api_Vector_api_Dot.r11)
    (.seq (.cond (.tmp 28) .skip (.exit 2))
    (.seq (.block 3 (.seq (.reg F.slices_Concat_api_Vector_api_Dot.r12)
    (.reg F.slices_Concat_api_Vector_api_Dot.r13)))
    (.reg F.slices_Concat_api_Vector_api_Dot.r14))))
noncomputable def F.slices_Concat_api_Vector_api_Dot.r15 : Plan :=
  .rd 0 none (.mv (.tmp 6)) (some 35) false <|
  .rd 1 none (.mv (.tmp 35)) (some 2) false <|
  .done
noncomputable def F.slices_Concat_api_Vector_api_Dot.ic : IC :=
    (.seq (.reg F.slices_Concat_api_Vector_api_Dot.r0)
    (.seq (.reg F.slices_Concat_api_Vector_api_Dot.r1)
    (.seq (.seq (.reg F.slices_Concat_api_Vector_api_Dot.r2)
    (.block 0 (.loop F.slices_Concat_api_Vector_api_Dot.l0)))
    (.seq (.reg F.slices_Concat_api_Vector_api_Dot.r9)
    (.seq (.seq (.reg F.slices_Concat_api_Vector_api_Dot.r10)
    (.block 2 (.loop F.slices_Concat_api_Vector_api_Dot.l1)))
    (.seq (.reg F.slices_Concat_api_Vector_api_Dot.r15)
    .ret))))))
noncomputable def F.slices_Concat_api_Vector_api_Dot.rs : List RO := [(.mv (.tmp 2))]
theorem F.slices_Concat_api_Vector_api_Dot.ok : cFunc Go.Proofs.Tryd.prog F.slices_Concat_api_Vector_api_Dot = some (36, F.slices_Concat_api_Vector_api_Dot.ic, F.slices_Concat_api_Vector_api_Dot.rs) := by kernel_rfl
theorem F.slices_Concat_api_Vector_api_Dot.cl : callable Go.Proofs.Tryd.prog F.slices_Concat_api_Vector_api_Dot = true := by kernel_rfl
noncomputable def F.slices_pdqsortCmpFunc_api_Dot.r0 : Plan :=
  .rd 0 none (.mv (.const (.bool true))) (some 10) false <|
  .done
noncomputable def F.slices_pdqsortCmpFunc_api_Dot.r1 : Plan :=
  .rd 0 none (.mv (.const (.bool true))) (some 11) false <|
  .done
noncomputable def F.slices_pdqsortCmpFunc_api_Dot.r2 : Plan :=
  .rd 0 none (.mv (.tmp 2)) (some 21) false <|
  .rd 1 none (.mv (.tmp 1)) (some 22) false <|
  .rd 2 none (.bin .sub (.tmp 21) (.tmp 22)) (some 23) false <|
  .rd 3 none (.mv (.tmp 23)) (some 12) false <|
  .done
noncomputable def F.slices_pdqsortCmpFunc_api_Dot.r3 : Plan :=
  .rd 0 none (.mv (.tmp 12)) (some 24) false <|
  .rd 1 none (.bin .leq (.tmp 24) (.const (.int .i64 12))) (some 25) false <|
  .done
noncomputable def F.slices_pdqsortCmpFunc_api_Dot.r4 : Plan :=
  .rd 0 none (.mv (.tmp 0)) (some 26) false <|
  .rd 1 none (.mv (.tmp 1)) (some 27) false <|
  .rd 2 none (.mv (.tmp 2)) (some 28) false <|
  .rd 3 none (.mv (.tmp 4)) (some 29) false <|
  .ef 4 none (.call F.slices_insertionSortCmpFunc_api_Dot [(.tmp 26), (.tmp 27), (.tmp 28), (.tmp 29)]) (some 30) [] (
  .done) .none
noncomputable def F.slices_pdqsortCmpFunc_api_Dot.r5 : Plan :=
  .rd 0 none (.mv (.tmp 3)) (some 31) false <|
  .rd 1 none (.bin .eql (.tmp 31) (.const (.int .i64 0))) (some 32) false <|
  .done
noncomputable def F.slices_pdqsortCmpFunc_api_Dot.r6 : Plan :=
  .rd 0 none (.mv (.tmp 0)) (some 33) false <|
  .rd 1 none (.mv (.tmp 1)) (some 34) false <|
  .rd 2 none (.mv (.tmp 2)) (some 35) false <|
  .rd 3 none (.mv (.tmp 4)) (some 36) false <|
  .ef 4 none (.call F.slices_heapSortCmpFunc_api_Dot [(.tmp 33), (.tmp 34), (.tmp 35), (.tmp 36)]) (some 37) [] (
  .done) .none
noncomputable def F.slices_pdqsortCmpFunc_api_Dot.r7 : Plan :=
  .rd 0 none (.mv (.tmp 10)) (some 38) false <|
  .rd 1 none (.un .not (.tmp 38)) (some 39) false <|
  .done
noncomputable def F.slices_pdqsortCmpFunc_api_Dot.r8 : Plan :=
  .rd 0 none (.mv (.tmp 0)) (some 40) false <|
  .rd 1 none (.mv (.tmp 1)) (some 41) false <|
  .rd 2 none (.mv (.tmp 2)) (some 42) false <|
  .rd 3 none (.mv (.tmp 4)) (some 43) false <|
  .ef 4 none (.call F.slices_breakPatternsCmpFunc_api_Dot [(.tmp 40), (.tmp 41), (.tmp 42), (.tmp 43)]) (some 44) [] (
  .done) .none
noncomputable def F.slices_pdqsortCmpFunc_api_Dot.r9 : Plan :=
  .rd 0 none (.mv (.tmp 3)) (some 45) false <|
  .rd 1 none (.bin .sub (.tmp 45) (.const (.int .i64 1))) (some 46) false <|
  .rd 2 none (.mv (.tmp 46)) (some 3) false <|
  .done
noncomputable def F.slices_pdqsortCmpFunc_api_Dot.r10 : Plan :=
  .rd 0 none (.mv (.tmp 0)) (some 48) false <|
  .rd 1 none (.mv (.tmp 1)) (some 49) false <|
  .rd 2 none (.mv (.tmp 2)) (some 50) false <|
  .rd 3 none (.mv (.tmp 4)) (some 51) false <|
  .ef 4 none (.call F.slices_choosePivotCmpFunc_api_Dot [(.tmp 48), (.tmp 49), (.tmp 50), (.tmp 51)]) (some 52) [] (
  .rd 5 none (.mv (.tmp 52)) (some 47) false <|
  .rd 6 none (.ext 0 (.tmp 47)) (some 53) false <|
  .rd 7 none (.ext 1 (.tmp 47)) (some 54) false <|
  .rd 8 none (.mv (.tmp 53)) (some 13) false <|
  .rd 9 none (.mv (.tmp 54)) (some 14) false <|
  .done) .none
noncomputable def F.slices_pdqsortCmpFunc_api_Dot.r11 : Plan :=
  .rd 0 none (.mv (.tmp 14)) (some 55) false <|
  .rd 1 none (.bin .eql (.tmp 55) (.const (.int .i64 2))) (some 56) false <|
  .done
noncomputable def F.slices_pdqsortCmpFunc_api_Dot.r12 : Plan :=
  .rd 0 none (.mv (.tmp 0)) (some 57) false <|
  .rd 1 none (.mv (.tmp 1)) (some 58) false <|
  .rd 2 none (.mv (.tmp 2)) (some 59) false <|
  .rd 3 none (.mv (.tmp 4)) (some 60) false <|
  .ef 4 none (.call F.slices_reverseRangeCmpFunc_api_Dot [(.tmp 57), (.tmp 58), (.tmp 59), (.tmp 60)]) (some 61) [] (
  .done) .none
noncomputable def F.slices_pdqsortCmpFunc_api_Dot.r13 : Plan :=
  .rd 0 none (.mv (.tmp 2)) (some 62) false <|
  .rd 1 none (.bin .sub (.tmp 62) (.const (.int .i64 1))) (some 63) false <|
  .rd 2 none (.mv (.tmp 13)) (some 64) false <|
  .rd 3 none (.mv (.tmp 1)) (some 65) false <|
  .rd 4 none (.bin .sub (.tmp 64) (.tmp 65)) (some 66) false <|
  .rd 5 none (.bin .sub (.tmp 63) (.tmp 66)) (some 67) false <|
  .rd 6 none (.mv (.tmp 67)) (some 13) false <|
  .done
noncomputable def F.slices_pdqsortCmpFunc_api_Dot.r14 : Plan :=
  .rd 0 none (.mv (.const (.int .i64 1))) (some 14) false <|
  .done
noncomputable def F.slices_pdqsortCmpFunc_api_Dot.r15 : Plan :=
  .rd 0 none (.mv (.tmp 10)) (some 68) false <|
  .rd 1 none (.mv (.tmp 68)) (some 69) false <|
  .rd 2 (some (69, true)) (.mv (.tmp 11)) (some 70) false <|
  .rd 3 none (.pick (.tmp 69) (.tmp 70) (.const (.bool false))) (some 71) false <|
  .rd 4 none (.mv (.tmp 71)) (some 72) false <|
  .rd 5 (some (72, true)) (.mv (.tmp 14)) (some 73) false <|
  .rd 6 (some (72, true)) (.bin .eql (.tmp 73) (.const (.int .i64 1))) (some 74) false <|
  .rd 7 none (.pick (.tmp 72) (.tmp 74) (.const (.bool false))) (some 75) false <|
  .done
noncomputable def F.slices_pdqsortCmpFunc_api_Dot.r16 : Plan :=
  .rd 0 none (.mv (.tmp 0)) (some 76) false <|
  .rd 1 none (.mv (.tmp 1)) (some 77) false <|
  .rd 2 none (.mv (.tmp 2)) (some 78) false <|
  .rd 3 none (.mv (.tmp 4)) (some 79) false <|
  .ef 4 none (.call F.slices_partialInsertionSortCmpFunc_api_Dot [(.tmp 76), (.tmp 77), (.tmp 78), (.tmp 79)]) (some 80) [] (
  .done) .none
noncomputable def F.slices_pdqsortCmpFunc_api_Dot.r17 : Plan :=
  .rd 0 none (.mv (.tmp 1)) (some 81) false <|
  .rd 1 none (.bin .gtr (.tmp 81) (.const (.int .i64 0))) (some 82) false <|
  .rd 2 none (.mv (.tmp 82)) (some 83) false <|
  .rd 3 (some (83, true)) (.mv (.tmp 4)) (some 84) false <|
  .rd 4 (some (83, true)) (.mv (.tmp 0)) (some 85) false <|
  .rd 5 (some (83, true)) (.mv (.tmp 1)) (some 86) false <|
  .rd 6 (some (83, true)) (.bin .sub (.tmp 86) (.const (.int .i64 1))) (some 87) false <|
  .rd 7 (some (83, true)) (.idxA 2 (.tmp 85) (.tmp 87)) (some 88) false <|
  .rd 8 (some (83, true)) (.ldn 2 (.tmp 88)) (some 89) false <|
  .rd 9 (some (83, true)) (.mv (.tmp 0)) (some 90) false <|
  .rd 10 (some (83, true)) (.mv (.tmp 13)) (some 91) false <|
  .rd 11 (some (83, true)) (.idxA 2 (.tmp 90) (.tmp 91)) (some 92) false <|
  .rd 12 (some (83, true)) (.ldn 2 (.tmp 92)) (some 93) false <|
  .ef 13 (some (83, true)) (.callv (.tmp 84) [(.tmp 89), (.tmp 93)]) (some 94) [] (
  .rd 14 (some (83, true)) (.bin .lss (.tmp 94) (.const (.int .i64 0))) (some 95) false <|
  .rd 15 (some (83, true)) (.un .not (.tmp 95)) (some 96) false <|
  .rd 16 none (.pick (.tmp 83) (.tmp 96) (.const (.bool false))) (some 97) false <|
  .done) .none
noncomputable def F.slices_pdqsortCmpFunc_api_Dot.r18 : Plan :=
  .rd 0 none (.mv (.tmp 0)) (some 98) false <|
  .rd 1 none (.mv (.tmp 1)) (some 99) false <|
  .rd 2 none (.mv (.tmp 2)) (some 100) false <|
  .rd 3 none (.mv (.tmp 13)) (some 101) false <|
  .rd 4 none (.mv (.tmp 4)) (some 102) false <|
  .ef 5 none (.call F.slices_partitionEqualCmpFunc_api_Dot [(.tmp 98), (.tmp 99), (.tmp 100), (.tmp 101), (.tmp 102)]) (some 103) [] (
  .rd 6 none (.mv (.tmp 103)) (some 15) false <|
  .done) .none
noncomputable def F.slices_pdqsortCmpFunc_api_Dot.r19 : Plan :=
  .rd 0 none (.mv (.tmp 15)) (some 104) false <|
  .rd 1 none (.mv (.tmp 104)) (some 1) false <|
  .done
noncomputable def F.slices_pdqsortCmpFunc_api_Dot.r20 : Plan :=
  .rd 0 none (.mv (.tmp 0)) (some 106) false <|
  .rd 1 none (.mv (.tmp 1)) (some 107) false <|
  .rd 2 none (.mv (.tmp 2)) (some 108) false <|
  .rd 3 none (.mv (.tmp 13)) (some 109) false <|
  .rd 4 none (.mv (.tmp 4)) (some 110) false <|
  .ef 5 none (.call F.slices_partitionCmpFunc_api_Dot [(.tmp 106), (.tmp 107), (.tmp 108), (.tmp 109), (.tmp 110)]) (some 111) [] (
  .rd 6 none (.mv (.tmp 111)) (some 105) false <|
  .rd 7 none (.ext 0 (.tmp 105)) (some 112) false <|
  .rd 8 none (.ext 1 (.tmp 105)) (some 113) false <|
  .rd 9 none (.mv (.tmp 112)) (some 16) false <|
  .rd 10 none (.mv (.tmp 113)) (some 17) false <|
  .done) .none
noncomputable def F.slices_pdqsortCmpFunc_api_Dot.r21 : Plan :=
  .rd 0 none (.mv (.tmp 17)) (some 114) false <|
  .rd 1 none (.mv (.tmp 114)) (some 11) false <|
  .done
noncomputable def F.slices_pdqsortCmpFunc_api_Dot.r22 : Plan :=
  .rd 0 none (.mv (.tmp 16)) (some 115) false <|
  .rd 1 none (.mv (.tmp 1)) (some 116) false <|
  .rd 2 none (.bin .sub (.tmp 115) (.tmp 116)) (some 117) false <|
  .rd 3 none (.mv (.tmp 2)) (some 118) false <|
  .rd 4 none (.mv (.tmp 16)) (some 119) false <|
  .rd 5 none (.bin .sub (.tmp 118) (.tmp 119)) (some 120) false <|
  .rd 6 none (.mv (.tmp 117)) (some 18) false <|
  .rd 7 none (.mv (.tmp 120)) (some 19) false <|
  .done
noncomputable def F.slices_pdqsortCmpFunc_api_Dot.r23 : Plan :=
  .rd 0 none (.mv (.tmp 12)) (some 121) false <|
  .rd 1 none (.bin .quo (.tmp 121) (.const (.int .i64 8))) (some 122) false <|
  .rd 2 none (.mv (.tmp 122)) (some 20) false <|
  .done
noncomputable def F.slices_pdqsortCmpFunc_api_Dot.r24 : Plan :=
  .rd 0 none (.mv (.tmp 18)) (some 123) false <|
  .rd 1 none (.mv (.tmp 19)) (some 124) false <|
  .rd 2 none (.bin .lss (.tmp 123) (.tmp 124)) (some 125) false <|
  .done
noncomputable def F.slices_pdqsortCmpFunc_api_Dot.r25 : Plan :=
  .rd 0 none (.mv (.tmp 18)) (some 126) false <|
  .rd 1 none (.mv (.tmp 20)) (some 127) false <|
  .rd 2 none (.bin .geq (.tmp 126) (.tmp 127)) (some 128) false <|
  .rd 3 none (.mv (.tmp 128)) (some 10) false <|
  .done
noncomputable def F.slices_pdqsortCmpFunc_api_Dot.r26 : Plan :=
  .rd 0 none (.mv (.tmp 0)) (some 129) false <|
  .rd 1 none (.mv (.tmp 1)) (some 130) false <|
  .rd 2 none (.mv (.tmp 16)) (some 131) false <|
  .rd 3 none (.mv (.tmp 3)) (some 132) false <|
  .rd 4 none (.mv (.tmp 4)) (some 133) false <|
  .ef 5 none (.call F.slices_pdqsortCmpFunc_api_Dot [(.tmp 129), (.tmp 130), (.tmp 131), (.tmp 132), (.tmp 133)]) (some 134) [] (
  .done) .none
noncomputable def F.slices_pdqsortCmpFunc_api_Dot.r27 : Plan :=
  .rd 0 none (.mv (.tmp 16)) (some 135) false <|
  .rd 1 none (.bin .add (.tmp 135) (.const (.int .i64 1))) (some 136) false <|
  .rd 2 none (.mv (.tmp 136)) (some 1) false <|
  .done
noncomputable def F.slices_pdqsortCmpFunc_api_Dot.r28 : Plan :=
  .rd 0 none (.mv (.tmp 19)) (some 137) false <|
  .rd 1 none (.mv (.tmp 20)) (some 138) false <|
  .rd 2 none (.bin .geq (.tmp 137) (.tmp 138)) (some 139) false <|
  .rd 3 none (.mv (.tmp 139)) (some 10) false <|
  .done
noncomputable def F.slices_pdqsortCmpFunc_api_Dot.r29 : Plan :=
  .rd 0 none (.mv (.tmp 0)) (some 140) false <|
  .rd 1 none (.mv (.tmp 16)) (some 141) false <|
  .rd 2 none (.bin .add (.tmp 141) (.const (.int .i64 1))) (some 142) false <|
  .rd 3 none (.mv (.tmp 2)) (some 143) false <|
  .rd 4 none (.mv (.tmp 3)) (some 144) false <|
  .rd 5 none (.mv (.tmp 4)) (some 145) false <|
  .ef 6 none (.call F.slices_pdqsortCmpFunc_api_Dot [(.tmp 140), (.tmp 142), (.tmp 143), (.tmp 144), (.tmp 145)]) (some 146) [] (
  .done) .none
noncomputable def F.slices_pdqsortCmpFunc_api_Dot.r30 : Plan :=
  .rd 0 none (.mv (.tmp 16)) (some 147) false <|
  .rd 1 none (.mv (.tmp 147)) (some 2) false <|
  .done
noncomputable def F.slices_pdqsortCmpFunc_api_Dot.l0 : IC :=
    (.block 1 (.seq (.reg F.slices_pdqsortCmpFunc_api_Dot.r2)
    (.seq (.seq (.reg F.slices_pdqsortCmpFunc_api_Dot.r3)
    (.cond (.tmp 25) (.seq (.reg F.slices_pdqsortCmpFunc_api_Dot.r4)
    .ret) .skip))
    (.seq (.seq (.reg F.slices_pdqsortCmpFunc_api_Dot.r5)
    (.cond (.tmp 32) (.seq (.reg F.slices_pdqsortCmpFunc_api_Dot.r6)
    .ret) .skip))
    (.seq (.seq (.reg F.slices_pdqsortCmpFunc_api_Dot.r7)
    (.cond (.tmp 39) (.seq (.reg F.slices_pdqsortCmpFunc_api_Dot.r8)
    (.reg F.slices_pdqsortCmpFunc_api_Dot.r9)) .skip))
    (.seq (.reg F.slices_pdqsortCmpFunc_api_Dot.r10)
    (.seq (.seq (.reg F.slices_pdqsortCmpFunc_api_Dot.r11)
    (.cond (.tmp 56) (.seq (.reg F.slices_pdqsortCmpFunc_api_Dot.r12)
    (.seq (.reg F.slices_pdqsortCmpFunc_api_Dot.r13)
    (.reg F.slices_pdqsortCmpFunc_api_Dot.r14))) .skip))
    (.seq (.seq (.reg F.slices_pdqsortCmpFunc_api_Dot.r15)
    (.cond (.tmp 75) (.seq (.reg F.slices_pdqsortCmpFunc_api_Dot.r16)
    (.cond (.tmp 80) .ret .skip)) .skip))
    (.seq (.seq (.reg F.slices_pdqsortCmpFunc_api_Dot.r17)
    (.cond (.tmp 97) (.seq (.reg F.slices_pdqsortCmpFunc_api_Dot.r18)
    (.seq (.reg F.slices_pdqsortCmpFunc_api_Dot.r19)
    (.exit 1))) .skip))
    (.seq (.reg F.slices_pdqsortCmpFunc_api_Dot.r20)
    (.seq (.reg F.slices_pdqsortCmpFunc_api_Dot.r21)
    (.seq (.reg F.slices_pdqsortCmpFunc_api_Dot.r22)
    (.seq (.reg F.slices_pdqsortCmpFunc_api_Dot.r23)
    (.seq (.reg F.slices_pdqsortCmpFunc_api_Dot.r24)
    (.cond (.tmp 125) (.seq (.reg F.slices_pdqsortCmpFunc_api_Dot.r25)
    (.seq (.reg F.slices_pdqsortCmpFunc_api_Dot.r26)
    (.reg F.slices_pdqsortCmpFunc_api_Dot.r27))) (.seq (.reg F.slices_pdqsortCmpFunc_api_Dot.r28)
    (.seq (.reg F.slices_pdqsortCmpFunc_api_Dot.r29)
    (.reg F.slices_pdqsortCmpFunc_api_Dot.r30))))))))))))))))))
noncomputable def F.slices_pdqsortCmpFunc_api_Dot.ic : IC :=
    (.seq (.reg F.slices_pdqsortCmpFunc_api_Dot.r0)
    (.seq (.reg F.slices_pdqsortCmpFunc_api_Dot.r1)
    (.block 0 (.loop F.slices_pdqsortCmpFunc_api_Dot.l0))))
noncomputable def F.slices_pdqsortCmpFunc_api_Dot.rs : List RO := []
theorem F.slices_pdqsortCmpFunc_api_Dot.ok : cFunc Go.Proofs.Tryd.prog F.slices_pdqsortCmpFunc_api_Dot = some (148, F.slices_pdqsortCmpFunc_api_Dot.ic, F.slices_pdqsortCmpFunc_api_Dot.rs) := by kernel_rfl
theorem F.slices_pdqsortCmpFunc_api_Dot.cl : callable Go.Proofs.Tryd.prog F.slices_pdqsortCmpFunc_api_Dot = true := by kernel_rfl
noncomputable def F.bits_Len.r0 : Plan :=
  .rd 0 none (.mv (.const (.int .i64 0))) (some 2) false <|
  .done
noncomputable def F.bits_Len.r1 : Plan :=
  .rd 0 none (.mv (.tmp 0)) (some 3) false <|
  .rd 1 none (.convI .u32 (.tmp 3)) (some 4) false <|
  .ef 2 none (.call F.bits_Len32 [(.tmp 4)]) (some 5) [] (
  .rd 3 none (.mv (.tmp 5)) (some 2) false <|
  .done) .none
noncomputable def F.bits_Len.r2 : Plan :=
  .rd 0 none (.mv (.tmp 0)) (some 6) false <|
  .ef 1 none (.call F.bits_Len64 [(.tmp 6)]) (some 7) [] (
  .rd 2 none (.mv (.tmp 7)) (some 2) false <|
  .done) .none
noncomputable def F.bits_Len.ic : IC :=
    (.seq (.reg F.bits_Len.r0)
    (.seq (.cond (.const (.bool false)) (.seq (.reg F.bits_Len.r1)
    .ret) .skip)
    (.seq (.reg F.bits_Len.r2)
    .ret)))
noncomputable def F.bits_Len.rs : List RO := [(.mv (.tmp 2))]
theorem F.bits_Len.ok : cFunc Go.Proofs.Tryd.prog F.bits_Len = some (8, F.bits_Len.ic, F.bits_Len.rs) := by kernel_rfl
theorem F.bits_Len.cl : callable Go.Proofs.Tryd.prog F.bits_Len = true := by kernel_rfl
noncomputable def F.slices_Grow_api_Vector_api_Dot.r0 : Plan :=
  .rd 0 none (.mv (.const (.slice none 0 0))) (some 4) false <|
  .done
noncomputable def F.slices_Grow_api_Vector_api_Dot.r1 : Plan :=
  .rd 0 none (.mv (.tmp 1)) (some 5) false <|
  .rd 1 none (.bin .lss (.tmp 5) (.const (.int .i64 0))) (some 6) false <|
  .done
noncomputable def F.slices_Grow_api_Vector_api_Dot.r2 : Plan :=
  .rd 0 none (.mkI 9 (.const (.string ⟨#[99, 97, 110, 110, 111, 116, 32, 98, 101, 32, 110, 101, 103, 97, 116, 105, 118, 101]⟩))) (some 7) false <|
  .ef 1 none .pan none [] (
  .done) .none
noncomputable def F.slices_Grow_api_Vector_api_Dot.r3 : Plan :=
  .rd 0 none (.mv (.tmp 1)) (some 8) false <|
  .rd 1 none (.mv (.tmp 0)) (some 9) false <|
  .rd 2 none (.capS (.tmp 9)) (some 10) false <|
  .rd 3 none (.mv (.tmp 0)) (some 11) false <|
  .rd 4 none (.len .sl (.tmp 11)) (some 12) false <|
  .rd 5 none (.bin .sub (.tmp 10) (.tmp 12)) (some 13) false <|
  .rd 6 none (.bin .sub (.tmp 8) (.tmp 13)) (some 14) false <|
  .rd 7 none (.mv (.tmp 14)) (some 1) false <|
  .done
noncomputable def F.slices_Grow_api_Vector_api_Dot.r4 : Plan :=
  .rd 0 none (.mv (.tmp 1)) (some 15) false <|
  .rd 1 none (.bin .gtr (.tmp 15) (.const (.int .i64 0))) (some 16) false <|
  .done
noncomputable def F.slices_Grow_api_Vector_api_Dot.r5 : Plan :=
  .rd 0 none (.mv (.tmp 0)) (some 17) false <|
  .rd 1 none (.mv (.tmp 0)) (some 18) false <|
  .rd 2 none (.capS (.tmp 18)) (some 19) false <|
  .rd 3 none (.sl 2 (.tmp 17) none (some (.tmp 19)) none) (some 20) false <|
  .rd 4 none (.mv (.tmp 1)) (some 21) false <|
  .ef 5 none (.appZ 2 16 [(.int .i64 0), (.int .i64 0)] (.tmp 20) (.tmp 21)) (some 22) [] (
  .rd 6 none (.mv (.tmp 0)) (some 23) false <|
  .rd 7 none (.len .sl (.tmp 23)) (some 24) false <|
  .rd 8 none (.sl 2 (.tmp 22) none (some (.tmp 24)) none) (some 25) false <|
  .rd 9 none (.mv (.tmp 25)) (some 0) false <|
  .done) .none
noncomputable def F.slices_Grow_api_Vector_api_Dot.r6 : Plan :=
  .rd 0 none (.mv (.tmp 0)) (some 26) false <|
  .rd 1 none (.mv (.tmp 26)) (some 4) false <|
  .done
noncomputable def F.slices_Grow_api_Vector_api_Dot.ic : IC :=
    (.seq (.reg F.slices_Grow_api_Vector_api_Dot.r0)
    (.seq (.seq (.reg F.slices_Grow_api_Vector_api_Dot.r1)
    (.cond (.tmp 6) (.reg F.slices_Grow_api_Vector_api_Dot.r2) .skip))
    (.seq (.seq (.reg F.slices_Grow_api_Vector_api_Dot.r3)
    (.seq (.reg F.slices_Grow_api_Vector_api_Dot.r4)
    (.cond (.tmp 16) (.reg F.slices_Grow_api_Vector_api_Dot.r5) .skip)))
    (.seq (.reg F.slices_Grow_api_Vector_api_Dot.r6)
    .ret))))
noncomputable def F.slices_Grow_api_Vector_api_Dot.rs : List RO := [(.mv (.tmp 4))]
theorem F.slices_Grow_api_Vector_api_Dot.ok : cFunc Go.Proofs.Tryd.prog F.slices_Grow_api_Vector_api_Dot = some (27, F.slices_Grow_api_Vector_api_Dot.ic, F.slices_Grow_api_Vector_api_Dot.rs) := by kernel_rfl
theorem F.slices_Grow_api_Vector_api_Dot.cl : callable Go.Proofs.Tryd.prog F.slices_Grow_api_Vector_api_Dot = true := by kernel_rfl
noncomputable def F.slices_insertionSortCmpFunc_api_Dot.r0 : Plan :=
  .rd 0 none (.mv (.tmp 1)) (some 10) false <|
  .rd 1 none (.bin .add (.tmp 10) (.const (.int .i64 1))) (some 11) false <|
  .rd 2 none (.mv (.tmp 11)) (some 8) false <|
  .done
noncomputable def F.slices_insertionSortCmpFunc_api_Dot.r1 : Plan :=
  .rd 0 none (.mv (.tmp 8)) (some 12) false <|
  .rd 1 none (.mv (.tmp 2)) (some 13) false <|
  .rd 2 none (.bin .lss (.tmp 12) (.tmp 13)) (some 14) false <|
  .done
noncomputable def F.slices_insertionSortCmpFunc_api_Dot.r2 : Plan :=
  .rd 0 none (.mv (.tmp 8)) (some 17) false <|
  .rd 1 none (.mv (.tmp 17)) (some 9) false <|
  .done
noncomputable def F.slices_insertionSortCmpFunc_api_Dot.r3 : Plan :=
  .rd 0 none (.mv (.tmp 9)) (some 18) false <|
  .rd 1 none (.mv (.tmp 1)) (some 19) false <|
  .rd 2 none (.bin .gtr (.tmp 18) (.tmp 19)) (some 20) false <|
  .rd 3 none (.mv (.tmp 20)) (some 21) false <|
  .rd 4 (some (21, true)) (.mv (.tmp 3)) (some 22) false <|
  .rd 5 (some (21, true)) (.mv (.tmp 0)) (some 23) false <|
  .rd 6 (some (21, true)) (.mv (.tmp 9)) (some 24) false <|
  .rd 7 (some (21, true)) (.idxA 2 (.tmp 23) (.tmp 24)) (some 25) false <|
  .rd 8 (some (21, true)) (.ldn 2 (.tmp 25)) (some 26) false <|
  .rd 9 (some (21, true)) (.mv (.tmp 0)) (some 27) false <|
  .rd 10 (some (21, true)) (.mv (.tmp 9)) (some 28) false <|
  .rd 11 (some (21, true)) (.bin .sub (.tmp 28) (.const (.int .i64 1))) (some 29) false <|
  .rd 12 (some (21, true)) (.idxA 2 (.tmp 27) (.tmp 29)) (some 30) false <|
  .rd 13 (some (21, true)) (.ldn 2 (.tmp 30)) (some 31) false <|
  .ef 14 (some (21, true)) (.callv (.tmp 22) [(.tmp 26), (.tmp 31)]) (some 32) [] (
  .rd 15 (some (21, true)) (.bin .lss (.tmp 32) (.const (.int .i64 0))) (some 33) false <|
  .rd 16 none (.pick (.tmp 21) (.tmp 33) (.const (.bool false))) (some 34) false <|
  .done) .none
noncomputable def F.slices_insertionSortCmpFunc_api_Dot.r4 : Plan :=
  .rd 0 none (.mv (.tmp 0)) (some 37) false <|
  .rd 1 none (.mv (.tmp 9)) (some 38) false <|
  .rd 2 none (.mv (.tmp 0)) (some 39) false <|
  .rd 3 none (.mv (.tmp 9)) (some 40) false <|
  .rd 4 none (.bin .sub (.tmp 40) (.const (.int .i64 1))) (some 41) false <|
  .rd 5 none (.mv (.tmp 0)) (some 42) false <|
  .rd 6 none (.mv (.tmp 9)) (some 43) false <|
  .rd 7 none (.bin .sub (.tmp 43) (.const (.int .i64 1))) (some 44) false <|
  .rd 8 none (.idxA 2 (.tmp 42) (.tmp 44)) (some 45) false <|
  .rd 9 none (.ldn 2 (.tmp 45)) (some 46) false <|
  .rd 10 none (.mv (.tmp 0)) (some 47) false <|
  .rd 11 none (.mv (.tmp 9)) (some 48) false <|
  .rd 12 none (.idxA 2 (.tmp 47) (.tmp 48)) (some 49) false <|
  .rd 13 none (.ldn 2 (.tmp 49)) (some 50) false <|
  .rd 14 none (.idxA 2 (.tmp 37) (.tmp 38)) (some 51) false <|
  .ef 15 none (.st 2 (.tmp 51) (.tmp 46)) none [2, 3, 4] (
  .rd 16 none (.idxA 2 (.tmp 39) (.tmp 41)) (some 52) false <|
  .ef 17 none (.st 2 (.tmp 52) (.tmp 50)) none [] (
  .done) .none) .none
noncomputable def F.slices_insertionSortCmpFunc_api_Dot.r5 : Plan :=
  .rd 0 none (.mv (.tmp 9)) (some 35) false <|
  .rd 1 none (.bin .sub (.tmp 35) (.const (.int .i64 1))) (some 36) false <|
  .rd 2 none (.mv (.tmp 36)) (some 9) false <|
  .done
noncomputable def F.slices_insertionSortCmpFunc_api_Dot.l0 : IC :=
    (.seq (.seq (.reg F.slices_insertionSortCmpFunc_api_Dot.r3)
    (.cond (.tmp 34) .skip (.exit 2)))
    (.seq (.block 3 (.reg F.slices_insertionSortCmpFunc_api_Dot.r4))
    (.reg F.slices_insertionSortCmpFunc_api_Dot.r5)))
noncomputable def F.slices_insertionSortCmpFunc_api_Dot.r6 : Plan :=
  .rd 0 none (.mv (.tmp 8)) (some 15) false <|
  .rd 1 none (.bin .add (.tmp 15) (.const (.int .i64 1))) (some 16) false <|
  .rd 2 none (.mv (.tmp 16)) (some 8) false <|
  .done
noncomputable def F.slices_insertionSortCmpFunc_api_Dot.l1 : IC :=
    (.seq (.seq (.reg F.slices_insertionSortCmpFunc_api_Dot.r1)
    (.cond (.tmp 14) .skip (.exit 0)))
    (.seq (.block 1 (.seq (.reg F.slices_insertionSortCmpFunc_api_Dot.r2)
    (.block 2 (.loop F.slices_insertionSortCmpFunc_api_Dot.l0))))
    (.reg F.slices_insertionSortCmpFunc_api_Dot.r6)))
noncomputable def F.slices_insertionSortCmpFunc_api_Dot.ic : IC :=
    (.seq (.reg F.slices_insertionSortCmpFunc_api_Dot.r0)
    (.block 0 (.loop F.slices_insertionSortCmpFunc_api_Dot.l1)))
noncomputable def F.slices_insertionSortCmpFunc_api_Dot.rs : List RO := []
theorem F.slices_insertionSortCmpFunc_api_Dot.ok : cFunc Go.Proofs.Tryd.prog F.slices_insertionSortCmpFunc_api_Dot = some (53, F.slices_insertionSortCmpFunc_api_Dot.ic, F.slices_insertionSortCmpFunc_api_Dot.rs) := by kernel_rfl
theorem F.slices_insertionSortCmpFunc_api_Dot.cl : callable Go.Proofs.Tryd.prog F.slices_insertionSortCmpFunc_api_Dot = true := by kernel_rfl
noncomputable def F.slices_heapSortCmpFunc_api_Dot.r0 : Plan :=
  .rd 0 none (.mv (.tmp 1)) (some 13) false <|
  .rd 1 none (.mv (.tmp 13)) (some 8) false <|
  .done
noncomputable def F.slices_heapSortCmpFunc_api_Dot.r1 : Plan :=
  .rd 0 none (.mv (.const (.int .i64 0))) (some 9) false <|
  .done
noncomputable def F.slices_heapSortCmpFunc_api_Dot.r2 : Plan :=
  .rd 0 none (.mv (.tmp 2)) (some 14) false <|
  .rd 1 none (.mv (.tmp 1)) (some 15) false <|
  .rd 2 none (.bin .sub (.tmp 14) (.tmp 15)) (some 16) false <|
  .rd 3 none (.mv (.tmp 16)) (some 10) false <|
  .done
noncomputable def F.slices_heapSortCmpFunc_api_Dot.r3 : Plan :=
  .rd 0 none (.mv (.tmp 10)) (some 17) false <|
  .rd 1 none (.bin .sub (.tmp 17) (.const (.int .i64 1))) (some 18) false <|
  .rd 2 none (.bin .quo (.tmp 18) (.const (.int .i64 2))) (some 19) false <|
  .rd 3 none (.mv (.tmp 19)) (some 11) false <|
  .done
noncomputable def F.slices_heapSortCmpFunc_api_Dot.r4 : Plan :=
  .rd 0 none (.mv (.tmp 11)) (some 20) false <|
  .rd 1 none (.bin .geq (.tmp 20) (.const (.int .i64 0))) (some 21) false <|
  .done
noncomputable def F.slices_heapSortCmpFunc_api_Dot.r5 : Plan :=
  .rd 0 none (.mv (.tmp 0)) (some 24) false <|
  .rd 1 none (.mv (.tmp 11)) (some 25) false <|
  .rd 2 none (.mv (.tmp 10)) (some 26) false <|
  .rd 3 none (.mv (.tmp 8)) (some 27) false <|
  .rd 4 none (.mv (.tmp 3)) (some 28) false <|
  .ef 5 none (.call F.slices_siftDownCmpFunc_api_Dot [(.tmp 24), (.tmp 25), (.tmp 26), (.tmp 27), (.tmp 28)]) (some 29) [] (
  .done) .none
noncomputable def F.slices_heapSortCmpFunc_api_Dot.r6 : Plan :=
  .rd 0 none (.mv (.tmp 11)) (some 22) false <|
  .rd 1 none (.bin .sub (.tmp 22) (.const (.int .i64 1))) (some 23) false <|
  .rd 2 none (.mv (.tmp 23)) (some 11) false <|
  .done
noncomputable def F.slices_heapSortCmpFunc_api_Dot.l0 : IC :=
    (.seq (.seq (.reg F.slices_heapSortCmpFunc_api_Dot.r4)
    (.cond (.tmp 21) .skip (.exit 0)))
    (.seq (.block 1 (.reg F.slices_heapSortCmpFunc_api_Dot.r5))
    (.reg F.slices_heapSortCmpFunc_api_Dot.r6)))
noncomputable def F.slices_heapSortCmpFunc_api_Dot.r7 : Plan :=
  .rd 0 none (.mv (.tmp 10)) (some 30) false <|
  .rd 1 none (.bin .sub (.tmp 30) (.const (.int .i64 1))) (some 31) false <|
  .rd 2 none (.mv (.tmp 31)) (some 12) false <|
  .done
noncomputable def F.slices_heapSortCmpFunc_api_Dot.r8 : Plan :=
  .rd 0 none (.mv (.tmp 12)) (some 32) false <|
  .rd 1 none (.bin .geq (.tmp 32) (.const (.int .i64 0))) (some 33) false <|
  .done
noncomputable def F.slices_heapSortCmpFunc_api_Dot.r9 : Plan :=
  .rd 0 none (.mv (.tmp 0)) (some 36) false <|
  .rd 1 none (.mv (.tmp 8)) (some 37) false <|
  .rd 2 none (.mv (.tmp 0)) (some 38) false <|
  .rd 3 none (.mv (.tmp 8)) (some 39) false <|
  .rd 4 none (.mv (.tmp 12)) (some 40) false <|
  .rd 5 none (.bin .add (.tmp 39) (.tmp 40)) (some 41) false <|
  .rd 6 none (.mv (.tmp 0)) (some 42) false <|
  .rd 7 none (.mv (.tmp 8)) (some 43) false <|
  .rd 8 none (.mv (.tmp 12)) (some 44) false <|
  .rd 9 none (.bin .add (.tmp 43) (.tmp 44)) (some 45) false <|
  .rd 10 none (.idxA 2 (.tmp 42) (.tmp 45)) (some 46) false <|
  .rd 11 none (.ldn 2 (.tmp 46)) (some 47) false <|
  .rd 12 none (.mv (.tmp 0)) (some 48) false <|
  .rd 13 none (.mv (.tmp 8)) (some 49) false <|
  .rd 14 none (.idxA 2 (.tmp 48) (.tmp 49)) (some 50) false <|
  .rd 15 none (.ldn 2 (.tmp 50)) (some 51) false <|
  .rd 16 none (.idxA 2 (.tmp 36) (.tmp 37)) (some 52) false <|
  .ef 17 none (.st 2 (.tmp 52) (.tmp 47)) none [2, 3, 4, 5] (
  .rd 18 none (.idxA 2 (.tmp 38) (.tmp 41)) (some 53) false <|
  .ef 19 none (.st 2 (.tmp 53) (.tmp 51)) none [] (
  .done) .none) .none
noncomputable def F.slices_heapSortCmpFunc_api_Dot.r10 : Plan :=
  .rd 0 none (.mv (.tmp 0)) (some 54) false <|
  .rd 1 none (.mv (.tmp 9)) (some 55) false <|
  .rd 2 none (.mv (.tmp 12)) (some 56) false <|
  .rd 3 none (.mv (.tmp 8)) (some 57) false <|
  .rd 4 none (.mv (.tmp 3)) (some 58) false <|
  .ef 5 none (.call F.slices_siftDownCmpFunc_api_Dot [(.tmp 54), (.tmp 55), (.tmp 56), (.tmp 57), (.tmp 58)]) (some 59) [] (
  .done) .none
noncomputable def F.slices_heapSortCmpFunc_api_Dot.r11 : Plan :=
  .rd 0 none (.mv (.tmp 12)) (some 34) false <|
  .rd 1 none (.bin .sub (.tmp 34) (.const (.int .i64 1))) (some 35) false <|
  .rd 2 none (.mv (.tmp 35)) (some 12) false <|
  .done
noncomputable def F.slices_heapSortCmpFunc_api_Dot.l1 : IC :=
    (.seq (.seq (.reg F.slices_heapSortCmpFunc_api_Dot.r8)
    (.cond (.tmp 33) .skip (.exit 2)))
    (.seq (.block 3 (.seq (.reg F.slices_heapSortCmpFunc_api_Dot.r9)
    (.reg F.slices_heapSortCmpFunc_api_Dot.r10)))
    (.reg F.slices_heapSortCmpFunc_api_Dot.r11)))
noncomputable def F.slices_heapSortCmpFunc_api_Dot.ic : IC :=
    (.seq (.reg F.slices_heapSortCmpFunc_api_Dot.r0)
    (.seq (.reg F.slices_heapSortCmpFunc_api_Dot.r1)
    (.seq (.reg F.slices_heapSortCmpFunc_api_Dot.r2)
    (.seq (.seq (.reg F.slices_heapSortCmpFunc_api_Dot.r3)
    (.block 0 (.loop F.slices_heapSortCmpFunc_api_Dot.l0)))
    (.seq (.reg F.slices_heapSortCmpFunc_api_Dot.r7)
    (.block 2 (.loop F.slices_heapSortCmpFunc_api_Dot.l1)))))))
noncomputable def F.slices_heapSortCmpFunc_api_Dot.rs : List RO := []
theorem F.slices_heapSortCmpFunc_api_Dot.ok : cFunc Go.Proofs.Tryd.prog F.slices_heapSortCmpFunc_api_Dot = some (60, F.slices_heapSortCmpFunc_api_Dot.ic, F.slices_heapSortCmpFunc_api_Dot.rs) := by kernel_rfl
theorem F.slices_heapSortCmpFunc_api_Dot.cl : callable Go.Proofs.Tryd.prog F.slices_heapSortCmpFunc_api_Dot = true := by kernel_rfl
noncomputable def F.slices_breakPatternsCmpFunc_api_Dot.r0 : Plan :=
  .rd 0 none (.mv (.tmp 2)) (some 13) false <|
  .rd 1 none (.mv (.tmp 1)) (some 14) false <|
  .rd 2 none (.bin .sub (.tmp 13) (.tmp 14)) (some 15) false <|
  .rd 3 none (.mv (.tmp 15)) (some 8) false <|
  .done
noncomputable def F.slices_breakPatternsCmpFunc_api_Dot.r1 : Plan :=
  .rd 0 none (.mv (.tmp 8)) (some 16) false <|
  .rd 1 none (.bin .geq (.tmp 16) (.const (.int .i64 8))) (some 17) false <|
  .done
noncomputable def F.slices_breakPatternsCmpFunc_api_Dot.r2 : Plan :=
  .rd 0 none (.mv (.tmp 8)) (some 18) false <|
  .rd 1 none (.convI .u64 (.tmp 18)) (some 19) false <|
  .ef 2 none (.alloc [(.int .u64 0)]) (some 9) [] (
  .ef 3 none (.st 1 (.tmp 9) (.tmp 19)) none [] (
  .done) .none) .none
noncomputable def F.slices_breakPatternsCmpFunc_api_Dot.r3 : Plan :=
  .rd 0 none (.mv (.tmp 8)) (some 20) false <|
  .ef 1 none (.call F.slices_nextPowerOfTwo [(.tmp 20)]) (some 21) [] (
  .rd 2 none (.mv (.tmp 21)) (some 10) false <|
  .done) .none
noncomputable def F.slices_breakPatternsCmpFunc_api_Dot.r4 : Plan :=
  .rd 0 none (.mv (.tmp 1)) (some 22) false <|
  .rd 1 none (.mv (.tmp 8)) (some 23) false <|
  .rd 2 none (.bin .quo (.tmp 23) (.const (.int .i64 4))) (some 24) false <|
  .rd 3 none (.bin .mul (.tmp 24) (.const (.int .i64 2))) (some 25) false <|
  .rd 4 none (.bin .add (.tmp 22) (.tmp 25)) (some 26) false <|
  .rd 5 none (.bin .sub (.tmp 26) (.const (.int .i64 1))) (some 27) false <|
  .rd 6 none (.mv (.tmp 27)) (some 11) false <|
  .done
noncomputable def F.slices_breakPatternsCmpFunc_api_Dot.r5 : Plan :=
  .rd 0 none (.mv (.tmp 11)) (some 28) false <|
  .rd 1 none (.mv (.tmp 1)) (some 29) false <|
  .rd 2 none (.mv (.tmp 8)) (some 30) false <|
  .rd 3 none (.bin .quo (.tmp 30) (.const (.int .i64 4))) (some 31) false <|
  .rd 4 none (.bin .mul (.tmp 31) (.const (.int .i64 2))) (some 32) false <|
  .rd 5 none (.bin .add (.tmp 29) (.tmp 32)) (some 33) false <|
  .rd 6 none (.bin .add (.tmp 33) (.const (.int .i64 1))) (some 34) false <|
  .rd 7 none (.bin .leq (.tmp 28) (.tmp 34)) (some 35) false <|
  .done
noncomputable def F.slices_breakPatternsCmpFunc_api_Dot.r6 : Plan :=
  .ef 0 none (.call F.slices_xorshift_Next [(.tmp 9)]) (some 38) [] (
  .rd 1 none (.mv (.tmp 10)) (some 39) false <|
  .rd 2 none (.bin .sub (.tmp 39) (.const (.int .u64 1))) (some 40) false <|
  .rd 3 none (.bin .and (.tmp 38) (.tmp 40)) (some 41) false <|
  .rd 4 none (.convI .i64 (.tmp 41)) (some 42) false <|
  .rd 5 none (.mv (.tmp 42)) (some 12) false <|
  .done) .none
noncomputable def F.slices_breakPatternsCmpFunc_api_Dot.r7 : Plan :=
  .rd 0 none (.mv (.tmp 12)) (some 43) false <|
  .rd 1 none (.mv (.tmp 8)) (some 44) false <|
  .rd 2 none (.bin .geq (.tmp 43) (.tmp 44)) (some 45) false <|
  .done
noncomputable def F.slices_breakPatternsCmpFunc_api_Dot.r8 : Plan :=
  .rd 0 none (.mv (.tmp 12)) (some 46) false <|
  .rd 1 none (.mv (.tmp 8)) (some 47) false <|
  .rd 2 none (.bin .sub (.tmp 46) (.tmp 47)) (some 48) false <|
  .rd 3 none (.mv (.tmp 48)) (some 12) false <|
  .done
noncomputable def F.slices_breakPatternsCmpFunc_api_Dot.r9 : Plan :=
  .rd 0 none (.mv (.tmp 0)) (some 49) false <|
  .rd 1 none (.mv (.tmp 11)) (some 50) false <|
  .rd 2 none (.mv (.tmp 0)) (some 51) false <|
  .rd 3 none (.mv (.tmp 1)) (some 52) false <|
  .rd 4 none (.mv (.tmp 12)) (some 53) false <|
  .rd 5 none (.bin .add (.tmp 52) (.tmp 53)) (some 54) false <|
  .rd 6 none (.mv (.tmp 0)) (some 55) false <|
  .rd 7 none (.mv (.tmp 1)) (some 56) false <|
  .rd 8 none (.mv (.tmp 12)) (some 57) false <|
  .rd 9 none (.bin .add (.tmp 56) (.tmp 57)) (some 58) false <|
  .rd 10 none (.idxA 2 (.tmp 55) (.tmp 58)) (some 59) false <|
  .rd 11 none (.ldn 2 (.tmp 59)) (some 60) false <|
  .rd 12 none (.mv (.tmp 0)) (some 61) false <|
  .rd 13 none (.mv (.tmp 11)) (some 62) false <|
  .rd 14 none (.idxA 2 (.tmp 61) (.tmp 62)) (some 63) false <|
  .rd 15 none (.ldn 2 (.tmp 63)) (some 64) false <|
  .rd 16 none (.idxA 2 (.tmp 49) (.tmp 50)) (some 65) false <|
  .ef 17 none (.st 2 (.tmp 65) (.tmp 60)) none [2, 3, 4, 5] (
  .rd 18 none (.idxA 2 (.tmp 51) (.tmp 54)) (some 66) false <|
  .ef 19 none (.st 2 (.tmp 66) (.tmp 64)) none [] (
  .done) .none) .none
noncomputable def F.slices_breakPatternsCmpFunc_api_Dot.r10 : Plan :=
  .rd 0 none (.mv (.tmp 11)) (some 36) false <|
  .rd 1 none (.bin .add (.tmp 36) (.const (.int .i64 1))) (some 37) false <|
  .rd 2 none (.mv (.tmp 37)) (some 11) false <|
  .done
noncomputable def F.slices_breakPatternsCmpFunc_api_Dot.l0 : IC :=
    (.seq (.seq (.reg F.slices_breakPatternsCmpFunc_api_Dot.r5)
    (.cond (.tmp 35) .skip (.exit 0)))
    (.seq (.block 1 (.seq (.reg F.slices_breakPatternsCmpFunc_api_Dot.r6)
    (.seq (.seq (.reg F.slices_breakPatternsCmpFunc_api_Dot.r7)
    (.cond (.tmp 45) (.reg F.slices_breakPatternsCmpFunc_api_Dot.r8) .skip))
    (.reg F.slices_breakPatternsCmpFunc_api_Dot.r9))))
    (.reg F.slices_breakPatternsCmpFunc_api_Dot.r10)))
noncomputable def F.slices_breakPatternsCmpFunc_api_Dot.ic : IC :=
    (.seq (.reg F.slices_breakPatternsCmpFunc_api_Dot.r0)
    (.seq (.reg F.slices_breakPatternsCmpFunc_api_Dot.r1)
    (.cond (.tmp 17) (.seq (.reg F.slices_breakPatternsCmpFunc_api_Dot.r2)
    (.seq (.reg F.slices_breakPatternsCmpFunc_api_Dot.r3)
    (.seq (.reg F.slices_breakPatternsCmpFunc_api_Dot.r4)
    (.block 0 (.loop F.slices_breakPatternsCmpFunc_api_Dot.l0))))) .skip)))
noncomputable def F.slices_breakPatternsCmpFunc_api_Dot.rs : List RO := []
theorem F.slices_breakPatternsCmpFunc_api_Dot.ok : cFunc Go.Proofs.Tryd.prog F.slices_breakPatternsCmpFunc_api_Dot = some (67, F.slices_breakPatternsCmpFunc_api_Dot.ic, F.slices_breakPatternsCmpFunc_api_Dot.rs) := by kernel_rfl
theorem F.slices_breakPatternsCmpFunc_api_Dot.cl : callable Go.Proofs.Tryd.prog F.slices_breakPatternsCmpFunc_api_Dot = true := by kernel_rfl
noncomputable def F.slices_choosePivotCmpFunc_api_Dot.r0 : Plan :=
  .rd 0 none (.mv (.const (.int .i64 0))) (some 8) false <|
  .rd 1 none (.mv (.const (.int .i64 0))) (some 9) false <|
  .done
noncomputable def F.slices_choosePivotCmpFunc_api_Dot.r1 : Plan :=
  .rd 0 none (.mv (.tmp 2)) (some 15) false <|
  .rd 1 none (.mv (.tmp 1)) (some 16) false <|
  .rd 2 none (.bin .sub (.tmp 15) (.tmp 16)) (some 17) false <|
  .rd 3 none (.mv (.tmp 17)) (some 10) false <|
  .done
noncomputable def F.slices_choosePivotCmpFunc_api_Dot.r2 : Plan :=
  .ef 0 none (.alloc [(.int .i64 0)]) (some 11) [] (
  .done) .none
noncomputable def F.slices_choosePivotCmpFunc_api_Dot.r3 : Plan :=
  .rd 0 none (.mv (.tmp 1)) (some 18) false <|
  .rd 1 none (.mv (.tmp 10)) (some 19) false <|
  .rd 2 none (.bin .quo (.tmp 19) (.const (.int .i64 4))) (some 20) false <|
  .rd 3 none (.bin .mul (.tmp 20) (.const (.int .i64 1))) (some 21) false <|
  .rd 4 none (.bin .add (.tmp 18) (.tmp 21)) (some 22) false <|
  .rd 5 none (.mv (.tmp 22)) (some 12) false <|
  .done
noncomputable def F.slices_choosePivotCmpFunc_api_Dot.r4 : Plan :=
  .rd 0 none (.mv (.tmp 1)) (some 23) false <|
  .rd 1 none (.mv (.tmp 10)) (some 24) false <|
  .rd 2 none (.bin .quo (.tmp 24) (.const (.int .i64 4))) (some 25) false <|
  .rd 3 none (.bin .mul (.tmp 25) (.const (.int .i64 2))) (some 26) false <|
  .rd 4 none (.bin .add (.tmp 23) (.tmp 26)) (some 27) false <|
  .rd 5 none (.mv (.tmp 27)) (some 13) false <|
  .done
noncomputable def F.slices_choosePivotCmpFunc_api_Dot.r5 : Plan :=
  .rd 0 none (.mv (.tmp 1)) (some 28) false <|
  .rd 1 none (.mv (.tmp 10)) (some 29) false <|
  .rd 2 none (.bin .quo (.tmp 29) (.const (.int .i64 4))) (some 30) false <|
  .rd 3 none (.bin .mul (.tmp 30) (.const (.int .i64 3))) (some 31) false <|
  .rd 4 none (.bin .add (.tmp 28) (.tmp 31)) (some 32) false <|
  .rd 5 none (.mv (.tmp 32)) (some 14) false <|
  .done
noncomputable def F.slices_choosePivotCmpFunc_api_Dot.r6 : Plan :=
  .rd 0 none (.mv (.tmp 10)) (some 33) false <|
  .rd 1 none (.bin .geq (.tmp 33) (.const (.int .i64 8))) (some 34) false <|
  .done
noncomputable def F.slices_choosePivotCmpFunc_api_Dot.r7 : Plan :=
  .rd 0 none (.mv (.tmp 10)) (some 35) false <|
  .rd 1 none (.bin .geq (.tmp 35) (.const (.int .i64 50))) (some 36) false <|
  .done
noncomputable def F.slices_choosePivotCmpFunc_api_Dot.r8 : Plan :=
  .rd 0 none (.mv (.tmp 0)) (some 37) false <|
  .rd 1 none (.mv (.tmp 12)) (some 38) false <|
  .rd 2 none (.mv (.tmp 3)) (some 39) false <|
  .ef 3 none (.call F.slices_medianAdjacentCmpFunc_api_Dot [(.tmp 37), (.tmp 38), (.tmp 11), (.tmp 39)]) (some 40) [] (
  .rd 4 none (.mv (.tmp 40)) (some 12) false <|
  .done) .none
noncomputable def F.slices_choosePivotCmpFunc_api_Dot.r9 : Plan :=
  .rd 0 none (.mv (.tmp 0)) (some 41) false <|
  .rd 1 none (.mv (.tmp 13)) (some 42) false <|
  .rd 2 none (.mv (.tmp 3)) (some 43) false <|
  .ef 3 none (.call F.slices_medianAdjacentCmpFunc_api_Dot [(.tmp 41), (.tmp 42), (.tmp 11), (.tmp 43)]) (some 44) [] (
  .rd 4 none (.mv (.tmp 44)) (some 13) false <|
  .done) .none
noncomputable def F.slices_choosePivotCmpFunc_api_Dot.r10 : Plan :=
  .rd 0 none (.mv (.tmp 0)) (some 45) false <|
  .rd 1 none (.mv (.tmp 14)) (some 46) false <|
  .rd 2 none (.mv (.tmp 3)) (some 47) false <|
  .ef 3 none (.call F.slices_medianAdjacentCmpFunc_api_Dot [(.tmp 45), (.tmp 46), (.tmp 11), (.tmp 47)]) (some 48) [] (
  .rd 4 none (.mv (.tmp 48)) (some 14) false <|
  .done) .none
noncomputable def F.slices_choosePivotCmpFunc_api_Dot.r11 : Plan :=
  .rd 0 none (.mv (.tmp 0)) (some 49) false <|
  .rd 1 none (.mv (.tmp 12)) (some 50) false <|
  .rd 2 none (.mv (.tmp 13)) (some 51) false <|
  .rd 3 none (.mv (.tmp 14)) (some 52) false <|
  .rd 4 none (.mv (.tmp 3)) (some 53) false <|
  .ef 5 none (.call F.slices_medianCmpFunc_api_Dot [(.tmp 49), (.tmp 50), (.tmp 51), (.tmp 52), (.tmp 11), (.tmp 53)]) (some 54) [] (
  .rd 6 none (.mv (.tmp 54)) (some 13) false <|
  .done) .none
noncomputable def F.slices_choosePivotCmpFunc_api_Dot.r12 : Plan :=
  .rd 0 none (.ld1 (.tmp 11)) (some 55) false <|
  .done
noncomputable def F.slices_choosePivotCmpFunc_api_Dot.r13 : Plan :=
  .rd 0 none (.bin .eql (.tmp 55) (.const (.int .i64 0))) (some 58) false <|
  .rd 1 none (.mv (.tmp 58)) (some 57) false <|
  .done
noncomputable def F.slices_choosePivotCmpFunc_api_Dot.r14 : Plan :=
  .rd 0 none (.mv (.tmp 13)) (some 59) false <|
  .rd 1 none (.mv (.tmp 59)) (some 8) false <|
  .rd 2 none (.mv (.const (.int .i64 1))) (some 9) false <|
  .done
noncomputable def F.slices_choosePivotCmpFunc_api_Dot.r15 : Plan :=
  .rd 0 none (.bin .eql (.tmp 55) (.const (.int .i64 12))) (some 61) false <|
  .rd 1 none (.mv (.tmp 61)) (some 60) false <|
  .done
noncomputable def F.slices_choosePivotCmpFunc_api_Dot.r16 : Plan :=
  .rd 0 none (.mv (.tmp 13)) (some 62) false <|
  .rd 1 none (.mv (.tmp 62)) (some 8) false <|
  .rd 2 none (.mv (.const (.int .i64 2))) (some 9) false <|
  .done
noncomputable def F.slices_choosePivotCmpFunc_api_Dot.r17 : Plan :=
  .rd 0 none (.mv (.tmp 13)) (some 56) false <|
  .rd 1 none (.mv (.tmp 56)) (some 8) false <|
  .rd 2 none (.mv (.const (.int .i64 0))) (some 9) false <|
  .done
noncomputable def F.slices_choosePivotCmpFunc_api_Dot.ic : IC :=
    (.seq (.reg F.slices_choosePivotCmpFunc_api_Dot.r0)
    (.seq (.reg F.slices_choosePivotCmpFunc_api_Dot.r1)
    (.seq (.reg F.slices_choosePivotCmpFunc_api_Dot.r2)
    (.seq (.reg F.slices_choosePivotCmpFunc_api_Dot.r3)
    (.seq (.reg F.slices_choosePivotCmpFunc_api_Dot.r4)
    (.seq (.reg F.slices_choosePivotCmpFunc_api_Dot.r5)
    (.seq (.seq (.reg F.slices_choosePivotCmpFunc_api_Dot.r6)
    (.cond (.tmp 34) (.seq (.seq (.reg F.slices_choosePivotCmpFunc_api_Dot.r7)
    (.cond (.tmp 36) (.seq (.reg F.slices_choosePivotCmpFunc_api_Dot.r8)
    (.seq (.reg F.slices_choosePivotCmpFunc_api_Dot.r9)
    (.reg F.slices_choosePivotCmpFunc_api_Dot.r10))) .skip))
    (.reg F.slices_choosePivotCmpFunc_api_Dot.r11)) .skip))
    (.seq (.reg F.slices_choosePivotCmpFunc_api_Dot.r12)
    (.block 0 (.seq (.reg F.slices_choosePivotCmpFunc_api_Dot.r13)
    (.cond (.tmp 57) (.seq (.reg F.slices_choosePivotCmpFunc_api_Dot.r14)
    .ret) (.seq (.reg F.slices_choosePivotCmpFunc_api_Dot.r15)
    (.cond (.tmp 60) (.seq (.reg F.slices_choosePivotCmpFunc_api_Dot.r16)
    .ret) (.seq (.reg F.slices_choosePivotCmpFunc_api_Dot.r17)
    .ret))))))))))))))
noncomputable def F.slices_choosePivotCmpFunc_api_Dot.rs : List RO := [(.mv (.tmp 8)), (.mv (.tmp 9))]
theorem F.slices_choosePivotCmpFunc_api_Dot.ok : cFunc Go.Proofs.Tryd.prog F.slices_choosePivotCmpFunc_api_Dot = some (63, F.slices_choosePivotCmpFunc_api_Dot.ic, F.slices_choosePivotCmpFunc_api_Dot.rs) := by kernel_rfl
theorem F.slices_choosePivotCmpFunc_api_Dot.cl : callable Go.Proofs.Tryd.prog F.slices_choosePivotCmpFunc_api_Dot = true := by kernel_rfl
noncomputable def F.slices_reverseRangeCmpFunc_api_Dot.r0 : Plan :=
  .rd 0 none (.mv (.tmp 1)) (some 10) false <|
  .rd 1 none (.mv (.tmp 10)) (some 8) false <|
  .done
noncomputable def F.slices_reverseRangeCmpFunc_api_Dot.r1 : Plan :=
  .rd 0 none (.mv (.tmp 2)) (some 11) false <|
  .rd 1 none (.bin .sub (.tmp 11) (.const (.int .i64 1))) (some 12) false <|
  .rd 2 none (.mv (.tmp 12)) (some 9) false <|
  .done
noncomputable def F.slices_reverseRangeCmpFunc_api_Dot.r2 : Plan :=
  .rd 0 none (.mv (.tmp 8)) (some 13) false <|
  .rd 1 none (.mv (.tmp 9)) (some 14) false <|
  .rd 2 none (.bin .lss (.tmp 13) (.tmp 14)) (some 15) false <|
  .done
noncomputable def F.slices_reverseRangeCmpFunc_api_Dot.r3 : Plan :=
  .rd 0 none (.mv (.tmp 0)) (some 16) false <|
  .rd 1 none (.mv (.tmp 8)) (some 17) false <|
  .rd 2 none (.mv (.tmp 0)) (some 18) false <|
  .rd 3 none (.mv (.tmp 9)) (some 19) false <|
  .rd 4 none (.mv (.tmp 0)) (some 20) false <|
  .rd 5 none (.mv (.tmp 9)) (some 21) false <|
  .rd 6 none (.idxA 2 (.tmp 20) (.tmp 21)) (some 22) false <|
  .rd 7 none (.ldn 2 (.tmp 22)) (some 23) false <|
  .rd 8 none (.mv (.tmp 0)) (some 24) false <|
  .rd 9 none (.mv (.tmp 8)) (some 25) false <|
  .rd 10 none (.idxA 2 (.tmp 24) (.tmp 25)) (some 26) false <|
  .rd 11 none (.ldn 2 (.tmp 26)) (some 27) false <|
  .rd 12 none (.idxA 2 (.tmp 16) (.tmp 17)) (some 28) false <|
  .ef 13 none (.st 2 (.tmp 28) (.tmp 23)) none [2, 3] (
  .rd 14 none (.idxA 2 (.tmp 18) (.tmp 19)) (some 29) false <|
  .ef 15 none (.st 2 (.tmp 29) (.tmp 27)) none [] (
  .done) .none) .none
noncomputable def F.slices_reverseRangeCmpFunc_api_Dot.r4 : Plan :=
  .rd 0 none (.mv (.tmp 8)) (some 30) false <|
  .rd 1 none (.bin .add (.tmp 30) (.const (.int .i64 1))) (some 31) false <|
  .rd 2 none (.mv (.tmp 31)) (some 8) false <|
  .done
noncomputable def F.slices_reverseRangeCmpFunc_api_Dot.r5 : Plan :=
  .rd 0 none (.mv (.tmp 9)) (some 32) false <|
  .rd 1 none (.bin .sub (.tmp 32) (.const (.int .i64 1))) (some 33) false <|
  .rd 2 none (.mv (.tmp 33)) (some 9) false <|
  .done
noncomputable def F.slices_reverseRangeCmpFunc_api_Dot.l0 : IC :=
    (.seq (.seq (.reg F.slices_reverseRangeCmpFunc_api_Dot.r2)
    (.cond (.tmp 15) .skip (.exit 0)))
    (.block 1 (.seq (.reg F.slices_reverseRangeCmpFunc_api_Dot.r3)
    (.seq (.reg F.slices_reverseRangeCmpFunc_api_Dot.r4)
    (.reg F.slices_reverseRangeCmpFunc_api_Dot.r5)))))
noncomputable def F.slices_reverseRangeCmpFunc_api_Dot.ic : IC :=
    (.seq (.reg F.slices_reverseRangeCmpFunc_api_Dot.r0)
    (.seq (.reg F.slices_reverseRangeCmpFunc_api_Dot.r1)
    (.block 0 (.loop F.slices_reverseRangeCmpFunc_api_Dot.l0))))
noncomputable def F.slices_reverseRangeCmpFunc_api_Dot.rs : List RO := []
theorem F.slices_reverseRangeCmpFunc_api_Dot.ok : cFunc Go.Proofs.Tryd.prog F.slices_reverseRangeCmpFunc_api_Dot = some (34, F.slices_reverseRangeCmpFunc_api_Dot.ic, F.slices_reverseRangeCmpFunc_api_Dot.rs) := by kernel_rfl
theorem F.slices_reverseRangeCmpFunc_api_Dot.cl : callable Go.Proofs.Tryd.prog F.slices_reverseRangeCmpFunc_api_Dot = true := by kernel_rfl
noncomputable def F.slices_partialInsertionSortCmpFunc_api_Dot.r0 : Plan :=
  .rd 0 none (.mv (.const (.bool false))) (some 8) false <|
  .done
noncomputable def F.slices_partialInsertionSortCmpFunc_api_Dot.r1 : Plan :=
  .rd 0 none (.mv (.tmp 1)) (some 13) false <|
  .rd 1 none (.bin .add (.tmp 13) (.const (.int .i64 1))) (some 14) false <|
  .rd 2 none (.mv (.tmp 14)) (some 9) false <|
  .done
noncomputable def F.slices_partialInsertionSortCmpFunc_api_Dot.r2 : Plan :=
  .rd 0 none (.mv (.const (.int .i64 0))) (some 10) false <|
  .done
noncomputable def F.slices_partialInsertionSortCmpFunc_api_Dot.r3 : Plan :=
  .rd 0 none (.mv (.tmp 10)) (some 15) false <|
  .rd 1 none (.bin .lss (.tmp 15) (.const (.int .i64 5))) (some 16) false <|
  .done
noncomputable def F.slices_partialInsertionSortCmpFunc_api_Dot.r4 : Plan :=
  .rd 0 none (.mv (.tmp 9)) (some 19) false <|
  .rd 1 none (.mv (.tmp 2)) (some 20) false <|
  .rd 2 none (.bin .lss (.tmp 19) (.tmp 20)) (some 21) false <|
  .rd 3 none (.mv (.tmp 21)) (some 22) false <|
  .rd 4 (some (22, true)) (.mv (.tmp 3)) (some 23) false <|
  .rd 5 (some (22, true)) (.mv (.tmp 0)) (some 24) false <|
  .rd 6 (some (22, true)) (.mv (.tmp 9)) (some 25) false <|
  .rd 7 (some (22, true)) (.idxA 2 (.tmp 24) (.tmp 25)) (some 26) false <|
  .rd 8 (some (22, true)) (.ldn 2 (.tmp 26)) (some 27) false <|
  .rd 9 (some (22, true)) (.mv (.tmp 0)) (some 28) false <|
  .rd 10 (some (22, true)) (.mv (.tmp 9)) (some 29) false <|
  .rd 11 (some (22, true)) (.bin .sub (.tmp 29) (.const (.int .i64 1))) (some 30) false <|
  .rd 12 (some (22, true)) (.idxA 2 (.tmp 28) (.tmp 30)) (some 31) false <|
  .rd 13 (some (22, true)) (.ldn 2 (.tmp 31)) (some 32) false <|
  .ef 14 (some (22, true)) (.callv (.tmp 23) [(.tmp 27), (.tmp 32)]) (some 33) [] (
  .rd 15 (some (22, true)) (.bin .lss (.tmp 33) (.const (.int .i64 0))) (some 34) false <|
  .rd 16 (some (22, true)) (.un .not (.tmp 34)) (some 35) false <|
  .rd 17 none (.pick (.tmp 22) (.tmp 35) (.const (.bool false))) (some 36) false <|
  .done) .none
noncomputable def F.slices_partialInsertionSortCmpFunc_api_Dot.r5 : Plan :=
  .rd 0 none (.mv (.tmp 9)) (some 37) false <|
  .rd 1 none (.bin .add (.tmp 37) (.const (.int .i64 1))) (some 38) false <|
  .rd 2 none (.mv (.tmp 38)) (some 9) false <|
  .done
noncomputable def F.slices_partialInsertionSortCmpFunc_api_Dot.l0 : IC :=
    (.seq (.seq (.reg F.slices_partialInsertionSortCmpFunc_api_Dot.r4)
    (.cond (.tmp 36) .skip (.exit 2)))
    (.block 3 (.reg F.slices_partialInsertionSortCmpFunc_api_Dot.r5)))
noncomputable def F.slices_partialInsertionSortCmpFunc_api_Dot.r6 : Plan :=
  .rd 0 none (.mv (.tmp 9)) (some 39) false <|
  .rd 1 none (.mv (.tmp 2)) (some 40) false <|
  .rd 2 none (.bin .eql (.tmp 39) (.tmp 40)) (some 41) false <|
  .done
noncomputable def F.slices_partialInsertionSortCmpFunc_api_Dot.r7 : Plan :=
  .rd 0 none (.mv (.const (.bool true))) (some 8) false <|
  .done
noncomputable def F.slices_partialInsertionSortCmpFunc_api_Dot.r8 : Plan :=
  .rd 0 none (.mv (.tmp 2)) (some 42) false <|
  .rd 1 none (.mv (.tmp 1)) (some 43) false <|
  .rd 2 none (.bin .sub (.tmp 42) (.tmp 43)) (some 44) false <|
  .rd 3 none (.bin .lss (.tmp 44) (.const (.int .i64 50))) (some 45) false <|
  .done
noncomputable def F.slices_partialInsertionSortCmpFunc_api_Dot.r9 : Plan :=
  .rd 0 none (.mv (.const (.bool false))) (some 8) false <|
  .done
noncomputable def F.slices_partialInsertionSortCmpFunc_api_Dot.r10 : Plan :=
  .rd 0 none (.mv (.tmp 0)) (some 46) false <|
  .rd 1 none (.mv (.tmp 9)) (some 47) false <|
  .rd 2 none (.mv (.tmp 0)) (some 48) false <|
  .rd 3 none (.mv (.tmp 9)) (some 49) false <|
  .rd 4 none (.bin .sub (.tmp 49) (.const (.int .i64 1))) (some 50) false <|
  .rd 5 none (.mv (.tmp 0)) (some 51) false <|
  .rd 6 none (.mv (.tmp 9)) (some 52) false <|
  .rd 7 none (.bin .sub (.tmp 52) (.const (.int .i64 1))) (some 53) false <|
  .rd 8 none (.idxA 2 (.tmp 51) (.tmp 53)) (some 54) false <|
  .rd 9 none (.ldn 2 (.tmp 54)) (some 55) false <|
  .rd 10 none (.mv (.tmp 0)) (some 56) false <|
  .rd 11 none (.mv (.tmp 9)) (some 57) false <|
  .rd 12 none (.idxA 2 (.tmp 56) (.tmp 57)) (some 58) false <|
  .rd 13 none (.ldn 2 (.tmp 58)) (some 59) false <|
  .rd 14 none (.idxA 2 (.tmp 46) (.tmp 47)) (some 60) false <|
  .ef 15 none (.st 2 (.tmp 60) (.tmp 55)) none [2, 3, 4] (
  .rd 16 none (.idxA 2 (.tmp 48) (.tmp 50)) (some 61) false <|
  .ef 17 none (.st 2 (.tmp 61) (.tmp 59)) none [] (
  .done) .none) .none
noncomputable def F.slices_partialInsertionSortCmpFunc_api_Dot.r11 : Plan :=
  .rd 0 none (.mv (.tmp 9)) (some 62) false <|
  .rd 1 none (.mv (.tmp 1)) (some 63) false <|
  .rd 2 none (.bin .sub (.tmp 62) (.tmp 63)) (some 64) false <|
  .rd 3 none (.bin .geq (.tmp 64) (.const (.int .i64 2))) (some 65) false <|
  .done
noncomputable def F.slices_partialInsertionSortCmpFunc_api_Dot.r12 : Plan :=
  .rd 0 none (.mv (.tmp 9)) (some 66) false <|
  .rd 1 none (.bin .sub (.tmp 66) (.const (.int .i64 1))) (some 67) false <|
  .rd 2 none (.mv (.tmp 67)) (some 11) false <|
  .done
noncomputable def F.slices_partialInsertionSortCmpFunc_api_Dot.r13 : Plan :=
  .rd 0 none (.mv (.tmp 11)) (some 68) false <|
  .rd 1 none (.bin .geq (.tmp 68) (.const (.int .i64 1))) (some 69) false <|
  .done
noncomputable def F.slices_partialInsertionSortCmpFunc_api_Dot.r14 : Plan :=
  .rd 0 none (.mv (.tmp 3)) (some 72) false <|
  .rd 1 none (.mv (.tmp 0)) (some 73) false <|
  .rd 2 none (.mv (.tmp 11)) (some 74) false <|
  .rd 3 none (.idxA 2 (.tmp 73) (.tmp 74)) (some 75) false <|
  .rd 4 none (.ldn 2 (.tmp 75)) (some 76) false <|
  .rd 5 none (.mv (.tmp 0)) (some 77) false <|
  .rd 6 none (.mv (.tmp 11)) (some 78) false <|
  .rd 7 none (.bin .sub (.tmp 78) (.const (.int .i64 1))) (some 79) false <|
  .rd 8 none (.idxA 2 (.tmp 77) (.tmp 79)) (some 80) false <|
  .rd 9 none (.ldn 2 (.tmp 80)) (some 81) false <|
  .ef 10 none (.callv (.tmp 72) [(.tmp 76), (.tmp 81)]) (some 82) [] (
  .rd 11 none (.bin .lss (.tmp 82) (.const (.int .i64 0))) (some 83) false <|
  .rd 12 none (.un .not (.tmp 83)) (some 84) false <|
  .done) .none
noncomputable def F.slices_partialInsertionSortCmpFunc_api_Dot.r15 : Plan :=
  .rd 0 none (.mv (.tmp 0)) (some 85) false <|
  .rd 1 none (.mv (.tmp 11)) (some 86) false <|
  .rd 2 none (.mv (.tmp 0)) (some 87) false <|
  .rd 3 none (.mv (.tmp 11)) (some 88) false <|
  .rd 4 none (.bin .sub (.tmp 88) (.const (.int .i64 1))) (some 89) false <|
  .rd 5 none (.mv (.tmp 0)) (some 90) false <|
  .rd 6 none (.mv (.tmp 11)) (some 91) false <|
  .rd 7 none (.bin .sub (.tmp 91) (.const (.int .i64 1))) (some 92) false <|
  .rd 8 none (.idxA 2 (.tmp 90) (.tmp 92)) (some 93) false <|
  .rd 9 none (.ldn 2 (.tmp 93)) (some 94) false <|
  .rd 10 none (.mv (.tmp 0)) (some 95) false <|
  .rd 11 none (.mv (.tmp 11)) (some 96) false <|
  .rd 12 none (.idxA 2 (.tmp 95) (.tmp 96)) (some 97) false <|
  .rd 13 none (.ldn 2 (.tmp 97)) (some 98) false <|
  .rd 14 none (.idxA 2 (.tmp 85) (.tmp 86)) (some 99) false <|
  .ef 15 none (.st 2 (.tmp 99) (.tmp 94)) none [2, 3, 4] (
  .rd 16 none (.idxA 2 (.tmp 87) (.tmp 89)) (some 100) false <|
  .ef 17 none (.st 2 (.tmp 100) (.tmp 98)) none [] (
  .done) .none) .none
noncomputable def F.slices_partialInsertionSortCmpFunc_api_Dot.r16 : Plan :=
  .rd 0 none (.mv (.tmp 11)) (some 70) false <|
  .rd 1 none (.bin .sub (.tmp 70) (.const (.int .i64 1))) (some 71) false <|
  .rd 2 none (.mv (.tmp 71)) (some 11) false <|
  .done
noncomputable def F.slices_partialInsertionSortCmpFunc_api_Dot.l1 : IC :=
    (.seq (.seq (.reg F.slices_partialInsertionSortCmpFunc_api_Dot.r13)
    (.cond (.tmp 69) .skip (.exit 4)))
    (.seq (.block 5 (.seq (.seq (.reg F.slices_partialInsertionSortCmpFunc_api_Dot.r14)
    (.cond (.tmp 84) (.exit 4) .skip))
    (.reg F.slices_partialInsertionSortCmpFunc_api_Dot.r15)))
    (.reg F.slices_partialInsertionSortCmpFunc_api_Dot.r16)))
noncomputable def F.slices_partialInsertionSortCmpFunc_api_Dot.r17 : Plan :=
  .rd 0 none (.mv (.tmp 2)) (some 101) false <|
  .rd 1 none (.mv (.tmp 9)) (some 102) false <|
  .rd 2 none (.bin .sub (.tmp 101) (.tmp 102)) (some 103) false <|
  .rd 3 none (.bin .geq (.tmp 103) (.const (.int .i64 2))) (some 104) false <|
  .done
noncomputable def F.slices_partialInsertionSortCmpFunc_api_Dot.r18 : Plan :=
  .rd 0 none (.mv (.tmp 9)) (some 105) false <|
  .rd 1 none (.bin .add (.tmp 105) (.const (.int .i64 1))) (some 106) false <|
  .rd 2 none (.mv (.tmp 106)) (some 12) false <|
  .done
noncomputable def F.slices_partialInsertionSortCmpFunc_api_Dot.r19 : Plan :=
  .rd 0 none (.mv (.tmp 12)) (some 107) false <|
  .rd 1 none (.mv (.tmp 2)) (some 108) false <|
  .rd 2 none (.bin .lss (.tmp 107) (.tmp 108)) (some 109) false <|
  .done
noncomputable def F.slices_partialInsertionSortCmpFunc_api_Dot.r20 : Plan :=
  .rd 0 none (.mv (.tmp 3)) (some 112) false <|
  .rd 1 none (.mv (.tmp 0)) (some 113) false <|
  .rd 2 none (.mv (.tmp 12)) (some 114) false <|
  .rd 3 none (.idxA 2 (.tmp 113) (.tmp 114)) (some 115) false <|
  .rd 4 none (.ldn 2 (.tmp 115)) (some 116) false <|
  .rd 5 none (.mv (.tmp 0)) (some 117) false <|
  .rd 6 none (.mv (.tmp 12)) (some 118) false <|
  .rd 7 none (.bin .sub (.tmp 118) (.const (.int .i64 1))) (some 119) false <|
  .rd 8 none (.idxA 2 (.tmp 117) (.tmp 119)) (some 120) false <|
  .rd 9 none (.ldn 2 (.tmp 120)) (some 121) false <|
  .ef 10 none (.callv (.tmp 112) [(.tmp 116), (.tmp 121)]) (some 122) [] (
  .rd 11 none (.bin .lss (.tmp 122) (.const (.int .i64 0))) (some 123) false <|
  .rd 12 none (.un .not (.tmp 123)) (some 124) false <|
  .done) .none
noncomputable def F.slices_partialInsertionSortCmpFunc_api_Dot.r21 : Plan :=
  .rd 0 none (.mv (.tmp 0)) (some 125) false <|
  .rd 1 none (.mv (.tmp 12)) (some 126) false <|
  .rd 2 none (.mv (.tmp 0)) (some 127) false <|
  .rd 3 none (.mv (.tmp 12)) (some 128) false <|
  .rd 4 none (.bin .sub (.tmp 128) (.const (.int .i64 1))) (some 129) false <|
  .rd 5 none (.mv (.tmp 0)) (some 130) false <|
  .rd 6 none (.mv (.tmp 12)) (some 131) false <|
  .rd 7 none (.bin .sub (.tmp 131) (.const (.int .i64 1))) (some 132) false <|
  .rd 8 none (.idxA 2 (.tmp 130) (.tmp 132)) (some 133) false <|
  .rd 9 none (.ldn 2 (.tmp 133)) (some 134) false <|
  .rd 10 none (.mv (.tmp 0)) (some 135) false <|
  .rd 11 none (.mv (.tmp 12)) (some 136) false <|
  .rd 12 none (.idxA 2 (.tmp 135) (.tmp 136)) (some 137) false <|
  .rd 13 none (.ldn 2 (.tmp 137)) (some 138) false <|
  .rd 14 none (.idxA 2 (.tmp 125) (.tmp 126)) (some 139) false <|
  .ef 15 none (.st 2 (.tmp 139) (.tmp 134)) none [2, 3, 4] (
  .rd 16 none (.idxA 2 (.tmp 127) (.tmp 129)) (some 140) false <|
  .ef 17 none (.st 2 (.tmp 140) (.tmp 138)) none [] (
  .done) .none) .none
noncomputable def F.slices_partialInsertionSortCmpFunc_api_Dot.r22 : Plan :=
  .rd 0 none (.mv (.tmp 12)) (some 110) false <|
  .rd 1 none (.bin .add (.tmp 110) (.const (.int .i64 1))) (some 111) false <|
  .rd 2 none (.mv (.tmp 111)) (some 12) false <|
  .done
noncomputable def F.slices_partialInsertionSortCmpFunc_api_Dot.l2 : IC :=
    (.seq (.seq (.reg F.slices_partialInsertionSortCmpFunc_api_Dot.r19)
    (.cond (.tmp 109) .skip (.exit 6)))
    (.seq (.block 7 (.seq (.seq (.reg F.slices_partialInsertionSortCmpFunc_api_Dot.r20)
    (.cond (.tmp 124) (.exit 6) .skip))
    (.reg F.slices_partialInsertionSortCmpFunc_api_Dot.r21)))
    (.reg F.slices_partialInsertionSortCmpFunc_api_Dot.r22)))
noncomputable def F.slices_partialInsertionSortCmpFunc_api_Dot.r23 : Plan :=
  .rd 0 none (.mv (.tmp 10)) (some 17) false <|
  .rd 1 none (.bin .add (.tmp 17) (.const (.int .i64 1))) (some 18) false <|
  .rd 2 none (.mv (.tmp 18)) (some 10) false <|
  .done
noncomputable def F.slices_partialInsertionSortCmpFunc_api_Dot.l3 : IC :=
    (.seq (.seq (.reg F.slices_partialInsertionSortCmpFunc_api_Dot.r3)
    (.cond (.tmp 16) .skip (.exit 0)))
    (.seq (.block 1 (.seq (.block 2 (.loop F.slices_partialInsertionSortCmpFunc_api_Dot.l0))
    (.seq (.seq (.reg F.slices_partialInsertionSortCmpFunc_api_Dot.r6)
    (.cond (.tmp 41) (.seq (.reg F.slices_partialInsertionSortCmpFunc_api_Dot.r7)
    .ret) .skip))
    (.seq (.seq (.reg F.slices_partialInsertionSortCmpFunc_api_Dot.r8)
    (.cond (.tmp 45) (.seq (.reg F.slices_partialInsertionSortCmpFunc_api_Dot.r9)
    .ret) .skip))
    (.seq (.reg F.slices_partialInsertionSortCmpFunc_api_Dot.r10)
    (.seq (.seq (.reg F.slices_partialInsertionSortCmpFunc_api_Dot.r11)
    (.cond (.tmp 65) (.seq (.reg F.slices_partialInsertionSortCmpFunc_api_Dot.r12)
    (.block 4 (.loop F.slices_partialInsertionSortCmpFunc_api_Dot.l1))) .skip))
    (.seq (.reg F.slices_partialInsertionSortCmpFunc_api_Dot.r17)
    (.cond (.tmp 104) (.seq (.reg F.slices_partialInsertionSortCmpFunc_api_Dot.r18)
    (.block 6 (.loop F.slices_partialInsertionSortCmpFunc_api_Dot.l2))) .skip))))))))
    (.reg F.slices_partialInsertionSortCmpFunc_api_Dot.r23)))
noncomputable def F.slices_partialInsertionSortCmpFunc_api_Dot.r24 : Plan :=
  .rd 0 none (.mv (.const (.bool false))) (some 8) false <|
  .done
noncomputable def F.slices_partialInsertionSortCmpFunc_api_Dot.ic : IC :=
    (.seq (.reg F.slices_partialInsertionSortCmpFunc_api_Dot.r0)
    (.seq (.reg F.slices_partialInsertionSortCmpFunc_api_Dot.r1)
    (.seq (.seq (.reg F.slices_partialInsertionSortCmpFunc_api_Dot.r2)
    (.block 0 (.loop F.slices_partialInsertionSortCmpFunc_api_Dot.l3)))
    (.seq (.reg F.slices_partialInsertionSortCmpFunc_api_Dot.r24)
    .ret))))
noncomputable def F.slices_partialInsertionSortCmpFunc_api_Dot.rs : List RO := [(.mv (.tmp 8))]
theorem F.slices_partialInsertionSortCmpFunc_api_Dot.ok : cFunc Go.Proofs.Tryd.prog F.slices_partialInsertionSortCmpFunc_api_Dot = some (141, F.slices_partialInsertionSortCmpFunc_api_Dot.ic, F.slices_partialInsertionSortCmpFunc_api_Dot.rs) := by kernel_rfl
theorem F.slices_partialInsertionSortCmpFunc_api_Dot.cl : callable Go.Proofs.Tryd.prog F.slices_partialInsertionSortCmpFunc_api_Dot = true := by kernel_rfl
noncomputable def F.slices_partitionEqualCmpFunc_api_Dot.r0 : Plan :=
  .rd 0 none (.mv (.const (.int .i64 0))) (some 10) false <|
  .done
noncomputable def F.slices_partitionEqualCmpFunc_api_Dot.r1 : Plan :=
  .rd 0 none (.mv (.tmp 0)) (some 13) false <|
  .rd 1 none (.mv (.tmp 1)) (some 14) false <|
  .rd 2 none (.mv (.tmp 0)) (some 15) false <|
  .rd 3 none (.mv (.tmp 3)) (some 16) false <|
  .rd 4 none (.mv (.tmp 0)) (some 17) false <|
  .rd 5 none (.mv (.tmp 3)) (some 18) false <|
  .rd 6 none (.idxA 2 (.tmp 17) (.tmp 18)) (some 19) false <|
  .rd 7 none (.ldn 2 (.tmp 19)) (some 20) false <|
  .rd 8 none (.mv (.tmp 0)) (some 21) false <|
  .rd 9 none (.mv (.tmp 1)) (some 22) false <|
  .rd 10 none (.idxA 2 (.tmp 21) (.tmp 22)) (some 23) false <|
  .rd 11 none (.ldn 2 (.tmp 23)) (some 24) false <|
  .rd 12 none (.idxA 2 (.tmp 13) (.tmp 14)) (some 25) false <|
  .ef 13 none (.st 2 (.tmp 25) (.tmp 20)) none [2, 3] (
  .rd 14 none (.idxA 2 (.tmp 15) (.tmp 16)) (some 26) false <|
  .ef 15 none (.st 2 (.tmp 26) (.tmp 24)) none [] (
  .done) .none) .none
noncomputable def F.slices_partitionEqualCmpFunc_api_Dot.r2 : Plan :=
  .rd 0 none (.mv (.tmp 1)) (some 27) false <|
  .rd 1 none (.bin .add (.tmp 27) (.const (.int .i64 1))) (some 28) false <|
  .rd 2 none (.mv (.tmp 2)) (some 29) false <|
  .rd 3 none (.bin .sub (.tmp 29) (.const (.int .i64 1))) (some 30) false <|
  .rd 4 none (.mv (.tmp 28)) (some 11) false <|
  .rd 5 none (.mv (.tmp 30)) (some 12) false <|
  .done
noncomputable def F.slices_partitionEqualCmpFunc_api_Dot.r3 : Plan :=
  .rd 0 none (.mv (.tmp 11)) (some 31) false <|
  .rd 1 none (.mv (.tmp 12)) (some 32) false <|
  .rd 2 none (.bin .leq (.tmp 31) (.tmp 32)) (some 33) false <|
  .rd 3 none (.mv (.tmp 33)) (some 34) false <|
  .rd 4 (some (34, true)) (.mv (.tmp 4)) (some 35) false <|
  .rd 5 (some (34, true)) (.mv (.tmp 0)) (some 36) false <|
  .rd 6 (some (34, true)) (.mv (.tmp 1)) (some 37) false <|
  .rd 7 (some (34, true)) (.idxA 2 (.tmp 36) (.tmp 37)) (some 38) false <|
  .rd 8 (some (34, true)) (.ldn 2 (.tmp 38)) (some 39) false <|
  .rd 9 (some (34, true)) (.mv (.tmp 0)) (some 40) false <|
  .rd 10 (some (34, true)) (.mv (.tmp 11)) (some 41) false <|
  .rd 11 (some (34, true)) (.idxA 2 (.tmp 40) (.tmp 41)) (some 42) false <|
  .rd 12 (some (34, true)) (.ldn 2 (.tmp 42)) (some 43) false <|
  .ef 13 (some (34, true)) (.callv (.tmp 35) [(.tmp 39), (.tmp 43)]) (some 44) [] (
  .rd 14 (some (34, true)) (.bin .lss (.tmp 44) (.const (.int .i64 0))) (some 45) false <|
  .rd 15 (some (34, true)) (.un .not (.tmp 45)) (some 46) false <|
  .rd 16 none (.pick (.tmp 34) (.tmp 46) (.const (.bool false))) (some 47) false <|
  .done) .none
noncomputable def F.slices_partitionEqualCmpFunc_api_Dot.r4 : Plan :=
  .rd 0 none (.mv (.tmp 11)) (some 48) false <|
  .rd 1 none (.bin .add (.tmp 48) (.const (.int .i64 1))) (some 49) false <|
  .rd 2 none (.mv (.tmp 49)) (some 11) false <|
  .done
noncomputable def F.slices_partitionEqualCmpFunc_api_Dot.l0 : IC :=
    (.seq (.seq (.reg F.slices_partitionEqualCmpFunc_api_Dot.r3)
    (.cond (.tmp 47) .skip (.exit 2)))
    (.block 3 (.reg F.slices_partitionEqualCmpFunc_api_Dot.r4)))
noncomputable def F.slices_partitionEqualCmpFunc_api_Dot.r5 : Plan :=
  .rd 0 none (.mv (.tmp 11)) (some 50) false <|
  .rd 1 none (.mv (.tmp 12)) (some 51) false <|
  .rd 2 none (.bin .leq (.tmp 50) (.tmp 51)) (some 52) false <|
  .rd 3 none (.mv (.tmp 52)) (some 53) false <|
  .rd 4 (some (53, true)) (.mv (.tmp 4)) (some 54) false <|
  .rd 5 (some (53, true)) (.mv (.tmp 0)) (some 55) false <|
  .rd 6 (some (53, true)) (.mv (.tmp 1)) (some 56) false <|
  .rd 7 (some (53, true)) (.idxA 2 (.tmp 55) (.tmp 56)) (some 57) false <|
  .rd 8 (some (53, true)) (.ldn 2 (.tmp 57)) (some 58) false <|
  .rd 9 (some (53, true)) (.mv (.tmp 0)) (some 59) false <|
  .rd 10 (some (53, true)) (.mv (.tmp 12)) (some 60) false <|
  .rd 11 (some (53, true)) (.idxA 2 (.tmp 59) (.tmp 60)) (some 61) false <|
  .rd 12 (some (53, true)) (.ldn 2 (.tmp 61)) (some 62) false <|
  .ef 13 (some (53, true)) (.callv (.tmp 54) [(.tmp 58), (.tmp 62)]) (some 63) [] (
  .rd 14 (some (53, true)) (.bin .lss (.tmp 63) (.const (.int .i64 0))) (some 64) false <|
  .rd 15 none (.pick (.tmp 53) (.tmp 64) (.const (.bool false))) (some 65) false <|
  .done) .none
noncomputable def F.slices_partitionEqualCmpFunc_api_Dot.r6 : Plan :=
  .rd 0 none (.mv (.tmp 12)) (some 66) false <|
  .rd 1 none (.bin .sub (.tmp 66) (.const (.int .i64 1))) (some 67) false <|
  .rd 2 none (.mv (.tmp 67)) (some 12) false <|
  .done
noncomputable def F.slices_partitionEqualCmpFunc_api_Dot.l1 : IC :=
    (.seq (.seq (.reg F.slices_partitionEqualCmpFunc_api_Dot.r5)
    (.cond (.tmp 65) .skip (.exit 4)))
    (.block 5 (.reg F.slices_partitionEqualCmpFunc_api_Dot.r6)))
noncomputable def F.slices_partitionEqualCmpFunc_api_Dot.r7 : Plan :=
  .rd 0 none (.mv (.tmp 11)) (some 68) false <|
  .rd 1 none (.mv (.tmp 12)) (some 69) false <|
  .rd 2 none (.bin .gtr (.tmp 68) (.tmp 69)) (some 70) false <|
  .done
noncomputable def F.slices_partitionEqualCmpFunc_api_Dot.r8 : Plan :=
  .rd 0 none (.mv (.tmp 0)) (some 71) false <|
  .rd 1 none (.mv (.tmp 11)) (some 72) false <|
  .rd 2 none (.mv (.tmp 0)) (some 73) false <|
  .rd 3 none (.mv (.tmp 12)) (some 74) false <|
  .rd 4 none (.mv (.tmp 0)) (some 75) false <|
  .rd 5 none (.mv (.tmp 12)) (some 76) false <|
  .rd 6 none (.idxA 2 (.tmp 75) (.tmp 76)) (some 77) false <|
  .rd 7 none (.ldn 2 (.tmp 77)) (some 78) false <|
  .rd 8 none (.mv (.tmp 0)) (some 79) false <|
  .rd 9 none (.mv (.tmp 11)) (some 80) false <|
  .rd 10 none (.idxA 2 (.tmp 79) (.tmp 80)) (some 81) false <|
  .rd 11 none (.ldn 2 (.tmp 81)) (some 82) false <|
  .rd 12 none (.idxA 2 (.tmp 71) (.tmp 72)) (some 83) false <|
  .ef 13 none (.st 2 (.tmp 83) (.tmp 78)) none [2, 3] (
  .rd 14 none (.idxA 2 (.tmp 73) (.tmp 74)) (some 84) false <|
  .ef 15 none (.st 2 (.tmp 84) (.tmp 82)) none [] (
  .done) .none) .none
noncomputable def F.slices_partitionEqualCmpFunc_api_Dot.r9 : Plan :=
  .rd 0 none (.mv (.tmp 11)) (some 85) false <|
  .rd 1 none (.bin .add (.tmp 85) (.const (.int .i64 1))) (some 86) false <|
  .rd 2 none (.mv (.tmp 86)) (some 11) false <|
  .done
noncomputable def F.slices_partitionEqualCmpFunc_api_Dot.r10 : Plan :=
  .rd 0 none (.mv (.tmp 12)) (some 87) false <|
  .rd 1 none (.bin .sub (.tmp 87) (.const (.int .i64 1))) (some 88) false <|
  .rd 2 none (.mv (.tmp 88)) (some 12) false <|
  .done
noncomputable def F.slices_partitionEqualCmpFunc_api_Dot.l2 : IC :=
    (.block 1 (.seq (.block 2 (.loop F.slices_partitionEqualCmpFunc_api_Dot.l0))
    (.seq (.block 4 (.loop F.slices_partitionEqualCmpFunc_api_Dot.l1))
    (.seq (.seq (.reg F.slices_partitionEqualCmpFunc_api_Dot.r7)
    (.cond (.tmp 70) (.exit 0) .skip))
    (.seq (.reg F.slices_partitionEqualCmpFunc_api_Dot.r8)
    (.seq (.reg F.slices_partitionEqualCmpFunc_api_Dot.r9)
    (.reg F.slices_partitionEqualCmpFunc_api_Dot.r10)))))))
noncomputable def F.slices_partitionEqualCmpFunc_api_Dot.r11 : Plan :=
  .rd 0 none (.mv (.tmp 11)) (some 89) false <|
  .rd 1 none (.mv (.tmp 89)) (some 10) false <|
  .done
noncomputable def F.slices_partitionEqualCmpFunc_api_Dot.ic : IC :=
    (.seq (.reg F.slices_partitionEqualCmpFunc_api_Dot.r0)
    (.seq (.reg F.slices_partitionEqualCmpFunc_api_Dot.r1)
    (.seq (.reg F.slices_partitionEqualCmpFunc_api_Dot.r2)
    (.seq (.block 0 (.loop F.slices_partitionEqualCmpFunc_api_Dot.l2))
    (.seq (.reg F.slices_partitionEqualCmpFunc_api_Dot.r11)
    .ret)))))
noncomputable def F.slices_partitionEqualCmpFunc_api_Dot.rs : List RO := [(.mv (.tmp 10))]
theorem F.slices_partitionEqualCmpFunc_api_Dot.ok : cFunc Go.Proofs.Tryd.prog F.slices_partitionEqualCmpFunc_api_Dot = some (90, F.slices_partitionEqualCmpFunc_api_Dot.ic, F.slices_partitionEqualCmpFunc_api_Dot.rs) := by kernel_rfl
theorem F.slices_partitionEqualCmpFunc_api_Dot.cl : callable Go.Proofs.Tryd.prog F.slices_partitionEqualCmpFunc_api_Dot = true := by kernel_rfl
noncomputable def F.slices_partitionCmpFunc_api_Dot.r0 : Plan :=
  .rd 0 none (.mv (.const (.int .i64 0))) (some 10) false <|
  .rd 1 none (.mv (.const (.bool false))) (some 11) false <|
  .done
noncomputable def F.slices_partitionCmpFunc_api_Dot.r1 : Plan :=
  .rd 0 none (.mv (.tmp 0)) (some 14) false <|
  .rd 1 none (.mv (.tmp 1)) (some 15) false <|
  .rd 2 none (.mv (.tmp 0)) (some 16) false <|
  .rd 3 none (.mv (.tmp 3)) (some 17) false <|
  .rd 4 none (.mv (.tmp 0)) (some 18) false <|
  .rd 5 none (.mv (.tmp 3)) (some 19) false <|
  .rd 6 none (.idxA 2 (.tmp 18) (.tmp 19)) (some 20) false <|
  .rd 7 none (.ldn 2 (.tmp 20)) (some 21) false <|
  .rd 8 none (.mv (.tmp 0)) (some 22) false <|
  .rd 9 none (.mv (.tmp 1)) (some 23) false <|
  .rd 10 none (.idxA 2 (.tmp 22) (.tmp 23)) (some 24) false <|
  .rd 11 none (.ldn 2 (.tmp 24)) (some 25) false <|
  .rd 12 none (.idxA 2 (.tmp 14) (.tmp 15)) (some 26) false <|
  .ef 13 none (.st 2 (.tmp 26) (.tmp 21)) none [2, 3] (
  .rd 14 none (.idxA 2 (.tmp 16) (.tmp 17)) (some 27) false <|
  .ef 15 none (.st 2 (.tmp 27) (.tmp 25)) none [] (
  .done) .none) .none
noncomputable def F.slices_partitionCmpFunc_api_Dot.r2 : Plan :=
  .rd 0 none (.mv (.tmp 1)) (some 28) false <|
  .rd 1 none (.bin .add (.tmp 28) (.const (.int .i64 1))) (some 29) false <|
  .rd 2 none (.mv (.tmp 2)) (some 30) false <|
  .rd 3 none (.bin .sub (.tmp 30) (.const (.int .i64 1))) (some 31) false <|
  .rd 4 none (.mv (.tmp 29)) (some 12) false <|
  .rd 5 none (.mv (.tmp 31)) (some 13) false <|
  .done
noncomputable def F.slices_partitionCmpFunc_api_Dot.r3 : Plan :=
  .rd 0 none (.mv (.tmp 12)) (some 32) false <|
  .rd 1 none (.mv (.tmp 13)) (some 33) false <|
  .rd 2 none (.bin .leq (.tmp 32) (.tmp 33)) (some 34) false <|
  .rd 3 none (.mv (.tmp 34)) (some 35) false <|
  .rd 4 (some (35, true)) (.mv (.tmp 4)) (some 36) false <|
  .rd 5 (some (35, true)) (.mv (.tmp 0)) (some 37) false <|
  .rd 6 (some (35, true)) (.mv (.tmp 12)) (some 38) false <|
  .rd 7 (some (35, true)) (.idxA 2 (.tmp 37) (.tmp 38)) (some 39) false <|
  .rd 8 (some (35, true)) (.ldn 2 (.tmp 39)) (some 40) false <|
  .rd 9 (some (35, true)) (.mv (.tmp 0)) (some 41) false <|
  .rd 10 (some (35, true)) (.mv (.tmp 1)) (some 42) false <|
  .rd 11 (some (35, true)) (.idxA 2 (.tmp 41) (.tmp 42)) (some 43) false <|
  .rd 12 (some (35, true)) (.ldn 2 (.tmp 43)) (some 44) false <|
  .ef 13 (some (35, true)) (.callv (.tmp 36) [(.tmp 40), (.tmp 44)]) (some 45) [] (
  .rd 14 (some (35, true)) (.bin .lss (.tmp 45) (.const (.int .i64 0))) (some 46) false <|
  .rd 15 none (.pick (.tmp 35) (.tmp 46) (.const (.bool false))) (some 47) false <|
  .done) .none
noncomputable def F.slices_partitionCmpFunc_api_Dot.r4 : Plan :=
  .rd 0 none (.mv (.tmp 12)) (some 48) false <|
  .rd 1 none (.bin .add (.tmp 48) (.const (.int .i64 1))) (some 49) false <|
  .rd 2 none (.mv (.tmp 49)) (some 12) false <|
  .done
noncomputable def F.slices_partitionCmpFunc_api_Dot.l0 : IC :=
    (.seq (.seq (.reg F.slices_partitionCmpFunc_api_Dot.r3)
    (.cond (.tmp 47) .skip (.exit 0)))
    (.block 1 (.reg F.slices_partitionCmpFunc_api_Dot.r4)))
noncomputable def F.slices_partitionCmpFunc_api_Dot.r5 : Plan :=
  .rd 0 none (.mv (.tmp 12)) (some 50) false <|
  .rd 1 none (.mv (.tmp 13)) (some 51) false <|
  .rd 2 none (.bin .leq (.tmp 50) (.tmp 51)) (some 52) false <|
  .rd 3 none (.mv (.tmp 52)) (some 53) false <|
  .rd 4 (some (53, true)) (.mv (.tmp 4)) (some 54) false <|
  .rd 5 (some (53, true)) (.mv (.tmp 0)) (some 55) false <|
  .rd 6 (some (53, true)) (.mv (.tmp 13)) (some 56) false <|
  .rd 7 (some (53, true)) (.idxA 2 (.tmp 55) (.tmp 56)) (some 57) false <|
  .rd 8 (some (53, true)) (.ldn 2 (.tmp 57)) (some 58) false <|
  .rd 9 (some (53, true)) (.mv (.tmp 0)) (some 59) false <|
  .rd 10 (some (53, true)) (.mv (.tmp 1)) (some 60) false <|
  .rd 11 (some (53, true)) (.idxA 2 (.tmp 59) (.tmp 60)) (some 61) false <|
  .rd 12 (some (53, true)) (.ldn 2 (.tmp 61)) (some 62) false <|
  .ef 13 (some (53, true)) (.callv (.tmp 54) [(.tmp 58), (.tmp 62)]) (some 63) [] (
  .rd 14 (some (53, true)) (.bin .lss (.tmp 63) (.const (.int .i64 0))) (some 64) false <|
  .rd 15 (some (53, true)) (.un .not (.tmp 64)) (some 65) false <|
  .rd 16 none (.pick (.tmp 53) (.tmp 65) (.const (.bool false))) (some 66) false <|
  .done) .none
noncomputable def F.slices_partitionCmpFunc_api_Dot.r6 : Plan :=
  .rd 0 none (.mv (.tmp 13)) (some 67) false <|
  .rd 1 none (.bin .sub (.tmp 67) (.const (.int .i64 1))) (some 68) false <|
  .rd 2 none (.mv (.tmp 68)) (some 13) false <|
  .done
noncomputable def F.slices_partitionCmpFunc_api_Dot.l1 : IC :=
    (.seq (.seq (.reg F.slices_partitionCmpFunc_api_Dot.r5)
    (.cond (.tmp 66) .skip (.exit 2)))
    (.block 3 (.reg F.slices_partitionCmpFunc_api_Dot.r6)))
noncomputable def F.slices_partitionCmpFunc_api_Dot.r7 : Plan :=
  .rd 0 none (.mv (.tmp 12)) (some 69) false <|
  .rd 1 none (.mv (.tmp 13)) (some 70) false <|
  .rd 2 none (.bin .gtr (.tmp 69) (.tmp 70)) (some 71) false <|
  .done
noncomputable def F.slices_partitionCmpFunc_api_Dot.r8 : Plan :=
  .rd 0 none (.mv (.tmp 0)) (some 72) false <|
  .rd 1 none (.mv (.tmp 13)) (some 73) false <|
  .rd 2 none (.mv (.tmp 0)) (some 74) false <|
  .rd 3 none (.mv (.tmp 1)) (some 75) false <|
  .rd 4 none (.mv (.tmp 0)) (some 76) false <|
  .rd 5 none (.mv (.tmp 1)) (some 77) false <|
  .rd 6 none (.idxA 2 (.tmp 76) (.tmp 77)) (some 78) false <|
  .rd 7 none (.ldn 2 (.tmp 78)) (some 79) false <|
  .rd 8 none (.mv (.tmp 0)) (some 80) false <|
  .rd 9 none (.mv (.tmp 13)) (some 81) false <|
  .rd 10 none (.idxA 2 (.tmp 80) (.tmp 81)) (some 82) false <|
  .rd 11 none (.ldn 2 (.tmp 82)) (some 83) false <|
  .rd 12 none (.idxA 2 (.tmp 72) (.tmp 73)) (some 84) false <|
  .ef 13 none (.st 2 (.tmp 84) (.tmp 79)) none [2, 3] (
  .rd 14 none (.idxA 2 (.tmp 74) (.tmp 75)) (some 85) false <|
  .ef 15 none (.st 2 (.tmp 85) (.tmp 83)) none [] (
  .done) .none) .none
noncomputable def F.slices_partitionCmpFunc_api_Dot.r9 : Plan :=
  .rd 0 none (.mv (.tmp 13)) (some 86) false <|
  .rd 1 none (.mv (.tmp 86)) (some 10) false <|
  .rd 2 none (.mv (.const (.bool true))) (some 11) false <|
  .done
noncomputable def F.slices_partitionCmpFunc_api_Dot.r10 : Plan :=
  .rd 0 none (.mv (.tmp 0)) (some 87) false <|
  .rd 1 none (.mv (.tmp 12)) (some 88) false <|
  .rd 2 none (.mv (.tmp 0)) (some 89) false <|
  .rd 3 none (.mv (.tmp 13)) (some 90) false <|
  .rd 4 none (.mv (.tmp 0)) (some 91) false <|
  .rd 5 none (.mv (.tmp 13)) (some 92) false <|
  .rd 6 none (.idxA 2 (.tmp 91) (.tmp 92)) (some 93) false <|
  .rd 7 none (.ldn 2 (.tmp 93)) (some 94) false <|
  .rd 8 none (.mv (.tmp 0)) (some 95) false <|
  .rd 9 none (.mv (.tmp 12)) (some 96) false <|
  .rd 10 none (.idxA 2 (.tmp 95) (.tmp 96)) (some 97) false <|
  .rd 11 none (.ldn 2 (.tmp 97)) (some 98) false <|
  .rd 12 none (.idxA 2 (.tmp 87) (.tmp 88)) (some 99) false <|
  .ef 13 none (.st 2 (.tmp 99) (.tmp 94)) none [2, 3] (
  .rd 14 none (.idxA 2 (.tmp 89) (.tmp 90)) (some 100) false <|
  .ef 15 none (.st 2 (.tmp 100) (.tmp 98)) none [] (
  .done) .none) .none
noncomputable def F.slices_partitionCmpFunc_api_Dot.r11 : Plan :=
  .rd 0 none (.mv (.tmp 12)) (some 101) false <|
  .rd 1 none (.bin .add (.tmp 101) (.const (.int .i64 1))) (some 102) false <|
  .rd 2 none (.mv (.tmp 102)) (some 12) false <|
  .done
noncomputable def F.slices_partitionCmpFunc_api_Dot.r12 : Plan :=
  .rd 0 none (.mv (.tmp 13)) (some 103) false <|
  .rd 1 none (.bin .sub (.tmp 103) (.const (.int .i64 1))) (some 104) false <|
  .rd 2 none (.mv (.tmp 104)) (some 13) false <|
  .done
noncomputable def F.slices_partitionCmpFunc_api_Dot.r13 : Plan :=
  .rd 0 none (.mv (.tmp 12)) (some 105) false <|
  .rd 1 none (.mv (.tmp 13)) (some 106) false <|
  .rd 2 none (.bin .leq (.tmp 105) (.tmp 106)) (some 107) false <|
  .rd 3 none (.mv (.tmp 107)) (some 108) false <|
  .rd 4 (some (108, true)) (.mv (.tmp 4)) (some 109) false <|
  .rd 5 (some (108, true)) (.mv (.tmp 0)) (some 110) false <|
  .rd 6 (some (108, true)) (.mv (.tmp 12)) (some 111) false <|
  .rd 7 (some (108, true)) (.idxA 2 (.tmp 110) (.tmp 111)) (some 112) false <|
  .rd 8 (some (108, true)) (.ldn 2 (.tmp 112)) (some 113) false <|
  .rd 9 (some (108, true)) (.mv (.tmp 0)) (some 114) false <|
  .rd 10 (some (108, true)) (.mv (.tmp 1)) (some 115) false <|
  .rd 11 (some (108, true)) (.idxA 2 (.tmp 114) (.tmp 115)) (some 116) false <|
  .rd 12 (some (108, true)) (.ldn 2 (.tmp 116)) (some 117) false <|
  .ef 13 (some (108, true)) (.callv (.tmp 109) [(.tmp 113), (.tmp 117)]) (some 118) [] (
  .rd 14 (some (108, true)) (.bin .lss (.tmp 118) (.const (.int .i64 0))) (some 119) false <|
  .rd 15 none (.pick (.tmp 108) (.tmp 119) (.const (.bool false))) (some 120) false <|
  .done) .none
noncomputable def F.slices_partitionCmpFunc_api_Dot.r14 : Plan :=
  .rd 0 none (.mv (.tmp 12)) (some 121) false <|
  .rd 1 none (.bin .add (.tmp 121) (.const (.int .i64 1))) (some 122) false <|
  .rd 2 none (.mv (.tmp 122)) (some 12) false <|
  .done
noncomputable def F.slices_partitionCmpFunc_api_Dot.l2 : IC :=
    (.seq (.seq (.reg F.slices_partitionCmpFunc_api_Dot.r13)
    (.cond (.tmp 120) .skip (.exit 6)))
    (.block 7 (.reg F.slices_partitionCmpFunc_api_Dot.r14)))
noncomputable def F.slices_partitionCmpFunc_api_Dot.r15 : Plan :=
  .rd 0 none (.mv (.tmp 12)) (some 123) false <|
  .rd 1 none (.mv (.tmp 13)) (some 124) false <|
  .rd 2 none (.bin .leq (.tmp 123) (.tmp 124)) (some 125) false <|
  .rd 3 none (.mv (.tmp 125)) (some 126) false <|
  .rd 4 (some (126, true)) (.mv (.tmp 4)) (some 127) false <|
  .rd 5 (some (126, true)) (.mv (.tmp 0)) (some 128) false <|
  .rd 6 (some (126, true)) (.mv (.tmp 13)) (some 129) false <|
  .rd 7 (some (126, true)) (.idxA 2 (.tmp 128) (.tmp 129)) (some 130) false <|
  .rd 8 (some (126, true)) (.ldn 2 (.tmp 130)) (some 131) false <|
  .rd 9 (some (126, true)) (.mv (.tmp 0)) (some 132) false <|
  .rd 10 (some (126, true)) (.mv (.tmp 1)) (some 133) false <|
  .rd 11 (some (126, true)) (.idxA 2 (.tmp 132) (.tmp 133)) (some 134) false <|
  .rd 12 (some (126, true)) (.ldn 2 (.tmp 134)) (some 135) false <|
  .ef 13 (some (126, true)) (.callv (.tmp 127) [(.tmp 131), (.tmp 135)]) (some 136) [] (
  .rd 14 (some (126, true)) (.bin .lss (.tmp 136) (.const (.int .i64 0))) (some 137) false <|
  .rd 15 (some (126, true)) (.un .not (.tmp 137)) (some 138) false <|
  .rd 16 none (.pick (.tmp 126) (.tmp 138) (.const (.bool false))) (some 139) false <|
  .done) .none
noncomputable def F.slices_partitionCmpFunc_api_Dot.r16 : Plan :=
  .rd 0 none (.mv (.tmp 13)) (some 140) false <|
  .rd 1 none (.bin .sub (.tmp 140) (.const (.int .i64 1))) (some 141) false <|
  .rd 2 none (.mv (.tmp 141)) (some 13) false <|
  .done
noncomputable def F.slices_partitionCmpFunc_api_Dot.l3 : IC :=
    (.seq (.seq (.reg F.slices_partitionCmpFunc_api_Dot.r15)
    (.cond (.tmp 139) .skip (.exit 8)))
    (.block 9 (.reg F.slices_partitionCmpFunc_api_Dot.r16)))
noncomputable def F.slices_partitionCmpFunc_api_Dot.r17 : Plan :=
  .rd 0 none (.mv (.tmp 12)) (some 142) false <|
  .rd 1 none (.mv (.tmp 13)) (some 143) false <|
  .rd 2 none (.bin .gtr (.tmp 142) (.tmp 143)) (some 144) false <|
  .done
noncomputable def F.slices_partitionCmpFunc_api_Dot.r18 : Plan :=
  .rd 0 none (.mv (.tmp 0)) (some 145) false <|
  .rd 1 none (.mv (.tmp 12)) (some 146) false <|
  .rd 2 none (.mv (.tmp 0)) (some 147) false <|
  .rd 3 none (.mv (.tmp 13)) (some 148) false <|
  .rd 4 none (.mv (.tmp 0)) (some 149) false <|
  .rd 5 none (.mv (.tmp 13)) (some 150) false <|
  .rd 6 none (.idxA 2 (.tmp 149) (.tmp 150)) (some 151) false <|
  .rd 7 none (.ldn 2 (.tmp 151)) (some 152) false <|
  .rd 8 none (.mv (.tmp 0)) (some 153) false <|
  .rd 9 none (.mv (.tmp 12)) (some 154) false <|
  .rd 10 none (.idxA 2 (.tmp 153) (.tmp 154)) (some 155) false <|
  .rd 11 none (.ldn 2 (.tmp 155)) (some 156) false <|
  .rd 12 none (.idxA 2 (.tmp 145) (.tmp 146)) (some 157) false <|
  .ef 13 none (.st 2 (.tmp 157) (.tmp 152)) none [2, 3] (
  .rd 14 none (.idxA 2 (.tmp 147) (.tmp 148)) (some 158) false <|
  .ef 15 none (.st 2 (.tmp 158) (.tmp 156)) none [] (
  .done) .none) .none
noncomputable def F.slices_partitionCmpFunc_api_Dot.r19 : Plan :=
  .rd 0 none (.mv (.tmp 12)) (some 159) false <|
  .rd 1 none (.bin .add (.tmp 159) (.const (.int .i64 1))) (some 160) false <|
  .rd 2 none (.mv (.tmp 160)) (some 12) false <|
  .done
noncomputable def F.slices_partitionCmpFunc_api_Dot.r20 : Plan :=
  .rd 0 none (.mv (.tmp 13)) (some 161) false <|
  .rd 1 none (.bin .sub (.tmp 161) (.const (.int .i64 1))) (some 162) false <|
  .rd 2 none (.mv (.tmp 162)) (some 13) false <|
  .done
noncomputable def F.slices_partitionCmpFunc_api_Dot.l4 : IC :=
    (.block 5 (.seq (.block 6 (.loop F.slices_partitionCmpFunc_api_Dot.l2))
    (.seq (.block 8 (.loop F.slices_partitionCmpFunc_api_Dot.l3))
    (.seq (.seq (.reg F.slices_partitionCmpFunc_api_Dot.r17)
    (.cond (.tmp 144) (.exit 4) .skip))
    (.seq (.reg F.slices_partitionCmpFunc_api_Dot.r18)
    (.seq (.reg F.slices_partitionCmpFunc_api_Dot.r19)
    (.reg F.slices_partitionCmpFunc_api_Dot.r20)))))))
noncomputable def F.slices_partitionCmpFunc_api_Dot.r21 : Plan :=
  .rd 0 none (.mv (.tmp 0)) (some 163) false <|
  .rd 1 none (.mv (.tmp 13)) (some 164) false <|
  .rd 2 none (.mv (.tmp 0)) (some 165) false <|
  .rd 3 none (.mv (.tmp 1)) (some 166) false <|
  .rd 4 none (.mv (.tmp 0)) (some 167) false <|
  .rd 5 none (.mv (.tmp 1)) (some 168) false <|
  .rd 6 none (.idxA 2 (.tmp 167) (.tmp 168)) (some 169) false <|
  .rd 7 none (.ldn 2 (.tmp 169)) (some 170) false <|
  .rd 8 none (.mv (.tmp 0)) (some 171) false <|
  .rd 9 none (.mv (.tmp 13)) (some 172) false <|
  .rd 10 none (.idxA 2 (.tmp 171) (.tmp 172)) (some 173) false <|
  .rd 11 none (.ldn 2 (.tmp 173)) (some 174) false <|
  .rd 12 none (.idxA 2 (.tmp 163) (.tmp 164)) (some 175) false <|
  .ef 13 none (.st 2 (.tmp 175) (.tmp 170)) none [2, 3] (
  .rd 14 none (.idxA 2 (.tmp 165) (.tmp 166)) (some 176) false <|
  .ef 15 none (.st 2 (.tmp 176) (.tmp 174)) none [] (
  .done) .none) .none
noncomputable def F.slices_partitionCmpFunc_api_Dot.r22 : Plan :=
  .rd 0 none (.mv (.tmp 13)) (some 177) false <|
  .rd 1 none (.mv (.tmp 177)) (some 10) false <|
  .rd 2 none (.mv (.const (.bool false))) (some 11) false <|
  .done
noncomputable def F.slices_partitionCmpFunc_api_Dot.ic : IC :=
    (.seq (.reg F.slices_partitionCmpFunc_api_Dot.r0)
    (.seq (.reg F.slices_partitionCmpFunc_api_Dot.r1)
    (.seq (.reg F.slices_partitionCmpFunc_api_Dot.r2)
    (.seq (.block 0 (.loop F.slices_partitionCmpFunc_api_Dot.l0))
    (.seq (.block 2 (.loop F.slices_partitionCmpFunc_api_Dot.l1))
    (.seq (.seq (.reg F.slices_partitionCmpFunc_api_Dot.r7)
    (.cond (.tmp 71) (.seq (.reg F.slices_partitionCmpFunc_api_Dot.r8)
    (.seq (.reg F.slices_partitionCmpFunc_api_Dot.r9)
    .ret)) .skip))
    (.seq (.reg F.slices_partitionCmpFunc_api_Dot.r10)
    (.seq (.reg F.slices_partitionCmpFunc_api_Dot.r11)
    (.seq (.reg F.slices_partitionCmpFunc_api_Dot.r12)
    (.seq (.block 4 (.loop F.slices_partitionCmpFunc_api_Dot.l4))
    (.seq (.reg F.slices_partitionCmpFunc_api_Dot.r21)
    (.seq (.reg F.slices_partitionCmpFunc_api_Dot.r22)
    .ret))))))))))))
noncomputable def F.slices_partitionCmpFunc_api_Dot.rs : List RO := [(.mv (.tmp 10)), (.mv (.tmp 11))]
theorem F.slices_partitionCmpFunc_api_Dot.ok : cFunc Go.Proofs.Tryd.prog F.slices_partitionCmpFunc_api_Dot = some (178, F.slices_partitionCmpFunc_api_Dot.ic, F.slices_partitionCmpFunc_api_Dot.rs) := by kernel_rfl
theorem F.slices_partitionCmpFunc_api_Dot.cl : callable Go.Proofs.Tryd.prog F.slices_partitionCmpFunc_api_Dot = true := by kernel_rfl
noncomputable def F.bits_Len32.r0 : Plan :=
  .rd 0 none (.mv (.const (.int .i64 0))) (some 2) false <|
  .done
noncomputable def F.bits_Len32.r1 : Plan :=
  .rd 0 none (.mv (.tmp 0)) (some 3) false <|
  .rd 1 none (.bin .geq (.tmp 3) (.const (.int .u32 65536))) (some 4) false <|
  .done
noncomputable def F.bits_Len32.r2 : Plan :=
  .rd 0 none (.mv (.tmp 0)) (some 5) false <|
  .rd 1 none (.bin .shr (.tmp 5) (.const (.int .u64 16))) (some 6) false <|
  .rd 2 none (.mv (.tmp 6)) (some 0) false <|
  .done
noncomputable def F.bits_Len32.r3 : Plan :=
  .rd 0 none (.mv (.const (.int .i64 16))) (some 2) false <|
  .done
noncomputable def F.bits_Len32.r4 : Plan :=
  .rd 0 none (.mv (.tmp 0)) (some 7) false <|
  .rd 1 none (.bin .geq (.tmp 7) (.const (.int .u32 256))) (some 8) false <|
  .done
noncomputable def F.bits_Len32.r5 : Plan :=
  .rd 0 none (.mv (.tmp 0)) (some 9) false <|
  .rd 1 none (.bin .shr (.tmp 9) (.const (.int .u64 8))) (some 10) false <|
  .rd 2 none (.mv (.tmp 10)) (some 0) false <|
  .done
noncomputable def F.bits_Len32.r6 : Plan :=
  .rd 0 none (.mv (.tmp 2)) (some 11) false <|
  .rd 1 none (.bin .add (.tmp 11) (.const (.int .i64 8))) (some 12) false <|
  .rd 2 none (.mv (.tmp 12)) (some 2) false <|
  .done
noncomputable def F.bits_Len32.r7 : Plan :=
  .rd 0 none (.mv (.tmp 2)) (some 13) false <|
  .rd 1 none (.mv (.tmp 0)) (some 14) false <|
  .rd 2 none (.convI .u8 (.tmp 14)) (some 15) false <|
  .rd 3 none (.idxS (.const (.string ⟨#[0, 1, 2, 2, 3, 3, 3, 3, 4, 4, 4, 4, 4, 4, 4, 4, 5, 5, 5, 5, 5, 5, 5, 5, 5, 5, 5, 5, 5, 5, 5, 5, 6, 6, 6, 6, 6, 6, 6, 6, 6, 6, 6, 6, 6, 6, 6, 6, 6, 6, 6, 6, 6, 6, 6, 6, 6, 6, 6, 6, 6, 6, 6, 6, 7, 7, 7, 7, 7, 7, 7, 7, 7, 7, 7, 7, 7, 7, 7, 7, 7, 7, 7, 7, 7, 7, 7, 7, 7, 7, 7, 7, 7, 7, 7, 7, 7, 7, 7, 7, 7, 7, 7, 7, 7, 7, 7, 7, 7, 7, 7, 7, 7, 7, 7, 7, 7, 7, 7, 7, 7, 7, 7, 7, 7, 7, 7, 7, 8, 8, 8, 8, 8, 8, 8, 8, 8, 8, 8, 8, 8, 8, 8, 8, 8, 8, 8, 8, 8, 8, 8, 8, 8, 8, 8, 8, 8, 8, 8, 8, 8, 8, 8, 8, 8, 8, 8, 8, 8, 8, 8, 8, 8, 8, 8, 8, 8, 8, 8, 8, 8, 8, 8, 8, 8, 8, 8, 8, 8, 8, 8, 8, 8, 8, 8, 8, 8, 8, 8, 8, 8, 8, 8, 8, 8, 8, 8, 8, 8, 8, 8, 8, 8, 8, 8, 8, 8, 8, 8, 8, 8, 8, 8, 8, 8, 8, 8, 8, 8, 8, 8, 8, 8, 8, 8, 8, 8, 8, 8, 8, 8, 8, 8, 8, 8, 8, 8, 8, 8, 8, 8, 8, 8, 8, 8, 8]⟩)) (.tmp 15)) (some 16) false <|
  .rd 4 none (.convI .i64 (.tmp 16)) (some 17) false <|
  .rd 5 none (.bin .add (.tmp 13) (.tmp 17)) (some 18) false <|
  .rd 6 none (.mv (.tmp 18)) (some 2) false <|
  .done
noncomputable def F.bits_Len32.ic : IC :=
    (.seq (.reg F.bits_Len32.r0)
    (.seq (.seq (.reg F.bits_Len32.r1)
    (.cond (.tmp 4) (.seq (.reg F.bits_Len32.r2)
    (.reg F.bits_Len32.r3)) .skip))
    (.seq (.seq (.reg F.bits_Len32.r4)
    (.cond (.tmp 8) (.seq (.reg F.bits_Len32.r5)
    (.reg F.bits_Len32.r6)) .skip))
    (.seq (.reg F.bits_Len32.r7)
    .ret))))
noncomputable def F.bits_Len32.rs : List RO := [(.mv (.tmp 2))]
theorem F.bits_Len32.ok : cFunc Go.Proofs.Tryd.prog F.bits_Len32 = some (19, F.bits_Len32.ic, F.bits_Len32.rs) := by kernel_rfl
theorem F.bits_Len32.cl : callable Go.Proofs.Tryd.prog F.bits_Len32 = true := by kernel_rfl
noncomputable def F.slices_siftDownCmpFunc_api_Dot.r0 : Plan :=
  .rd 0 none (.mv (.tmp 1)) (some 12) false <|
  .rd 1 none (.mv (.tmp 12)) (some 10) false <|
  .done
noncomputable def F.slices_siftDownCmpFunc_api_Dot.r1 : Plan :=
  .rd 0 none (.mv (.tmp 10)) (some 13) false <|
  .rd 1 none (.bin .mul (.const (.int .i64 2)) (.tmp 13)) (some 14) false <|
  .rd 2 none (.bin .add (.tmp 14) (.const (.int .i64 1))) (some 15) false <|
  .rd 3 none (.mv (.tmp 15)) (some 11) false <|
  .done
noncomputable def F.slices_siftDownCmpFunc_api_Dot.r2 : Plan :=
  .rd 0 none (.mv (.tmp 11)) (some 16) false <|
  .rd 1 none (.mv (.tmp 2)) (some 17) false <|
  .rd 2 none (.bin .geq (.tmp 16) (.tmp 17)) (some 18) false <|
  .done
noncomputable def F.slices_siftDownCmpFunc_api_Dot.r3 : Plan :=
  .rd 0 none (.mv (.tmp 11)) (some 19) false <|
  .rd 1 none (.bin .add (.tmp 19) (.const (.int .i64 1))) (some 20) false <|
  .rd 2 none (.mv (.tmp 2)) (some 21) false <|
  .rd 3 none (.bin .lss (.tmp 20) (.tmp 21)) (some 22) false <|
  .rd 4 none (.mv (.tmp 22)) (some 23) false <|
  .rd 5 (some (23, true)) (.mv (.tmp 4)) (some 24) false <|
  .rd 6 (some (23, true)) (.mv (.tmp 0)) (some 25) false <|
  .rd 7 (some (23, true)) (.mv (.tmp 3)) (some 26) false <|
  .rd 8 (some (23, true)) (.mv (.tmp 11)) (some 27) false <|
  .rd 9 (some (23, true)) (.bin .add (.tmp 26) (.tmp 27)) (some 28) false <|
  .rd 10 (some (23, true)) (.idxA 2 (.tmp 25) (.tmp 28)) (some 29) false <|
  .rd 11 (some (23, true)) (.ldn 2 (.tmp 29)) (some 30) false <|
  .rd 12 (some (23, true)) (.mv (.tmp 0)) (some 31) false <|
  .rd 13 (some (23, true)) (.mv (.tmp 3)) (some 32) false <|
  .rd 14 (some (23, true)) (.mv (.tmp 11)) (some 33) false <|
  .rd 15 (some (23, true)) (.bin .add (.tmp 32) (.tmp 33)) (some 34) false <|
  .rd 16 (some (23, true)) (.bin .add (.tmp 34) (.const (.int .i64 1))) (some 35) false <|
  .rd 17 (some (23, true)) (.idxA 2 (.tmp 31) (.tmp 35)) (some 36) false <|
  .rd 18 (some (23, true)) (.ldn 2 (.tmp 36)) (some 37) false <|
  .ef 19 (some (23, true)) (.callv (.tmp 24) [(.tmp 30), (.tmp 37)]) (some 38) [] (
  .rd 20 (some (23, true)) (.bin .lss (.tmp 38) (.const (.int .i64 0))) (some 39) false <|
  .rd 21 none (.pick (.tmp 23) (.tmp 39) (.const (.bool false))) (some 40) false <|
  .done) .none
noncomputable def F.slices_siftDownCmpFunc_api_Dot.r4 : Plan :=
  .rd 0 none (.mv (.tmp 11)) (some 41) false <|
  .rd 1 none (.bin .add (.tmp 41) (.const (.int .i64 1))) (some 42) false <|
  .rd 2 none (.mv (.tmp 42)) (some 11) false <|
  .done
noncomputable def F.slices_siftDownCmpFunc_api_Dot.r5 : Plan :=
  .rd 0 none (.mv (.tmp 4)) (some 43) false <|
  .rd 1 none (.mv (.tmp 0)) (some 44) false <|
  .rd 2 none (.mv (.tmp 3)) (some 45) false <|
  .rd 3 none (.mv (.tmp 10)) (some 46) false <|
  .rd 4 none (.bin .add (.tmp 45) (.tmp 46)) (some 47) false <|
  .rd 5 none (.idxA 2 (.tmp 44) (.tmp 47)) (some 48) false <|
  .rd 6 none (.ldn 2 (.tmp 48)) (some 49) false <|
  .rd 7 none (.mv (.tmp 0)) (some 50) false <|
  .rd 8 none (.mv (.tmp 3)) (some 51) false <|
  .rd 9 none (.mv (.tmp 11)) (some 52) false <|
  .rd 10 none (.bin .add (.tmp 51) (.tmp 52)) (some 53) false <|
  .rd 11 none (.idxA 2 (.tmp 50) (.tmp 53)) (some 54) false <|
  .rd 12 none (.ldn 2 (.tmp 54)) (some 55) false <|
  .ef 13 none (.callv (.tmp 43) [(.tmp 49), (.tmp 55)]) (some 56) [] (
  .rd 14 none (.bin .lss (.tmp 56) (.const (.int .i64 0))) (some 57) false <|
  .rd 15 none (.un .not (.tmp 57)) (some 58) false <|
  .done) .none
noncomputable def F.slices_siftDownCmpFunc_api_Dot.r6 : Plan :=
  .rd 0 none (.mv (.tmp 0)) (some 59) false <|
  .rd 1 none (.mv (.tmp 3)) (some 60) false <|
  .rd 2 none (.mv (.tmp 10)) (some 61) false <|
  .rd 3 none (.bin .add (.tmp 60) (.tmp 61)) (some 62) false <|
  .rd 4 none (.mv (.tmp 0)) (some 63) false <|
  .rd 5 none (.mv (.tmp 3)) (some 64) false <|
  .rd 6 none (.mv (.tmp 11)) (some 65) false <|
  .rd 7 none (.bin .add (.tmp 64) (.tmp 65)) (some 66) false <|
  .rd 8 none (.mv (.tmp 0)) (some 67) false <|
  .rd 9 none (.mv (.tmp 3)) (some 68) false <|
  .rd 10 none (.mv (.tmp 11)) (some 69) false <|
  .rd 11 none (.bin .add (.tmp 68) (.tmp 69)) (some 70) false <|
  .rd 12 none (.idxA 2 (.tmp 67) (.tmp 70)) (some 71) false <|
  .rd 13 none (.ldn 2 (.tmp 71)) (some 72) false <|
  .rd 14 none (.mv (.tmp 0)) (some 73) false <|
  .rd 15 none (.mv (.tmp 3)) (some 74) false <|
  .rd 16 none (.mv (.tmp 10)) (some 75) false <|
  .rd 17 none (.bin .add (.tmp 74) (.tmp 75)) (some 76) false <|
  .rd 18 none (.idxA 2 (.tmp 73) (.tmp 76)) (some 77) false <|
  .rd 19 none (.ldn 2 (.tmp 77)) (some 78) false <|
  .rd 20 none (.idxA 2 (.tmp 59) (.tmp 62)) (some 79) false <|
  .ef 21 none (.st 2 (.tmp 79) (.tmp 72)) none [4, 5, 6, 7] (
  .rd 22 none (.idxA 2 (.tmp 63) (.tmp 66)) (some 80) false <|
  .ef 23 none (.st 2 (.tmp 80) (.tmp 78)) none [] (
  .done) .none) .none
noncomputable def F.slices_siftDownCmpFunc_api_Dot.r7 : Plan :=
  .rd 0 none (.mv (.tmp 11)) (some 81) false <|
  .rd 1 none (.mv (.tmp 81)) (some 10) false <|
  .done
noncomputable def F.slices_siftDownCmpFunc_api_Dot.l0 : IC :=
    (.block 1 (.seq (.reg F.slices_siftDownCmpFunc_api_Dot.r1)
    (.seq (.seq (.reg F.slices_siftDownCmpFunc_api_Dot.r2)
    (.cond (.tmp 18) (.exit 0) .skip))
    (.seq (.seq (.reg F.slices_siftDownCmpFunc_api_Dot.r3)
    (.cond (.tmp 40) (.reg F.slices_siftDownCmpFunc_api_Dot.r4) .skip))
    (.seq (.seq (.reg F.slices_siftDownCmpFunc_api_Dot.r5)
    (.cond (.tmp 58) .ret .skip))
    (.seq (.reg F.slices_siftDownCmpFunc_api_Dot.r6)
    (.reg F.slices_siftDownCmpFunc_api_Dot.r7)))))))
noncomputable def F.slices_siftDownCmpFunc_api_Dot.ic : IC :=
    (.seq (.reg F.slices_siftDownCmpFunc_api_Dot.r0)
    (.block 0 (.loop F.slices_siftDownCmpFunc_api_Dot.l0)))
noncomputable def F.slices_siftDownCmpFunc_api_Dot.rs : List RO := []
theorem F.slices_siftDownCmpFunc_api_Dot.ok : cFunc Go.Proofs.Tryd.prog F.slices_siftDownCmpFunc_api_Dot = some (82, F.slices_siftDownCmpFunc_api_Dot.ic, F.slices_siftDownCmpFunc_api_Dot.rs) := by kernel_rfl
theorem F.slices_siftDownCmpFunc_api_Dot.cl : callable Go.Proofs.Tryd.prog F.slices_siftDownCmpFunc_api_Dot = true := by kernel_rfl
noncomputable def F.slices_nextPowerOfTwo.r0 : Plan :=
  .rd 0 none (.mv (.const (.int .u64 0))) (some 2) false <|
  .done
noncomputable def F.slices_nextPowerOfTwo.r1 : Plan :=
  .rd 0 none (.mv (.tmp 0)) (some 3) false <|
  .rd 1 none (.convI .u64 (.tmp 3)) (some 4) false <|
  .ef 2 none (.call F.bits_Len [(.tmp 4)]) (some 5) [] (
  .rd 3 none (.bin .shl (.const (.int .u64 1)) (.tmp 5)) (some 6) false <|
  .rd 4 none (.mv (.tmp 6)) (some 2) false <|
  .done) .none
noncomputable def F.slices_nextPowerOfTwo.ic : IC :=
    (.seq (.reg F.slices_nextPowerOfTwo.r0)
    (.seq (.reg F.slices_nextPowerOfTwo.r1)
    .ret))
noncomputable def F.slices_nextPowerOfTwo.rs : List RO := [(.mv (.tmp 2))]
theorem F.slices_nextPowerOfTwo.ok : cFunc Go.Proofs.Tryd.prog F.slices_nextPowerOfTwo = some (7, F.slices_nextPowerOfTwo.ic, F.slices_nextPowerOfTwo.rs) := by kernel_rfl
theorem F.slices_nextPowerOfTwo.cl : callable Go.Proofs.Tryd.prog F.slices_nextPowerOfTwo = true := by kernel_rfl
noncomputable def F.slices_xorshift_Next.r0 : Plan :=
  .rd 0 none (.mv (.const (.int .u64 0))) (some 2) false <|
  .done
noncomputable def F.slices_xorshift_Next.r1 : Plan :=
  .rd 0 none (.mv (.tmp 0)) (some 3) false <|
  .rd 1 none (.nilC (.tmp 3)) (some 4) false <|
  .rd 2 none (.ld1 (.tmp 4)) (some 5) false <|
  .rd 3 none (.mv (.tmp 0)) (some 6) false <|
  .rd 4 none (.nilC (.tmp 6)) (some 7) false <|
  .rd 5 none (.ld1 (.tmp 7)) (some 8) false <|
  .rd 6 none (.bin .shl (.tmp 8) (.const (.int .u64 13))) (some 9) false <|
  .rd 7 none (.bin .xor (.tmp 5) (.tmp 9)) (some 10) false <|
  .rd 8 none (.nilC (.tmp 3)) (some 11) false <|
  .ef 9 none (.st 1 (.tmp 11) (.tmp 10)) none [] (
  .done) .none
noncomputable def F.slices_xorshift_Next.r2 : Plan :=
  .rd 0 none (.mv (.tmp 0)) (some 12) false <|
  .rd 1 none (.nilC (.tmp 12)) (some 13) false <|
  .rd 2 none (.ld1 (.tmp 13)) (some 14) false <|
  .rd 3 none (.mv (.tmp 0)) (some 15) false <|
  .rd 4 none (.nilC (.tmp 15)) (some 16) false <|
  .rd 5 none (.ld1 (.tmp 16)) (some 17) false <|
  .rd 6 none (.bin .shr (.tmp 17) (.const (.int .u64 7))) (some 18) false <|
  .rd 7 none (.bin .xor (.tmp 14) (.tmp 18)) (some 19) false <|
  .rd 8 none (.nilC (.tmp 12)) (some 20) false <|
  .ef 9 none (.st 1 (.tmp 20) (.tmp 19)) none [] (
  .done) .none
noncomputable def F.slices_xorshift_Next.r3 : Plan :=
  .rd 0 none (.mv (.tmp 0)) (some 21) false <|
  .rd 1 none (.nilC (.tmp 21)) (some 22) false <|
  .rd 2 none (.ld1 (.tmp 22)) (some 23) false <|
  .rd 3 none (.mv (.tmp 0)) (some 24) false <|
  .rd 4 none (.nilC (.tmp 24)) (some 25) false <|
  .rd 5 none (.ld1 (.tmp 25)) (some 26) false <|
  .rd 6 none (.bin .shl (.tmp 26) (.const (.int .u64 17))) (some 27) false <|
  .rd 7 none (.bin .xor (.tmp 23) (.tmp 27)) (some 28) false <|
  .rd 8 none (.nilC (.tmp 21)) (some 29) false <|
  .ef 9 none (.st 1 (.tmp 29) (.tmp 28)) none [] (
  .done) .none
noncomputable def F.slices_xorshift_Next.r4 : Plan :=
  .rd 0 none (.mv (.tmp 0)) (some 30) false <|
  .rd 1 none (.nilC (.tmp 30)) (some 31) false <|
  .rd 2 none (.ld1 (.tmp 31)) (some 32) false <|
  .rd 3 none (.mv (.tmp 32)) (some 2) false <|
  .done
noncomputable def F.slices_xorshift_Next.ic : IC :=
    (.seq (.reg F.slices_xorshift_Next.r0)
    (.seq (.reg F.slices_xorshift_Next.r1)
    (.seq (.reg F.slices_xorshift_Next.r2)
    (.seq (.reg F.slices_xorshift_Next.r3)
    (.seq (.reg F.slices_xorshift_Next.r4)
    .ret)))))
noncomputable def F.slices_xorshift_Next.rs : List RO := [(.mv (.tmp 2))]
theorem F.slices_xorshift_Next.ok : cFunc Go.Proofs.Tryd.prog F.slices_xorshift_Next = some (33, F.slices_xorshift_Next.ic, F.slices_xorshift_Next.rs) := by kernel_rfl
theorem F.slices_xorshift_Next.cl : callable Go.Proofs.Tryd.prog F.slices_xorshift_Next = true := by kernel_rfl
noncomputable def F.slices_medianAdjacentCmpFunc_api_Dot.r0 : Plan :=
  .rd 0 none (.mv (.const (.int .i64 0))) (some 8) false <|
  .done
noncomputable def F.slices_medianAdjacentCmpFunc_api_Dot.r1 : Plan :=
  .rd 0 none (.mv (.tmp 0)) (some 9) false <|
  .rd 1 none (.mv (.tmp 1)) (some 10) false <|
  .rd 2 none (.bin .sub (.tmp 10) (.const (.int .i64 1))) (some 11) false <|
  .rd 3 none (.mv (.tmp 1)) (some 12) false <|
  .rd 4 none (.mv (.tmp 1)) (some 13) false <|
  .rd 5 none (.bin .add (.tmp 13) (.const (.int .i64 1))) (some 14) false <|
  .rd 6 none (.mv (.tmp 2)) (some 15) false <|
  .rd 7 none (.mv (.tmp 3)) (some 16) false <|
  .ef 8 none (.call F.slices_medianCmpFunc_api_Dot [(.tmp 9), (.tmp 11), (.tmp 12), (.tmp 14), (.tmp 15), (.tmp 16)]) (some 17) [] (
  .rd 9 none (.mv (.tmp 17)) (some 8) false <|
  .done) .none
noncomputable def F.slices_medianAdjacentCmpFunc_api_Dot.ic : IC :=
    (.seq (.reg F.slices_medianAdjacentCmpFunc_api_Dot.r0)
    (.seq (.reg F.slices_medianAdjacentCmpFunc_api_Dot.r1)
    .ret))
noncomputable def F.slices_medianAdjacentCmpFunc_api_Dot.rs : List RO := [(.mv (.tmp 8))]
theorem F.slices_medianAdjacentCmpFunc_api_Dot.ok : cFunc Go.Proofs.Tryd.prog F.slices_medianAdjacentCmpFunc_api_Dot = some (18, F.slices_medianAdjacentCmpFunc_api_Dot.ic, F.slices_medianAdjacentCmpFunc_api_Dot.rs) := by kernel_rfl
theorem F.slices_medianAdjacentCmpFunc_api_Dot.cl : callable Go.Proofs.Tryd.prog F.slices_medianAdjacentCmpFunc_api_Dot = true := by kernel_rfl
noncomputable def F.slices_medianCmpFunc_api_Dot.r0 : Plan :=
  .rd 0 none (.mv (.const (.int .i64 0))) (some 12) false <|
  .done
noncomputable def F.slices_medianCmpFunc_api_Dot.r1 : Plan :=
  .rd 0 none (.mv (.tmp 0)) (some 14) false <|
  .rd 1 none (.mv (.tmp 1)) (some 15) false <|
  .rd 2 none (.mv (.tmp 2)) (some 16) false <|
  .rd 3 none (.mv (.tmp 4)) (some 17) false <|
  .rd 4 none (.mv (.tmp 5)) (some 18) false <|
  .ef 5 none (.call F.slices_order2CmpFunc_api_Dot [(.tmp 14), (.tmp 15), (.tmp 16), (.tmp 17), (.tmp 18)]) (some 19) [] (
  .rd 6 none (.mv (.tmp 19)) (some 13) false <|
  .rd 7 none (.ext 0 (.tmp 13)) (some 20) false <|
  .rd 8 none (.ext 1 (.tmp 13)) (some 21) false <|
  .rd 9 none (.mv (.tmp 20)) (some 1) false <|
  .rd 10 none (.mv (.tmp 21)) (some 2) false <|
  .done) .none
noncomputable def F.slices_medianCmpFunc_api_Dot.r2 : Plan :=
  .rd 0 none (.mv (.tmp 0)) (some 23) false <|
  .rd 1 none (.mv (.tmp 2)) (some 24) false <|
  .rd 2 none (.mv (.tmp 3)) (some 25) false <|
  .rd 3 none (.mv (.tmp 4)) (some 26) false <|
  .rd 4 none (.mv (.tmp 5)) (some 27) false <|
  .ef 5 none (.call F.slices_order2CmpFunc_api_Dot [(.tmp 23), (.tmp 24), (.tmp 25), (.tmp 26), (.tmp 27)]) (some 28) [] (
  .rd 6 none (.mv (.tmp 28)) (some 22) false <|
  .rd 7 none (.ext 0 (.tmp 22)) (some 29) false <|
  .rd 8 none (.ext 1 (.tmp 22)) (some 30) false <|
  .rd 9 none (.mv (.tmp 29)) (some 2) false <|
  .rd 10 none (.mv (.tmp 30)) (some 3) false <|
  .done) .none
noncomputable def F.slices_medianCmpFunc_api_Dot.r3 : Plan :=
  .rd 0 none (.mv (.tmp 0)) (some 32) false <|
  .rd 1 none (.mv (.tmp 1)) (some 33) false <|
  .rd 2 none (.mv (.tmp 2)) (some 34) false <|
  .rd 3 none (.mv (.tmp 4)) (some 35) false <|
  .rd 4 none (.mv (.tmp 5)) (some 36) false <|
  .ef 5 none (.call F.slices_order2CmpFunc_api_Dot [(.tmp 32), (.tmp 33), (.tmp 34), (.tmp 35), (.tmp 36)]) (some 37) [] (
  .rd 6 none (.mv (.tmp 37)) (some 31) false <|
  .rd 7 none (.ext 0 (.tmp 31)) (some 38) false <|
  .rd 8 none (.ext 1 (.tmp 31)) (some 39) false <|
  .rd 9 none (.mv (.tmp 38)) (some 1) false <|
  .rd 10 none (.mv (.tmp 39)) (some 2) false <|
  .done) .none
noncomputable def F.slices_medianCmpFunc_api_Dot.r4 : Plan :=
  .rd 0 none (.mv (.tmp 2)) (some 40) false <|
  .rd 1 none (.mv (.tmp 40)) (some 12) false <|
  .done
noncomputable def F.slices_medianCmpFunc_api_Dot.ic : IC :=
    (.seq (.reg F.slices_medianCmpFunc_api_Dot.r0)
    (.seq (.reg F.slices_medianCmpFunc_api_Dot.r1)
    (.seq (.reg F.slices_medianCmpFunc_api_Dot.r2)
    (.seq (.reg F.slices_medianCmpFunc_api_Dot.r3)
    (.seq (.reg F.slices_medianCmpFunc_api_Dot.r4)
    .ret)))))
noncomputable def F.slices_medianCmpFunc_api_Dot.rs : List RO := [(.mv (.tmp 12))]
theorem F.slices_medianCmpFunc_api_Dot.ok : cFunc Go.Proofs.Tryd.prog F.slices_medianCmpFunc_api_Dot = some (41, F.slices_medianCmpFunc_api_Dot.ic, F.slices_medianCmpFunc_api_Dot.rs) := by kernel_rfl
theorem F.slices_medianCmpFunc_api_Dot.cl : callable Go.Proofs.Tryd.prog F.slices_medianCmpFunc_api_Dot = true := by kernel_rfl
noncomputable def F.slices_order2CmpFunc_api_Dot.r0 : Plan :=
  .rd 0 none (.mv (.const (.int .i64 0))) (some 10) false <|
  .rd 1 none (.mv (.const (.int .i64 0))) (some 11) false <|
  .done
noncomputable def F.slices_order2CmpFunc_api_Dot.r1 : Plan :=
  .rd 0 none (.mv (.tmp 4)) (some 12) false <|
  .rd 1 none (.mv (.tmp 0)) (some 13) false <|
  .rd 2 none (.mv (.tmp 2)) (some 14) false <|
  .rd 3 none (.idxA 2 (.tmp 13) (.tmp 14)) (some 15) false <|
  .rd 4 none (.ldn 2 (.tmp 15)) (some 16) false <|
  .rd 5 none (.mv (.tmp 0)) (some 17) false <|
  .rd 6 none (.mv (.tmp 1)) (some 18) false <|
  .rd 7 none (.idxA 2 (.tmp 17) (.tmp 18)) (some 19) false <|
  .rd 8 none (.ldn 2 (.tmp 19)) (some 20) false <|
  .ef 9 none (.callv (.tmp 12) [(.tmp 16), (.tmp 20)]) (some 21) [] (
  .rd 10 none (.bin .lss (.tmp 21) (.const (.int .i64 0))) (some 22) false <|
  .done) .none
noncomputable def F.slices_order2CmpFunc_api_Dot.r2 : Plan :=
  .rd 0 none (.mv (.tmp 3)) (some 23) false <|
  .rd 1 none (.nilC (.tmp 23)) (some 24) false <|
  .rd 2 none (.ld1 (.tmp 24)) (some 25) false <|
  .rd 3 none (.bin .add (.tmp 25) (.const (.int .i64 1))) (some 26) false <|
  .rd 4 none (.nilC (.tmp 23)) (some 27) false <|
  .ef 5 none (.st 1 (.tmp 27) (.tmp 26)) none [] (
  .done) .none
noncomputable def F.slices_order2CmpFunc_api_Dot.r3 : Plan :=
  .rd 0 none (.mv (.tmp 2)) (some 28) false <|
  .rd 1 none (.mv (.tmp 1)) (some 29) false <|
  .rd 2 none (.mv (.tmp 28)) (some 10) false <|
  .rd 3 none (.mv (.tmp 29)) (some 11) false <|
  .done
noncomputable def F.slices_order2CmpFunc_api_Dot.r4 : Plan :=
  .rd 0 none (.mv (.tmp 1)) (some 30) false <|
  .rd 1 none (.mv (.tmp 2)) (some 31) false <|
  .rd 2 none (.mv (.tmp 30)) (some 10) false <|
  .rd 3 none (.mv (.tmp 31)) (some 11) false <|
  .done
noncomputable def F.slices_order2CmpFunc_api_Dot.ic : IC :=
    (.seq (.reg F.slices_order2CmpFunc_api_Dot.r0)
    (.seq (.seq (.reg F.slices_order2CmpFunc_api_Dot.r1)
    (.cond (.tmp 22) (.seq (.reg F.slices_order2CmpFunc_api_Dot.r2)
    (.seq (.reg F.slices_order2CmpFunc_api_Dot.r3)
    .ret)) .skip))
    (.seq (.reg F.slices_order2CmpFunc_api_Dot.r4)
    .ret)))
noncomputable def F.slices_order2CmpFunc_api_Dot.rs : List RO := [(.mv (.tmp 10)), (.mv (.tmp 11))]
theorem F.slices_order2CmpFunc_api_Dot.ok : cFunc Go.Proofs.Tryd.prog F.slices_order2CmpFunc_api_Dot = some (32, F.slices_order2CmpFunc_api_Dot.ic, F.slices_order2CmpFunc_api_Dot.rs) := by kernel_rfl
theorem F.slices_order2CmpFunc_api_Dot.cl : callable Go.Proofs.Tryd.prog F.slices_order2CmpFunc_api_Dot = true := by kernel_rfl
attribute [go_sem] F.bits_Len.r0 F.bits_Len.r1 F.bits_Len.r2 F.bits_Len.ic F.bits_Len.rs
attribute [go_sem] F.bits_Len32.r0 F.bits_Len32.r1 F.bits_Len32.r2 F.bits_Len32.r3 F.bits_Len32.r4 F.bits_Len32.r5 F.bits_Len32.r6 F.bits_Len32.r7 F.bits_Len32.ic F.bits_Len32.rs
attribute [go_sem] F.bits_Len64.r0 F.bits_Len64.r1 F.bits_Len64.r2 F.bits_Len64.r3 F.bits_Len64.r4 F.bits_Len64.r5 F.bits_Len64.r6 F.bits_Len64.r7 F.bits_Len64.r8 F.bits_Len64.r9 F.bits_Len64.r10 F.bits_Len64.ic F.bits_Len64.rs
attribute [go_sem] F.causal_Ahead.r0 F.causal_Ahead.r1 F.causal_Ahead.ic F.causal_Ahead.rs
attribute [go_sem] F.causal_Frontier.r0 F.causal_Frontier.r1 F.causal_Frontier.r2 F.causal_Frontier.r3 F.causal_Frontier.r4 F.causal_Frontier.r5 F.causal_Frontier.r6 F.causal_Frontier.r7 F.causal_Frontier.r8 F.causal_Frontier.r9 F.causal_Frontier.ic F.causal_Frontier.rs
attribute [go_sem] F.causal_Frontier_c1.r0 F.causal_Frontier_c1.r1 F.causal_Frontier_c1.ic F.causal_Frontier_c1.rs
attribute [go_sem] F.causal_Order.r0 F.causal_Order.r1 F.causal_Order.r2 F.causal_Order.r3 F.causal_Order.r4 F.causal_Order.r5 F.causal_Order.r6 F.causal_Order.r7 F.causal_Order.r8 F.causal_Order.r9 F.causal_Order.r10 F.causal_Order.r11 F.causal_Order.ic F.causal_Order.rs
attribute [go_sem] F.causal_Ready.r0 F.causal_Ready.r1 F.causal_Ready.r2 F.causal_Ready.r3 F.causal_Ready.r4 F.causal_Ready.r5 F.causal_Ready.r6 F.causal_Ready.r7 F.causal_Ready.ic F.causal_Ready.rs
attribute [go_sem] F.causal_Right.r0 F.causal_Right.r1 F.causal_Right.r2 F.causal_Right.r3 F.causal_Right.r4 F.causal_Right.r5 F.causal_Right.r6 F.causal_Right.r7 F.causal_Right.r8 F.causal_Right.r9 F.causal_Right.r10 F.causal_Right.ic F.causal_Right.rs
attribute [go_sem] F.causal_Right_c1.r0 F.causal_Right_c1.r1 F.causal_Right_c1.ic F.causal_Right_c1.rs
attribute [go_sem] F.causal_Version.r0 F.causal_Version.r1 F.causal_Version.r2 F.causal_Version.r3 F.causal_Version.r4 F.causal_Version.r5 F.causal_Version.r6 F.causal_Version.r7 F.causal_Version.ic F.causal_Version.rs
attribute [go_sem] F.dots_Rising.r0 F.dots_Rising.r1 F.dots_Rising.ic F.dots_Rising.rs
attribute [go_sem] F.dots_row.r0 F.dots_row.r1 F.dots_row.r2 F.dots_row.r3 F.dots_row.r4 F.dots_row.r5 F.dots_row.r6 F.dots_row.r7 F.dots_row.ic F.dots_row.rs
attribute [go_sem] F.dots_set.r0 F.dots_set.r1 F.dots_set.r2 F.dots_set.r3 F.dots_set.r4 F.dots_set.r5 F.dots_set.r6 F.dots_set.r7 F.dots_set.ic F.dots_set.rs
attribute [go_sem] F.osierlaw08_CausalBehind.r0 F.osierlaw08_CausalBehind.r1 F.osierlaw08_CausalBehind.r2 F.osierlaw08_CausalBehind.r3 F.osierlaw08_CausalBehind.r4 F.osierlaw08_CausalBehind.r5 F.osierlaw08_CausalBehind.r6 F.osierlaw08_CausalBehind.r7 F.osierlaw08_CausalBehind.r8 F.osierlaw08_CausalBehind.r9 F.osierlaw08_CausalBehind.r10 F.osierlaw08_CausalBehind.r11 F.osierlaw08_CausalBehind.r12 F.osierlaw08_CausalBehind.r13 F.osierlaw08_CausalBehind.r14 F.osierlaw08_CausalBehind.r15 F.osierlaw08_CausalBehind.r16 F.osierlaw08_CausalBehind.r17 F.osierlaw08_CausalBehind.r18 F.osierlaw08_CausalBehind.r19 F.osierlaw08_CausalBehind.r20 F.osierlaw08_CausalBehind.r21 F.osierlaw08_CausalBehind.r22 F.osierlaw08_CausalBehind.r23 F.osierlaw08_CausalBehind.r24 F.osierlaw08_CausalBehind.r25 F.osierlaw08_CausalBehind.ic F.osierlaw08_CausalBehind.rs
attribute [go_sem] F.osierlaw08_awake.r0 F.osierlaw08_awake.r1 F.osierlaw08_awake.r2 F.osierlaw08_awake.r3 F.osierlaw08_awake.r4 F.osierlaw08_awake.r5 F.osierlaw08_awake.r6 F.osierlaw08_awake.r7 F.osierlaw08_awake.ic F.osierlaw08_awake.rs
attribute [go_sem] F.osierlaw08_small.r0 F.osierlaw08_small.r1 F.osierlaw08_small.r2 F.osierlaw08_small.r3 F.osierlaw08_small.r4 F.osierlaw08_small.r5 F.osierlaw08_small.r6 F.osierlaw08_small.ic F.osierlaw08_small.rs
attribute [go_sem] F.slices_Concat_api_Vector_api_Dot.r0 F.slices_Concat_api_Vector_api_Dot.r1 F.slices_Concat_api_Vector_api_Dot.r2 F.slices_Concat_api_Vector_api_Dot.r3 F.slices_Concat_api_Vector_api_Dot.r4 F.slices_Concat_api_Vector_api_Dot.r5 F.slices_Concat_api_Vector_api_Dot.r6 F.slices_Concat_api_Vector_api_Dot.r7 F.slices_Concat_api_Vector_api_Dot.r8 F.slices_Concat_api_Vector_api_Dot.r9 F.slices_Concat_api_Vector_api_Dot.r10 F.slices_Concat_api_Vector_api_Dot.r11 F.slices_Concat_api_Vector_api_Dot.r12 F.slices_Concat_api_Vector_api_Dot.r13 F.slices_Concat_api_Vector_api_Dot.r14 F.slices_Concat_api_Vector_api_Dot.r15 F.slices_Concat_api_Vector_api_Dot.ic F.slices_Concat_api_Vector_api_Dot.rs
attribute [go_sem] F.slices_ContainsFunc_api_Vector_api_Dot.r0 F.slices_ContainsFunc_api_Vector_api_Dot.r1 F.slices_ContainsFunc_api_Vector_api_Dot.ic F.slices_ContainsFunc_api_Vector_api_Dot.rs
attribute [go_sem] F.slices_ContainsFunc_s_api_Op_api_Op.r0 F.slices_ContainsFunc_s_api_Op_api_Op.r1 F.slices_ContainsFunc_s_api_Op_api_Op.ic F.slices_ContainsFunc_s_api_Op_api_Op.rs
attribute [go_sem] F.slices_Delete_s_api_Op_api_Op.r0 F.slices_Delete_s_api_Op_api_Op.r1 F.slices_Delete_s_api_Op_api_Op.r2 F.slices_Delete_s_api_Op_api_Op.r3 F.slices_Delete_s_api_Op_api_Op.r4 F.slices_Delete_s_api_Op_api_Op.r5 F.slices_Delete_s_api_Op_api_Op.r6 F.slices_Delete_s_api_Op_api_Op.r7 F.slices_Delete_s_api_Op_api_Op.ic F.slices_Delete_s_api_Op_api_Op.rs
attribute [go_sem] F.slices_Grow_api_Vector_api_Dot.r0 F.slices_Grow_api_Vector_api_Dot.r1 F.slices_Grow_api_Vector_api_Dot.r2 F.slices_Grow_api_Vector_api_Dot.r3 F.slices_Grow_api_Vector_api_Dot.r4 F.slices_Grow_api_Vector_api_Dot.r5 F.slices_Grow_api_Vector_api_Dot.r6 F.slices_Grow_api_Vector_api_Dot.ic F.slices_Grow_api_Vector_api_Dot.rs
attribute [go_sem] F.slices_IndexFunc_s_api_Op_api_Op.r0 F.slices_IndexFunc_s_api_Op_api_Op.r1 F.slices_IndexFunc_s_api_Op_api_Op.r2 F.slices_IndexFunc_s_api_Op_api_Op.r3 F.slices_IndexFunc_s_api_Op_api_Op.r4 F.slices_IndexFunc_s_api_Op_api_Op.r5 F.slices_IndexFunc_s_api_Op_api_Op.r6 F.slices_IndexFunc_s_api_Op_api_Op.r7 F.slices_IndexFunc_s_api_Op_api_Op.ic F.slices_IndexFunc_s_api_Op_api_Op.rs
attribute [go_sem] F.slices_SortFunc_s_api_Dot_api_Dot.r0 F.slices_SortFunc_s_api_Dot_api_Dot.r1 F.slices_SortFunc_s_api_Dot_api_Dot.ic F.slices_SortFunc_s_api_Dot_api_Dot.rs
attribute [go_sem] F.slices_breakPatternsCmpFunc_api_Dot.r0 F.slices_breakPatternsCmpFunc_api_Dot.r1 F.slices_breakPatternsCmpFunc_api_Dot.r2 F.slices_breakPatternsCmpFunc_api_Dot.r3 F.slices_breakPatternsCmpFunc_api_Dot.r4 F.slices_breakPatternsCmpFunc_api_Dot.r5 F.slices_breakPatternsCmpFunc_api_Dot.r6 F.slices_breakPatternsCmpFunc_api_Dot.r7 F.slices_breakPatternsCmpFunc_api_Dot.r8 F.slices_breakPatternsCmpFunc_api_Dot.r9 F.slices_breakPatternsCmpFunc_api_Dot.r10 F.slices_breakPatternsCmpFunc_api_Dot.ic F.slices_breakPatternsCmpFunc_api_Dot.rs
attribute [go_sem] F.slices_choosePivotCmpFunc_api_Dot.r0 F.slices_choosePivotCmpFunc_api_Dot.r1 F.slices_choosePivotCmpFunc_api_Dot.r2 F.slices_choosePivotCmpFunc_api_Dot.r3 F.slices_choosePivotCmpFunc_api_Dot.r4 F.slices_choosePivotCmpFunc_api_Dot.r5 F.slices_choosePivotCmpFunc_api_Dot.r6 F.slices_choosePivotCmpFunc_api_Dot.r7 F.slices_choosePivotCmpFunc_api_Dot.r8 F.slices_choosePivotCmpFunc_api_Dot.r9 F.slices_choosePivotCmpFunc_api_Dot.r10 F.slices_choosePivotCmpFunc_api_Dot.r11 F.slices_choosePivotCmpFunc_api_Dot.r12 F.slices_choosePivotCmpFunc_api_Dot.r13 F.slices_choosePivotCmpFunc_api_Dot.r14 F.slices_choosePivotCmpFunc_api_Dot.r15 F.slices_choosePivotCmpFunc_api_Dot.r16 F.slices_choosePivotCmpFunc_api_Dot.r17 F.slices_choosePivotCmpFunc_api_Dot.ic F.slices_choosePivotCmpFunc_api_Dot.rs
attribute [go_sem] F.slices_heapSortCmpFunc_api_Dot.r0 F.slices_heapSortCmpFunc_api_Dot.r1 F.slices_heapSortCmpFunc_api_Dot.r2 F.slices_heapSortCmpFunc_api_Dot.r3 F.slices_heapSortCmpFunc_api_Dot.r4 F.slices_heapSortCmpFunc_api_Dot.r5 F.slices_heapSortCmpFunc_api_Dot.r6 F.slices_heapSortCmpFunc_api_Dot.r7 F.slices_heapSortCmpFunc_api_Dot.r8 F.slices_heapSortCmpFunc_api_Dot.r9 F.slices_heapSortCmpFunc_api_Dot.r10 F.slices_heapSortCmpFunc_api_Dot.r11 F.slices_heapSortCmpFunc_api_Dot.ic F.slices_heapSortCmpFunc_api_Dot.rs
attribute [go_sem] F.slices_insertionSortCmpFunc_api_Dot.r0 F.slices_insertionSortCmpFunc_api_Dot.r1 F.slices_insertionSortCmpFunc_api_Dot.r2 F.slices_insertionSortCmpFunc_api_Dot.r3 F.slices_insertionSortCmpFunc_api_Dot.r4 F.slices_insertionSortCmpFunc_api_Dot.r5 F.slices_insertionSortCmpFunc_api_Dot.r6 F.slices_insertionSortCmpFunc_api_Dot.ic F.slices_insertionSortCmpFunc_api_Dot.rs
attribute [go_sem] F.slices_medianAdjacentCmpFunc_api_Dot.r0 F.slices_medianAdjacentCmpFunc_api_Dot.r1 F.slices_medianAdjacentCmpFunc_api_Dot.ic F.slices_medianAdjacentCmpFunc_api_Dot.rs
attribute [go_sem] F.slices_medianCmpFunc_api_Dot.r0 F.slices_medianCmpFunc_api_Dot.r1 F.slices_medianCmpFunc_api_Dot.r2 F.slices_medianCmpFunc_api_Dot.r3 F.slices_medianCmpFunc_api_Dot.r4 F.slices_medianCmpFunc_api_Dot.ic F.slices_medianCmpFunc_api_Dot.rs
attribute [go_sem] F.slices_nextPowerOfTwo.r0 F.slices_nextPowerOfTwo.r1 F.slices_nextPowerOfTwo.ic F.slices_nextPowerOfTwo.rs
attribute [go_sem] F.slices_order2CmpFunc_api_Dot.r0 F.slices_order2CmpFunc_api_Dot.r1 F.slices_order2CmpFunc_api_Dot.r2 F.slices_order2CmpFunc_api_Dot.r3 F.slices_order2CmpFunc_api_Dot.r4 F.slices_order2CmpFunc_api_Dot.ic F.slices_order2CmpFunc_api_Dot.rs
attribute [go_sem] F.slices_partialInsertionSortCmpFunc_api_Dot.r0 F.slices_partialInsertionSortCmpFunc_api_Dot.r1 F.slices_partialInsertionSortCmpFunc_api_Dot.r2 F.slices_partialInsertionSortCmpFunc_api_Dot.r3 F.slices_partialInsertionSortCmpFunc_api_Dot.r4 F.slices_partialInsertionSortCmpFunc_api_Dot.r5 F.slices_partialInsertionSortCmpFunc_api_Dot.r6 F.slices_partialInsertionSortCmpFunc_api_Dot.r7 F.slices_partialInsertionSortCmpFunc_api_Dot.r8 F.slices_partialInsertionSortCmpFunc_api_Dot.r9 F.slices_partialInsertionSortCmpFunc_api_Dot.r10 F.slices_partialInsertionSortCmpFunc_api_Dot.r11 F.slices_partialInsertionSortCmpFunc_api_Dot.r12 F.slices_partialInsertionSortCmpFunc_api_Dot.r13 F.slices_partialInsertionSortCmpFunc_api_Dot.r14 F.slices_partialInsertionSortCmpFunc_api_Dot.r15 F.slices_partialInsertionSortCmpFunc_api_Dot.r16 F.slices_partialInsertionSortCmpFunc_api_Dot.r17 F.slices_partialInsertionSortCmpFunc_api_Dot.r18 F.slices_partialInsertionSortCmpFunc_api_Dot.r19 F.slices_partialInsertionSortCmpFunc_api_Dot.r20 F.slices_partialInsertionSortCmpFunc_api_Dot.r21 F.slices_partialInsertionSortCmpFunc_api_Dot.r22 F.slices_partialInsertionSortCmpFunc_api_Dot.r23 F.slices_partialInsertionSortCmpFunc_api_Dot.r24 F.slices_partialInsertionSortCmpFunc_api_Dot.ic F.slices_partialInsertionSortCmpFunc_api_Dot.rs
attribute [go_sem] F.slices_partitionCmpFunc_api_Dot.r0 F.slices_partitionCmpFunc_api_Dot.r1 F.slices_partitionCmpFunc_api_Dot.r2 F.slices_partitionCmpFunc_api_Dot.r3 F.slices_partitionCmpFunc_api_Dot.r4 F.slices_partitionCmpFunc_api_Dot.r5 F.slices_partitionCmpFunc_api_Dot.r6 F.slices_partitionCmpFunc_api_Dot.r7 F.slices_partitionCmpFunc_api_Dot.r8 F.slices_partitionCmpFunc_api_Dot.r9 F.slices_partitionCmpFunc_api_Dot.r10 F.slices_partitionCmpFunc_api_Dot.r11 F.slices_partitionCmpFunc_api_Dot.r12 F.slices_partitionCmpFunc_api_Dot.r13 F.slices_partitionCmpFunc_api_Dot.r14 F.slices_partitionCmpFunc_api_Dot.r15 F.slices_partitionCmpFunc_api_Dot.r16 F.slices_partitionCmpFunc_api_Dot.r17 F.slices_partitionCmpFunc_api_Dot.r18 F.slices_partitionCmpFunc_api_Dot.r19 F.slices_partitionCmpFunc_api_Dot.r20 F.slices_partitionCmpFunc_api_Dot.r21 F.slices_partitionCmpFunc_api_Dot.r22 F.slices_partitionCmpFunc_api_Dot.ic F.slices_partitionCmpFunc_api_Dot.rs
attribute [go_sem] F.slices_partitionEqualCmpFunc_api_Dot.r0 F.slices_partitionEqualCmpFunc_api_Dot.r1 F.slices_partitionEqualCmpFunc_api_Dot.r2 F.slices_partitionEqualCmpFunc_api_Dot.r3 F.slices_partitionEqualCmpFunc_api_Dot.r4 F.slices_partitionEqualCmpFunc_api_Dot.r5 F.slices_partitionEqualCmpFunc_api_Dot.r6 F.slices_partitionEqualCmpFunc_api_Dot.r7 F.slices_partitionEqualCmpFunc_api_Dot.r8 F.slices_partitionEqualCmpFunc_api_Dot.r9 F.slices_partitionEqualCmpFunc_api_Dot.r10 F.slices_partitionEqualCmpFunc_api_Dot.r11 F.slices_partitionEqualCmpFunc_api_Dot.ic F.slices_partitionEqualCmpFunc_api_Dot.rs
attribute [go_sem] F.slices_pdqsortCmpFunc_api_Dot.r0 F.slices_pdqsortCmpFunc_api_Dot.r1 F.slices_pdqsortCmpFunc_api_Dot.r2 F.slices_pdqsortCmpFunc_api_Dot.r3 F.slices_pdqsortCmpFunc_api_Dot.r4 F.slices_pdqsortCmpFunc_api_Dot.r5 F.slices_pdqsortCmpFunc_api_Dot.r6 F.slices_pdqsortCmpFunc_api_Dot.r7 F.slices_pdqsortCmpFunc_api_Dot.r8 F.slices_pdqsortCmpFunc_api_Dot.r9 F.slices_pdqsortCmpFunc_api_Dot.r10 F.slices_pdqsortCmpFunc_api_Dot.r11 F.slices_pdqsortCmpFunc_api_Dot.r12 F.slices_pdqsortCmpFunc_api_Dot.r13 F.slices_pdqsortCmpFunc_api_Dot.r14 F.slices_pdqsortCmpFunc_api_Dot.r15 F.slices_pdqsortCmpFunc_api_Dot.r16 F.slices_pdqsortCmpFunc_api_Dot.r17 F.slices_pdqsortCmpFunc_api_Dot.r18 F.slices_pdqsortCmpFunc_api_Dot.r19 F.slices_pdqsortCmpFunc_api_Dot.r20 F.slices_pdqsortCmpFunc_api_Dot.r21 F.slices_pdqsortCmpFunc_api_Dot.r22 F.slices_pdqsortCmpFunc_api_Dot.r23 F.slices_pdqsortCmpFunc_api_Dot.r24 F.slices_pdqsortCmpFunc_api_Dot.r25 F.slices_pdqsortCmpFunc_api_Dot.r26 F.slices_pdqsortCmpFunc_api_Dot.r27 F.slices_pdqsortCmpFunc_api_Dot.r28 F.slices_pdqsortCmpFunc_api_Dot.r29 F.slices_pdqsortCmpFunc_api_Dot.r30 F.slices_pdqsortCmpFunc_api_Dot.ic F.slices_pdqsortCmpFunc_api_Dot.rs
attribute [go_sem] F.slices_reverseRangeCmpFunc_api_Dot.r0 F.slices_reverseRangeCmpFunc_api_Dot.r1 F.slices_reverseRangeCmpFunc_api_Dot.r2 F.slices_reverseRangeCmpFunc_api_Dot.r3 F.slices_reverseRangeCmpFunc_api_Dot.r4 F.slices_reverseRangeCmpFunc_api_Dot.r5 F.slices_reverseRangeCmpFunc_api_Dot.ic F.slices_reverseRangeCmpFunc_api_Dot.rs
attribute [go_sem] F.slices_siftDownCmpFunc_api_Dot.r0 F.slices_siftDownCmpFunc_api_Dot.r1 F.slices_siftDownCmpFunc_api_Dot.r2 F.slices_siftDownCmpFunc_api_Dot.r3 F.slices_siftDownCmpFunc_api_Dot.r4 F.slices_siftDownCmpFunc_api_Dot.r5 F.slices_siftDownCmpFunc_api_Dot.r6 F.slices_siftDownCmpFunc_api_Dot.r7 F.slices_siftDownCmpFunc_api_Dot.ic F.slices_siftDownCmpFunc_api_Dot.rs
attribute [go_sem] F.slices_xorshift_Next.r0 F.slices_xorshift_Next.r1 F.slices_xorshift_Next.r2 F.slices_xorshift_Next.r3 F.slices_xorshift_Next.r4 F.slices_xorshift_Next.ic F.slices_xorshift_Next.rs
attribute [go_sem] F.vector_Below.r0 F.vector_Below.r1 F.vector_Below.ic F.vector_Below.rs
attribute [go_sem] F.vector_Below_c1.r0 F.vector_Below_c1.r1 F.vector_Below_c1.ic F.vector_Below_c1.rs
attribute [go_sem] F.vector_Join.r0 F.vector_Join.r1 F.vector_Join.ic F.vector_Join.rs
attribute [go_sem] F.vector_Join_c1.r0 F.vector_Join_c1.r1 F.vector_Join_c1.ic F.vector_Join_c1.rs
attribute [go_sem] F.vector_With.r0 F.vector_With.r1 F.vector_With.r2 F.vector_With.r3 F.vector_With.ic F.vector_With.rs
attribute [go_sem] F.vector_each.r0 F.vector_each.r1 F.vector_each.r2 F.vector_each.r3 F.vector_each.r4 F.vector_each.r5 F.vector_each.r6 F.vector_each.r7 F.vector_each.r8 F.vector_each.r9 F.vector_each.ic F.vector_each.rs
end Go.Osj
