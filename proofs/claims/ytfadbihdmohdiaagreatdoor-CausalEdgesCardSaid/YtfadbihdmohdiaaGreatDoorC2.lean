/- The compiled code of functions (printed by a program, checked by the kernel). -/
import Derived.Test.YtfadbihdmohdiaaGreatDoorC0
import Derived.Test.YtfadbihdmohdiaaGreatDoorOsjN
set_option linter.unusedSimpArgs false
set_option linter.unusedVariables false
set_option maxRecDepth 100000
namespace Go.Osj
noncomputable def F.osierlaw08_CausalReady.r0 : Plan :=
  .ef 0 none (.box (.tmp 1)) (some 3) [] (
  .rd 1 none (.mv (.const (.bool false))) (some 4) false <|
  .done) .none
noncomputable def F.osierlaw08_CausalReady.r1 : Plan :=
  .ef 0 none (.call F.osierlaw08_awake []) (some 7) [] (
  .rd 1 none (.mv (.tmp 7)) (some 5) false <|
  .done) .none
noncomputable def F.osierlaw08_CausalReady.r2 : Plan :=
  .rd 0 none (.mv (.tmp 5)) (some 8) false <|
  .rd 1 none (.un .not (.tmp 8)) (some 9) false <|
  .done
noncomputable def F.osierlaw08_CausalReady.r3 : Plan :=
  .rd 0 none (.mv (.const (.bool false))) (some 4) false <|
  .done
noncomputable def F.osierlaw08_CausalReady.r4 : Plan :=
  .rd 0 none (.mv (.tmp 0)) (some 10) false <|
  .ef 1 none (.call F.osierref04_Made [(.tmp 10)]) (some 11) [] (
  .rd 2 none (.mv (.tmp 11)) (some 6) false <|
  .done) .none
noncomputable def F.osierlaw08_CausalReady.r5 : Plan :=
  .rd 0 none (.fldA 3 (.tmp 3)) (some 12) false <|
  .rd 1 none (.ld1 (.tmp 12)) (some 13) false <|
  .rd 2 none (.len .sl (.tmp 13)) (some 14) false <|
  .rd 3 none (.bin .gtr (.tmp 14) (.const (.int .i64 200))) (some 15) false <|
  .rd 4 none (.mv (.tmp 15)) (some 16) false <|
  .rd 5 (some (16, false)) (.mv (.tmp 6)) (some 17) false <|
  .rd 6 (some (16, false)) (.ldn 14 (.tmp 3)) (some 18) false <|
  .rd 8 (some (16, false)) (.mv (.tmp 6)) (some 20) false <|
  .rd 9 (some (16, false)) (.ldn 14 (.tmp 3)) (some 21) true <|
  .ef 7 (some (16, false)) (.call F.causal_Ready [(.tmp 17), (.tmp 18)]) (some 19) [8, 9] (
  .ef 10 (some (16, false)) (.call F.osierref08_Ready [(.tmp 20), (.tmp 21)]) (some 22) [] (
  .rd 11 (some (16, false)) (.bin .eql (.tmp 19) (.tmp 22)) (some 23) false <|
  .rd 12 none (.pick (.tmp 16) (.const (.bool true)) (.tmp 23)) (some 24) false <|
  .rd 13 none (.mv (.tmp 24)) (some 4) false <|
  .done) .none) .none
noncomputable def F.osierlaw08_CausalReady.ic : IC :=
    (.seq (.reg F.osierlaw08_CausalReady.r0)
    (.seq (.reg F.osierlaw08_CausalReady.r1)
    (.seq (.seq (.reg F.osierlaw08_CausalReady.r2)
    (.cond (.tmp 9) (.seq (.reg F.osierlaw08_CausalReady.r3)
    .ret) .skip))
    (.seq (.reg F.osierlaw08_CausalReady.r4)
    (.seq (.reg F.osierlaw08_CausalReady.r5)
    .ret)))))
noncomputable def F.osierlaw08_CausalReady.rs : List RO := [(.mv (.tmp 4))]
theorem F.osierlaw08_CausalReady.ok : cFunc Go.Proofs.Tryz.prog F.osierlaw08_CausalReady = some (25, F.osierlaw08_CausalReady.ic, F.osierlaw08_CausalReady.rs) := by kernel_rfl
theorem F.osierlaw08_CausalReady.cl : callable Go.Proofs.Tryz.prog F.osierlaw08_CausalReady = true := by kernel_rfl
noncomputable def F.osierlaw08_CausalOrder.r0 : Plan :=
  .rd 0 none (.mv (.const (.bool false))) (some 2) false <|
  .done
noncomputable def F.osierlaw08_CausalOrder.r1 : Plan :=
  .ef 0 none (.call F.osierlaw08_awake []) (some 9) [] (
  .rd 1 none (.mv (.tmp 9)) (some 3) false <|
  .done) .none
noncomputable def F.osierlaw08_CausalOrder.r2 : Plan :=
  .rd 0 none (.mv (.tmp 3)) (some 10) false <|
  .rd 1 none (.un .not (.tmp 10)) (some 11) false <|
  .done
noncomputable def F.osierlaw08_CausalOrder.r3 : Plan :=
  .rd 0 none (.mv (.const (.bool false))) (some 2) false <|
  .done
noncomputable def F.osierlaw08_CausalOrder.r4 : Plan :=
  .rd 0 none (.mv (.tmp 0)) (some 12) false <|
  .ef 1 none (.call F.osierlaw08_small [(.tmp 12)]) (some 13) [] (
  .rd 2 none (.mv (.tmp 13)) (some 4) false <|
  .done) .none
noncomputable def F.osierlaw08_CausalOrder.r5 : Plan :=
  .rd 0 none (.mv (.tmp 4)) (some 14) false <|
  .rd 1 none (.un .not (.tmp 14)) (some 15) false <|
  .done
noncomputable def F.osierlaw08_CausalOrder.r6 : Plan :=
  .rd 0 none (.mv (.const (.bool true))) (some 2) false <|
  .done
noncomputable def F.osierlaw08_CausalOrder.r7 : Plan :=
  .rd 0 none (.mv (.tmp 0)) (some 17) false <|
  .ef 1 none (.call F.causal_Order [(.tmp 17)]) (some 18) [] (
  .rd 2 none (.mv (.tmp 18)) (some 16) false <|
  .rd 3 none (.ext 0 (.tmp 16)) (some 19) false <|
  .rd 4 none (.ext 1 (.tmp 16)) (some 20) false <|
  .rd 5 none (.mv (.tmp 19)) (some 5) false <|
  .rd 6 none (.mv (.tmp 20)) (some 6) false <|
  .done) .none
noncomputable def F.osierlaw08_CausalOrder.r8 : Plan :=
  .rd 0 none (.mv (.tmp 0)) (some 22) false <|
  .ef 1 none (.call F.osierref08_Order [(.tmp 22)]) (some 23) [] (
  .rd 2 none (.mv (.tmp 23)) (some 21) false <|
  .rd 3 none (.ext 0 (.tmp 21)) (some 24) false <|
  .rd 4 none (.ext 1 (.tmp 21)) (some 25) false <|
  .rd 5 none (.mv (.tmp 24)) (some 7) false <|
  .rd 6 none (.mv (.tmp 25)) (some 8) false <|
  .done) .none
noncomputable def F.osierlaw08_CausalOrder.r9 : Plan :=
  .rd 0 none (.mv (.tmp 5)) (some 26) false <|
  .rd 1 none (.mv (.tmp 7)) (some 27) false <|
  .ef 2 none (.call F.osierref07_Rows [(.tmp 26), (.tmp 27)]) (some 28) [] (
  .rd 3 none (.mv (.tmp 28)) (some 29) false <|
  .rd 4 (some (29, true)) (.mv (.tmp 6)) (some 30) false <|
  .rd 5 (some (29, true)) (.mv (.tmp 8)) (some 31) false <|
  .ef 6 (some (29, true)) (.call F.osierref07_Rows [(.tmp 30), (.tmp 31)]) (some 32) [] (
  .rd 7 none (.pick (.tmp 29) (.tmp 32) (.const (.bool false))) (some 33) false <|
  .rd 8 none (.mv (.tmp 33)) (some 34) false <|
  .rd 9 (some (34, true)) (.mv (.tmp 0)) (some 35) false <|
  .ef 10 (some (34, true)) (.call F.causal_Right [(.tmp 35)]) (some 36) [] (
  .rd 11 (some (34, true)) (.mv (.tmp 0)) (some 37) false <|
  .ef 12 (some (34, true)) (.call F.osierref08_Right [(.tmp 37)]) (some 38) [] (
  .rd 13 (some (34, true)) (.eqS [.b] false false (.tmp 36) (.tmp 38)) (some 39) false <|
  .rd 14 none (.pick (.tmp 34) (.tmp 39) (.const (.bool false))) (some 40) false <|
  .rd 15 none (.mv (.tmp 40)) (some 2) false <|
  .done) .none) .none) .none) .none
noncomputable def F.osierlaw08_CausalOrder.ic : IC :=
    (.seq (.reg F.osierlaw08_CausalOrder.r0)
    (.seq (.reg F.osierlaw08_CausalOrder.r1)
    (.seq (.seq (.reg F.osierlaw08_CausalOrder.r2)
    (.cond (.tmp 11) (.seq (.reg F.osierlaw08_CausalOrder.r3)
    .ret) .skip))
    (.seq (.reg F.osierlaw08_CausalOrder.r4)
    (.seq (.seq (.reg F.osierlaw08_CausalOrder.r5)
    (.cond (.tmp 15) (.seq (.reg F.osierlaw08_CausalOrder.r6)
    .ret) .skip))
    (.seq (.reg F.osierlaw08_CausalOrder.r7)
    (.seq (.reg F.osierlaw08_CausalOrder.r8)
    (.seq (.reg F.osierlaw08_CausalOrder.r9)
    .ret))))))))
noncomputable def F.osierlaw08_CausalOrder.rs : List RO := [(.mv (.tmp 2))]
theorem F.osierlaw08_CausalOrder.ok : cFunc Go.Proofs.Tryz.prog F.osierlaw08_CausalOrder = some (41, F.osierlaw08_CausalOrder.ic, F.osierlaw08_CausalOrder.rs) := by kernel_rfl
theorem F.osierlaw08_CausalOrder.cl : callable Go.Proofs.Tryz.prog F.osierlaw08_CausalOrder = true := by kernel_rfl
noncomputable def F.osierlaw08_awake.r0 : Plan :=
  .rd 0 none (.mv (.const (.bool false))) (some 0) false <|
  .done
noncomputable def F.osierlaw08_awake.r1 : Plan :=
  .rd 0 none (.build [(.int .i64 0), (.int .i64 0)] [(0, (1, (.const (.int .i64 1)))), (1, (1, (.const (.int .i64 1))))]) (some 9) false <|
  .ef 1 none (.alloc [(.int .i64 0), (.int .i64 0)]) (some 1) [] (
  .ef 2 none (.st 2 (.tmp 1) (.tmp 9)) none [] (
  .done) .none) .none
noncomputable def F.osierlaw08_awake.r2 : Plan :=
  .rd 0 none (.ldn 2 (.tmp 1)) (some 10) true <|
  .rd 1 none (.ldn 2 (.tmp 1)) (some 11) true <|
  .ef 2 none (.call F.api_Root []) (some 12) [0, 1] (
  .rd 3 none (.build [(.int .i64 0), (.int .i64 0), (.int .i64 0), (.slice none 0 0), (.int .i64 0), (.int .i64 0), (.int .i64 0), (.int .i64 0), (.int .i64 0), (.int .i64 0), (.int .i64 0), (.int .i64 0), (.int .i64 0), (.string ⟨#[]⟩)] [(0, (2, (.tmp 10))), (2, (1, (.const (.int .i64 1)))), (4, (1, (.const (.int .i64 3)))), (5, (2, (.tmp 11))), (11, (2, (.tmp 12))), (13, (1, (.const (.string ⟨#[110]⟩))))]) (some 13) false <|
  .ef 4 none (.alloc [(.int .i64 0), (.int .i64 0), (.int .i64 0), (.slice none 0 0), (.int .i64 0), (.int .i64 0), (.int .i64 0), (.int .i64 0), (.int .i64 0), (.int .i64 0), (.int .i64 0), (.int .i64 0), (.int .i64 0), (.string ⟨#[]⟩)]) (some 2) [0, 1, 3] (
  .ef 5 none (.st 14 (.tmp 2) (.tmp 13)) none [] (
  .done) .none) .none) (
    .ef 4 none (.alloc [(.int .i64 0), (.int .i64 0), (.int .i64 0), (.slice none 0 0), (.int .i64 0), (.int .i64 0), (.int .i64 0), (.int .i64 0), (.int .i64 0), (.int .i64 0), (.int .i64 0), (.int .i64 0), (.int .i64 0), (.string ⟨#[]⟩)]) (some 2) [0, 1] (
    .ef 2 none (.call F.api_Root []) (some 12) [0, 1] (
    .rd 3 none (.build [(.int .i64 0), (.int .i64 0), (.int .i64 0), (.slice none 0 0), (.int .i64 0), (.int .i64 0), (.int .i64 0), (.int .i64 0), (.int .i64 0), (.int .i64 0), (.int .i64 0), (.int .i64 0), (.int .i64 0), (.string ⟨#[]⟩)] [(0, (2, (.tmp 10))), (2, (1, (.const (.int .i64 1)))), (4, (1, (.const (.int .i64 3)))), (5, (2, (.tmp 11))), (11, (2, (.tmp 12))), (13, (1, (.const (.string ⟨#[110]⟩))))]) (some 13) false <|
    .ef 5 none (.st 14 (.tmp 2) (.tmp 13)) none [] (
    .done) .none) .none) .none)
noncomputable def F.osierlaw08_awake.r3 : Plan :=
  .rd 0 none (.build [(.int .i64 0), (.int .i64 0)] [(0, (1, (.const (.int .i64 1)))), (1, (1, (.const (.int .i64 2))))]) (some 14) false <|
  .rd 1 none (.ldn 2 (.tmp 1)) (some 15) true <|
  .rd 3 none (.ldn 2 (.tmp 1)) (some 17) true <|
  .ef 2 none (.bsl 1 [(.int .i64 0), (.int .i64 0)] [(0, (2, (.tmp 15)))]) (some 16) [0, 3] (
  .ef 4 none (.call F.api_Trash []) (some 18) [0, 1, 3] (
  .rd 5 none (.build [(.int .i64 0), (.int .i64 0), (.int .i64 0), (.slice none 0 0), (.int .i64 0), (.int .i64 0), (.int .i64 0), (.int .i64 0), (.int .i64 0), (.int .i64 0), (.int .i64 0), (.int .i64 0), (.int .i64 0), (.string ⟨#[]⟩)] [(0, (2, (.tmp 14))), (2, (1, (.const (.int .i64 2)))), (3, (1, (.tmp 16))), (4, (1, (.const (.int .i64 3)))), (5, (2, (.tmp 17))), (11, (2, (.tmp 18))), (13, (1, (.const (.string ⟨#[110]⟩))))]) (some 19) false <|
  .ef 6 none (.alloc [(.int .i64 0), (.int .i64 0), (.int .i64 0), (.slice none 0 0), (.int .i64 0), (.int .i64 0), (.int .i64 0), (.int .i64 0), (.int .i64 0), (.int .i64 0), (.int .i64 0), (.int .i64 0), (.int .i64 0), (.string ⟨#[]⟩)]) (some 3) [0, 1, 3, 5] (
  .ef 7 none (.st 14 (.tmp 3) (.tmp 19)) none [] (
  .done) .none) .none) (
    .ef 6 none (.alloc [(.int .i64 0), (.int .i64 0), (.int .i64 0), (.slice none 0 0), (.int .i64 0), (.int .i64 0), (.int .i64 0), (.int .i64 0), (.int .i64 0), (.int .i64 0), (.int .i64 0), (.int .i64 0), (.int .i64 0), (.string ⟨#[]⟩)]) (some 3) [0, 1, 3] (
    .ef 4 none (.call F.api_Trash []) (some 18) [0, 1, 3] (
    .rd 5 none (.build [(.int .i64 0), (.int .i64 0), (.int .i64 0), (.slice none 0 0), (.int .i64 0), (.int .i64 0), (.int .i64 0), (.int .i64 0), (.int .i64 0), (.int .i64 0), (.int .i64 0), (.int .i64 0), (.int .i64 0), (.string ⟨#[]⟩)] [(0, (2, (.tmp 14))), (2, (1, (.const (.int .i64 2)))), (3, (1, (.tmp 16))), (4, (1, (.const (.int .i64 3)))), (5, (2, (.tmp 17))), (11, (2, (.tmp 18))), (13, (1, (.const (.string ⟨#[110]⟩))))]) (some 19) false <|
    .ef 7 none (.st 14 (.tmp 3) (.tmp 19)) none [] (
    .done) .none) .none) .none)) (
    .ef 4 none (.call F.api_Trash []) (some 18) [0, 1, 3] (
    .ef 2 none (.bsl 1 [(.int .i64 0), (.int .i64 0)] [(0, (2, (.tmp 15)))]) (some 16) [0, 3] (
    .rd 5 none (.build [(.int .i64 0), (.int .i64 0), (.int .i64 0), (.slice none 0 0), (.int .i64 0), (.int .i64 0), (.int .i64 0), (.int .i64 0), (.int .i64 0), (.int .i64 0), (.int .i64 0), (.int .i64 0), (.int .i64 0), (.string ⟨#[]⟩)] [(0, (2, (.tmp 14))), (2, (1, (.const (.int .i64 2)))), (3, (1, (.tmp 16))), (4, (1, (.const (.int .i64 3)))), (5, (2, (.tmp 17))), (11, (2, (.tmp 18))), (13, (1, (.const (.string ⟨#[110]⟩))))]) (some 19) false <|
    .ef 6 none (.alloc [(.int .i64 0), (.int .i64 0), (.int .i64 0), (.slice none 0 0), (.int .i64 0), (.int .i64 0), (.int .i64 0), (.int .i64 0), (.int .i64 0), (.int .i64 0), (.int .i64 0), (.int .i64 0), (.int .i64 0), (.string ⟨#[]⟩)]) (some 3) [0, 1, 3, 5] (
    .ef 7 none (.st 14 (.tmp 3) (.tmp 19)) none [] (
    .done) .none) .none) (
      .ef 6 none (.alloc [(.int .i64 0), (.int .i64 0), (.int .i64 0), (.slice none 0 0), (.int .i64 0), (.int .i64 0), (.int .i64 0), (.int .i64 0), (.int .i64 0), (.int .i64 0), (.int .i64 0), (.int .i64 0), (.int .i64 0), (.string ⟨#[]⟩)]) (some 3) [0, 1, 3] (
      .ef 2 none (.bsl 1 [(.int .i64 0), (.int .i64 0)] [(0, (2, (.tmp 15)))]) (some 16) [0, 3] (
      .rd 5 none (.build [(.int .i64 0), (.int .i64 0), (.int .i64 0), (.slice none 0 0), (.int .i64 0), (.int .i64 0), (.int .i64 0), (.int .i64 0), (.int .i64 0), (.int .i64 0), (.int .i64 0), (.int .i64 0), (.int .i64 0), (.string ⟨#[]⟩)] [(0, (2, (.tmp 14))), (2, (1, (.const (.int .i64 2)))), (3, (1, (.tmp 16))), (4, (1, (.const (.int .i64 3)))), (5, (2, (.tmp 17))), (11, (2, (.tmp 18))), (13, (1, (.const (.string ⟨#[110]⟩))))]) (some 19) false <|
      .ef 7 none (.st 14 (.tmp 3) (.tmp 19)) none [] (
      .done) .none) .none) .none)) (
      .ef 6 none (.alloc [(.int .i64 0), (.int .i64 0), (.int .i64 0), (.slice none 0 0), (.int .i64 0), (.int .i64 0), (.int .i64 0), (.int .i64 0), (.int .i64 0), (.int .i64 0), (.int .i64 0), (.int .i64 0), (.int .i64 0), (.string ⟨#[]⟩)]) (some 3) [0, 1, 3] (
      .ef 2 none (.bsl 1 [(.int .i64 0), (.int .i64 0)] [(0, (2, (.tmp 15)))]) (some 16) [0, 3] (
      .ef 4 none (.call F.api_Trash []) (some 18) [0, 1, 3] (
      .rd 5 none (.build [(.int .i64 0), (.int .i64 0), (.int .i64 0), (.slice none 0 0), (.int .i64 0), (.int .i64 0), (.int .i64 0), (.int .i64 0), (.int .i64 0), (.int .i64 0), (.int .i64 0), (.int .i64 0), (.int .i64 0), (.string ⟨#[]⟩)] [(0, (2, (.tmp 14))), (2, (1, (.const (.int .i64 2)))), (3, (1, (.tmp 16))), (4, (1, (.const (.int .i64 3)))), (5, (2, (.tmp 17))), (11, (2, (.tmp 18))), (13, (1, (.const (.string ⟨#[110]⟩))))]) (some 19) false <|
      .ef 7 none (.st 14 (.tmp 3) (.tmp 19)) none [] (
      .done) .none) .none) (
        .ef 4 none (.call F.api_Trash []) (some 18) [0, 1, 3] (
        .ef 2 none (.bsl 1 [(.int .i64 0), (.int .i64 0)] [(0, (2, (.tmp 15)))]) (some 16) [0, 3] (
        .rd 5 none (.build [(.int .i64 0), (.int .i64 0), (.int .i64 0), (.slice none 0 0), (.int .i64 0), (.int .i64 0), (.int .i64 0), (.int .i64 0), (.int .i64 0), (.int .i64 0), (.int .i64 0), (.int .i64 0), (.int .i64 0), (.string ⟨#[]⟩)] [(0, (2, (.tmp 14))), (2, (1, (.const (.int .i64 2)))), (3, (1, (.tmp 16))), (4, (1, (.const (.int .i64 3)))), (5, (2, (.tmp 17))), (11, (2, (.tmp 18))), (13, (1, (.const (.string ⟨#[110]⟩))))]) (some 19) false <|
        .ef 7 none (.st 14 (.tmp 3) (.tmp 19)) none [] (
        .done) .none) .none) .none)) .none))
noncomputable def F.osierlaw08_awake.r4 : Plan :=
  .rd 0 none (.ldn 14 (.tmp 3)) (some 21) false <|
  .rd 1 none (.ldn 14 (.tmp 2)) (some 22) false <|
  .ef 2 none (.bsl 2 [(.int .i64 0), (.int .i64 0), (.int .i64 0), (.slice none 0 0), (.int .i64 0), (.int .i64 0), (.int .i64 0), (.int .i64 0), (.int .i64 0), (.int .i64 0), (.int .i64 0), (.int .i64 0), (.int .i64 0), (.string ⟨#[]⟩), (.int .i64 0), (.int .i64 0), (.int .i64 0), (.slice none 0 0), (.int .i64 0), (.int .i64 0), (.int .i64 0), (.int .i64 0), (.int .i64 0), (.int .i64 0), (.int .i64 0), (.int .i64 0), (.int .i64 0), (.string ⟨#[]⟩)] [(0, (14, (.tmp 21))), (14, (14, (.tmp 22)))]) (some 23) [] (
  .ef 3 none (.call F.causal_Order [(.tmp 23)]) (some 24) [] (
  .rd 4 none (.mv (.tmp 24)) (some 20) false <|
  .rd 5 none (.ext 0 (.tmp 20)) (some 25) false <|
  .rd 6 none (.ext 1 (.tmp 20)) (some 26) false <|
  .rd 7 none (.mv (.tmp 25)) (some 4) false <|
  .rd 8 none (.mv (.tmp 26)) (some 5) false <|
  .done) .none) .none
noncomputable def F.osierlaw08_awake.r5 : Plan :=
  .rd 0 none (.ldn 14 (.tmp 3)) (some 28) false <|
  .ef 1 none (.bsl 1 [(.int .i64 0), (.int .i64 0), (.int .i64 0), (.slice none 0 0), (.int .i64 0), (.int .i64 0), (.int .i64 0), (.int .i64 0), (.int .i64 0), (.int .i64 0), (.int .i64 0), (.int .i64 0), (.int .i64 0), (.string ⟨#[]⟩)] [(0, (14, (.tmp 28)))]) (some 29) [] (
  .ef 2 none (.call F.causal_Order [(.tmp 29)]) (some 30) [] (
  .rd 3 none (.mv (.tmp 30)) (some 27) false <|
  .rd 4 none (.ext 0 (.tmp 27)) (some 31) false <|
  .rd 5 none (.ext 1 (.tmp 27)) (some 32) false <|
  .rd 6 none (.mv (.tmp 31)) (some 6) false <|
  .rd 7 none (.mv (.tmp 32)) (some 7) false <|
  .done) .none) .none
noncomputable def F.osierlaw08_awake.r6 : Plan :=
  .rd 0 none (.ldn 14 (.tmp 2)) (some 33) false <|
  .rd 1 none (.ldn 14 (.tmp 3)) (some 34) false <|
  .ef 2 none (.bsl 2 [(.int .i64 0), (.int .i64 0), (.int .i64 0), (.slice none 0 0), (.int .i64 0), (.int .i64 0), (.int .i64 0), (.int .i64 0), (.int .i64 0), (.int .i64 0), (.int .i64 0), (.int .i64 0), (.int .i64 0), (.string ⟨#[]⟩), (.int .i64 0), (.int .i64 0), (.int .i64 0), (.slice none 0 0), (.int .i64 0), (.int .i64 0), (.int .i64 0), (.int .i64 0), (.int .i64 0), (.int .i64 0), (.int .i64 0), (.int .i64 0), (.int .i64 0), (.string ⟨#[]⟩)] [(0, (14, (.tmp 33))), (14, (14, (.tmp 34)))]) (some 35) [] (
  .ef 3 none (.call F.causal_Frontier [(.tmp 35)]) (some 36) [] (
  .rd 4 none (.mv (.tmp 36)) (some 8) false <|
  .done) .none) .none
noncomputable def F.osierlaw08_awake.r7 : Plan :=
  .rd 0 none (.mv (.tmp 4)) (some 37) false <|
  .rd 1 none (.len .sl (.tmp 37)) (some 38) false <|
  .rd 2 none (.bin .eql (.tmp 38) (.const (.int .i64 2))) (some 39) false <|
  .rd 3 none (.mv (.tmp 39)) (some 40) false <|
  .rd 4 (some (40, true)) (.mv (.tmp 4)) (some 41) false <|
  .rd 5 (some (40, true)) (.idxA 14 (.tmp 41) (.const (.int .i64 0))) (some 42) false <|
  .rd 6 (some (40, true)) (.fldA 0 (.tmp 42)) (some 43) false <|
  .rd 7 (some (40, true)) (.ldn 2 (.tmp 43)) (some 44) false <|
  .rd 8 (some (40, true)) (.ldn 2 (.tmp 1)) (some 45) false <|
  .rd 9 (some (40, true)) (.eqS [(.i .i64), (.i .i64)] true false (.tmp 44) (.tmp 45)) (some 46) false <|
  .rd 10 none (.pick (.tmp 40) (.tmp 46) (.const (.bool false))) (some 47) false <|
  .rd 11 none (.mv (.tmp 47)) (some 48) false <|
  .rd 12 (some (48, true)) (.mv (.tmp 5)) (some 49) false <|
  .rd 13 (some (48, true)) (.len .sl (.tmp 49)) (some 50) false <|
  .rd 14 (some (48, true)) (.bin .eql (.tmp 50) (.const (.int .i64 0))) (some 51) false <|
  .rd 15 none (.pick (.tmp 48) (.tmp 51) (.const (.bool false))) (some 52) false <|
  .rd 16 none (.mv (.tmp 52)) (some 53) false <|
  .rd 17 (some (53, true)) (.mv (.tmp 6)) (some 54) false <|
  .rd 18 (some (53, true)) (.len .sl (.tmp 54)) (some 55) false <|
  .rd 19 (some (53, true)) (.bin .eql (.tmp 55) (.const (.int .i64 0))) (some 56) false <|
  .rd 20 none (.pick (.tmp 53) (.tmp 56) (.const (.bool false))) (some 57) false <|
  .rd 21 none (.mv (.tmp 57)) (some 58) false <|
  .rd 22 (some (58, true)) (.mv (.tmp 7)) (some 59) false <|
  .rd 23 (some (58, true)) (.len .sl (.tmp 59)) (some 60) false <|
  .rd 24 (some (58, true)) (.bin .eql (.tmp 60) (.const (.int .i64 1))) (some 61) false <|
  .rd 25 none (.pick (.tmp 58) (.tmp 61) (.const (.bool false))) (some 62) false <|
  .rd 26 none (.mv (.tmp 62)) (some 63) false <|
  .rd 27 (some (63, true)) (.mv (.tmp 8)) (some 64) false <|
  .rd 28 (some (63, true)) (.len .sl (.tmp 64)) (some 65) false <|
  .rd 29 (some (63, true)) (.bin .eql (.tmp 65) (.const (.int .i64 1))) (some 66) false <|
  .rd 30 none (.pick (.tmp 63) (.tmp 66) (.const (.bool false))) (some 67) false <|
  .rd 31 none (.mv (.tmp 67)) (some 68) false <|
  .rd 32 (some (68, true)) (.mv (.tmp 8)) (some 69) false <|
  .rd 33 (some (68, true)) (.idxA 2 (.tmp 69) (.const (.int .i64 0))) (some 70) false <|
  .rd 34 (some (68, true)) (.fldA 1 (.tmp 70)) (some 71) false <|
  .rd 35 (some (68, true)) (.ld1 (.tmp 71)) (some 72) false <|
  .rd 36 (some (68, true)) (.bin .eql (.tmp 72) (.const (.int .i64 2))) (some 73) false <|
  .rd 37 none (.pick (.tmp 68) (.tmp 73) (.const (.bool false))) (some 74) false <|
  .rd 38 none (.mv (.tmp 74)) (some 75) false <|
  .rd 39 (some (75, true)) (.ldn 14 (.tmp 2)) (some 76) false <|
  .rd 40 (some (75, true)) (.ldn 14 (.tmp 3)) (some 77) false <|
  .ef 41 (some (75, true)) (.call F.causal_Ahead [(.tmp 76), (.tmp 77)]) (some 78) [] (
  .rd 42 none (.pick (.tmp 75) (.tmp 78) (.const (.bool false))) (some 79) false <|
  .rd 43 none (.mv (.tmp 79)) (some 80) false <|
  .rd 44 (some (80, true)) (.mv (.tmp 4)) (some 81) false <|
  .ef 45 (some (80, true)) (.call F.causal_Right [(.tmp 81)]) (some 82) [] (
  .rd 46 none (.pick (.tmp 80) (.tmp 82) (.const (.bool false))) (some 83) false <|
  .rd 47 none (.mv (.tmp 83)) (some 84) false <|
  .rd 48 (some (84, true)) (.ldn 14 (.tmp 3)) (some 85) false <|
  .ef 49 (some (84, true)) (.call F.causal_Ready [(.const (.slice none 0 0)), (.tmp 85)]) (some 86) [] (
  .rd 50 (some (84, true)) (.bin .eql (.tmp 86) (.const (.int .i64 31))) (some 87) false <|
  .rd 51 none (.pick (.tmp 84) (.tmp 87) (.const (.bool false))) (some 88) false <|
  .rd 52 none (.mv (.tmp 88)) (some 0) false <|
  .done) .none) .none) .none
noncomputable def F.osierlaw08_awake.ic : IC :=
    (.seq (.reg F.osierlaw08_awake.r0)
    (.seq (.reg F.osierlaw08_awake.r1)
    (.seq (.reg F.osierlaw08_awake.r2)
    (.seq (.reg F.osierlaw08_awake.r3)
    (.seq (.reg F.osierlaw08_awake.r4)
    (.seq (.reg F.osierlaw08_awake.r5)
    (.seq (.reg F.osierlaw08_awake.r6)
    (.seq (.reg F.osierlaw08_awake.r7)
    .ret))))))))
noncomputable def F.osierlaw08_awake.rs : List RO := [(.mv (.tmp 0))]
theorem F.osierlaw08_awake.ok : cFunc Go.Proofs.Tryz.prog F.osierlaw08_awake = some (89, F.osierlaw08_awake.ic, F.osierlaw08_awake.rs) := by kernel_rfl
theorem F.osierlaw08_awake.cl : callable Go.Proofs.Tryz.prog F.osierlaw08_awake = true := by kernel_rfl
noncomputable def F.osierref04_Made.r0 : Plan :=
  .rd 0 none (.mv (.const (.slice none 0 0))) (some 2) false <|
  .done
noncomputable def F.osierref04_Made.r1 : Plan :=
  .rd 0 none (.mv (.const (.slice none 0 0))) (some 3) false <|
  .done
noncomputable def F.osierref04_Made.r2 : Plan :=
  .rd 0 none (.mv (.const (.int .i64 0))) (some 4) false <|
  .done
noncomputable def F.osierref04_Made.r3 : Plan :=
  .rd 0 none (.mv (.tmp 4)) (some 5) false <|
  .rd 1 none (.mv (.tmp 0)) (some 6) false <|
  .rd 2 none (.len .sl (.tmp 6)) (some 7) false <|
  .rd 3 none (.bin .lss (.tmp 5) (.tmp 7)) (some 8) false <|
  .rd 4 none (.mv (.tmp 8)) (some 9) false <|
  .rd 5 (some (9, true)) (.mv (.tmp 4)) (some 10) false <|
  .rd 6 (some (9, true)) (.bin .lss (.tmp 10) (.const (.int .i64 50))) (some 11) false <|
  .rd 7 none (.pick (.tmp 9) (.tmp 11) (.const (.bool false))) (some 12) false <|
  .done
noncomputable def F.osierref04_Made.r4 : Plan :=
  .rd 0 none (.mv (.tmp 3)) (some 15) false <|
  .rd 1 none (.mv (.tmp 0)) (some 16) false <|
  .rd 2 none (.mv (.tmp 4)) (some 17) false <|
  .rd 3 none (.idxA 2 (.tmp 16) (.tmp 17)) (some 18) false <|
  .rd 4 none (.ldn 2 (.tmp 18)) (some 19) false <|
  .ef 5 none (.call F.osierref04_With [(.tmp 15), (.tmp 19)]) (some 20) [] (
  .rd 6 none (.mv (.tmp 20)) (some 3) false <|
  .done) .none
noncomputable def F.osierref04_Made.r5 : Plan :=
  .rd 0 none (.mv (.tmp 4)) (some 13) false <|
  .rd 1 none (.bin .add (.tmp 13) (.const (.int .i64 1))) (some 14) false <|
  .rd 2 none (.mv (.tmp 14)) (some 4) false <|
  .done
noncomputable def F.osierref04_Made.l0 : IC :=
    (.seq (.seq (.reg F.osierref04_Made.r3)
    (.cond (.tmp 12) .skip (.exit 0)))
    (.seq (.block 1 (.reg F.osierref04_Made.r4))
    (.reg F.osierref04_Made.r5)))
noncomputable def F.osierref04_Made.r6 : Plan :=
  .rd 0 none (.mv (.tmp 3)) (some 21) false <|
  .rd 1 none (.mv (.tmp 21)) (some 2) false <|
  .done
noncomputable def F.osierref04_Made.ic : IC :=
    (.seq (.reg F.osierref04_Made.r0)
    (.seq (.reg F.osierref04_Made.r1)
    (.seq (.seq (.reg F.osierref04_Made.r2)
    (.block 0 (.loop F.osierref04_Made.l0)))
    (.seq (.reg F.osierref04_Made.r6)
    .ret))))
noncomputable def F.osierref04_Made.rs : List RO := [(.mv (.tmp 2))]
theorem F.osierref04_Made.ok : cFunc Go.Proofs.Tryz.prog F.osierref04_Made = some (22, F.osierref04_Made.ic, F.osierref04_Made.rs) := by kernel_rfl
theorem F.osierref04_Made.cl : callable Go.Proofs.Tryz.prog F.osierref04_Made = true := by kernel_rfl
noncomputable def F.causal_Ready.r0 : Plan :=
  .ef 0 none (.box (.tmp 1)) (some 3) [] (
  .rd 1 none (.mv (.const (.int .i64 0))) (some 4) false <|
  .done) .none
noncomputable def F.causal_Ready.r1 : Plan :=
  .rd 0 none (.ldn 14 (.tmp 3)) (some 6) false <|
  .ef 1 none (.call F.ops_Check [(.tmp 6)]) (some 7) [] (
  .rd 2 none (.un .not (.tmp 7)) (some 8) false <|
  .rd 3 none (.mv (.tmp 8)) (some 5) false <|
  .done) .none
noncomputable def F.causal_Ready.r2 : Plan :=
  .rd 0 none (.mv (.const (.int .i64 30))) (some 4) false <|
  .done
noncomputable def F.causal_Ready.r3 : Plan :=
  .rd 0 none (.mv (.tmp 0)) (some 10) false <|
  .rd 1 none (.fldA 0 (.tmp 3)) (some 11) false <|
  .rd 2 none (.ldn 2 (.tmp 11)) (some 12) false <|
  .ef 3 none (.call F.vector_Has [(.tmp 10), (.tmp 12)]) (some 13) [] (
  .rd 4 none (.mv (.tmp 13)) (some 9) false <|
  .done) .none
noncomputable def F.causal_Ready.r4 : Plan :=
  .rd 0 none (.mv (.const (.int .i64 32))) (some 4) false <|
  .done
noncomputable def F.causal_Ready.r5 : Plan :=
  .rd 0 none (.fldA 3 (.tmp 3)) (some 15) false <|
  .rd 1 none (.ld1 (.tmp 15)) (some 16) false <|
  .rd 2 none (.mv (.tmp 0)) (some 17) false <|
  .ef 3 none (.call F.vector_Below [(.tmp 16), (.tmp 17)]) (some 18) [] (
  .rd 4 none (.un .not (.tmp 18)) (some 19) false <|
  .rd 5 none (.mv (.tmp 19)) (some 14) false <|
  .done) .none
noncomputable def F.causal_Ready.r6 : Plan :=
  .rd 0 none (.mv (.const (.int .i64 31))) (some 4) false <|
  .done
noncomputable def F.causal_Ready.r7 : Plan :=
  .rd 0 none (.mv (.const (.int .i64 0))) (some 4) false <|
  .done
noncomputable def F.causal_Ready.ic : IC :=
    (.seq (.reg F.causal_Ready.r0)
    (.seq (.block 0 (.seq (.reg F.causal_Ready.r1)
    (.cond (.tmp 5) (.seq (.reg F.causal_Ready.r2)
    .ret) (.seq (.reg F.causal_Ready.r3)
    (.cond (.tmp 9) (.seq (.reg F.causal_Ready.r4)
    .ret) (.seq (.reg F.causal_Ready.r5)
    (.cond (.tmp 14) (.seq (.reg F.causal_Ready.r6)
    .ret) .skip)))))))
    (.seq (.reg F.causal_Ready.r7)
    .ret)))
noncomputable def F.causal_Ready.rs : List RO := [(.mv (.tmp 4))]
theorem F.causal_Ready.ok : cFunc Go.Proofs.Tryz.prog F.causal_Ready = some (20, F.causal_Ready.ic, F.causal_Ready.rs) := by kernel_rfl
theorem F.causal_Ready.cl : callable Go.Proofs.Tryz.prog F.causal_Ready = true := by kernel_rfl
noncomputable def F.osierref08_Ready.r0 : Plan :=
  .ef 0 none (.box (.tmp 1)) (some 3) [] (
  .rd 1 none (.mv (.const (.int .i64 0))) (some 4) false <|
  .done) .none
noncomputable def F.osierref08_Ready.r1 : Plan :=
  .rd 0 none (.ldn 14 (.tmp 3)) (some 8) false <|
  .ef 1 none (.call F.osierref07_Check [(.tmp 8)]) (some 9) [] (
  .rd 2 none (.mv (.tmp 9)) (some 5) false <|
  .done) .none
noncomputable def F.osierref08_Ready.r2 : Plan :=
  .rd 0 none (.mv (.tmp 5)) (some 10) false <|
  .rd 1 none (.un .not (.tmp 10)) (some 11) false <|
  .done
noncomputable def F.osierref08_Ready.r3 : Plan :=
  .rd 0 none (.mv (.const (.int .i64 30))) (some 4) false <|
  .done
noncomputable def F.osierref08_Ready.r4 : Plan :=
  .rd 0 none (.mv (.tmp 0)) (some 12) false <|
  .rd 1 none (.fldA 0 (.tmp 3)) (some 13) false <|
  .rd 2 none (.ldn 2 (.tmp 13)) (some 14) false <|
  .ef 3 none (.call F.osierref04_Has [(.tmp 12), (.tmp 14)]) (some 15) [] (
  .rd 4 none (.mv (.tmp 15)) (some 6) false <|
  .done) .none
noncomputable def F.osierref08_Ready.r5 : Plan :=
  .rd 0 none (.mv (.tmp 6)) (some 16) false <|
  .done
noncomputable def F.osierref08_Ready.r6 : Plan :=
  .rd 0 none (.mv (.const (.int .i64 32))) (some 4) false <|
  .done
noncomputable def F.osierref08_Ready.r7 : Plan :=
  .rd 0 none (.fldA 3 (.tmp 3)) (some 17) false <|
  .rd 1 none (.ld1 (.tmp 17)) (some 18) false <|
  .rd 2 none (.mv (.tmp 0)) (some 19) false <|
  .ef 3 none (.call F.osierref04_Below [(.tmp 18), (.tmp 19)]) (some 20) [] (
  .rd 4 none (.mv (.tmp 20)) (some 7) false <|
  .done) .none
noncomputable def F.osierref08_Ready.r8 : Plan :=
  .rd 0 none (.mv (.tmp 7)) (some 21) false <|
  .rd 1 none (.un .not (.tmp 21)) (some 22) false <|
  .done
noncomputable def F.osierref08_Ready.r9 : Plan :=
  .rd 0 none (.mv (.const (.int .i64 31))) (some 4) false <|
  .done
noncomputable def F.osierref08_Ready.r10 : Plan :=
  .rd 0 none (.mv (.const (.int .i64 0))) (some 4) false <|
  .done
noncomputable def F.osierref08_Ready.ic : IC :=
    (.seq (.reg F.osierref08_Ready.r0)
    (.seq (.reg F.osierref08_Ready.r1)
    (.seq (.seq (.reg F.osierref08_Ready.r2)
    (.cond (.tmp 11) (.seq (.reg F.osierref08_Ready.r3)
    .ret) .skip))
    (.seq (.reg F.osierref08_Ready.r4)
    (.seq (.seq (.reg F.osierref08_Ready.r5)
    (.cond (.tmp 16) (.seq (.reg F.osierref08_Ready.r6)
    .ret) .skip))
    (.seq (.reg F.osierref08_Ready.r7)
    (.seq (.seq (.reg F.osierref08_Ready.r8)
    (.cond (.tmp 22) (.seq (.reg F.osierref08_Ready.r9)
    .ret) .skip))
    (.seq (.reg F.osierref08_Ready.r10)
    .ret))))))))
noncomputable def F.osierref08_Ready.rs : List RO := [(.mv (.tmp 4))]
theorem F.osierref08_Ready.ok : cFunc Go.Proofs.Tryz.prog F.osierref08_Ready = some (23, F.osierref08_Ready.ic, F.osierref08_Ready.rs) := by kernel_rfl
theorem F.osierref08_Ready.cl : callable Go.Proofs.Tryz.prog F.osierref08_Ready = true := by kernel_rfl
noncomputable def F.osierlaw08_small.r0 : Plan :=
  .rd 0 none (.mv (.const (.bool false))) (some 2) false <|
  .done
noncomputable def F.osierlaw08_small.r1 : Plan :=
  .rd 0 none (.mv (.const (.int .i64 0))) (some 3) false <|
  .done
noncomputable def F.osierlaw08_small.r2 : Plan :=
  .rd 0 none (.mv (.tmp 3)) (some 4) false <|
  .rd 1 none (.mv (.tmp 0)) (some 5) false <|
  .rd 2 none (.len .sl (.tmp 5)) (some 6) false <|
  .rd 3 none (.bin .lss (.tmp 4) (.tmp 6)) (some 7) false <|
  .done
noncomputable def F.osierlaw08_small.r3 : Plan :=
  .rd 0 none (.mv (.tmp 0)) (some 10) false <|
  .rd 1 none (.mv (.tmp 3)) (some 11) false <|
  .rd 2 none (.idxA 14 (.tmp 10) (.tmp 11)) (some 12) false <|
  .rd 3 none (.fldA 3 (.tmp 12)) (some 13) false <|
  .rd 4 none (.ld1 (.tmp 13)) (some 14) false <|
  .rd 5 none (.len .sl (.tmp 14)) (some 15) false <|
  .rd 6 none (.bin .gtr (.tmp 15) (.const (.int .i64 50))) (some 16) false <|
  .done
noncomputable def F.osierlaw08_small.r4 : Plan :=
  .rd 0 none (.mv (.const (.bool false))) (some 2) false <|
  .done
noncomputable def F.osierlaw08_small.r5 : Plan :=
  .rd 0 none (.mv (.tmp 3)) (some 8) false <|
  .rd 1 none (.bin .add (.tmp 8) (.const (.int .i64 1))) (some 9) false <|
  .rd 2 none (.mv (.tmp 9)) (some 3) false <|
  .done
noncomputable def F.osierlaw08_small.l0 : IC :=
    (.seq (.seq (.reg F.osierlaw08_small.r2)
    (.cond (.tmp 7) .skip (.exit 0)))
    (.seq (.block 1 (.seq (.reg F.osierlaw08_small.r3)
    (.cond (.tmp 16) (.seq (.reg F.osierlaw08_small.r4)
    .ret) .skip)))
    (.reg F.osierlaw08_small.r5)))
noncomputable def F.osierlaw08_small.r6 : Plan :=
  .rd 0 none (.mv (.tmp 0)) (some 17) false <|
  .rd 1 none (.len .sl (.tmp 17)) (some 18) false <|
  .rd 2 none (.bin .leq (.tmp 18) (.const (.int .i64 100))) (some 19) false <|
  .rd 3 none (.mv (.tmp 19)) (some 2) false <|
  .done
noncomputable def F.osierlaw08_small.ic : IC :=
    (.seq (.reg F.osierlaw08_small.r0)
    (.seq (.seq (.reg F.osierlaw08_small.r1)
    (.block 0 (.loop F.osierlaw08_small.l0)))
    (.seq (.reg F.osierlaw08_small.r6)
    .ret)))
noncomputable def F.osierlaw08_small.rs : List RO := [(.mv (.tmp 2))]
theorem F.osierlaw08_small.ok : cFunc Go.Proofs.Tryz.prog F.osierlaw08_small = some (20, F.osierlaw08_small.ic, F.osierlaw08_small.rs) := by kernel_rfl
theorem F.osierlaw08_small.cl : callable Go.Proofs.Tryz.prog F.osierlaw08_small = true := by kernel_rfl
noncomputable def F.causal_Order.r0 : Plan :=
  .rd 0 none (.mv (.const (.slice none 0 0))) (some 2) false <|
  .rd 1 none (.mv (.const (.slice none 0 0))) (some 3) false <|
  .done
noncomputable def F.causal_Order.r1 : Plan :=
  .rd 0 none (.mv (.tmp 0)) (some 9) false <|
  .ef 1 none (.call F.causal_counted [(.tmp 9)]) (some 10) [] (
  .rd 2 none (.mv (.tmp 10)) (some 4) false <|
  .done) .none
noncomputable def F.causal_Order.r2 : Plan :=
  .ef 0 none (.bsl 0 [] []) (some 11) [] (
  .rd 1 none (.mv (.tmp 11)) (some 5) false <|
  .done) .none
noncomputable def F.causal_Order.r3 : Plan :=
  .ef 0 none (.bsl 0 [] []) (some 12) [] (
  .rd 1 none (.mv (.tmp 12)) (some 6) false <|
  .done) .none
noncomputable def F.causal_Order.r4 : Plan :=
  .rd 0 none (.mv (.tmp 4)) (some 13) false <|
  .rd 1 none (.len .sl (.tmp 13)) (some 14) false <|
  .rd 2 none (.mv (.const (.int .i64 0))) (some 15) false <|
  .done
noncomputable def F.causal_Order.r5 : Plan :=
  .rd 0 none (.bin .lss (.tmp 15) (.tmp 14)) (some 16) false <|
  .done
noncomputable def F.causal_Order.r6 : Plan :=
  .rd 0 none (.mv (.tmp 15)) (some 17) false <|
  .rd 1 none (.idxA 14 (.tmp 13) (.tmp 15)) (some 18) false <|
  .rd 2 none (.ldn 14 (.tmp 18)) (some 19) false <|
  .ef 3 none (.alloc [(.int .i64 0), (.int .i64 0), (.int .i64 0), (.slice none 0 0), (.int .i64 0), (.int .i64 0), (.int .i64 0), (.int .i64 0), (.int .i64 0), (.int .i64 0), (.int .i64 0), (.int .i64 0), (.int .i64 0), (.string ⟨#[]⟩)]) (some 8) [] (
  .rd 4 none (.mv (.tmp 17)) (some 7) false <|
  .ef 5 none (.st 14 (.tmp 8) (.tmp 19)) none [] (
  .done) .none) .none
noncomputable def F.causal_Order.r7 : Plan :=
  .rd 0 none (.mv (.tmp 6)) (some 20) false <|
  .rd 1 none (.ldn 14 (.tmp 8)) (some 21) false <|
  .ef 2 none (.call F.causal_Ready [(.tmp 20), (.tmp 21)]) (some 22) [] (
  .rd 3 none (.bin .eql (.tmp 22) (.const (.int .i64 0))) (some 23) false <|
  .done) .none
noncomputable def F.causal_Order.r8 : Plan :=
  .rd 0 none (.mv (.tmp 5)) (some 24) false <|
  .rd 1 none (.ldn 14 (.tmp 8)) (some 25) false <|
  .rd 4 none (.mv (.tmp 6)) (some 28) false <|
  .rd 5 none (.fldA 0 (.tmp 8)) (some 29) false <|
  .rd 6 none (.ldn 2 (.tmp 29)) (some 30) true <|
  .ef 2 none (.bsl 1 [(.int .i64 0), (.int .i64 0), (.int .i64 0), (.slice none 0 0), (.int .i64 0), (.int .i64 0), (.int .i64 0), (.int .i64 0), (.int .i64 0), (.int .i64 0), (.int .i64 0), (.int .i64 0), (.int .i64 0), (.string ⟨#[]⟩)] [(0, (14, (.tmp 25)))]) (some 26) [0, 4, 5, 6] (
  .ef 3 none (.app 14 136 (.tmp 24) (.tmp 26)) (some 27) [4, 5, 6] (
  .ef 7 none (.call F.vector_With [(.tmp 28), (.tmp 30)]) (some 31) [] (
  .rd 8 none (.mv (.tmp 27)) (some 5) false <|
  .rd 9 none (.mv (.tmp 31)) (some 6) false <|
  .done) .none) .none) .none
noncomputable def F.causal_Order.r9 : Plan :=
  .rd 0 none (.mv (.tmp 4)) (some 32) false <|
  .rd 1 none (.mv (.tmp 7)) (some 33) false <|
  .rd 2 none (.mv (.tmp 7)) (some 34) false <|
  .rd 3 none (.bin .add (.tmp 34) (.const (.int .i64 1))) (some 35) false <|
  .ef 4 none (.call F.slices_Delete_s_api_Op_api_Op [(.tmp 32), (.tmp 33), (.tmp 35)]) (some 36) [] (
  .rd 5 none (.mv (.tmp 36)) (some 4) false <|
  .done) .none
noncomputable def F.causal_Order.r10 : Plan :=
  .rd 0 none (.bin .add (.tmp 15) (.const (.int .i64 1))) (some 37) false <|
  .rd 1 none (.mv (.tmp 37)) (some 15) false <|
  .done
noncomputable def F.causal_Order.l0 : IC :=
    (.seq (.reg F.causal_Order.r5)
    (.seq (.cond (.tmp 16) .skip (.exit 2))
    (.seq (.block 3 (.seq (.reg F.causal_Order.r6)
    (.seq (.reg F.causal_Order.r7)
    (.cond (.tmp 23) (.seq (.reg F.causal_Order.r8)
    (.seq (.reg F.causal_Order.r9)
    (.exit 1))) .skip))))
    (.reg F.causal_Order.r10))))
noncomputable def F.causal_Order.r11 : Plan :=
  .rd 0 none (.mv (.tmp 5)) (some 38) false <|
  .rd 1 none (.mv (.tmp 4)) (some 39) false <|
  .rd 2 none (.mv (.tmp 38)) (some 2) false <|
  .rd 3 none (.mv (.tmp 39)) (some 3) false <|
  .done
noncomputable def F.causal_Order.l1 : IC :=
    (.block 1 (.seq (.seq (.reg F.causal_Order.r4)
    (.block 2 (.loop F.causal_Order.l0)))
    (.seq (.reg F.causal_Order.r11)
    .ret)))
noncomputable def F.causal_Order.ic : IC :=
    (.seq (.reg F.causal_Order.r0)
    (.seq (.reg F.causal_Order.r1)
    (.seq (.reg F.causal_Order.r2)
    (.seq (.reg F.causal_Order.r3)
    (.seq .skip
    (.block 0 (.loop F.causal_Order.l1)))))))
noncomputable def F.causal_Order.rs : List RO := [(.mv (.tmp 2)), (.mv (.tmp 3))]
theorem F.causal_Order.ok : cFunc Go.Proofs.Tryz.prog F.causal_Order = some (40, F.causal_Order.ic, F.causal_Order.rs) := by kernel_rfl
theorem F.causal_Order.cl : callable Go.Proofs.Tryz.prog F.causal_Order = true := by kernel_rfl
noncomputable def F.osierref08_Order.r0 : Plan :=
  .rd 0 none (.mv (.const (.slice none 0 0))) (some 2) false <|
  .rd 1 none (.mv (.const (.slice none 0 0))) (some 3) false <|
  .done
noncomputable def F.osierref08_Order.r1 : Plan :=
  .rd 0 none (.mv (.tmp 0)) (some 10) false <|
  .ef 1 none (.call F.osierref08_Counted [(.tmp 10)]) (some 11) [] (
  .rd 2 none (.mv (.tmp 11)) (some 4) false <|
  .done) .none
noncomputable def F.osierref08_Order.r2 : Plan :=
  .rd 0 none (.mv (.const (.slice none 0 0))) (some 5) false <|
  .done
noncomputable def F.osierref08_Order.r3 : Plan :=
  .rd 0 none (.mv (.const (.slice none 0 0))) (some 6) false <|
  .done
noncomputable def F.osierref08_Order.r4 : Plan :=
  .rd 0 none (.mv (.const (.int .i64 (-1)))) (some 7) false <|
  .done
noncomputable def F.osierref08_Order.r5 : Plan :=
  .rd 0 none (.mv (.tmp 4)) (some 12) false <|
  .rd 1 none (.len .sl (.tmp 12)) (some 13) false <|
  .rd 2 none (.bin .sub (.tmp 13) (.const (.int .i64 1))) (some 14) false <|
  .rd 3 none (.mv (.tmp 14)) (some 8) false <|
  .done
noncomputable def F.osierref08_Order.r6 : Plan :=
  .rd 0 none (.mv (.tmp 8)) (some 15) false <|
  .rd 1 none (.bin .geq (.tmp 15) (.const (.int .i64 0))) (some 16) false <|
  .done
noncomputable def F.osierref08_Order.r7 : Plan :=
  .rd 0 none (.mv (.tmp 6)) (some 19) false <|
  .rd 1 none (.mv (.tmp 4)) (some 20) false <|
  .rd 2 none (.mv (.tmp 8)) (some 21) false <|
  .rd 3 none (.idxA 14 (.tmp 20) (.tmp 21)) (some 22) false <|
  .rd 4 none (.ldn 14 (.tmp 22)) (some 23) false <|
  .ef 5 none (.call F.osierref08_Ready [(.tmp 19), (.tmp 23)]) (some 24) [] (
  .rd 6 none (.bin .eql (.tmp 24) (.const (.int .i64 0))) (some 25) false <|
  .done) .none
noncomputable def F.osierref08_Order.r8 : Plan :=
  .rd 0 none (.mv (.tmp 8)) (some 26) false <|
  .rd 1 none (.mv (.tmp 26)) (some 7) false <|
  .done
noncomputable def F.osierref08_Order.r9 : Plan :=
  .rd 0 none (.mv (.tmp 8)) (some 17) false <|
  .rd 1 none (.bin .sub (.tmp 17) (.const (.int .i64 1))) (some 18) false <|
  .rd 2 none (.mv (.tmp 18)) (some 8) false <|
  .done
noncomputable def F.osierref08_Order.l0 : IC :=
    (.seq (.seq (.reg F.osierref08_Order.r6)
    (.cond (.tmp 16) .skip (.exit 2)))
    (.seq (.block 3 (.seq (.reg F.osierref08_Order.r7)
    (.cond (.tmp 25) (.reg F.osierref08_Order.r8) .skip)))
    (.reg F.osierref08_Order.r9)))
noncomputable def F.osierref08_Order.r10 : Plan :=
  .rd 0 none (.mv (.tmp 7)) (some 27) false <|
  .rd 1 none (.bin .lss (.tmp 27) (.const (.int .i64 0))) (some 28) false <|
  .done
noncomputable def F.osierref08_Order.r11 : Plan :=
  .rd 0 none (.mv (.tmp 5)) (some 29) false <|
  .rd 1 none (.mv (.tmp 4)) (some 30) false <|
  .rd 2 none (.mv (.tmp 29)) (some 2) false <|
  .rd 3 none (.mv (.tmp 30)) (some 3) false <|
  .done
noncomputable def F.osierref08_Order.r12 : Plan :=
  .rd 0 none (.mv (.tmp 5)) (some 31) false <|
  .rd 1 none (.mv (.tmp 4)) (some 32) false <|
  .rd 2 none (.mv (.tmp 7)) (some 33) false <|
  .rd 3 none (.idxA 14 (.tmp 32) (.tmp 33)) (some 34) false <|
  .rd 4 none (.ldn 14 (.tmp 34)) (some 35) false <|
  .ef 5 none (.bsl 1 [(.int .i64 0), (.int .i64 0), (.int .i64 0), (.slice none 0 0), (.int .i64 0), (.int .i64 0), (.int .i64 0), (.int .i64 0), (.int .i64 0), (.int .i64 0), (.int .i64 0), (.int .i64 0), (.int .i64 0), (.string ⟨#[]⟩)] [(0, (14, (.tmp 35)))]) (some 36) [] (
  .ef 6 none (.app 14 136 (.tmp 31) (.tmp 36)) (some 37) [] (
  .rd 7 none (.mv (.tmp 37)) (some 5) false <|
  .done) .none) .none
noncomputable def F.osierref08_Order.r13 : Plan :=
  .rd 0 none (.mv (.tmp 6)) (some 38) false <|
  .rd 1 none (.mv (.tmp 4)) (some 39) false <|
  .rd 2 none (.mv (.tmp 7)) (some 40) false <|
  .rd 3 none (.idxA 14 (.tmp 39) (.tmp 40)) (some 41) false <|
  .rd 4 none (.fldA 0 (.tmp 41)) (some 42) false <|
  .rd 5 none (.ldn 2 (.tmp 42)) (some 43) false <|
  .ef 6 none (.call F.osierref04_With [(.tmp 38), (.tmp 43)]) (some 44) [] (
  .rd 7 none (.mv (.tmp 44)) (some 6) false <|
  .done) .none
noncomputable def F.osierref08_Order.r14 : Plan :=
  .rd 0 none (.mv (.const (.slice none 0 0))) (some 9) false <|
  .done
noncomputable def F.osierref08_Order.r15 : Plan :=
  .rd 0 none (.mv (.tmp 9)) (some 45) false <|
  .rd 1 none (.mv (.tmp 4)) (some 46) false <|
  .rd 2 none (.mv (.tmp 7)) (some 47) false <|
  .rd 3 none (.sl 14 (.tmp 46) none (some (.tmp 47)) none) (some 48) false <|
  .ef 4 none (.app 14 136 (.tmp 45) (.tmp 48)) (some 49) [] (
  .rd 5 none (.mv (.tmp 49)) (some 9) false <|
  .done) .none
noncomputable def F.osierref08_Order.r16 : Plan :=
  .rd 0 none (.mv (.tmp 9)) (some 50) false <|
  .rd 1 none (.mv (.tmp 4)) (some 51) false <|
  .rd 2 none (.mv (.tmp 7)) (some 52) false <|
  .rd 3 none (.bin .add (.tmp 52) (.const (.int .i64 1))) (some 53) false <|
  .rd 4 none (.sl 14 (.tmp 51) (some (.tmp 53)) none none) (some 54) false <|
  .ef 5 none (.app 14 136 (.tmp 50) (.tmp 54)) (some 55) [] (
  .rd 6 none (.mv (.tmp 55)) (some 4) false <|
  .done) .none
noncomputable def F.osierref08_Order.l1 : IC :=
    (.block 1 (.seq (.reg F.osierref08_Order.r4)
    (.seq (.seq (.reg F.osierref08_Order.r5)
    (.block 2 (.loop F.osierref08_Order.l0)))
    (.seq (.seq (.reg F.osierref08_Order.r10)
    (.cond (.tmp 28) (.seq (.reg F.osierref08_Order.r11)
    .ret) .skip))
    (.seq (.reg F.osierref08_Order.r12)
    (.seq (.reg F.osierref08_Order.r13)
    (.seq (.reg F.osierref08_Order.r14)
    (.seq (.reg F.osierref08_Order.r15)
    (.reg F.osierref08_Order.r16)))))))))
noncomputable def F.osierref08_Order.ic : IC :=
    (.seq (.reg F.osierref08_Order.r0)
    (.seq (.reg F.osierref08_Order.r1)
    (.seq (.reg F.osierref08_Order.r2)
    (.seq (.reg F.osierref08_Order.r3)
    (.block 0 (.loop F.osierref08_Order.l1))))))
noncomputable def F.osierref08_Order.rs : List RO := [(.mv (.tmp 2)), (.mv (.tmp 3))]
theorem F.osierref08_Order.ok : cFunc Go.Proofs.Tryz.prog F.osierref08_Order = some (56, F.osierref08_Order.ic, F.osierref08_Order.rs) := by kernel_rfl
theorem F.osierref08_Order.cl : callable Go.Proofs.Tryz.prog F.osierref08_Order = true := by kernel_rfl
noncomputable def F.osierref07_Rows.r0 : Plan :=
  .rd 0 none (.mv (.const (.bool false))) (some 4) false <|
  .done
noncomputable def F.osierref07_Rows.r1 : Plan :=
  .rd 0 none (.mv (.tmp 0)) (some 7) false <|
  .rd 1 none (.len .sl (.tmp 7)) (some 8) false <|
  .rd 2 none (.mv (.tmp 1)) (some 9) false <|
  .rd 3 none (.len .sl (.tmp 9)) (some 10) false <|
  .rd 4 none (.bin .neq (.tmp 8) (.tmp 10)) (some 11) false <|
  .done
noncomputable def F.osierref07_Rows.r2 : Plan :=
  .rd 0 none (.mv (.const (.bool false))) (some 4) false <|
  .done
noncomputable def F.osierref07_Rows.r3 : Plan :=
  .rd 0 none (.mv (.const (.int .i64 0))) (some 5) false <|
  .done
noncomputable def F.osierref07_Rows.r4 : Plan :=
  .rd 0 none (.mv (.tmp 5)) (some 12) false <|
  .rd 1 none (.mv (.tmp 0)) (some 13) false <|
  .rd 2 none (.len .sl (.tmp 13)) (some 14) false <|
  .rd 3 none (.bin .lss (.tmp 12) (.tmp 14)) (some 15) false <|
  .done
noncomputable def F.osierref07_Rows.r5 : Plan :=
  .rd 0 none (.mv (.tmp 0)) (some 18) false <|
  .rd 1 none (.mv (.tmp 5)) (some 19) false <|
  .rd 2 none (.idxA 14 (.tmp 18) (.tmp 19)) (some 20) false <|
  .rd 3 none (.ldn 14 (.tmp 20)) (some 21) false <|
  .rd 4 none (.mv (.tmp 1)) (some 22) false <|
  .rd 5 none (.mv (.tmp 5)) (some 23) false <|
  .rd 6 none (.idxA 14 (.tmp 22) (.tmp 23)) (some 24) false <|
  .rd 7 none (.ldn 14 (.tmp 24)) (some 25) false <|
  .ef 8 none (.call F.osierref07_Same [(.tmp 21), (.tmp 25)]) (some 26) [] (
  .rd 9 none (.mv (.tmp 26)) (some 6) false <|
  .done) .none
noncomputable def F.osierref07_Rows.r6 : Plan :=
  .rd 0 none (.mv (.tmp 6)) (some 27) false <|
  .rd 1 none (.un .not (.tmp 27)) (some 28) false <|
  .done
noncomputable def F.osierref07_Rows.r7 : Plan :=
  .rd 0 none (.mv (.const (.bool false))) (some 4) false <|
  .done
noncomputable def F.osierref07_Rows.r8 : Plan :=
  .rd 0 none (.mv (.tmp 5)) (some 16) false <|
  .rd 1 none (.bin .add (.tmp 16) (.const (.int .i64 1))) (some 17) false <|
  .rd 2 none (.mv (.tmp 17)) (some 5) false <|
  .done
noncomputable def F.osierref07_Rows.l0 : IC :=
    (.seq (.seq (.reg F.osierref07_Rows.r4)
    (.cond (.tmp 15) .skip (.exit 0)))
    (.seq (.block 1 (.seq (.reg F.osierref07_Rows.r5)
    (.seq (.reg F.osierref07_Rows.r6)
    (.cond (.tmp 28) (.seq (.reg F.osierref07_Rows.r7)
    .ret) .skip))))
    (.reg F.osierref07_Rows.r8)))
noncomputable def F.osierref07_Rows.r9 : Plan :=
  .rd 0 none (.mv (.const (.bool true))) (some 4) false <|
  .done
noncomputable def F.osierref07_Rows.ic : IC :=
    (.seq (.reg F.osierref07_Rows.r0)
    (.seq (.seq (.reg F.osierref07_Rows.r1)
    (.cond (.tmp 11) (.seq (.reg F.osierref07_Rows.r2)
    .ret) .skip))
    (.seq (.seq (.reg F.osierref07_Rows.r3)
    (.block 0 (.loop F.osierref07_Rows.l0)))
    (.seq (.reg F.osierref07_Rows.r9)
    .ret))))
noncomputable def F.osierref07_Rows.rs : List RO := [(.mv (.tmp 4))]
theorem F.osierref07_Rows.ok : cFunc Go.Proofs.Tryz.prog F.osierref07_Rows = some (29, F.osierref07_Rows.ic, F.osierref07_Rows.rs) := by kernel_rfl
theorem F.osierref07_Rows.cl : callable Go.Proofs.Tryz.prog F.osierref07_Rows = true := by kernel_rfl
noncomputable def F.causal_Right.r0 : Plan :=
  .rd 0 none (.mv (.const (.bool false))) (some 2) false <|
  .done
noncomputable def F.causal_Right.r1 : Plan :=
  .rd 0 none (.mv (.tmp 0)) (some 8) false <|
  .ef 1 none (.call F.causal_Order [(.tmp 8)]) (some 9) [] (
  .rd 2 none (.mv (.tmp 9)) (some 7) false <|
  .rd 3 none (.ext 0 (.tmp 7)) (some 10) false <|
  .rd 4 none (.ext 1 (.tmp 7)) (some 11) false <|
  .rd 5 none (.mv (.tmp 10)) (some 3) false <|
  .rd 6 none (.mv (.tmp 11)) (some 4) false <|
  .done) .none
noncomputable def F.causal_Right.r2 : Plan :=
  .rd 0 none (.mv (.tmp 3)) (some 12) false <|
  .rd 1 none (.len .sl (.tmp 12)) (some 13) false <|
  .rd 2 none (.mv (.tmp 0)) (some 14) false <|
  .rd 3 none (.len .sl (.tmp 14)) (some 15) false <|
  .rd 4 none (.bin .neq (.tmp 13) (.tmp 15)) (some 16) false <|
  .done
noncomputable def F.causal_Right.r3 : Plan :=
  .rd 0 none (.mv (.const (.bool false))) (some 2) false <|
  .done
noncomputable def F.causal_Right.r4 : Plan :=
  .rd 0 none (.mv (.tmp 3)) (some 17) false <|
  .rd 1 none (.len .sl (.tmp 17)) (some 18) false <|
  .rd 2 none (.mv (.const (.int .i64 0))) (some 19) false <|
  .done
noncomputable def F.causal_Right.r5 : Plan :=
  .rd 0 none (.bin .lss (.tmp 19) (.tmp 18)) (some 20) false <|
  .done
noncomputable def F.causal_Right.r6 : Plan :=
  .rd 0 none (.idxA 14 (.tmp 17) (.tmp 19)) (some 21) false <|
  .rd 1 none (.ldn 14 (.tmp 21)) (some 22) false <|
  .ef 2 none (.alloc [(.int .i64 0), (.int .i64 0), (.int .i64 0), (.slice none 0 0), (.int .i64 0), (.int .i64 0), (.int .i64 0), (.int .i64 0), (.int .i64 0), (.int .i64 0), (.int .i64 0), (.int .i64 0), (.int .i64 0), (.string ⟨#[]⟩)]) (some 6) [] (
  .ef 3 none (.st 14 (.tmp 6) (.tmp 22)) none [] (
  .done) .none) .none
noncomputable def F.causal_Right.r7 : Plan :=
  .rd 0 none (.mv (.tmp 3)) (some 23) false <|
  .rd 1 none (.mkF (.func F.causal_Right_c1) [] [(.tmp 6)]) (some 24) false <|
  .ef 2 none (.call F.slices_ContainsFunc_s_api_Op_api_Op [(.tmp 23), (.tmp 24)]) (some 25) [] (
  .done) .none
noncomputable def F.causal_Right.r8 : Plan :=
  .rd 0 none (.mv (.const (.bool false))) (some 2) false <|
  .done
noncomputable def F.causal_Right.r9 : Plan :=
  .rd 0 none (.bin .add (.tmp 19) (.const (.int .i64 1))) (some 26) false <|
  .rd 1 none (.mv (.tmp 26)) (some 19) false <|
  .done
noncomputable def F.causal_Right.l0 : IC :=
    (.seq (.reg F.causal_Right.r5)
    (.seq (.cond (.tmp 20) .skip (.exit 0))
    (.seq (.block 1 (.seq (.reg F.causal_Right.r6)
    (.seq (.reg F.causal_Right.r7)
    (.cond (.tmp 25) (.seq (.reg F.causal_Right.r8)
    .ret) .skip))))
    (.reg F.causal_Right.r9))))
noncomputable def F.causal_Right.r10 : Plan :=
  .rd 0 none (.mv (.const (.bool true))) (some 2) false <|
  .done
noncomputable def F.causal_Right.ic : IC :=
    (.seq (.reg F.causal_Right.r0)
    (.seq (.reg F.causal_Right.r1)
    (.seq (.seq (.reg F.causal_Right.r2)
    (.cond (.tmp 16) (.seq (.reg F.causal_Right.r3)
    .ret) .skip))
    (.seq (.seq (.reg F.causal_Right.r4)
    (.block 0 (.loop F.causal_Right.l0)))
    (.seq (.reg F.causal_Right.r10)
    .ret)))))
noncomputable def F.causal_Right.rs : List RO := [(.mv (.tmp 2))]
theorem F.causal_Right.ok : cFunc Go.Proofs.Tryz.prog F.causal_Right = some (27, F.causal_Right.ic, F.causal_Right.rs) := by kernel_rfl
theorem F.causal_Right.cl : callable Go.Proofs.Tryz.prog F.causal_Right = true := by kernel_rfl
noncomputable def F.osierref08_Right.r0 : Plan :=
  .rd 0 none (.mv (.const (.bool false))) (some 2) false <|
  .done
noncomputable def F.osierref08_Right.r1 : Plan :=
  .rd 0 none (.mv (.tmp 0)) (some 9) false <|
  .ef 1 none (.call F.osierref08_Order [(.tmp 9)]) (some 10) [] (
  .rd 2 none (.mv (.tmp 10)) (some 8) false <|
  .rd 3 none (.ext 0 (.tmp 8)) (some 11) false <|
  .rd 4 none (.ext 1 (.tmp 8)) (some 12) false <|
  .rd 5 none (.mv (.tmp 11)) (some 3) false <|
  .rd 6 none (.mv (.tmp 12)) (some 4) false <|
  .done) .none
noncomputable def F.osierref08_Right.r2 : Plan :=
  .rd 0 none (.mv (.tmp 3)) (some 13) false <|
  .rd 1 none (.len .sl (.tmp 13)) (some 14) false <|
  .rd 2 none (.mv (.tmp 0)) (some 15) false <|
  .rd 3 none (.len .sl (.tmp 15)) (some 16) false <|
  .rd 4 none (.bin .neq (.tmp 14) (.tmp 16)) (some 17) false <|
  .done
noncomputable def F.osierref08_Right.r3 : Plan :=
  .rd 0 none (.mv (.const (.bool false))) (some 2) false <|
  .done
noncomputable def F.osierref08_Right.r4 : Plan :=
  .rd 0 none (.mv (.const (.int .i64 0))) (some 5) false <|
  .done
noncomputable def F.osierref08_Right.r5 : Plan :=
  .rd 0 none (.mv (.tmp 5)) (some 18) false <|
  .rd 1 none (.mv (.tmp 0)) (some 19) false <|
  .rd 2 none (.len .sl (.tmp 19)) (some 20) false <|
  .rd 3 none (.bin .lss (.tmp 18) (.tmp 20)) (some 21) false <|
  .done
noncomputable def F.osierref08_Right.r6 : Plan :=
  .rd 0 none (.mv (.const (.int .i64 0))) (some 6) false <|
  .done
noncomputable def F.osierref08_Right.r7 : Plan :=
  .rd 0 none (.mv (.tmp 6)) (some 24) false <|
  .rd 1 none (.mv (.tmp 0)) (some 25) false <|
  .rd 2 none (.len .sl (.tmp 25)) (some 26) false <|
  .rd 3 none (.bin .lss (.tmp 24) (.tmp 26)) (some 27) false <|
  .done
noncomputable def F.osierref08_Right.r8 : Plan :=
  .rd 0 none (.mv (.tmp 0)) (some 30) false <|
  .rd 1 none (.mv (.tmp 5)) (some 31) false <|
  .rd 2 none (.idxA 14 (.tmp 30) (.tmp 31)) (some 32) false <|
  .rd 3 none (.fldA 3 (.tmp 32)) (some 33) false <|
  .rd 4 none (.ld1 (.tmp 33)) (some 34) false <|
  .rd 5 none (.mv (.tmp 0)) (some 35) false <|
  .rd 6 none (.mv (.tmp 6)) (some 36) false <|
  .rd 7 none (.idxA 14 (.tmp 35) (.tmp 36)) (some 37) false <|
  .rd 8 none (.fldA 0 (.tmp 37)) (some 38) false <|
  .rd 9 none (.ldn 2 (.tmp 38)) (some 39) false <|
  .ef 10 none (.call F.osierref04_Has [(.tmp 34), (.tmp 39)]) (some 40) [] (
  .rd 11 none (.mv (.tmp 40)) (some 7) false <|
  .done) .none
noncomputable def F.osierref08_Right.r9 : Plan :=
  .rd 0 none (.mv (.tmp 7)) (some 41) false <|
  .rd 1 none (.mv (.tmp 41)) (some 42) false <|
  .rd 2 (some (42, true)) (.mv (.tmp 0)) (some 43) false <|
  .rd 3 (some (42, true)) (.mv (.tmp 6)) (some 44) false <|
  .rd 4 (some (42, true)) (.idxA 14 (.tmp 43) (.tmp 44)) (some 45) false <|
  .rd 5 (some (42, true)) (.fldA 2 (.tmp 45)) (some 46) false <|
  .rd 6 (some (42, true)) (.ld1 (.tmp 46)) (some 47) false <|
  .rd 7 (some (42, true)) (.mv (.tmp 0)) (some 48) false <|
  .rd 8 (some (42, true)) (.mv (.tmp 5)) (some 49) false <|
  .rd 9 (some (42, true)) (.idxA 14 (.tmp 48) (.tmp 49)) (some 50) false <|
  .rd 10 (some (42, true)) (.fldA 2 (.tmp 50)) (some 51) false <|
  .rd 11 (some (42, true)) (.ld1 (.tmp 51)) (some 52) false <|
  .rd 12 (some (42, true)) (.bin .geq (.tmp 47) (.tmp 52)) (some 53) false <|
  .rd 13 none (.pick (.tmp 42) (.tmp 53) (.const (.bool false))) (some 54) false <|
  .done
noncomputable def F.osierref08_Right.r10 : Plan :=
  .rd 0 none (.mv (.const (.bool false))) (some 2) false <|
  .done
noncomputable def F.osierref08_Right.r11 : Plan :=
  .rd 0 none (.mv (.tmp 6)) (some 28) false <|
  .rd 1 none (.bin .add (.tmp 28) (.const (.int .i64 1))) (some 29) false <|
  .rd 2 none (.mv (.tmp 29)) (some 6) false <|
  .done
noncomputable def F.osierref08_Right.l0 : IC :=
    (.seq (.seq (.reg F.osierref08_Right.r7)
    (.cond (.tmp 27) .skip (.exit 2)))
    (.seq (.block 3 (.seq (.reg F.osierref08_Right.r8)
    (.seq (.reg F.osierref08_Right.r9)
    (.cond (.tmp 54) (.seq (.reg F.osierref08_Right.r10)
    .ret) .skip))))
    (.reg F.osierref08_Right.r11)))
noncomputable def F.osierref08_Right.r12 : Plan :=
  .rd 0 none (.mv (.tmp 5)) (some 22) false <|
  .rd 1 none (.bin .add (.tmp 22) (.const (.int .i64 1))) (some 23) false <|
  .rd 2 none (.mv (.tmp 23)) (some 5) false <|
  .done
noncomputable def F.osierref08_Right.l1 : IC :=
    (.seq (.seq (.reg F.osierref08_Right.r5)
    (.cond (.tmp 21) .skip (.exit 0)))
    (.seq (.block 1 (.seq (.reg F.osierref08_Right.r6)
    (.block 2 (.loop F.osierref08_Right.l0))))
    (.reg F.osierref08_Right.r12)))
noncomputable def F.osierref08_Right.r13 : Plan :=
  .rd 0 none (.mv (.const (.bool true))) (some 2) false <|
  .done
noncomputable def F.osierref08_Right.ic : IC :=
    (.seq (.reg F.osierref08_Right.r0)
    (.seq (.reg F.osierref08_Right.r1)
    (.seq (.seq (.reg F.osierref08_Right.r2)
    (.cond (.tmp 17) (.seq (.reg F.osierref08_Right.r3)
    .ret) .skip))
    (.seq (.seq (.reg F.osierref08_Right.r4)
    (.block 0 (.loop F.osierref08_Right.l1)))
    (.seq (.reg F.osierref08_Right.r13)
    .ret)))))
noncomputable def F.osierref08_Right.rs : List RO := [(.mv (.tmp 2))]
theorem F.osierref08_Right.ok : cFunc Go.Proofs.Tryz.prog F.osierref08_Right = some (55, F.osierref08_Right.ic, F.osierref08_Right.rs) := by kernel_rfl
theorem F.osierref08_Right.cl : callable Go.Proofs.Tryz.prog F.osierref08_Right = true := by kernel_rfl
noncomputable def F.causal_Frontier.r0 : Plan :=
  .rd 0 none (.mv (.const (.slice none 0 0))) (some 2) false <|
  .done
noncomputable def F.causal_Frontier.r1 : Plan :=
  .rd 0 none (.mv (.const (.slice none 0 0))) (some 3) false <|
  .done
noncomputable def F.causal_Frontier.r2 : Plan :=
  .rd 0 none (.mv (.tmp 0)) (some 7) false <|
  .rd 1 none (.len .sl (.tmp 7)) (some 8) false <|
  .rd 2 none (.mv (.const (.int .i64 0))) (some 9) false <|
  .done
noncomputable def F.causal_Frontier.r3 : Plan :=
  .rd 0 none (.bin .lss (.tmp 9) (.tmp 8)) (some 10) false <|
  .done
noncomputable def F.causal_Frontier.r4 : Plan :=
  .rd 0 none (.idxA 14 (.tmp 7) (.tmp 9)) (some 11) false <|
  .rd 1 none (.ldn 14 (.tmp 11)) (some 12) false <|
  .ef 2 none (.alloc [(.int .i64 0), (.int .i64 0), (.int .i64 0), (.slice none 0 0), (.int .i64 0), (.int .i64 0), (.int .i64 0), (.int .i64 0), (.int .i64 0), (.int .i64 0), (.int .i64 0), (.int .i64 0), (.int .i64 0), (.string ⟨#[]⟩)]) (some 5) [] (
  .ef 3 none (.st 14 (.tmp 5) (.tmp 12)) none [] (
  .done) .none) .none
noncomputable def F.causal_Frontier.r5 : Plan :=
  .rd 0 none (.mkF (.func F.causal_Frontier_c1) [] [(.tmp 5)]) (some 13) false <|
  .rd 1 none (.mv (.tmp 13)) (some 6) false <|
  .done
noncomputable def F.causal_Frontier.r6 : Plan :=
  .rd 0 none (.mv (.tmp 0)) (some 14) false <|
  .rd 1 none (.mv (.tmp 6)) (some 15) false <|
  .ef 2 none (.call F.slices_ContainsFunc_s_api_Op_api_Op [(.tmp 14), (.tmp 15)]) (some 16) [] (
  .rd 3 none (.un .not (.tmp 16)) (some 17) false <|
  .done) .none
noncomputable def F.causal_Frontier.r7 : Plan :=
  .rd 0 none (.mv (.tmp 3)) (some 18) false <|
  .rd 1 none (.fldA 0 (.tmp 5)) (some 19) false <|
  .rd 2 none (.ldn 2 (.tmp 19)) (some 20) false <|
  .ef 3 none (.bsl 1 [(.int .i64 0), (.int .i64 0)] [(0, (2, (.tmp 20)))]) (some 21) [] (
  .ef 4 none (.app 2 16 (.tmp 18) (.tmp 21)) (some 22) [] (
  .rd 5 none (.mv (.tmp 22)) (some 3) false <|
  .done) .none) .none
noncomputable def F.causal_Frontier.r8 : Plan :=
  .rd 0 none (.bin .add (.tmp 9) (.const (.int .i64 1))) (some 23) false <|
  .rd 1 none (.mv (.tmp 23)) (some 9) false <|
  .done
noncomputable def F.causal_Frontier.l0 : IC :=
    (.seq (.reg F.causal_Frontier.r3)
    (.seq (.cond (.tmp 10) .skip (.exit 0))
    (.seq (.block 1 (.seq (.reg F.causal_Frontier.r4)
    (.seq (.reg F.causal_Frontier.r5)
    (.seq (.reg F.causal_Frontier.r6)
    (.cond (.tmp 17) (.reg F.causal_Frontier.r7) .skip)))))
    (.reg F.causal_Frontier.r8))))
noncomputable def F.causal_Frontier.r9 : Plan :=
  .rd 0 none (.mv (.tmp 3)) (some 24) false <|
  .ef 1 none (.call F.dots_Rising [(.tmp 24)]) (some 25) [] (
  .rd 2 none (.mv (.tmp 25)) (some 2) false <|
  .done) .none
noncomputable def F.causal_Frontier.ic : IC :=
    (.seq (.reg F.causal_Frontier.r0)
    (.seq (.reg F.causal_Frontier.r1)
    (.seq (.seq (.reg F.causal_Frontier.r2)
    (.block 0 (.loop F.causal_Frontier.l0)))
    (.seq (.reg F.causal_Frontier.r9)
    .ret))))
noncomputable def F.causal_Frontier.rs : List RO := [(.mv (.tmp 2))]
theorem F.causal_Frontier.ok : cFunc Go.Proofs.Tryz.prog F.causal_Frontier = some (26, F.causal_Frontier.ic, F.causal_Frontier.rs) := by kernel_rfl
theorem F.causal_Frontier.cl : callable Go.Proofs.Tryz.prog F.causal_Frontier = true := by kernel_rfl
noncomputable def F.causal_Ahead.r0 : Plan :=
  .ef 0 none (.box (.tmp 0)) (some 2) [] (
  .ef 1 none (.box (.tmp 1)) (some 3) [] (
  .rd 2 none (.mv (.const (.bool false))) (some 4) false <|
  .done) .none) .none
noncomputable def F.causal_Ahead.r1 : Plan :=
  .rd 0 none (.fldA 3 (.tmp 3)) (some 5) false <|
  .rd 1 none (.ld1 (.tmp 5)) (some 6) false <|
  .rd 2 none (.fldA 0 (.tmp 2)) (some 7) false <|
  .rd 3 none (.ldn 2 (.tmp 7)) (some 8) false <|
  .ef 4 none (.call F.vector_Has [(.tmp 6), (.tmp 8)]) (some 9) [] (
  .rd 5 none (.mv (.tmp 9)) (some 4) false <|
  .done) .none
noncomputable def F.causal_Ahead.ic : IC :=
    (.seq (.reg F.causal_Ahead.r0)
    (.seq (.reg F.causal_Ahead.r1)
    .ret))
noncomputable def F.causal_Ahead.rs : List RO := [(.mv (.tmp 4))]
theorem F.causal_Ahead.ok : cFunc Go.Proofs.Tryz.prog F.causal_Ahead = some (10, F.causal_Ahead.ic, F.causal_Ahead.rs) := by kernel_rfl
theorem F.causal_Ahead.cl : callable Go.Proofs.Tryz.prog F.causal_Ahead = true := by kernel_rfl
noncomputable def F.osierref04_With.r0 : Plan :=
  .ef 0 none (.box (.tmp 1)) (some 3) [] (
  .rd 1 none (.mv (.const (.slice none 0 0))) (some 4) false <|
  .done) .none
noncomputable def F.osierref04_With.r1 : Plan :=
  .rd 0 none (.ldn 2 (.tmp 3)) (some 6) false <|
  .ef 1 none (.call F.osierref03_May [(.tmp 6)]) (some 7) [] (
  .rd 2 none (.mv (.tmp 7)) (some 5) false <|
  .done) .none
noncomputable def F.osierref04_With.r2 : Plan :=
  .rd 0 none (.mv (.tmp 5)) (some 8) false <|
  .rd 1 none (.un .not (.tmp 8)) (some 9) false <|
  .done
noncomputable def F.osierref04_With.r3 : Plan :=
  .rd 0 none (.mv (.tmp 0)) (some 10) false <|
  .rd 1 none (.mv (.tmp 10)) (some 4) false <|
  .done
noncomputable def F.osierref04_With.r4 : Plan :=
  .rd 0 none (.mv (.tmp 0)) (some 11) false <|
  .rd 1 none (.ldn 2 (.tmp 3)) (some 12) false <|
  .ef 2 none (.bsl 1 [(.int .i64 0), (.int .i64 0)] [(0, (2, (.tmp 12)))]) (some 13) [] (
  .ef 3 none (.call F.osierref04_Join [(.tmp 11), (.tmp 13), (.const (.bool false))]) (some 14) [] (
  .rd 4 none (.mv (.tmp 14)) (some 4) false <|
  .done) .none) .none
noncomputable def F.osierref04_With.ic : IC :=
    (.seq (.reg F.osierref04_With.r0)
    (.seq (.reg F.osierref04_With.r1)
    (.seq (.seq (.reg F.osierref04_With.r2)
    (.cond (.tmp 9) (.seq (.reg F.osierref04_With.r3)
    .ret) .skip))
    (.seq (.reg F.osierref04_With.r4)
    .ret))))
noncomputable def F.osierref04_With.rs : List RO := [(.mv (.tmp 4))]
theorem F.osierref04_With.ok : cFunc Go.Proofs.Tryz.prog F.osierref04_With = some (15, F.osierref04_With.ic, F.osierref04_With.rs) := by kernel_rfl
theorem F.osierref04_With.cl : callable Go.Proofs.Tryz.prog F.osierref04_With = true := by kernel_rfl
noncomputable def F.vector_Below.r0 : Plan :=
  .ef 0 none (.box (.tmp 1)) (some 3) [] (
  .rd 1 none (.mv (.const (.bool false))) (some 4) false <|
  .done) .none
noncomputable def F.vector_Below.r1 : Plan :=
  .rd 0 none (.mv (.tmp 0)) (some 5) false <|
  .rd 1 none (.mkF (.func F.vector_Below_c1) [] [(.tmp 3)]) (some 6) false <|
  .ef 2 none (.call F.slices_ContainsFunc_api_Vector_api_Dot [(.tmp 5), (.tmp 6)]) (some 7) [] (
  .rd 3 none (.un .not (.tmp 7)) (some 8) false <|
  .rd 4 none (.mv (.tmp 8)) (some 4) false <|
  .done) .none
noncomputable def F.vector_Below.ic : IC :=
    (.seq (.reg F.vector_Below.r0)
    (.seq (.reg F.vector_Below.r1)
    .ret))
noncomputable def F.vector_Below.rs : List RO := [(.mv (.tmp 4))]
theorem F.vector_Below.ok : cFunc Go.Proofs.Tryz.prog F.vector_Below = some (9, F.vector_Below.ic, F.vector_Below.rs) := by kernel_rfl
theorem F.vector_Below.cl : callable Go.Proofs.Tryz.prog F.vector_Below = true := by kernel_rfl
noncomputable def F.osierref07_Check.r0 : Plan :=
  .ef 0 none (.box (.tmp 0)) (some 1) [] (
  .rd 1 none (.mv (.const (.bool false))) (some 2) false <|
  .done) .none
noncomputable def F.osierref07_Check.r1 : Plan :=
  .rd 0 none (.fldA 0 (.tmp 1)) (some 13) false <|
  .rd 1 none (.ldn 2 (.tmp 13)) (some 14) false <|
  .ef 2 none (.call F.osierref03_May [(.tmp 14)]) (some 15) [] (
  .rd 3 none (.mv (.tmp 15)) (some 3) false <|
  .done) .none
noncomputable def F.osierref07_Check.r2 : Plan :=
  .rd 0 none (.fldA 3 (.tmp 1)) (some 16) false <|
  .rd 1 none (.ld1 (.tmp 16)) (some 17) false <|
  .ef 2 none (.call F.osierref04_May [(.tmp 17)]) (some 18) [] (
  .rd 3 none (.mv (.tmp 18)) (some 4) false <|
  .done) .none
noncomputable def F.osierref07_Check.r3 : Plan :=
  .rd 0 none (.mv (.tmp 3)) (some 19) false <|
  .rd 1 none (.un .not (.tmp 19)) (some 20) false <|
  .rd 2 none (.mv (.tmp 20)) (some 21) false <|
  .rd 3 (some (21, false)) (.mv (.tmp 4)) (some 22) false <|
  .rd 4 (some (21, false)) (.un .not (.tmp 22)) (some 23) false <|
  .rd 5 none (.pick (.tmp 21) (.const (.bool true)) (.tmp 23)) (some 24) false <|
  .rd 6 none (.mv (.tmp 24)) (some 25) false <|
  .rd 7 (some (25, false)) (.fldA 2 (.tmp 1)) (some 26) false <|
  .rd 8 (some (25, false)) (.ld1 (.tmp 26)) (some 27) false <|
  .rd 9 (some (25, false)) (.bin .lss (.tmp 27) (.const (.int .i64 1))) (some 28) false <|
  .rd 10 none (.pick (.tmp 25) (.const (.bool true)) (.tmp 28)) (some 29) false <|
  .rd 11 none (.mv (.tmp 29)) (some 30) false <|
  .rd 12 (some (30, false)) (.fldA 2 (.tmp 1)) (some 31) false <|
  .rd 13 (some (30, false)) (.ld1 (.tmp 31)) (some 32) false <|
  .rd 14 (some (30, false)) (.bin .gtr (.tmp 32) (.const (.int .i64 1099511627776))) (some 33) false <|
  .rd 15 none (.pick (.tmp 30) (.const (.bool true)) (.tmp 33)) (some 34) false <|
  .rd 16 none (.mv (.tmp 34)) (some 35) false <|
  .rd 17 (some (35, false)) (.fldA 3 (.tmp 1)) (some 36) false <|
  .rd 18 (some (35, false)) (.ld1 (.tmp 36)) (some 37) false <|
  .rd 19 (some (35, false)) (.fldA 0 (.tmp 1)) (some 38) false <|
  .rd 20 (some (35, false)) (.fldA 0 (.tmp 38)) (some 39) false <|
  .rd 21 (some (35, false)) (.ld1 (.tmp 39)) (some 40) false <|
  .rd 23 (some (35, false)) (.fldA 0 (.tmp 1)) (some 42) false <|
  .rd 24 (some (35, false)) (.fldA 1 (.tmp 42)) (some 43) false <|
  .rd 25 (some (35, false)) (.ld1 (.tmp 43)) (some 44) true <|
  .rd 26 (some (35, false)) (.bin .sub (.tmp 44) (.const (.int .i64 1))) (some 45) false <|
  .ef 22 (some (35, false)) (.call F.osierref04_Get [(.tmp 37), (.tmp 40)]) (some 41) [23, 24, 25, 26] (
  .rd 27 (some (35, false)) (.bin .neq (.tmp 41) (.tmp 45)) (some 46) false <|
  .rd 28 none (.pick (.tmp 35) (.const (.bool true)) (.tmp 46)) (some 47) false <|
  .done) .none
noncomputable def F.osierref07_Check.r4 : Plan :=
  .rd 0 none (.mv (.const (.bool false))) (some 2) false <|
  .done
noncomputable def F.osierref07_Check.r5 : Plan :=
  .rd 0 none (.fldA 3 (.tmp 1)) (some 48) false <|
  .rd 1 none (.ld1 (.tmp 48)) (some 49) false <|
  .rd 2 none (.fldA 5 (.tmp 1)) (some 50) false <|
  .rd 3 none (.ldn 2 (.tmp 50)) (some 51) false <|
  .ef 4 none (.call F.osierref04_Has [(.tmp 49), (.tmp 51)]) (some 52) [] (
  .rd 5 none (.mv (.tmp 52)) (some 5) false <|
  .done) .none
noncomputable def F.osierref07_Check.r6 : Plan :=
  .rd 0 none (.fldA 3 (.tmp 1)) (some 53) false <|
  .rd 1 none (.ld1 (.tmp 53)) (some 54) false <|
  .rd 2 none (.fldA 7 (.tmp 1)) (some 55) false <|
  .rd 3 none (.ldn 2 (.tmp 55)) (some 56) false <|
  .ef 4 none (.call F.osierref04_Has [(.tmp 54), (.tmp 56)]) (some 57) [] (
  .rd 5 none (.mv (.tmp 57)) (some 6) false <|
  .done) .none
noncomputable def F.osierref07_Check.r7 : Plan :=
  .rd 0 none (.fldA 3 (.tmp 1)) (some 58) false <|
  .rd 1 none (.ld1 (.tmp 58)) (some 59) false <|
  .rd 2 none (.fldA 11 (.tmp 1)) (some 60) false <|
  .rd 3 none (.ldn 2 (.tmp 60)) (some 61) false <|
  .ef 4 none (.call F.osierref04_Has [(.tmp 59), (.tmp 61)]) (some 62) [] (
  .rd 5 none (.mv (.tmp 62)) (some 7) false <|
  .done) .none
noncomputable def F.osierref07_Check.r8 : Plan :=
  .rd 0 none (.fldA 13 (.tmp 1)) (some 63) false <|
  .rd 1 none (.ld1 (.tmp 63)) (some 64) false <|
  .ef 2 none (.call F.osierref06_May [(.tmp 64)]) (some 65) [] (
  .rd 3 none (.mv (.tmp 65)) (some 8) false <|
  .done) .none
noncomputable def F.osierref07_Check.r9 : Plan :=
  .rd 0 none (.build [(.int .i64 0), (.int .i64 0)] []) (some 66) false <|
  .ef 1 none (.alloc [(.int .i64 0), (.int .i64 0)]) (some 9) [] (
  .ef 2 none (.st 2 (.tmp 9) (.tmp 66)) none [] (
  .done) .none) .none
noncomputable def F.osierref07_Check.r10 : Plan :=
  .rd 0 none (.build [(.int .i64 0), (.int .i64 0)] [(0, (1, (.const (.int .i64 0)))), (1, (1, (.const (.int .i64 (-1)))))]) (some 67) false <|
  .ef 1 none (.alloc [(.int .i64 0), (.int .i64 0)]) (some 10) [] (
  .ef 2 none (.st 2 (.tmp 10) (.tmp 67)) none [] (
  .done) .none) .none
noncomputable def F.osierref07_Check.r11 : Plan :=
  .rd 0 none (.build [(.int .i64 0), (.int .i64 0)] [(0, (1, (.const (.int .i64 0)))), (1, (1, (.const (.int .i64 (-2)))))]) (some 68) false <|
  .ef 1 none (.alloc [(.int .i64 0), (.int .i64 0)]) (some 11) [] (
  .ef 2 none (.st 2 (.tmp 11) (.tmp 68)) none [] (
  .done) .none) .none
noncomputable def F.osierref07_Check.r12 : Plan :=
  .rd 0 none (.fldA 4 (.tmp 1)) (some 69) false <|
  .rd 1 none (.ld1 (.tmp 69)) (some 70) false <|
  .rd 2 none (.bin .eql (.tmp 70) (.const (.int .i64 1))) (some 71) false <|
  .done
noncomputable def F.osierref07_Check.r13 : Plan :=
  .rd 0 none (.fldA 7 (.tmp 1)) (some 72) false <|
  .rd 1 none (.ldn 2 (.tmp 72)) (some 73) false <|
  .rd 2 none (.ldn 2 (.tmp 9)) (some 74) false <|
  .rd 3 none (.eqS [(.i .i64), (.i .i64)] true false (.tmp 73) (.tmp 74)) (some 75) false <|
  .rd 4 none (.mv (.tmp 75)) (some 76) false <|
  .rd 5 (some (76, true)) (.fldA 9 (.tmp 1)) (some 77) false <|
  .rd 6 (some (76, true)) (.ld1 (.tmp 77)) (some 78) false <|
  .rd 7 (some (76, true)) (.bin .neq (.tmp 78) (.const (.int .i64 1))) (some 79) false <|
  .rd 8 none (.pick (.tmp 76) (.tmp 79) (.const (.bool false))) (some 80) false <|
  .done
noncomputable def F.osierref07_Check.r14 : Plan :=
  .rd 0 none (.mv (.const (.bool false))) (some 2) false <|
  .done
noncomputable def F.osierref07_Check.r15 : Plan :=
  .rd 0 none (.fldA 10 (.tmp 1)) (some 81) false <|
  .rd 1 none (.ld1 (.tmp 81)) (some 82) false <|
  .rd 2 none (.bin .geq (.tmp 82) (.const (.int .i64 0))) (some 83) false <|
  .rd 3 none (.mv (.tmp 83)) (some 84) false <|
  .rd 4 (some (84, true)) (.fldA 10 (.tmp 1)) (some 85) false <|
  .rd 5 (some (84, true)) (.ld1 (.tmp 85)) (some 86) false <|
  .rd 6 (some (84, true)) (.bin .leq (.tmp 86) (.const (.int .i64 1114111))) (some 87) false <|
  .rd 7 none (.pick (.tmp 84) (.tmp 87) (.const (.bool false))) (some 88) false <|
  .rd 8 none (.mv (.tmp 88)) (some 89) false <|
  .rd 9 (some (89, true)) (.fldA 10 (.tmp 1)) (some 90) false <|
  .rd 10 (some (89, true)) (.ld1 (.tmp 90)) (some 91) false <|
  .rd 11 (some (89, true)) (.bin .lss (.tmp 91) (.const (.int .i64 55296))) (some 92) false <|
  .rd 12 (some (89, true)) (.mv (.tmp 92)) (some 93) false <|
  .rd 13 (some (93, false)) (.fldA 10 (.tmp 1)) (some 94) false <|
  .rd 14 (some (93, false)) (.ld1 (.tmp 94)) (some 95) false <|
  .rd 15 (some (93, false)) (.bin .gtr (.tmp 95) (.const (.int .i64 57343))) (some 96) false <|
  .rd 16 (some (89, true)) (.pick (.tmp 93) (.const (.bool true)) (.tmp 96)) (some 97) false <|
  .rd 17 none (.pick (.tmp 89) (.tmp 97) (.const (.bool false))) (some 98) false <|
  .rd 18 none (.mv (.tmp 98)) (some 12) false <|
  .done
noncomputable def F.osierref07_Check.r16 : Plan :=
  .rd 0 none (.mv (.tmp 5)) (some 99) false <|
  .rd 1 none (.mv (.tmp 99)) (some 100) false <|
  .rd 2 (some (100, true)) (.fldA 7 (.tmp 1)) (some 101) false <|
  .rd 3 (some (100, true)) (.ldn 2 (.tmp 101)) (some 102) false <|
  .rd 4 (some (100, true)) (.ldn 2 (.tmp 9)) (some 103) false <|
  .rd 5 (some (100, true)) (.eqS [(.i .i64), (.i .i64)] true false (.tmp 102) (.tmp 103)) (some 104) false <|
  .rd 6 (some (100, true)) (.mv (.tmp 104)) (some 105) false <|
  .rd 7 (some (105, false)) (.mv (.tmp 6)) (some 106) false <|
  .rd 8 (some (100, true)) (.pick (.tmp 105) (.const (.bool true)) (.tmp 106)) (some 107) false <|
  .rd 9 none (.pick (.tmp 100) (.tmp 107) (.const (.bool false))) (some 108) false <|
  .rd 10 none (.mv (.tmp 108)) (some 109) false <|
  .rd 11 (some (109, true)) (.fldA 9 (.tmp 1)) (some 110) false <|
  .rd 12 (some (109, true)) (.ld1 (.tmp 110)) (some 111) false <|
  .rd 13 (some (109, true)) (.bin .eql (.tmp 111) (.const (.int .i64 0))) (some 112) false <|
  .rd 14 (some (109, true)) (.mv (.tmp 112)) (some 113) false <|
  .rd 15 (some (113, false)) (.fldA 9 (.tmp 1)) (some 114) false <|
  .rd 16 (some (113, false)) (.ld1 (.tmp 114)) (some 115) false <|
  .rd 17 (some (113, false)) (.bin .eql (.tmp 115) (.const (.int .i64 1))) (some 116) false <|
  .rd 18 (some (109, true)) (.pick (.tmp 113) (.const (.bool true)) (.tmp 116)) (some 117) false <|
  .rd 19 none (.pick (.tmp 109) (.tmp 117) (.const (.bool false))) (some 118) false <|
  .rd 20 none (.mv (.tmp 118)) (some 119) false <|
  .rd 21 (some (119, true)) (.mv (.tmp 12)) (some 120) false <|
  .rd 22 none (.pick (.tmp 119) (.tmp 120) (.const (.bool false))) (some 121) false <|
  .rd 23 none (.mv (.tmp 121)) (some 122) false <|
  .rd 24 (some (122, true)) (.fldA 11 (.tmp 1)) (some 123) false <|
  .rd 25 (some (122, true)) (.ldn 2 (.tmp 123)) (some 124) false <|
  .rd 26 (some (122, true)) (.ldn 2 (.tmp 9)) (some 125) false <|
  .rd 27 (some (122, true)) (.eqS [(.i .i64), (.i .i64)] true false (.tmp 124) (.tmp 125)) (some 126) false <|
  .rd 28 none (.pick (.tmp 122) (.tmp 126) (.const (.bool false))) (some 127) false <|
  .rd 29 none (.mv (.tmp 127)) (some 128) false <|
  .rd 30 (some (128, true)) (.fldA 13 (.tmp 1)) (some 129) false <|
  .rd 31 (some (128, true)) (.ld1 (.tmp 129)) (some 130) false <|
  .rd 32 (some (128, true)) (.bin .eql (.tmp 130) (.const (.string ⟨#[]⟩))) (some 131) false <|
  .rd 33 none (.pick (.tmp 128) (.tmp 131) (.const (.bool false))) (some 132) false <|
  .rd 34 none (.mv (.tmp 132)) (some 2) false <|
  .done
noncomputable def F.osierref07_Check.r17 : Plan :=
  .rd 0 none (.fldA 4 (.tmp 1)) (some 133) false <|
  .rd 1 none (.ld1 (.tmp 133)) (some 134) false <|
  .rd 2 none (.bin .eql (.tmp 134) (.const (.int .i64 2))) (some 135) false <|
  .done
noncomputable def F.osierref07_Check.r18 : Plan :=
  .rd 0 none (.mv (.tmp 5)) (some 136) false <|
  .rd 1 none (.mv (.tmp 136)) (some 137) false <|
  .rd 2 (some (137, true)) (.mv (.tmp 6)) (some 138) false <|
  .rd 3 none (.pick (.tmp 137) (.tmp 138) (.const (.bool false))) (some 139) false <|
  .rd 4 none (.mv (.tmp 139)) (some 140) false <|
  .rd 5 (some (140, true)) (.fldA 9 (.tmp 1)) (some 141) false <|
  .rd 6 (some (140, true)) (.ld1 (.tmp 141)) (some 142) false <|
  .rd 7 (some (140, true)) (.bin .eql (.tmp 142) (.const (.int .i64 0))) (some 143) false <|
  .rd 8 none (.pick (.tmp 140) (.tmp 143) (.const (.bool false))) (some 144) false <|
  .rd 9 none (.mv (.tmp 144)) (some 145) false <|
  .rd 10 (some (145, true)) (.fldA 10 (.tmp 1)) (some 146) false <|
  .rd 11 (some (145, true)) (.ld1 (.tmp 146)) (some 147) false <|
  .rd 12 (some (145, true)) (.bin .eql (.tmp 147) (.const (.int .i64 0))) (some 148) false <|
  .rd 13 none (.pick (.tmp 145) (.tmp 148) (.const (.bool false))) (some 149) false <|
  .rd 14 none (.mv (.tmp 149)) (some 150) false <|
  .rd 15 (some (150, true)) (.fldA 11 (.tmp 1)) (some 151) false <|
  .rd 16 (some (150, true)) (.ldn 2 (.tmp 151)) (some 152) false <|
  .rd 17 (some (150, true)) (.ldn 2 (.tmp 9)) (some 153) false <|
  .rd 18 (some (150, true)) (.eqS [(.i .i64), (.i .i64)] true false (.tmp 152) (.tmp 153)) (some 154) false <|
  .rd 19 none (.pick (.tmp 150) (.tmp 154) (.const (.bool false))) (some 155) false <|
  .rd 20 none (.mv (.tmp 155)) (some 156) false <|
  .rd 21 (some (156, true)) (.fldA 13 (.tmp 1)) (some 157) false <|
  .rd 22 (some (156, true)) (.ld1 (.tmp 157)) (some 158) false <|
  .rd 23 (some (156, true)) (.bin .eql (.tmp 158) (.const (.string ⟨#[]⟩))) (some 159) false <|
  .rd 24 none (.pick (.tmp 156) (.tmp 159) (.const (.bool false))) (some 160) false <|
  .rd 25 none (.mv (.tmp 160)) (some 2) false <|
  .done
noncomputable def F.osierref07_Check.r19 : Plan :=
  .rd 0 none (.fldA 4 (.tmp 1)) (some 161) false <|
  .rd 1 none (.ld1 (.tmp 161)) (some 162) false <|
  .rd 2 none (.bin .eql (.tmp 162) (.const (.int .i64 3))) (some 163) false <|
  .done
noncomputable def F.osierref07_Check.r20 : Plan :=
  .rd 0 none (.fldA 5 (.tmp 1)) (some 164) false <|
  .rd 1 none (.ldn 2 (.tmp 164)) (some 165) false <|
  .rd 2 none (.fldA 0 (.tmp 1)) (some 166) false <|
  .rd 3 none (.ldn 2 (.tmp 166)) (some 167) false <|
  .rd 4 none (.eqS [(.i .i64), (.i .i64)] true false (.tmp 165) (.tmp 167)) (some 168) false <|
  .rd 5 none (.mv (.tmp 168)) (some 169) false <|
  .rd 6 (some (169, false)) (.mv (.tmp 5)) (some 170) false <|
  .rd 7 none (.pick (.tmp 169) (.const (.bool true)) (.tmp 170)) (some 171) false <|
  .rd 8 none (.mv (.tmp 171)) (some 172) false <|
  .rd 9 (some (172, true)) (.fldA 11 (.tmp 1)) (some 173) false <|
  .rd 10 (some (172, true)) (.ldn 2 (.tmp 173)) (some 174) false <|
  .rd 11 (some (172, true)) (.ldn 2 (.tmp 10)) (some 175) false <|
  .rd 12 (some (172, true)) (.eqS [(.i .i64), (.i .i64)] true false (.tmp 174) (.tmp 175)) (some 176) false <|
  .rd 13 (some (172, true)) (.mv (.tmp 176)) (some 177) false <|
  .rd 14 (some (177, false)) (.fldA 11 (.tmp 1)) (some 178) false <|
  .rd 15 (some (177, false)) (.ldn 2 (.tmp 178)) (some 179) false <|
  .rd 16 (some (177, false)) (.ldn 2 (.tmp 11)) (some 180) false <|
  .rd 17 (some (177, false)) (.eqS [(.i .i64), (.i .i64)] true false (.tmp 179) (.tmp 180)) (some 181) false <|
  .rd 18 (some (172, true)) (.pick (.tmp 177) (.const (.bool true)) (.tmp 181)) (some 182) false <|
  .rd 19 (some (172, true)) (.mv (.tmp 182)) (some 183) false <|
  .rd 20 (some (183, false)) (.mv (.tmp 7)) (some 184) false <|
  .rd 21 (some (172, true)) (.pick (.tmp 183) (.const (.bool true)) (.tmp 184)) (some 185) false <|
  .rd 22 none (.pick (.tmp 172) (.tmp 185) (.const (.bool false))) (some 186) false <|
  .rd 23 none (.mv (.tmp 186)) (some 187) false <|
  .rd 24 (some (187, true)) (.fldA 11 (.tmp 1)) (some 188) false <|
  .rd 25 (some (187, true)) (.ldn 2 (.tmp 188)) (some 189) false <|
  .rd 26 (some (187, true)) (.fldA 5 (.tmp 1)) (some 190) false <|
  .rd 27 (some (187, true)) (.ldn 2 (.tmp 190)) (some 191) false <|
  .rd 28 (some (187, true)) (.eqS [(.i .i64), (.i .i64)] true true (.tmp 189) (.tmp 191)) (some 192) false <|
  .rd 29 none (.pick (.tmp 187) (.tmp 192) (.const (.bool false))) (some 193) false <|
  .rd 30 none (.mv (.tmp 193)) (some 194) false <|
  .rd 31 (some (194, true)) (.mv (.tmp 8)) (some 195) false <|
  .rd 32 none (.pick (.tmp 194) (.tmp 195) (.const (.bool false))) (some 196) false <|
  .rd 33 none (.mv (.tmp 196)) (some 197) false <|
  .rd 34 (some (197, true)) (.fldA 7 (.tmp 1)) (some 198) false <|
  .rd 35 (some (197, true)) (.ldn 2 (.tmp 198)) (some 199) false <|
  .rd 36 (some (197, true)) (.ldn 2 (.tmp 9)) (some 200) false <|
  .rd 37 (some (197, true)) (.eqS [(.i .i64), (.i .i64)] true false (.tmp 199) (.tmp 200)) (some 201) false <|
  .rd 38 none (.pick (.tmp 197) (.tmp 201) (.const (.bool false))) (some 202) false <|
  .rd 39 none (.mv (.tmp 202)) (some 203) false <|
  .rd 40 (some (203, true)) (.fldA 9 (.tmp 1)) (some 204) false <|
  .rd 41 (some (203, true)) (.ld1 (.tmp 204)) (some 205) false <|
  .rd 42 (some (203, true)) (.bin .eql (.tmp 205) (.const (.int .i64 0))) (some 206) false <|
  .rd 43 none (.pick (.tmp 203) (.tmp 206) (.const (.bool false))) (some 207) false <|
  .rd 44 none (.mv (.tmp 207)) (some 208) false <|
  .rd 45 (some (208, true)) (.fldA 10 (.tmp 1)) (some 209) false <|
  .rd 46 (some (208, true)) (.ld1 (.tmp 209)) (some 210) false <|
  .rd 47 (some (208, true)) (.bin .eql (.tmp 210) (.const (.int .i64 0))) (some 211) false <|
  .rd 48 none (.pick (.tmp 208) (.tmp 211) (.const (.bool false))) (some 212) false <|
  .rd 49 none (.mv (.tmp 212)) (some 2) false <|
  .done
noncomputable def F.osierref07_Check.r21 : Plan :=
  .rd 0 none (.mv (.const (.bool false))) (some 2) false <|
  .done
noncomputable def F.osierref07_Check.ic : IC :=
    (.seq (.reg F.osierref07_Check.r0)
    (.seq (.reg F.osierref07_Check.r1)
    (.seq (.reg F.osierref07_Check.r2)
    (.seq (.seq (.reg F.osierref07_Check.r3)
    (.cond (.tmp 47) (.seq (.reg F.osierref07_Check.r4)
    .ret) .skip))
    (.seq (.reg F.osierref07_Check.r5)
    (.seq (.reg F.osierref07_Check.r6)
    (.seq (.reg F.osierref07_Check.r7)
    (.seq (.reg F.osierref07_Check.r8)
    (.seq (.reg F.osierref07_Check.r9)
    (.seq (.reg F.osierref07_Check.r10)
    (.seq (.reg F.osierref07_Check.r11)
    (.seq (.seq (.reg F.osierref07_Check.r12)
    (.cond (.tmp 71) (.seq (.seq (.reg F.osierref07_Check.r13)
    (.cond (.tmp 80) (.seq (.reg F.osierref07_Check.r14)
    .ret) .skip))
    (.seq (.reg F.osierref07_Check.r15)
    (.seq (.reg F.osierref07_Check.r16)
    .ret))) .skip))
    (.seq (.seq (.reg F.osierref07_Check.r17)
    (.cond (.tmp 135) (.seq (.reg F.osierref07_Check.r18)
    .ret) .skip))
    (.seq (.seq (.reg F.osierref07_Check.r19)
    (.cond (.tmp 163) (.seq (.reg F.osierref07_Check.r20)
    .ret) .skip))
    (.seq (.reg F.osierref07_Check.r21)
    .ret)))))))))))))))
noncomputable def F.osierref07_Check.rs : List RO := [(.mv (.tmp 2))]
theorem F.osierref07_Check.ok : cFunc Go.Proofs.Tryz.prog F.osierref07_Check = some (213, F.osierref07_Check.ic, F.osierref07_Check.rs) := by kernel_rfl
theorem F.osierref07_Check.cl : callable Go.Proofs.Tryz.prog F.osierref07_Check = true := by kernel_rfl
noncomputable def F.osierref04_Has.r0 : Plan :=
  .ef 0 none (.box (.tmp 1)) (some 3) [] (
  .rd 1 none (.mv (.const (.bool false))) (some 4) false <|
  .done) .none
noncomputable def F.osierref04_Has.r1 : Plan :=
  .rd 0 none (.ldn 2 (.tmp 3)) (some 6) false <|
  .ef 1 none (.call F.osierref03_May [(.tmp 6)]) (some 7) [] (
  .rd 2 none (.mv (.tmp 7)) (some 5) false <|
  .done) .none
noncomputable def F.osierref04_Has.r2 : Plan :=
  .rd 0 none (.mv (.tmp 5)) (some 8) false <|
  .rd 1 none (.mv (.tmp 8)) (some 9) false <|
  .rd 2 (some (9, true)) (.fldA 1 (.tmp 3)) (some 10) false <|
  .rd 3 (some (9, true)) (.ld1 (.tmp 10)) (some 11) true <|
  .rd 4 (some (9, true)) (.mv (.tmp 0)) (some 12) false <|
  .rd 5 (some (9, true)) (.fldA 0 (.tmp 3)) (some 13) false <|
  .rd 6 (some (9, true)) (.ld1 (.tmp 13)) (some 14) false <|
  .ef 7 (some (9, true)) (.call F.osierref04_Get [(.tmp 12), (.tmp 14)]) (some 15) [2, 3] (
  .rd 8 (some (9, true)) (.bin .leq (.tmp 11) (.tmp 15)) (some 16) false <|
  .rd 9 none (.pick (.tmp 9) (.tmp 16) (.const (.bool false))) (some 17) false <|
  .rd 10 none (.mv (.tmp 17)) (some 4) false <|
  .done) .none
noncomputable def F.osierref04_Has.ic : IC :=
    (.seq (.reg F.osierref04_Has.r0)
    (.seq (.reg F.osierref04_Has.r1)
    (.seq (.reg F.osierref04_Has.r2)
    .ret)))
noncomputable def F.osierref04_Has.rs : List RO := [(.mv (.tmp 4))]
theorem F.osierref04_Has.ok : cFunc Go.Proofs.Tryz.prog F.osierref04_Has = some (18, F.osierref04_Has.ic, F.osierref04_Has.rs) := by kernel_rfl
theorem F.osierref04_Has.cl : callable Go.Proofs.Tryz.prog F.osierref04_Has = true := by kernel_rfl
noncomputable def F.osierref04_Below.r0 : Plan :=
  .rd 0 none (.mv (.const (.bool false))) (some 4) false <|
  .done
noncomputable def F.osierref04_Below.r1 : Plan :=
  .rd 0 none (.mv (.const (.int .i64 0))) (some 5) false <|
  .done
noncomputable def F.osierref04_Below.r2 : Plan :=
  .rd 0 none (.mv (.tmp 5)) (some 6) false <|
  .rd 1 none (.mv (.tmp 0)) (some 7) false <|
  .rd 2 none (.len .sl (.tmp 7)) (some 8) false <|
  .rd 3 none (.bin .lss (.tmp 6) (.tmp 8)) (some 9) false <|
  .done
noncomputable def F.osierref04_Below.r3 : Plan :=
  .rd 0 none (.mv (.tmp 1)) (some 12) false <|
  .rd 1 none (.mv (.tmp 0)) (some 13) false <|
  .rd 2 none (.mv (.tmp 5)) (some 14) false <|
  .rd 3 none (.idxA 2 (.tmp 13) (.tmp 14)) (some 15) false <|
  .rd 4 none (.fldA 0 (.tmp 15)) (some 16) false <|
  .rd 5 none (.ld1 (.tmp 16)) (some 17) false <|
  .rd 7 none (.mv (.tmp 0)) (some 19) false <|
  .rd 8 none (.mv (.tmp 5)) (some 20) false <|
  .rd 9 none (.idxA 2 (.tmp 19) (.tmp 20)) (some 21) false <|
  .rd 10 none (.fldA 1 (.tmp 21)) (some 22) false <|
  .rd 11 none (.ld1 (.tmp 22)) (some 23) true <|
  .ef 6 none (.call F.osierref04_Get [(.tmp 12), (.tmp 17)]) (some 18) [7, 8, 9, 10, 11] (
  .rd 12 none (.bin .lss (.tmp 18) (.tmp 23)) (some 24) false <|
  .done) .none
noncomputable def F.osierref04_Below.r4 : Plan :=
  .rd 0 none (.mv (.const (.bool false))) (some 4) false <|
  .done
noncomputable def F.osierref04_Below.r5 : Plan :=
  .rd 0 none (.mv (.tmp 5)) (some 10) false <|
  .rd 1 none (.bin .add (.tmp 10) (.const (.int .i64 1))) (some 11) false <|
  .rd 2 none (.mv (.tmp 11)) (some 5) false <|
  .done
noncomputable def F.osierref04_Below.l0 : IC :=
    (.seq (.seq (.reg F.osierref04_Below.r2)
    (.cond (.tmp 9) .skip (.exit 0)))
    (.seq (.block 1 (.seq (.reg F.osierref04_Below.r3)
    (.cond (.tmp 24) (.seq (.reg F.osierref04_Below.r4)
    .ret) .skip)))
    (.reg F.osierref04_Below.r5)))
noncomputable def F.osierref04_Below.r6 : Plan :=
  .rd 0 none (.mv (.const (.bool true))) (some 4) false <|
  .done
noncomputable def F.osierref04_Below.ic : IC :=
    (.seq (.reg F.osierref04_Below.r0)
    (.seq (.seq (.reg F.osierref04_Below.r1)
    (.block 0 (.loop F.osierref04_Below.l0)))
    (.seq (.reg F.osierref04_Below.r6)
    .ret)))
noncomputable def F.osierref04_Below.rs : List RO := [(.mv (.tmp 4))]
theorem F.osierref04_Below.ok : cFunc Go.Proofs.Tryz.prog F.osierref04_Below = some (25, F.osierref04_Below.ic, F.osierref04_Below.rs) := by kernel_rfl
theorem F.osierref04_Below.cl : callable Go.Proofs.Tryz.prog F.osierref04_Below = true := by kernel_rfl
noncomputable def F.vector_With.r0 : Plan :=
  .ef 0 none (.box (.tmp 1)) (some 3) [] (
  .rd 1 none (.mv (.const (.slice none 0 0))) (some 4) false <|
  .done) .none
noncomputable def F.vector_With.r1 : Plan :=
  .rd 0 none (.ldn 2 (.tmp 3)) (some 5) false <|
  .ef 1 none (.call F.dots_May [(.tmp 5)]) (some 6) [] (
  .rd 2 none (.un .not (.tmp 6)) (some 7) false <|
  .done) .none
noncomputable def F.vector_With.r2 : Plan :=
  .rd 0 none (.mv (.tmp 0)) (some 8) false <|
  .ef 1 none (.call F.slices_Clone_api_Vector_api_Dot [(.tmp 8)]) (some 9) [] (
  .rd 2 none (.mv (.tmp 9)) (some 4) false <|
  .done) .none
noncomputable def F.vector_With.r3 : Plan :=
  .rd 0 none (.mv (.tmp 0)) (some 10) false <|
  .rd 1 none (.ldn 2 (.tmp 3)) (some 11) false <|
  .ef 2 none (.bsl 1 [(.int .i64 0), (.int .i64 0)] [(0, (2, (.tmp 11)))]) (some 12) [] (
  .ef 3 none (.call F.vector_Join [(.tmp 10), (.tmp 12)]) (some 13) [] (
  .rd 4 none (.mv (.tmp 13)) (some 4) false <|
  .done) .none) .none
noncomputable def F.vector_With.ic : IC :=
    (.seq (.reg F.vector_With.r0)
    (.seq (.seq (.reg F.vector_With.r1)
    (.cond (.tmp 7) (.seq (.reg F.vector_With.r2)
    .ret) .skip))
    (.seq (.reg F.vector_With.r3)
    .ret)))
noncomputable def F.vector_With.rs : List RO := [(.mv (.tmp 4))]
theorem F.vector_With.ok : cFunc Go.Proofs.Tryz.prog F.vector_With = some (14, F.vector_With.ic, F.vector_With.rs) := by kernel_rfl
theorem F.vector_With.cl : callable Go.Proofs.Tryz.prog F.vector_With = true := by kernel_rfl
noncomputable def F.slices_Delete_s_api_Op_api_Op.r0 : Plan :=
  .rd 0 none (.mv (.const (.slice none 0 0))) (some 6) false <|
  .done
noncomputable def F.slices_Delete_s_api_Op_api_Op.r1 : Plan :=
  .rd 0 none (.mv (.tmp 0)) (some 8) false <|
  .rd 1 none (.mv (.tmp 1)) (some 9) false <|
  .rd 2 none (.mv (.tmp 2)) (some 10) false <|
  .rd 3 none (.mv (.tmp 0)) (some 11) false <|
  .rd 4 none (.len .sl (.tmp 11)) (some 12) false <|
  .rd 5 none (.sl 14 (.tmp 8) (some (.tmp 9)) (some (.tmp 10)) (some (.tmp 12))) (some 13) false <|
  .done
noncomputable def F.slices_Delete_s_api_Op_api_Op.r2 : Plan :=
  .rd 0 none (.mv (.tmp 1)) (some 14) false <|
  .rd 1 none (.mv (.tmp 2)) (some 15) false <|
  .rd 2 none (.bin .eql (.tmp 14) (.tmp 15)) (some 16) false <|
  .done
noncomputable def F.slices_Delete_s_api_Op_api_Op.r3 : Plan :=
  .rd 0 none (.mv (.tmp 0)) (some 17) false <|
  .rd 1 none (.mv (.tmp 17)) (some 6) false <|
  .done
noncomputable def F.slices_Delete_s_api_Op_api_Op.r4 : Plan :=
  .rd 0 none (.mv (.tmp 0)) (some 18) false <|
  .rd 1 none (.len .sl (.tmp 18)) (some 19) false <|
  .rd 2 none (.mv (.tmp 19)) (some 7) false <|
  .done
noncomputable def F.slices_Delete_s_api_Op_api_Op.r5 : Plan :=
  .rd 0 none (.mv (.tmp 0)) (some 20) false <|
  .rd 1 none (.mv (.tmp 1)) (some 21) false <|
  .rd 2 none (.sl 14 (.tmp 20) none (some (.tmp 21)) none) (some 22) false <|
  .rd 3 none (.mv (.tmp 0)) (some 23) false <|
  .rd 4 none (.mv (.tmp 2)) (some 24) false <|
  .rd 5 none (.sl 14 (.tmp 23) (some (.tmp 24)) none none) (some 25) false <|
  .ef 6 none (.app 14 136 (.tmp 22) (.tmp 25)) (some 26) [] (
  .rd 7 none (.mv (.tmp 26)) (some 0) false <|
  .done) .none
noncomputable def F.slices_Delete_s_api_Op_api_Op.r6 : Plan :=
  .rd 0 none (.mv (.tmp 0)) (some 27) false <|
  .rd 1 none (.mv (.tmp 0)) (some 28) false <|
  .rd 2 none (.len .sl (.tmp 28)) (some 29) false <|
  .rd 3 none (.mv (.tmp 7)) (some 30) false <|
  .rd 4 none (.sl 14 (.tmp 27) (some (.tmp 29)) (some (.tmp 30)) none) (some 31) false <|
  .ef 5 none (.clr 14 [(.int .i64 0), (.int .i64 0), (.int .i64 0), (.slice none 0 0), (.int .i64 0), (.int .i64 0), (.int .i64 0), (.int .i64 0), (.int .i64 0), (.int .i64 0), (.int .i64 0), (.int .i64 0), (.int .i64 0), (.string ⟨#[]⟩)] (.tmp 31)) none [] (
  .done) .none
noncomputable def F.slices_Delete_s_api_Op_api_Op.r7 : Plan :=
  .rd 0 none (.mv (.tmp 0)) (some 32) false <|
  .rd 1 none (.mv (.tmp 32)) (some 6) false <|
  .done
noncomputable def F.slices_Delete_s_api_Op_api_Op.ic : IC :=
    (.seq (.reg F.slices_Delete_s_api_Op_api_Op.r0)
    (.seq (.reg F.slices_Delete_s_api_Op_api_Op.r1)
    (.seq (.seq (.reg F.slices_Delete_s_api_Op_api_Op.r2)
    (.cond (.tmp 16) (.seq (.reg F.slices_Delete_s_api_Op_api_Op.r3)
    .ret) .skip))
    (.seq (.reg F.slices_Delete_s_api_Op_api_Op.r4)
    (.seq (.reg F.slices_Delete_s_api_Op_api_Op.r5)
    (.seq (.reg F.slices_Delete_s_api_Op_api_Op.r6)
    (.seq (.reg F.slices_Delete_s_api_Op_api_Op.r7)
    .ret)))))))
noncomputable def F.slices_Delete_s_api_Op_api_Op.rs : List RO := [(.mv (.tmp 6))]
theorem F.slices_Delete_s_api_Op_api_Op.ok : cFunc Go.Proofs.Tryz.prog F.slices_Delete_s_api_Op_api_Op = some (33, F.slices_Delete_s_api_Op_api_Op.ic, F.slices_Delete_s_api_Op_api_Op.rs) := by kernel_rfl
theorem F.slices_Delete_s_api_Op_api_Op.cl : callable Go.Proofs.Tryz.prog F.slices_Delete_s_api_Op_api_Op = true := by kernel_rfl
noncomputable def F.osierref08_Counted.r0 : Plan :=
  .rd 0 none (.mv (.const (.slice none 0 0))) (some 2) false <|
  .done
noncomputable def F.osierref08_Counted.r1 : Plan :=
  .rd 0 none (.mv (.const (.slice none 0 0))) (some 3) false <|
  .done
noncomputable def F.osierref08_Counted.r2 : Plan :=
  .rd 0 none (.mv (.const (.int .i64 0))) (some 4) false <|
  .done
noncomputable def F.osierref08_Counted.r3 : Plan :=
  .rd 0 none (.mv (.tmp 4)) (some 6) false <|
  .rd 1 none (.mv (.tmp 0)) (some 7) false <|
  .rd 2 none (.len .sl (.tmp 7)) (some 8) false <|
  .rd 3 none (.bin .lss (.tmp 6) (.tmp 8)) (some 9) false <|
  .done
noncomputable def F.osierref08_Counted.r4 : Plan :=
  .rd 0 none (.mv (.tmp 0)) (some 12) false <|
  .rd 1 none (.mv (.tmp 4)) (some 13) false <|
  .rd 2 none (.idxA 14 (.tmp 12) (.tmp 13)) (some 14) false <|
  .rd 3 none (.ldn 14 (.tmp 14)) (some 15) false <|
  .ef 4 none (.call F.osierref07_Check [(.tmp 15)]) (some 16) [] (
  .rd 5 none (.mv (.tmp 16)) (some 5) false <|
  .done) .none
noncomputable def F.osierref08_Counted.r5 : Plan :=
  .rd 0 none (.mv (.tmp 5)) (some 17) false <|
  .rd 1 none (.mv (.tmp 17)) (some 18) false <|
  .rd 2 (some (18, true)) (.mv (.tmp 3)) (some 19) false <|
  .rd 3 (some (18, true)) (.mv (.tmp 0)) (some 20) false <|
  .rd 4 (some (18, true)) (.mv (.tmp 4)) (some 21) false <|
  .rd 5 (some (18, true)) (.idxA 14 (.tmp 20) (.tmp 21)) (some 22) false <|
  .rd 6 (some (18, true)) (.fldA 0 (.tmp 22)) (some 23) false <|
  .rd 7 (some (18, true)) (.ldn 2 (.tmp 23)) (some 24) false <|
  .ef 8 (some (18, true)) (.call F.osierref08_Known [(.tmp 19), (.tmp 24)]) (some 25) [] (
  .rd 9 (some (18, true)) (.un .not (.tmp 25)) (some 26) false <|
  .rd 10 none (.pick (.tmp 18) (.tmp 26) (.const (.bool false))) (some 27) false <|
  .done) .none
noncomputable def F.osierref08_Counted.r6 : Plan :=
  .rd 0 none (.mv (.tmp 3)) (some 28) false <|
  .rd 1 none (.mv (.tmp 0)) (some 29) false <|
  .rd 2 none (.mv (.tmp 4)) (some 30) false <|
  .rd 3 none (.idxA 14 (.tmp 29) (.tmp 30)) (some 31) false <|
  .rd 4 none (.ldn 14 (.tmp 31)) (some 32) false <|
  .ef 5 none (.call F.osierref08_Put [(.tmp 28), (.tmp 32)]) (some 33) [] (
  .rd 6 none (.mv (.tmp 33)) (some 3) false <|
  .done) .none
noncomputable def F.osierref08_Counted.r7 : Plan :=
  .rd 0 none (.mv (.tmp 4)) (some 10) false <|
  .rd 1 none (.bin .add (.tmp 10) (.const (.int .i64 1))) (some 11) false <|
  .rd 2 none (.mv (.tmp 11)) (some 4) false <|
  .done
noncomputable def F.osierref08_Counted.l0 : IC :=
    (.seq (.seq (.reg F.osierref08_Counted.r3)
    (.cond (.tmp 9) .skip (.exit 0)))
    (.seq (.block 1 (.seq (.reg F.osierref08_Counted.r4)
    (.seq (.reg F.osierref08_Counted.r5)
    (.cond (.tmp 27) (.reg F.osierref08_Counted.r6) .skip))))
    (.reg F.osierref08_Counted.r7)))
noncomputable def F.osierref08_Counted.r8 : Plan :=
  .rd 0 none (.mv (.tmp 3)) (some 34) false <|
  .rd 1 none (.mv (.tmp 34)) (some 2) false <|
  .done
noncomputable def F.osierref08_Counted.ic : IC :=
    (.seq (.reg F.osierref08_Counted.r0)
    (.seq (.reg F.osierref08_Counted.r1)
    (.seq (.seq (.reg F.osierref08_Counted.r2)
    (.block 0 (.loop F.osierref08_Counted.l0)))
    (.seq (.reg F.osierref08_Counted.r8)
    .ret))))
noncomputable def F.osierref08_Counted.rs : List RO := [(.mv (.tmp 2))]
theorem F.osierref08_Counted.ok : cFunc Go.Proofs.Tryz.prog F.osierref08_Counted = some (35, F.osierref08_Counted.ic, F.osierref08_Counted.rs) := by kernel_rfl
theorem F.osierref08_Counted.cl : callable Go.Proofs.Tryz.prog F.osierref08_Counted = true := by kernel_rfl
noncomputable def F.osierref07_Same.r0 : Plan :=
  .ef 0 none (.box (.tmp 0)) (some 2) [] (
  .ef 1 none (.box (.tmp 1)) (some 3) [] (
  .rd 2 none (.mv (.const (.bool false))) (some 4) false <|
  .done) .none) .none
noncomputable def F.osierref07_Same.r1 : Plan :=
  .rd 0 none (.fldA 3 (.tmp 2)) (some 6) false <|
  .rd 1 none (.ld1 (.tmp 6)) (some 7) false <|
  .rd 2 none (.fldA 3 (.tmp 3)) (some 8) false <|
  .rd 3 none (.ld1 (.tmp 8)) (some 9) false <|
  .ef 4 none (.call F.osierref04_Same [(.tmp 7), (.tmp 9)]) (some 10) [] (
  .rd 5 none (.mv (.tmp 10)) (some 5) false <|
  .done) .none
noncomputable def F.osierref07_Same.r2 : Plan :=
  .rd 0 none (.mv (.tmp 5)) (some 11) false <|
  .rd 1 none (.mv (.tmp 11)) (some 12) false <|
  .rd 2 (some (12, true)) (.fldA 0 (.tmp 2)) (some 13) false <|
  .rd 3 (some (12, true)) (.ldn 2 (.tmp 13)) (some 14) false <|
  .rd 4 (some (12, true)) (.fldA 0 (.tmp 3)) (some 15) false <|
  .rd 5 (some (12, true)) (.ldn 2 (.tmp 15)) (some 16) false <|
  .rd 6 (some (12, true)) (.eqS [(.i .i64), (.i .i64)] true false (.tmp 14) (.tmp 16)) (some 17) false <|
  .rd 7 none (.pick (.tmp 12) (.tmp 17) (.const (.bool false))) (some 18) false <|
  .rd 8 none (.mv (.tmp 18)) (some 19) false <|
  .rd 9 (some (19, true)) (.fldA 2 (.tmp 2)) (some 20) false <|
  .rd 10 (some (19, true)) (.ld1 (.tmp 20)) (some 21) false <|
  .rd 11 (some (19, true)) (.fldA 2 (.tmp 3)) (some 22) false <|
  .rd 12 (some (19, true)) (.ld1 (.tmp 22)) (some 23) false <|
  .rd 13 (some (19, true)) (.bin .eql (.tmp 21) (.tmp 23)) (some 24) false <|
  .rd 14 none (.pick (.tmp 19) (.tmp 24) (.const (.bool false))) (some 25) false <|
  .rd 15 none (.mv (.tmp 25)) (some 26) false <|
  .rd 16 (some (26, true)) (.fldA 4 (.tmp 2)) (some 27) false <|
  .rd 17 (some (26, true)) (.ld1 (.tmp 27)) (some 28) false <|
  .rd 18 (some (26, true)) (.fldA 4 (.tmp 3)) (some 29) false <|
  .rd 19 (some (26, true)) (.ld1 (.tmp 29)) (some 30) false <|
  .rd 20 (some (26, true)) (.bin .eql (.tmp 28) (.tmp 30)) (some 31) false <|
  .rd 21 none (.pick (.tmp 26) (.tmp 31) (.const (.bool false))) (some 32) false <|
  .rd 22 none (.mv (.tmp 32)) (some 33) false <|
  .rd 23 (some (33, true)) (.fldA 5 (.tmp 2)) (some 34) false <|
  .rd 24 (some (33, true)) (.ldn 2 (.tmp 34)) (some 35) false <|
  .rd 25 (some (33, true)) (.fldA 5 (.tmp 3)) (some 36) false <|
  .rd 26 (some (33, true)) (.ldn 2 (.tmp 36)) (some 37) false <|
  .rd 27 (some (33, true)) (.eqS [(.i .i64), (.i .i64)] true false (.tmp 35) (.tmp 37)) (some 38) false <|
  .rd 28 none (.pick (.tmp 33) (.tmp 38) (.const (.bool false))) (some 39) false <|
  .rd 29 none (.mv (.tmp 39)) (some 40) false <|
  .rd 30 (some (40, true)) (.fldA 7 (.tmp 2)) (some 41) false <|
  .rd 31 (some (40, true)) (.ldn 2 (.tmp 41)) (some 42) false <|
  .rd 32 (some (40, true)) (.fldA 7 (.tmp 3)) (some 43) false <|
  .rd 33 (some (40, true)) (.ldn 2 (.tmp 43)) (some 44) false <|
  .rd 34 (some (40, true)) (.eqS [(.i .i64), (.i .i64)] true false (.tmp 42) (.tmp 44)) (some 45) false <|
  .rd 35 none (.pick (.tmp 40) (.tmp 45) (.const (.bool false))) (some 46) false <|
  .rd 36 none (.mv (.tmp 46)) (some 47) false <|
  .rd 37 (some (47, true)) (.fldA 9 (.tmp 2)) (some 48) false <|
  .rd 38 (some (47, true)) (.ld1 (.tmp 48)) (some 49) false <|
  .rd 39 (some (47, true)) (.fldA 9 (.tmp 3)) (some 50) false <|
  .rd 40 (some (47, true)) (.ld1 (.tmp 50)) (some 51) false <|
  .rd 41 (some (47, true)) (.bin .eql (.tmp 49) (.tmp 51)) (some 52) false <|
  .rd 42 none (.pick (.tmp 47) (.tmp 52) (.const (.bool false))) (some 53) false <|
  .rd 43 none (.mv (.tmp 53)) (some 54) false <|
  .rd 44 (some (54, true)) (.fldA 10 (.tmp 2)) (some 55) false <|
  .rd 45 (some (54, true)) (.ld1 (.tmp 55)) (some 56) false <|
  .rd 46 (some (54, true)) (.fldA 10 (.tmp 3)) (some 57) false <|
  .rd 47 (some (54, true)) (.ld1 (.tmp 57)) (some 58) false <|
  .rd 48 (some (54, true)) (.bin .eql (.tmp 56) (.tmp 58)) (some 59) false <|
  .rd 49 none (.pick (.tmp 54) (.tmp 59) (.const (.bool false))) (some 60) false <|
  .rd 50 none (.mv (.tmp 60)) (some 61) false <|
  .rd 51 (some (61, true)) (.fldA 11 (.tmp 2)) (some 62) false <|
  .rd 52 (some (61, true)) (.ldn 2 (.tmp 62)) (some 63) false <|
  .rd 53 (some (61, true)) (.fldA 11 (.tmp 3)) (some 64) false <|
  .rd 54 (some (61, true)) (.ldn 2 (.tmp 64)) (some 65) false <|
  .rd 55 (some (61, true)) (.eqS [(.i .i64), (.i .i64)] true false (.tmp 63) (.tmp 65)) (some 66) false <|
  .rd 56 none (.pick (.tmp 61) (.tmp 66) (.const (.bool false))) (some 67) false <|
  .rd 57 none (.mv (.tmp 67)) (some 68) false <|
  .rd 58 (some (68, true)) (.fldA 13 (.tmp 2)) (some 69) false <|
  .rd 59 (some (68, true)) (.ld1 (.tmp 69)) (some 70) false <|
  .rd 60 (some (68, true)) (.fldA 13 (.tmp 3)) (some 71) false <|
  .rd 61 (some (68, true)) (.ld1 (.tmp 71)) (some 72) false <|
  .rd 62 (some (68, true)) (.bin .eql (.tmp 70) (.tmp 72)) (some 73) false <|
  .rd 63 none (.pick (.tmp 68) (.tmp 73) (.const (.bool false))) (some 74) false <|
  .rd 64 none (.mv (.tmp 74)) (some 4) false <|
  .done
noncomputable def F.osierref07_Same.ic : IC :=
    (.seq (.reg F.osierref07_Same.r0)
    (.seq (.reg F.osierref07_Same.r1)
    (.seq (.reg F.osierref07_Same.r2)
    .ret)))
noncomputable def F.osierref07_Same.rs : List RO := [(.mv (.tmp 4))]
theorem F.osierref07_Same.ok : cFunc Go.Proofs.Tryz.prog F.osierref07_Same = some (75, F.osierref07_Same.ic, F.osierref07_Same.rs) := by kernel_rfl
theorem F.osierref07_Same.cl : callable Go.Proofs.Tryz.prog F.osierref07_Same = true := by kernel_rfl
noncomputable def F.slices_ContainsFunc_s_api_Op_api_Op.r0 : Plan :=
  .rd 0 none (.mv (.const (.bool false))) (some 4) false <|
  .done
noncomputable def F.slices_ContainsFunc_s_api_Op_api_Op.r1 : Plan :=
  .rd 0 none (.mv (.tmp 0)) (some 5) false <|
  .rd 1 none (.mv (.tmp 1)) (some 6) false <|
  .ef 2 none (.call F.slices_IndexFunc_s_api_Op_api_Op [(.tmp 5), (.tmp 6)]) (some 7) [] (
  .rd 3 none (.bin .geq (.tmp 7) (.const (.int .i64 0))) (some 8) false <|
  .rd 4 none (.mv (.tmp 8)) (some 4) false <|
  .done) .none
noncomputable def F.slices_ContainsFunc_s_api_Op_api_Op.ic : IC :=
    (.seq (.reg F.slices_ContainsFunc_s_api_Op_api_Op.r0)
    (.seq (.reg F.slices_ContainsFunc_s_api_Op_api_Op.r1)
    .ret))
noncomputable def F.slices_ContainsFunc_s_api_Op_api_Op.rs : List RO := [(.mv (.tmp 4))]
theorem F.slices_ContainsFunc_s_api_Op_api_Op.ok : cFunc Go.Proofs.Tryz.prog F.slices_ContainsFunc_s_api_Op_api_Op = some (9, F.slices_ContainsFunc_s_api_Op_api_Op.ic, F.slices_ContainsFunc_s_api_Op_api_Op.rs) := by kernel_rfl
theorem F.slices_ContainsFunc_s_api_Op_api_Op.cl : callable Go.Proofs.Tryz.prog F.slices_ContainsFunc_s_api_Op_api_Op = true := by kernel_rfl
noncomputable def F.causal_Right_c1.r0 : Plan :=
  .ef 0 none (.box (.tmp 0)) (some 2) [] (
  .rd 1 none (.mv (.const (.bool false))) (some 3) false <|
  .done) .none
noncomputable def F.causal_Right_c1.r1 : Plan :=
  .rd 0 none (.ldn 14 (.tmp 2)) (some 4) false <|
  .rd 1 none (.ldn 14 (.tmp 1)) (some 5) false <|
  .ef 2 none (.call F.causal_Ahead [(.tmp 4), (.tmp 5)]) (some 6) [] (
  .rd 3 none (.mv (.tmp 6)) (some 7) false <|
  .rd 4 (some (7, true)) (.fldA 2 (.tmp 2)) (some 8) false <|
  .rd 5 (some (7, true)) (.ld1 (.tmp 8)) (some 9) false <|
  .rd 6 (some (7, true)) (.fldA 2 (.tmp 1)) (some 10) false <|
  .rd 7 (some (7, true)) (.ld1 (.tmp 10)) (some 11) false <|
  .rd 8 (some (7, true)) (.bin .geq (.tmp 9) (.tmp 11)) (some 12) false <|
  .rd 9 none (.pick (.tmp 7) (.tmp 12) (.const (.bool false))) (some 13) false <|
  .rd 10 none (.mv (.tmp 13)) (some 3) false <|
  .done) .none
noncomputable def F.causal_Right_c1.ic : IC :=
    (.seq (.reg F.causal_Right_c1.r0)
    (.seq (.reg F.causal_Right_c1.r1)
    .ret))
noncomputable def F.causal_Right_c1.rs : List RO := [(.mv (.tmp 3))]
theorem F.causal_Right_c1.ok : cFunc Go.Proofs.Tryz.prog F.causal_Right_c1 = some (14, F.causal_Right_c1.ic, F.causal_Right_c1.rs) := by kernel_rfl
theorem F.causal_Right_c1.cl : callable Go.Proofs.Tryz.prog F.causal_Right_c1 = true := by kernel_rfl
noncomputable def F.causal_Frontier_c1.r0 : Plan :=
  .ef 0 none (.box (.tmp 0)) (some 2) [] (
  .rd 1 none (.mv (.const (.bool false))) (some 3) false <|
  .done) .none
noncomputable def F.causal_Frontier_c1.r1 : Plan :=
  .rd 0 none (.fldA 0 (.tmp 2)) (some 4) false <|
  .rd 1 none (.ldn 2 (.tmp 4)) (some 5) false <|
  .rd 2 none (.fldA 0 (.tmp 1)) (some 6) false <|
  .rd 3 none (.ldn 2 (.tmp 6)) (some 7) false <|
  .rd 4 none (.eqS [(.i .i64), (.i .i64)] true true (.tmp 5) (.tmp 7)) (some 8) false <|
  .rd 5 none (.mv (.tmp 8)) (some 9) false <|
  .rd 6 (some (9, true)) (.ldn 14 (.tmp 1)) (some 10) false <|
  .rd 7 (some (9, true)) (.ldn 14 (.tmp 2)) (some 11) false <|
  .ef 8 (some (9, true)) (.call F.causal_Ahead [(.tmp 10), (.tmp 11)]) (some 12) [] (
  .rd 9 none (.pick (.tmp 9) (.tmp 12) (.const (.bool false))) (some 13) false <|
  .rd 10 none (.mv (.tmp 13)) (some 3) false <|
  .done) .none
noncomputable def F.causal_Frontier_c1.ic : IC :=
    (.seq (.reg F.causal_Frontier_c1.r0)
    (.seq (.reg F.causal_Frontier_c1.r1)
    .ret))
noncomputable def F.causal_Frontier_c1.rs : List RO := [(.mv (.tmp 3))]
theorem F.causal_Frontier_c1.ok : cFunc Go.Proofs.Tryz.prog F.causal_Frontier_c1 = some (14, F.causal_Frontier_c1.ic, F.causal_Frontier_c1.rs) := by kernel_rfl
theorem F.causal_Frontier_c1.cl : callable Go.Proofs.Tryz.prog F.causal_Frontier_c1 = true := by kernel_rfl
noncomputable def F.dots_Rising.r0 : Plan :=
  .rd 0 none (.mv (.const (.slice none 0 0))) (some 2) false <|
  .done
noncomputable def F.dots_Rising.r1 : Plan :=
  .rd 0 none (.mv (.tmp 0)) (some 3) false <|
  .ef 1 none (.call F.dots_set [(.tmp 3)]) (some 4) [] (
  .ef 2 none (.call F.dots_row [(.tmp 4)]) (some 5) [] (
  .rd 3 none (.mv (.tmp 5)) (some 2) false <|
  .done) .none) .none
noncomputable def F.dots_Rising.ic : IC :=
    (.seq (.reg F.dots_Rising.r0)
    (.seq (.reg F.dots_Rising.r1)
    .ret))
noncomputable def F.dots_Rising.rs : List RO := [(.mv (.tmp 2))]
theorem F.dots_Rising.ok : cFunc Go.Proofs.Tryz.prog F.dots_Rising = some (6, F.dots_Rising.ic, F.dots_Rising.rs) := by kernel_rfl
theorem F.dots_Rising.cl : callable Go.Proofs.Tryz.prog F.dots_Rising = true := by kernel_rfl
noncomputable def F.osierref03_May.r0 : Plan :=
  .ef 0 none (.box (.tmp 0)) (some 1) [] (
  .rd 1 none (.mv (.const (.bool false))) (some 2) false <|
  .done) .none
noncomputable def F.osierref03_May.r1 : Plan :=
  .rd 0 none (.fldA 0 (.tmp 1)) (some 3) false <|
  .rd 1 none (.ld1 (.tmp 3)) (some 4) false <|
  .rd 2 none (.bin .geq (.tmp 4) (.const (.int .i64 0))) (some 5) false <|
  .rd 3 none (.mv (.tmp 5)) (some 6) false <|
  .rd 4 (some (6, true)) (.fldA 0 (.tmp 1)) (some 7) false <|
  .rd 5 (some (6, true)) (.ld1 (.tmp 7)) (some 8) false <|
  .rd 6 (some (6, true)) (.bin .leq (.tmp 8) (.const (.int .i64 16777215))) (some 9) false <|
  .rd 7 none (.pick (.tmp 6) (.tmp 9) (.const (.bool false))) (some 10) false <|
  .rd 8 none (.mv (.tmp 10)) (some 11) false <|
  .rd 9 (some (11, true)) (.fldA 1 (.tmp 1)) (some 12) false <|
  .rd 10 (some (11, true)) (.ld1 (.tmp 12)) (some 13) false <|
  .rd 11 (some (11, true)) (.bin .geq (.tmp 13) (.const (.int .i64 1))) (some 14) false <|
  .rd 12 none (.pick (.tmp 11) (.tmp 14) (.const (.bool false))) (some 15) false <|
  .rd 13 none (.mv (.tmp 15)) (some 16) false <|
  .rd 14 (some (16, true)) (.fldA 1 (.tmp 1)) (some 17) false <|
  .rd 15 (some (16, true)) (.ld1 (.tmp 17)) (some 18) false <|
  .rd 16 (some (16, true)) (.bin .leq (.tmp 18) (.const (.int .i64 1073741824))) (some 19) false <|
  .rd 17 none (.pick (.tmp 16) (.tmp 19) (.const (.bool false))) (some 20) false <|
  .rd 18 none (.mv (.tmp 20)) (some 2) false <|
  .done
noncomputable def F.osierref03_May.ic : IC :=
    (.seq (.reg F.osierref03_May.r0)
    (.seq (.reg F.osierref03_May.r1)
    .ret))
noncomputable def F.osierref03_May.rs : List RO := [(.mv (.tmp 2))]
theorem F.osierref03_May.ok : cFunc Go.Proofs.Tryz.prog F.osierref03_May = some (21, F.osierref03_May.ic, F.osierref03_May.rs) := by kernel_rfl
theorem F.osierref03_May.cl : callable Go.Proofs.Tryz.prog F.osierref03_May = true := by kernel_rfl
noncomputable def F.osierref04_Join.r0 : Plan :=
  .rd 0 none (.mv (.const (.slice none 0 0))) (some 6) false <|
  .done
noncomputable def F.osierref04_Join.r1 : Plan :=
  .rd 0 none (.mv (.const (.slice none 0 0))) (some 7) false <|
  .done
noncomputable def F.osierref04_Join.r2 : Plan :=
  .rd 0 none (.mv (.tmp 0)) (some 13) false <|
  .rd 1 none (.mv (.tmp 1)) (some 14) false <|
  .ef 2 none (.call F.osierref04_acts [(.tmp 13), (.tmp 14)]) (some 15) [] (
  .rd 3 none (.mv (.tmp 15)) (some 8) false <|
  .done) .none
noncomputable def F.osierref04_Join.r3 : Plan :=
  .rd 0 none (.mv (.const (.int .i64 0))) (some 9) false <|
  .done
noncomputable def F.osierref04_Join.r4 : Plan :=
  .rd 0 none (.mv (.tmp 9)) (some 16) false <|
  .rd 1 none (.mv (.tmp 8)) (some 17) false <|
  .rd 2 none (.len .sl (.tmp 17)) (some 18) false <|
  .rd 3 none (.bin .lss (.tmp 16) (.tmp 18)) (some 19) false <|
  .done
noncomputable def F.osierref04_Join.r5 : Plan :=
  .rd 0 none (.mv (.tmp 0)) (some 22) false <|
  .rd 1 none (.mv (.tmp 8)) (some 23) false <|
  .rd 2 none (.mv (.tmp 9)) (some 24) false <|
  .rd 3 none (.idxA 1 (.tmp 23) (.tmp 24)) (some 25) false <|
  .rd 4 none (.ld1 (.tmp 25)) (some 26) false <|
  .ef 5 none (.call F.osierref04_Get [(.tmp 22), (.tmp 26)]) (some 27) [] (
  .rd 6 none (.mv (.tmp 27)) (some 10) false <|
  .done) .none
noncomputable def F.osierref04_Join.r6 : Plan :=
  .rd 0 none (.mv (.tmp 1)) (some 28) false <|
  .rd 1 none (.mv (.tmp 8)) (some 29) false <|
  .rd 2 none (.mv (.tmp 9)) (some 30) false <|
  .rd 3 none (.idxA 1 (.tmp 29) (.tmp 30)) (some 31) false <|
  .rd 4 none (.ld1 (.tmp 31)) (some 32) false <|
  .ef 5 none (.call F.osierref04_Get [(.tmp 28), (.tmp 32)]) (some 33) [] (
  .rd 6 none (.mv (.tmp 33)) (some 11) false <|
  .done) .none
noncomputable def F.osierref04_Join.r7 : Plan :=
  .rd 0 none (.mv (.tmp 10)) (some 34) false <|
  .rd 1 none (.mv (.tmp 34)) (some 12) false <|
  .done
noncomputable def F.osierref04_Join.r8 : Plan :=
  .rd 0 none (.mv (.tmp 11)) (some 35) false <|
  .rd 1 none (.mv (.tmp 10)) (some 36) false <|
  .rd 2 none (.bin .gtr (.tmp 35) (.tmp 36)) (some 37) false <|
  .rd 3 none (.mv (.tmp 2)) (some 38) false <|
  .rd 4 none (.eqS [.b] false true (.tmp 37) (.tmp 38)) (some 39) false <|
  .done
noncomputable def F.osierref04_Join.r9 : Plan :=
  .rd 0 none (.mv (.tmp 11)) (some 40) false <|
  .rd 1 none (.mv (.tmp 40)) (some 12) false <|
  .done
noncomputable def F.osierref04_Join.r10 : Plan :=
  .rd 0 none (.mv (.tmp 12)) (some 41) false <|
  .rd 1 none (.bin .gtr (.tmp 41) (.const (.int .i64 0))) (some 42) false <|
  .done
noncomputable def F.osierref04_Join.r11 : Plan :=
  .rd 0 none (.mv (.tmp 7)) (some 43) false <|
  .rd 1 none (.mv (.tmp 8)) (some 44) false <|
  .rd 2 none (.mv (.tmp 9)) (some 45) false <|
  .rd 3 none (.idxA 1 (.tmp 44) (.tmp 45)) (some 46) false <|
  .rd 4 none (.ld1 (.tmp 46)) (some 47) false <|
  .rd 5 none (.mv (.tmp 12)) (some 48) false <|
  .rd 6 none (.build [(.int .i64 0), (.int .i64 0)] [(0, (1, (.tmp 47))), (1, (1, (.tmp 48)))]) (some 49) false <|
  .ef 7 none (.bsl 1 [(.int .i64 0), (.int .i64 0)] [(0, (2, (.tmp 49)))]) (some 50) [] (
  .ef 8 none (.app 2 16 (.tmp 43) (.tmp 50)) (some 51) [] (
  .rd 9 none (.mv (.tmp 51)) (some 7) false <|
  .done) .none) .none
noncomputable def F.osierref04_Join.r12 : Plan :=
  .rd 0 none (.mv (.tmp 9)) (some 20) false <|
  .rd 1 none (.bin .add (.tmp 20) (.const (.int .i64 1))) (some 21) false <|
  .rd 2 none (.mv (.tmp 21)) (some 9) false <|
  .done
noncomputable def F.osierref04_Join.l0 : IC :=
    (.seq (.seq (.reg F.osierref04_Join.r4)
    (.cond (.tmp 19) .skip (.exit 0)))
    (.seq (.block 1 (.seq (.reg F.osierref04_Join.r5)
    (.seq (.reg F.osierref04_Join.r6)
    (.seq (.reg F.osierref04_Join.r7)
    (.seq (.seq (.reg F.osierref04_Join.r8)
    (.cond (.tmp 39) (.reg F.osierref04_Join.r9) .skip))
    (.seq (.reg F.osierref04_Join.r10)
    (.cond (.tmp 42) (.reg F.osierref04_Join.r11) .skip)))))))
    (.reg F.osierref04_Join.r12)))
noncomputable def F.osierref04_Join.r13 : Plan :=
  .rd 0 none (.mv (.tmp 7)) (some 52) false <|
  .rd 1 none (.mv (.tmp 52)) (some 6) false <|
  .done
noncomputable def F.osierref04_Join.ic : IC :=
    (.seq (.reg F.osierref04_Join.r0)
    (.seq (.reg F.osierref04_Join.r1)
    (.seq (.reg F.osierref04_Join.r2)
    (.seq (.seq (.reg F.osierref04_Join.r3)
    (.block 0 (.loop F.osierref04_Join.l0)))
    (.seq (.reg F.osierref04_Join.r13)
    .ret)))))
noncomputable def F.osierref04_Join.rs : List RO := [(.mv (.tmp 6))]
theorem F.osierref04_Join.ok : cFunc Go.Proofs.Tryz.prog F.osierref04_Join = some (53, F.osierref04_Join.ic, F.osierref04_Join.rs) := by kernel_rfl
theorem F.osierref04_Join.cl : callable Go.Proofs.Tryz.prog F.osierref04_Join = true := by kernel_rfl
noncomputable def F.slices_ContainsFunc_api_Vector_api_Dot.r0 : Plan :=
  .rd 0 none (.mv (.const (.bool false))) (some 4) false <|
  .done
noncomputable def F.slices_ContainsFunc_api_Vector_api_Dot.r1 : Plan :=
  .rd 0 none (.mv (.tmp 0)) (some 5) false <|
  .rd 1 none (.mv (.tmp 1)) (some 6) false <|
  .ef 2 none (.call F.slices_IndexFunc_api_Vector_api_Dot [(.tmp 5), (.tmp 6)]) (some 7) [] (
  .rd 3 none (.bin .geq (.tmp 7) (.const (.int .i64 0))) (some 8) false <|
  .rd 4 none (.mv (.tmp 8)) (some 4) false <|
  .done) .none
noncomputable def F.slices_ContainsFunc_api_Vector_api_Dot.ic : IC :=
    (.seq (.reg F.slices_ContainsFunc_api_Vector_api_Dot.r0)
    (.seq (.reg F.slices_ContainsFunc_api_Vector_api_Dot.r1)
    .ret))
noncomputable def F.slices_ContainsFunc_api_Vector_api_Dot.rs : List RO := [(.mv (.tmp 4))]
theorem F.slices_ContainsFunc_api_Vector_api_Dot.ok : cFunc Go.Proofs.Tryz.prog F.slices_ContainsFunc_api_Vector_api_Dot = some (9, F.slices_ContainsFunc_api_Vector_api_Dot.ic, F.slices_ContainsFunc_api_Vector_api_Dot.rs) := by kernel_rfl
theorem F.slices_ContainsFunc_api_Vector_api_Dot.cl : callable Go.Proofs.Tryz.prog F.slices_ContainsFunc_api_Vector_api_Dot = true := by kernel_rfl
noncomputable def F.vector_Below_c1.r0 : Plan :=
  .ef 0 none (.box (.tmp 0)) (some 2) [] (
  .rd 1 none (.mv (.const (.bool false))) (some 3) false <|
  .done) .none
noncomputable def F.vector_Below_c1.r1 : Plan :=
  .rd 0 none (.ld1 (.tmp 1)) (some 4) false <|
  .rd 1 none (.fldA 0 (.tmp 2)) (some 5) false <|
  .rd 2 none (.ld1 (.tmp 5)) (some 6) false <|
  .rd 4 none (.fldA 1 (.tmp 2)) (some 8) false <|
  .rd 5 none (.ld1 (.tmp 8)) (some 9) true <|
  .ef 3 none (.call F.vector_Get [(.tmp 4), (.tmp 6)]) (some 7) [4, 5] (
  .rd 6 none (.bin .lss (.tmp 7) (.tmp 9)) (some 10) false <|
  .rd 7 none (.mv (.tmp 10)) (some 3) false <|
  .done) .none
noncomputable def F.vector_Below_c1.ic : IC :=
    (.seq (.reg F.vector_Below_c1.r0)
    (.seq (.reg F.vector_Below_c1.r1)
    .ret))
noncomputable def F.vector_Below_c1.rs : List RO := [(.mv (.tmp 3))]
theorem F.vector_Below_c1.ok : cFunc Go.Proofs.Tryz.prog F.vector_Below_c1 = some (11, F.vector_Below_c1.ic, F.vector_Below_c1.rs) := by kernel_rfl
theorem F.vector_Below_c1.cl : callable Go.Proofs.Tryz.prog F.vector_Below_c1 = true := by kernel_rfl
noncomputable def F.osierref04_May.r0 : Plan :=
  .rd 0 none (.mv (.const (.bool false))) (some 2) false <|
  .done
noncomputable def F.osierref04_May.r1 : Plan :=
  .rd 0 none (.mv (.const (.int .i64 0))) (some 3) false <|
  .done
noncomputable def F.osierref04_May.r2 : Plan :=
  .rd 0 none (.mv (.tmp 3)) (some 5) false <|
  .rd 1 none (.mv (.tmp 0)) (some 6) false <|
  .rd 2 none (.len .sl (.tmp 6)) (some 7) false <|
  .rd 3 none (.bin .lss (.tmp 5) (.tmp 7)) (some 8) false <|
  .done
noncomputable def F.osierref04_May.r3 : Plan :=
  .rd 0 none (.mv (.tmp 0)) (some 11) false <|
  .rd 1 none (.mv (.tmp 3)) (some 12) false <|
  .rd 2 none (.idxA 2 (.tmp 11) (.tmp 12)) (some 13) false <|
  .rd 3 none (.ldn 2 (.tmp 13)) (some 14) false <|
  .ef 4 none (.call F.osierref03_May [(.tmp 14)]) (some 15) [] (
  .rd 5 none (.mv (.tmp 15)) (some 4) false <|
  .done) .none
noncomputable def F.osierref04_May.r4 : Plan :=
  .rd 0 none (.mv (.tmp 4)) (some 16) false <|
  .rd 1 none (.un .not (.tmp 16)) (some 17) false <|
  .rd 2 none (.mv (.tmp 17)) (some 18) false <|
  .rd 3 (some (18, false)) (.mv (.tmp 3)) (some 19) false <|
  .rd 4 (some (18, false)) (.bin .gtr (.tmp 19) (.const (.int .i64 0))) (some 20) false <|
  .rd 5 (some (18, false)) (.mv (.tmp 20)) (some 21) false <|
  .rd 6 (some (21, true)) (.mv (.tmp 0)) (some 22) false <|
  .rd 7 (some (21, true)) (.mv (.tmp 3)) (some 23) false <|
  .rd 8 (some (21, true)) (.bin .sub (.tmp 23) (.const (.int .i64 1))) (some 24) false <|
  .rd 9 (some (21, true)) (.idxA 2 (.tmp 22) (.tmp 24)) (some 25) false <|
  .rd 10 (some (21, true)) (.fldA 0 (.tmp 25)) (some 26) false <|
  .rd 11 (some (21, true)) (.ld1 (.tmp 26)) (some 27) false <|
  .rd 12 (some (21, true)) (.mv (.tmp 0)) (some 28) false <|
  .rd 13 (some (21, true)) (.mv (.tmp 3)) (some 29) false <|
  .rd 14 (some (21, true)) (.idxA 2 (.tmp 28) (.tmp 29)) (some 30) false <|
  .rd 15 (some (21, true)) (.fldA 0 (.tmp 30)) (some 31) false <|
  .rd 16 (some (21, true)) (.ld1 (.tmp 31)) (some 32) false <|
  .rd 17 (some (21, true)) (.bin .geq (.tmp 27) (.tmp 32)) (some 33) false <|
  .rd 18 (some (18, false)) (.pick (.tmp 21) (.tmp 33) (.const (.bool false))) (some 34) false <|
  .rd 19 none (.pick (.tmp 18) (.const (.bool true)) (.tmp 34)) (some 35) false <|
  .done
noncomputable def F.osierref04_May.r5 : Plan :=
  .rd 0 none (.mv (.const (.bool false))) (some 2) false <|
  .done
noncomputable def F.osierref04_May.r6 : Plan :=
  .rd 0 none (.mv (.tmp 3)) (some 9) false <|
  .rd 1 none (.bin .add (.tmp 9) (.const (.int .i64 1))) (some 10) false <|
  .rd 2 none (.mv (.tmp 10)) (some 3) false <|
  .done
noncomputable def F.osierref04_May.l0 : IC :=
    (.seq (.seq (.reg F.osierref04_May.r2)
    (.cond (.tmp 8) .skip (.exit 0)))
    (.seq (.block 1 (.seq (.reg F.osierref04_May.r3)
    (.seq (.reg F.osierref04_May.r4)
    (.cond (.tmp 35) (.seq (.reg F.osierref04_May.r5)
    .ret) .skip))))
    (.reg F.osierref04_May.r6)))
noncomputable def F.osierref04_May.r7 : Plan :=
  .rd 0 none (.mv (.const (.bool true))) (some 2) false <|
  .done
noncomputable def F.osierref04_May.ic : IC :=
    (.seq (.reg F.osierref04_May.r0)
    (.seq (.seq (.reg F.osierref04_May.r1)
    (.block 0 (.loop F.osierref04_May.l0)))
    (.seq (.reg F.osierref04_May.r7)
    .ret)))
noncomputable def F.osierref04_May.rs : List RO := [(.mv (.tmp 2))]
theorem F.osierref04_May.ok : cFunc Go.Proofs.Tryz.prog F.osierref04_May = some (36, F.osierref04_May.ic, F.osierref04_May.rs) := by kernel_rfl
theorem F.osierref04_May.cl : callable Go.Proofs.Tryz.prog F.osierref04_May = true := by kernel_rfl
noncomputable def F.osierref04_Get.r0 : Plan :=
  .rd 0 none (.mv (.const (.int .i64 0))) (some 4) false <|
  .done
noncomputable def F.osierref04_Get.r1 : Plan :=
  .rd 0 none (.mv (.const (.int .i64 0))) (some 5) false <|
  .done
noncomputable def F.osierref04_Get.r2 : Plan :=
  .rd 0 none (.mv (.tmp 5)) (some 6) false <|
  .rd 1 none (.mv (.tmp 0)) (some 7) false <|
  .rd 2 none (.len .sl (.tmp 7)) (some 8) false <|
  .rd 3 none (.bin .lss (.tmp 6) (.tmp 8)) (some 9) false <|
  .done
noncomputable def F.osierref04_Get.r3 : Plan :=
  .rd 0 none (.mv (.tmp 0)) (some 12) false <|
  .rd 1 none (.mv (.tmp 5)) (some 13) false <|
  .rd 2 none (.idxA 2 (.tmp 12) (.tmp 13)) (some 14) false <|
  .rd 3 none (.fldA 0 (.tmp 14)) (some 15) false <|
  .rd 4 none (.ld1 (.tmp 15)) (some 16) false <|
  .rd 5 none (.mv (.tmp 1)) (some 17) false <|
  .rd 6 none (.bin .eql (.tmp 16) (.tmp 17)) (some 18) false <|
  .done
noncomputable def F.osierref04_Get.r4 : Plan :=
  .rd 0 none (.mv (.tmp 0)) (some 19) false <|
  .rd 1 none (.mv (.tmp 5)) (some 20) false <|
  .rd 2 none (.idxA 2 (.tmp 19) (.tmp 20)) (some 21) false <|
  .rd 3 none (.fldA 1 (.tmp 21)) (some 22) false <|
  .rd 4 none (.ld1 (.tmp 22)) (some 23) false <|
  .rd 5 none (.mv (.tmp 23)) (some 4) false <|
  .done
noncomputable def F.osierref04_Get.r5 : Plan :=
  .rd 0 none (.mv (.tmp 5)) (some 10) false <|
  .rd 1 none (.bin .add (.tmp 10) (.const (.int .i64 1))) (some 11) false <|
  .rd 2 none (.mv (.tmp 11)) (some 5) false <|
  .done
noncomputable def F.osierref04_Get.l0 : IC :=
    (.seq (.seq (.reg F.osierref04_Get.r2)
    (.cond (.tmp 9) .skip (.exit 0)))
    (.seq (.block 1 (.seq (.reg F.osierref04_Get.r3)
    (.cond (.tmp 18) (.seq (.reg F.osierref04_Get.r4)
    .ret) .skip)))
    (.reg F.osierref04_Get.r5)))
noncomputable def F.osierref04_Get.r6 : Plan :=
  .rd 0 none (.mv (.const (.int .i64 0))) (some 4) false <|
  .done
noncomputable def F.osierref04_Get.ic : IC :=
    (.seq (.reg F.osierref04_Get.r0)
    (.seq (.seq (.reg F.osierref04_Get.r1)
    (.block 0 (.loop F.osierref04_Get.l0)))
    (.seq (.reg F.osierref04_Get.r6)
    .ret)))
noncomputable def F.osierref04_Get.rs : List RO := [(.mv (.tmp 4))]
theorem F.osierref04_Get.ok : cFunc Go.Proofs.Tryz.prog F.osierref04_Get = some (24, F.osierref04_Get.ic, F.osierref04_Get.rs) := by kernel_rfl
theorem F.osierref04_Get.cl : callable Go.Proofs.Tryz.prog F.osierref04_Get = true := by kernel_rfl
noncomputable def F.osierref06_May.r0 : Plan :=
  .rd 0 none (.mv (.const (.bool false))) (some 2) false <|
  .done
noncomputable def F.osierref06_May.r1 : Plan :=
  .rd 0 none (.mv (.tmp 0)) (some 4) false <|
  .rd 1 none (.len .str (.tmp 4)) (some 5) false <|
  .rd 2 none (.bin .eql (.tmp 5) (.const (.int .i64 0))) (some 6) false <|
  .rd 3 none (.mv (.tmp 6)) (some 7) false <|
  .rd 4 (some (7, false)) (.mv (.tmp 0)) (some 8) false <|
  .rd 5 (some (7, false)) (.len .str (.tmp 8)) (some 9) false <|
  .rd 6 (some (7, false)) (.bin .gtr (.tmp 9) (.const (.int .i64 200))) (some 10) false <|
  .rd 7 none (.pick (.tmp 7) (.const (.bool true)) (.tmp 10)) (some 11) false <|
  .rd 8 none (.mv (.tmp 11)) (some 12) false <|
  .rd 9 (some (12, false)) (.mv (.tmp 0)) (some 13) false <|
  .rd 10 (some (12, false)) (.mv (.tmp 0)) (some 14) false <|
  .rd 11 (some (12, false)) (.len .str (.tmp 14)) (some 15) false <|
  .rd 12 (some (12, false)) (.bin .sub (.tmp 15) (.const (.int .i64 1))) (some 16) false <|
  .rd 13 (some (12, false)) (.idxS (.tmp 13) (.tmp 16)) (some 17) false <|
  .rd 14 (some (12, false)) (.bin .eql (.tmp 17) (.const (.int .u8 97))) (some 18) false <|
  .rd 15 none (.pick (.tmp 12) (.const (.bool true)) (.tmp 18)) (some 19) false <|
  .done
noncomputable def F.osierref06_May.r2 : Plan :=
  .rd 0 none (.mv (.const (.bool false))) (some 2) false <|
  .done
noncomputable def F.osierref06_May.r3 : Plan :=
  .rd 0 none (.mv (.const (.int .i64 0))) (some 3) false <|
  .done
noncomputable def F.osierref06_May.r4 : Plan :=
  .rd 0 none (.mv (.tmp 3)) (some 20) false <|
  .rd 1 none (.mv (.tmp 0)) (some 21) false <|
  .rd 2 none (.len .str (.tmp 21)) (some 22) false <|
  .rd 3 none (.bin .lss (.tmp 20) (.tmp 22)) (some 23) false <|
  .done
noncomputable def F.osierref06_May.r5 : Plan :=
  .rd 0 none (.mv (.tmp 0)) (some 26) false <|
  .rd 1 none (.mv (.tmp 3)) (some 27) false <|
  .rd 2 none (.idxS (.tmp 26) (.tmp 27)) (some 28) false <|
  .rd 3 none (.bin .lss (.tmp 28) (.const (.int .u8 97))) (some 29) false <|
  .rd 4 none (.mv (.tmp 29)) (some 30) false <|
  .rd 5 (some (30, false)) (.mv (.tmp 0)) (some 31) false <|
  .rd 6 (some (30, false)) (.mv (.tmp 3)) (some 32) false <|
  .rd 7 (some (30, false)) (.idxS (.tmp 31) (.tmp 32)) (some 33) false <|
  .rd 8 (some (30, false)) (.bin .gtr (.tmp 33) (.const (.int .u8 122))) (some 34) false <|
  .rd 9 none (.pick (.tmp 30) (.const (.bool true)) (.tmp 34)) (some 35) false <|
  .done
noncomputable def F.osierref06_May.r6 : Plan :=
  .rd 0 none (.mv (.const (.bool false))) (some 2) false <|
  .done
noncomputable def F.osierref06_May.r7 : Plan :=
  .rd 0 none (.mv (.tmp 3)) (some 24) false <|
  .rd 1 none (.bin .add (.tmp 24) (.const (.int .i64 1))) (some 25) false <|
  .rd 2 none (.mv (.tmp 25)) (some 3) false <|
  .done
noncomputable def F.osierref06_May.l0 : IC :=
    (.seq (.seq (.reg F.osierref06_May.r4)
    (.cond (.tmp 23) .skip (.exit 0)))
    (.seq (.block 1 (.seq (.reg F.osierref06_May.r5)
    (.cond (.tmp 35) (.seq (.reg F.osierref06_May.r6)
    .ret) .skip)))
    (.reg F.osierref06_May.r7)))
noncomputable def F.osierref06_May.r8 : Plan :=
  .rd 0 none (.mv (.const (.bool true))) (some 2) false <|
  .done
noncomputable def F.osierref06_May.ic : IC :=
    (.seq (.reg F.osierref06_May.r0)
    (.seq (.seq (.reg F.osierref06_May.r1)
    (.cond (.tmp 19) (.seq (.reg F.osierref06_May.r2)
    .ret) .skip))
    (.seq (.seq (.reg F.osierref06_May.r3)
    (.block 0 (.loop F.osierref06_May.l0)))
    (.seq (.reg F.osierref06_May.r8)
    .ret))))
noncomputable def F.osierref06_May.rs : List RO := [(.mv (.tmp 2))]
theorem F.osierref06_May.ok : cFunc Go.Proofs.Tryz.prog F.osierref06_May = some (36, F.osierref06_May.ic, F.osierref06_May.rs) := by kernel_rfl
theorem F.osierref06_May.cl : callable Go.Proofs.Tryz.prog F.osierref06_May = true := by kernel_rfl
noncomputable def F.vector_Join.r0 : Plan :=
  .rd 0 none (.mv (.const (.slice none 0 0))) (some 4) false <|
  .done
noncomputable def F.vector_Join.r1 : Plan :=
  .rd 0 none (.mv (.tmp 0)) (some 5) false <|
  .rd 1 none (.mv (.tmp 1)) (some 6) false <|
  .ef 2 none (.call F.vector_each [(.tmp 5), (.tmp 6), (.func F.vector_Join_c1)]) (some 7) [] (
  .rd 3 none (.mv (.tmp 7)) (some 4) false <|
  .done) .none
noncomputable def F.vector_Join.ic : IC :=
    (.seq (.reg F.vector_Join.r0)
    (.seq (.reg F.vector_Join.r1)
    .ret))
noncomputable def F.vector_Join.rs : List RO := [(.mv (.tmp 4))]
theorem F.vector_Join.ok : cFunc Go.Proofs.Tryz.prog F.vector_Join = some (8, F.vector_Join.ic, F.vector_Join.rs) := by kernel_rfl
theorem F.vector_Join.cl : callable Go.Proofs.Tryz.prog F.vector_Join = true := by kernel_rfl
noncomputable def F.osierref08_Known.r0 : Plan :=
  .ef 0 none (.box (.tmp 1)) (some 3) [] (
  .rd 1 none (.mv (.const (.bool false))) (some 4) false <|
  .done) .none
noncomputable def F.osierref08_Known.r1 : Plan :=
  .rd 0 none (.mv (.const (.int .i64 0))) (some 5) false <|
  .done
noncomputable def F.osierref08_Known.r2 : Plan :=
  .rd 0 none (.mv (.tmp 5)) (some 6) false <|
  .rd 1 none (.mv (.tmp 0)) (some 7) false <|
  .rd 2 none (.len .sl (.tmp 7)) (some 8) false <|
  .rd 3 none (.bin .lss (.tmp 6) (.tmp 8)) (some 9) false <|
  .done
noncomputable def F.osierref08_Known.r3 : Plan :=
  .rd 0 none (.mv (.tmp 0)) (some 12) false <|
  .rd 1 none (.mv (.tmp 5)) (some 13) false <|
  .rd 2 none (.idxA 14 (.tmp 12) (.tmp 13)) (some 14) false <|
  .rd 3 none (.fldA 0 (.tmp 14)) (some 15) false <|
  .rd 4 none (.ldn 2 (.tmp 15)) (some 16) false <|
  .rd 5 none (.ldn 2 (.tmp 3)) (some 17) false <|
  .rd 6 none (.eqS [(.i .i64), (.i .i64)] true false (.tmp 16) (.tmp 17)) (some 18) false <|
  .done
noncomputable def F.osierref08_Known.r4 : Plan :=
  .rd 0 none (.mv (.const (.bool true))) (some 4) false <|
  .done
noncomputable def F.osierref08_Known.r5 : Plan :=
  .rd 0 none (.mv (.tmp 5)) (some 10) false <|
  .rd 1 none (.bin .add (.tmp 10) (.const (.int .i64 1))) (some 11) false <|
  .rd 2 none (.mv (.tmp 11)) (some 5) false <|
  .done
noncomputable def F.osierref08_Known.l0 : IC :=
    (.seq (.seq (.reg F.osierref08_Known.r2)
    (.cond (.tmp 9) .skip (.exit 0)))
    (.seq (.block 1 (.seq (.reg F.osierref08_Known.r3)
    (.cond (.tmp 18) (.seq (.reg F.osierref08_Known.r4)
    .ret) .skip)))
    (.reg F.osierref08_Known.r5)))
noncomputable def F.osierref08_Known.r6 : Plan :=
  .rd 0 none (.mv (.const (.bool false))) (some 4) false <|
  .done
noncomputable def F.osierref08_Known.ic : IC :=
    (.seq (.reg F.osierref08_Known.r0)
    (.seq (.seq (.reg F.osierref08_Known.r1)
    (.block 0 (.loop F.osierref08_Known.l0)))
    (.seq (.reg F.osierref08_Known.r6)
    .ret)))
noncomputable def F.osierref08_Known.rs : List RO := [(.mv (.tmp 4))]
theorem F.osierref08_Known.ok : cFunc Go.Proofs.Tryz.prog F.osierref08_Known = some (19, F.osierref08_Known.ic, F.osierref08_Known.rs) := by kernel_rfl
theorem F.osierref08_Known.cl : callable Go.Proofs.Tryz.prog F.osierref08_Known = true := by kernel_rfl
noncomputable def F.osierref08_Put.r0 : Plan :=
  .ef 0 none (.box (.tmp 1)) (some 3) [] (
  .rd 1 none (.mv (.const (.slice none 0 0))) (some 4) false <|
  .done) .none
noncomputable def F.osierref08_Put.r1 : Plan :=
  .rd 0 none (.mv (.const (.int .i64 0))) (some 5) false <|
  .done
noncomputable def F.osierref08_Put.r2 : Plan :=
  .rd 0 none (.mv (.tmp 5)) (some 7) false <|
  .rd 1 none (.mv (.tmp 0)) (some 8) false <|
  .rd 2 none (.len .sl (.tmp 8)) (some 9) false <|
  .rd 3 none (.bin .lss (.tmp 7) (.tmp 9)) (some 10) false <|
  .rd 4 none (.mv (.tmp 10)) (some 11) false <|
  .rd 5 (some (11, true)) (.mv (.tmp 0)) (some 12) false <|
  .rd 6 (some (11, true)) (.mv (.tmp 5)) (some 13) false <|
  .rd 7 (some (11, true)) (.idxA 14 (.tmp 12) (.tmp 13)) (some 14) false <|
  .rd 8 (some (11, true)) (.ldn 14 (.tmp 14)) (some 15) false <|
  .rd 9 (some (11, true)) (.ldn 14 (.tmp 3)) (some 16) false <|
  .ef 10 (some (11, true)) (.call F.osierref07_Less [(.tmp 15), (.tmp 16)]) (some 17) [] (
  .rd 11 none (.pick (.tmp 11) (.tmp 17) (.const (.bool false))) (some 18) false <|
  .done) .none
noncomputable def F.osierref08_Put.r3 : Plan :=
  .rd 0 none (.mv (.tmp 5)) (some 19) false <|
  .rd 1 none (.bin .add (.tmp 19) (.const (.int .i64 1))) (some 20) false <|
  .rd 2 none (.mv (.tmp 20)) (some 5) false <|
  .done
noncomputable def F.osierref08_Put.l0 : IC :=
    (.seq (.seq (.reg F.osierref08_Put.r2)
    (.cond (.tmp 18) .skip (.exit 0)))
    (.block 1 (.reg F.osierref08_Put.r3)))
noncomputable def F.osierref08_Put.r4 : Plan :=
  .rd 0 none (.mv (.const (.slice none 0 0))) (some 6) false <|
  .done
noncomputable def F.osierref08_Put.r5 : Plan :=
  .rd 0 none (.mv (.tmp 6)) (some 21) false <|
  .rd 1 none (.mv (.tmp 0)) (some 22) false <|
  .rd 2 none (.mv (.tmp 5)) (some 23) false <|
  .rd 3 none (.sl 14 (.tmp 22) none (some (.tmp 23)) none) (some 24) false <|
  .ef 4 none (.app 14 136 (.tmp 21) (.tmp 24)) (some 25) [] (
  .rd 5 none (.mv (.tmp 25)) (some 6) false <|
  .done) .none
noncomputable def F.osierref08_Put.r6 : Plan :=
  .rd 0 none (.mv (.tmp 6)) (some 26) false <|
  .rd 1 none (.ldn 14 (.tmp 3)) (some 27) false <|
  .ef 2 none (.bsl 1 [(.int .i64 0), (.int .i64 0), (.int .i64 0), (.slice none 0 0), (.int .i64 0), (.int .i64 0), (.int .i64 0), (.int .i64 0), (.int .i64 0), (.int .i64 0), (.int .i64 0), (.int .i64 0), (.int .i64 0), (.string ⟨#[]⟩)] [(0, (14, (.tmp 27)))]) (some 28) [] (
  .ef 3 none (.app 14 136 (.tmp 26) (.tmp 28)) (some 29) [] (
  .rd 4 none (.mv (.tmp 29)) (some 6) false <|
  .done) .none) .none
noncomputable def F.osierref08_Put.r7 : Plan :=
  .rd 0 none (.mv (.tmp 6)) (some 30) false <|
  .rd 1 none (.mv (.tmp 0)) (some 31) false <|
  .rd 2 none (.mv (.tmp 5)) (some 32) false <|
  .rd 3 none (.sl 14 (.tmp 31) (some (.tmp 32)) none none) (some 33) false <|
  .ef 4 none (.app 14 136 (.tmp 30) (.tmp 33)) (some 34) [] (
  .rd 5 none (.mv (.tmp 34)) (some 4) false <|
  .done) .none
noncomputable def F.osierref08_Put.ic : IC :=
    (.seq (.reg F.osierref08_Put.r0)
    (.seq (.reg F.osierref08_Put.r1)
    (.seq (.block 0 (.loop F.osierref08_Put.l0))
    (.seq (.reg F.osierref08_Put.r4)
    (.seq (.reg F.osierref08_Put.r5)
    (.seq (.reg F.osierref08_Put.r6)
    (.seq (.reg F.osierref08_Put.r7)
    .ret)))))))
noncomputable def F.osierref08_Put.rs : List RO := [(.mv (.tmp 4))]
theorem F.osierref08_Put.ok : cFunc Go.Proofs.Tryz.prog F.osierref08_Put = some (35, F.osierref08_Put.ic, F.osierref08_Put.rs) := by kernel_rfl
theorem F.osierref08_Put.cl : callable Go.Proofs.Tryz.prog F.osierref08_Put = true := by kernel_rfl
noncomputable def F.osierref04_Same.r0 : Plan :=
  .rd 0 none (.mv (.const (.bool false))) (some 4) false <|
  .done
noncomputable def F.osierref04_Same.r1 : Plan :=
  .rd 0 none (.mv (.tmp 0)) (some 6) false <|
  .rd 1 none (.len .sl (.tmp 6)) (some 7) false <|
  .rd 2 none (.mv (.tmp 1)) (some 8) false <|
  .rd 3 none (.len .sl (.tmp 8)) (some 9) false <|
  .rd 4 none (.bin .neq (.tmp 7) (.tmp 9)) (some 10) false <|
  .done
noncomputable def F.osierref04_Same.r2 : Plan :=
  .rd 0 none (.mv (.const (.bool false))) (some 4) false <|
  .done
noncomputable def F.osierref04_Same.r3 : Plan :=
  .rd 0 none (.mv (.const (.int .i64 0))) (some 5) false <|
  .done
noncomputable def F.osierref04_Same.r4 : Plan :=
  .rd 0 none (.mv (.tmp 5)) (some 11) false <|
  .rd 1 none (.mv (.tmp 0)) (some 12) false <|
  .rd 2 none (.len .sl (.tmp 12)) (some 13) false <|
  .rd 3 none (.bin .lss (.tmp 11) (.tmp 13)) (some 14) false <|
  .done
noncomputable def F.osierref04_Same.r5 : Plan :=
  .rd 0 none (.mv (.tmp 0)) (some 17) false <|
  .rd 1 none (.mv (.tmp 5)) (some 18) false <|
  .rd 2 none (.idxA 2 (.tmp 17) (.tmp 18)) (some 19) false <|
  .rd 3 none (.ldn 2 (.tmp 19)) (some 20) false <|
  .rd 4 none (.mv (.tmp 1)) (some 21) false <|
  .rd 5 none (.mv (.tmp 5)) (some 22) false <|
  .rd 6 none (.idxA 2 (.tmp 21) (.tmp 22)) (some 23) false <|
  .rd 7 none (.ldn 2 (.tmp 23)) (some 24) false <|
  .rd 8 none (.eqS [(.i .i64), (.i .i64)] true true (.tmp 20) (.tmp 24)) (some 25) false <|
  .done
noncomputable def F.osierref04_Same.r6 : Plan :=
  .rd 0 none (.mv (.const (.bool false))) (some 4) false <|
  .done
noncomputable def F.osierref04_Same.r7 : Plan :=
  .rd 0 none (.mv (.tmp 5)) (some 15) false <|
  .rd 1 none (.bin .add (.tmp 15) (.const (.int .i64 1))) (some 16) false <|
  .rd 2 none (.mv (.tmp 16)) (some 5) false <|
  .done
noncomputable def F.osierref04_Same.l0 : IC :=
    (.seq (.seq (.reg F.osierref04_Same.r4)
    (.cond (.tmp 14) .skip (.exit 0)))
    (.seq (.block 1 (.seq (.reg F.osierref04_Same.r5)
    (.cond (.tmp 25) (.seq (.reg F.osierref04_Same.r6)
    .ret) .skip)))
    (.reg F.osierref04_Same.r7)))
noncomputable def F.osierref04_Same.r8 : Plan :=
  .rd 0 none (.mv (.const (.bool true))) (some 4) false <|
  .done
noncomputable def F.osierref04_Same.ic : IC :=
    (.seq (.reg F.osierref04_Same.r0)
    (.seq (.seq (.reg F.osierref04_Same.r1)
    (.cond (.tmp 10) (.seq (.reg F.osierref04_Same.r2)
    .ret) .skip))
    (.seq (.seq (.reg F.osierref04_Same.r3)
    (.block 0 (.loop F.osierref04_Same.l0)))
    (.seq (.reg F.osierref04_Same.r8)
    .ret))))
noncomputable def F.osierref04_Same.rs : List RO := [(.mv (.tmp 4))]
theorem F.osierref04_Same.ok : cFunc Go.Proofs.Tryz.prog F.osierref04_Same = some (26, F.osierref04_Same.ic, F.osierref04_Same.rs) := by kernel_rfl
theorem F.osierref04_Same.cl : callable Go.Proofs.Tryz.prog F.osierref04_Same = true := by kernel_rfl
noncomputable def F.slices_IndexFunc_s_api_Op_api_Op.r0 : Plan :=
  .rd 0 none (.mv (.const (.int .i64 0))) (some 4) false <|
  .done
noncomputable def F.slices_IndexFunc_s_api_Op_api_Op.r1 : Plan :=
  .rd 0 none (.mv (.tmp 0)) (some 6) false <|
  .rd 1 none (.len .sl (.tmp 6)) (some 7) false <|
  .rd 2 none (.mv (.const (.int .i64 0))) (some 8) false <|
  .done
noncomputable def F.slices_IndexFunc_s_api_Op_api_Op.r2 : Plan :=
  .rd 0 none (.bin .lss (.tmp 8) (.tmp 7)) (some 9) false <|
  .done
noncomputable def F.slices_IndexFunc_s_api_Op_api_Op.r3 : Plan :=
  .rd 0 none (.mv (.tmp 8)) (some 10) false <|
  .rd 1 none (.mv (.tmp 10)) (some 5) false <|
  .done
noncomputable def F.slices_IndexFunc_s_api_Op_api_Op.r4 : Plan :=
  .rd 0 none (.mv (.tmp 1)) (some 11) false <|
  .rd 1 none (.mv (.tmp 0)) (some 12) false <|
  .rd 2 none (.mv (.tmp 5)) (some 13) false <|
  .rd 3 none (.idxA 14 (.tmp 12) (.tmp 13)) (some 14) false <|
  .rd 4 none (.ldn 14 (.tmp 14)) (some 15) false <|
  .ef 5 none (.callv (.tmp 11) [(.tmp 15)]) (some 16) [] (
  .done) .none
noncomputable def F.slices_IndexFunc_s_api_Op_api_Op.r5 : Plan :=
  .rd 0 none (.mv (.tmp 5)) (some 17) false <|
  .rd 1 none (.mv (.tmp 17)) (some 4) false <|
  .done
noncomputable def F.slices_IndexFunc_s_api_Op_api_Op.r6 : Plan :=
  .rd 0 none (.bin .add (.tmp 8) (.const (.int .i64 1))) (some 18) false <|
  .rd 1 none (.mv (.tmp 18)) (some 8) false <|
  .done
noncomputable def F.slices_IndexFunc_s_api_Op_api_Op.l0 : IC :=
    (.seq (.reg F.slices_IndexFunc_s_api_Op_api_Op.r2)
    (.seq (.cond (.tmp 9) .skip (.exit 0))
    (.seq (.block 1 (.seq (.reg F.slices_IndexFunc_s_api_Op_api_Op.r3)
    (.seq (.reg F.slices_IndexFunc_s_api_Op_api_Op.r4)
    (.cond (.tmp 16) (.seq (.reg F.slices_IndexFunc_s_api_Op_api_Op.r5)
    .ret) .skip))))
    (.reg F.slices_IndexFunc_s_api_Op_api_Op.r6))))
noncomputable def F.slices_IndexFunc_s_api_Op_api_Op.r7 : Plan :=
  .rd 0 none (.mv (.const (.int .i64 (-1)))) (some 4) false <|
  .done
noncomputable def F.slices_IndexFunc_s_api_Op_api_Op.ic : IC :=
    (.seq (.reg F.slices_IndexFunc_s_api_Op_api_Op.r0)
    (.seq (.seq (.reg F.slices_IndexFunc_s_api_Op_api_Op.r1)
    (.block 0 (.loop F.slices_IndexFunc_s_api_Op_api_Op.l0)))
    (.seq (.reg F.slices_IndexFunc_s_api_Op_api_Op.r7)
    .ret)))
noncomputable def F.slices_IndexFunc_s_api_Op_api_Op.rs : List RO := [(.mv (.tmp 4))]
theorem F.slices_IndexFunc_s_api_Op_api_Op.ok : cFunc Go.Proofs.Tryz.prog F.slices_IndexFunc_s_api_Op_api_Op = some (19, F.slices_IndexFunc_s_api_Op_api_Op.ic, F.slices_IndexFunc_s_api_Op_api_Op.rs) := by kernel_rfl
theorem F.slices_IndexFunc_s_api_Op_api_Op.cl : callable Go.Proofs.Tryz.prog F.slices_IndexFunc_s_api_Op_api_Op = true := by kernel_rfl
noncomputable def F.dots_row.r0 : Plan :=
  .rd 0 none (.mv (.const (.slice none 0 0))) (some 2) false <|
  .done
noncomputable def F.dots_row.r1 : Plan :=
  .ef 0 none (.bsl 0 [] []) (some 5) [] (
  .rd 1 none (.mv (.tmp 5)) (some 3) false <|
  .done) .none
noncomputable def F.dots_row.r2 : Plan :=
  .rd 0 none (.mv (.tmp 0)) (some 6) false <|
  .ef 1 none (.rng false (.tmp 6)) (some 7) [] (
  .done) .none
noncomputable def F.dots_row.r3 : Plan :=
  .ef 0 none (.nxt false (.tmp 7)) (some 8) [] (
  .rd 1 none (.ext 0 (.tmp 8)) (some 9) false <|
  .done) .none
noncomputable def F.dots_row.r4 : Plan :=
  .ef 0 none (.ent (.tmp 7)) (some 10) [] (
  .rd 1 none (.ext 0 (.tmp 10)) (some 11) false <|
  .ef 2 none (.alloc [(.int .i64 0), (.int .i64 0)]) (some 4) [] (
  .ef 3 none (.st 2 (.tmp 4) (.tmp 11)) none [] (
  .done) .none) .none) .none
noncomputable def F.dots_row.r5 : Plan :=
  .rd 0 none (.mv (.tmp 3)) (some 12) false <|
  .rd 1 none (.ldn 2 (.tmp 4)) (some 13) false <|
  .ef 2 none (.bsl 1 [(.int .i64 0), (.int .i64 0)] [(0, (2, (.tmp 13)))]) (some 14) [] (
  .ef 3 none (.app 2 16 (.tmp 12) (.tmp 14)) (some 15) [] (
  .rd 4 none (.mv (.tmp 15)) (some 3) false <|
  .done) .none) .none
noncomputable def F.dots_row.l0 : IC :=
    (.seq (.reg F.dots_row.r3)
    (.seq (.cond (.tmp 9) .skip (.exit 0))
    (.block 1 (.seq (.reg F.dots_row.r4)
    (.reg F.dots_row.r5)))))
noncomputable def F.dots_row.r6 : Plan :=
  .rd 0 none (.mv (.tmp 3)) (some 16) false <|
  .ef 1 none (.call F.slices_SortFunc_s_api_Dot_api_Dot [(.tmp 16), (.func F.dots_compare)]) (some 17) [] (
  .done) .none
noncomputable def F.dots_row.r7 : Plan :=
  .rd 0 none (.mv (.tmp 3)) (some 18) false <|
  .rd 1 none (.mv (.tmp 18)) (some 2) false <|
  .done
noncomputable def F.dots_row.ic : IC :=
    (.seq (.reg F.dots_row.r0)
    (.seq (.reg F.dots_row.r1)
    (.seq (.seq (.reg F.dots_row.r2)
    (.block 0 (.loop F.dots_row.l0)))
    (.seq (.reg F.dots_row.r6)
    (.seq (.reg F.dots_row.r7)
    .ret)))))
noncomputable def F.dots_row.rs : List RO := [(.mv (.tmp 2))]
theorem F.dots_row.ok : cFunc Go.Proofs.Tryz.prog F.dots_row = some (19, F.dots_row.ic, F.dots_row.rs) := by kernel_rfl
theorem F.dots_row.cl : callable Go.Proofs.Tryz.prog F.dots_row = true := by kernel_rfl
noncomputable def F.dots_set.r0 : Plan :=
  .rd 0 none (.mv (.const (.map none))) (some 2) false <|
  .done
noncomputable def F.dots_set.r1 : Plan :=
  .ef 0 none .mkMap (some 6) [] (
  .rd 1 none (.mv (.tmp 6)) (some 3) false <|
  .done) .none
noncomputable def F.dots_set.r2 : Plan :=
  .rd 0 none (.mv (.tmp 0)) (some 7) false <|
  .rd 1 none (.len .sl (.tmp 7)) (some 8) false <|
  .rd 2 none (.mv (.const (.int .i64 0))) (some 9) false <|
  .done
noncomputable def F.dots_set.r3 : Plan :=
  .rd 0 none (.bin .lss (.tmp 9) (.tmp 8)) (some 10) false <|
  .done
noncomputable def F.dots_set.r4 : Plan :=
  .rd 0 none (.idxA 2 (.tmp 7) (.tmp 9)) (some 11) false <|
  .rd 1 none (.ldn 2 (.tmp 11)) (some 12) false <|
  .ef 2 none (.alloc [(.int .i64 0), (.int .i64 0)]) (some 5) [] (
  .ef 3 none (.st 2 (.tmp 5) (.tmp 12)) none [] (
  .done) .none) .none
noncomputable def F.dots_set.r5 : Plan :=
  .rd 0 none (.mv (.tmp 3)) (some 13) false <|
  .rd 1 none (.ldn 2 (.tmp 5)) (some 14) false <|
  .ef 2 none (.mset [(.i .i64), (.i .i64)] true (.tmp 13) (.tmp 14) (.const (.bool true))) none [] (
  .done) .none
noncomputable def F.dots_set.r6 : Plan :=
  .rd 0 none (.bin .add (.tmp 9) (.const (.int .i64 1))) (some 15) false <|
  .rd 1 none (.mv (.tmp 15)) (some 9) false <|
  .done
noncomputable def F.dots_set.l0 : IC :=
    (.seq (.reg F.dots_set.r3)
    (.seq (.cond (.tmp 10) .skip (.exit 0))
    (.seq (.block 1 (.seq (.reg F.dots_set.r4)
    (.reg F.dots_set.r5)))
    (.reg F.dots_set.r6))))
noncomputable def F.dots_set.r7 : Plan :=
  .rd 0 none (.mv (.tmp 3)) (some 16) false <|
  .rd 1 none (.mv (.tmp 16)) (some 2) false <|
  .done
noncomputable def F.dots_set.ic : IC :=
    (.seq (.reg F.dots_set.r0)
    (.seq (.reg F.dots_set.r1)
    (.seq (.seq (.reg F.dots_set.r2)
    (.block 0 (.loop F.dots_set.l0)))
    (.seq (.reg F.dots_set.r7)
    .ret))))
noncomputable def F.dots_set.rs : List RO := [(.mv (.tmp 2))]
theorem F.dots_set.ok : cFunc Go.Proofs.Tryz.prog F.dots_set = some (17, F.dots_set.ic, F.dots_set.rs) := by kernel_rfl
theorem F.dots_set.cl : callable Go.Proofs.Tryz.prog F.dots_set = true := by kernel_rfl
noncomputable def F.osierref04_acts.r0 : Plan :=
  .rd 0 none (.mv (.const (.slice none 0 0))) (some 4) false <|
  .done
noncomputable def F.osierref04_acts.r1 : Plan :=
  .rd 0 none (.mv (.const (.slice none 0 0))) (some 5) false <|
  .done
noncomputable def F.osierref04_acts.r2 : Plan :=
  .rd 0 none (.mv (.const (.int .i64 0))) (some 6) false <|
  .done
noncomputable def F.osierref04_acts.r3 : Plan :=
  .rd 0 none (.mv (.const (.int .i64 0))) (some 7) false <|
  .done
noncomputable def F.osierref04_acts.r4 : Plan :=
  .rd 0 none (.mv (.tmp 6)) (some 8) false <|
  .rd 1 none (.mv (.tmp 0)) (some 9) false <|
  .rd 2 none (.len .sl (.tmp 9)) (some 10) false <|
  .rd 3 none (.bin .lss (.tmp 8) (.tmp 10)) (some 11) false <|
  .rd 4 none (.mv (.tmp 11)) (some 12) false <|
  .rd 5 (some (12, false)) (.mv (.tmp 7)) (some 13) false <|
  .rd 6 (some (12, false)) (.mv (.tmp 1)) (some 14) false <|
  .rd 7 (some (12, false)) (.len .sl (.tmp 14)) (some 15) false <|
  .rd 8 (some (12, false)) (.bin .lss (.tmp 13) (.tmp 15)) (some 16) false <|
  .rd 9 none (.pick (.tmp 12) (.const (.bool true)) (.tmp 16)) (some 17) false <|
  .done
noncomputable def F.osierref04_acts.r5 : Plan :=
  .rd 0 none (.mv (.tmp 7)) (some 18) false <|
  .rd 1 none (.mv (.tmp 1)) (some 19) false <|
  .rd 2 none (.len .sl (.tmp 19)) (some 20) false <|
  .rd 3 none (.bin .eql (.tmp 18) (.tmp 20)) (some 21) false <|
  .rd 4 none (.mv (.tmp 21)) (some 22) false <|
  .rd 5 (some (22, false)) (.mv (.tmp 6)) (some 23) false <|
  .rd 6 (some (22, false)) (.mv (.tmp 0)) (some 24) false <|
  .rd 7 (some (22, false)) (.len .sl (.tmp 24)) (some 25) false <|
  .rd 8 (some (22, false)) (.bin .lss (.tmp 23) (.tmp 25)) (some 26) false <|
  .rd 9 (some (22, false)) (.mv (.tmp 26)) (some 27) false <|
  .rd 10 (some (27, true)) (.mv (.tmp 0)) (some 28) false <|
  .rd 11 (some (27, true)) (.mv (.tmp 6)) (some 29) false <|
  .rd 12 (some (27, true)) (.idxA 2 (.tmp 28) (.tmp 29)) (some 30) false <|
  .rd 13 (some (27, true)) (.fldA 0 (.tmp 30)) (some 31) false <|
  .rd 14 (some (27, true)) (.ld1 (.tmp 31)) (some 32) false <|
  .rd 15 (some (27, true)) (.mv (.tmp 1)) (some 33) false <|
  .rd 16 (some (27, true)) (.mv (.tmp 7)) (some 34) false <|
  .rd 17 (some (27, true)) (.idxA 2 (.tmp 33) (.tmp 34)) (some 35) false <|
  .rd 18 (some (27, true)) (.fldA 0 (.tmp 35)) (some 36) false <|
  .rd 19 (some (27, true)) (.ld1 (.tmp 36)) (some 37) false <|
  .rd 20 (some (27, true)) (.bin .lss (.tmp 32) (.tmp 37)) (some 38) false <|
  .rd 21 (some (22, false)) (.pick (.tmp 27) (.tmp 38) (.const (.bool false))) (some 39) false <|
  .rd 22 none (.pick (.tmp 22) (.const (.bool true)) (.tmp 39)) (some 40) false <|
  .done
noncomputable def F.osierref04_acts.r6 : Plan :=
  .rd 0 none (.mv (.tmp 5)) (some 41) false <|
  .rd 1 none (.mv (.tmp 0)) (some 42) false <|
  .rd 2 none (.mv (.tmp 6)) (some 43) false <|
  .rd 3 none (.idxA 2 (.tmp 42) (.tmp 43)) (some 44) false <|
  .rd 4 none (.fldA 0 (.tmp 44)) (some 45) false <|
  .rd 5 none (.ld1 (.tmp 45)) (some 46) false <|
  .ef 6 none (.bsl 1 [(.int .i64 0)] [(0, (1, (.tmp 46)))]) (some 47) [] (
  .ef 7 none (.app 1 8 (.tmp 41) (.tmp 47)) (some 48) [] (
  .rd 8 none (.mv (.tmp 48)) (some 5) false <|
  .done) .none) .none
noncomputable def F.osierref04_acts.r7 : Plan :=
  .rd 0 none (.mv (.tmp 6)) (some 49) false <|
  .rd 1 none (.bin .add (.tmp 49) (.const (.int .i64 1))) (some 50) false <|
  .rd 2 none (.mv (.tmp 50)) (some 6) false <|
  .done
noncomputable def F.osierref04_acts.r8 : Plan :=
  .rd 0 none (.mv (.tmp 6)) (some 51) false <|
  .rd 1 none (.mv (.tmp 0)) (some 52) false <|
  .rd 2 none (.len .sl (.tmp 52)) (some 53) false <|
  .rd 3 none (.bin .eql (.tmp 51) (.tmp 53)) (some 54) false <|
  .rd 4 none (.mv (.tmp 54)) (some 55) false <|
  .rd 5 (some (55, false)) (.mv (.tmp 1)) (some 56) false <|
  .rd 6 (some (55, false)) (.mv (.tmp 7)) (some 57) false <|
  .rd 7 (some (55, false)) (.idxA 2 (.tmp 56) (.tmp 57)) (some 58) false <|
  .rd 8 (some (55, false)) (.fldA 0 (.tmp 58)) (some 59) false <|
  .rd 9 (some (55, false)) (.ld1 (.tmp 59)) (some 60) false <|
  .rd 10 (some (55, false)) (.mv (.tmp 0)) (some 61) false <|
  .rd 11 (some (55, false)) (.mv (.tmp 6)) (some 62) false <|
  .rd 12 (some (55, false)) (.idxA 2 (.tmp 61) (.tmp 62)) (some 63) false <|
  .rd 13 (some (55, false)) (.fldA 0 (.tmp 63)) (some 64) false <|
  .rd 14 (some (55, false)) (.ld1 (.tmp 64)) (some 65) false <|
  .rd 15 (some (55, false)) (.bin .lss (.tmp 60) (.tmp 65)) (some 66) false <|
  .rd 16 none (.pick (.tmp 55) (.const (.bool true)) (.tmp 66)) (some 67) false <|
  .done
noncomputable def F.osierref04_acts.r9 : Plan :=
  .rd 0 none (.mv (.tmp 5)) (some 68) false <|
  .rd 1 none (.mv (.tmp 1)) (some 69) false <|
  .rd 2 none (.mv (.tmp 7)) (some 70) false <|
  .rd 3 none (.idxA 2 (.tmp 69) (.tmp 70)) (some 71) false <|
  .rd 4 none (.fldA 0 (.tmp 71)) (some 72) false <|
  .rd 5 none (.ld1 (.tmp 72)) (some 73) false <|
  .ef 6 none (.bsl 1 [(.int .i64 0)] [(0, (1, (.tmp 73)))]) (some 74) [] (
  .ef 7 none (.app 1 8 (.tmp 68) (.tmp 74)) (some 75) [] (
  .rd 8 none (.mv (.tmp 75)) (some 5) false <|
  .done) .none) .none
noncomputable def F.osierref04_acts.r10 : Plan :=
  .rd 0 none (.mv (.tmp 7)) (some 76) false <|
  .rd 1 none (.bin .add (.tmp 76) (.const (.int .i64 1))) (some 77) false <|
  .rd 2 none (.mv (.tmp 77)) (some 7) false <|
  .done
noncomputable def F.osierref04_acts.r11 : Plan :=
  .rd 0 none (.mv (.tmp 5)) (some 78) false <|
  .rd 1 none (.mv (.tmp 0)) (some 79) false <|
  .rd 2 none (.mv (.tmp 6)) (some 80) false <|
  .rd 3 none (.idxA 2 (.tmp 79) (.tmp 80)) (some 81) false <|
  .rd 4 none (.fldA 0 (.tmp 81)) (some 82) false <|
  .rd 5 none (.ld1 (.tmp 82)) (some 83) false <|
  .ef 6 none (.bsl 1 [(.int .i64 0)] [(0, (1, (.tmp 83)))]) (some 84) [] (
  .ef 7 none (.app 1 8 (.tmp 78) (.tmp 84)) (some 85) [] (
  .rd 8 none (.mv (.tmp 85)) (some 5) false <|
  .done) .none) .none
noncomputable def F.osierref04_acts.r12 : Plan :=
  .rd 0 none (.mv (.tmp 6)) (some 86) false <|
  .rd 1 none (.bin .add (.tmp 86) (.const (.int .i64 1))) (some 87) false <|
  .rd 2 none (.mv (.tmp 87)) (some 6) false <|
  .done
noncomputable def F.osierref04_acts.r13 : Plan :=
  .rd 0 none (.mv (.tmp 7)) (some 88) false <|
  .rd 1 none (.bin .add (.tmp 88) (.const (.int .i64 1))) (some 89) false <|
  .rd 2 none (.mv (.tmp 89)) (some 7) false <|
  .done
noncomputable def F.osierref04_acts.l0 : IC :=
    (.seq (.seq (.reg F.osierref04_acts.r4)
    (.cond (.tmp 17) .skip (.exit 0)))
    (.block 1 (.seq (.reg F.osierref04_acts.r5)
    (.cond (.tmp 40) (.seq (.reg F.osierref04_acts.r6)
    (.reg F.osierref04_acts.r7)) (.seq (.reg F.osierref04_acts.r8)
    (.cond (.tmp 67) (.seq (.reg F.osierref04_acts.r9)
    (.reg F.osierref04_acts.r10)) (.seq (.reg F.osierref04_acts.r11)
    (.seq (.reg F.osierref04_acts.r12)
    (.reg F.osierref04_acts.r13)))))))))
noncomputable def F.osierref04_acts.r14 : Plan :=
  .rd 0 none (.mv (.tmp 5)) (some 90) false <|
  .rd 1 none (.mv (.tmp 90)) (some 4) false <|
  .done
noncomputable def F.osierref04_acts.ic : IC :=
    (.seq (.reg F.osierref04_acts.r0)
    (.seq (.reg F.osierref04_acts.r1)
    (.seq (.reg F.osierref04_acts.r2)
    (.seq (.reg F.osierref04_acts.r3)
    (.seq (.block 0 (.loop F.osierref04_acts.l0))
    (.seq (.reg F.osierref04_acts.r14)
    .ret))))))
noncomputable def F.osierref04_acts.rs : List RO := [(.mv (.tmp 4))]
theorem F.osierref04_acts.ok : cFunc Go.Proofs.Tryz.prog F.osierref04_acts = some (91, F.osierref04_acts.ic, F.osierref04_acts.rs) := by kernel_rfl
theorem F.osierref04_acts.cl : callable Go.Proofs.Tryz.prog F.osierref04_acts = true := by kernel_rfl
noncomputable def F.vector_each.r0 : Plan :=
  .rd 0 none (.mv (.const (.slice none 0 0))) (some 6) false <|
  .done
noncomputable def F.vector_each.r1 : Plan :=
  .ef 0 none (.bsl 0 [] []) (some 11) [] (
  .rd 1 none (.mv (.tmp 11)) (some 7) false <|
  .done) .none
noncomputable def F.vector_each.r2 : Plan :=
  .rd 0 none (.mv (.tmp 0)) (some 12) false <|
  .rd 1 none (.mv (.tmp 1)) (some 13) false <|
  .ef 2 none (.bsl 2 [(.slice none 0 0), (.slice none 0 0)] [(0, (1, (.tmp 12))), (1, (1, (.tmp 13)))]) (some 14) [] (
  .ef 3 none (.call F.slices_Concat_api_Vector_api_Dot [(.tmp 14)]) (some 15) [] (
  .ef 4 none (.call F.dots_Rising [(.tmp 15)]) (some 16) [] (
  .rd 5 none (.len .sl (.tmp 16)) (some 17) false <|
  .rd 6 none (.mv (.const (.int .i64 0))) (some 18) false <|
  .done) .none) .none) .none
noncomputable def F.vector_each.r3 : Plan :=
  .rd 0 none (.bin .lss (.tmp 18) (.tmp 17)) (some 19) false <|
  .done
noncomputable def F.vector_each.r4 : Plan :=
  .rd 0 none (.idxA 2 (.tmp 16) (.tmp 18)) (some 20) false <|
  .rd 1 none (.ldn 2 (.tmp 20)) (some 21) false <|
  .ef 2 none (.alloc [(.int .i64 0), (.int .i64 0)]) (some 9) [] (
  .ef 3 none (.st 2 (.tmp 9) (.tmp 21)) none [] (
  .done) .none) .none
noncomputable def F.vector_each.r5 : Plan :=
  .rd 0 none (.mv (.tmp 2)) (some 22) false <|
  .rd 1 none (.mv (.tmp 0)) (some 23) false <|
  .rd 2 none (.fldA 0 (.tmp 9)) (some 24) false <|
  .rd 3 none (.ld1 (.tmp 24)) (some 25) false <|
  .rd 5 none (.mv (.tmp 1)) (some 27) false <|
  .rd 6 none (.fldA 0 (.tmp 9)) (some 28) false <|
  .rd 7 none (.ld1 (.tmp 28)) (some 29) true <|
  .ef 4 none (.call F.vector_Get [(.tmp 23), (.tmp 25)]) (some 26) [0, 5, 6, 7] (
  .ef 8 none (.call F.vector_Get [(.tmp 27), (.tmp 29)]) (some 30) [0] (
  .ef 9 none (.callv (.tmp 22) [(.tmp 26), (.tmp 30)]) (some 31) [] (
  .rd 10 none (.mv (.tmp 31)) (some 10) false <|
  .done) .none) .none) .none
noncomputable def F.vector_each.r6 : Plan :=
  .rd 0 none (.mv (.tmp 10)) (some 32) false <|
  .rd 1 none (.bin .gtr (.tmp 32) (.const (.int .i64 0))) (some 33) false <|
  .rd 2 none (.mv (.tmp 33)) (some 34) false <|
  .rd 3 (some (34, true)) (.mv (.tmp 7)) (some 35) false <|
  .rd 4 (some (34, true)) (.len .sl (.tmp 35)) (some 36) false <|
  .rd 5 (some (34, true)) (.bin .eql (.tmp 36) (.const (.int .i64 0))) (some 37) false <|
  .rd 6 (some (34, true)) (.mv (.tmp 37)) (some 38) false <|
  .rd 7 (some (38, false)) (.mv (.tmp 7)) (some 39) false <|
  .rd 8 (some (38, false)) (.mv (.tmp 7)) (some 40) false <|
  .rd 9 (some (38, false)) (.len .sl (.tmp 40)) (some 41) false <|
  .rd 10 (some (38, false)) (.bin .sub (.tmp 41) (.const (.int .i64 1))) (some 42) false <|
  .rd 11 (some (38, false)) (.idxA 2 (.tmp 39) (.tmp 42)) (some 43) false <|
  .rd 12 (some (38, false)) (.fldA 0 (.tmp 43)) (some 44) false <|
  .rd 13 (some (38, false)) (.ld1 (.tmp 44)) (some 45) false <|
  .rd 14 (some (38, false)) (.fldA 0 (.tmp 9)) (some 46) false <|
  .rd 15 (some (38, false)) (.ld1 (.tmp 46)) (some 47) false <|
  .rd 16 (some (38, false)) (.bin .lss (.tmp 45) (.tmp 47)) (some 48) false <|
  .rd 17 (some (34, true)) (.pick (.tmp 38) (.const (.bool true)) (.tmp 48)) (some 49) false <|
  .rd 18 none (.pick (.tmp 34) (.tmp 49) (.const (.bool false))) (some 50) false <|
  .done
noncomputable def F.vector_each.r7 : Plan :=
  .rd 0 none (.mv (.tmp 7)) (some 51) false <|
  .rd 1 none (.fldA 0 (.tmp 9)) (some 52) false <|
  .rd 2 none (.ld1 (.tmp 52)) (some 53) false <|
  .rd 3 none (.mv (.tmp 10)) (some 54) false <|
  .rd 4 none (.build [(.int .i64 0), (.int .i64 0)] [(0, (1, (.tmp 53))), (1, (1, (.tmp 54)))]) (some 55) false <|
  .ef 5 none (.bsl 1 [(.int .i64 0), (.int .i64 0)] [(0, (2, (.tmp 55)))]) (some 56) [] (
  .ef 6 none (.app 2 16 (.tmp 51) (.tmp 56)) (some 57) [] (
  .rd 7 none (.mv (.tmp 57)) (some 7) false <|
  .done) .none) .none
noncomputable def F.vector_each.r8 : Plan :=
  .rd 0 none (.bin .add (.tmp 18) (.const (.int .i64 1))) (some 58) false <|
  .rd 1 none (.mv (.tmp 58)) (some 18) false <|
  .done
noncomputable def F.vector_each.l0 : IC :=
    (.seq (.reg F.vector_each.r3)
    (.seq (.cond (.tmp 19) .skip (.exit 0))
    (.seq (.block 1 (.seq (.reg F.vector_each.r4)
    (.seq (.reg F.vector_each.r5)
    (.seq (.reg F.vector_each.r6)
    (.cond (.tmp 50) (.reg F.vector_each.r7) .skip)))))
    (.reg F.vector_each.r8))))
noncomputable def F.vector_each.r9 : Plan :=
  .rd 0 none (.mv (.tmp 7)) (some 59) false <|
  .rd 1 none (.mv (.tmp 59)) (some 6) false <|
  .done
noncomputable def F.vector_each.ic : IC :=
    (.seq (.reg F.vector_each.r0)
    (.seq (.reg F.vector_each.r1)
    (.seq (.seq (.reg F.vector_each.r2)
    (.block 0 (.loop F.vector_each.l0)))
    (.seq (.reg F.vector_each.r9)
    .ret))))
noncomputable def F.vector_each.rs : List RO := [(.mv (.tmp 6))]
theorem F.vector_each.ok : cFunc Go.Proofs.Tryz.prog F.vector_each = some (60, F.vector_each.ic, F.vector_each.rs) := by kernel_rfl
theorem F.vector_each.cl : callable Go.Proofs.Tryz.prog F.vector_each = true := by kernel_rfl
noncomputable def F.vector_Join_c1.r0 : Plan :=
  .rd 0 none (.mv (.const (.int .i64 0))) (some 4) false <|
  .done
noncomputable def F.vector_Join_c1.r1 : Plan :=
  .rd 0 none (.mv (.tmp 0)) (some 5) false <|
  .rd 1 none (.mv (.tmp 1)) (some 6) false <|
  .rd 2 none (.maxI true (.tmp 5) (.tmp 6)) (some 7) false <|
  .rd 3 none (.mv (.tmp 7)) (some 4) false <|
  .done
noncomputable def F.vector_Join_c1.ic : IC :=
    (.seq (.reg F.vector_Join_c1.r0)
    (.seq (.reg F.vector_Join_c1.r1)
    .ret))
noncomputable def F.vector_Join_c1.rs : List RO := [(.mv (.tmp 4))]
theorem F.vector_Join_c1.ok : cFunc Go.Proofs.Tryz.prog F.vector_Join_c1 = some (8, F.vector_Join_c1.ic, F.vector_Join_c1.rs) := by kernel_rfl
theorem F.vector_Join_c1.cl : callable Go.Proofs.Tryz.prog F.vector_Join_c1 = true := by kernel_rfl
noncomputable def F.osierref07_Less.r0 : Plan :=
  .ef 0 none (.box (.tmp 0)) (some 2) [] (
  .ef 1 none (.box (.tmp 1)) (some 3) [] (
  .rd 2 none (.mv (.const (.bool false))) (some 4) false <|
  .done) .none) .none
noncomputable def F.osierref07_Less.r1 : Plan :=
  .rd 0 none (.fldA 2 (.tmp 2)) (some 5) false <|
  .rd 1 none (.ld1 (.tmp 5)) (some 6) false <|
  .rd 2 none (.fldA 2 (.tmp 3)) (some 7) false <|
  .rd 3 none (.ld1 (.tmp 7)) (some 8) false <|
  .rd 4 none (.bin .eql (.tmp 6) (.tmp 8)) (some 9) false <|
  .done
noncomputable def F.osierref07_Less.r2 : Plan :=
  .rd 0 none (.fldA 0 (.tmp 2)) (some 10) false <|
  .rd 1 none (.ldn 2 (.tmp 10)) (some 11) false <|
  .rd 2 none (.fldA 0 (.tmp 3)) (some 12) false <|
  .rd 3 none (.ldn 2 (.tmp 12)) (some 13) false <|
  .ef 4 none (.call F.osierref03_Less [(.tmp 11), (.tmp 13)]) (some 14) [] (
  .rd 5 none (.mv (.tmp 14)) (some 4) false <|
  .done) .none
noncomputable def F.osierref07_Less.r3 : Plan :=
  .rd 0 none (.fldA 2 (.tmp 2)) (some 15) false <|
  .rd 1 none (.ld1 (.tmp 15)) (some 16) false <|
  .rd 2 none (.fldA 2 (.tmp 3)) (some 17) false <|
  .rd 3 none (.ld1 (.tmp 17)) (some 18) false <|
  .rd 4 none (.bin .lss (.tmp 16) (.tmp 18)) (some 19) false <|
  .rd 5 none (.mv (.tmp 19)) (some 4) false <|
  .done
noncomputable def F.osierref07_Less.ic : IC :=
    (.seq (.reg F.osierref07_Less.r0)
    (.seq (.seq (.reg F.osierref07_Less.r1)
    (.cond (.tmp 9) (.seq (.reg F.osierref07_Less.r2)
    .ret) .skip))
    (.seq (.reg F.osierref07_Less.r3)
    .ret)))
noncomputable def F.osierref07_Less.rs : List RO := [(.mv (.tmp 4))]
theorem F.osierref07_Less.ok : cFunc Go.Proofs.Tryz.prog F.osierref07_Less = some (20, F.osierref07_Less.ic, F.osierref07_Less.rs) := by kernel_rfl
theorem F.osierref07_Less.cl : callable Go.Proofs.Tryz.prog F.osierref07_Less = true := by kernel_rfl
noncomputable def F.slices_SortFunc_s_api_Dot_api_Dot.r0 : Plan :=
  .rd 0 none (.mv (.tmp 0)) (some 5) false <|
  .rd 1 none (.len .sl (.tmp 5)) (some 6) false <|
  .rd 2 none (.mv (.tmp 6)) (some 4) false <|
  .done
noncomputable def F.slices_SortFunc_s_api_Dot_api_Dot.r1 : Plan :=
  .rd 0 none (.mv (.tmp 0)) (some 7) false <|
  .rd 1 none (.mv (.tmp 4)) (some 8) false <|
  .rd 2 none (.mv (.tmp 4)) (some 9) false <|
  .rd 3 none (.convI .u64 (.tmp 9)) (some 10) false <|
  .ef 4 none (.call F.bits_Len [(.tmp 10)]) (some 11) [] (
  .rd 5 none (.mv (.tmp 1)) (some 12) false <|
  .ef 6 none (.call F.slices_pdqsortCmpFunc_api_Dot [(.tmp 7), (.const (.int .i64 0)), (.tmp 8), (.tmp 11), (.tmp 12)]) (some 13) [] (
  .done) .none) .none
noncomputable def F.slices_SortFunc_s_api_Dot_api_Dot.ic : IC :=
    (.seq (.reg F.slices_SortFunc_s_api_Dot_api_Dot.r0)
    (.reg F.slices_SortFunc_s_api_Dot_api_Dot.r1))
noncomputable def F.slices_SortFunc_s_api_Dot_api_Dot.rs : List RO := []
theorem F.slices_SortFunc_s_api_Dot_api_Dot.ok : cFunc Go.Proofs.Tryz.prog F.slices_SortFunc_s_api_Dot_api_Dot = some (14, F.slices_SortFunc_s_api_Dot_api_Dot.ic, F.slices_SortFunc_s_api_Dot_api_Dot.rs) := by kernel_rfl
theorem F.slices_SortFunc_s_api_Dot_api_Dot.cl : callable Go.Proofs.Tryz.prog F.slices_SortFunc_s_api_Dot_api_Dot = true := by kernel_rfl
noncomputable def F.slices_Concat_api_Vector_api_Dot.r0 : Plan :=
  .rd 0 none (.mv (.const (.slice none 0 0))) (some 2) false <|
  .done
noncomputable def F.slices_Concat_api_Vector_api_Dot.r1 : Plan :=
  .rd 0 none (.mv (.const (.int .i64 0))) (some 3) false <|
  .done
noncomputable def F.slices_Concat_api_Vector_api_Dot.r2 : Plan :=
  .rd 0 none (.mv (.tmp 0)) (some 9) false <|
  .rd 1 none (.len .sl (.tmp 9)) (some 10) false <|
  .rd 2 none (.mv (.const (.int .i64 0))) (some 11) false <|
  .done
noncomputable def F.slices_Concat_api_Vector_api_Dot.r3 : Plan :=
  .rd 0 none (.bin .lss (.tmp 11) (.tmp 10)) (some 12) false <|
  .done
noncomputable def F.slices_Concat_api_Vector_api_Dot.r4 : Plan :=
  .rd 0 none (.idxA 1 (.tmp 9) (.tmp 11)) (some 13) false <|
  .rd 1 none (.ld1 (.tmp 13)) (some 14) false <|
  .rd 2 none (.mv (.tmp 14)) (some 5) false <|
  .done
noncomputable def F.slices_Concat_api_Vector_api_Dot.r5 : Plan :=
  .rd 0 none (.mv (.tmp 3)) (some 15) false <|
  .rd 1 none (.mv (.tmp 5)) (some 16) false <|
  .rd 2 none (.len .sl (.tmp 16)) (some 17) false <|
  .rd 3 none (.bin .add (.tmp 15) (.tmp 17)) (some 18) false <|
  .rd 4 none (.mv (.tmp 18)) (some 3) false <|
  .done
noncomputable def F.slices_Concat_api_Vector_api_Dot.r6 : Plan :=
  .rd 0 none (.mv (.tmp 3)) (some 19) false <|
  .rd 1 none (.bin .lss (.tmp 19) (.const (.int .i64 0))) (some 20) false <|
  .done
noncomputable def F.slices_Concat_api_Vector_api_Dot.r7 : Plan :=
  .rd 0 none (.mkI 9 (.const (.string ⟨#[108, 101, 110, 32, 111, 117, 116, 32, 111, 102, 32, 114, 97, 110, 103, 101]⟩))) (some 21) false <|
  .ef 1 none .pan none [] (
  .done) .none
noncomputable def F.slices_Concat_api_Vector_api_Dot.r8 : Plan :=
  .rd 0 none (.bin .add (.tmp 11) (.const (.int .i64 1))) (some 22) false <|
  .rd 1 none (.mv (.tmp 22)) (some 11) false <|
  .done
noncomputable def F.slices_Concat_api_Vector_api_Dot.l0 : IC :=
    (.seq (.reg F.slices_Concat_api_Vector_api_Dot.r3)
    (.seq (.cond (.tmp 12) .skip (.exit 0))
    (.seq (.block 1 (.seq (.reg F.slices_Concat_api_Vector_api_Dot.r4)
    (.seq (.reg F.slices_Concat_api_Vector_api_Dot.r5)
    (.seq (.reg F.slices_Concat_api_Vector_api_Dot.r6)
    (.cond (.tmp 20) (.reg F.slices_Concat_api_Vector_api_Dot.r7) .skip)))))
    (.reg F.slices_Concat_api_Vector_api_Dot.r8))))
noncomputable def F.slices_Concat_api_Vector_api_Dot.r9 : Plan :=
  .rd 0 none (.mv (.tmp 3)) (some 23) false <|
  .ef 1 none (.call F.slices_Grow_api_Vector_api_Dot [(.const (.slice none 0 0)), (.tmp 23)]) (some 24) [] (
  .rd 2 none (.mv (.tmp 24)) (some 6) false <|
  .done) .none
noncomputable def F.slices_Concat_api_Vector_api_Dot.r10 : Plan :=
  .rd 0 none (.mv (.tmp 0)) (some 25) false <|
  .rd 1 none (.len .sl (.tmp 25)) (some 26) false <|
  .rd 2 none (.mv (.const (.int .i64 0))) (some 27) false <|
  .done
noncomputable def F.slices_Concat_api_Vector_api_Dot.r11 : Plan :=
  .rd 0 none (.bin .lss (.tmp 27) (.tmp 26)) (some 28) false <|
  .done
noncomputable def F.slices_Concat_api_Vector_api_Dot.r12 : Plan :=
  .rd 0 none (.idxA 1 (.tmp 25) (.tmp 27)) (some 29) false <|
  .rd 1 none (.ld1 (.tmp 29)) (some 30) false <|
  .rd 2 none (.mv (.tmp 30)) (some 8) false <|
  .done
noncomputable def F.slices_Concat_api_Vector_api_Dot.r13 : Plan :=
  .rd 0 none (.mv (.tmp 6)) (some 31) false <|
  .rd 1 none (.mv (.tmp 8)) (some 32) false <|
  .ef 2 none (.app 2 16 (.tmp 31) (.tmp 32)) (some 33) [] (
  .rd 3 none (.mv (.tmp 33)) (some 6) false <|
  .done) .none
noncomputable def F.slices_Concat_api_Vector_api_Dot.r14 : Plan :=
  .rd 0 none (.bin .add (.tmp 27) (.const (.int .i64 1))) (some 34) false <|
  .rd 1 none (.mv (.tmp 34)) (some 27) false <|
  .done
noncomputable def F.slices_Concat_api_Vector_api_Dot.l1 : IC :=
    (.seq (.reg F.slices_Concat_api_Vector_api_Dot.r11)
    (.seq (.cond (.tmp 28) .skip (.exit 2))
    (.seq (.block 3 (.seq (.reg F.slices_Concat_api_Vector_api_Dot.r12)
    (.reg F.slices_Concat_api_Vector_api_Dot.r13)))
    (.reg F.slices_Concat_api_Vector_api_Dot.r14))))
noncomputable def F.slices_Concat_api_Vector_api_Dot.r15 : Plan :=
  .rd 0 none (.mv (.tmp 6)) (some 35) false <|
  .rd 1 none (.mv (.tmp 35)) (some 2) false <|
  .done
noncomputable def F.slices_Concat_api_Vector_api_Dot.ic : IC :=
    (.seq (.reg F.slices_Concat_api_Vector_api_Dot.r0)
    (.seq (.reg F.slices_Concat_api_Vector_api_Dot.r1)
    (.seq (.seq (.reg F.slices_Concat_api_Vector_api_Dot.r2)
    (.block 0 (.loop F.slices_Concat_api_Vector_api_Dot.l0)))
    (.seq (.reg F.slices_Concat_api_Vector_api_Dot.r9)
    (.seq (.seq (.reg F.slices_Concat_api_Vector_api_Dot.r10)
    (.block 2 (.loop F.slices_Concat_api_Vector_api_Dot.l1)))
    (.seq (.reg F.slices_Concat_api_Vector_api_Dot.r15)
    .ret))))))
noncomputable def F.slices_Concat_api_Vector_api_Dot.rs : List RO := [(.mv (.tmp 2))]
theorem F.slices_Concat_api_Vector_api_Dot.ok : cFunc Go.Proofs.Tryz.prog F.slices_Concat_api_Vector_api_Dot = some (36, F.slices_Concat_api_Vector_api_Dot.ic, F.slices_Concat_api_Vector_api_Dot.rs) := by kernel_rfl
theorem F.slices_Concat_api_Vector_api_Dot.cl : callable Go.Proofs.Tryz.prog F.slices_Concat_api_Vector_api_Dot = true := by kernel_rfl
noncomputable def F.osierref03_Less.r0 : Plan :=
  .ef 0 none (.box (.tmp 0)) (some 2) [] (
  .ef 1 none (.box (.tmp 1)) (some 3) [] (
  .rd 2 none (.mv (.const (.bool false))) (some 4) false <|
  .done) .none) .none
noncomputable def F.osierref03_Less.r1 : Plan :=
  .rd 0 none (.fldA 0 (.tmp 2)) (some 5) false <|
  .rd 1 none (.ld1 (.tmp 5)) (some 6) false <|
  .rd 2 none (.fldA 0 (.tmp 3)) (some 7) false <|
  .rd 3 none (.ld1 (.tmp 7)) (some 8) false <|
  .rd 4 none (.bin .neq (.tmp 6) (.tmp 8)) (some 9) false <|
  .done
noncomputable def F.osierref03_Less.r2 : Plan :=
  .rd 0 none (.fldA 0 (.tmp 2)) (some 10) false <|
  .rd 1 none (.ld1 (.tmp 10)) (some 11) false <|
  .rd 2 none (.fldA 0 (.tmp 3)) (some 12) false <|
  .rd 3 none (.ld1 (.tmp 12)) (some 13) false <|
  .rd 4 none (.bin .lss (.tmp 11) (.tmp 13)) (some 14) false <|
  .rd 5 none (.mv (.tmp 14)) (some 4) false <|
  .done
noncomputable def F.osierref03_Less.r3 : Plan :=
  .rd 0 none (.fldA 1 (.tmp 2)) (some 15) false <|
  .rd 1 none (.ld1 (.tmp 15)) (some 16) false <|
  .rd 2 none (.fldA 1 (.tmp 3)) (some 17) false <|
  .rd 3 none (.ld1 (.tmp 17)) (some 18) false <|
  .rd 4 none (.bin .lss (.tmp 16) (.tmp 18)) (some 19) false <|
  .rd 5 none (.mv (.tmp 19)) (some 4) false <|
  .done
noncomputable def F.osierref03_Less.ic : IC :=
    (.seq (.reg F.osierref03_Less.r0)
    (.seq (.seq (.reg F.osierref03_Less.r1)
    (.cond (.tmp 9) (.seq (.reg F.osierref03_Less.r2)
    .ret) .skip))
    (.seq (.reg F.osierref03_Less.r3)
    .ret)))
noncomputable def F.osierref03_Less.rs : List RO := [(.mv (.tmp 4))]
theorem F.osierref03_Less.ok : cFunc Go.Proofs.Tryz.prog F.osierref03_Less = some (20, F.osierref03_Less.ic, F.osierref03_Less.rs) := by kernel_rfl
theorem F.osierref03_Less.cl : callable Go.Proofs.Tryz.prog F.osierref03_Less = true := by kernel_rfl
noncomputable def F.slices_pdqsortCmpFunc_api_Dot.r0 : Plan :=
  .rd 0 none (.mv (.const (.bool true))) (some 10) false <|
  .done
noncomputable def F.slices_pdqsortCmpFunc_api_Dot.r1 : Plan :=
  .rd 0 none (.mv (.const (.bool true))) (some 11) false <|
  .done
noncomputable def F.slices_pdqsortCmpFunc_api_Dot.r2 : Plan :=
  .rd 0 none (.mv (.tmp 2)) (some 21) false <|
  .rd 1 none (.mv (.tmp 1)) (some 22) false <|
  .rd 2 none (.bin .sub (.tmp 21) (.tmp 22)) (some 23) false <|
  .rd 3 none (.mv (.tmp 23)) (some 12) false <|
  .done
noncomputable def F.slices_pdqsortCmpFunc_api_Dot.r3 : Plan :=
  .rd 0 none (.mv (.tmp 12)) (some 24) false <|
  .rd 1 none (.bin .leq (.tmp 24) (.const (.int .i64 12))) (some 25) false <|
  .done
noncomputable def F.slices_pdqsortCmpFunc_api_Dot.r4 : Plan :=
  .rd 0 none (.mv (.tmp 0)) (some 26) false <|
  .rd 1 none (.mv (.tmp 1)) (some 27) false <|
  .rd 2 none (.mv (.tmp 2)) (some 28) false <|
  .rd 3 none (.mv (.tmp 4)) (some 29) false <|
  .ef 4 none (.call F.slices_insertionSortCmpFunc_api_Dot [(.tmp 26), (.tmp 27), (.tmp 28), (.tmp 29)]) (some 30) [] (
  .done) .none
noncomputable def F.slices_pdqsortCmpFunc_api_Dot.r5 : Plan :=
  .rd 0 none (.mv (.tmp 3)) (some 31) false <|
  .rd 1 none (.bin .eql (.tmp 31) (.const (.int .i64 0))) (some 32) false <|
  .done
noncomputable def F.slices_pdqsortCmpFunc_api_Dot.r6 : Plan :=
  .rd 0 none (.mv (.tmp 0)) (some 33) false <|
  .rd 1 none (.mv (.tmp 1)) (some 34) false <|
  .rd 2 none (.mv (.tmp 2)) (some 35) false <|
  .rd 3 none (.mv (.tmp 4)) (some 36) false <|
  .ef 4 none (.call F.slices_heapSortCmpFunc_api_Dot [(.tmp 33), (.tmp 34), (.tmp 35), (.tmp 36)]) (some 37) [] (
  .done) .none
noncomputable def F.slices_pdqsortCmpFunc_api_Dot.r7 : Plan :=
  .rd 0 none (.mv (.tmp 10)) (some 38) false <|
  .rd 1 none (.un .not (.tmp 38)) (some 39) false <|
  .done
noncomputable def F.slices_pdqsortCmpFunc_api_Dot.r8 : Plan :=
  .rd 0 none (.mv (.tmp 0)) (some 40) false <|
  .rd 1 none (.mv (.tmp 1)) (some 41) false <|
  .rd 2 none (.mv (.tmp 2)) (some 42) false <|
  .rd 3 none (.mv (.tmp 4)) (some 43) false <|
  .ef 4 none (.call F.slices_breakPatternsCmpFunc_api_Dot [(.tmp 40), (.tmp 41), (.tmp 42), (.tmp 43)]) (some 44) [] (
  .done) .none
noncomputable def F.slices_pdqsortCmpFunc_api_Dot.r9 : Plan :=
  .rd 0 none (.mv (.tmp 3)) (some 45) false <|
  .rd 1 none (.bin .sub (.tmp 45) (.const (.int .i64 1))) (some 46) false <|
  .rd 2 none (.mv (.tmp 46)) (some 3) false <|
  .done
noncomputable def F.slices_pdqsortCmpFunc_api_Dot.r10 : Plan :=
  .rd 0 none (.mv (.tmp 0)) (some 48) false <|
  .rd 1 none (.mv (.tmp 1)) (some 49) false <|
  .rd 2 none (.mv (.tmp 2)) (some 50) false <|
  .rd 3 none (.mv (.tmp 4)) (some 51) false <|
  .ef 4 none (.call F.slices_choosePivotCmpFunc_api_Dot [(.tmp 48), (.tmp 49), (.tmp 50), (.tmp 51)]) (some 52) [] (
  .rd 5 none (.mv (.tmp 52)) (some 47) false <|
  .rd 6 none (.ext 0 (.tmp 47)) (some 53) false <|
  .rd 7 none (.ext 1 (.tmp 47)) (some 54) false <|
  .rd 8 none (.mv (.tmp 53)) (some 13) false <|
  .rd 9 none (.mv (.tmp 54)) (some 14) false <|
  .done) .none
noncomputable def F.slices_pdqsortCmpFunc_api_Dot.r11 : Plan :=
  .rd 0 none (.mv (.tmp 14)) (some 55) false <|
  .rd 1 none (.bin .eql (.tmp 55) (.const (.int .i64 2))) (some 56) false <|
  .done
noncomputable def F.slices_pdqsortCmpFunc_api_Dot.r12 : Plan :=
  .rd 0 none (.mv (.tmp 0)) (some 57) false <|
  .rd 1 none (.mv (.tmp 1)) (some 58) false <|
  .rd 2 none (.mv (.tmp 2)) (some 59) false <|
  .rd 3 none (.mv (.tmp 4)) (some 60) false <|
  .ef 4 none (.call F.slices_reverseRangeCmpFunc_api_Dot [(.tmp 57), (.tmp 58), (.tmp 59), (.tmp 60)]) (some 61) [] (
  .done) .none
noncomputable def F.slices_pdqsortCmpFunc_api_Dot.r13 : Plan :=
  .rd 0 none (.mv (.tmp 2)) (some 62) false <|
  .rd 1 none (.bin .sub (.tmp 62) (.const (.int .i64 1))) (some 63) false <|
  .rd 2 none (.mv (.tmp 13)) (some 64) false <|
  .rd 3 none (.mv (.tmp 1)) (some 65) false <|
  .rd 4 none (.bin .sub (.tmp 64) (.tmp 65)) (some 66) false <|
  .rd 5 none (.bin .sub (.tmp 63) (.tmp 66)) (some 67) false <|
  .rd 6 none (.mv (.tmp 67)) (some 13) false <|
  .done
noncomputable def F.slices_pdqsortCmpFunc_api_Dot.r14 : Plan :=
  .rd 0 none (.mv (.const (.int .i64 1))) (some 14) false <|
  .done
noncomputable def F.slices_pdqsortCmpFunc_api_Dot.r15 : Plan :=
  .rd 0 none (.mv (.tmp 10)) (some 68) false <|
  .rd 1 none (.mv (.tmp 68)) (some 69) false <|
  .rd 2 (some (69, true)) (.mv (.tmp 11)) (some 70) false <|
  .rd 3 none (.pick (.tmp 69) (.tmp 70) (.const (.bool false))) (some 71) false <|
  .rd 4 none (.mv (.tmp 71)) (some 72) false <|
  .rd 5 (some (72, true)) (.mv (.tmp 14)) (some 73) false <|
  .rd 6 (some (72, true)) (.bin .eql (.tmp 73) (.const (.int .i64 1))) (some 74) false <|
  .rd 7 none (.pick (.tmp 72) (.tmp 74) (.const (.bool false))) (some 75) false <|
  .done
noncomputable def F.slices_pdqsortCmpFunc_api_Dot.r16 : Plan :=
  .rd 0 none (.mv (.tmp 0)) (some 76) false <|
  .rd 1 none (.mv (.tmp 1)) (some 77) false <|
  .rd 2 none (.mv (.tmp 2)) (some 78) false <|
  .rd 3 none (.mv (.tmp 4)) (some 79) false <|
  .ef 4 none (.call F.slices_partialInsertionSortCmpFunc_api_Dot [(.tmp 76), (.tmp 77), (.tmp 78), (.tmp 79)]) (some 80) [] (
  .done) .none
noncomputable def F.slices_pdqsortCmpFunc_api_Dot.r17 : Plan :=
  .rd 0 none (.mv (.tmp 1)) (some 81) false <|
  .rd 1 none (.bin .gtr (.tmp 81) (.const (.int .i64 0))) (some 82) false <|
  .rd 2 none (.mv (.tmp 82)) (some 83) false <|
  .rd 3 (some (83, true)) (.mv (.tmp 4)) (some 84) false <|
  .rd 4 (some (83, true)) (.mv (.tmp 0)) (some 85) false <|
  .rd 5 (some (83, true)) (.mv (.tmp 1)) (some 86) false <|
  .rd 6 (some (83, true)) (.bin .sub (.tmp 86) (.const (.int .i64 1))) (some 87) false <|
  .rd 7 (some (83, true)) (.idxA 2 (.tmp 85) (.tmp 87)) (some 88) false <|
  .rd 8 (some (83, true)) (.ldn 2 (.tmp 88)) (some 89) false <|
  .rd 9 (some (83, true)) (.mv (.tmp 0)) (some 90) false <|
  .rd 10 (some (83, true)) (.mv (.tmp 13)) (some 91) false <|
  .rd 11 (some (83, true)) (.idxA 2 (.tmp 90) (.tmp 91)) (some 92) false <|
  .rd 12 (some (83, true)) (.ldn 2 (.tmp 92)) (some 93) false <|
  .ef 13 (some (83, true)) (.callv (.tmp 84) [(.tmp 89), (.tmp 93)]) (some 94) [] (
  .rd 14 (some (83, true)) (.bin .lss (.tmp 94) (.const (.int .i64 0))) (some 95) false <|
  .rd 15 (some (83, true)) (.un .not (.tmp 95)) (some 96) false <|
  .rd 16 none (.pick (.tmp 83) (.tmp 96) (.const (.bool false))) (some 97) false <|
  .done) .none
noncomputable def F.slices_pdqsortCmpFunc_api_Dot.r18 : Plan :=
  .rd 0 none (.mv (.tmp 0)) (some 98) false <|
  .rd 1 none (.mv (.tmp 1)) (some 99) false <|
  .rd 2 none (.mv (.tmp 2)) (some 100) false <|
  .rd 3 none (.mv (.tmp 13)) (some 101) false <|
  .rd 4 none (.mv (.tmp 4)) (some 102) false <|
  .ef 5 none (.call F.slices_partitionEqualCmpFunc_api_Dot [(.tmp 98), (.tmp 99), (.tmp 100), (.tmp 101), (.tmp 102)]) (some 103) [] (
  .rd 6 none (.mv (.tmp 103)) (some 15) false <|
  .done) .none
noncomputable def F.slices_pdqsortCmpFunc_api_Dot.r19 : Plan :=
  .rd 0 none (.mv (.tmp 15)) (some 104) false <|
  .rd 1 none (.mv (.tmp 104)) (some 1) false <|
  .done
noncomputable def F.slices_pdqsortCmpFunc_api_Dot.r20 : Plan :=
  .rd 0 none (.mv (.tmp 0)) (some 106) false <|
  .rd 1 none (.mv (.tmp 1)) (some 107) false <|
  .rd 2 none (.mv (.tmp 2)) (some 108) false <|
  .rd 3 none (.mv (.tmp 13)) (some 109) false <|
  .rd 4 none (.mv (.tmp 4)) (some 110) false <|
  .ef 5 none (.call F.slices_partitionCmpFunc_api_Dot [(.tmp 106), (.tmp 107), (.tmp 108), (.tmp 109), (.tmp 110)]) (some 111) [] (
  .rd 6 none (.mv (.tmp 111)) (some 105) false <|
  .rd 7 none (.ext 0 (.tmp 105)) (some 112) false <|
  .rd 8 none (.ext 1 (.tmp 105)) (some 113) false <|
  .rd 9 none (.mv (.tmp 112)) (some 16) false <|
  .rd 10 none (.mv (.tmp 113)) (some 17) false <|
  .done) .none
noncomputable def F.slices_pdqsortCmpFunc_api_Dot.r21 : Plan :=
  .rd 0 none (.mv (.tmp 17)) (some 114) false <|
  .rd 1 none (.mv (.tmp 114)) (some 11) false <|
  .done
noncomputable def F.slices_pdqsortCmpFunc_api_Dot.r22 : Plan :=
  .rd 0 none (.mv (.tmp 16)) (some 115) false <|
  .rd 1 none (.mv (.tmp 1)) (some 116) false <|
  .rd 2 none (.bin .sub (.tmp 115) (.tmp 116)) (some 117) false <|
  .rd 3 none (.mv (.tmp 2)) (some 118) false <|
  .rd 4 none (.mv (.tmp 16)) (some 119) false <|
  .rd 5 none (.bin .sub (.tmp 118) (.tmp 119)) (some 120) false <|
  .rd 6 none (.mv (.tmp 117)) (some 18) false <|
  .rd 7 none (.mv (.tmp 120)) (some 19) false <|
  .done
noncomputable def F.slices_pdqsortCmpFunc_api_Dot.r23 : Plan :=
  .rd 0 none (.mv (.tmp 12)) (some 121) false <|
  .rd 1 none (.bin .quo (.tmp 121) (.const (.int .i64 8))) (some 122) false <|
  .rd 2 none (.mv (.tmp 122)) (some 20) false <|
  .done
noncomputable def F.slices_pdqsortCmpFunc_api_Dot.r24 : Plan :=
  .rd 0 none (.mv (.tmp 18)) (some 123) false <|
  .rd 1 none (.mv (.tmp 19)) (some 124) false <|
  .rd 2 none (.bin .lss (.tmp 123) (.tmp 124)) (some 125) false <|
  .done
noncomputable def F.slices_pdqsortCmpFunc_api_Dot.r25 : Plan :=
  .rd 0 none (.mv (.tmp 18)) (some 126) false <|
  .rd 1 none (.mv (.tmp 20)) (some 127) false <|
  .rd 2 none (.bin .geq (.tmp 126) (.tmp 127)) (some 128) false <|
  .rd 3 none (.mv (.tmp 128)) (some 10) false <|
  .done
noncomputable def F.slices_pdqsortCmpFunc_api_Dot.r26 : Plan :=
  .rd 0 none (.mv (.tmp 0)) (some 129) false <|
  .rd 1 none (.mv (.tmp 1)) (some 130) false <|
  .rd 2 none (.mv (.tmp 16)) (some 131) false <|
  .rd 3 none (.mv (.tmp 3)) (some 132) false <|
  .rd 4 none (.mv (.tmp 4)) (some 133) false <|
  .ef 5 none (.call F.slices_pdqsortCmpFunc_api_Dot [(.tmp 129), (.tmp 130), (.tmp 131), (.tmp 132), (.tmp 133)]) (some 134) [] (
  .done) .none
noncomputable def F.slices_pdqsortCmpFunc_api_Dot.r27 : Plan :=
  .rd 0 none (.mv (.tmp 16)) (some 135) false <|
  .rd 1 none (.bin .add (.tmp 135) (.const (.int .i64 1))) (some 136) false <|
  .rd 2 none (.mv (.tmp 136)) (some 1) false <|
  .done
noncomputable def F.slices_pdqsortCmpFunc_api_Dot.r28 : Plan :=
  .rd 0 none (.mv (.tmp 19)) (some 137) false <|
  .rd 1 none (.mv (.tmp 20)) (some 138) false <|
  .rd 2 none (.bin .geq (.tmp 137) (.tmp 138)) (some 139) false <|
  .rd 3 none (.mv (.tmp 139)) (some 10) false <|
  .done
noncomputable def F.slices_pdqsortCmpFunc_api_Dot.r29 : Plan :=
  .rd 0 none (.mv (.tmp 0)) (some 140) false <|
  .rd 1 none (.mv (.tmp 16)) (some 141) false <|
  .rd 2 none (.bin .add (.tmp 141) (.const (.int .i64 1))) (some 142) false <|
  .rd 3 none (.mv (.tmp 2)) (some 143) false <|
  .rd 4 none (.mv (.tmp 3)) (some 144) false <|
  .rd 5 none (.mv (.tmp 4)) (some 145) false <|
  .ef 6 none (.call F.slices_pdqsortCmpFunc_api_Dot [(.tmp 140), (.tmp 142), (.tmp 143), (.tmp 144), (.tmp 145)]) (some 146) [] (
  .done) .none
noncomputable def F.slices_pdqsortCmpFunc_api_Dot.r30 : Plan :=
  .rd 0 none (.mv (.tmp 16)) (some 147) false <|
  .rd 1 none (.mv (.tmp 147)) (some 2) false <|
  .done
noncomputable def F.slices_pdqsortCmpFunc_api_Dot.l0 : IC :=
    (.block 1 (.seq (.reg F.slices_pdqsortCmpFunc_api_Dot.r2)
    (.seq (.seq (.reg F.slices_pdqsortCmpFunc_api_Dot.r3)
    (.cond (.tmp 25) (.seq (.reg F.slices_pdqsortCmpFunc_api_Dot.r4)
    .ret) .skip))
    (.seq (.seq (.reg F.slices_pdqsortCmpFunc_api_Dot.r5)
    (.cond (.tmp 32) (.seq (.reg F.slices_pdqsortCmpFunc_api_Dot.r6)
    .ret) .skip))
    (.seq (.seq (.reg F.slices_pdqsortCmpFunc_api_Dot.r7)
    (.cond (.tmp 39) (.seq (.reg F.slices_pdqsortCmpFunc_api_Dot.r8)
    (.reg F.slices_pdqsortCmpFunc_api_Dot.r9)) .skip))
    (.seq (.reg F.slices_pdqsortCmpFunc_api_Dot.r10)
    (.seq (.seq (.reg F.slices_pdqsortCmpFunc_api_Dot.r11)
    (.cond (.tmp 56) (.seq (.reg F.slices_pdqsortCmpFunc_api_Dot.r12)
    (.seq (.reg F.slices_pdqsortCmpFunc_api_Dot.r13)
    (.reg F.slices_pdqsortCmpFunc_api_Dot.r14))) .skip))
    (.seq (.seq (.reg F.slices_pdqsortCmpFunc_api_Dot.r15)
    (.cond (.tmp 75) (.seq (.reg F.slices_pdqsortCmpFunc_api_Dot.r16)
    (.cond (.tmp 80) .ret .skip)) .skip))
    (.seq (.seq (.reg F.slices_pdqsortCmpFunc_api_Dot.r17)
    (.cond (.tmp 97) (.seq (.reg F.slices_pdqsortCmpFunc_api_Dot.r18)
    (.seq (.reg F.slices_pdqsortCmpFunc_api_Dot.r19)
    (.exit 1))) .skip))
    (.seq (.reg F.slices_pdqsortCmpFunc_api_Dot.r20)
    (.seq (.reg F.slices_pdqsortCmpFunc_api_Dot.r21)
    (.seq (.reg F.slices_pdqsortCmpFunc_api_Dot.r22)
    (.seq (.reg F.slices_pdqsortCmpFunc_api_Dot.r23)
    (.seq (.reg F.slices_pdqsortCmpFunc_api_Dot.r24)
    (.cond (.tmp 125) (.seq (.reg F.slices_pdqsortCmpFunc_api_Dot.r25)
    (.seq (.reg F.slices_pdqsortCmpFunc_api_Dot.r26)
    (.reg F.slices_pdqsortCmpFunc_api_Dot.r27))) (.seq (.reg F.slices_pdqsortCmpFunc_api_Dot.r28)
    (.seq (.reg F.slices_pdqsortCmpFunc_api_Dot.r29)
    (.reg F.slices_pdqsortCmpFunc_api_Dot.r30))))))))))))))))))
noncomputable def F.slices_pdqsortCmpFunc_api_Dot.ic : IC :=
    (.seq (.reg F.slices_pdqsortCmpFunc_api_Dot.r0)
    (.seq (.reg F.slices_pdqsortCmpFunc_api_Dot.r1)
    (.block 0 (.loop F.slices_pdqsortCmpFunc_api_Dot.l0))))
noncomputable def F.slices_pdqsortCmpFunc_api_Dot.rs : List RO := []
theorem F.slices_pdqsortCmpFunc_api_Dot.ok : cFunc Go.Proofs.Tryz.prog F.slices_pdqsortCmpFunc_api_Dot = some (148, F.slices_pdqsortCmpFunc_api_Dot.ic, F.slices_pdqsortCmpFunc_api_Dot.rs) := by kernel_rfl
theorem F.slices_pdqsortCmpFunc_api_Dot.cl : callable Go.Proofs.Tryz.prog F.slices_pdqsortCmpFunc_api_Dot = true := by kernel_rfl
noncomputable def F.bits_Len.r0 : Plan :=
  .rd 0 none (.mv (.const (.int .i64 0))) (some 2) false <|
  .done
noncomputable def F.bits_Len.r1 : Plan :=
  .rd 0 none (.mv (.tmp 0)) (some 3) false <|
  .rd 1 none (.convI .u32 (.tmp 3)) (some 4) false <|
  .ef 2 none (.call F.bits_Len32 [(.tmp 4)]) (some 5) [] (
  .rd 3 none (.mv (.tmp 5)) (some 2) false <|
  .done) .none
noncomputable def F.bits_Len.r2 : Plan :=
  .rd 0 none (.mv (.tmp 0)) (some 6) false <|
  .ef 1 none (.call F.bits_Len64 [(.tmp 6)]) (some 7) [] (
  .rd 2 none (.mv (.tmp 7)) (some 2) false <|
  .done) .none
noncomputable def F.bits_Len.ic : IC :=
    (.seq (.reg F.bits_Len.r0)
    (.seq (.cond (.const (.bool false)) (.seq (.reg F.bits_Len.r1)
    .ret) .skip)
    (.seq (.reg F.bits_Len.r2)
    .ret)))
noncomputable def F.bits_Len.rs : List RO := [(.mv (.tmp 2))]
theorem F.bits_Len.ok : cFunc Go.Proofs.Tryz.prog F.bits_Len = some (8, F.bits_Len.ic, F.bits_Len.rs) := by kernel_rfl
theorem F.bits_Len.cl : callable Go.Proofs.Tryz.prog F.bits_Len = true := by kernel_rfl
noncomputable def F.slices_Grow_api_Vector_api_Dot.r0 : Plan :=
  .rd 0 none (.mv (.const (.slice none 0 0))) (some 4) false <|
  .done
noncomputable def F.slices_Grow_api_Vector_api_Dot.r1 : Plan :=
  .rd 0 none (.mv (.tmp 1)) (some 5) false <|
  .rd 1 none (.bin .lss (.tmp 5) (.const (.int .i64 0))) (some 6) false <|
  .done
noncomputable def F.slices_Grow_api_Vector_api_Dot.r2 : Plan :=
  .rd 0 none (.mkI 9 (.const (.string ⟨#[99, 97, 110, 110, 111, 116, 32, 98, 101, 32, 110, 101, 103, 97, 116, 105, 118, 101]⟩))) (some 7) false <|
  .ef 1 none .pan none [] (
  .done) .none
noncomputable def F.slices_Grow_api_Vector_api_Dot.r3 : Plan :=
  .rd 0 none (.mv (.tmp 1)) (some 8) false <|
  .rd 1 none (.mv (.tmp 0)) (some 9) false <|
  .rd 2 none (.capS (.tmp 9)) (some 10) false <|
  .rd 3 none (.mv (.tmp 0)) (some 11) false <|
  .rd 4 none (.len .sl (.tmp 11)) (some 12) false <|
  .rd 5 none (.bin .sub (.tmp 10) (.tmp 12)) (some 13) false <|
  .rd 6 none (.bin .sub (.tmp 8) (.tmp 13)) (some 14) false <|
  .rd 7 none (.mv (.tmp 14)) (some 1) false <|
  .done
noncomputable def F.slices_Grow_api_Vector_api_Dot.r4 : Plan :=
  .rd 0 none (.mv (.tmp 1)) (some 15) false <|
  .rd 1 none (.bin .gtr (.tmp 15) (.const (.int .i64 0))) (some 16) false <|
  .done
noncomputable def F.slices_Grow_api_Vector_api_Dot.r5 : Plan :=
  .rd 0 none (.mv (.tmp 0)) (some 17) false <|
  .rd 1 none (.mv (.tmp 0)) (some 18) false <|
  .rd 2 none (.capS (.tmp 18)) (some 19) false <|
  .rd 3 none (.sl 2 (.tmp 17) none (some (.tmp 19)) none) (some 20) false <|
  .rd 4 none (.mv (.tmp 1)) (some 21) false <|
  .ef 5 none (.appZ 2 16 [(.int .i64 0), (.int .i64 0)] (.tmp 20) (.tmp 21)) (some 22) [] (
  .rd 6 none (.mv (.tmp 0)) (some 23) false <|
  .rd 7 none (.len .sl (.tmp 23)) (some 24) false <|
  .rd 8 none (.sl 2 (.tmp 22) none (some (.tmp 24)) none) (some 25) false <|
  .rd 9 none (.mv (.tmp 25)) (some 0) false <|
  .done) .none
noncomputable def F.slices_Grow_api_Vector_api_Dot.r6 : Plan :=
  .rd 0 none (.mv (.tmp 0)) (some 26) false <|
  .rd 1 none (.mv (.tmp 26)) (some 4) false <|
  .done
noncomputable def F.slices_Grow_api_Vector_api_Dot.ic : IC :=
    (.seq (.reg F.slices_Grow_api_Vector_api_Dot.r0)
    (.seq (.seq (.reg F.slices_Grow_api_Vector_api_Dot.r1)
    (.cond (.tmp 6) (.reg F.slices_Grow_api_Vector_api_Dot.r2) .skip))
    (.seq (.seq (.reg F.slices_Grow_api_Vector_api_Dot.r3)
    (.seq (.reg F.slices_Grow_api_Vector_api_Dot.r4)
    (.cond (.tmp 16) (.reg F.slices_Grow_api_Vector_api_Dot.r5) .skip)))
    (.seq (.reg F.slices_Grow_api_Vector_api_Dot.r6)
    .ret))))
noncomputable def F.slices_Grow_api_Vector_api_Dot.rs : List RO := [(.mv (.tmp 4))]
theorem F.slices_Grow_api_Vector_api_Dot.ok : cFunc Go.Proofs.Tryz.prog F.slices_Grow_api_Vector_api_Dot = some (27, F.slices_Grow_api_Vector_api_Dot.ic, F.slices_Grow_api_Vector_api_Dot.rs) := by kernel_rfl
theorem F.slices_Grow_api_Vector_api_Dot.cl : callable Go.Proofs.Tryz.prog F.slices_Grow_api_Vector_api_Dot = true := by kernel_rfl
noncomputable def F.slices_insertionSortCmpFunc_api_Dot.r0 : Plan :=
  .rd 0 none (.mv (.tmp 1)) (some 10) false <|
  .rd 1 none (.bin .add (.tmp 10) (.const (.int .i64 1))) (some 11) false <|
  .rd 2 none (.mv (.tmp 11)) (some 8) false <|
  .done
noncomputable def F.slices_insertionSortCmpFunc_api_Dot.r1 : Plan :=
  .rd 0 none (.mv (.tmp 8)) (some 12) false <|
  .rd 1 none (.mv (.tmp 2)) (some 13) false <|
  .rd 2 none (.bin .lss (.tmp 12) (.tmp 13)) (some 14) false <|
  .done
noncomputable def F.slices_insertionSortCmpFunc_api_Dot.r2 : Plan :=
  .rd 0 none (.mv (.tmp 8)) (some 17) false <|
  .rd 1 none (.mv (.tmp 17)) (some 9) false <|
  .done
noncomputable def F.slices_insertionSortCmpFunc_api_Dot.r3 : Plan :=
  .rd 0 none (.mv (.tmp 9)) (some 18) false <|
  .rd 1 none (.mv (.tmp 1)) (some 19) false <|
  .rd 2 none (.bin .gtr (.tmp 18) (.tmp 19)) (some 20) false <|
  .rd 3 none (.mv (.tmp 20)) (some 21) false <|
  .rd 4 (some (21, true)) (.mv (.tmp 3)) (some 22) false <|
  .rd 5 (some (21, true)) (.mv (.tmp 0)) (some 23) false <|
  .rd 6 (some (21, true)) (.mv (.tmp 9)) (some 24) false <|
  .rd 7 (some (21, true)) (.idxA 2 (.tmp 23) (.tmp 24)) (some 25) false <|
  .rd 8 (some (21, true)) (.ldn 2 (.tmp 25)) (some 26) false <|
  .rd 9 (some (21, true)) (.mv (.tmp 0)) (some 27) false <|
  .rd 10 (some (21, true)) (.mv (.tmp 9)) (some 28) false <|
  .rd 11 (some (21, true)) (.bin .sub (.tmp 28) (.const (.int .i64 1))) (some 29) false <|
  .rd 12 (some (21, true)) (.idxA 2 (.tmp 27) (.tmp 29)) (some 30) false <|
  .rd 13 (some (21, true)) (.ldn 2 (.tmp 30)) (some 31) false <|
  .ef 14 (some (21, true)) (.callv (.tmp 22) [(.tmp 26), (.tmp 31)]) (some 32) [] (
  .rd 15 (some (21, true)) (.bin .lss (.tmp 32) (.const (.int .i64 0))) (some 33) false <|
  .rd 16 none (.pick (.tmp 21) (.tmp 33) (.const (.bool false))) (some 34) false <|
  .done) .none
noncomputable def F.slices_insertionSortCmpFunc_api_Dot.r4 : Plan :=
  .rd 0 none (.mv (.tmp 0)) (some 37) false <|
  .rd 1 none (.mv (.tmp 9)) (some 38) false <|
  .rd 2 none (.mv (.tmp 0)) (some 39) false <|
  .rd 3 none (.mv (.tmp 9)) (some 40) false <|
  .rd 4 none (.bin .sub (.tmp 40) (.const (.int .i64 1))) (some 41) false <|
  .rd 5 none (.mv (.tmp 0)) (some 42) false <|
  .rd 6 none (.mv (.tmp 9)) (some 43) false <|
  .rd 7 none (.bin .sub (.tmp 43) (.const (.int .i64 1))) (some 44) false <|
  .rd 8 none (.idxA 2 (.tmp 42) (.tmp 44)) (some 45) false <|
  .rd 9 none (.ldn 2 (.tmp 45)) (some 46) false <|
  .rd 10 none (.mv (.tmp 0)) (some 47) false <|
  .rd 11 none (.mv (.tmp 9)) (some 48) false <|
  .rd 12 none (.idxA 2 (.tmp 47) (.tmp 48)) (some 49) false <|
  .rd 13 none (.ldn 2 (.tmp 49)) (some 50) false <|
  .rd 14 none (.idxA 2 (.tmp 37) (.tmp 38)) (some 51) false <|
  .ef 15 none (.st 2 (.tmp 51) (.tmp 46)) none [2, 3, 4] (
  .rd 16 none (.idxA 2 (.tmp 39) (.tmp 41)) (some 52) false <|
  .ef 17 none (.st 2 (.tmp 52) (.tmp 50)) none [] (
  .done) .none) .none
noncomputable def F.slices_insertionSortCmpFunc_api_Dot.r5 : Plan :=
  .rd 0 none (.mv (.tmp 9)) (some 35) false <|
  .rd 1 none (.bin .sub (.tmp 35) (.const (.int .i64 1))) (some 36) false <|
  .rd 2 none (.mv (.tmp 36)) (some 9) false <|
  .done
noncomputable def F.slices_insertionSortCmpFunc_api_Dot.l0 : IC :=
    (.seq (.seq (.reg F.slices_insertionSortCmpFunc_api_Dot.r3)
    (.cond (.tmp 34) .skip (.exit 2)))
    (.seq (.block 3 (.reg F.slices_insertionSortCmpFunc_api_Dot.r4))
    (.reg F.slices_insertionSortCmpFunc_api_Dot.r5)))
noncomputable def F.slices_insertionSortCmpFunc_api_Dot.r6 : Plan :=
  .rd 0 none (.mv (.tmp 8)) (some 15) false <|
  .rd 1 none (.bin .add (.tmp 15) (.const (.int .i64 1))) (some 16) false <|
  .rd 2 none (.mv (.tmp 16)) (some 8) false <|
  .done
noncomputable def F.slices_insertionSortCmpFunc_api_Dot.l1 : IC :=
    (.seq (.seq (.reg F.slices_insertionSortCmpFunc_api_Dot.r1)
    (.cond (.tmp 14) .skip (.exit 0)))
    (.seq (.block 1 (.seq (.reg F.slices_insertionSortCmpFunc_api_Dot.r2)
    (.block 2 (.loop F.slices_insertionSortCmpFunc_api_Dot.l0))))
    (.reg F.slices_insertionSortCmpFunc_api_Dot.r6)))
noncomputable def F.slices_insertionSortCmpFunc_api_Dot.ic : IC :=
    (.seq (.reg F.slices_insertionSortCmpFunc_api_Dot.r0)
    (.block 0 (.loop F.slices_insertionSortCmpFunc_api_Dot.l1)))
noncomputable def F.slices_insertionSortCmpFunc_api_Dot.rs : List RO := []
theorem F.slices_insertionSortCmpFunc_api_Dot.ok : cFunc Go.Proofs.Tryz.prog F.slices_insertionSortCmpFunc_api_Dot = some (53, F.slices_insertionSortCmpFunc_api_Dot.ic, F.slices_insertionSortCmpFunc_api_Dot.rs) := by kernel_rfl
theorem F.slices_insertionSortCmpFunc_api_Dot.cl : callable Go.Proofs.Tryz.prog F.slices_insertionSortCmpFunc_api_Dot = true := by kernel_rfl
noncomputable def F.slices_heapSortCmpFunc_api_Dot.r0 : Plan :=
  .rd 0 none (.mv (.tmp 1)) (some 13) false <|
  .rd 1 none (.mv (.tmp 13)) (some 8) false <|
  .done
noncomputable def F.slices_heapSortCmpFunc_api_Dot.r1 : Plan :=
  .rd 0 none (.mv (.const (.int .i64 0))) (some 9) false <|
  .done
noncomputable def F.slices_heapSortCmpFunc_api_Dot.r2 : Plan :=
  .rd 0 none (.mv (.tmp 2)) (some 14) false <|
  .rd 1 none (.mv (.tmp 1)) (some 15) false <|
  .rd 2 none (.bin .sub (.tmp 14) (.tmp 15)) (some 16) false <|
  .rd 3 none (.mv (.tmp 16)) (some 10) false <|
  .done
noncomputable def F.slices_heapSortCmpFunc_api_Dot.r3 : Plan :=
  .rd 0 none (.mv (.tmp 10)) (some 17) false <|
  .rd 1 none (.bin .sub (.tmp 17) (.const (.int .i64 1))) (some 18) false <|
  .rd 2 none (.bin .quo (.tmp 18) (.const (.int .i64 2))) (some 19) false <|
  .rd 3 none (.mv (.tmp 19)) (some 11) false <|
  .done
noncomputable def F.slices_heapSortCmpFunc_api_Dot.r4 : Plan :=
  .rd 0 none (.mv (.tmp 11)) (some 20) false <|
  .rd 1 none (.bin .geq (.tmp 20) (.const (.int .i64 0))) (some 21) false <|
  .done
noncomputable def F.slices_heapSortCmpFunc_api_Dot.r5 : Plan :=
  .rd 0 none (.mv (.tmp 0)) (some 24) false <|
  .rd 1 none (.mv (.tmp 11)) (some 25) false <|
  .rd 2 none (.mv (.tmp 10)) (some 26) false <|
  .rd 3 none (.mv (.tmp 8)) (some 27) false <|
  .rd 4 none (.mv (.tmp 3)) (some 28) false <|
  .ef 5 none (.call F.slices_siftDownCmpFunc_api_Dot [(.tmp 24), (.tmp 25), (.tmp 26), (.tmp 27), (.tmp 28)]) (some 29) [] (
  .done) .none
noncomputable def F.slices_heapSortCmpFunc_api_Dot.r6 : Plan :=
  .rd 0 none (.mv (.tmp 11)) (some 22) false <|
  .rd 1 none (.bin .sub (.tmp 22) (.const (.int .i64 1))) (some 23) false <|
  .rd 2 none (.mv (.tmp 23)) (some 11) false <|
  .done
noncomputable def F.slices_heapSortCmpFunc_api_Dot.l0 : IC :=
    (.seq (.seq (.reg F.slices_heapSortCmpFunc_api_Dot.r4)
    (.cond (.tmp 21) .skip (.exit 0)))
    (.seq (.block 1 (.reg F.slices_heapSortCmpFunc_api_Dot.r5))
    (.reg F.slices_heapSortCmpFunc_api_Dot.r6)))
noncomputable def F.slices_heapSortCmpFunc_api_Dot.r7 : Plan :=
  .rd 0 none (.mv (.tmp 10)) (some 30) false <|
  .rd 1 none (.bin .sub (.tmp 30) (.const (.int .i64 1))) (some 31) false <|
  .rd 2 none (.mv (.tmp 31)) (some 12) false <|
  .done
noncomputable def F.slices_heapSortCmpFunc_api_Dot.r8 : Plan :=
  .rd 0 none (.mv (.tmp 12)) (some 32) false <|
  .rd 1 none (.bin .geq (.tmp 32) (.const (.int .i64 0))) (some 33) false <|
  .done
noncomputable def F.slices_heapSortCmpFunc_api_Dot.r9 : Plan :=
  .rd 0 none (.mv (.tmp 0)) (some 36) false <|
  .rd 1 none (.mv (.tmp 8)) (some 37) false <|
  .rd 2 none (.mv (.tmp 0)) (some 38) false <|
  .rd 3 none (.mv (.tmp 8)) (some 39) false <|
  .rd 4 none (.mv (.tmp 12)) (some 40) false <|
  .rd 5 none (.bin .add (.tmp 39) (.tmp 40)) (some 41) false <|
  .rd 6 none (.mv (.tmp 0)) (some 42) false <|
  .rd 7 none (.mv (.tmp 8)) (some 43) false <|
  .rd 8 none (.mv (.tmp 12)) (some 44) false <|
  .rd 9 none (.bin .add (.tmp 43) (.tmp 44)) (some 45) false <|
  .rd 10 none (.idxA 2 (.tmp 42) (.tmp 45)) (some 46) false <|
  .rd 11 none (.ldn 2 (.tmp 46)) (some 47) false <|
  .rd 12 none (.mv (.tmp 0)) (some 48) false <|
  .rd 13 none (.mv (.tmp 8)) (some 49) false <|
  .rd 14 none (.idxA 2 (.tmp 48) (.tmp 49)) (some 50) false <|
  .rd 15 none (.ldn 2 (.tmp 50)) (some 51) false <|
  .rd 16 none (.idxA 2 (.tmp 36) (.tmp 37)) (some 52) false <|
  .ef 17 none (.st 2 (.tmp 52) (.tmp 47)) none [2, 3, 4, 5] (
  .rd 18 none (.idxA 2 (.tmp 38) (.tmp 41)) (some 53) false <|
  .ef 19 none (.st 2 (.tmp 53) (.tmp 51)) none [] (
  .done) .none) .none
noncomputable def F.slices_heapSortCmpFunc_api_Dot.r10 : Plan :=
  .rd 0 none (.mv (.tmp 0)) (some 54) false <|
  .rd 1 none (.mv (.tmp 9)) (some 55) false <|
  .rd 2 none (.mv (.tmp 12)) (some 56) false <|
  .rd 3 none (.mv (.tmp 8)) (some 57) false <|
  .rd 4 none (.mv (.tmp 3)) (some 58) false <|
  .ef 5 none (.call F.slices_siftDownCmpFunc_api_Dot [(.tmp 54), (.tmp 55), (.tmp 56), (.tmp 57), (.tmp 58)]) (some 59) [] (
  .done) .none
noncomputable def F.slices_heapSortCmpFunc_api_Dot.r11 : Plan :=
  .rd 0 none (.mv (.tmp 12)) (some 34) false <|
  .rd 1 none (.bin .sub (.tmp 34) (.const (.int .i64 1))) (some 35) false <|
  .rd 2 none (.mv (.tmp 35)) (some 12) false <|
  .done
noncomputable def F.slices_heapSortCmpFunc_api_Dot.l1 : IC :=
    (.seq (.seq (.reg F.slices_heapSortCmpFunc_api_Dot.r8)
    (.cond (.tmp 33) .skip (.exit 2)))
    (.seq (.block 3 (.seq (.reg F.slices_heapSortCmpFunc_api_Dot.r9)
    (.reg F.slices_heapSortCmpFunc_api_Dot.r10)))
    (.reg F.slices_heapSortCmpFunc_api_Dot.r11)))
noncomputable def F.slices_heapSortCmpFunc_api_Dot.ic : IC :=
    (.seq (.reg F.slices_heapSortCmpFunc_api_Dot.r0)
    (.seq (.reg F.slices_heapSortCmpFunc_api_Dot.r1)
    (.seq (.reg F.slices_heapSortCmpFunc_api_Dot.r2)
    (.seq (.seq (.reg F.slices_heapSortCmpFunc_api_Dot.r3)
    (.block 0 (.loop F.slices_heapSortCmpFunc_api_Dot.l0)))
    (.seq (.reg F.slices_heapSortCmpFunc_api_Dot.r7)
    (.block 2 (.loop F.slices_heapSortCmpFunc_api_Dot.l1)))))))
noncomputable def F.slices_heapSortCmpFunc_api_Dot.rs : List RO := []
theorem F.slices_heapSortCmpFunc_api_Dot.ok : cFunc Go.Proofs.Tryz.prog F.slices_heapSortCmpFunc_api_Dot = some (60, F.slices_heapSortCmpFunc_api_Dot.ic, F.slices_heapSortCmpFunc_api_Dot.rs) := by kernel_rfl
theorem F.slices_heapSortCmpFunc_api_Dot.cl : callable Go.Proofs.Tryz.prog F.slices_heapSortCmpFunc_api_Dot = true := by kernel_rfl
noncomputable def F.slices_breakPatternsCmpFunc_api_Dot.r0 : Plan :=
  .rd 0 none (.mv (.tmp 2)) (some 13) false <|
  .rd 1 none (.mv (.tmp 1)) (some 14) false <|
  .rd 2 none (.bin .sub (.tmp 13) (.tmp 14)) (some 15) false <|
  .rd 3 none (.mv (.tmp 15)) (some 8) false <|
  .done
noncomputable def F.slices_breakPatternsCmpFunc_api_Dot.r1 : Plan :=
  .rd 0 none (.mv (.tmp 8)) (some 16) false <|
  .rd 1 none (.bin .geq (.tmp 16) (.const (.int .i64 8))) (some 17) false <|
  .done
noncomputable def F.slices_breakPatternsCmpFunc_api_Dot.r2 : Plan :=
  .rd 0 none (.mv (.tmp 8)) (some 18) false <|
  .rd 1 none (.convI .u64 (.tmp 18)) (some 19) false <|
  .ef 2 none (.alloc [(.int .u64 0)]) (some 9) [] (
  .ef 3 none (.st 1 (.tmp 9) (.tmp 19)) none [] (
  .done) .none) .none
noncomputable def F.slices_breakPatternsCmpFunc_api_Dot.r3 : Plan :=
  .rd 0 none (.mv (.tmp 8)) (some 20) false <|
  .ef 1 none (.call F.slices_nextPowerOfTwo [(.tmp 20)]) (some 21) [] (
  .rd 2 none (.mv (.tmp 21)) (some 10) false <|
  .done) .none
noncomputable def F.slices_breakPatternsCmpFunc_api_Dot.r4 : Plan :=
  .rd 0 none (.mv (.tmp 1)) (some 22) false <|
  .rd 1 none (.mv (.tmp 8)) (some 23) false <|
  .rd 2 none (.bin .quo (.tmp 23) (.const (.int .i64 4))) (some 24) false <|
  .rd 3 none (.bin .mul (.tmp 24) (.const (.int .i64 2))) (some 25) false <|
  .rd 4 none (.bin .add (.tmp 22) (.tmp 25)) (some 26) false <|
  .rd 5 none (.bin .sub (.tmp 26) (.const (.int .i64 1))) (some 27) false <|
  .rd 6 none (.mv (.tmp 27)) (some 11) false <|
  .done
noncomputable def F.slices_breakPatternsCmpFunc_api_Dot.r5 : Plan :=
  .rd 0 none (.mv (.tmp 11)) (some 28) false <|
  .rd 1 none (.mv (.tmp 1)) (some 29) false <|
  .rd 2 none (.mv (.tmp 8)) (some 30) false <|
  .rd 3 none (.bin .quo (.tmp 30) (.const (.int .i64 4))) (some 31) false <|
  .rd 4 none (.bin .mul (.tmp 31) (.const (.int .i64 2))) (some 32) false <|
  .rd 5 none (.bin .add (.tmp 29) (.tmp 32)) (some 33) false <|
  .rd 6 none (.bin .add (.tmp 33) (.const (.int .i64 1))) (some 34) false <|
  .rd 7 none (.bin .leq (.tmp 28) (.tmp 34)) (some 35) false <|
  .done
noncomputable def F.slices_breakPatternsCmpFunc_api_Dot.r6 : Plan :=
  .ef 0 none (.call F.slices_xorshift_Next [(.tmp 9)]) (some 38) [] (
  .rd 1 none (.mv (.tmp 10)) (some 39) false <|
  .rd 2 none (.bin .sub (.tmp 39) (.const (.int .u64 1))) (some 40) false <|
  .rd 3 none (.bin .and (.tmp 38) (.tmp 40)) (some 41) false <|
  .rd 4 none (.convI .i64 (.tmp 41)) (some 42) false <|
  .rd 5 none (.mv (.tmp 42)) (some 12) false <|
  .done) .none
noncomputable def F.slices_breakPatternsCmpFunc_api_Dot.r7 : Plan :=
  .rd 0 none (.mv (.tmp 12)) (some 43) false <|
  .rd 1 none (.mv (.tmp 8)) (some 44) false <|
  .rd 2 none (.bin .geq (.tmp 43) (.tmp 44)) (some 45) false <|
  .done
noncomputable def F.slices_breakPatternsCmpFunc_api_Dot.r8 : Plan :=
  .rd 0 none (.mv (.tmp 12)) (some 46) false <|
  .rd 1 none (.mv (.tmp 8)) (some 47) false <|
  .rd 2 none (.bin .sub (.tmp 46) (.tmp 47)) (some 48) false <|
  .rd 3 none (.mv (.tmp 48)) (some 12) false <|
  .done
noncomputable def F.slices_breakPatternsCmpFunc_api_Dot.r9 : Plan :=
  .rd 0 none (.mv (.tmp 0)) (some 49) false <|
  .rd 1 none (.mv (.tmp 11)) (some 50) false <|
  .rd 2 none (.mv (.tmp 0)) (some 51) false <|
  .rd 3 none (.mv (.tmp 1)) (some 52) false <|
  .rd 4 none (.mv (.tmp 12)) (some 53) false <|
  .rd 5 none (.bin .add (.tmp 52) (.tmp 53)) (some 54) false <|
  .rd 6 none (.mv (.tmp 0)) (some 55) false <|
  .rd 7 none (.mv (.tmp 1)) (some 56) false <|
  .rd 8 none (.mv (.tmp 12)) (some 57) false <|
  .rd 9 none (.bin .add (.tmp 56) (.tmp 57)) (some 58) false <|
  .rd 10 none (.idxA 2 (.tmp 55) (.tmp 58)) (some 59) false <|
  .rd 11 none (.ldn 2 (.tmp 59)) (some 60) false <|
  .rd 12 none (.mv (.tmp 0)) (some 61) false <|
  .rd 13 none (.mv (.tmp 11)) (some 62) false <|
  .rd 14 none (.idxA 2 (.tmp 61) (.tmp 62)) (some 63) false <|
  .rd 15 none (.ldn 2 (.tmp 63)) (some 64) false <|
  .rd 16 none (.idxA 2 (.tmp 49) (.tmp 50)) (some 65) false <|
  .ef 17 none (.st 2 (.tmp 65) (.tmp 60)) none [2, 3, 4, 5] (
  .rd 18 none (.idxA 2 (.tmp 51) (.tmp 54)) (some 66) false <|
  .ef 19 none (.st 2 (.tmp 66) (.tmp 64)) none [] (
  .done) .none) .none
noncomputable def F.slices_breakPatternsCmpFunc_api_Dot.r10 : Plan :=
  .rd 0 none (.mv (.tmp 11)) (some 36) false <|
  .rd 1 none (.bin .add (.tmp 36) (.const (.int .i64 1))) (some 37) false <|
  .rd 2 none (.mv (.tmp 37)) (some 11) false <|
  .done
noncomputable def F.slices_breakPatternsCmpFunc_api_Dot.l0 : IC :=
    (.seq (.seq (.reg F.slices_breakPatternsCmpFunc_api_Dot.r5)
    (.cond (.tmp 35) .skip (.exit 0)))
    (.seq (.block 1 (.seq (.reg F.slices_breakPatternsCmpFunc_api_Dot.r6)
    (.seq (.seq (.reg F.slices_breakPatternsCmpFunc_api_Dot.r7)
    (.cond (.tmp 45) (.reg F.slices_breakPatternsCmpFunc_api_Dot.r8) .skip))
    (.reg F.slices_breakPatternsCmpFunc_api_Dot.r9))))
    (.reg F.slices_breakPatternsCmpFunc_api_Dot.r10)))
noncomputable def F.slices_breakPatternsCmpFunc_api_Dot.ic : IC :=
    (.seq (.reg F.slices_breakPatternsCmpFunc_api_Dot.r0)
    (.seq (.reg F.slices_breakPatternsCmpFunc_api_Dot.r1)
    (.cond (.tmp 17) (.seq (.reg F.slices_breakPatternsCmpFunc_api_Dot.r2)
    (.seq (.reg F.slices_breakPatternsCmpFunc_api_Dot.r3)
    (.seq (.reg F.slices_breakPatternsCmpFunc_api_Dot.r4)
    (.block 0 (.loop F.slices_breakPatternsCmpFunc_api_Dot.l0))))) .skip)))
noncomputable def F.slices_breakPatternsCmpFunc_api_Dot.rs : List RO := []
theorem F.slices_breakPatternsCmpFunc_api_Dot.ok : cFunc Go.Proofs.Tryz.prog F.slices_breakPatternsCmpFunc_api_Dot = some (67, F.slices_breakPatternsCmpFunc_api_Dot.ic, F.slices_breakPatternsCmpFunc_api_Dot.rs) := by kernel_rfl
theorem F.slices_breakPatternsCmpFunc_api_Dot.cl : callable Go.Proofs.Tryz.prog F.slices_breakPatternsCmpFunc_api_Dot = true := by kernel_rfl
noncomputable def F.slices_choosePivotCmpFunc_api_Dot.r0 : Plan :=
  .rd 0 none (.mv (.const (.int .i64 0))) (some 8) false <|
  .rd 1 none (.mv (.const (.int .i64 0))) (some 9) false <|
  .done
noncomputable def F.slices_choosePivotCmpFunc_api_Dot.r1 : Plan :=
  .rd 0 none (.mv (.tmp 2)) (some 15) false <|
  .rd 1 none (.mv (.tmp 1)) (some 16) false <|
  .rd 2 none (.bin .sub (.tmp 15) (.tmp 16)) (some 17) false <|
  .rd 3 none (.mv (.tmp 17)) (some 10) false <|
  .done
noncomputable def F.slices_choosePivotCmpFunc_api_Dot.r2 : Plan :=
  .ef 0 none (.alloc [(.int .i64 0)]) (some 11) [] (
  .done) .none
noncomputable def F.slices_choosePivotCmpFunc_api_Dot.r3 : Plan :=
  .rd 0 none (.mv (.tmp 1)) (some 18) false <|
  .rd 1 none (.mv (.tmp 10)) (some 19) false <|
  .rd 2 none (.bin .quo (.tmp 19) (.const (.int .i64 4))) (some 20) false <|
  .rd 3 none (.bin .mul (.tmp 20) (.const (.int .i64 1))) (some 21) false <|
  .rd 4 none (.bin .add (.tmp 18) (.tmp 21)) (some 22) false <|
  .rd 5 none (.mv (.tmp 22)) (some 12) false <|
  .done
noncomputable def F.slices_choosePivotCmpFunc_api_Dot.r4 : Plan :=
  .rd 0 none (.mv (.tmp 1)) (some 23) false <|
  .rd 1 none (.mv (.tmp 10)) (some 24) false <|
  .rd 2 none (.bin .quo (.tmp 24) (.const (.int .i64 4))) (some 25) false <|
  .rd 3 none (.bin .mul (.tmp 25) (.const (.int .i64 2))) (some 26) false <|
  .rd 4 none (.bin .add (.tmp 23) (.tmp 26)) (some 27) false <|
  .rd 5 none (.mv (.tmp 27)) (some 13) false <|
  .done
noncomputable def F.slices_choosePivotCmpFunc_api_Dot.r5 : Plan :=
  .rd 0 none (.mv (.tmp 1)) (some 28) false <|
  .rd 1 none (.mv (.tmp 10)) (some 29) false <|
  .rd 2 none (.bin .quo (.tmp 29) (.const (.int .i64 4))) (some 30) false <|
  .rd 3 none (.bin .mul (.tmp 30) (.const (.int .i64 3))) (some 31) false <|
  .rd 4 none (.bin .add (.tmp 28) (.tmp 31)) (some 32) false <|
  .rd 5 none (.mv (.tmp 32)) (some 14) false <|
  .done
noncomputable def F.slices_choosePivotCmpFunc_api_Dot.r6 : Plan :=
  .rd 0 none (.mv (.tmp 10)) (some 33) false <|
  .rd 1 none (.bin .geq (.tmp 33) (.const (.int .i64 8))) (some 34) false <|
  .done
noncomputable def F.slices_choosePivotCmpFunc_api_Dot.r7 : Plan :=
  .rd 0 none (.mv (.tmp 10)) (some 35) false <|
  .rd 1 none (.bin .geq (.tmp 35) (.const (.int .i64 50))) (some 36) false <|
  .done
noncomputable def F.slices_choosePivotCmpFunc_api_Dot.r8 : Plan :=
  .rd 0 none (.mv (.tmp 0)) (some 37) false <|
  .rd 1 none (.mv (.tmp 12)) (some 38) false <|
  .rd 2 none (.mv (.tmp 3)) (some 39) false <|
  .ef 3 none (.call F.slices_medianAdjacentCmpFunc_api_Dot [(.tmp 37), (.tmp 38), (.tmp 11), (.tmp 39)]) (some 40) [] (
  .rd 4 none (.mv (.tmp 40)) (some 12) false <|
  .done) .none
noncomputable def F.slices_choosePivotCmpFunc_api_Dot.r9 : Plan :=
  .rd 0 none (.mv (.tmp 0)) (some 41) false <|
  .rd 1 none (.mv (.tmp 13)) (some 42) false <|
  .rd 2 none (.mv (.tmp 3)) (some 43) false <|
  .ef 3 none (.call F.slices_medianAdjacentCmpFunc_api_Dot [(.tmp 41), (.tmp 42), (.tmp 11), (.tmp 43)]) (some 44) [] (
  .rd 4 none (.mv (.tmp 44)) (some 13) false <|
  .done) .none
noncomputable def F.slices_choosePivotCmpFunc_api_Dot.r10 : Plan :=
  .rd 0 none (.mv (.tmp 0)) (some 45) false <|
  .rd 1 none (.mv (.tmp 14)) (some 46) false <|
  .rd 2 none (.mv (.tmp 3)) (some 47) false <|
  .ef 3 none (.call F.slices_medianAdjacentCmpFunc_api_Dot [(.tmp 45), (.tmp 46), (.tmp 11), (.tmp 47)]) (some 48) [] (
  .rd 4 none (.mv (.tmp 48)) (some 14) false <|
  .done) .none
noncomputable def F.slices_choosePivotCmpFunc_api_Dot.r11 : Plan :=
  .rd 0 none (.mv (.tmp 0)) (some 49) false <|
  .rd 1 none (.mv (.tmp 12)) (some 50) false <|
  .rd 2 none (.mv (.tmp 13)) (some 51) false <|
  .rd 3 none (.mv (.tmp 14)) (some 52) false <|
  .rd 4 none (.mv (.tmp 3)) (some 53) false <|
  .ef 5 none (.call F.slices_medianCmpFunc_api_Dot [(.tmp 49), (.tmp 50), (.tmp 51), (.tmp 52), (.tmp 11), (.tmp 53)]) (some 54) [] (
  .rd 6 none (.mv (.tmp 54)) (some 13) false <|
  .done) .none
noncomputable def F.slices_choosePivotCmpFunc_api_Dot.r12 : Plan :=
  .rd 0 none (.ld1 (.tmp 11)) (some 55) false <|
  .done
noncomputable def F.slices_choosePivotCmpFunc_api_Dot.r13 : Plan :=
  .rd 0 none (.bin .eql (.tmp 55) (.const (.int .i64 0))) (some 58) false <|
  .rd 1 none (.mv (.tmp 58)) (some 57) false <|
  .done
noncomputable def F.slices_choosePivotCmpFunc_api_Dot.r14 : Plan :=
  .rd 0 none (.mv (.tmp 13)) (some 59) false <|
  .rd 1 none (.mv (.tmp 59)) (some 8) false <|
  .rd 2 none (.mv (.const (.int .i64 1))) (some 9) false <|
  .done
noncomputable def F.slices_choosePivotCmpFunc_api_Dot.r15 : Plan :=
  .rd 0 none (.bin .eql (.tmp 55) (.const (.int .i64 12))) (some 61) false <|
  .rd 1 none (.mv (.tmp 61)) (some 60) false <|
  .done
noncomputable def F.slices_choosePivotCmpFunc_api_Dot.r16 : Plan :=
  .rd 0 none (.mv (.tmp 13)) (some 62) false <|
  .rd 1 none (.mv (.tmp 62)) (some 8) false <|
  .rd 2 none (.mv (.const (.int .i64 2))) (some 9) false <|
  .done
noncomputable def F.slices_choosePivotCmpFunc_api_Dot.r17 : Plan :=
  .rd 0 none (.mv (.tmp 13)) (some 56) false <|
  .rd 1 none (.mv (.tmp 56)) (some 8) false <|
  .rd 2 none (.mv (.const (.int .i64 0))) (some 9) false <|
  .done
noncomputable def F.slices_choosePivotCmpFunc_api_Dot.ic : IC :=
    (.seq (.reg F.slices_choosePivotCmpFunc_api_Dot.r0)
    (.seq (.reg F.slices_choosePivotCmpFunc_api_Dot.r1)
    (.seq (.reg F.slices_choosePivotCmpFunc_api_Dot.r2)
    (.seq (.reg F.slices_choosePivotCmpFunc_api_Dot.r3)
    (.seq (.reg F.slices_choosePivotCmpFunc_api_Dot.r4)
    (.seq (.reg F.slices_choosePivotCmpFunc_api_Dot.r5)
    (.seq (.seq (.reg F.slices_choosePivotCmpFunc_api_Dot.r6)
    (.cond (.tmp 34) (.seq (.seq (.reg F.slices_choosePivotCmpFunc_api_Dot.r7)
    (.cond (.tmp 36) (.seq (.reg F.slices_choosePivotCmpFunc_api_Dot.r8)
    (.seq (.reg F.slices_choosePivotCmpFunc_api_Dot.r9)
    (.reg F.slices_choosePivotCmpFunc_api_Dot.r10))) .skip))
    (.reg F.slices_choosePivotCmpFunc_api_Dot.r11)) .skip))
    (.seq (.reg F.slices_choosePivotCmpFunc_api_Dot.r12)
    (.block 0 (.seq (.reg F.slices_choosePivotCmpFunc_api_Dot.r13)
    (.cond (.tmp 57) (.seq (.reg F.slices_choosePivotCmpFunc_api_Dot.r14)
    .ret) (.seq (.reg F.slices_choosePivotCmpFunc_api_Dot.r15)
    (.cond (.tmp 60) (.seq (.reg F.slices_choosePivotCmpFunc_api_Dot.r16)
    .ret) (.seq (.reg F.slices_choosePivotCmpFunc_api_Dot.r17)
    .ret))))))))))))))
noncomputable def F.slices_choosePivotCmpFunc_api_Dot.rs : List RO := [(.mv (.tmp 8)), (.mv (.tmp 9))]
theorem F.slices_choosePivotCmpFunc_api_Dot.ok : cFunc Go.Proofs.Tryz.prog F.slices_choosePivotCmpFunc_api_Dot = some (63, F.slices_choosePivotCmpFunc_api_Dot.ic, F.slices_choosePivotCmpFunc_api_Dot.rs) := by kernel_rfl
theorem F.slices_choosePivotCmpFunc_api_Dot.cl : callable Go.Proofs.Tryz.prog F.slices_choosePivotCmpFunc_api_Dot = true := by kernel_rfl
noncomputable def F.slices_reverseRangeCmpFunc_api_Dot.r0 : Plan :=
  .rd 0 none (.mv (.tmp 1)) (some 10) false <|
  .rd 1 none (.mv (.tmp 10)) (some 8) false <|
  .done
noncomputable def F.slices_reverseRangeCmpFunc_api_Dot.r1 : Plan :=
  .rd 0 none (.mv (.tmp 2)) (some 11) false <|
  .rd 1 none (.bin .sub (.tmp 11) (.const (.int .i64 1))) (some 12) false <|
  .rd 2 none (.mv (.tmp 12)) (some 9) false <|
  .done
noncomputable def F.slices_reverseRangeCmpFunc_api_Dot.r2 : Plan :=
  .rd 0 none (.mv (.tmp 8)) (some 13) false <|
  .rd 1 none (.mv (.tmp 9)) (some 14) false <|
  .rd 2 none (.bin .lss (.tmp 13) (.tmp 14)) (some 15) false <|
  .done
noncomputable def F.slices_reverseRangeCmpFunc_api_Dot.r3 : Plan :=
  .rd 0 none (.mv (.tmp 0)) (some 16) false <|
  .rd 1 none (.mv (.tmp 8)) (some 17) false <|
  .rd 2 none (.mv (.tmp 0)) (some 18) false <|
  .rd 3 none (.mv (.tmp 9)) (some 19) false <|
  .rd 4 none (.mv (.tmp 0)) (some 20) false <|
  .rd 5 none (.mv (.tmp 9)) (some 21) false <|
  .rd 6 none (.idxA 2 (.tmp 20) (.tmp 21)) (some 22) false <|
  .rd 7 none (.ldn 2 (.tmp 22)) (some 23) false <|
  .rd 8 none (.mv (.tmp 0)) (some 24) false <|
  .rd 9 none (.mv (.tmp 8)) (some 25) false <|
  .rd 10 none (.idxA 2 (.tmp 24) (.tmp 25)) (some 26) false <|
  .rd 11 none (.ldn 2 (.tmp 26)) (some 27) false <|
  .rd 12 none (.idxA 2 (.tmp 16) (.tmp 17)) (some 28) false <|
  .ef 13 none (.st 2 (.tmp 28) (.tmp 23)) none [2, 3] (
  .rd 14 none (.idxA 2 (.tmp 18) (.tmp 19)) (some 29) false <|
  .ef 15 none (.st 2 (.tmp 29) (.tmp 27)) none [] (
  .done) .none) .none
noncomputable def F.slices_reverseRangeCmpFunc_api_Dot.r4 : Plan :=
  .rd 0 none (.mv (.tmp 8)) (some 30) false <|
  .rd 1 none (.bin .add (.tmp 30) (.const (.int .i64 1))) (some 31) false <|
  .rd 2 none (.mv (.tmp 31)) (some 8) false <|
  .done
noncomputable def F.slices_reverseRangeCmpFunc_api_Dot.r5 : Plan :=
  .rd 0 none (.mv (.tmp 9)) (some 32) false <|
  .rd 1 none (.bin .sub (.tmp 32) (.const (.int .i64 1))) (some 33) false <|
  .rd 2 none (.mv (.tmp 33)) (some 9) false <|
  .done
noncomputable def F.slices_reverseRangeCmpFunc_api_Dot.l0 : IC :=
    (.seq (.seq (.reg F.slices_reverseRangeCmpFunc_api_Dot.r2)
    (.cond (.tmp 15) .skip (.exit 0)))
    (.block 1 (.seq (.reg F.slices_reverseRangeCmpFunc_api_Dot.r3)
    (.seq (.reg F.slices_reverseRangeCmpFunc_api_Dot.r4)
    (.reg F.slices_reverseRangeCmpFunc_api_Dot.r5)))))
noncomputable def F.slices_reverseRangeCmpFunc_api_Dot.ic : IC :=
    (.seq (.reg F.slices_reverseRangeCmpFunc_api_Dot.r0)
    (.seq (.reg F.slices_reverseRangeCmpFunc_api_Dot.r1)
    (.block 0 (.loop F.slices_reverseRangeCmpFunc_api_Dot.l0))))
noncomputable def F.slices_reverseRangeCmpFunc_api_Dot.rs : List RO := []
theorem F.slices_reverseRangeCmpFunc_api_Dot.ok : cFunc Go.Proofs.Tryz.prog F.slices_reverseRangeCmpFunc_api_Dot = some (34, F.slices_reverseRangeCmpFunc_api_Dot.ic, F.slices_reverseRangeCmpFunc_api_Dot.rs) := by kernel_rfl
theorem F.slices_reverseRangeCmpFunc_api_Dot.cl : callable Go.Proofs.Tryz.prog F.slices_reverseRangeCmpFunc_api_Dot = true := by kernel_rfl
noncomputable def F.slices_partialInsertionSortCmpFunc_api_Dot.r0 : Plan :=
  .rd 0 none (.mv (.const (.bool false))) (some 8) false <|
  .done
noncomputable def F.slices_partialInsertionSortCmpFunc_api_Dot.r1 : Plan :=
  .rd 0 none (.mv (.tmp 1)) (some 13) false <|
  .rd 1 none (.bin .add (.tmp 13) (.const (.int .i64 1))) (some 14) false <|
  .rd 2 none (.mv (.tmp 14)) (some 9) false <|
  .done
noncomputable def F.slices_partialInsertionSortCmpFunc_api_Dot.r2 : Plan :=
  .rd 0 none (.mv (.const (.int .i64 0))) (some 10) false <|
  .done
noncomputable def F.slices_partialInsertionSortCmpFunc_api_Dot.r3 : Plan :=
  .rd 0 none (.mv (.tmp 10)) (some 15) false <|
  .rd 1 none (.bin .lss (.tmp 15) (.const (.int .i64 5))) (some 16) false <|
  .done
noncomputable def F.slices_partialInsertionSortCmpFunc_api_Dot.r4 : Plan :=
  .rd 0 none (.mv (.tmp 9)) (some 19) false <|
  .rd 1 none (.mv (.tmp 2)) (some 20) false <|
  .rd 2 none (.bin .lss (.tmp 19) (.tmp 20)) (some 21) false <|
  .rd 3 none (.mv (.tmp 21)) (some 22) false <|
  .rd 4 (some (22, true)) (.mv (.tmp 3)) (some 23) false <|
  .rd 5 (some (22, true)) (.mv (.tmp 0)) (some 24) false <|
  .rd 6 (some (22, true)) (.mv (.tmp 9)) (some 25) false <|
  .rd 7 (some (22, true)) (.idxA 2 (.tmp 24) (.tmp 25)) (some 26) false <|
  .rd 8 (some (22, true)) (.ldn 2 (.tmp 26)) (some 27) false <|
  .rd 9 (some (22, true)) (.mv (.tmp 0)) (some 28) false <|
  .rd 10 (some (22, true)) (.mv (.tmp 9)) (some 29) false <|
  .rd 11 (some (22, true)) (.bin .sub (.tmp 29) (.const (.int .i64 1))) (some 30) false <|
  .rd 12 (some (22, true)) (.idxA 2 (.tmp 28) (.tmp 30)) (some 31) false <|
  .rd 13 (some (22, true)) (.ldn 2 (.tmp 31)) (some 32) false <|
  .ef 14 (some (22, true)) (.callv (.tmp 23) [(.tmp 27), (.tmp 32)]) (some 33) [] (
  .rd 15 (some (22, true)) (.bin .lss (.tmp 33) (.const (.int .i64 0))) (some 34) false <|
  .rd 16 (some (22, true)) (.un .not (.tmp 34)) (some 35) false <|
  .rd 17 none (.pick (.tmp 22) (.tmp 35) (.const (.bool false))) (some 36) false <|
  .done) .none
noncomputable def F.slices_partialInsertionSortCmpFunc_api_Dot.r5 : Plan :=
  .rd 0 none (.mv (.tmp 9)) (some 37) false <|
  .rd 1 none (.bin .add (.tmp 37) (.const (.int .i64 1))) (some 38) false <|
  .rd 2 none (.mv (.tmp 38)) (some 9) false <|
  .done
noncomputable def F.slices_partialInsertionSortCmpFunc_api_Dot.l0 : IC :=
    (.seq (.seq (.reg F.slices_partialInsertionSortCmpFunc_api_Dot.r4)
    (.cond (.tmp 36) .skip (.exit 2)))
    (.block 3 (.reg F.slices_partialInsertionSortCmpFunc_api_Dot.r5)))
noncomputable def F.slices_partialInsertionSortCmpFunc_api_Dot.r6 : Plan :=
  .rd 0 none (.mv (.tmp 9)) (some 39) false <|
  .rd 1 none (.mv (.tmp 2)) (some 40) false <|
  .rd 2 none (.bin .eql (.tmp 39) (.tmp 40)) (some 41) false <|
  .done
noncomputable def F.slices_partialInsertionSortCmpFunc_api_Dot.r7 : Plan :=
  .rd 0 none (.mv (.const (.bool true))) (some 8) false <|
  .done
noncomputable def F.slices_partialInsertionSortCmpFunc_api_Dot.r8 : Plan :=
  .rd 0 none (.mv (.tmp 2)) (some 42) false <|
  .rd 1 none (.mv (.tmp 1)) (some 43) false <|
  .rd 2 none (.bin .sub (.tmp 42) (.tmp 43)) (some 44) false <|
  .rd 3 none (.bin .lss (.tmp 44) (.const (.int .i64 50))) (some 45) false <|
  .done
noncomputable def F.slices_partialInsertionSortCmpFunc_api_Dot.r9 : Plan :=
  .rd 0 none (.mv (.const (.bool false))) (some 8) false <|
  .done
noncomputable def F.slices_partialInsertionSortCmpFunc_api_Dot.r10 : Plan :=
  .rd 0 none (.mv (.tmp 0)) (some 46) false <|
  .rd 1 none (.mv (.tmp 9)) (some 47) false <|
  .rd 2 none (.mv (.tmp 0)) (some 48) false <|
  .rd 3 none (.mv (.tmp 9)) (some 49) false <|
  .rd 4 none (.bin .sub (.tmp 49) (.const (.int .i64 1))) (some 50) false <|
  .rd 5 none (.mv (.tmp 0)) (some 51) false <|
  .rd 6 none (.mv (.tmp 9)) (some 52) false <|
  .rd 7 none (.bin .sub (.tmp 52) (.const (.int .i64 1))) (some 53) false <|
  .rd 8 none (.idxA 2 (.tmp 51) (.tmp 53)) (some 54) false <|
  .rd 9 none (.ldn 2 (.tmp 54)) (some 55) false <|
  .rd 10 none (.mv (.tmp 0)) (some 56) false <|
  .rd 11 none (.mv (.tmp 9)) (some 57) false <|
  .rd 12 none (.idxA 2 (.tmp 56) (.tmp 57)) (some 58) false <|
  .rd 13 none (.ldn 2 (.tmp 58)) (some 59) false <|
  .rd 14 none (.idxA 2 (.tmp 46) (.tmp 47)) (some 60) false <|
  .ef 15 none (.st 2 (.tmp 60) (.tmp 55)) none [2, 3, 4] (
  .rd 16 none (.idxA 2 (.tmp 48) (.tmp 50)) (some 61) false <|
  .ef 17 none (.st 2 (.tmp 61) (.tmp 59)) none [] (
  .done) .none) .none
noncomputable def F.slices_partialInsertionSortCmpFunc_api_Dot.r11 : Plan :=
  .rd 0 none (.mv (.tmp 9)) (some 62) false <|
  .rd 1 none (.mv (.tmp 1)) (some 63) false <|
  .rd 2 none (.bin .sub (.tmp 62) (.tmp 63)) (some 64) false <|
  .rd 3 none (.bin .geq (.tmp 64) (.const (.int .i64 2))) (some 65) false <|
  .done
noncomputable def F.slices_partialInsertionSortCmpFunc_api_Dot.r12 : Plan :=
  .rd 0 none (.mv (.tmp 9)) (some 66) false <|
  .rd 1 none (.bin .sub (.tmp 66) (.const (.int .i64 1))) (some 67) false <|
  .rd 2 none (.mv (.tmp 67)) (some 11) false <|
  .done
noncomputable def F.slices_partialInsertionSortCmpFunc_api_Dot.r13 : Plan :=
  .rd 0 none (.mv (.tmp 11)) (some 68) false <|
  .rd 1 none (.bin .geq (.tmp 68) (.const (.int .i64 1))) (some 69) false <|
  .done
noncomputable def F.slices_partialInsertionSortCmpFunc_api_Dot.r14 : Plan :=
  .rd 0 none (.mv (.tmp 3)) (some 72) false <|
  .rd 1 none (.mv (.tmp 0)) (some 73) false <|
  .rd 2 none (.mv (.tmp 11)) (some 74) false <|
  .rd 3 none (.idxA 2 (.tmp 73) (.tmp 74)) (some 75) false <|
  .rd 4 none (.ldn 2 (.tmp 75)) (some 76) false <|
  .rd 5 none (.mv (.tmp 0)) (some 77) false <|
  .rd 6 none (.mv (.tmp 11)) (some 78) false <|
  .rd 7 none (.bin .sub (.tmp 78) (.const (.int .i64 1))) (some 79) false <|
  .rd 8 none (.idxA 2 (.tmp 77) (.tmp 79)) (some 80) false <|
  .rd 9 none (.ldn 2 (.tmp 80)) (some 81) false <|
  .ef 10 none (.callv (.tmp 72) [(.tmp 76), (.tmp 81)]) (some 82) [] (
  .rd 11 none (.bin .lss (.tmp 82) (.const (.int .i64 0))) (some 83) false <|
  .rd 12 none (.un .not (.tmp 83)) (some 84) false <|
  .done) .none
noncomputable def F.slices_partialInsertionSortCmpFunc_api_Dot.r15 : Plan :=
  .rd 0 none (.mv (.tmp 0)) (some 85) false <|
  .rd 1 none (.mv (.tmp 11)) (some 86) false <|
  .rd 2 none (.mv (.tmp 0)) (some 87) false <|
  .rd 3 none (.mv (.tmp 11)) (some 88) false <|
  .rd 4 none (.bin .sub (.tmp 88) (.const (.int .i64 1))) (some 89) false <|
  .rd 5 none (.mv (.tmp 0)) (some 90) false <|
  .rd 6 none (.mv (.tmp 11)) (some 91) false <|
  .rd 7 none (.bin .sub (.tmp 91) (.const (.int .i64 1))) (some 92) false <|
  .rd 8 none (.idxA 2 (.tmp 90) (.tmp 92)) (some 93) false <|
  .rd 9 none (.ldn 2 (.tmp 93)) (some 94) false <|
  .rd 10 none (.mv (.tmp 0)) (some 95) false <|
  .rd 11 none (.mv (.tmp 11)) (some 96) false <|
  .rd 12 none (.idxA 2 (.tmp 95) (.tmp 96)) (some 97) false <|
  .rd 13 none (.ldn 2 (.tmp 97)) (some 98) false <|
  .rd 14 none (.idxA 2 (.tmp 85) (.tmp 86)) (some 99) false <|
  .ef 15 none (.st 2 (.tmp 99) (.tmp 94)) none [2, 3, 4] (
  .rd 16 none (.idxA 2 (.tmp 87) (.tmp 89)) (some 100) false <|
  .ef 17 none (.st 2 (.tmp 100) (.tmp 98)) none [] (
  .done) .none) .none
noncomputable def F.slices_partialInsertionSortCmpFunc_api_Dot.r16 : Plan :=
  .rd 0 none (.mv (.tmp 11)) (some 70) false <|
  .rd 1 none (.bin .sub (.tmp 70) (.const (.int .i64 1))) (some 71) false <|
  .rd 2 none (.mv (.tmp 71)) (some 11) false <|
  .done
noncomputable def F.slices_partialInsertionSortCmpFunc_api_Dot.l1 : IC :=
    (.seq (.seq (.reg F.slices_partialInsertionSortCmpFunc_api_Dot.r13)
    (.cond (.tmp 69) .skip (.exit 4)))
    (.seq (.block 5 (.seq (.seq (.reg F.slices_partialInsertionSortCmpFunc_api_Dot.r14)
    (.cond (.tmp 84) (.exit 4) .skip))
    (.reg F.slices_partialInsertionSortCmpFunc_api_Dot.r15)))
    (.reg F.slices_partialInsertionSortCmpFunc_api_Dot.r16)))
noncomputable def F.slices_partialInsertionSortCmpFunc_api_Dot.r17 : Plan :=
  .rd 0 none (.mv (.tmp 2)) (some 101) false <|
  .rd 1 none (.mv (.tmp 9)) (some 102) false <|
  .rd 2 none (.bin .sub (.tmp 101) (.tmp 102)) (some 103) false <|
  .rd 3 none (.bin .geq (.tmp 103) (.const (.int .i64 2))) (some 104) false <|
  .done
noncomputable def F.slices_partialInsertionSortCmpFunc_api_Dot.r18 : Plan :=
  .rd 0 none (.mv (.tmp 9)) (some 105) false <|
  .rd 1 none (.bin .add (.tmp 105) (.const (.int .i64 1))) (some 106) false <|
  .rd 2 none (.mv (.tmp 106)) (some 12) false <|
  .done
noncomputable def F.slices_partialInsertionSortCmpFunc_api_Dot.r19 : Plan :=
  .rd 0 none (.mv (.tmp 12)) (some 107) false <|
  .rd 1 none (.mv (.tmp 2)) (some 108) false <|
  .rd 2 none (.bin .lss (.tmp 107) (.tmp 108)) (some 109) false <|
  .done
noncomputable def F.slices_partialInsertionSortCmpFunc_api_Dot.r20 : Plan :=
  .rd 0 none (.mv (.tmp 3)) (some 112) false <|
  .rd 1 none (.mv (.tmp 0)) (some 113) false <|
  .rd 2 none (.mv (.tmp 12)) (some 114) false <|
  .rd 3 none (.idxA 2 (.tmp 113) (.tmp 114)) (some 115) false <|
  .rd 4 none (.ldn 2 (.tmp 115)) (some 116) false <|
  .rd 5 none (.mv (.tmp 0)) (some 117) false <|
  .rd 6 none (.mv (.tmp 12)) (some 118) false <|
  .rd 7 none (.bin .sub (.tmp 118) (.const (.int .i64 1))) (some 119) false <|
  .rd 8 none (.idxA 2 (.tmp 117) (.tmp 119)) (some 120) false <|
  .rd 9 none (.ldn 2 (.tmp 120)) (some 121) false <|
  .ef 10 none (.callv (.tmp 112) [(.tmp 116), (.tmp 121)]) (some 122) [] (
  .rd 11 none (.bin .lss (.tmp 122) (.const (.int .i64 0))) (some 123) false <|
  .rd 12 none (.un .not (.tmp 123)) (some 124) false <|
  .done) .none
noncomputable def F.slices_partialInsertionSortCmpFunc_api_Dot.r21 : Plan :=
  .rd 0 none (.mv (.tmp 0)) (some 125) false <|
  .rd 1 none (.mv (.tmp 12)) (some 126) false <|
  .rd 2 none (.mv (.tmp 0)) (some 127) false <|
  .rd 3 none (.mv (.tmp 12)) (some 128) false <|
  .rd 4 none (.bin .sub (.tmp 128) (.const (.int .i64 1))) (some 129) false <|
  .rd 5 none (.mv (.tmp 0)) (some 130) false <|
  .rd 6 none (.mv (.tmp 12)) (some 131) false <|
  .rd 7 none (.bin .sub (.tmp 131) (.const (.int .i64 1))) (some 132) false <|
  .rd 8 none (.idxA 2 (.tmp 130) (.tmp 132)) (some 133) false <|
  .rd 9 none (.ldn 2 (.tmp 133)) (some 134) false <|
  .rd 10 none (.mv (.tmp 0)) (some 135) false <|
  .rd 11 none (.mv (.tmp 12)) (some 136) false <|
  .rd 12 none (.idxA 2 (.tmp 135) (.tmp 136)) (some 137) false <|
  .rd 13 none (.ldn 2 (.tmp 137)) (some 138) false <|
  .rd 14 none (.idxA 2 (.tmp 125) (.tmp 126)) (some 139) false <|
  .ef 15 none (.st 2 (.tmp 139) (.tmp 134)) none [2, 3, 4] (
  .rd 16 none (.idxA 2 (.tmp 127) (.tmp 129)) (some 140) false <|
  .ef 17 none (.st 2 (.tmp 140) (.tmp 138)) none [] (
  .done) .none) .none
noncomputable def F.slices_partialInsertionSortCmpFunc_api_Dot.r22 : Plan :=
  .rd 0 none (.mv (.tmp 12)) (some 110) false <|
  .rd 1 none (.bin .add (.tmp 110) (.const (.int .i64 1))) (some 111) false <|
  .rd 2 none (.mv (.tmp 111)) (some 12) false <|
  .done
noncomputable def F.slices_partialInsertionSortCmpFunc_api_Dot.l2 : IC :=
    (.seq (.seq (.reg F.slices_partialInsertionSortCmpFunc_api_Dot.r19)
    (.cond (.tmp 109) .skip (.exit 6)))
    (.seq (.block 7 (.seq (.seq (.reg F.slices_partialInsertionSortCmpFunc_api_Dot.r20)
    (.cond (.tmp 124) (.exit 6) .skip))
    (.reg F.slices_partialInsertionSortCmpFunc_api_Dot.r21)))
    (.reg F.slices_partialInsertionSortCmpFunc_api_Dot.r22)))
noncomputable def F.slices_partialInsertionSortCmpFunc_api_Dot.r23 : Plan :=
  .rd 0 none (.mv (.tmp 10)) (some 17) false <|
  .rd 1 none (.bin .add (.tmp 17) (.const (.int .i64 1))) (some 18) false <|
  .rd 2 none (.mv (.tmp 18)) (some 10) false <|
  .done
noncomputable def F.slices_partialInsertionSortCmpFunc_api_Dot.l3 : IC :=
    (.seq (.seq (.reg F.slices_partialInsertionSortCmpFunc_api_Dot.r3)
    (.cond (.tmp 16) .skip (.exit 0)))
    (.seq (.block 1 (.seq (.block 2 (.loop F.slices_partialInsertionSortCmpFunc_api_Dot.l0))
    (.seq (.seq (.reg F.slices_partialInsertionSortCmpFunc_api_Dot.r6)
    (.cond (.tmp 41) (.seq (.reg F.slices_partialInsertionSortCmpFunc_api_Dot.r7)
    .ret) .skip))
    (.seq (.seq (.reg F.slices_partialInsertionSortCmpFunc_api_Dot.r8)
    (.cond (.tmp 45) (.seq (.reg F.slices_partialInsertionSortCmpFunc_api_Dot.r9)
    .ret) .skip))
    (.seq (.reg F.slices_partialInsertionSortCmpFunc_api_Dot.r10)
    (.seq (.seq (.reg F.slices_partialInsertionSortCmpFunc_api_Dot.r11)
    (.cond (.tmp 65) (.seq (.reg F.slices_partialInsertionSortCmpFunc_api_Dot.r12)
    (.block 4 (.loop F.slices_partialInsertionSortCmpFunc_api_Dot.l1))) .skip))
    (.seq (.reg F.slices_partialInsertionSortCmpFunc_api_Dot.r17)
    (.cond (.tmp 104) (.seq (.reg F.slices_partialInsertionSortCmpFunc_api_Dot.r18)
    (.block 6 (.loop F.slices_partialInsertionSortCmpFunc_api_Dot.l2))) .skip))))))))
    (.reg F.slices_partialInsertionSortCmpFunc_api_Dot.r23)))
noncomputable def F.slices_partialInsertionSortCmpFunc_api_Dot.r24 : Plan :=
  .rd 0 none (.mv (.const (.bool false))) (some 8) false <|
  .done
noncomputable def F.slices_partialInsertionSortCmpFunc_api_Dot.ic : IC :=
    (.seq (.reg F.slices_partialInsertionSortCmpFunc_api_Dot.r0)
    (.seq (.reg F.slices_partialInsertionSortCmpFunc_api_Dot.r1)
    (.seq (.seq (.reg F.slices_partialInsertionSortCmpFunc_api_Dot.r2)
    (.block 0 (.loop F.slices_partialInsertionSortCmpFunc_api_Dot.l3)))
    (.seq (.reg F.slices_partialInsertionSortCmpFunc_api_Dot.r24)
    .ret))))
noncomputable def F.slices_partialInsertionSortCmpFunc_api_Dot.rs : List RO := [(.mv (.tmp 8))]
theorem F.slices_partialInsertionSortCmpFunc_api_Dot.ok : cFunc Go.Proofs.Tryz.prog F.slices_partialInsertionSortCmpFunc_api_Dot = some (141, F.slices_partialInsertionSortCmpFunc_api_Dot.ic, F.slices_partialInsertionSortCmpFunc_api_Dot.rs) := by kernel_rfl
theorem F.slices_partialInsertionSortCmpFunc_api_Dot.cl : callable Go.Proofs.Tryz.prog F.slices_partialInsertionSortCmpFunc_api_Dot = true := by kernel_rfl
noncomputable def F.slices_partitionEqualCmpFunc_api_Dot.r0 : Plan :=
  .rd 0 none (.mv (.const (.int .i64 0))) (some 10) false <|
  .done
noncomputable def F.slices_partitionEqualCmpFunc_api_Dot.r1 : Plan :=
  .rd 0 none (.mv (.tmp 0)) (some 13) false <|
  .rd 1 none (.mv (.tmp 1)) (some 14) false <|
  .rd 2 none (.mv (.tmp 0)) (some 15) false <|
  .rd 3 none (.mv (.tmp 3)) (some 16) false <|
  .rd 4 none (.mv (.tmp 0)) (some 17) false <|
  .rd 5 none (.mv (.tmp 3)) (some 18) false <|
  .rd 6 none (.idxA 2 (.tmp 17) (.tmp 18)) (some 19) false <|
  .rd 7 none (.ldn 2 (.tmp 19)) (some 20) false <|
  .rd 8 none (.mv (.tmp 0)) (some 21) false <|
  .rd 9 none (.mv (.tmp 1)) (some 22) false <|
  .rd 10 none (.idxA 2 (.tmp 21) (.tmp 22)) (some 23) false <|
  .rd 11 none (.ldn 2 (.tmp 23)) (some 24) false <|
  .rd 12 none (.idxA 2 (.tmp 13) (.tmp 14)) (some 25) false <|
  .ef 13 none (.st 2 (.tmp 25) (.tmp 20)) none [2, 3] (
  .rd 14 none (.idxA 2 (.tmp 15) (.tmp 16)) (some 26) false <|
  .ef 15 none (.st 2 (.tmp 26) (.tmp 24)) none [] (
  .done) .none) .none
noncomputable def F.slices_partitionEqualCmpFunc_api_Dot.r2 : Plan :=
  .rd 0 none (.mv (.tmp 1)) (some 27) false <|
  .rd 1 none (.bin .add (.tmp 27) (.const (.int .i64 1))) (some 28) false <|
  .rd 2 none (.mv (.tmp 2)) (some 29) false <|
  .rd 3 none (.bin .sub (.tmp 29) (.const (.int .i64 1))) (some 30) false <|
  .rd 4 none (.mv (.tmp 28)) (some 11) false <|
  .rd 5 none (.mv (.tmp 30)) (some 12) false <|
  .done
noncomputable def F.slices_partitionEqualCmpFunc_api_Dot.r3 : Plan :=
  .rd 0 none (.mv (.tmp 11)) (some 31) false <|
  .rd 1 none (.mv (.tmp 12)) (some 32) false <|
  .rd 2 none (.bin .leq (.tmp 31) (.tmp 32)) (some 33) false <|
  .rd 3 none (.mv (.tmp 33)) (some 34) false <|
  .rd 4 (some (34, true)) (.mv (.tmp 4)) (some 35) false <|
  .rd 5 (some (34, true)) (.mv (.tmp 0)) (some 36) false <|
  .rd 6 (some (34, true)) (.mv (.tmp 1)) (some 37) false <|
  .rd 7 (some (34, true)) (.idxA 2 (.tmp 36) (.tmp 37)) (some 38) false <|
  .rd 8 (some (34, true)) (.ldn 2 (.tmp 38)) (some 39) false <|
  .rd 9 (some (34, true)) (.mv (.tmp 0)) (some 40) false <|
  .rd 10 (some (34, true)) (.mv (.tmp 11)) (some 41) false <|
  .rd 11 (some (34, true)) (.idxA 2 (.tmp 40) (.tmp 41)) (some 42) false <|
  .rd 12 (some (34, true)) (.ldn 2 (.tmp 42)) (some 43) false <|
  .ef 13 (some (34, true)) (.callv (.tmp 35) [(.tmp 39), (.tmp 43)]) (some 44) [] (
  .rd 14 (some (34, true)) (.bin .lss (.tmp 44) (.const (.int .i64 0))) (some 45) false <|
  .rd 15 (some (34, true)) (.un .not (.tmp 45)) (some 46) false <|
  .rd 16 none (.pick (.tmp 34) (.tmp 46) (.const (.bool false))) (some 47) false <|
  .done) .none
noncomputable def F.slices_partitionEqualCmpFunc_api_Dot.r4 : Plan :=
  .rd 0 none (.mv (.tmp 11)) (some 48) false <|
  .rd 1 none (.bin .add (.tmp 48) (.const (.int .i64 1))) (some 49) false <|
  .rd 2 none (.mv (.tmp 49)) (some 11) false <|
  .done
noncomputable def F.slices_partitionEqualCmpFunc_api_Dot.l0 : IC :=
    (.seq (.seq (.reg F.slices_partitionEqualCmpFunc_api_Dot.r3)
    (.cond (.tmp 47) .skip (.exit 2)))
    (.block 3 (.reg F.slices_partitionEqualCmpFunc_api_Dot.r4)))
noncomputable def F.slices_partitionEqualCmpFunc_api_Dot.r5 : Plan :=
  .rd 0 none (.mv (.tmp 11)) (some 50) false <|
  .rd 1 none (.mv (.tmp 12)) (some 51) false <|
  .rd 2 none (.bin .leq (.tmp 50) (.tmp 51)) (some 52) false <|
  .rd 3 none (.mv (.tmp 52)) (some 53) false <|
  .rd 4 (some (53, true)) (.mv (.tmp 4)) (some 54) false <|
  .rd 5 (some (53, true)) (.mv (.tmp 0)) (some 55) false <|
  .rd 6 (some (53, true)) (.mv (.tmp 1)) (some 56) false <|
  .rd 7 (some (53, true)) (.idxA 2 (.tmp 55) (.tmp 56)) (some 57) false <|
  .rd 8 (some (53, true)) (.ldn 2 (.tmp 57)) (some 58) false <|
  .rd 9 (some (53, true)) (.mv (.tmp 0)) (some 59) false <|
  .rd 10 (some (53, true)) (.mv (.tmp 12)) (some 60) false <|
  .rd 11 (some (53, true)) (.idxA 2 (.tmp 59) (.tmp 60)) (some 61) false <|
  .rd 12 (some (53, true)) (.ldn 2 (.tmp 61)) (some 62) false <|
  .ef 13 (some (53, true)) (.callv (.tmp 54) [(.tmp 58), (.tmp 62)]) (some 63) [] (
  .rd 14 (some (53, true)) (.bin .lss (.tmp 63) (.const (.int .i64 0))) (some 64) false <|
  .rd 15 none (.pick (.tmp 53) (.tmp 64) (.const (.bool false))) (some 65) false <|
  .done) .none
noncomputable def F.slices_partitionEqualCmpFunc_api_Dot.r6 : Plan :=
  .rd 0 none (.mv (.tmp 12)) (some 66) false <|
  .rd 1 none (.bin .sub (.tmp 66) (.const (.int .i64 1))) (some 67) false <|
  .rd 2 none (.mv (.tmp 67)) (some 12) false <|
  .done
noncomputable def F.slices_partitionEqualCmpFunc_api_Dot.l1 : IC :=
    (.seq (.seq (.reg F.slices_partitionEqualCmpFunc_api_Dot.r5)
    (.cond (.tmp 65) .skip (.exit 4)))
    (.block 5 (.reg F.slices_partitionEqualCmpFunc_api_Dot.r6)))
noncomputable def F.slices_partitionEqualCmpFunc_api_Dot.r7 : Plan :=
  .rd 0 none (.mv (.tmp 11)) (some 68) false <|
  .rd 1 none (.mv (.tmp 12)) (some 69) false <|
  .rd 2 none (.bin .gtr (.tmp 68) (.tmp 69)) (some 70) false <|
  .done
noncomputable def F.slices_partitionEqualCmpFunc_api_Dot.r8 : Plan :=
  .rd 0 none (.mv (.tmp 0)) (some 71) false <|
  .rd 1 none (.mv (.tmp 11)) (some 72) false <|
  .rd 2 none (.mv (.tmp 0)) (some 73) false <|
  .rd 3 none (.mv (.tmp 12)) (some 74) false <|
  .rd 4 none (.mv (.tmp 0)) (some 75) false <|
  .rd 5 none (.mv (.tmp 12)) (some 76) false <|
  .rd 6 none (.idxA 2 (.tmp 75) (.tmp 76)) (some 77) false <|
  .rd 7 none (.ldn 2 (.tmp 77)) (some 78) false <|
  .rd 8 none (.mv (.tmp 0)) (some 79) false <|
  .rd 9 none (.mv (.tmp 11)) (some 80) false <|
  .rd 10 none (.idxA 2 (.tmp 79) (.tmp 80)) (some 81) false <|
  .rd 11 none (.ldn 2 (.tmp 81)) (some 82) false <|
  .rd 12 none (.idxA 2 (.tmp 71) (.tmp 72)) (some 83) false <|
  .ef 13 none (.st 2 (.tmp 83) (.tmp 78)) none [2, 3] (
  .rd 14 none (.idxA 2 (.tmp 73) (.tmp 74)) (some 84) false <|
  .ef 15 none (.st 2 (.tmp 84) (.tmp 82)) none [] (
  .done) .none) .none
noncomputable def F.slices_partitionEqualCmpFunc_api_Dot.r9 : Plan :=
  .rd 0 none (.mv (.tmp 11)) (some 85) false <|
  .rd 1 none (.bin .add (.tmp 85) (.const (.int .i64 1))) (some 86) false <|
  .rd 2 none (.mv (.tmp 86)) (some 11) false <|
  .done
noncomputable def F.slices_partitionEqualCmpFunc_api_Dot.r10 : Plan :=
  .rd 0 none (.mv (.tmp 12)) (some 87) false <|
  .rd 1 none (.bin .sub (.tmp 87) (.const (.int .i64 1))) (some 88) false <|
  .rd 2 none (.mv (.tmp 88)) (some 12) false <|
  .done
noncomputable def F.slices_partitionEqualCmpFunc_api_Dot.l2 : IC :=
    (.block 1 (.seq (.block 2 (.loop F.slices_partitionEqualCmpFunc_api_Dot.l0))
    (.seq (.block 4 (.loop F.slices_partitionEqualCmpFunc_api_Dot.l1))
    (.seq (.seq (.reg F.slices_partitionEqualCmpFunc_api_Dot.r7)
    (.cond (.tmp 70) (.exit 0) .skip))
    (.seq (.reg F.slices_partitionEqualCmpFunc_api_Dot.r8)
    (.seq (.reg F.slices_partitionEqualCmpFunc_api_Dot.r9)
    (.reg F.slices_partitionEqualCmpFunc_api_Dot.r10)))))))
noncomputable def F.slices_partitionEqualCmpFunc_api_Dot.r11 : Plan :=
  .rd 0 none (.mv (.tmp 11)) (some 89) false <|
  .rd 1 none (.mv (.tmp 89)) (some 10) false <|
  .done
noncomputable def F.slices_partitionEqualCmpFunc_api_Dot.ic : IC :=
    (.seq (.reg F.slices_partitionEqualCmpFunc_api_Dot.r0)
    (.seq (.reg F.slices_partitionEqualCmpFunc_api_Dot.r1)
    (.seq (.reg F.slices_partitionEqualCmpFunc_api_Dot.r2)
    (.seq (.block 0 (.loop F.slices_partitionEqualCmpFunc_api_Dot.l2))
    (.seq (.reg F.slices_partitionEqualCmpFunc_api_Dot.r11)
    .ret)))))
noncomputable def F.slices_partitionEqualCmpFunc_api_Dot.rs : List RO := [(.mv (.tmp 10))]
theorem F.slices_partitionEqualCmpFunc_api_Dot.ok : cFunc Go.Proofs.Tryz.prog F.slices_partitionEqualCmpFunc_api_Dot = some (90, F.slices_partitionEqualCmpFunc_api_Dot.ic, F.slices_partitionEqualCmpFunc_api_Dot.rs) := by kernel_rfl
theorem F.slices_partitionEqualCmpFunc_api_Dot.cl : callable Go.Proofs.Tryz.prog F.slices_partitionEqualCmpFunc_api_Dot = true := by kernel_rfl
noncomputable def F.slices_partitionCmpFunc_api_Dot.r0 : Plan :=
  .rd 0 none (.mv (.const (.int .i64 0))) (some 10) false <|
  .rd 1 none (.mv (.const (.bool false))) (some 11) false <|
  .done
noncomputable def F.slices_partitionCmpFunc_api_Dot.r1 : Plan :=
  .rd 0 none (.mv (.tmp 0)) (some 14) false <|
  .rd 1 none (.mv (.tmp 1)) (some 15) false <|
  .rd 2 none (.mv (.tmp 0)) (some 16) false <|
  .rd 3 none (.mv (.tmp 3)) (some 17) false <|
  .rd 4 none (.mv (.tmp 0)) (some 18) false <|
  .rd 5 none (.mv (.tmp 3)) (some 19) false <|
  .rd 6 none (.idxA 2 (.tmp 18) (.tmp 19)) (some 20) false <|
  .rd 7 none (.ldn 2 (.tmp 20)) (some 21) false <|
  .rd 8 none (.mv (.tmp 0)) (some 22) false <|
  .rd 9 none (.mv (.tmp 1)) (some 23) false <|
  .rd 10 none (.idxA 2 (.tmp 22) (.tmp 23)) (some 24) false <|
  .rd 11 none (.ldn 2 (.tmp 24)) (some 25) false <|
  .rd 12 none (.idxA 2 (.tmp 14) (.tmp 15)) (some 26) false <|
  .ef 13 none (.st 2 (.tmp 26) (.tmp 21)) none [2, 3] (
  .rd 14 none (.idxA 2 (.tmp 16) (.tmp 17)) (some 27) false <|
  .ef 15 none (.st 2 (.tmp 27) (.tmp 25)) none [] (
  .done) .none) .none
noncomputable def F.slices_partitionCmpFunc_api_Dot.r2 : Plan :=
  .rd 0 none (.mv (.tmp 1)) (some 28) false <|
  .rd 1 none (.bin .add (.tmp 28) (.const (.int .i64 1))) (some 29) false <|
  .rd 2 none (.mv (.tmp 2)) (some 30) false <|
  .rd 3 none (.bin .sub (.tmp 30) (.const (.int .i64 1))) (some 31) false <|
  .rd 4 none (.mv (.tmp 29)) (some 12) false <|
  .rd 5 none (.mv (.tmp 31)) (some 13) false <|
  .done
noncomputable def F.slices_partitionCmpFunc_api_Dot.r3 : Plan :=
  .rd 0 none (.mv (.tmp 12)) (some 32) false <|
  .rd 1 none (.mv (.tmp 13)) (some 33) false <|
  .rd 2 none (.bin .leq (.tmp 32) (.tmp 33)) (some 34) false <|
  .rd 3 none (.mv (.tmp 34)) (some 35) false <|
  .rd 4 (some (35, true)) (.mv (.tmp 4)) (some 36) false <|
  .rd 5 (some (35, true)) (.mv (.tmp 0)) (some 37) false <|
  .rd 6 (some (35, true)) (.mv (.tmp 12)) (some 38) false <|
  .rd 7 (some (35, true)) (.idxA 2 (.tmp 37) (.tmp 38)) (some 39) false <|
  .rd 8 (some (35, true)) (.ldn 2 (.tmp 39)) (some 40) false <|
  .rd 9 (some (35, true)) (.mv (.tmp 0)) (some 41) false <|
  .rd 10 (some (35, true)) (.mv (.tmp 1)) (some 42) false <|
  .rd 11 (some (35, true)) (.idxA 2 (.tmp 41) (.tmp 42)) (some 43) false <|
  .rd 12 (some (35, true)) (.ldn 2 (.tmp 43)) (some 44) false <|
  .ef 13 (some (35, true)) (.callv (.tmp 36) [(.tmp 40), (.tmp 44)]) (some 45) [] (
  .rd 14 (some (35, true)) (.bin .lss (.tmp 45) (.const (.int .i64 0))) (some 46) false <|
  .rd 15 none (.pick (.tmp 35) (.tmp 46) (.const (.bool false))) (some 47) false <|
  .done) .none
noncomputable def F.slices_partitionCmpFunc_api_Dot.r4 : Plan :=
  .rd 0 none (.mv (.tmp 12)) (some 48) false <|
  .rd 1 none (.bin .add (.tmp 48) (.const (.int .i64 1))) (some 49) false <|
  .rd 2 none (.mv (.tmp 49)) (some 12) false <|
  .done
noncomputable def F.slices_partitionCmpFunc_api_Dot.l0 : IC :=
    (.seq (.seq (.reg F.slices_partitionCmpFunc_api_Dot.r3)
    (.cond (.tmp 47) .skip (.exit 0)))
    (.block 1 (.reg F.slices_partitionCmpFunc_api_Dot.r4)))
noncomputable def F.slices_partitionCmpFunc_api_Dot.r5 : Plan :=
  .rd 0 none (.mv (.tmp 12)) (some 50) false <|
  .rd 1 none (.mv (.tmp 13)) (some 51) false <|
  .rd 2 none (.bin .leq (.tmp 50) (.tmp 51)) (some 52) false <|
  .rd 3 none (.mv (.tmp 52)) (some 53) false <|
  .rd 4 (some (53, true)) (.mv (.tmp 4)) (some 54) false <|
  .rd 5 (some (53, true)) (.mv (.tmp 0)) (some 55) false <|
  .rd 6 (some (53, true)) (.mv (.tmp 13)) (some 56) false <|
  .rd 7 (some (53, true)) (.idxA 2 (.tmp 55) (.tmp 56)) (some 57) false <|
  .rd 8 (some (53, true)) (.ldn 2 (.tmp 57)) (some 58) false <|
  .rd 9 (some (53, true)) (.mv (.tmp 0)) (some 59) false <|
  .rd 10 (some (53, true)) (.mv (.tmp 1)) (some 60) false <|
  .rd 11 (some (53, true)) (.idxA 2 (.tmp 59) (.tmp 60)) (some 61) false <|
  .rd 12 (some (53, true)) (.ldn 2 (.tmp 61)) (some 62) false <|
  .ef 13 (some (53, true)) (.callv (.tmp 54) [(.tmp 58), (.tmp 62)]) (some 63) [] (
  .rd 14 (some (53, true)) (.bin .lss (.tmp 63) (.const (.int .i64 0))) (some 64) false <|
  .rd 15 (some (53, true)) (.un .not (.tmp 64)) (some 65) false <|
  .rd 16 none (.pick (.tmp 53) (.tmp 65) (.const (.bool false))) (some 66) false <|
  .done) .none
noncomputable def F.slices_partitionCmpFunc_api_Dot.r6 : Plan :=
  .rd 0 none (.mv (.tmp 13)) (some 67) false <|
  .rd 1 none (.bin .sub (.tmp 67) (.const (.int .i64 1))) (some 68) false <|
  .rd 2 none (.mv (.tmp 68)) (some 13) false <|
  .done
noncomputable def F.slices_partitionCmpFunc_api_Dot.l1 : IC :=
    (.seq (.seq (.reg F.slices_partitionCmpFunc_api_Dot.r5)
    (.cond (.tmp 66) .skip (.exit 2)))
    (.block 3 (.reg F.slices_partitionCmpFunc_api_Dot.r6)))
noncomputable def F.slices_partitionCmpFunc_api_Dot.r7 : Plan :=
  .rd 0 none (.mv (.tmp 12)) (some 69) false <|
  .rd 1 none (.mv (.tmp 13)) (some 70) false <|
  .rd 2 none (.bin .gtr (.tmp 69) (.tmp 70)) (some 71) false <|
  .done
noncomputable def F.slices_partitionCmpFunc_api_Dot.r8 : Plan :=
  .rd 0 none (.mv (.tmp 0)) (some 72) false <|
  .rd 1 none (.mv (.tmp 13)) (some 73) false <|
  .rd 2 none (.mv (.tmp 0)) (some 74) false <|
  .rd 3 none (.mv (.tmp 1)) (some 75) false <|
  .rd 4 none (.mv (.tmp 0)) (some 76) false <|
  .rd 5 none (.mv (.tmp 1)) (some 77) false <|
  .rd 6 none (.idxA 2 (.tmp 76) (.tmp 77)) (some 78) false <|
  .rd 7 none (.ldn 2 (.tmp 78)) (some 79) false <|
  .rd 8 none (.mv (.tmp 0)) (some 80) false <|
  .rd 9 none (.mv (.tmp 13)) (some 81) false <|
  .rd 10 none (.idxA 2 (.tmp 80) (.tmp 81)) (some 82) false <|
  .rd 11 none (.ldn 2 (.tmp 82)) (some 83) false <|
  .rd 12 none (.idxA 2 (.tmp 72) (.tmp 73)) (some 84) false <|
  .ef 13 none (.st 2 (.tmp 84) (.tmp 79)) none [2, 3] (
  .rd 14 none (.idxA 2 (.tmp 74) (.tmp 75)) (some 85) false <|
  .ef 15 none (.st 2 (.tmp 85) (.tmp 83)) none [] (
  .done) .none) .none
noncomputable def F.slices_partitionCmpFunc_api_Dot.r9 : Plan :=
  .rd 0 none (.mv (.tmp 13)) (some 86) false <|
  .rd 1 none (.mv (.tmp 86)) (some 10) false <|
  .rd 2 none (.mv (.const (.bool true))) (some 11) false <|
  .done
noncomputable def F.slices_partitionCmpFunc_api_Dot.r10 : Plan :=
  .rd 0 none (.mv (.tmp 0)) (some 87) false <|
  .rd 1 none (.mv (.tmp 12)) (some 88) false <|
  .rd 2 none (.mv (.tmp 0)) (some 89) false <|
  .rd 3 none (.mv (.tmp 13)) (some 90) false <|
  .rd 4 none (.mv (.tmp 0)) (some 91) false <|
  .rd 5 none (.mv (.tmp 13)) (some 92) false <|
  .rd 6 none (.idxA 2 (.tmp 91) (.tmp 92)) (some 93) false <|
  .rd 7 none (.ldn 2 (.tmp 93)) (some 94) false <|
  .rd 8 none (.mv (.tmp 0)) (some 95) false <|
  .rd 9 none (.mv (.tmp 12)) (some 96) false <|
  .rd 10 none (.idxA 2 (.tmp 95) (.tmp 96)) (some 97) false <|
  .rd 11 none (.ldn 2 (.tmp 97)) (some 98) false <|
  .rd 12 none (.idxA 2 (.tmp 87) (.tmp 88)) (some 99) false <|
  .ef 13 none (.st 2 (.tmp 99) (.tmp 94)) none [2, 3] (
  .rd 14 none (.idxA 2 (.tmp 89) (.tmp 90)) (some 100) false <|
  .ef 15 none (.st 2 (.tmp 100) (.tmp 98)) none [] (
  .done) .none) .none
noncomputable def F.slices_partitionCmpFunc_api_Dot.r11 : Plan :=
  .rd 0 none (.mv (.tmp 12)) (some 101) false <|
  .rd 1 none (.bin .add (.tmp 101) (.const (.int .i64 1))) (some 102) false <|
  .rd 2 none (.mv (.tmp 102)) (some 12) false <|
  .done
noncomputable def F.slices_partitionCmpFunc_api_Dot.r12 : Plan :=
  .rd 0 none (.mv (.tmp 13)) (some 103) false <|
  .rd 1 none (.bin .sub (.tmp 103) (.const (.int .i64 1))) (some 104) false <|
  .rd 2 none (.mv (.tmp 104)) (some 13) false <|
  .done
noncomputable def F.slices_partitionCmpFunc_api_Dot.r13 : Plan :=
  .rd 0 none (.mv (.tmp 12)) (some 105) false <|
  .rd 1 none (.mv (.tmp 13)) (some 106) false <|
  .rd 2 none (.bin .leq (.tmp 105) (.tmp 106)) (some 107) false <|
  .rd 3 none (.mv (.tmp 107)) (some 108) false <|
  .rd 4 (some (108, true)) (.mv (.tmp 4)) (some 109) false <|
  .rd 5 (some (108, true)) (.mv (.tmp 0)) (some 110) false <|
  .rd 6 (some (108, true)) (.mv (.tmp 12)) (some 111) false <|
  .rd 7 (some (108, true)) (.idxA 2 (.tmp 110) (.tmp 111)) (some 112) false <|
  .rd 8 (some (108, true)) (.ldn 2 (.tmp 112)) (some 113) false <|
  .rd 9 (some (108, true)) (.mv (.tmp 0)) (some 114) false <|
  .rd 10 (some (108, true)) (.mv (.tmp 1)) (some 115) false <|
  .rd 11 (some (108, true)) (.idxA 2 (.tmp 114) (.tmp 115)) (some 116) false <|
  .rd 12 (some (108, true)) (.ldn 2 (.tmp 116)) (some 117) false <|
  .ef 13 (some (108, true)) (.callv (.tmp 109) [(.tmp 113), (.tmp 117)]) (some 118) [] (
  .rd 14 (some (108, true)) (.bin .lss (.tmp 118) (.const (.int .i64 0))) (some 119) false <|
  .rd 15 none (.pick (.tmp 108) (.tmp 119) (.const (.bool false))) (some 120) false <|
  .done) .none
noncomputable def F.slices_partitionCmpFunc_api_Dot.r14 : Plan :=
  .rd 0 none (.mv (.tmp 12)) (some 121) false <|
  .rd 1 none (.bin .add (.tmp 121) (.const (.int .i64 1))) (some 122) false <|
  .rd 2 none (.mv (.tmp 122)) (some 12) false <|
  .done
noncomputable def F.slices_partitionCmpFunc_api_Dot.l2 : IC :=
    (.seq (.seq (.reg F.slices_partitionCmpFunc_api_Dot.r13)
    (.cond (.tmp 120) .skip (.exit 6)))
    (.block 7 (.reg F.slices_partitionCmpFunc_api_Dot.r14)))
noncomputable def F.slices_partitionCmpFunc_api_Dot.r15 : Plan :=
  .rd 0 none (.mv (.tmp 12)) (some 123) false <|
  .rd 1 none (.mv (.tmp 13)) (some 124) false <|
  .rd 2 none (.bin .leq (.tmp 123) (.tmp 124)) (some 125) false <|
  .rd 3 none (.mv (.tmp 125)) (some 126) false <|
  .rd 4 (some (126, true)) (.mv (.tmp 4)) (some 127) false <|
  .rd 5 (some (126, true)) (.mv (.tmp 0)) (some 128) false <|
  .rd 6 (some (126, true)) (.mv (.tmp 13)) (some 129) false <|
  .rd 7 (some (126, true)) (.idxA 2 (.tmp 128) (.tmp 129)) (some 130) false <|
  .rd 8 (some (126, true)) (.ldn 2 (.tmp 130)) (some 131) false <|
  .rd 9 (some (126, true)) (.mv (.tmp 0)) (some 132) false <|
  .rd 10 (some (126, true)) (.mv (.tmp 1)) (some 133) false <|
  .rd 11 (some (126, true)) (.idxA 2 (.tmp 132) (.tmp 133)) (some 134) false <|
  .rd 12 (some (126, true)) (.ldn 2 (.tmp 134)) (some 135) false <|
  .ef 13 (some (126, true)) (.callv (.tmp 127) [(.tmp 131), (.tmp 135)]) (some 136) [] (
  .rd 14 (some (126, true)) (.bin .lss (.tmp 136) (.const (.int .i64 0))) (some 137) false <|
  .rd 15 (some (126, true)) (.un .not (.tmp 137)) (some 138) false <|
  .rd 16 none (.pick (.tmp 126) (.tmp 138) (.const (.bool false))) (some 139) false <|
  .done) .none
noncomputable def F.slices_partitionCmpFunc_api_Dot.r16 : Plan :=
  .rd 0 none (.mv (.tmp 13)) (some 140) false <|
  .rd 1 none (.bin .sub (.tmp 140) (.const (.int .i64 1))) (some 141) false <|
  .rd 2 none (.mv (.tmp 141)) (some 13) false <|
  .done
noncomputable def F.slices_partitionCmpFunc_api_Dot.l3 : IC :=
    (.seq (.seq (.reg F.slices_partitionCmpFunc_api_Dot.r15)
    (.cond (.tmp 139) .skip (.exit 8)))
    (.block 9 (.reg F.slices_partitionCmpFunc_api_Dot.r16)))
noncomputable def F.slices_partitionCmpFunc_api_Dot.r17 : Plan :=
  .rd 0 none (.mv (.tmp 12)) (some 142) false <|
  .rd 1 none (.mv (.tmp 13)) (some 143) false <|
  .rd 2 none (.bin .gtr (.tmp 142) (.tmp 143)) (some 144) false <|
  .done
noncomputable def F.slices_partitionCmpFunc_api_Dot.r18 : Plan :=
  .rd 0 none (.mv (.tmp 0)) (some 145) false <|
  .rd 1 none (.mv (.tmp 12)) (some 146) false <|
  .rd 2 none (.mv (.tmp 0)) (some 147) false <|
  .rd 3 none (.mv (.tmp 13)) (some 148) false <|
  .rd 4 none (.mv (.tmp 0)) (some 149) false <|
  .rd 5 none (.mv (.tmp 13)) (some 150) false <|
  .rd 6 none (.idxA 2 (.tmp 149) (.tmp 150)) (some 151) false <|
  .rd 7 none (.ldn 2 (.tmp 151)) (some 152) false <|
  .rd 8 none (.mv (.tmp 0)) (some 153) false <|
  .rd 9 none (.mv (.tmp 12)) (some 154) false <|
  .rd 10 none (.idxA 2 (.tmp 153) (.tmp 154)) (some 155) false <|
  .rd 11 none (.ldn 2 (.tmp 155)) (some 156) false <|
  .rd 12 none (.idxA 2 (.tmp 145) (.tmp 146)) (some 157) false <|
  .ef 13 none (.st 2 (.tmp 157) (.tmp 152)) none [2, 3] (
  .rd 14 none (.idxA 2 (.tmp 147) (.tmp 148)) (some 158) false <|
  .ef 15 none (.st 2 (.tmp 158) (.tmp 156)) none [] (
  .done) .none) .none
noncomputable def F.slices_partitionCmpFunc_api_Dot.r19 : Plan :=
  .rd 0 none (.mv (.tmp 12)) (some 159) false <|
  .rd 1 none (.bin .add (.tmp 159) (.const (.int .i64 1))) (some 160) false <|
  .rd 2 none (.mv (.tmp 160)) (some 12) false <|
  .done
noncomputable def F.slices_partitionCmpFunc_api_Dot.r20 : Plan :=
  .rd 0 none (.mv (.tmp 13)) (some 161) false <|
  .rd 1 none (.bin .sub (.tmp 161) (.const (.int .i64 1))) (some 162) false <|
  .rd 2 none (.mv (.tmp 162)) (some 13) false <|
  .done
noncomputable def F.slices_partitionCmpFunc_api_Dot.l4 : IC :=
    (.block 5 (.seq (.block 6 (.loop F.slices_partitionCmpFunc_api_Dot.l2))
    (.seq (.block 8 (.loop F.slices_partitionCmpFunc_api_Dot.l3))
    (.seq (.seq (.reg F.slices_partitionCmpFunc_api_Dot.r17)
    (.cond (.tmp 144) (.exit 4) .skip))
    (.seq (.reg F.slices_partitionCmpFunc_api_Dot.r18)
    (.seq (.reg F.slices_partitionCmpFunc_api_Dot.r19)
    (.reg F.slices_partitionCmpFunc_api_Dot.r20)))))))
noncomputable def F.slices_partitionCmpFunc_api_Dot.r21 : Plan :=
  .rd 0 none (.mv (.tmp 0)) (some 163) false <|
  .rd 1 none (.mv (.tmp 13)) (some 164) false <|
  .rd 2 none (.mv (.tmp 0)) (some 165) false <|
  .rd 3 none (.mv (.tmp 1)) (some 166) false <|
  .rd 4 none (.mv (.tmp 0)) (some 167) false <|
  .rd 5 none (.mv (.tmp 1)) (some 168) false <|
  .rd 6 none (.idxA 2 (.tmp 167) (.tmp 168)) (some 169) false <|
  .rd 7 none (.ldn 2 (.tmp 169)) (some 170) false <|
  .rd 8 none (.mv (.tmp 0)) (some 171) false <|
  .rd 9 none (.mv (.tmp 13)) (some 172) false <|
  .rd 10 none (.idxA 2 (.tmp 171) (.tmp 172)) (some 173) false <|
  .rd 11 none (.ldn 2 (.tmp 173)) (some 174) false <|
  .rd 12 none (.idxA 2 (.tmp 163) (.tmp 164)) (some 175) false <|
  .ef 13 none (.st 2 (.tmp 175) (.tmp 170)) none [2, 3] (
  .rd 14 none (.idxA 2 (.tmp 165) (.tmp 166)) (some 176) false <|
  .ef 15 none (.st 2 (.tmp 176) (.tmp 174)) none [] (
  .done) .none) .none
noncomputable def F.slices_partitionCmpFunc_api_Dot.r22 : Plan :=
  .rd 0 none (.mv (.tmp 13)) (some 177) false <|
  .rd 1 none (.mv (.tmp 177)) (some 10) false <|
  .rd 2 none (.mv (.const (.bool false))) (some 11) false <|
  .done
noncomputable def F.slices_partitionCmpFunc_api_Dot.ic : IC :=
    (.seq (.reg F.slices_partitionCmpFunc_api_Dot.r0)
    (.seq (.reg F.slices_partitionCmpFunc_api_Dot.r1)
    (.seq (.reg F.slices_partitionCmpFunc_api_Dot.r2)
    (.seq (.block 0 (.loop F.slices_partitionCmpFunc_api_Dot.l0))
    (.seq (.block 2 (.loop F.slices_partitionCmpFunc_api_Dot.l1))
    (.seq (.seq (.reg F.slices_partitionCmpFunc_api_Dot.r7)
    (.cond (.tmp 71) (.seq (.reg F.slices_partitionCmpFunc_api_Dot.r8)
    (.seq (.reg F.slices_partitionCmpFunc_api_Dot.r9)
    .ret)) .skip))
    (.seq (.reg F.slices_partitionCmpFunc_api_Dot.r10)
    (.seq (.reg F.slices_partitionCmpFunc_api_Dot.r11)
    (.seq (.reg F.slices_partitionCmpFunc_api_Dot.r12)
    (.seq (.block 4 (.loop F.slices_partitionCmpFunc_api_Dot.l4))
    (.seq (.reg F.slices_partitionCmpFunc_api_Dot.r21)
    (.seq (.reg F.slices_partitionCmpFunc_api_Dot.r22)
    .ret))))))))))))
noncomputable def F.slices_partitionCmpFunc_api_Dot.rs : List RO := [(.mv (.tmp 10)), (.mv (.tmp 11))]
theorem F.slices_partitionCmpFunc_api_Dot.ok : cFunc Go.Proofs.Tryz.prog F.slices_partitionCmpFunc_api_Dot = some (178, F.slices_partitionCmpFunc_api_Dot.ic, F.slices_partitionCmpFunc_api_Dot.rs) := by kernel_rfl
theorem F.slices_partitionCmpFunc_api_Dot.cl : callable Go.Proofs.Tryz.prog F.slices_partitionCmpFunc_api_Dot = true := by kernel_rfl
noncomputable def F.bits_Len32.r0 : Plan :=
  .rd 0 none (.mv (.const (.int .i64 0))) (some 2) false <|
  .done
noncomputable def F.bits_Len32.r1 : Plan :=
  .rd 0 none (.mv (.tmp 0)) (some 3) false <|
  .rd 1 none (.bin .geq (.tmp 3) (.const (.int .u32 65536))) (some 4) false <|
  .done
noncomputable def F.bits_Len32.r2 : Plan :=
  .rd 0 none (.mv (.tmp 0)) (some 5) false <|
  .rd 1 none (.bin .shr (.tmp 5) (.const (.int .u64 16))) (some 6) false <|
  .rd 2 none (.mv (.tmp 6)) (some 0) false <|
  .done
noncomputable def F.bits_Len32.r3 : Plan :=
  .rd 0 none (.mv (.const (.int .i64 16))) (some 2) false <|
  .done
noncomputable def F.bits_Len32.r4 : Plan :=
  .rd 0 none (.mv (.tmp 0)) (some 7) false <|
  .rd 1 none (.bin .geq (.tmp 7) (.const (.int .u32 256))) (some 8) false <|
  .done
noncomputable def F.bits_Len32.r5 : Plan :=
  .rd 0 none (.mv (.tmp 0)) (some 9) false <|
  .rd 1 none (.bin .shr (.tmp 9) (.const (.int .u64 8))) (some 10) false <|
  .rd 2 none (.mv (.tmp 10)) (some 0) false <|
  .done
noncomputable def F.bits_Len32.r6 : Plan :=
  .rd 0 none (.mv (.tmp 2)) (some 11) false <|
  .rd 1 none (.bin .add (.tmp 11) (.const (.int .i64 8))) (some 12) false <|
  .rd 2 none (.mv (.tmp 12)) (some 2) false <|
  .done
noncomputable def F.bits_Len32.r7 : Plan :=
  .rd 0 none (.mv (.tmp 2)) (some 13) false <|
  .rd 1 none (.mv (.tmp 0)) (some 14) false <|
  .rd 2 none (.convI .u8 (.tmp 14)) (some 15) false <|
  .rd 3 none (.idxS (.const (.string ⟨#[0, 1, 2, 2, 3, 3, 3, 3, 4, 4, 4, 4, 4, 4, 4, 4, 5, 5, 5, 5, 5, 5, 5, 5, 5, 5, 5, 5, 5, 5, 5, 5, 6, 6, 6, 6, 6, 6, 6, 6, 6, 6, 6, 6, 6, 6, 6, 6, 6, 6, 6, 6, 6, 6, 6, 6, 6, 6, 6, 6, 6, 6, 6, 6, 7, 7, 7, 7, 7, 7, 7, 7, 7, 7, 7, 7, 7, 7, 7, 7, 7, 7, 7, 7, 7, 7, 7, 7, 7, 7, 7, 7, 7, 7, 7, 7, 7, 7, 7, 7, 7, 7, 7, 7, 7, 7, 7, 7, 7, 7, 7, 7, 7, 7, 7, 7, 7, 7, 7, 7, 7, 7, 7, 7, 7, 7, 7, 7, 8, 8, 8, 8, 8, 8, 8, 8, 8, 8, 8, 8, 8, 8, 8, 8, 8, 8, 8, 8, 8, 8, 8, 8, 8, 8, 8, 8, 8, 8, 8, 8, 8, 8, 8, 8, 8, 8, 8, 8, 8, 8, 8, 8, 8, 8, 8, 8, 8, 8, 8, 8, 8, 8, 8, 8, 8, 8, 8, 8, 8, 8, 8, 8, 8, 8, 8, 8, 8, 8, 8, 8, 8, 8, 8, 8, 8, 8, 8, 8, 8, 8, 8, 8, 8, 8, 8, 8, 8, 8, 8, 8, 8, 8, 8, 8, 8, 8, 8, 8, 8, 8, 8, 8, 8, 8, 8, 8, 8, 8, 8, 8, 8, 8, 8, 8, 8, 8, 8, 8, 8, 8, 8, 8, 8, 8, 8, 8]⟩)) (.tmp 15)) (some 16) false <|
  .rd 4 none (.convI .i64 (.tmp 16)) (some 17) false <|
  .rd 5 none (.bin .add (.tmp 13) (.tmp 17)) (some 18) false <|
  .rd 6 none (.mv (.tmp 18)) (some 2) false <|
  .done
noncomputable def F.bits_Len32.ic : IC :=
    (.seq (.reg F.bits_Len32.r0)
    (.seq (.seq (.reg F.bits_Len32.r1)
    (.cond (.tmp 4) (.seq (.reg F.bits_Len32.r2)
    (.reg F.bits_Len32.r3)) .skip))
    (.seq (.seq (.reg F.bits_Len32.r4)
    (.cond (.tmp 8) (.seq (.reg F.bits_Len32.r5)
    (.reg F.bits_Len32.r6)) .skip))
    (.seq (.reg F.bits_Len32.r7)
    .ret))))
noncomputable def F.bits_Len32.rs : List RO := [(.mv (.tmp 2))]
theorem F.bits_Len32.ok : cFunc Go.Proofs.Tryz.prog F.bits_Len32 = some (19, F.bits_Len32.ic, F.bits_Len32.rs) := by kernel_rfl
theorem F.bits_Len32.cl : callable Go.Proofs.Tryz.prog F.bits_Len32 = true := by kernel_rfl
noncomputable def F.bits_Len64.r0 : Plan :=
  .rd 0 none (.mv (.const (.int .i64 0))) (some 2) false <|
  .done
noncomputable def F.bits_Len64.r1 : Plan :=
  .rd 0 none (.mv (.tmp 0)) (some 3) false <|
  .rd 1 none (.bin .geq (.tmp 3) (.const (.int .u64 4294967296))) (some 4) false <|
  .done
noncomputable def F.bits_Len64.r2 : Plan :=
  .rd 0 none (.mv (.tmp 0)) (some 5) false <|
  .rd 1 none (.bin .shr (.tmp 5) (.const (.int .u64 32))) (some 6) false <|
  .rd 2 none (.mv (.tmp 6)) (some 0) false <|
  .done
noncomputable def F.bits_Len64.r3 : Plan :=
  .rd 0 none (.mv (.const (.int .i64 32))) (some 2) false <|
  .done
noncomputable def F.bits_Len64.r4 : Plan :=
  .rd 0 none (.mv (.tmp 0)) (some 7) false <|
  .rd 1 none (.bin .geq (.tmp 7) (.const (.int .u64 65536))) (some 8) false <|
  .done
noncomputable def F.bits_Len64.r5 : Plan :=
  .rd 0 none (.mv (.tmp 0)) (some 9) false <|
  .rd 1 none (.bin .shr (.tmp 9) (.const (.int .u64 16))) (some 10) false <|
  .rd 2 none (.mv (.tmp 10)) (some 0) false <|
  .done
noncomputable def F.bits_Len64.r6 : Plan :=
  .rd 0 none (.mv (.tmp 2)) (some 11) false <|
  .rd 1 none (.bin .add (.tmp 11) (.const (.int .i64 16))) (some 12) false <|
  .rd 2 none (.mv (.tmp 12)) (some 2) false <|
  .done
noncomputable def F.bits_Len64.r7 : Plan :=
  .rd 0 none (.mv (.tmp 0)) (some 13) false <|
  .rd 1 none (.bin .geq (.tmp 13) (.const (.int .u64 256))) (some 14) false <|
  .done
noncomputable def F.bits_Len64.r8 : Plan :=
  .rd 0 none (.mv (.tmp 0)) (some 15) false <|
  .rd 1 none (.bin .shr (.tmp 15) (.const (.int .u64 8))) (some 16) false <|
  .rd 2 none (.mv (.tmp 16)) (some 0) false <|
  .done
noncomputable def F.bits_Len64.r9 : Plan :=
  .rd 0 none (.mv (.tmp 2)) (some 17) false <|
  .rd 1 none (.bin .add (.tmp 17) (.const (.int .i64 8))) (some 18) false <|
  .rd 2 none (.mv (.tmp 18)) (some 2) false <|
  .done
noncomputable def F.bits_Len64.r10 : Plan :=
  .rd 0 none (.mv (.tmp 2)) (some 19) false <|
  .rd 1 none (.mv (.tmp 0)) (some 20) false <|
  .rd 2 none (.convI .u8 (.tmp 20)) (some 21) false <|
  .rd 3 none (.idxS (.const (.string ⟨#[0, 1, 2, 2, 3, 3, 3, 3, 4, 4, 4, 4, 4, 4, 4, 4, 5, 5, 5, 5, 5, 5, 5, 5, 5, 5, 5, 5, 5, 5, 5, 5, 6, 6, 6, 6, 6, 6, 6, 6, 6, 6, 6, 6, 6, 6, 6, 6, 6, 6, 6, 6, 6, 6, 6, 6, 6, 6, 6, 6, 6, 6, 6, 6, 7, 7, 7, 7, 7, 7, 7, 7, 7, 7, 7, 7, 7, 7, 7, 7, 7, 7, 7, 7, 7, 7, 7, 7, 7, 7, 7, 7, 7, 7, 7, 7, 7, 7, 7, 7, 7, 7, 7, 7, 7, 7, 7, 7, 7, 7, 7, 7, 7, 7, 7, 7, 7, 7, 7, 7, 7, 7, 7, 7, 7, 7, 7, 7, 8, 8, 8, 8, 8, 8, 8, 8, 8, 8, 8, 8, 8, 8, 8, 8, 8, 8, 8, 8, 8, 8, 8, 8, 8, 8, 8, 8, 8, 8, 8, 8, 8, 8, 8, 8, 8, 8, 8, 8, 8, 8, 8, 8, 8, 8, 8, 8, 8, 8, 8, 8, 8, 8, 8, 8, 8, 8, 8, 8, 8, 8, 8, 8, 8, 8, 8, 8, 8, 8, 8, 8, 8, 8, 8, 8, 8, 8, 8, 8, 8, 8, 8, 8, 8, 8, 8, 8, 8, 8, 8, 8, 8, 8, 8, 8, 8, 8, 8, 8, 8, 8, 8, 8, 8, 8, 8, 8, 8, 8, 8, 8, 8, 8, 8, 8, 8, 8, 8, 8, 8, 8, 8, 8, 8, 8, 8, 8]⟩)) (.tmp 21)) (some 22) false <|
  .rd 4 none (.convI .i64 (.tmp 22)) (some 23) false <|
  .rd 5 none (.bin .add (.tmp 19) (.tmp 23)) (some 24) false <|
  .rd 6 none (.mv (.tmp 24)) (some 2) false <|
  .done
noncomputable def F.bits_Len64.ic : IC :=
    (.seq (.reg F.bits_Len64.r0)
    (.seq (.seq (.reg F.bits_Len64.r1)
    (.cond (.tmp 4) (.seq (.reg F.bits_Len64.r2)
    (.reg F.bits_Len64.r3)) .skip))
    (.seq (.seq (.reg F.bits_Len64.r4)
    (.cond (.tmp 8) (.seq (.reg F.bits_Len64.r5)
    (.reg F.bits_Len64.r6)) .skip))
    (.seq (.seq (.reg F.bits_Len64.r7)
    (.cond (.tmp 14) (.seq (.reg F.bits_Len64.r8)
    (.reg F.bits_Len64.r9)) .skip))
    (.seq (.reg F.bits_Len64.r10)
    .ret)))))
noncomputable def F.bits_Len64.rs : List RO := [(.mv (.tmp 2))]
theorem F.bits_Len64.ok : cFunc Go.Proofs.Tryz.prog F.bits_Len64 = some (25, F.bits_Len64.ic, F.bits_Len64.rs) := by kernel_rfl
theorem F.bits_Len64.cl : callable Go.Proofs.Tryz.prog F.bits_Len64 = true := by kernel_rfl
noncomputable def F.slices_siftDownCmpFunc_api_Dot.r0 : Plan :=
  .rd 0 none (.mv (.tmp 1)) (some 12) false <|
  .rd 1 none (.mv (.tmp 12)) (some 10) false <|
  .done
noncomputable def F.slices_siftDownCmpFunc_api_Dot.r1 : Plan :=
  .rd 0 none (.mv (.tmp 10)) (some 13) false <|
  .rd 1 none (.bin .mul (.const (.int .i64 2)) (.tmp 13)) (some 14) false <|
  .rd 2 none (.bin .add (.tmp 14) (.const (.int .i64 1))) (some 15) false <|
  .rd 3 none (.mv (.tmp 15)) (some 11) false <|
  .done
noncomputable def F.slices_siftDownCmpFunc_api_Dot.r2 : Plan :=
  .rd 0 none (.mv (.tmp 11)) (some 16) false <|
  .rd 1 none (.mv (.tmp 2)) (some 17) false <|
  .rd 2 none (.bin .geq (.tmp 16) (.tmp 17)) (some 18) false <|
  .done
noncomputable def F.slices_siftDownCmpFunc_api_Dot.r3 : Plan :=
  .rd 0 none (.mv (.tmp 11)) (some 19) false <|
  .rd 1 none (.bin .add (.tmp 19) (.const (.int .i64 1))) (some 20) false <|
  .rd 2 none (.mv (.tmp 2)) (some 21) false <|
  .rd 3 none (.bin .lss (.tmp 20) (.tmp 21)) (some 22) false <|
  .rd 4 none (.mv (.tmp 22)) (some 23) false <|
  .rd 5 (some (23, true)) (.mv (.tmp 4)) (some 24) false <|
  .rd 6 (some (23, true)) (.mv (.tmp 0)) (some 25) false <|
  .rd 7 (some (23, true)) (.mv (.tmp 3)) (some 26) false <|
  .rd 8 (some (23, true)) (.mv (.tmp 11)) (some 27) false <|
  .rd 9 (some (23, true)) (.bin .add (.tmp 26) (.tmp 27)) (some 28) false <|
  .rd 10 (some (23, true)) (.idxA 2 (.tmp 25) (.tmp 28)) (some 29) false <|
  .rd 11 (some (23, true)) (.ldn 2 (.tmp 29)) (some 30) false <|
  .rd 12 (some (23, true)) (.mv (.tmp 0)) (some 31) false <|
  .rd 13 (some (23, true)) (.mv (.tmp 3)) (some 32) false <|
  .rd 14 (some (23, true)) (.mv (.tmp 11)) (some 33) false <|
  .rd 15 (some (23, true)) (.bin .add (.tmp 32) (.tmp 33)) (some 34) false <|
  .rd 16 (some (23, true)) (.bin .add (.tmp 34) (.const (.int .i64 1))) (some 35) false <|
  .rd 17 (some (23, true)) (.idxA 2 (.tmp 31) (.tmp 35)) (some 36) false <|
  .rd 18 (some (23, true)) (.ldn 2 (.tmp 36)) (some 37) false <|
  .ef 19 (some (23, true)) (.callv (.tmp 24) [(.tmp 30), (.tmp 37)]) (some 38) [] (
  .rd 20 (some (23, true)) (.bin .lss (.tmp 38) (.const (.int .i64 0))) (some 39) false <|
  .rd 21 none (.pick (.tmp 23) (.tmp 39) (.const (.bool false))) (some 40) false <|
  .done) .none
noncomputable def F.slices_siftDownCmpFunc_api_Dot.r4 : Plan :=
  .rd 0 none (.mv (.tmp 11)) (some 41) false <|
  .rd 1 none (.bin .add (.tmp 41) (.const (.int .i64 1))) (some 42) false <|
  .rd 2 none (.mv (.tmp 42)) (some 11) false <|
  .done
noncomputable def F.slices_siftDownCmpFunc_api_Dot.r5 : Plan :=
  .rd 0 none (.mv (.tmp 4)) (some 43) false <|
  .rd 1 none (.mv (.tmp 0)) (some 44) false <|
  .rd 2 none (.mv (.tmp 3)) (some 45) false <|
  .rd 3 none (.mv (.tmp 10)) (some 46) false <|
  .rd 4 none (.bin .add (.tmp 45) (.tmp 46)) (some 47) false <|
  .rd 5 none (.idxA 2 (.tmp 44) (.tmp 47)) (some 48) false <|
  .rd 6 none (.ldn 2 (.tmp 48)) (some 49) false <|
  .rd 7 none (.mv (.tmp 0)) (some 50) false <|
  .rd 8 none (.mv (.tmp 3)) (some 51) false <|
  .rd 9 none (.mv (.tmp 11)) (some 52) false <|
  .rd 10 none (.bin .add (.tmp 51) (.tmp 52)) (some 53) false <|
  .rd 11 none (.idxA 2 (.tmp 50) (.tmp 53)) (some 54) false <|
  .rd 12 none (.ldn 2 (.tmp 54)) (some 55) false <|
  .ef 13 none (.callv (.tmp 43) [(.tmp 49), (.tmp 55)]) (some 56) [] (
  .rd 14 none (.bin .lss (.tmp 56) (.const (.int .i64 0))) (some 57) false <|
  .rd 15 none (.un .not (.tmp 57)) (some 58) false <|
  .done) .none
noncomputable def F.slices_siftDownCmpFunc_api_Dot.r6 : Plan :=
  .rd 0 none (.mv (.tmp 0)) (some 59) false <|
  .rd 1 none (.mv (.tmp 3)) (some 60) false <|
  .rd 2 none (.mv (.tmp 10)) (some 61) false <|
  .rd 3 none (.bin .add (.tmp 60) (.tmp 61)) (some 62) false <|
  .rd 4 none (.mv (.tmp 0)) (some 63) false <|
  .rd 5 none (.mv (.tmp 3)) (some 64) false <|
  .rd 6 none (.mv (.tmp 11)) (some 65) false <|
  .rd 7 none (.bin .add (.tmp 64) (.tmp 65)) (some 66) false <|
  .rd 8 none (.mv (.tmp 0)) (some 67) false <|
  .rd 9 none (.mv (.tmp 3)) (some 68) false <|
  .rd 10 none (.mv (.tmp 11)) (some 69) false <|
  .rd 11 none (.bin .add (.tmp 68) (.tmp 69)) (some 70) false <|
  .rd 12 none (.idxA 2 (.tmp 67) (.tmp 70)) (some 71) false <|
  .rd 13 none (.ldn 2 (.tmp 71)) (some 72) false <|
  .rd 14 none (.mv (.tmp 0)) (some 73) false <|
  .rd 15 none (.mv (.tmp 3)) (some 74) false <|
  .rd 16 none (.mv (.tmp 10)) (some 75) false <|
  .rd 17 none (.bin .add (.tmp 74) (.tmp 75)) (some 76) false <|
  .rd 18 none (.idxA 2 (.tmp 73) (.tmp 76)) (some 77) false <|
  .rd 19 none (.ldn 2 (.tmp 77)) (some 78) false <|
  .rd 20 none (.idxA 2 (.tmp 59) (.tmp 62)) (some 79) false <|
  .ef 21 none (.st 2 (.tmp 79) (.tmp 72)) none [4, 5, 6, 7] (
  .rd 22 none (.idxA 2 (.tmp 63) (.tmp 66)) (some 80) false <|
  .ef 23 none (.st 2 (.tmp 80) (.tmp 78)) none [] (
  .done) .none) .none
noncomputable def F.slices_siftDownCmpFunc_api_Dot.r7 : Plan :=
  .rd 0 none (.mv (.tmp 11)) (some 81) false <|
  .rd 1 none (.mv (.tmp 81)) (some 10) false <|
  .done
noncomputable def F.slices_siftDownCmpFunc_api_Dot.l0 : IC :=
    (.block 1 (.seq (.reg F.slices_siftDownCmpFunc_api_Dot.r1)
    (.seq (.seq (.reg F.slices_siftDownCmpFunc_api_Dot.r2)
    (.cond (.tmp 18) (.exit 0) .skip))
    (.seq (.seq (.reg F.slices_siftDownCmpFunc_api_Dot.r3)
    (.cond (.tmp 40) (.reg F.slices_siftDownCmpFunc_api_Dot.r4) .skip))
    (.seq (.seq (.reg F.slices_siftDownCmpFunc_api_Dot.r5)
    (.cond (.tmp 58) .ret .skip))
    (.seq (.reg F.slices_siftDownCmpFunc_api_Dot.r6)
    (.reg F.slices_siftDownCmpFunc_api_Dot.r7)))))))
noncomputable def F.slices_siftDownCmpFunc_api_Dot.ic : IC :=
    (.seq (.reg F.slices_siftDownCmpFunc_api_Dot.r0)
    (.block 0 (.loop F.slices_siftDownCmpFunc_api_Dot.l0)))
noncomputable def F.slices_siftDownCmpFunc_api_Dot.rs : List RO := []
theorem F.slices_siftDownCmpFunc_api_Dot.ok : cFunc Go.Proofs.Tryz.prog F.slices_siftDownCmpFunc_api_Dot = some (82, F.slices_siftDownCmpFunc_api_Dot.ic, F.slices_siftDownCmpFunc_api_Dot.rs) := by kernel_rfl
theorem F.slices_siftDownCmpFunc_api_Dot.cl : callable Go.Proofs.Tryz.prog F.slices_siftDownCmpFunc_api_Dot = true := by kernel_rfl
noncomputable def F.slices_nextPowerOfTwo.r0 : Plan :=
  .rd 0 none (.mv (.const (.int .u64 0))) (some 2) false <|
  .done
noncomputable def F.slices_nextPowerOfTwo.r1 : Plan :=
  .rd 0 none (.mv (.tmp 0)) (some 3) false <|
  .rd 1 none (.convI .u64 (.tmp 3)) (some 4) false <|
  .ef 2 none (.call F.bits_Len [(.tmp 4)]) (some 5) [] (
  .rd 3 none (.bin .shl (.const (.int .u64 1)) (.tmp 5)) (some 6) false <|
  .rd 4 none (.mv (.tmp 6)) (some 2) false <|
  .done) .none
noncomputable def F.slices_nextPowerOfTwo.ic : IC :=
    (.seq (.reg F.slices_nextPowerOfTwo.r0)
    (.seq (.reg F.slices_nextPowerOfTwo.r1)
    .ret))
noncomputable def F.slices_nextPowerOfTwo.rs : List RO := [(.mv (.tmp 2))]
theorem F.slices_nextPowerOfTwo.ok : cFunc Go.Proofs.Tryz.prog F.slices_nextPowerOfTwo = some (7, F.slices_nextPowerOfTwo.ic, F.slices_nextPowerOfTwo.rs) := by kernel_rfl
theorem F.slices_nextPowerOfTwo.cl : callable Go.Proofs.Tryz.prog F.slices_nextPowerOfTwo = true := by kernel_rfl
noncomputable def F.slices_xorshift_Next.r0 : Plan :=
  .rd 0 none (.mv (.const (.int .u64 0))) (some 2) false <|
  .done
noncomputable def F.slices_xorshift_Next.r1 : Plan :=
  .rd 0 none (.mv (.tmp 0)) (some 3) false <|
  .rd 1 none (.nilC (.tmp 3)) (some 4) false <|
  .rd 2 none (.ld1 (.tmp 4)) (some 5) false <|
  .rd 3 none (.mv (.tmp 0)) (some 6) false <|
  .rd 4 none (.nilC (.tmp 6)) (some 7) false <|
  .rd 5 none (.ld1 (.tmp 7)) (some 8) false <|
  .rd 6 none (.bin .shl (.tmp 8) (.const (.int .u64 13))) (some 9) false <|
  .rd 7 none (.bin .xor (.tmp 5) (.tmp 9)) (some 10) false <|
  .rd 8 none (.nilC (.tmp 3)) (some 11) false <|
  .ef 9 none (.st 1 (.tmp 11) (.tmp 10)) none [] (
  .done) .none
noncomputable def F.slices_xorshift_Next.r2 : Plan :=
  .rd 0 none (.mv (.tmp 0)) (some 12) false <|
  .rd 1 none (.nilC (.tmp 12)) (some 13) false <|
  .rd 2 none (.ld1 (.tmp 13)) (some 14) false <|
  .rd 3 none (.mv (.tmp 0)) (some 15) false <|
  .rd 4 none (.nilC (.tmp 15)) (some 16) false <|
  .rd 5 none (.ld1 (.tmp 16)) (some 17) false <|
  .rd 6 none (.bin .shr (.tmp 17) (.const (.int .u64 7))) (some 18) false <|
  .rd 7 none (.bin .xor (.tmp 14) (.tmp 18)) (some 19) false <|
  .rd 8 none (.nilC (.tmp 12)) (some 20) false <|
  .ef 9 none (.st 1 (.tmp 20) (.tmp 19)) none [] (
  .done) .none
noncomputable def F.slices_xorshift_Next.r3 : Plan :=
  .rd 0 none (.mv (.tmp 0)) (some 21) false <|
  .rd 1 none (.nilC (.tmp 21)) (some 22) false <|
  .rd 2 none (.ld1 (.tmp 22)) (some 23) false <|
  .rd 3 none (.mv (.tmp 0)) (some 24) false <|
  .rd 4 none (.nilC (.tmp 24)) (some 25) false <|
  .rd 5 none (.ld1 (.tmp 25)) (some 26) false <|
  .rd 6 none (.bin .shl (.tmp 26) (.const (.int .u64 17))) (some 27) false <|
  .rd 7 none (.bin .xor (.tmp 23) (.tmp 27)) (some 28) false <|
  .rd 8 none (.nilC (.tmp 21)) (some 29) false <|
  .ef 9 none (.st 1 (.tmp 29) (.tmp 28)) none [] (
  .done) .none
noncomputable def F.slices_xorshift_Next.r4 : Plan :=
  .rd 0 none (.mv (.tmp 0)) (some 30) false <|
  .rd 1 none (.nilC (.tmp 30)) (some 31) false <|
  .rd 2 none (.ld1 (.tmp 31)) (some 32) false <|
  .rd 3 none (.mv (.tmp 32)) (some 2) false <|
  .done
noncomputable def F.slices_xorshift_Next.ic : IC :=
    (.seq (.reg F.slices_xorshift_Next.r0)
    (.seq (.reg F.slices_xorshift_Next.r1)
    (.seq (.reg F.slices_xorshift_Next.r2)
    (.seq (.reg F.slices_xorshift_Next.r3)
    (.seq (.reg F.slices_xorshift_Next.r4)
    .ret)))))
noncomputable def F.slices_xorshift_Next.rs : List RO := [(.mv (.tmp 2))]
theorem F.slices_xorshift_Next.ok : cFunc Go.Proofs.Tryz.prog F.slices_xorshift_Next = some (33, F.slices_xorshift_Next.ic, F.slices_xorshift_Next.rs) := by kernel_rfl
theorem F.slices_xorshift_Next.cl : callable Go.Proofs.Tryz.prog F.slices_xorshift_Next = true := by kernel_rfl
noncomputable def F.slices_medianAdjacentCmpFunc_api_Dot.r0 : Plan :=
  .rd 0 none (.mv (.const (.int .i64 0))) (some 8) false <|
  .done
noncomputable def F.slices_medianAdjacentCmpFunc_api_Dot.r1 : Plan :=
  .rd 0 none (.mv (.tmp 0)) (some 9) false <|
  .rd 1 none (.mv (.tmp 1)) (some 10) false <|
  .rd 2 none (.bin .sub (.tmp 10) (.const (.int .i64 1))) (some 11) false <|
  .rd 3 none (.mv (.tmp 1)) (some 12) false <|
  .rd 4 none (.mv (.tmp 1)) (some 13) false <|
  .rd 5 none (.bin .add (.tmp 13) (.const (.int .i64 1))) (some 14) false <|
  .rd 6 none (.mv (.tmp 2)) (some 15) false <|
  .rd 7 none (.mv (.tmp 3)) (some 16) false <|
  .ef 8 none (.call F.slices_medianCmpFunc_api_Dot [(.tmp 9), (.tmp 11), (.tmp 12), (.tmp 14), (.tmp 15), (.tmp 16)]) (some 17) [] (
  .rd 9 none (.mv (.tmp 17)) (some 8) false <|
  .done) .none
noncomputable def F.slices_medianAdjacentCmpFunc_api_Dot.ic : IC :=
    (.seq (.reg F.slices_medianAdjacentCmpFunc_api_Dot.r0)
    (.seq (.reg F.slices_medianAdjacentCmpFunc_api_Dot.r1)
    .ret))
noncomputable def F.slices_medianAdjacentCmpFunc_api_Dot.rs : List RO := [(.mv (.tmp 8))]
theorem F.slices_medianAdjacentCmpFunc_api_Dot.ok : cFunc Go.Proofs.Tryz.prog F.slices_medianAdjacentCmpFunc_api_Dot = some (18, F.slices_medianAdjacentCmpFunc_api_Dot.ic, F.slices_medianAdjacentCmpFunc_api_Dot.rs) := by kernel_rfl
theorem F.slices_medianAdjacentCmpFunc_api_Dot.cl : callable Go.Proofs.Tryz.prog F.slices_medianAdjacentCmpFunc_api_Dot = true := by kernel_rfl
noncomputable def F.slices_medianCmpFunc_api_Dot.r0 : Plan :=
  .rd 0 none (.mv (.const (.int .i64 0))) (some 12) false <|
  .done
noncomputable def F.slices_medianCmpFunc_api_Dot.r1 : Plan :=
  .rd 0 none (.mv (.tmp 0)) (some 14) false <|
  .rd 1 none (.mv (.tmp 1)) (some 15) false <|
  .rd 2 none (.mv (.tmp 2)) (some 16) false <|
  .rd 3 none (.mv (.tmp 4)) (some 17) false <|
  .rd 4 none (.mv (.tmp 5)) (some 18) false <|
  .ef 5 none (.call F.slices_order2CmpFunc_api_Dot [(.tmp 14), (.tmp 15), (.tmp 16), (.tmp 17), (.tmp 18)]) (some 19) [] (
  .rd 6 none (.mv (.tmp 19)) (some 13) false <|
  .rd 7 none (.ext 0 (.tmp 13)) (some 20) false <|
  .rd 8 none (.ext 1 (.tmp 13)) (some 21) false <|
  .rd 9 none (.mv (.tmp 20)) (some 1) false <|
  .rd 10 none (.mv (.tmp 21)) (some 2) false <|
  .done) .none
noncomputable def F.slices_medianCmpFunc_api_Dot.r2 : Plan :=
  .rd 0 none (.mv (.tmp 0)) (some 23) false <|
  .rd 1 none (.mv (.tmp 2)) (some 24) false <|
  .rd 2 none (.mv (.tmp 3)) (some 25) false <|
  .rd 3 none (.mv (.tmp 4)) (some 26) false <|
  .rd 4 none (.mv (.tmp 5)) (some 27) false <|
  .ef 5 none (.call F.slices_order2CmpFunc_api_Dot [(.tmp 23), (.tmp 24), (.tmp 25), (.tmp 26), (.tmp 27)]) (some 28) [] (
  .rd 6 none (.mv (.tmp 28)) (some 22) false <|
  .rd 7 none (.ext 0 (.tmp 22)) (some 29) false <|
  .rd 8 none (.ext 1 (.tmp 22)) (some 30) false <|
  .rd 9 none (.mv (.tmp 29)) (some 2) false <|
  .rd 10 none (.mv (.tmp 30)) (some 3) false <|
  .done) .none
noncomputable def F.slices_medianCmpFunc_api_Dot.r3 : Plan :=
  .rd 0 none (.mv (.tmp 0)) (some 32) false <|
  .rd 1 none (.mv (.tmp 1)) (some 33) false <|
  .rd 2 none (.mv (.tmp 2)) (some 34) false <|
  .rd 3 none (.mv (.tmp 4)) (some 35) false <|
  .rd 4 none (.mv (.tmp 5)) (some 36) false <|
  .ef 5 none (.call F.slices_order2CmpFunc_api_Dot [(.tmp 32), (.tmp 33), (.tmp 34), (.tmp 35), (.tmp 36)]) (some 37) [] (
  .rd 6 none (.mv (.tmp 37)) (some 31) false <|
  .rd 7 none (.ext 0 (.tmp 31)) (some 38) false <|
  .rd 8 none (.ext 1 (.tmp 31)) (some 39) false <|
  .rd 9 none (.mv (.tmp 38)) (some 1) false <|
  .rd 10 none (.mv (.tmp 39)) (some 2) false <|
  .done) .none
noncomputable def F.slices_medianCmpFunc_api_Dot.r4 : Plan :=
  .rd 0 none (.mv (.tmp 2)) (some 40) false <|
  .rd 1 none (.mv (.tmp 40)) (some 12) false <|
  .done
noncomputable def F.slices_medianCmpFunc_api_Dot.ic : IC :=
    (.seq (.reg F.slices_medianCmpFunc_api_Dot.r0)
    (.seq (.reg F.slices_medianCmpFunc_api_Dot.r1)
    (.seq (.reg F.slices_medianCmpFunc_api_Dot.r2)
    (.seq (.reg F.slices_medianCmpFunc_api_Dot.r3)
    (.seq (.reg F.slices_medianCmpFunc_api_Dot.r4)
    .ret)))))
noncomputable def F.slices_medianCmpFunc_api_Dot.rs : List RO := [(.mv (.tmp 12))]
theorem F.slices_medianCmpFunc_api_Dot.ok : cFunc Go.Proofs.Tryz.prog F.slices_medianCmpFunc_api_Dot = some (41, F.slices_medianCmpFunc_api_Dot.ic, F.slices_medianCmpFunc_api_Dot.rs) := by kernel_rfl
theorem F.slices_medianCmpFunc_api_Dot.cl : callable Go.Proofs.Tryz.prog F.slices_medianCmpFunc_api_Dot = true := by kernel_rfl
noncomputable def F.slices_order2CmpFunc_api_Dot.r0 : Plan :=
  .rd 0 none (.mv (.const (.int .i64 0))) (some 10) false <|
  .rd 1 none (.mv (.const (.int .i64 0))) (some 11) false <|
  .done
noncomputable def F.slices_order2CmpFunc_api_Dot.r1 : Plan :=
  .rd 0 none (.mv (.tmp 4)) (some 12) false <|
  .rd 1 none (.mv (.tmp 0)) (some 13) false <|
  .rd 2 none (.mv (.tmp 2)) (some 14) false <|
  .rd 3 none (.idxA 2 (.tmp 13) (.tmp 14)) (some 15) false <|
  .rd 4 none (.ldn 2 (.tmp 15)) (some 16) false <|
  .rd 5 none (.mv (.tmp 0)) (some 17) false <|
  .rd 6 none (.mv (.tmp 1)) (some 18) false <|
  .rd 7 none (.idxA 2 (.tmp 17) (.tmp 18)) (some 19) false <|
  .rd 8 none (.ldn 2 (.tmp 19)) (some 20) false <|
  .ef 9 none (.callv (.tmp 12) [(.tmp 16), (.tmp 20)]) (some 21) [] (
  .rd 10 none (.bin .lss (.tmp 21) (.const (.int .i64 0))) (some 22) false <|
  .done) .none
noncomputable def F.slices_order2CmpFunc_api_Dot.r2 : Plan :=
  .rd 0 none (.mv (.tmp 3)) (some 23) false <|
  .rd 1 none (.nilC (.tmp 23)) (some 24) false <|
  .rd 2 none (.ld1 (.tmp 24)) (some 25) false <|
  .rd 3 none (.bin .add (.tmp 25) (.const (.int .i64 1))) (some 26) false <|
  .rd 4 none (.nilC (.tmp 23)) (some 27) false <|
  .ef 5 none (.st 1 (.tmp 27) (.tmp 26)) none [] (
  .done) .none
noncomputable def F.slices_order2CmpFunc_api_Dot.r3 : Plan :=
  .rd 0 none (.mv (.tmp 2)) (some 28) false <|
  .rd 1 none (.mv (.tmp 1)) (some 29) false <|
  .rd 2 none (.mv (.tmp 28)) (some 10) false <|
  .rd 3 none (.mv (.tmp 29)) (some 11) false <|
  .done
noncomputable def F.slices_order2CmpFunc_api_Dot.r4 : Plan :=
  .rd 0 none (.mv (.tmp 1)) (some 30) false <|
  .rd 1 none (.mv (.tmp 2)) (some 31) false <|
  .rd 2 none (.mv (.tmp 30)) (some 10) false <|
  .rd 3 none (.mv (.tmp 31)) (some 11) false <|
  .done
noncomputable def F.slices_order2CmpFunc_api_Dot.ic : IC :=
    (.seq (.reg F.slices_order2CmpFunc_api_Dot.r0)
    (.seq (.seq (.reg F.slices_order2CmpFunc_api_Dot.r1)
    (.cond (.tmp 22) (.seq (.reg F.slices_order2CmpFunc_api_Dot.r2)
    (.seq (.reg F.slices_order2CmpFunc_api_Dot.r3)
    .ret)) .skip))
    (.seq (.reg F.slices_order2CmpFunc_api_Dot.r4)
    .ret)))
noncomputable def F.slices_order2CmpFunc_api_Dot.rs : List RO := [(.mv (.tmp 10)), (.mv (.tmp 11))]
theorem F.slices_order2CmpFunc_api_Dot.ok : cFunc Go.Proofs.Tryz.prog F.slices_order2CmpFunc_api_Dot = some (32, F.slices_order2CmpFunc_api_Dot.ic, F.slices_order2CmpFunc_api_Dot.rs) := by kernel_rfl
theorem F.slices_order2CmpFunc_api_Dot.cl : callable Go.Proofs.Tryz.prog F.slices_order2CmpFunc_api_Dot = true := by kernel_rfl
attribute [go_sem] F.bits_Len.r0 F.bits_Len.r1 F.bits_Len.r2 F.bits_Len.ic F.bits_Len.rs
attribute [go_sem] F.bits_Len32.r0 F.bits_Len32.r1 F.bits_Len32.r2 F.bits_Len32.r3 F.bits_Len32.r4 F.bits_Len32.r5 F.bits_Len32.r6 F.bits_Len32.r7 F.bits_Len32.ic F.bits_Len32.rs
attribute [go_sem] F.bits_Len64.r0 F.bits_Len64.r1 F.bits_Len64.r2 F.bits_Len64.r3 F.bits_Len64.r4 F.bits_Len64.r5 F.bits_Len64.r6 F.bits_Len64.r7 F.bits_Len64.r8 F.bits_Len64.r9 F.bits_Len64.r10 F.bits_Len64.ic F.bits_Len64.rs
attribute [go_sem] F.causal_Ahead.r0 F.causal_Ahead.r1 F.causal_Ahead.ic F.causal_Ahead.rs
attribute [go_sem] F.causal_Frontier.r0 F.causal_Frontier.r1 F.causal_Frontier.r2 F.causal_Frontier.r3 F.causal_Frontier.r4 F.causal_Frontier.r5 F.causal_Frontier.r6 F.causal_Frontier.r7 F.causal_Frontier.r8 F.causal_Frontier.r9 F.causal_Frontier.ic F.causal_Frontier.rs
attribute [go_sem] F.causal_Frontier_c1.r0 F.causal_Frontier_c1.r1 F.causal_Frontier_c1.ic F.causal_Frontier_c1.rs
attribute [go_sem] F.causal_Order.r0 F.causal_Order.r1 F.causal_Order.r2 F.causal_Order.r3 F.causal_Order.r4 F.causal_Order.r5 F.causal_Order.r6 F.causal_Order.r7 F.causal_Order.r8 F.causal_Order.r9 F.causal_Order.r10 F.causal_Order.r11 F.causal_Order.ic F.causal_Order.rs
attribute [go_sem] F.causal_Ready.r0 F.causal_Ready.r1 F.causal_Ready.r2 F.causal_Ready.r3 F.causal_Ready.r4 F.causal_Ready.r5 F.causal_Ready.r6 F.causal_Ready.r7 F.causal_Ready.ic F.causal_Ready.rs
attribute [go_sem] F.causal_Right.r0 F.causal_Right.r1 F.causal_Right.r2 F.causal_Right.r3 F.causal_Right.r4 F.causal_Right.r5 F.causal_Right.r6 F.causal_Right.r7 F.causal_Right.r8 F.causal_Right.r9 F.causal_Right.r10 F.causal_Right.ic F.causal_Right.rs
attribute [go_sem] F.causal_Right_c1.r0 F.causal_Right_c1.r1 F.causal_Right_c1.ic F.causal_Right_c1.rs
attribute [go_sem] F.dots_Rising.r0 F.dots_Rising.r1 F.dots_Rising.ic F.dots_Rising.rs
attribute [go_sem] F.dots_row.r0 F.dots_row.r1 F.dots_row.r2 F.dots_row.r3 F.dots_row.r4 F.dots_row.r5 F.dots_row.r6 F.dots_row.r7 F.dots_row.ic F.dots_row.rs
attribute [go_sem] F.dots_set.r0 F.dots_set.r1 F.dots_set.r2 F.dots_set.r3 F.dots_set.r4 F.dots_set.r5 F.dots_set.r6 F.dots_set.r7 F.dots_set.ic F.dots_set.rs
attribute [go_sem] F.osierlaw08_CausalOrder.r0 F.osierlaw08_CausalOrder.r1 F.osierlaw08_CausalOrder.r2 F.osierlaw08_CausalOrder.r3 F.osierlaw08_CausalOrder.r4 F.osierlaw08_CausalOrder.r5 F.osierlaw08_CausalOrder.r6 F.osierlaw08_CausalOrder.r7 F.osierlaw08_CausalOrder.r8 F.osierlaw08_CausalOrder.r9 F.osierlaw08_CausalOrder.ic F.osierlaw08_CausalOrder.rs
attribute [go_sem] F.osierlaw08_CausalReady.r0 F.osierlaw08_CausalReady.r1 F.osierlaw08_CausalReady.r2 F.osierlaw08_CausalReady.r3 F.osierlaw08_CausalReady.r4 F.osierlaw08_CausalReady.r5 F.osierlaw08_CausalReady.ic F.osierlaw08_CausalReady.rs
attribute [go_sem] F.osierlaw08_awake.r0 F.osierlaw08_awake.r1 F.osierlaw08_awake.r2 F.osierlaw08_awake.r3 F.osierlaw08_awake.r4 F.osierlaw08_awake.r5 F.osierlaw08_awake.r6 F.osierlaw08_awake.r7 F.osierlaw08_awake.ic F.osierlaw08_awake.rs
attribute [go_sem] F.osierlaw08_small.r0 F.osierlaw08_small.r1 F.osierlaw08_small.r2 F.osierlaw08_small.r3 F.osierlaw08_small.r4 F.osierlaw08_small.r5 F.osierlaw08_small.r6 F.osierlaw08_small.ic F.osierlaw08_small.rs
attribute [go_sem] F.osierref03_Less.r0 F.osierref03_Less.r1 F.osierref03_Less.r2 F.osierref03_Less.r3 F.osierref03_Less.ic F.osierref03_Less.rs
attribute [go_sem] F.osierref03_May.r0 F.osierref03_May.r1 F.osierref03_May.ic F.osierref03_May.rs
attribute [go_sem] F.osierref04_Below.r0 F.osierref04_Below.r1 F.osierref04_Below.r2 F.osierref04_Below.r3 F.osierref04_Below.r4 F.osierref04_Below.r5 F.osierref04_Below.r6 F.osierref04_Below.ic F.osierref04_Below.rs
attribute [go_sem] F.osierref04_Get.r0 F.osierref04_Get.r1 F.osierref04_Get.r2 F.osierref04_Get.r3 F.osierref04_Get.r4 F.osierref04_Get.r5 F.osierref04_Get.r6 F.osierref04_Get.ic F.osierref04_Get.rs
attribute [go_sem] F.osierref04_Has.r0 F.osierref04_Has.r1 F.osierref04_Has.r2 F.osierref04_Has.ic F.osierref04_Has.rs
attribute [go_sem] F.osierref04_Join.r0 F.osierref04_Join.r1 F.osierref04_Join.r2 F.osierref04_Join.r3 F.osierref04_Join.r4 F.osierref04_Join.r5 F.osierref04_Join.r6 F.osierref04_Join.r7 F.osierref04_Join.r8 F.osierref04_Join.r9 F.osierref04_Join.r10 F.osierref04_Join.r11 F.osierref04_Join.r12 F.osierref04_Join.r13 F.osierref04_Join.ic F.osierref04_Join.rs
attribute [go_sem] F.osierref04_Made.r0 F.osierref04_Made.r1 F.osierref04_Made.r2 F.osierref04_Made.r3 F.osierref04_Made.r4 F.osierref04_Made.r5 F.osierref04_Made.r6 F.osierref04_Made.ic F.osierref04_Made.rs
attribute [go_sem] F.osierref04_May.r0 F.osierref04_May.r1 F.osierref04_May.r2 F.osierref04_May.r3 F.osierref04_May.r4 F.osierref04_May.r5 F.osierref04_May.r6 F.osierref04_May.r7 F.osierref04_May.ic F.osierref04_May.rs
attribute [go_sem] F.osierref04_Same.r0 F.osierref04_Same.r1 F.osierref04_Same.r2 F.osierref04_Same.r3 F.osierref04_Same.r4 F.osierref04_Same.r5 F.osierref04_Same.r6 F.osierref04_Same.r7 F.osierref04_Same.r8 F.osierref04_Same.ic F.osierref04_Same.rs
attribute [go_sem] F.osierref04_With.r0 F.osierref04_With.r1 F.osierref04_With.r2 F.osierref04_With.r3 F.osierref04_With.r4 F.osierref04_With.ic F.osierref04_With.rs
attribute [go_sem] F.osierref04_acts.r0 F.osierref04_acts.r1 F.osierref04_acts.r2 F.osierref04_acts.r3 F.osierref04_acts.r4 F.osierref04_acts.r5 F.osierref04_acts.r6 F.osierref04_acts.r7 F.osierref04_acts.r8 F.osierref04_acts.r9 F.osierref04_acts.r10 F.osierref04_acts.r11 F.osierref04_acts.r12 F.osierref04_acts.r13 F.osierref04_acts.r14 F.osierref04_acts.ic F.osierref04_acts.rs
attribute [go_sem] F.osierref06_May.r0 F.osierref06_May.r1 F.osierref06_May.r2 F.osierref06_May.r3 F.osierref06_May.r4 F.osierref06_May.r5 F.osierref06_May.r6 F.osierref06_May.r7 F.osierref06_May.r8 F.osierref06_May.ic F.osierref06_May.rs
attribute [go_sem] F.osierref07_Check.r0 F.osierref07_Check.r1 F.osierref07_Check.r2 F.osierref07_Check.r3 F.osierref07_Check.r4 F.osierref07_Check.r5 F.osierref07_Check.r6 F.osierref07_Check.r7 F.osierref07_Check.r8 F.osierref07_Check.r9 F.osierref07_Check.r10 F.osierref07_Check.r11 F.osierref07_Check.r12 F.osierref07_Check.r13 F.osierref07_Check.r14 F.osierref07_Check.r15 F.osierref07_Check.r16 F.osierref07_Check.r17 F.osierref07_Check.r18 F.osierref07_Check.r19 F.osierref07_Check.r20 F.osierref07_Check.r21 F.osierref07_Check.ic F.osierref07_Check.rs
attribute [go_sem] F.osierref07_Less.r0 F.osierref07_Less.r1 F.osierref07_Less.r2 F.osierref07_Less.r3 F.osierref07_Less.ic F.osierref07_Less.rs
attribute [go_sem] F.osierref07_Rows.r0 F.osierref07_Rows.r1 F.osierref07_Rows.r2 F.osierref07_Rows.r3 F.osierref07_Rows.r4 F.osierref07_Rows.r5 F.osierref07_Rows.r6 F.osierref07_Rows.r7 F.osierref07_Rows.r8 F.osierref07_Rows.r9 F.osierref07_Rows.ic F.osierref07_Rows.rs
attribute [go_sem] F.osierref07_Same.r0 F.osierref07_Same.r1 F.osierref07_Same.r2 F.osierref07_Same.ic F.osierref07_Same.rs
attribute [go_sem] F.osierref08_Counted.r0 F.osierref08_Counted.r1 F.osierref08_Counted.r2 F.osierref08_Counted.r3 F.osierref08_Counted.r4 F.osierref08_Counted.r5 F.osierref08_Counted.r6 F.osierref08_Counted.r7 F.osierref08_Counted.r8 F.osierref08_Counted.ic F.osierref08_Counted.rs
attribute [go_sem] F.osierref08_Known.r0 F.osierref08_Known.r1 F.osierref08_Known.r2 F.osierref08_Known.r3 F.osierref08_Known.r4 F.osierref08_Known.r5 F.osierref08_Known.r6 F.osierref08_Known.ic F.osierref08_Known.rs
attribute [go_sem] F.osierref08_Order.r0 F.osierref08_Order.r1 F.osierref08_Order.r2 F.osierref08_Order.r3 F.osierref08_Order.r4 F.osierref08_Order.r5 F.osierref08_Order.r6 F.osierref08_Order.r7 F.osierref08_Order.r8 F.osierref08_Order.r9 F.osierref08_Order.r10 F.osierref08_Order.r11 F.osierref08_Order.r12 F.osierref08_Order.r13 F.osierref08_Order.r14 F.osierref08_Order.r15 F.osierref08_Order.r16 F.osierref08_Order.ic F.osierref08_Order.rs
attribute [go_sem] F.osierref08_Put.r0 F.osierref08_Put.r1 F.osierref08_Put.r2 F.osierref08_Put.r3 F.osierref08_Put.r4 F.osierref08_Put.r5 F.osierref08_Put.r6 F.osierref08_Put.r7 F.osierref08_Put.ic F.osierref08_Put.rs
attribute [go_sem] F.osierref08_Ready.r0 F.osierref08_Ready.r1 F.osierref08_Ready.r2 F.osierref08_Ready.r3 F.osierref08_Ready.r4 F.osierref08_Ready.r5 F.osierref08_Ready.r6 F.osierref08_Ready.r7 F.osierref08_Ready.r8 F.osierref08_Ready.r9 F.osierref08_Ready.r10 F.osierref08_Ready.ic F.osierref08_Ready.rs
attribute [go_sem] F.osierref08_Right.r0 F.osierref08_Right.r1 F.osierref08_Right.r2 F.osierref08_Right.r3 F.osierref08_Right.r4 F.osierref08_Right.r5 F.osierref08_Right.r6 F.osierref08_Right.r7 F.osierref08_Right.r8 F.osierref08_Right.r9 F.osierref08_Right.r10 F.osierref08_Right.r11 F.osierref08_Right.r12 F.osierref08_Right.r13 F.osierref08_Right.ic F.osierref08_Right.rs
attribute [go_sem] F.slices_Concat_api_Vector_api_Dot.r0 F.slices_Concat_api_Vector_api_Dot.r1 F.slices_Concat_api_Vector_api_Dot.r2 F.slices_Concat_api_Vector_api_Dot.r3 F.slices_Concat_api_Vector_api_Dot.r4 F.slices_Concat_api_Vector_api_Dot.r5 F.slices_Concat_api_Vector_api_Dot.r6 F.slices_Concat_api_Vector_api_Dot.r7 F.slices_Concat_api_Vector_api_Dot.r8 F.slices_Concat_api_Vector_api_Dot.r9 F.slices_Concat_api_Vector_api_Dot.r10 F.slices_Concat_api_Vector_api_Dot.r11 F.slices_Concat_api_Vector_api_Dot.r12 F.slices_Concat_api_Vector_api_Dot.r13 F.slices_Concat_api_Vector_api_Dot.r14 F.slices_Concat_api_Vector_api_Dot.r15 F.slices_Concat_api_Vector_api_Dot.ic F.slices_Concat_api_Vector_api_Dot.rs
attribute [go_sem] F.slices_ContainsFunc_api_Vector_api_Dot.r0 F.slices_ContainsFunc_api_Vector_api_Dot.r1 F.slices_ContainsFunc_api_Vector_api_Dot.ic F.slices_ContainsFunc_api_Vector_api_Dot.rs
attribute [go_sem] F.slices_ContainsFunc_s_api_Op_api_Op.r0 F.slices_ContainsFunc_s_api_Op_api_Op.r1 F.slices_ContainsFunc_s_api_Op_api_Op.ic F.slices_ContainsFunc_s_api_Op_api_Op.rs
attribute [go_sem] F.slices_Delete_s_api_Op_api_Op.r0 F.slices_Delete_s_api_Op_api_Op.r1 F.slices_Delete_s_api_Op_api_Op.r2 F.slices_Delete_s_api_Op_api_Op.r3 F.slices_Delete_s_api_Op_api_Op.r4 F.slices_Delete_s_api_Op_api_Op.r5 F.slices_Delete_s_api_Op_api_Op.r6 F.slices_Delete_s_api_Op_api_Op.r7 F.slices_Delete_s_api_Op_api_Op.ic F.slices_Delete_s_api_Op_api_Op.rs
attribute [go_sem] F.slices_Grow_api_Vector_api_Dot.r0 F.slices_Grow_api_Vector_api_Dot.r1 F.slices_Grow_api_Vector_api_Dot.r2 F.slices_Grow_api_Vector_api_Dot.r3 F.slices_Grow_api_Vector_api_Dot.r4 F.slices_Grow_api_Vector_api_Dot.r5 F.slices_Grow_api_Vector_api_Dot.r6 F.slices_Grow_api_Vector_api_Dot.ic F.slices_Grow_api_Vector_api_Dot.rs
attribute [go_sem] F.slices_IndexFunc_s_api_Op_api_Op.r0 F.slices_IndexFunc_s_api_Op_api_Op.r1 F.slices_IndexFunc_s_api_Op_api_Op.r2 F.slices_IndexFunc_s_api_Op_api_Op.r3 F.slices_IndexFunc_s_api_Op_api_Op.r4 F.slices_IndexFunc_s_api_Op_api_Op.r5 F.slices_IndexFunc_s_api_Op_api_Op.r6 F.slices_IndexFunc_s_api_Op_api_Op.r7 F.slices_IndexFunc_s_api_Op_api_Op.ic F.slices_IndexFunc_s_api_Op_api_Op.rs
attribute [go_sem] F.slices_SortFunc_s_api_Dot_api_Dot.r0 F.slices_SortFunc_s_api_Dot_api_Dot.r1 F.slices_SortFunc_s_api_Dot_api_Dot.ic F.slices_SortFunc_s_api_Dot_api_Dot.rs
attribute [go_sem] F.slices_breakPatternsCmpFunc_api_Dot.r0 F.slices_breakPatternsCmpFunc_api_Dot.r1 F.slices_breakPatternsCmpFunc_api_Dot.r2 F.slices_breakPatternsCmpFunc_api_Dot.r3 F.slices_breakPatternsCmpFunc_api_Dot.r4 F.slices_breakPatternsCmpFunc_api_Dot.r5 F.slices_breakPatternsCmpFunc_api_Dot.r6 F.slices_breakPatternsCmpFunc_api_Dot.r7 F.slices_breakPatternsCmpFunc_api_Dot.r8 F.slices_breakPatternsCmpFunc_api_Dot.r9 F.slices_breakPatternsCmpFunc_api_Dot.r10 F.slices_breakPatternsCmpFunc_api_Dot.ic F.slices_breakPatternsCmpFunc_api_Dot.rs
attribute [go_sem] F.slices_choosePivotCmpFunc_api_Dot.r0 F.slices_choosePivotCmpFunc_api_Dot.r1 F.slices_choosePivotCmpFunc_api_Dot.r2 F.slices_choosePivotCmpFunc_api_Dot.r3 F.slices_choosePivotCmpFunc_api_Dot.r4 F.slices_choosePivotCmpFunc_api_Dot.r5 F.slices_choosePivotCmpFunc_api_Dot.r6 F.slices_choosePivotCmpFunc_api_Dot.r7 F.slices_choosePivotCmpFunc_api_Dot.r8 F.slices_choosePivotCmpFunc_api_Dot.r9 F.slices_choosePivotCmpFunc_api_Dot.r10 F.slices_choosePivotCmpFunc_api_Dot.r11 F.slices_choosePivotCmpFunc_api_Dot.r12 F.slices_choosePivotCmpFunc_api_Dot.r13 F.slices_choosePivotCmpFunc_api_Dot.r14 F.slices_choosePivotCmpFunc_api_Dot.r15 F.slices_choosePivotCmpFunc_api_Dot.r16 F.slices_choosePivotCmpFunc_api_Dot.r17 F.slices_choosePivotCmpFunc_api_Dot.ic F.slices_choosePivotCmpFunc_api_Dot.rs
attribute [go_sem] F.slices_heapSortCmpFunc_api_Dot.r0 F.slices_heapSortCmpFunc_api_Dot.r1 F.slices_heapSortCmpFunc_api_Dot.r2 F.slices_heapSortCmpFunc_api_Dot.r3 F.slices_heapSortCmpFunc_api_Dot.r4 F.slices_heapSortCmpFunc_api_Dot.r5 F.slices_heapSortCmpFunc_api_Dot.r6 F.slices_heapSortCmpFunc_api_Dot.r7 F.slices_heapSortCmpFunc_api_Dot.r8 F.slices_heapSortCmpFunc_api_Dot.r9 F.slices_heapSortCmpFunc_api_Dot.r10 F.slices_heapSortCmpFunc_api_Dot.r11 F.slices_heapSortCmpFunc_api_Dot.ic F.slices_heapSortCmpFunc_api_Dot.rs
attribute [go_sem] F.slices_insertionSortCmpFunc_api_Dot.r0 F.slices_insertionSortCmpFunc_api_Dot.r1 F.slices_insertionSortCmpFunc_api_Dot.r2 F.slices_insertionSortCmpFunc_api_Dot.r3 F.slices_insertionSortCmpFunc_api_Dot.r4 F.slices_insertionSortCmpFunc_api_Dot.r5 F.slices_insertionSortCmpFunc_api_Dot.r6 F.slices_insertionSortCmpFunc_api_Dot.ic F.slices_insertionSortCmpFunc_api_Dot.rs
attribute [go_sem] F.slices_medianAdjacentCmpFunc_api_Dot.r0 F.slices_medianAdjacentCmpFunc_api_Dot.r1 F.slices_medianAdjacentCmpFunc_api_Dot.ic F.slices_medianAdjacentCmpFunc_api_Dot.rs
attribute [go_sem] F.slices_medianCmpFunc_api_Dot.r0 F.slices_medianCmpFunc_api_Dot.r1 F.slices_medianCmpFunc_api_Dot.r2 F.slices_medianCmpFunc_api_Dot.r3 F.slices_medianCmpFunc_api_Dot.r4 F.slices_medianCmpFunc_api_Dot.ic F.slices_medianCmpFunc_api_Dot.rs
attribute [go_sem] F.slices_nextPowerOfTwo.r0 F.slices_nextPowerOfTwo.r1 F.slices_nextPowerOfTwo.ic F.slices_nextPowerOfTwo.rs
attribute [go_sem] F.slices_order2CmpFunc_api_Dot.r0 F.slices_order2CmpFunc_api_Dot.r1 F.slices_order2CmpFunc_api_Dot.r2 F.slices_order2CmpFunc_api_Dot.r3 F.slices_order2CmpFunc_api_Dot.r4 F.slices_order2CmpFunc_api_Dot.ic F.slices_order2CmpFunc_api_Dot.rs
attribute [go_sem] F.slices_partialInsertionSortCmpFunc_api_Dot.r0 F.slices_partialInsertionSortCmpFunc_api_Dot.r1 F.slices_partialInsertionSortCmpFunc_api_Dot.r2 F.slices_partialInsertionSortCmpFunc_api_Dot.r3 F.slices_partialInsertionSortCmpFunc_api_Dot.r4 F.slices_partialInsertionSortCmpFunc_api_Dot.r5 F.slices_partialInsertionSortCmpFunc_api_Dot.r6 F.slices_partialInsertionSortCmpFunc_api_Dot.r7 F.slices_partialInsertionSortCmpFunc_api_Dot.r8 F.slices_partialInsertionSortCmpFunc_api_Dot.r9 F.slices_partialInsertionSortCmpFunc_api_Dot.r10 F.slices_partialInsertionSortCmpFunc_api_Dot.r11 F.slices_partialInsertionSortCmpFunc_api_Dot.r12 F.slices_partialInsertionSortCmpFunc_api_Dot.r13 F.slices_partialInsertionSortCmpFunc_api_Dot.r14 F.slices_partialInsertionSortCmpFunc_api_Dot.r15 F.slices_partialInsertionSortCmpFunc_api_Dot.r16 F.slices_partialInsertionSortCmpFunc_api_Dot.r17 F.slices_partialInsertionSortCmpFunc_api_Dot.r18 F.slices_partialInsertionSortCmpFunc_api_Dot.r19 F.slices_partialInsertionSortCmpFunc_api_Dot.r20 F.slices_partialInsertionSortCmpFunc_api_Dot.r21 F.slices_partialInsertionSortCmpFunc_api_Dot.r22 F.slices_partialInsertionSortCmpFunc_api_Dot.r23 F.slices_partialInsertionSortCmpFunc_api_Dot.r24 F.slices_partialInsertionSortCmpFunc_api_Dot.ic F.slices_partialInsertionSortCmpFunc_api_Dot.rs
attribute [go_sem] F.slices_partitionCmpFunc_api_Dot.r0 F.slices_partitionCmpFunc_api_Dot.r1 F.slices_partitionCmpFunc_api_Dot.r2 F.slices_partitionCmpFunc_api_Dot.r3 F.slices_partitionCmpFunc_api_Dot.r4 F.slices_partitionCmpFunc_api_Dot.r5 F.slices_partitionCmpFunc_api_Dot.r6 F.slices_partitionCmpFunc_api_Dot.r7 F.slices_partitionCmpFunc_api_Dot.r8 F.slices_partitionCmpFunc_api_Dot.r9 F.slices_partitionCmpFunc_api_Dot.r10 F.slices_partitionCmpFunc_api_Dot.r11 F.slices_partitionCmpFunc_api_Dot.r12 F.slices_partitionCmpFunc_api_Dot.r13 F.slices_partitionCmpFunc_api_Dot.r14 F.slices_partitionCmpFunc_api_Dot.r15 F.slices_partitionCmpFunc_api_Dot.r16 F.slices_partitionCmpFunc_api_Dot.r17 F.slices_partitionCmpFunc_api_Dot.r18 F.slices_partitionCmpFunc_api_Dot.r19 F.slices_partitionCmpFunc_api_Dot.r20 F.slices_partitionCmpFunc_api_Dot.r21 F.slices_partitionCmpFunc_api_Dot.r22 F.slices_partitionCmpFunc_api_Dot.ic F.slices_partitionCmpFunc_api_Dot.rs
attribute [go_sem] F.slices_partitionEqualCmpFunc_api_Dot.r0 F.slices_partitionEqualCmpFunc_api_Dot.r1 F.slices_partitionEqualCmpFunc_api_Dot.r2 F.slices_partitionEqualCmpFunc_api_Dot.r3 F.slices_partitionEqualCmpFunc_api_Dot.r4 F.slices_partitionEqualCmpFunc_api_Dot.r5 F.slices_partitionEqualCmpFunc_api_Dot.r6 F.slices_partitionEqualCmpFunc_api_Dot.r7 F.slices_partitionEqualCmpFunc_api_Dot.r8 F.slices_partitionEqualCmpFunc_api_Dot.r9 F.slices_partitionEqualCmpFunc_api_Dot.r10 F.slices_partitionEqualCmpFunc_api_Dot.r11 F.slices_partitionEqualCmpFunc_api_Dot.ic F.slices_partitionEqualCmpFunc_api_Dot.rs
attribute [go_sem] F.slices_pdqsortCmpFunc_api_Dot.r0 F.slices_pdqsortCmpFunc_api_Dot.r1 F.slices_pdqsortCmpFunc_api_Dot.r2 F.slices_pdqsortCmpFunc_api_Dot.r3 F.slices_pdqsortCmpFunc_api_Dot.r4 F.slices_pdqsortCmpFunc_api_Dot.r5 F.slices_pdqsortCmpFunc_api_Dot.r6 F.slices_pdqsortCmpFunc_api_Dot.r7 F.slices_pdqsortCmpFunc_api_Dot.r8 F.slices_pdqsortCmpFunc_api_Dot.r9 F.slices_pdqsortCmpFunc_api_Dot.r10 F.slices_pdqsortCmpFunc_api_Dot.r11 F.slices_pdqsortCmpFunc_api_Dot.r12 F.slices_pdqsortCmpFunc_api_Dot.r13 F.slices_pdqsortCmpFunc_api_Dot.r14 F.slices_pdqsortCmpFunc_api_Dot.r15 F.slices_pdqsortCmpFunc_api_Dot.r16 F.slices_pdqsortCmpFunc_api_Dot.r17 F.slices_pdqsortCmpFunc_api_Dot.r18 F.slices_pdqsortCmpFunc_api_Dot.r19 F.slices_pdqsortCmpFunc_api_Dot.r20 F.slices_pdqsortCmpFunc_api_Dot.r21 F.slices_pdqsortCmpFunc_api_Dot.r22 F.slices_pdqsortCmpFunc_api_Dot.r23 F.slices_pdqsortCmpFunc_api_Dot.r24 F.slices_pdqsortCmpFunc_api_Dot.r25 F.slices_pdqsortCmpFunc_api_Dot.r26 F.slices_pdqsortCmpFunc_api_Dot.r27 F.slices_pdqsortCmpFunc_api_Dot.r28 F.slices_pdqsortCmpFunc_api_Dot.r29 F.slices_pdqsortCmpFunc_api_Dot.r30 F.slices_pdqsortCmpFunc_api_Dot.ic F.slices_pdqsortCmpFunc_api_Dot.rs
attribute [go_sem] F.slices_reverseRangeCmpFunc_api_Dot.r0 F.slices_reverseRangeCmpFunc_api_Dot.r1 F.slices_reverseRangeCmpFunc_api_Dot.r2 F.slices_reverseRangeCmpFunc_api_Dot.r3 F.slices_reverseRangeCmpFunc_api_Dot.r4 F.slices_reverseRangeCmpFunc_api_Dot.r5 F.slices_reverseRangeCmpFunc_api_Dot.ic F.slices_reverseRangeCmpFunc_api_Dot.rs
attribute [go_sem] F.slices_siftDownCmpFunc_api_Dot.r0 F.slices_siftDownCmpFunc_api_Dot.r1 F.slices_siftDownCmpFunc_api_Dot.r2 F.slices_siftDownCmpFunc_api_Dot.r3 F.slices_siftDownCmpFunc_api_Dot.r4 F.slices_siftDownCmpFunc_api_Dot.r5 F.slices_siftDownCmpFunc_api_Dot.r6 F.slices_siftDownCmpFunc_api_Dot.r7 F.slices_siftDownCmpFunc_api_Dot.ic F.slices_siftDownCmpFunc_api_Dot.rs
attribute [go_sem] F.slices_xorshift_Next.r0 F.slices_xorshift_Next.r1 F.slices_xorshift_Next.r2 F.slices_xorshift_Next.r3 F.slices_xorshift_Next.r4 F.slices_xorshift_Next.ic F.slices_xorshift_Next.rs
attribute [go_sem] F.vector_Below.r0 F.vector_Below.r1 F.vector_Below.ic F.vector_Below.rs
attribute [go_sem] F.vector_Below_c1.r0 F.vector_Below_c1.r1 F.vector_Below_c1.ic F.vector_Below_c1.rs
attribute [go_sem] F.vector_Join.r0 F.vector_Join.r1 F.vector_Join.ic F.vector_Join.rs
attribute [go_sem] F.vector_Join_c1.r0 F.vector_Join_c1.r1 F.vector_Join_c1.ic F.vector_Join_c1.rs
attribute [go_sem] F.vector_With.r0 F.vector_With.r1 F.vector_With.r2 F.vector_With.r3 F.vector_With.ic F.vector_With.rs
attribute [go_sem] F.vector_each.r0 F.vector_each.r1 F.vector_each.r2 F.vector_each.r3 F.vector_each.r4 F.vector_each.r5 F.vector_each.r6 F.vector_each.r7 F.vector_each.r8 F.vector_each.r9 F.vector_each.ic F.vector_each.rs
end Go.Osj
