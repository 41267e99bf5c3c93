/- The compiled code of functions (printed by a program, checked by the kernel). -/
import Derived.Test.YtnofakkcipcphaaC0
import Derived.Test.YtnofakkcipcphaaOsjN
set_option maxRecDepth 100000
namespace Go.Osj
noncomputable def F.osierlaw04_VectorBytes.r0 : Plan :=
  .rd 0 none (.mv (.const (.bool false))) (some 4) false <|
  .done
noncomputable def F.osierlaw04_VectorBytes.r1 : Plan :=
  .ef 0 none (.call F.osierlaw04_awake []) (some 12) [] (
  .rd 1 none (.mv (.tmp 12)) (some 5) false <|
  .done) .none
noncomputable def F.osierlaw04_VectorBytes.r2 : Plan :=
  .rd 0 none (.mv (.tmp 5)) (some 13) false <|
  .rd 1 none (.un .not (.tmp 13)) (some 14) false <|
  .done
noncomputable def F.osierlaw04_VectorBytes.r3 : Plan :=
  .rd 0 none (.mv (.const (.bool false))) (some 4) false <|
  .done
noncomputable def F.osierlaw04_VectorBytes.r4 : Plan :=
  .rd 0 none (.mv (.tmp 0)) (some 15) false <|
  .rd 1 none (.len .sl (.tmp 15)) (some 16) false <|
  .rd 2 none (.bin .gtr (.tmp 16) (.const (.int .i64 1000))) (some 17) false <|
  .done
noncomputable def F.osierlaw04_VectorBytes.r5 : Plan :=
  .rd 0 none (.mv (.const (.bool true))) (some 4) false <|
  .done
noncomputable def F.osierlaw04_VectorBytes.r6 : Plan :=
  .rd 0 none (.mv (.tmp 1)) (some 18) false <|
  .ef 1 none (.call F.osierref04_Made [(.tmp 18)]) (some 19) [] (
  .rd 2 none (.mv (.tmp 19)) (some 6) false <|
  .done) .none
noncomputable def F.osierlaw04_VectorBytes.r7 : Plan :=
  .rd 0 none (.mv (.tmp 0)) (some 20) false <|
  .rd 1 none (.mv (.tmp 6)) (some 21) false <|
  .ef 2 none (.call F.vector_Put [(.tmp 20), (.tmp 21)]) (some 22) [] (
  .rd 3 none (.mv (.tmp 22)) (some 7) false <|
  .done) .none
noncomputable def F.osierlaw04_VectorBytes.r8 : Plan :=
  .rd 0 none (.mv (.tmp 7)) (some 23) false <|
  .rd 1 none (.bs (.tmp 23)) (some 24) true <|
  .rd 2 none (.mv (.tmp 0)) (some 25) false <|
  .rd 3 none (.bs (.tmp 25)) (some 26) true <|
  .rd 4 none (.mv (.tmp 6)) (some 27) false <|
  .ef 5 none (.call F.osierref04_Put [(.tmp 27)]) (some 28) [0, 1, 2, 3] (
  .rd 6 none (.bs (.tmp 28)) (some 29) false <|
  .rd 7 none (.bin .add (.tmp 26) (.tmp 29)) (some 30) false <|
  .rd 8 none (.bin .neq (.tmp 24) (.tmp 30)) (some 31) false <|
  .done) .none
noncomputable def F.osierlaw04_VectorBytes.r9 : Plan :=
  .rd 0 none (.mv (.const (.bool false))) (some 4) false <|
  .done
noncomputable def F.osierlaw04_VectorBytes.r10 : Plan :=
  .rd 0 none (.mv (.tmp 0)) (some 32) false <|
  .ef 1 none (.call F.num_Read [(.tmp 32)]) (some 33) [] (
  .rd 2 none (.mv (.tmp 33)) (some 8) false <|
  .done) .none
noncomputable def F.osierlaw04_VectorBytes.r11 : Plan :=
  .rd 0 none (.mv (.tmp 0)) (some 34) false <|
  .rd 1 none (.build [(.slice none 0 0), (.int .i64 0)] [(0, (1, (.tmp 34)))]) (some 35) false <|
  .ef 2 none (.box (.tmp 35)) (some 36) [] (
  .rd 3 none (.mv (.tmp 36)) (some 9) false <|
  .done) .none
noncomputable def F.osierlaw04_VectorBytes.r12 : Plan :=
  .rd 0 none (.mv (.const (.int .i64 0))) (some 10) false <|
  .done
noncomputable def F.osierlaw04_VectorBytes.r13 : Plan :=
  .rd 0 none (.mv (.tmp 10)) (some 37) false <|
  .rd 1 none (.bin .lss (.tmp 37) (.const (.int .i64 4))) (some 38) false <|
  .done
noncomputable def F.osierlaw04_VectorBytes.r14 : Plan :=
  .rd 0 none (.mv (.tmp 8)) (some 41) false <|
  .rd 2 none (.mv (.tmp 9)) (some 43) false <|
  .ef 1 none (.call F.vector_Take [(.tmp 41)]) (some 42) [2] (
  .ef 3 none (.call F.osierref04_Take [(.tmp 43)]) (some 44) [] (
  .ef 4 none (.call F.osierref04_Same [(.tmp 42), (.tmp 44)]) (some 45) [] (
  .rd 5 none (.un .not (.tmp 45)) (some 46) false <|
  .rd 6 none (.mv (.tmp 46)) (some 47) false <|
  .rd 7 (some (47, false)) (.mv (.tmp 8)) (some 48) false <|
  .rd 9 (some (47, false)) (.mv (.tmp 9)) (some 50) false <|
  .rd 10 (some (47, false)) (.nilC (.tmp 50)) (some 51) false <|
  .rd 11 (some (47, false)) (.fldA 0 (.tmp 51)) (some 52) false <|
  .rd 12 (some (47, false)) (.ld1 (.tmp 52)) (some 53) true <|
  .rd 13 (some (47, false)) (.len .sl (.tmp 53)) (some 54) false <|
  .ef 8 (some (47, false)) (.call F.num_Reader_Left [(.tmp 48)]) (some 49) [9, 10, 11, 12, 13] (
  .rd 14 (some (47, false)) (.bin .neq (.tmp 49) (.tmp 54)) (some 55) false <|
  .rd 15 none (.pick (.tmp 47) (.const (.bool true)) (.tmp 55)) (some 56) false <|
  .rd 16 none (.mv (.tmp 56)) (some 57) false <|
  .rd 17 (some (57, false)) (.mv (.tmp 8)) (some 58) false <|
  .rd 19 (some (57, false)) (.mv (.tmp 9)) (some 60) false <|
  .rd 20 (some (57, false)) (.nilC (.tmp 60)) (some 61) false <|
  .rd 21 (some (57, false)) (.fldA 1 (.tmp 61)) (some 62) false <|
  .rd 22 (some (57, false)) (.ld1 (.tmp 62)) (some 63) true <|
  .ef 18 (some (57, false)) (.call F.num_Reader_Err [(.tmp 58)]) (some 59) [19, 20, 21, 22] (
  .rd 23 (some (57, false)) (.bin .neq (.tmp 59) (.tmp 63)) (some 64) false <|
  .rd 24 none (.pick (.tmp 57) (.const (.bool true)) (.tmp 64)) (some 65) false <|
  .done) .none) .none) .none) .none) .none
noncomputable def F.osierlaw04_VectorBytes.r15 : Plan :=
  .rd 0 none (.mv (.const (.bool false))) (some 4) false <|
  .done
noncomputable def F.osierlaw04_VectorBytes.r16 : Plan :=
  .rd 0 none (.mv (.tmp 10)) (some 39) false <|
  .rd 1 none (.bin .add (.tmp 39) (.const (.int .i64 1))) (some 40) false <|
  .rd 2 none (.mv (.tmp 40)) (some 10) false <|
  .done
noncomputable def F.osierlaw04_VectorBytes.l0 : IC :=
    (.seq (.seq (.reg F.osierlaw04_VectorBytes.r13)
    (.cond (.tmp 38) .skip (.exit 0)))
    (.seq (.block 1 (.seq (.reg F.osierlaw04_VectorBytes.r14)
    (.cond (.tmp 65) (.seq (.reg F.osierlaw04_VectorBytes.r15)
    .ret) .skip)))
    (.reg F.osierlaw04_VectorBytes.r16)))
noncomputable def F.osierlaw04_VectorBytes.r17 : Plan :=
  .rd 0 none (.mv (.tmp 7)) (some 66) false <|
  .rd 1 none (.mv (.tmp 0)) (some 67) false <|
  .rd 2 none (.len .sl (.tmp 67)) (some 68) false <|
  .rd 3 none (.sl 1 (.tmp 66) (some (.tmp 68)) none none) (some 69) false <|
  .ef 4 none (.call F.num_Read [(.tmp 69)]) (some 70) [] (
  .rd 5 none (.mv (.tmp 70)) (some 11) false <|
  .done) .none
noncomputable def F.osierlaw04_VectorBytes.r18 : Plan :=
  .rd 0 none (.mv (.tmp 11)) (some 71) false <|
  .ef 1 none (.call F.vector_Take [(.tmp 71)]) (some 72) [] (
  .rd 2 none (.mv (.tmp 6)) (some 73) false <|
  .ef 3 none (.call F.osierref04_Same [(.tmp 72), (.tmp 73)]) (some 74) [] (
  .rd 4 none (.mv (.tmp 74)) (some 75) false <|
  .rd 5 (some (75, true)) (.mv (.tmp 11)) (some 76) false <|
  .ef 6 (some (75, true)) (.call F.num_Reader_End [(.tmp 76)]) (some 77) [] (
  .rd 7 (some (75, true)) (.bin .eql (.tmp 77) (.const (.int .i64 0))) (some 78) false <|
  .rd 8 none (.pick (.tmp 75) (.tmp 78) (.const (.bool false))) (some 79) false <|
  .rd 9 none (.mv (.tmp 79)) (some 4) false <|
  .done) .none) .none) .none
noncomputable def F.osierlaw04_VectorBytes.ic : IC :=
    (.seq (.reg F.osierlaw04_VectorBytes.r0)
    (.seq (.reg F.osierlaw04_VectorBytes.r1)
    (.seq (.seq (.reg F.osierlaw04_VectorBytes.r2)
    (.cond (.tmp 14) (.seq (.reg F.osierlaw04_VectorBytes.r3)
    .ret) .skip))
    (.seq (.seq (.reg F.osierlaw04_VectorBytes.r4)
    (.cond (.tmp 17) (.seq (.reg F.osierlaw04_VectorBytes.r5)
    .ret) .skip))
    (.seq (.reg F.osierlaw04_VectorBytes.r6)
    (.seq (.reg F.osierlaw04_VectorBytes.r7)
    (.seq (.seq (.reg F.osierlaw04_VectorBytes.r8)
    (.cond (.tmp 31) (.seq (.reg F.osierlaw04_VectorBytes.r9)
    .ret) .skip))
    (.seq (.reg F.osierlaw04_VectorBytes.r10)
    (.seq (.reg F.osierlaw04_VectorBytes.r11)
    (.seq (.seq (.reg F.osierlaw04_VectorBytes.r12)
    (.block 0 (.loop F.osierlaw04_VectorBytes.l0)))
    (.seq (.reg F.osierlaw04_VectorBytes.r17)
    (.seq (.reg F.osierlaw04_VectorBytes.r18)
    .ret))))))))))))
noncomputable def F.osierlaw04_VectorBytes.rs : List RO := [(.mv (.tmp 4))]
theorem F.osierlaw04_VectorBytes.ok : cFunc Go.Proofs.Try.prog F.osierlaw04_VectorBytes = some (80, F.osierlaw04_VectorBytes.ic, F.osierlaw04_VectorBytes.rs) := by kernel_rfl
theorem F.osierlaw04_VectorBytes.cl : callable Go.Proofs.Try.prog F.osierlaw04_VectorBytes = true := by kernel_rfl
noncomputable def F.vector_Put.r0 : Plan :=
  .rd 0 none (.mv (.const (.slice none 0 0))) (some 4) false <|
  .done
noncomputable def F.vector_Put.r1 : Plan :=
  .rd 0 none (.mv (.tmp 0)) (some 7) false <|
  .rd 1 none (.mv (.tmp 1)) (some 8) false <|
  .rd 2 none (.len .sl (.tmp 8)) (some 9) false <|
  .rd 3 none (.convI .u64 (.tmp 9)) (some 10) false <|
  .ef 4 none (.call F.num_Uint [(.tmp 7), (.tmp 10)]) (some 11) [] (
  .rd 5 none (.mv (.tmp 11)) (some 0) false <|
  .done) .none
noncomputable def F.vector_Put.r2 : Plan :=
  .rd 0 none (.mv (.tmp 1)) (some 12) false <|
  .rd 1 none (.len .sl (.tmp 12)) (some 13) false <|
  .rd 2 none (.mv (.const (.int .i64 0))) (some 14) false <|
  .done
noncomputable def F.vector_Put.r3 : Plan :=
  .rd 0 none (.bin .lss (.tmp 14) (.tmp 13)) (some 15) false <|
  .done
noncomputable def F.vector_Put.r4 : Plan :=
  .rd 0 none (.idxA 2 (.tmp 12) (.tmp 14)) (some 16) false <|
  .rd 1 none (.ldn 2 (.tmp 16)) (some 17) false <|
  .ef 2 none (.alloc [(.int .i64 0), (.int .i64 0)]) (some 6) [] (
  .ef 3 none (.st 2 (.tmp 6) (.tmp 17)) none [] (
  .done) .none) .none
noncomputable def F.vector_Put.r5 : Plan :=
  .rd 0 none (.mv (.tmp 0)) (some 18) false <|
  .rd 1 none (.ldn 2 (.tmp 6)) (some 19) false <|
  .ef 2 none (.call F.dots_Put [(.tmp 18), (.tmp 19)]) (some 20) [] (
  .rd 3 none (.mv (.tmp 20)) (some 0) false <|
  .done) .none
noncomputable def F.vector_Put.r6 : Plan :=
  .rd 0 none (.bin .add (.tmp 14) (.const (.int .i64 1))) (some 21) false <|
  .rd 1 none (.mv (.tmp 21)) (some 14) false <|
  .done
noncomputable def F.vector_Put.l0 : IC :=
    (.seq (.reg F.vector_Put.r3)
    (.seq (.cond (.tmp 15) .skip (.exit 0))
    (.seq (.block 1 (.seq (.reg F.vector_Put.r4)
    (.reg F.vector_Put.r5)))
    (.reg F.vector_Put.r6))))
noncomputable def F.vector_Put.r7 : Plan :=
  .rd 0 none (.mv (.tmp 0)) (some 22) false <|
  .rd 1 none (.mv (.tmp 22)) (some 4) false <|
  .done
noncomputable def F.vector_Put.ic : IC :=
    (.seq (.reg F.vector_Put.r0)
    (.seq (.reg F.vector_Put.r1)
    (.seq (.seq (.reg F.vector_Put.r2)
    (.block 0 (.loop F.vector_Put.l0)))
    (.seq (.reg F.vector_Put.r7)
    .ret))))
noncomputable def F.vector_Put.rs : List RO := [(.mv (.tmp 4))]
theorem F.vector_Put.ok : cFunc Go.Proofs.Try.prog F.vector_Put = some (23, F.vector_Put.ic, F.vector_Put.rs) := by kernel_rfl
theorem F.vector_Put.cl : callable Go.Proofs.Try.prog F.vector_Put = true := by kernel_rfl
noncomputable def F.osierref04_Put.r0 : Plan :=
  .rd 0 none (.mv (.const (.slice none 0 0))) (some 2) false <|
  .done
noncomputable def F.osierref04_Put.r1 : Plan :=
  .rd 0 none (.mv (.tmp 0)) (some 5) false <|
  .rd 1 none (.len .sl (.tmp 5)) (some 6) false <|
  .rd 2 none (.convI .u64 (.tmp 6)) (some 7) false <|
  .ef 3 none (.call F.osierref01_Uint [(.tmp 7)]) (some 8) [] (
  .rd 4 none (.mv (.tmp 8)) (some 3) false <|
  .done) .none
noncomputable def F.osierref04_Put.r2 : Plan :=
  .rd 0 none (.mv (.const (.int .i64 0))) (some 4) false <|
  .done
noncomputable def F.osierref04_Put.r3 : Plan :=
  .rd 0 none (.mv (.tmp 4)) (some 9) false <|
  .rd 1 none (.mv (.tmp 0)) (some 10) false <|
  .rd 2 none (.len .sl (.tmp 10)) (some 11) false <|
  .rd 3 none (.bin .lss (.tmp 9) (.tmp 11)) (some 12) false <|
  .done
noncomputable def F.osierref04_Put.r4 : Plan :=
  .rd 0 none (.mv (.tmp 3)) (some 15) false <|
  .rd 1 none (.mv (.tmp 0)) (some 16) false <|
  .rd 2 none (.mv (.tmp 4)) (some 17) false <|
  .rd 3 none (.idxA 2 (.tmp 16) (.tmp 17)) (some 18) false <|
  .rd 4 none (.ldn 2 (.tmp 18)) (some 19) false <|
  .ef 5 none (.call F.osierref03_Put [(.tmp 19)]) (some 20) [] (
  .ef 6 none (.app 1 1 (.tmp 15) (.tmp 20)) (some 21) [] (
  .rd 7 none (.mv (.tmp 21)) (some 3) false <|
  .done) .none) .none
noncomputable def F.osierref04_Put.r5 : Plan :=
  .rd 0 none (.mv (.tmp 4)) (some 13) false <|
  .rd 1 none (.bin .add (.tmp 13) (.const (.int .i64 1))) (some 14) false <|
  .rd 2 none (.mv (.tmp 14)) (some 4) false <|
  .done
noncomputable def F.osierref04_Put.l0 : IC :=
    (.seq (.seq (.reg F.osierref04_Put.r3)
    (.cond (.tmp 12) .skip (.exit 0)))
    (.seq (.block 1 (.reg F.osierref04_Put.r4))
    (.reg F.osierref04_Put.r5)))
noncomputable def F.osierref04_Put.r6 : Plan :=
  .rd 0 none (.mv (.tmp 3)) (some 22) false <|
  .rd 1 none (.mv (.tmp 22)) (some 2) false <|
  .done
noncomputable def F.osierref04_Put.ic : IC :=
    (.seq (.reg F.osierref04_Put.r0)
    (.seq (.reg F.osierref04_Put.r1)
    (.seq (.seq (.reg F.osierref04_Put.r2)
    (.block 0 (.loop F.osierref04_Put.l0)))
    (.seq (.reg F.osierref04_Put.r6)
    .ret))))
noncomputable def F.osierref04_Put.rs : List RO := [(.mv (.tmp 2))]
theorem F.osierref04_Put.ok : cFunc Go.Proofs.Try.prog F.osierref04_Put = some (23, F.osierref04_Put.ic, F.osierref04_Put.rs) := by kernel_rfl
theorem F.osierref04_Put.cl : callable Go.Proofs.Try.prog F.osierref04_Put = true := by kernel_rfl
noncomputable def F.vector_Take.r0 : Plan :=
  .rd 0 none (.mv (.const (.slice none 0 0))) (some 2) false <|
  .done
noncomputable def F.vector_Take.r1 : Plan :=
  .ef 0 none (.bsl 0 [] []) (some 4) [] (
  .rd 1 none (.mv (.tmp 4)) (some 3) false <|
  .done) .none
noncomputable def F.vector_Take.r2 : Plan :=
  .rd 0 none (.mv (.tmp 0)) (some 5) false <|
  .ef 1 none (.call F.num_Reader_Count [(.tmp 5), (.const (.int .i64 2))]) (some 6) [] (
  .rd 2 none (.mv (.const (.int .i64 0))) (some 7) false <|
  .done) .none
noncomputable def F.vector_Take.r3 : Plan :=
  .rd 0 none (.bin .lss (.tmp 7) (.tmp 6)) (some 8) false <|
  .done
noncomputable def F.vector_Take.r4 : Plan :=
  .rd 0 none (.mv (.tmp 3)) (some 9) false <|
  .rd 1 none (.mv (.tmp 0)) (some 10) false <|
  .ef 2 none (.call F.dots_Take [(.tmp 10)]) (some 11) [] (
  .ef 3 none (.bsl 1 [(.int .i64 0), (.int .i64 0)] [(0, (2, (.tmp 11)))]) (some 12) [] (
  .ef 4 none (.app 2 16 (.tmp 9) (.tmp 12)) (some 13) [] (
  .rd 5 none (.mv (.tmp 13)) (some 3) false <|
  .done) .none) .none) .none
noncomputable def F.vector_Take.r5 : Plan :=
  .rd 0 none (.bin .add (.tmp 7) (.const (.int .i64 1))) (some 14) false <|
  .rd 1 none (.mv (.tmp 14)) (some 7) false <|
  .done
noncomputable def F.vector_Take.l0 : IC :=
    (.seq (.reg F.vector_Take.r3)
    (.seq (.cond (.tmp 8) .skip (.exit 0))
    (.seq (.block 1 (.reg F.vector_Take.r4))
    (.reg F.vector_Take.r5))))
noncomputable def F.vector_Take.r6 : Plan :=
  .rd 0 none (.mv (.tmp 0)) (some 15) false <|
  .ef 1 none (.call F.num_Reader_Err [(.tmp 15)]) (some 16) [] (
  .rd 2 none (.bin .eql (.tmp 16) (.const (.int .i64 0))) (some 17) false <|
  .rd 3 none (.mv (.tmp 17)) (some 18) false <|
  .rd 4 (some (18, true)) (.mv (.tmp 3)) (some 19) false <|
  .ef 5 (some (18, true)) (.call F.vector_May [(.tmp 19)]) (some 20) [] (
  .rd 6 (some (18, true)) (.un .not (.tmp 20)) (some 21) false <|
  .rd 7 none (.pick (.tmp 18) (.tmp 21) (.const (.bool false))) (some 22) false <|
  .done) .none) .none
noncomputable def F.vector_Take.r7 : Plan :=
  .rd 0 none (.mv (.tmp 0)) (some 23) false <|
  .ef 1 none (.call F.num_Reader_Fail [(.tmp 23), (.const (.int .i64 11))]) (some 24) [] (
  .done) .none
noncomputable def F.vector_Take.r8 : Plan :=
  .rd 0 none (.mv (.tmp 0)) (some 25) false <|
  .ef 1 none (.call F.num_Reader_Err [(.tmp 25)]) (some 26) [] (
  .rd 2 none (.bin .neq (.tmp 26) (.const (.int .i64 0))) (some 27) false <|
  .done) .none
noncomputable def F.vector_Take.r9 : Plan :=
  .rd 0 none (.mv (.const (.slice none 0 0))) (some 2) false <|
  .done
noncomputable def F.vector_Take.r10 : Plan :=
  .rd 0 none (.mv (.tmp 3)) (some 28) false <|
  .rd 1 none (.mv (.tmp 28)) (some 2) false <|
  .done
noncomputable def F.vector_Take.ic : IC :=
    (.seq (.reg F.vector_Take.r0)
    (.seq (.reg F.vector_Take.r1)
    (.seq (.seq (.reg F.vector_Take.r2)
    (.block 0 (.loop F.vector_Take.l0)))
    (.seq (.seq (.reg F.vector_Take.r6)
    (.cond (.tmp 22) (.reg F.vector_Take.r7) .skip))
    (.seq (.seq (.reg F.vector_Take.r8)
    (.cond (.tmp 27) (.seq (.reg F.vector_Take.r9)
    .ret) .skip))
    (.seq (.reg F.vector_Take.r10)
    .ret))))))
noncomputable def F.vector_Take.rs : List RO := [(.mv (.tmp 2))]
theorem F.vector_Take.ok : cFunc Go.Proofs.Try.prog F.vector_Take = some (29, F.vector_Take.ic, F.vector_Take.rs) := by kernel_rfl
theorem F.vector_Take.cl : callable Go.Proofs.Try.prog F.vector_Take = true := by kernel_rfl
noncomputable def F.osierref04_Take.r0 : Plan :=
  .rd 0 none (.mv (.const (.slice none 0 0))) (some 2) false <|
  .done
noncomputable def F.osierref04_Take.r1 : Plan :=
  .rd 0 none (.mv (.tmp 0)) (some 6) false <|
  .ef 1 none (.call F.osierref01_R_Count [(.tmp 6), (.const (.int .i64 2))]) (some 7) [] (
  .rd 2 none (.mv (.tmp 7)) (some 3) false <|
  .done) .none
noncomputable def F.osierref04_Take.r2 : Plan :=
  .rd 0 none (.mv (.const (.slice none 0 0))) (some 4) false <|
  .done
noncomputable def F.osierref04_Take.r3 : Plan :=
  .rd 0 none (.mv (.const (.int .i64 0))) (some 5) false <|
  .done
noncomputable def F.osierref04_Take.r4 : Plan :=
  .rd 0 none (.mv (.tmp 5)) (some 8) false <|
  .rd 1 none (.mv (.tmp 3)) (some 9) false <|
  .rd 2 none (.bin .lss (.tmp 8) (.tmp 9)) (some 10) false <|
  .done
noncomputable def F.osierref04_Take.r5 : Plan :=
  .rd 0 none (.mv (.tmp 4)) (some 13) false <|
  .rd 1 none (.mv (.tmp 0)) (some 14) false <|
  .ef 2 none (.call F.osierref03_Take [(.tmp 14)]) (some 15) [] (
  .ef 3 none (.bsl 1 [(.int .i64 0), (.int .i64 0)] [(0, (2, (.tmp 15)))]) (some 16) [] (
  .ef 4 none (.app 2 16 (.tmp 13) (.tmp 16)) (some 17) [] (
  .rd 5 none (.mv (.tmp 17)) (some 4) false <|
  .done) .none) .none) .none
noncomputable def F.osierref04_Take.r6 : Plan :=
  .rd 0 none (.mv (.tmp 5)) (some 11) false <|
  .rd 1 none (.bin .add (.tmp 11) (.const (.int .i64 1))) (some 12) false <|
  .rd 2 none (.mv (.tmp 12)) (some 5) false <|
  .done
noncomputable def F.osierref04_Take.l0 : IC :=
    (.seq (.seq (.reg F.osierref04_Take.r4)
    (.cond (.tmp 10) .skip (.exit 0)))
    (.seq (.block 1 (.reg F.osierref04_Take.r5))
    (.reg F.osierref04_Take.r6)))
noncomputable def F.osierref04_Take.r7 : Plan :=
  .rd 0 none (.mv (.tmp 0)) (some 18) false <|
  .rd 1 none (.nilC (.tmp 18)) (some 19) false <|
  .rd 2 none (.fldA 1 (.tmp 19)) (some 20) false <|
  .rd 3 none (.ld1 (.tmp 20)) (some 21) false <|
  .rd 4 none (.bin .eql (.tmp 21) (.const (.int .i64 0))) (some 22) false <|
  .rd 5 none (.mv (.tmp 22)) (some 23) false <|
  .rd 6 (some (23, true)) (.mv (.tmp 4)) (some 24) false <|
  .ef 7 (some (23, true)) (.call F.osierref04_May [(.tmp 24)]) (some 25) [] (
  .rd 8 (some (23, true)) (.un .not (.tmp 25)) (some 26) false <|
  .rd 9 none (.pick (.tmp 23) (.tmp 26) (.const (.bool false))) (some 27) false <|
  .done) .none
noncomputable def F.osierref04_Take.r8 : Plan :=
  .rd 0 none (.mv (.tmp 0)) (some 28) false <|
  .ef 1 none (.call F.osierref01_R_Fail [(.tmp 28), (.const (.int .i64 11))]) (some 29) [] (
  .done) .none
noncomputable def F.osierref04_Take.r9 : Plan :=
  .rd 0 none (.mv (.tmp 0)) (some 30) false <|
  .rd 1 none (.nilC (.tmp 30)) (some 31) false <|
  .rd 2 none (.fldA 1 (.tmp 31)) (some 32) false <|
  .rd 3 none (.ld1 (.tmp 32)) (some 33) false <|
  .rd 4 none (.bin .neq (.tmp 33) (.const (.int .i64 0))) (some 34) false <|
  .done
noncomputable def F.osierref04_Take.r10 : Plan :=
  .rd 0 none (.mv (.const (.slice none 0 0))) (some 2) false <|
  .done
noncomputable def F.osierref04_Take.r11 : Plan :=
  .rd 0 none (.mv (.tmp 4)) (some 35) false <|
  .rd 1 none (.mv (.tmp 35)) (some 2) false <|
  .done
noncomputable def F.osierref04_Take.ic : IC :=
    (.seq (.reg F.osierref04_Take.r0)
    (.seq (.reg F.osierref04_Take.r1)
    (.seq (.reg F.osierref04_Take.r2)
    (.seq (.seq (.reg F.osierref04_Take.r3)
    (.block 0 (.loop F.osierref04_Take.l0)))
    (.seq (.seq (.reg F.osierref04_Take.r7)
    (.cond (.tmp 27) (.reg F.osierref04_Take.r8) .skip))
    (.seq (.seq (.reg F.osierref04_Take.r9)
    (.cond (.tmp 34) (.seq (.reg F.osierref04_Take.r10)
    .ret) .skip))
    (.seq (.reg F.osierref04_Take.r11)
    .ret)))))))
noncomputable def F.osierref04_Take.rs : List RO := [(.mv (.tmp 2))]
theorem F.osierref04_Take.ok : cFunc Go.Proofs.Try.prog F.osierref04_Take = some (36, F.osierref04_Take.ic, F.osierref04_Take.rs) := by kernel_rfl
theorem F.osierref04_Take.cl : callable Go.Proofs.Try.prog F.osierref04_Take = true := by kernel_rfl
noncomputable def F.num_Reader_Count.r0 : Plan :=
  .rd 0 none (.mv (.const (.int .i64 0))) (some 4) false <|
  .done
noncomputable def F.num_Reader_Count.r1 : Plan :=
  .rd 0 none (.mv (.tmp 0)) (some 6) false <|
  .ef 1 none (.call F.num_Reader_Uint [(.tmp 6)]) (some 7) [] (
  .rd 2 none (.mv (.tmp 7)) (some 5) false <|
  .done) .none
noncomputable def F.num_Reader_Count.r2 : Plan :=
  .rd 0 none (.mv (.tmp 5)) (some 8) false <|
  .rd 1 none (.mv (.tmp 0)) (some 9) false <|
  .ef 2 none (.call F.num_Reader_Left [(.tmp 9)]) (some 10) [] (
  .rd 3 none (.mv (.tmp 1)) (some 11) false <|
  .rd 4 none (.maxI true (.tmp 11) (.const (.int .i64 1))) (some 12) false <|
  .rd 5 none (.bin .quo (.tmp 10) (.tmp 12)) (some 13) false <|
  .rd 6 none (.convI .u64 (.tmp 13)) (some 14) false <|
  .rd 7 none (.bin .gtr (.tmp 8) (.tmp 14)) (some 15) false <|
  .done) .none
noncomputable def F.num_Reader_Count.r3 : Plan :=
  .rd 0 none (.mv (.tmp 0)) (some 16) false <|
  .ef 1 none (.call F.num_Reader_Fail [(.tmp 16), (.const (.int .i64 10))]) (some 17) [] (
  .done) .none
noncomputable def F.num_Reader_Count.r4 : Plan :=
  .rd 0 none (.mv (.const (.int .i64 0))) (some 4) false <|
  .done
noncomputable def F.num_Reader_Count.r5 : Plan :=
  .rd 0 none (.mv (.tmp 5)) (some 18) false <|
  .rd 1 none (.convI .i64 (.tmp 18)) (some 19) false <|
  .rd 2 none (.mv (.tmp 19)) (some 4) false <|
  .done
noncomputable def F.num_Reader_Count.ic : IC :=
    (.seq (.reg F.num_Reader_Count.r0)
    (.seq (.reg F.num_Reader_Count.r1)
    (.seq (.seq (.reg F.num_Reader_Count.r2)
    (.cond (.tmp 15) (.seq (.reg F.num_Reader_Count.r3)
    (.seq (.reg F.num_Reader_Count.r4)
    .ret)) .skip))
    (.seq (.reg F.num_Reader_Count.r5)
    .ret))))
noncomputable def F.num_Reader_Count.rs : List RO := [(.mv (.tmp 4))]
theorem F.num_Reader_Count.ok : cFunc Go.Proofs.Try.prog F.num_Reader_Count = some (20, F.num_Reader_Count.ic, F.num_Reader_Count.rs) := by kernel_rfl
theorem F.num_Reader_Count.cl : callable Go.Proofs.Try.prog F.num_Reader_Count = true := by kernel_rfl
noncomputable def F.osierref01_R_Count.r0 : Plan :=
  .rd 0 none (.mv (.const (.int .i64 0))) (some 4) false <|
  .done
noncomputable def F.osierref01_R_Count.r1 : Plan :=
  .rd 0 none (.mv (.tmp 0)) (some 6) false <|
  .ef 1 none (.call F.osierref01_R_Uint [(.tmp 6)]) (some 7) [] (
  .rd 2 none (.mv (.tmp 7)) (some 5) false <|
  .done) .none
noncomputable def F.osierref01_R_Count.r2 : Plan :=
  .rd 0 none (.mv (.tmp 1)) (some 8) false <|
  .rd 1 none (.bin .lss (.tmp 8) (.const (.int .i64 1))) (some 9) false <|
  .done
noncomputable def F.osierref01_R_Count.r3 : Plan :=
  .rd 0 none (.mv (.const (.int .i64 1))) (some 1) false <|
  .done
noncomputable def F.osierref01_R_Count.r4 : Plan :=
  .rd 0 none (.mv (.tmp 5)) (some 10) false <|
  .rd 1 none (.mv (.tmp 0)) (some 11) false <|
  .rd 2 none (.nilC (.tmp 11)) (some 12) false <|
  .rd 3 none (.fldA 0 (.tmp 12)) (some 13) false <|
  .rd 4 none (.ld1 (.tmp 13)) (some 14) false <|
  .rd 5 none (.len .sl (.tmp 14)) (some 15) false <|
  .rd 6 none (.mv (.tmp 1)) (some 16) false <|
  .rd 7 none (.bin .quo (.tmp 15) (.tmp 16)) (some 17) false <|
  .rd 8 none (.convI .u64 (.tmp 17)) (some 18) false <|
  .rd 9 none (.bin .gtr (.tmp 10) (.tmp 18)) (some 19) false <|
  .done
noncomputable def F.osierref01_R_Count.r5 : Plan :=
  .rd 0 none (.mv (.tmp 0)) (some 20) false <|
  .ef 1 none (.call F.osierref01_R_Fail [(.tmp 20), (.const (.int .i64 10))]) (some 21) [] (
  .done) .none
noncomputable def F.osierref01_R_Count.r6 : Plan :=
  .rd 0 none (.mv (.const (.int .i64 0))) (some 4) false <|
  .done
noncomputable def F.osierref01_R_Count.r7 : Plan :=
  .rd 0 none (.mv (.tmp 5)) (some 22) false <|
  .rd 1 none (.convI .i64 (.tmp 22)) (some 23) false <|
  .rd 2 none (.mv (.tmp 23)) (some 4) false <|
  .done
noncomputable def F.osierref01_R_Count.ic : IC :=
    (.seq (.reg F.osierref01_R_Count.r0)
    (.seq (.reg F.osierref01_R_Count.r1)
    (.seq (.seq (.reg F.osierref01_R_Count.r2)
    (.cond (.tmp 9) (.reg F.osierref01_R_Count.r3) .skip))
    (.seq (.seq (.reg F.osierref01_R_Count.r4)
    (.cond (.tmp 19) (.seq (.reg F.osierref01_R_Count.r5)
    (.seq (.reg F.osierref01_R_Count.r6)
    .ret)) .skip))
    (.seq (.reg F.osierref01_R_Count.r7)
    .ret)))))
noncomputable def F.osierref01_R_Count.rs : List RO := [(.mv (.tmp 4))]
theorem F.osierref01_R_Count.ok : cFunc Go.Proofs.Try.prog F.osierref01_R_Count = some (24, F.osierref01_R_Count.ic, F.osierref01_R_Count.rs) := by kernel_rfl
theorem F.osierref01_R_Count.cl : callable Go.Proofs.Try.prog F.osierref01_R_Count = true := by kernel_rfl
attribute [go_sem] F.num_Reader_Count.r0 F.num_Reader_Count.r1 F.num_Reader_Count.r2 F.num_Reader_Count.r3 F.num_Reader_Count.r4 F.num_Reader_Count.r5 F.num_Reader_Count.ic F.num_Reader_Count.rs
attribute [go_sem] F.osierlaw04_VectorBytes.r0 F.osierlaw04_VectorBytes.r1 F.osierlaw04_VectorBytes.r2 F.osierlaw04_VectorBytes.r3 F.osierlaw04_VectorBytes.r4 F.osierlaw04_VectorBytes.r5 F.osierlaw04_VectorBytes.r6 F.osierlaw04_VectorBytes.r7 F.osierlaw04_VectorBytes.r8 F.osierlaw04_VectorBytes.r9 F.osierlaw04_VectorBytes.r10 F.osierlaw04_VectorBytes.r11 F.osierlaw04_VectorBytes.r12 F.osierlaw04_VectorBytes.r13 F.osierlaw04_VectorBytes.r14 F.osierlaw04_VectorBytes.r15 F.osierlaw04_VectorBytes.r16 F.osierlaw04_VectorBytes.r17 F.osierlaw04_VectorBytes.r18 F.osierlaw04_VectorBytes.ic F.osierlaw04_VectorBytes.rs
attribute [go_sem] F.osierref01_R_Count.r0 F.osierref01_R_Count.r1 F.osierref01_R_Count.r2 F.osierref01_R_Count.r3 F.osierref01_R_Count.r4 F.osierref01_R_Count.r5 F.osierref01_R_Count.r6 F.osierref01_R_Count.r7 F.osierref01_R_Count.ic F.osierref01_R_Count.rs
attribute [go_sem] F.osierref04_Put.r0 F.osierref04_Put.r1 F.osierref04_Put.r2 F.osierref04_Put.r3 F.osierref04_Put.r4 F.osierref04_Put.r5 F.osierref04_Put.r6 F.osierref04_Put.ic F.osierref04_Put.rs
attribute [go_sem] F.osierref04_Take.r0 F.osierref04_Take.r1 F.osierref04_Take.r2 F.osierref04_Take.r3 F.osierref04_Take.r4 F.osierref04_Take.r5 F.osierref04_Take.r6 F.osierref04_Take.r7 F.osierref04_Take.r8 F.osierref04_Take.r9 F.osierref04_Take.r10 F.osierref04_Take.r11 F.osierref04_Take.ic F.osierref04_Take.rs
attribute [go_sem] F.vector_Put.r0 F.vector_Put.r1 F.vector_Put.r2 F.vector_Put.r3 F.vector_Put.r4 F.vector_Put.r5 F.vector_Put.r6 F.vector_Put.r7 F.vector_Put.ic F.vector_Put.rs
attribute [go_sem] F.vector_Take.r0 F.vector_Take.r1 F.vector_Take.r2 F.vector_Take.r3 F.vector_Take.r4 F.vector_Take.r5 F.vector_Take.r6 F.vector_Take.r7 F.vector_Take.r8 F.vector_Take.r9 F.vector_Take.r10 F.vector_Take.ic F.vector_Take.rs
end Go.Osj
