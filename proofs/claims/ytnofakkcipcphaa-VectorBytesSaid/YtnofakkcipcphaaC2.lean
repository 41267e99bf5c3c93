/- The compiled code of functions (printed by a program, checked by the kernel). -/
import Derived.Test.YtnofakkcipcphaaC0
import Derived.Test.YtnofakkcipcphaaOsjN
set_option maxRecDepth 100000
namespace Go.Osj
noncomputable def F.osierlaw03_DotsBytes.r0 : Plan :=
  .ef 0 none (.box (.tmp 1)) (some 3) [] (
  .rd 1 none (.mv (.const (.bool false))) (some 4) false <|
  .done) .none
noncomputable def F.osierlaw03_DotsBytes.r1 : Plan :=
  .ef 0 none (.call F.osierlaw03_awake []) (some 11) [] (
  .rd 1 none (.mv (.tmp 11)) (some 5) false <|
  .done) .none
noncomputable def F.osierlaw03_DotsBytes.r2 : Plan :=
  .rd 0 none (.mv (.tmp 5)) (some 12) false <|
  .rd 1 none (.un .not (.tmp 12)) (some 13) false <|
  .done
noncomputable def F.osierlaw03_DotsBytes.r3 : Plan :=
  .rd 0 none (.mv (.const (.bool false))) (some 4) false <|
  .done
noncomputable def F.osierlaw03_DotsBytes.r4 : Plan :=
  .rd 0 none (.mv (.tmp 0)) (some 14) false <|
  .rd 1 none (.len .sl (.tmp 14)) (some 15) false <|
  .rd 2 none (.bin .gtr (.tmp 15) (.const (.int .i64 1000))) (some 16) false <|
  .done
noncomputable def F.osierlaw03_DotsBytes.r5 : Plan :=
  .rd 0 none (.mv (.const (.bool true))) (some 4) false <|
  .done
noncomputable def F.osierlaw03_DotsBytes.r6 : Plan :=
  .rd 0 none (.mv (.tmp 0)) (some 17) false <|
  .rd 1 none (.ldn 2 (.tmp 3)) (some 18) false <|
  .ef 2 none (.call F.dots_Put [(.tmp 17), (.tmp 18)]) (some 19) [] (
  .rd 3 none (.mv (.tmp 19)) (some 6) false <|
  .done) .none
noncomputable def F.osierlaw03_DotsBytes.r7 : Plan :=
  .rd 0 none (.mv (.tmp 6)) (some 20) false <|
  .rd 1 none (.bs (.tmp 20)) (some 21) true <|
  .rd 2 none (.mv (.tmp 0)) (some 22) false <|
  .rd 3 none (.bs (.tmp 22)) (some 23) true <|
  .rd 4 none (.ldn 2 (.tmp 3)) (some 24) false <|
  .ef 5 none (.call F.osierref03_Put [(.tmp 24)]) (some 25) [0, 1, 2, 3] (
  .rd 6 none (.bs (.tmp 25)) (some 26) false <|
  .rd 7 none (.bin .add (.tmp 23) (.tmp 26)) (some 27) false <|
  .rd 8 none (.bin .neq (.tmp 21) (.tmp 27)) (some 28) false <|
  .done) .none
noncomputable def F.osierlaw03_DotsBytes.r8 : Plan :=
  .rd 0 none (.mv (.const (.bool false))) (some 4) false <|
  .done
noncomputable def F.osierlaw03_DotsBytes.r9 : Plan :=
  .rd 0 none (.mv (.tmp 0)) (some 29) false <|
  .ef 1 none (.call F.num_Read [(.tmp 29)]) (some 30) [] (
  .rd 2 none (.mv (.tmp 30)) (some 7) false <|
  .done) .none
noncomputable def F.osierlaw03_DotsBytes.r10 : Plan :=
  .rd 0 none (.mv (.tmp 0)) (some 31) false <|
  .rd 1 none (.build [(.slice none 0 0), (.int .i64 0)] [(0, (1, (.tmp 31)))]) (some 32) false <|
  .ef 2 none (.box (.tmp 32)) (some 33) [] (
  .rd 3 none (.mv (.tmp 33)) (some 8) false <|
  .done) .none
noncomputable def F.osierlaw03_DotsBytes.r11 : Plan :=
  .rd 0 none (.mv (.const (.int .i64 0))) (some 9) false <|
  .done
noncomputable def F.osierlaw03_DotsBytes.r12 : Plan :=
  .rd 0 none (.mv (.tmp 9)) (some 34) false <|
  .rd 1 none (.bin .lss (.tmp 34) (.const (.int .i64 5))) (some 35) false <|
  .done
noncomputable def F.osierlaw03_DotsBytes.r13 : Plan :=
  .rd 0 none (.mv (.tmp 7)) (some 38) false <|
  .rd 2 none (.mv (.tmp 8)) (some 40) false <|
  .ef 1 none (.call F.dots_Take [(.tmp 38)]) (some 39) [2] (
  .ef 3 none (.call F.osierref03_Take [(.tmp 40)]) (some 41) [] (
  .rd 4 none (.eqS [(.i .i64), (.i .i64)] true true (.tmp 39) (.tmp 41)) (some 42) false <|
  .rd 5 none (.mv (.tmp 42)) (some 43) false <|
  .rd 6 (some (43, false)) (.mv (.tmp 7)) (some 44) false <|
  .rd 8 (some (43, false)) (.mv (.tmp 8)) (some 46) false <|
  .rd 9 (some (43, false)) (.nilC (.tmp 46)) (some 47) false <|
  .rd 10 (some (43, false)) (.fldA 0 (.tmp 47)) (some 48) false <|
  .rd 11 (some (43, false)) (.ld1 (.tmp 48)) (some 49) true <|
  .rd 12 (some (43, false)) (.len .sl (.tmp 49)) (some 50) false <|
  .ef 7 (some (43, false)) (.call F.num_Reader_Left [(.tmp 44)]) (some 45) [8, 9, 10, 11, 12] (
  .rd 13 (some (43, false)) (.bin .neq (.tmp 45) (.tmp 50)) (some 51) false <|
  .rd 14 none (.pick (.tmp 43) (.const (.bool true)) (.tmp 51)) (some 52) false <|
  .rd 15 none (.mv (.tmp 52)) (some 53) false <|
  .rd 16 (some (53, false)) (.mv (.tmp 7)) (some 54) false <|
  .rd 18 (some (53, false)) (.mv (.tmp 8)) (some 56) false <|
  .rd 19 (some (53, false)) (.nilC (.tmp 56)) (some 57) false <|
  .rd 20 (some (53, false)) (.fldA 1 (.tmp 57)) (some 58) false <|
  .rd 21 (some (53, false)) (.ld1 (.tmp 58)) (some 59) true <|
  .ef 17 (some (53, false)) (.call F.num_Reader_Err [(.tmp 54)]) (some 55) [18, 19, 20, 21] (
  .rd 22 (some (53, false)) (.bin .neq (.tmp 55) (.tmp 59)) (some 60) false <|
  .rd 23 none (.pick (.tmp 53) (.const (.bool true)) (.tmp 60)) (some 61) false <|
  .done) .none) .none) .none) .none
noncomputable def F.osierlaw03_DotsBytes.r14 : Plan :=
  .rd 0 none (.mv (.const (.bool false))) (some 4) false <|
  .done
noncomputable def F.osierlaw03_DotsBytes.r15 : Plan :=
  .rd 0 none (.mv (.tmp 9)) (some 36) false <|
  .rd 1 none (.bin .add (.tmp 36) (.const (.int .i64 1))) (some 37) false <|
  .rd 2 none (.mv (.tmp 37)) (some 9) false <|
  .done
noncomputable def F.osierlaw03_DotsBytes.l0 : IC :=
    (.seq (.seq (.reg F.osierlaw03_DotsBytes.r12)
    (.cond (.tmp 35) .skip (.exit 0)))
    (.seq (.block 1 (.seq (.reg F.osierlaw03_DotsBytes.r13)
    (.cond (.tmp 61) (.seq (.reg F.osierlaw03_DotsBytes.r14)
    .ret) .skip)))
    (.reg F.osierlaw03_DotsBytes.r15)))
noncomputable def F.osierlaw03_DotsBytes.r16 : Plan :=
  .rd 0 none (.mv (.tmp 6)) (some 62) false <|
  .rd 1 none (.mv (.tmp 0)) (some 63) false <|
  .rd 2 none (.len .sl (.tmp 63)) (some 64) false <|
  .rd 3 none (.sl 1 (.tmp 62) (some (.tmp 64)) none none) (some 65) false <|
  .ef 4 none (.call F.num_Read [(.tmp 65)]) (some 66) [] (
  .rd 5 none (.mv (.tmp 66)) (some 10) false <|
  .done) .none
noncomputable def F.osierlaw03_DotsBytes.r17 : Plan :=
  .rd 0 none (.mv (.tmp 10)) (some 67) false <|
  .rd 2 none (.ldn 2 (.tmp 3)) (some 69) true <|
  .ef 1 none (.call F.dots_Take [(.tmp 67)]) (some 68) [2] (
  .rd 3 none (.eqS [(.i .i64), (.i .i64)] true false (.tmp 68) (.tmp 69)) (some 70) false <|
  .rd 4 none (.mv (.tmp 70)) (some 71) false <|
  .rd 5 (some (71, true)) (.mv (.tmp 10)) (some 72) false <|
  .ef 6 (some (71, true)) (.call F.num_Reader_End [(.tmp 72)]) (some 73) [] (
  .rd 7 (some (71, true)) (.bin .eql (.tmp 73) (.const (.int .i64 0))) (some 74) false <|
  .rd 8 none (.pick (.tmp 71) (.tmp 74) (.const (.bool false))) (some 75) false <|
  .rd 9 none (.mv (.tmp 75)) (some 4) false <|
  .done) .none) .none
noncomputable def F.osierlaw03_DotsBytes.ic : IC :=
    (.seq (.reg F.osierlaw03_DotsBytes.r0)
    (.seq (.reg F.osierlaw03_DotsBytes.r1)
    (.seq (.seq (.reg F.osierlaw03_DotsBytes.r2)
    (.cond (.tmp 13) (.seq (.reg F.osierlaw03_DotsBytes.r3)
    .ret) .skip))
    (.seq (.seq (.reg F.osierlaw03_DotsBytes.r4)
    (.cond (.tmp 16) (.seq (.reg F.osierlaw03_DotsBytes.r5)
    .ret) .skip))
    (.seq (.reg F.osierlaw03_DotsBytes.r6)
    (.seq (.seq (.reg F.osierlaw03_DotsBytes.r7)
    (.cond (.tmp 28) (.seq (.reg F.osierlaw03_DotsBytes.r8)
    .ret) .skip))
    (.seq (.reg F.osierlaw03_DotsBytes.r9)
    (.seq (.reg F.osierlaw03_DotsBytes.r10)
    (.seq (.seq (.reg F.osierlaw03_DotsBytes.r11)
    (.block 0 (.loop F.osierlaw03_DotsBytes.l0)))
    (.seq (.reg F.osierlaw03_DotsBytes.r16)
    (.seq (.reg F.osierlaw03_DotsBytes.r17)
    .ret)))))))))))
noncomputable def F.osierlaw03_DotsBytes.rs : List RO := [(.mv (.tmp 4))]
theorem F.osierlaw03_DotsBytes.ok : cFunc Go.Proofs.Try.prog F.osierlaw03_DotsBytes = some (76, F.osierlaw03_DotsBytes.ic, F.osierlaw03_DotsBytes.rs) := by kernel_rfl
theorem F.osierlaw03_DotsBytes.cl : callable Go.Proofs.Try.prog F.osierlaw03_DotsBytes = true := by kernel_rfl
noncomputable def F.dots_Put.r0 : Plan :=
  .ef 0 none (.box (.tmp 1)) (some 3) [] (
  .rd 1 none (.mv (.const (.slice none 0 0))) (some 4) false <|
  .done) .none
noncomputable def F.dots_Put.r1 : Plan :=
  .rd 0 none (.mv (.tmp 0)) (some 5) false <|
  .rd 1 none (.fldA 0 (.tmp 3)) (some 6) false <|
  .rd 2 none (.ld1 (.tmp 6)) (some 7) false <|
  .rd 4 none (.fldA 1 (.tmp 3)) (some 9) false <|
  .rd 5 none (.ld1 (.tmp 9)) (some 10) true <|
  .ef 3 none (.call F.num_Int [(.tmp 5), (.tmp 7)]) (some 8) [4, 5] (
  .ef 6 none (.call F.num_Int [(.tmp 8), (.tmp 10)]) (some 11) [] (
  .rd 7 none (.mv (.tmp 11)) (some 4) false <|
  .done) .none) .none
noncomputable def F.dots_Put.ic : IC :=
    (.seq (.reg F.dots_Put.r0)
    (.seq (.reg F.dots_Put.r1)
    .ret))
noncomputable def F.dots_Put.rs : List RO := [(.mv (.tmp 4))]
theorem F.dots_Put.ok : cFunc Go.Proofs.Try.prog F.dots_Put = some (12, F.dots_Put.ic, F.dots_Put.rs) := by kernel_rfl
theorem F.dots_Put.cl : callable Go.Proofs.Try.prog F.dots_Put = true := by kernel_rfl
noncomputable def F.osierref03_Put.r0 : Plan :=
  .ef 0 none (.box (.tmp 0)) (some 1) [] (
  .rd 1 none (.mv (.const (.slice none 0 0))) (some 2) false <|
  .done) .none
noncomputable def F.osierref03_Put.r1 : Plan :=
  .rd 0 none (.fldA 0 (.tmp 1)) (some 3) false <|
  .rd 1 none (.ld1 (.tmp 3)) (some 4) false <|
  .rd 3 none (.fldA 1 (.tmp 1)) (some 6) false <|
  .rd 4 none (.ld1 (.tmp 6)) (some 7) true <|
  .ef 2 none (.call F.osierref01_Int [(.tmp 4)]) (some 5) [3, 4] (
  .ef 5 none (.call F.osierref01_Int [(.tmp 7)]) (some 8) [] (
  .ef 6 none (.app 1 1 (.tmp 5) (.tmp 8)) (some 9) [] (
  .rd 7 none (.mv (.tmp 9)) (some 2) false <|
  .done) .none) .none) .none
noncomputable def F.osierref03_Put.ic : IC :=
    (.seq (.reg F.osierref03_Put.r0)
    (.seq (.reg F.osierref03_Put.r1)
    .ret))
noncomputable def F.osierref03_Put.rs : List RO := [(.mv (.tmp 2))]
theorem F.osierref03_Put.ok : cFunc Go.Proofs.Try.prog F.osierref03_Put = some (10, F.osierref03_Put.ic, F.osierref03_Put.rs) := by kernel_rfl
theorem F.osierref03_Put.cl : callable Go.Proofs.Try.prog F.osierref03_Put = true := by kernel_rfl
noncomputable def F.num_Read.r0 : Plan :=
  .rd 0 none (.mv (.const (.pointer none))) (some 2) false <|
  .done
noncomputable def F.num_Read.r1 : Plan :=
  .rd 0 none (.mv (.tmp 0)) (some 3) false <|
  .rd 1 none (.build [(.slice none 0 0), (.int .i64 0)] [(0, (1, (.tmp 3)))]) (some 4) false <|
  .ef 2 none (.box (.tmp 4)) (some 5) [] (
  .rd 3 none (.mv (.tmp 5)) (some 2) false <|
  .done) .none
noncomputable def F.num_Read.ic : IC :=
    (.seq (.reg F.num_Read.r0)
    (.seq (.reg F.num_Read.r1)
    .ret))
noncomputable def F.num_Read.rs : List RO := [(.mv (.tmp 2))]
theorem F.num_Read.ok : cFunc Go.Proofs.Try.prog F.num_Read = some (6, F.num_Read.ic, F.num_Read.rs) := by kernel_rfl
theorem F.num_Read.cl : callable Go.Proofs.Try.prog F.num_Read = true := by kernel_rfl
noncomputable def F.dots_Take.r0 : Plan :=
  .ef 0 none (.alloc [(.int .i64 0), (.int .i64 0)]) (some 2) [] (
  .done) .none
noncomputable def F.dots_Take.r1 : Plan :=
  .rd 0 none (.mv (.tmp 0)) (some 5) false <|
  .ef 1 none (.call F.num_Reader_Int [(.tmp 5)]) (some 6) [] (
  .rd 2 none (.mv (.tmp 6)) (some 3) false <|
  .done) .none
noncomputable def F.dots_Take.r2 : Plan :=
  .rd 0 none (.mv (.tmp 3)) (some 7) false <|
  .rd 1 none (.mv (.tmp 0)) (some 8) false <|
  .ef 2 none (.call F.num_Reader_Int [(.tmp 8)]) (some 9) [] (
  .rd 3 none (.build [(.int .i64 0), (.int .i64 0)] [(0, (1, (.tmp 7))), (1, (1, (.tmp 9)))]) (some 10) false <|
  .ef 4 none (.alloc [(.int .i64 0), (.int .i64 0)]) (some 4) [] (
  .ef 5 none (.st 2 (.tmp 4) (.tmp 10)) none [] (
  .done) .none) .none) .none
noncomputable def F.dots_Take.r3 : Plan :=
  .rd 0 none (.mv (.tmp 0)) (some 11) false <|
  .ef 1 none (.call F.num_Reader_Err [(.tmp 11)]) (some 12) [] (
  .rd 2 none (.bin .neq (.tmp 12) (.const (.int .i64 0))) (some 13) false <|
  .done) .none
noncomputable def F.dots_Take.r4 : Plan :=
  .rd 0 none (.build [(.int .i64 0), (.int .i64 0)] []) (some 14) false <|
  .ef 1 none (.st 2 (.tmp 2) (.tmp 14)) none [] (
  .done) .none
noncomputable def F.dots_Take.r5 : Plan :=
  .rd 0 none (.ldn 2 (.tmp 4)) (some 15) false <|
  .ef 1 none (.st 2 (.tmp 2) (.tmp 15)) none [] (
  .done) .none
noncomputable def F.dots_Take.ic : IC :=
    (.seq (.reg F.dots_Take.r0)
    (.seq (.reg F.dots_Take.r1)
    (.seq (.reg F.dots_Take.r2)
    (.seq (.seq (.reg F.dots_Take.r3)
    (.cond (.tmp 13) (.seq (.reg F.dots_Take.r4)
    .ret) .skip))
    (.seq (.reg F.dots_Take.r5)
    .ret)))))
noncomputable def F.dots_Take.rs : List RO := [(.ldn 2 (.tmp 2))]
theorem F.dots_Take.ok : cFunc Go.Proofs.Try.prog F.dots_Take = some (16, F.dots_Take.ic, F.dots_Take.rs) := by kernel_rfl
theorem F.dots_Take.cl : callable Go.Proofs.Try.prog F.dots_Take = true := by kernel_rfl
noncomputable def F.osierref03_Take.r0 : Plan :=
  .ef 0 none (.alloc [(.int .i64 0), (.int .i64 0)]) (some 2) [] (
  .done) .none
noncomputable def F.osierref03_Take.r1 : Plan :=
  .rd 0 none (.mv (.tmp 0)) (some 5) false <|
  .ef 1 none (.call F.osierref01_R_Int [(.tmp 5)]) (some 6) [] (
  .rd 2 none (.mv (.tmp 6)) (some 3) false <|
  .done) .none
noncomputable def F.osierref03_Take.r2 : Plan :=
  .rd 0 none (.mv (.tmp 0)) (some 7) false <|
  .ef 1 none (.call F.osierref01_R_Int [(.tmp 7)]) (some 8) [] (
  .rd 2 none (.mv (.tmp 8)) (some 4) false <|
  .done) .none
noncomputable def F.osierref03_Take.r3 : Plan :=
  .rd 0 none (.mv (.tmp 0)) (some 9) false <|
  .rd 1 none (.nilC (.tmp 9)) (some 10) false <|
  .rd 2 none (.fldA 1 (.tmp 10)) (some 11) false <|
  .rd 3 none (.ld1 (.tmp 11)) (some 12) false <|
  .rd 4 none (.bin .neq (.tmp 12) (.const (.int .i64 0))) (some 13) false <|
  .done
noncomputable def F.osierref03_Take.r4 : Plan :=
  .rd 0 none (.build [(.int .i64 0), (.int .i64 0)] []) (some 14) false <|
  .ef 1 none (.st 2 (.tmp 2) (.tmp 14)) none [] (
  .done) .none
noncomputable def F.osierref03_Take.r5 : Plan :=
  .rd 0 none (.mv (.tmp 3)) (some 15) false <|
  .rd 1 none (.mv (.tmp 4)) (some 16) false <|
  .rd 2 none (.build [(.int .i64 0), (.int .i64 0)] [(0, (1, (.tmp 15))), (1, (1, (.tmp 16)))]) (some 17) false <|
  .ef 3 none (.st 2 (.tmp 2) (.tmp 17)) none [] (
  .done) .none
noncomputable def F.osierref03_Take.ic : IC :=
    (.seq (.reg F.osierref03_Take.r0)
    (.seq (.reg F.osierref03_Take.r1)
    (.seq (.reg F.osierref03_Take.r2)
    (.seq (.seq (.reg F.osierref03_Take.r3)
    (.cond (.tmp 13) (.seq (.reg F.osierref03_Take.r4)
    .ret) .skip))
    (.seq (.reg F.osierref03_Take.r5)
    .ret)))))
noncomputable def F.osierref03_Take.rs : List RO := [(.ldn 2 (.tmp 2))]
theorem F.osierref03_Take.ok : cFunc Go.Proofs.Try.prog F.osierref03_Take = some (18, F.osierref03_Take.ic, F.osierref03_Take.rs) := by kernel_rfl
theorem F.osierref03_Take.cl : callable Go.Proofs.Try.prog F.osierref03_Take = true := by kernel_rfl
noncomputable def F.num_Reader_Left.r0 : Plan :=
  .rd 0 none (.mv (.const (.int .i64 0))) (some 2) false <|
  .done
noncomputable def F.num_Reader_Left.r1 : Plan :=
  .rd 0 none (.mv (.tmp 0)) (some 3) false <|
  .rd 1 none (.eqNil .ptr false (.tmp 3) (.const (.pointer none))) (some 4) false <|
  .done
noncomputable def F.num_Reader_Left.r2 : Plan :=
  .rd 0 none (.mv (.const (.int .i64 0))) (some 2) false <|
  .done
noncomputable def F.num_Reader_Left.r3 : Plan :=
  .rd 0 none (.mv (.tmp 0)) (some 5) false <|
  .rd 1 none (.nilC (.tmp 5)) (some 6) false <|
  .rd 2 none (.fldA 0 (.tmp 6)) (some 7) false <|
  .rd 3 none (.ld1 (.tmp 7)) (some 8) false <|
  .rd 4 none (.len .sl (.tmp 8)) (some 9) false <|
  .rd 5 none (.mv (.tmp 9)) (some 2) false <|
  .done
noncomputable def F.num_Reader_Left.ic : IC :=
    (.seq (.reg F.num_Reader_Left.r0)
    (.seq (.seq (.reg F.num_Reader_Left.r1)
    (.cond (.tmp 4) (.seq (.reg F.num_Reader_Left.r2)
    .ret) .skip))
    (.seq (.reg F.num_Reader_Left.r3)
    .ret)))
noncomputable def F.num_Reader_Left.rs : List RO := [(.mv (.tmp 2))]
theorem F.num_Reader_Left.ok : cFunc Go.Proofs.Try.prog F.num_Reader_Left = some (10, F.num_Reader_Left.ic, F.num_Reader_Left.rs) := by kernel_rfl
theorem F.num_Reader_Left.cl : callable Go.Proofs.Try.prog F.num_Reader_Left = true := by kernel_rfl
noncomputable def F.num_Reader_Err.r0 : Plan :=
  .rd 0 none (.mv (.const (.int .i64 0))) (some 2) false <|
  .done
noncomputable def F.num_Reader_Err.r1 : Plan :=
  .rd 0 none (.mv (.tmp 0)) (some 3) false <|
  .rd 1 none (.eqNil .ptr false (.tmp 3) (.const (.pointer none))) (some 4) false <|
  .done
noncomputable def F.num_Reader_Err.r2 : Plan :=
  .rd 0 none (.mv (.const (.int .i64 1))) (some 2) false <|
  .done
noncomputable def F.num_Reader_Err.r3 : Plan :=
  .rd 0 none (.mv (.tmp 0)) (some 5) false <|
  .rd 1 none (.nilC (.tmp 5)) (some 6) false <|
  .rd 2 none (.fldA 1 (.tmp 6)) (some 7) false <|
  .rd 3 none (.ld1 (.tmp 7)) (some 8) false <|
  .rd 4 none (.mv (.tmp 8)) (some 2) false <|
  .done
noncomputable def F.num_Reader_Err.ic : IC :=
    (.seq (.reg F.num_Reader_Err.r0)
    (.seq (.seq (.reg F.num_Reader_Err.r1)
    (.cond (.tmp 4) (.seq (.reg F.num_Reader_Err.r2)
    .ret) .skip))
    (.seq (.reg F.num_Reader_Err.r3)
    .ret)))
noncomputable def F.num_Reader_Err.rs : List RO := [(.mv (.tmp 2))]
theorem F.num_Reader_Err.ok : cFunc Go.Proofs.Try.prog F.num_Reader_Err = some (9, F.num_Reader_Err.ic, F.num_Reader_Err.rs) := by kernel_rfl
theorem F.num_Reader_Err.cl : callable Go.Proofs.Try.prog F.num_Reader_Err = true := by kernel_rfl
noncomputable def F.num_Reader_End.r0 : Plan :=
  .rd 0 none (.mv (.const (.int .i64 0))) (some 2) false <|
  .done
noncomputable def F.num_Reader_End.r1 : Plan :=
  .rd 0 none (.mv (.tmp 0)) (some 3) false <|
  .ef 1 none (.call F.num_Reader_Left [(.tmp 3)]) (some 4) [] (
  .rd 2 none (.bin .gtr (.tmp 4) (.const (.int .i64 0))) (some 5) false <|
  .done) .none
noncomputable def F.num_Reader_End.r2 : Plan :=
  .rd 0 none (.mv (.tmp 0)) (some 6) false <|
  .ef 1 none (.call F.num_Reader_Fail [(.tmp 6), (.const (.int .i64 11))]) (some 7) [] (
  .done) .none
noncomputable def F.num_Reader_End.r3 : Plan :=
  .rd 0 none (.mv (.tmp 0)) (some 8) false <|
  .ef 1 none (.call F.num_Reader_Err [(.tmp 8)]) (some 9) [] (
  .rd 2 none (.mv (.tmp 9)) (some 2) false <|
  .done) .none
noncomputable def F.num_Reader_End.ic : IC :=
    (.seq (.reg F.num_Reader_End.r0)
    (.seq (.seq (.reg F.num_Reader_End.r1)
    (.cond (.tmp 5) (.reg F.num_Reader_End.r2) .skip))
    (.seq (.reg F.num_Reader_End.r3)
    .ret)))
noncomputable def F.num_Reader_End.rs : List RO := [(.mv (.tmp 2))]
theorem F.num_Reader_End.ok : cFunc Go.Proofs.Try.prog F.num_Reader_End = some (10, F.num_Reader_End.ic, F.num_Reader_End.rs) := by kernel_rfl
theorem F.num_Reader_End.cl : callable Go.Proofs.Try.prog F.num_Reader_End = true := by kernel_rfl
noncomputable def F.num_Int.r0 : Plan :=
  .rd 0 none (.mv (.const (.slice none 0 0))) (some 4) false <|
  .done
noncomputable def F.num_Int.r1 : Plan :=
  .rd 0 none (.mv (.tmp 0)) (some 5) false <|
  .rd 1 none (.mv (.tmp 1)) (some 6) false <|
  .rd 2 none (.convI .u64 (.tmp 6)) (some 7) false <|
  .rd 3 none (.bin .shl (.tmp 7) (.const (.int .u64 1))) (some 8) false <|
  .rd 4 none (.mv (.tmp 1)) (some 9) false <|
  .rd 5 none (.bin .shr (.tmp 9) (.const (.int .u64 63))) (some 10) false <|
  .rd 6 none (.convI .u64 (.tmp 10)) (some 11) false <|
  .rd 7 none (.bin .xor (.tmp 8) (.tmp 11)) (some 12) false <|
  .ef 8 none (.call F.num_Uint [(.tmp 5), (.tmp 12)]) (some 13) [] (
  .rd 9 none (.mv (.tmp 13)) (some 4) false <|
  .done) .none
noncomputable def F.num_Int.ic : IC :=
    (.seq (.reg F.num_Int.r0)
    (.seq (.reg F.num_Int.r1)
    .ret))
noncomputable def F.num_Int.rs : List RO := [(.mv (.tmp 4))]
theorem F.num_Int.ok : cFunc Go.Proofs.Try.prog F.num_Int = some (14, F.num_Int.ic, F.num_Int.rs) := by kernel_rfl
theorem F.num_Int.cl : callable Go.Proofs.Try.prog F.num_Int = true := by kernel_rfl
noncomputable def F.osierref01_Int.r0 : Plan :=
  .rd 0 none (.mv (.const (.slice none 0 0))) (some 2) false <|
  .done
noncomputable def F.osierref01_Int.r1 : Plan :=
  .rd 0 none (.mv (.tmp 0)) (some 3) false <|
  .rd 1 none (.bin .geq (.tmp 3) (.const (.int .i64 0))) (some 4) false <|
  .done
noncomputable def F.osierref01_Int.r2 : Plan :=
  .rd 0 none (.mv (.tmp 0)) (some 5) false <|
  .rd 1 none (.convI .u64 (.tmp 5)) (some 6) false <|
  .rd 2 none (.bin .mul (.const (.int .u64 2)) (.tmp 6)) (some 7) false <|
  .ef 3 none (.call F.osierref01_Uint [(.tmp 7)]) (some 8) [] (
  .rd 4 none (.mv (.tmp 8)) (some 2) false <|
  .done) .none
noncomputable def F.osierref01_Int.r3 : Plan :=
  .rd 0 none (.mv (.tmp 0)) (some 9) false <|
  .rd 1 none (.bin .add (.tmp 9) (.const (.int .i64 1))) (some 10) false <|
  .rd 2 none (.un .neg (.tmp 10)) (some 11) false <|
  .rd 3 none (.convI .u64 (.tmp 11)) (some 12) false <|
  .rd 4 none (.bin .mul (.const (.int .u64 2)) (.tmp 12)) (some 13) false <|
  .rd 5 none (.bin .add (.tmp 13) (.const (.int .u64 1))) (some 14) false <|
  .ef 6 none (.call F.osierref01_Uint [(.tmp 14)]) (some 15) [] (
  .rd 7 none (.mv (.tmp 15)) (some 2) false <|
  .done) .none
noncomputable def F.osierref01_Int.ic : IC :=
    (.seq (.reg F.osierref01_Int.r0)
    (.seq (.seq (.reg F.osierref01_Int.r1)
    (.cond (.tmp 4) (.seq (.reg F.osierref01_Int.r2)
    .ret) .skip))
    (.seq (.reg F.osierref01_Int.r3)
    .ret)))
noncomputable def F.osierref01_Int.rs : List RO := [(.mv (.tmp 2))]
theorem F.osierref01_Int.ok : cFunc Go.Proofs.Try.prog F.osierref01_Int = some (16, F.osierref01_Int.ic, F.osierref01_Int.rs) := by kernel_rfl
theorem F.osierref01_Int.cl : callable Go.Proofs.Try.prog F.osierref01_Int = true := by kernel_rfl
noncomputable def F.num_Reader_Int.r0 : Plan :=
  .rd 0 none (.mv (.const (.int .i64 0))) (some 2) false <|
  .done
noncomputable def F.num_Reader_Int.r1 : Plan :=
  .rd 0 none (.mv (.tmp 0)) (some 4) false <|
  .ef 1 none (.call F.num_Reader_Uint [(.tmp 4)]) (some 5) [] (
  .rd 2 none (.mv (.tmp 5)) (some 3) false <|
  .done) .none
noncomputable def F.num_Reader_Int.r2 : Plan :=
  .rd 0 none (.mv (.tmp 3)) (some 6) false <|
  .rd 1 none (.bin .shr (.tmp 6) (.const (.int .u64 1))) (some 7) false <|
  .rd 2 none (.convI .i64 (.tmp 7)) (some 8) false <|
  .rd 3 none (.mv (.tmp 3)) (some 9) false <|
  .rd 4 none (.bin .and (.tmp 9) (.const (.int .u64 1))) (some 10) false <|
  .rd 5 none (.convI .i64 (.tmp 10)) (some 11) false <|
  .rd 6 none (.un .neg (.tmp 11)) (some 12) false <|
  .rd 7 none (.bin .xor (.tmp 8) (.tmp 12)) (some 13) false <|
  .rd 8 none (.mv (.tmp 13)) (some 2) false <|
  .done
noncomputable def F.num_Reader_Int.ic : IC :=
    (.seq (.reg F.num_Reader_Int.r0)
    (.seq (.reg F.num_Reader_Int.r1)
    (.seq (.reg F.num_Reader_Int.r2)
    .ret)))
noncomputable def F.num_Reader_Int.rs : List RO := [(.mv (.tmp 2))]
theorem F.num_Reader_Int.ok : cFunc Go.Proofs.Try.prog F.num_Reader_Int = some (14, F.num_Reader_Int.ic, F.num_Reader_Int.rs) := by kernel_rfl
theorem F.num_Reader_Int.cl : callable Go.Proofs.Try.prog F.num_Reader_Int = true := by kernel_rfl
noncomputable def F.osierref01_R_Int.r0 : Plan :=
  .rd 0 none (.mv (.const (.int .i64 0))) (some 2) false <|
  .done
noncomputable def F.osierref01_R_Int.r1 : Plan :=
  .rd 0 none (.mv (.tmp 0)) (some 4) false <|
  .ef 1 none (.call F.osierref01_R_Uint [(.tmp 4)]) (some 5) [] (
  .rd 2 none (.mv (.tmp 5)) (some 3) false <|
  .done) .none
noncomputable def F.osierref01_R_Int.r2 : Plan :=
  .rd 0 none (.mv (.tmp 3)) (some 6) false <|
  .rd 1 none (.bin .rem (.tmp 6) (.const (.int .u64 2))) (some 7) false <|
  .rd 2 none (.bin .eql (.tmp 7) (.const (.int .u64 0))) (some 8) false <|
  .done
noncomputable def F.osierref01_R_Int.r3 : Plan :=
  .rd 0 none (.mv (.tmp 3)) (some 9) false <|
  .rd 1 none (.bin .quo (.tmp 9) (.const (.int .u64 2))) (some 10) false <|
  .rd 2 none (.convI .i64 (.tmp 10)) (some 11) false <|
  .rd 3 none (.mv (.tmp 11)) (some 2) false <|
  .done
noncomputable def F.osierref01_R_Int.r4 : Plan :=
  .rd 0 none (.mv (.tmp 3)) (some 12) false <|
  .rd 1 none (.bin .quo (.tmp 12) (.const (.int .u64 2))) (some 13) false <|
  .rd 2 none (.convI .i64 (.tmp 13)) (some 14) false <|
  .rd 3 none (.un .neg (.tmp 14)) (some 15) false <|
  .rd 4 none (.bin .sub (.tmp 15) (.const (.int .i64 1))) (some 16) false <|
  .rd 5 none (.mv (.tmp 16)) (some 2) false <|
  .done
noncomputable def F.osierref01_R_Int.ic : IC :=
    (.seq (.reg F.osierref01_R_Int.r0)
    (.seq (.reg F.osierref01_R_Int.r1)
    (.seq (.seq (.reg F.osierref01_R_Int.r2)
    (.cond (.tmp 8) (.seq (.reg F.osierref01_R_Int.r3)
    .ret) .skip))
    (.seq (.reg F.osierref01_R_Int.r4)
    .ret))))
noncomputable def F.osierref01_R_Int.rs : List RO := [(.mv (.tmp 2))]
theorem F.osierref01_R_Int.ok : cFunc Go.Proofs.Try.prog F.osierref01_R_Int = some (17, F.osierref01_R_Int.ic, F.osierref01_R_Int.rs) := by kernel_rfl
theorem F.osierref01_R_Int.cl : callable Go.Proofs.Try.prog F.osierref01_R_Int = true := by kernel_rfl
noncomputable def F.num_Reader_Fail.r0 : Plan :=
  .rd 0 none (.mv (.tmp 0)) (some 4) false <|
  .rd 1 none (.eqNil .ptr true (.tmp 4) (.const (.pointer none))) (some 5) false <|
  .rd 2 none (.mv (.tmp 5)) (some 6) false <|
  .rd 3 (some (6, true)) (.mv (.tmp 0)) (some 7) false <|
  .rd 4 (some (6, true)) (.nilC (.tmp 7)) (some 8) false <|
  .rd 5 (some (6, true)) (.fldA 1 (.tmp 8)) (some 9) false <|
  .rd 6 (some (6, true)) (.ld1 (.tmp 9)) (some 10) false <|
  .rd 7 (some (6, true)) (.bin .eql (.tmp 10) (.const (.int .i64 0))) (some 11) false <|
  .rd 8 none (.pick (.tmp 6) (.tmp 11) (.const (.bool false))) (some 12) false <|
  .rd 9 none (.mv (.tmp 12)) (some 13) false <|
  .rd 10 (some (13, true)) (.mv (.tmp 1)) (some 14) false <|
  .rd 11 (some (13, true)) (.bin .neq (.tmp 14) (.const (.int .i64 0))) (some 15) false <|
  .rd 12 none (.pick (.tmp 13) (.tmp 15) (.const (.bool false))) (some 16) false <|
  .done
noncomputable def F.num_Reader_Fail.r1 : Plan :=
  .rd 0 none (.mv (.tmp 0)) (some 17) false <|
  .rd 1 none (.mv (.tmp 0)) (some 18) false <|
  .rd 2 none (.mv (.tmp 1)) (some 19) false <|
  .rd 3 none (.nilC (.tmp 17)) (some 20) false <|
  .rd 4 none (.fldA 0 (.tmp 20)) (some 21) false <|
  .ef 5 none (.st 1 (.tmp 21) (.const (.slice none 0 0))) none [] (
  .rd 6 none (.nilC (.tmp 18)) (some 22) false <|
  .rd 7 none (.fldA 1 (.tmp 22)) (some 23) false <|
  .ef 8 none (.st 1 (.tmp 23) (.tmp 19)) none [] (
  .done) .none) .none
noncomputable def F.num_Reader_Fail.ic : IC :=
    (.seq (.reg F.num_Reader_Fail.r0)
    (.cond (.tmp 16) (.reg F.num_Reader_Fail.r1) .skip))
noncomputable def F.num_Reader_Fail.rs : List RO := []
theorem F.num_Reader_Fail.ok : cFunc Go.Proofs.Try.prog F.num_Reader_Fail = some (24, F.num_Reader_Fail.ic, F.num_Reader_Fail.rs) := by kernel_rfl
theorem F.num_Reader_Fail.cl : callable Go.Proofs.Try.prog F.num_Reader_Fail = true := by kernel_rfl
noncomputable def F.num_Uint.r0 : Plan :=
  .rd 0 none (.mv (.const (.slice none 0 0))) (some 4) false <|
  .done
noncomputable def F.num_Uint.r1 : Plan :=
  .rd 0 none (.mv (.tmp 1)) (some 8) false <|
  .ef 1 none (.call F.num_size [(.tmp 8)]) (some 9) [] (
  .rd 2 none (.mv (.tmp 9)) (some 5) false <|
  .done) .none
noncomputable def F.num_Uint.r2 : Plan :=
  .rd 0 none (.mv (.tmp 0)) (some 10) false <|
  .rd 1 none (.len .sl (.tmp 10)) (some 11) false <|
  .rd 2 none (.mv (.tmp 0)) (some 12) false <|
  .rd 3 none (.len .sl (.tmp 12)) (some 13) false <|
  .rd 4 none (.bin .add (.tmp 13) (.const (.int .i64 9))) (some 14) false <|
  .ef 5 none (.mkSl 1 1 [(.int .u8 0)] (.tmp 11) (.tmp 14)) (some 15) [] (
  .rd 6 none (.mv (.tmp 15)) (some 6) false <|
  .done) .none
noncomputable def F.num_Uint.r3 : Plan :=
  .rd 0 none (.mv (.tmp 6)) (some 16) false <|
  .rd 1 none (.mv (.tmp 0)) (some 17) false <|
  .ef 2 none (.cp 1 (.tmp 16) (.tmp 17)) (some 18) [] (
  .done) .none
noncomputable def F.num_Uint.r4 : Plan :=
  .rd 0 none (.mv (.tmp 5)) (some 19) false <|
  .rd 1 none (.mv (.const (.int .i64 0))) (some 20) false <|
  .done
noncomputable def F.num_Uint.r5 : Plan :=
  .rd 0 none (.bin .lss (.tmp 20) (.tmp 19)) (some 21) false <|
  .done
noncomputable def F.num_Uint.r6 : Plan :=
  .rd 0 none (.mv (.tmp 20)) (some 22) false <|
  .rd 1 none (.mv (.tmp 22)) (some 7) false <|
  .done
noncomputable def F.num_Uint.r7 : Plan :=
  .rd 0 none (.mv (.tmp 6)) (some 23) false <|
  .rd 1 none (.mv (.tmp 1)) (some 24) false <|
  .rd 2 none (.mv (.tmp 5)) (some 25) false <|
  .rd 3 none (.bin .sub (.tmp 25) (.const (.int .i64 1))) (some 26) false <|
  .rd 4 none (.mv (.tmp 7)) (some 27) false <|
  .rd 5 none (.bin .sub (.tmp 26) (.tmp 27)) (some 28) false <|
  .rd 6 none (.convI .u64 (.tmp 28)) (some 29) false <|
  .rd 7 none (.bin .mul (.const (.int .u64 8)) (.tmp 29)) (some 30) false <|
  .rd 8 none (.bin .shr (.tmp 24) (.tmp 30)) (some 31) false <|
  .rd 9 none (.convI .u8 (.tmp 31)) (some 32) false <|
  .ef 10 none (.bsl 1 [(.int .u8 0)] [(0, (1, (.tmp 32)))]) (some 33) [] (
  .ef 11 none (.app 1 1 (.tmp 23) (.tmp 33)) (some 34) [] (
  .rd 12 none (.mv (.tmp 34)) (some 6) false <|
  .done) .none) .none
noncomputable def F.num_Uint.r8 : Plan :=
  .rd 0 none (.bin .add (.tmp 20) (.const (.int .i64 1))) (some 35) false <|
  .rd 1 none (.mv (.tmp 35)) (some 20) false <|
  .done
noncomputable def F.num_Uint.l0 : IC :=
    (.seq (.reg F.num_Uint.r5)
    (.seq (.cond (.tmp 21) .skip (.exit 0))
    (.seq (.block 1 (.seq (.reg F.num_Uint.r6)
    (.reg F.num_Uint.r7)))
    (.reg F.num_Uint.r8))))
noncomputable def F.num_Uint.r9 : Plan :=
  .rd 0 none (.mv (.tmp 6)) (some 36) false <|
  .rd 1 none (.mv (.tmp 0)) (some 37) false <|
  .rd 2 none (.len .sl (.tmp 37)) (some 38) false <|
  .rd 3 none (.idxA 1 (.tmp 36) (.tmp 38)) (some 39) false <|
  .rd 4 none (.ld1 (.tmp 39)) (some 40) true <|
  .rd 5 none (.mv (.tmp 5)) (some 41) false <|
  .ef 6 none (.call F.num_head [(.tmp 41)]) (some 42) [0, 1, 2, 3, 4] (
  .rd 7 none (.bin .or (.tmp 40) (.tmp 42)) (some 43) false <|
  .rd 8 none (.idxA 1 (.tmp 36) (.tmp 38)) (some 44) false <|
  .ef 9 none (.st 1 (.tmp 44) (.tmp 43)) none [] (
  .done) .none) .none
noncomputable def F.num_Uint.r10 : Plan :=
  .rd 0 none (.mv (.tmp 6)) (some 45) false <|
  .rd 1 none (.mv (.tmp 45)) (some 4) false <|
  .done
noncomputable def F.num_Uint.ic : IC :=
    (.seq (.reg F.num_Uint.r0)
    (.seq (.reg F.num_Uint.r1)
    (.seq (.reg F.num_Uint.r2)
    (.seq (.reg F.num_Uint.r3)
    (.seq (.seq (.reg F.num_Uint.r4)
    (.block 0 (.loop F.num_Uint.l0)))
    (.seq (.reg F.num_Uint.r9)
    (.seq (.reg F.num_Uint.r10)
    .ret)))))))
noncomputable def F.num_Uint.rs : List RO := [(.mv (.tmp 4))]
theorem F.num_Uint.ok : cFunc Go.Proofs.Try.prog F.num_Uint = some (46, F.num_Uint.ic, F.num_Uint.rs) := by kernel_rfl
theorem F.num_Uint.cl : callable Go.Proofs.Try.prog F.num_Uint = true := by kernel_rfl
noncomputable def F.osierref01_Uint.r0 : Plan :=
  .rd 0 none (.mv (.const (.slice none 0 0))) (some 2) false <|
  .done
noncomputable def F.osierref01_Uint.r1 : Plan :=
  .rd 0 none (.mv (.tmp 0)) (some 11) false <|
  .ef 1 none (.call F.osierref01_Size [(.tmp 11)]) (some 12) [] (
  .rd 2 none (.mv (.tmp 12)) (some 3) false <|
  .done) .none
noncomputable def F.osierref01_Uint.r2 : Plan :=
  .rd 0 none (.mv (.const (.slice none 0 0))) (some 4) false <|
  .done
noncomputable def F.osierref01_Uint.r3 : Plan :=
  .rd 0 none (.mv (.const (.int .i64 0))) (some 5) false <|
  .done
noncomputable def F.osierref01_Uint.r4 : Plan :=
  .rd 0 none (.mv (.tmp 5)) (some 13) false <|
  .rd 1 none (.mv (.tmp 3)) (some 14) false <|
  .rd 2 none (.bin .lss (.tmp 13) (.tmp 14)) (some 15) false <|
  .done
noncomputable def F.osierref01_Uint.r5 : Plan :=
  .rd 0 none (.mv (.tmp 4)) (some 18) false <|
  .rd 1 none (.mv (.tmp 0)) (some 19) false <|
  .rd 2 none (.bin .rem (.tmp 19) (.const (.int .u64 256))) (some 20) false <|
  .rd 3 none (.convI .u8 (.tmp 20)) (some 21) false <|
  .ef 4 none (.bsl 1 [(.int .u8 0)] [(0, (1, (.tmp 21)))]) (some 22) [] (
  .ef 5 none (.app 1 1 (.tmp 18) (.tmp 22)) (some 23) [] (
  .rd 6 none (.mv (.tmp 23)) (some 4) false <|
  .done) .none) .none
noncomputable def F.osierref01_Uint.r6 : Plan :=
  .rd 0 none (.mv (.tmp 0)) (some 24) false <|
  .rd 1 none (.bin .quo (.tmp 24) (.const (.int .u64 256))) (some 25) false <|
  .rd 2 none (.mv (.tmp 25)) (some 0) false <|
  .done
noncomputable def F.osierref01_Uint.r7 : Plan :=
  .rd 0 none (.mv (.tmp 5)) (some 16) false <|
  .rd 1 none (.bin .add (.tmp 16) (.const (.int .i64 1))) (some 17) false <|
  .rd 2 none (.mv (.tmp 17)) (some 5) false <|
  .done
noncomputable def F.osierref01_Uint.l0 : IC :=
    (.seq (.seq (.reg F.osierref01_Uint.r4)
    (.cond (.tmp 15) .skip (.exit 0)))
    (.seq (.block 1 (.seq (.reg F.osierref01_Uint.r5)
    (.reg F.osierref01_Uint.r6)))
    (.reg F.osierref01_Uint.r7)))
noncomputable def F.osierref01_Uint.r8 : Plan :=
  .rd 0 none (.mv (.tmp 3)) (some 26) false <|
  .rd 1 none (.bin .eql (.tmp 26) (.const (.int .i64 9))) (some 27) false <|
  .done
noncomputable def F.osierref01_Uint.r9 : Plan :=
  .rd 0 none (.mv (.tmp 4)) (some 28) false <|
  .rd 1 none (.idxA 1 (.tmp 28) (.const (.int .i64 8))) (some 29) false <|
  .ef 2 none (.st 1 (.tmp 29) (.const (.int .u8 255))) none [] (
  .done) .none
noncomputable def F.osierref01_Uint.r10 : Plan :=
  .rd 0 none (.mv (.const (.int .i64 0))) (some 6) false <|
  .done
noncomputable def F.osierref01_Uint.r11 : Plan :=
  .rd 0 none (.mv (.const (.int .i64 128))) (some 7) false <|
  .done
noncomputable def F.osierref01_Uint.r12 : Plan :=
  .rd 0 none (.mv (.const (.int .i64 1))) (some 8) false <|
  .done
noncomputable def F.osierref01_Uint.r13 : Plan :=
  .rd 0 none (.mv (.tmp 8)) (some 30) false <|
  .rd 1 none (.mv (.tmp 3)) (some 31) false <|
  .rd 2 none (.bin .lss (.tmp 30) (.tmp 31)) (some 32) false <|
  .done
noncomputable def F.osierref01_Uint.r14 : Plan :=
  .rd 0 none (.mv (.tmp 6)) (some 35) false <|
  .rd 1 none (.mv (.tmp 7)) (some 36) false <|
  .rd 2 none (.bin .add (.tmp 35) (.tmp 36)) (some 37) false <|
  .rd 3 none (.mv (.tmp 37)) (some 6) false <|
  .done
noncomputable def F.osierref01_Uint.r15 : Plan :=
  .rd 0 none (.mv (.tmp 7)) (some 38) false <|
  .rd 1 none (.bin .quo (.tmp 38) (.const (.int .i64 2))) (some 39) false <|
  .rd 2 none (.mv (.tmp 39)) (some 7) false <|
  .done
noncomputable def F.osierref01_Uint.r16 : Plan :=
  .rd 0 none (.mv (.tmp 8)) (some 33) false <|
  .rd 1 none (.bin .add (.tmp 33) (.const (.int .i64 1))) (some 34) false <|
  .rd 2 none (.mv (.tmp 34)) (some 8) false <|
  .done
noncomputable def F.osierref01_Uint.l1 : IC :=
    (.seq (.seq (.reg F.osierref01_Uint.r13)
    (.cond (.tmp 32) .skip (.exit 2)))
    (.seq (.block 3 (.seq (.reg F.osierref01_Uint.r14)
    (.reg F.osierref01_Uint.r15)))
    (.reg F.osierref01_Uint.r16)))
noncomputable def F.osierref01_Uint.r17 : Plan :=
  .rd 0 none (.mv (.tmp 4)) (some 40) false <|
  .rd 1 none (.mv (.tmp 3)) (some 41) false <|
  .rd 2 none (.bin .sub (.tmp 41) (.const (.int .i64 1))) (some 42) false <|
  .rd 3 none (.mv (.tmp 4)) (some 43) false <|
  .rd 4 none (.mv (.tmp 3)) (some 44) false <|
  .rd 5 none (.bin .sub (.tmp 44) (.const (.int .i64 1))) (some 45) false <|
  .rd 6 none (.idxA 1 (.tmp 43) (.tmp 45)) (some 46) false <|
  .rd 7 none (.ld1 (.tmp 46)) (some 47) false <|
  .rd 8 none (.mv (.tmp 6)) (some 48) false <|
  .rd 9 none (.convI .u8 (.tmp 48)) (some 49) false <|
  .rd 10 none (.bin .add (.tmp 47) (.tmp 49)) (some 50) false <|
  .rd 11 none (.idxA 1 (.tmp 40) (.tmp 42)) (some 51) false <|
  .ef 12 none (.st 1 (.tmp 51) (.tmp 50)) none [] (
  .done) .none
noncomputable def F.osierref01_Uint.r18 : Plan :=
  .rd 0 none (.mv (.const (.slice none 0 0))) (some 9) false <|
  .done
noncomputable def F.osierref01_Uint.r19 : Plan :=
  .rd 0 none (.mv (.tmp 3)) (some 52) false <|
  .rd 1 none (.bin .sub (.tmp 52) (.const (.int .i64 1))) (some 53) false <|
  .rd 2 none (.mv (.tmp 53)) (some 10) false <|
  .done
noncomputable def F.osierref01_Uint.r20 : Plan :=
  .rd 0 none (.mv (.tmp 10)) (some 54) false <|
  .rd 1 none (.bin .geq (.tmp 54) (.const (.int .i64 0))) (some 55) false <|
  .done
noncomputable def F.osierref01_Uint.r21 : Plan :=
  .rd 0 none (.mv (.tmp 9)) (some 58) false <|
  .rd 1 none (.mv (.tmp 4)) (some 59) false <|
  .rd 2 none (.mv (.tmp 10)) (some 60) false <|
  .rd 3 none (.idxA 1 (.tmp 59) (.tmp 60)) (some 61) false <|
  .rd 4 none (.ld1 (.tmp 61)) (some 62) false <|
  .ef 5 none (.bsl 1 [(.int .u8 0)] [(0, (1, (.tmp 62)))]) (some 63) [] (
  .ef 6 none (.app 1 1 (.tmp 58) (.tmp 63)) (some 64) [] (
  .rd 7 none (.mv (.tmp 64)) (some 9) false <|
  .done) .none) .none
noncomputable def F.osierref01_Uint.r22 : Plan :=
  .rd 0 none (.mv (.tmp 10)) (some 56) false <|
  .rd 1 none (.bin .sub (.tmp 56) (.const (.int .i64 1))) (some 57) false <|
  .rd 2 none (.mv (.tmp 57)) (some 10) false <|
  .done
noncomputable def F.osierref01_Uint.l2 : IC :=
    (.seq (.seq (.reg F.osierref01_Uint.r20)
    (.cond (.tmp 55) .skip (.exit 4)))
    (.seq (.block 5 (.reg F.osierref01_Uint.r21))
    (.reg F.osierref01_Uint.r22)))
noncomputable def F.osierref01_Uint.r23 : Plan :=
  .rd 0 none (.mv (.tmp 9)) (some 65) false <|
  .rd 1 none (.mv (.tmp 65)) (some 2) false <|
  .done
noncomputable def F.osierref01_Uint.ic : IC :=
    (.seq (.reg F.osierref01_Uint.r0)
    (.seq (.reg F.osierref01_Uint.r1)
    (.seq (.reg F.osierref01_Uint.r2)
    (.seq (.seq (.reg F.osierref01_Uint.r3)
    (.block 0 (.loop F.osierref01_Uint.l0)))
    (.seq (.seq (.reg F.osierref01_Uint.r8)
    (.cond (.tmp 27) (.reg F.osierref01_Uint.r9) (.seq (.reg F.osierref01_Uint.r10)
    (.seq (.reg F.osierref01_Uint.r11)
    (.seq (.seq (.reg F.osierref01_Uint.r12)
    (.block 2 (.loop F.osierref01_Uint.l1)))
    (.reg F.osierref01_Uint.r17))))))
    (.seq (.reg F.osierref01_Uint.r18)
    (.seq (.seq (.reg F.osierref01_Uint.r19)
    (.block 4 (.loop F.osierref01_Uint.l2)))
    (.seq (.reg F.osierref01_Uint.r23)
    .ret))))))))
noncomputable def F.osierref01_Uint.rs : List RO := [(.mv (.tmp 2))]
theorem F.osierref01_Uint.ok : cFunc Go.Proofs.Try.prog F.osierref01_Uint = some (66, F.osierref01_Uint.ic, F.osierref01_Uint.rs) := by kernel_rfl
theorem F.osierref01_Uint.cl : callable Go.Proofs.Try.prog F.osierref01_Uint = true := by kernel_rfl
noncomputable def F.osierref01_R_Fail.r0 : Plan :=
  .rd 0 none (.mv (.tmp 0)) (some 4) false <|
  .rd 1 none (.nilC (.tmp 4)) (some 5) false <|
  .rd 2 none (.fldA 1 (.tmp 5)) (some 6) false <|
  .rd 3 none (.ld1 (.tmp 6)) (some 7) false <|
  .rd 4 none (.bin .eql (.tmp 7) (.const (.int .i64 0))) (some 8) false <|
  .rd 5 none (.mv (.tmp 8)) (some 9) false <|
  .rd 6 (some (9, true)) (.mv (.tmp 1)) (some 10) false <|
  .rd 7 (some (9, true)) (.bin .neq (.tmp 10) (.const (.int .i64 0))) (some 11) false <|
  .rd 8 none (.pick (.tmp 9) (.tmp 11) (.const (.bool false))) (some 12) false <|
  .done
noncomputable def F.osierref01_R_Fail.r1 : Plan :=
  .rd 0 none (.mv (.tmp 0)) (some 13) false <|
  .rd 1 none (.mv (.tmp 1)) (some 14) false <|
  .rd 2 none (.nilC (.tmp 13)) (some 15) false <|
  .rd 3 none (.fldA 1 (.tmp 15)) (some 16) false <|
  .ef 4 none (.st 1 (.tmp 16) (.tmp 14)) none [] (
  .done) .none
noncomputable def F.osierref01_R_Fail.r2 : Plan :=
  .rd 0 none (.mv (.tmp 0)) (some 17) false <|
  .rd 1 none (.nilC (.tmp 17)) (some 18) false <|
  .rd 2 none (.fldA 0 (.tmp 18)) (some 19) false <|
  .ef 3 none (.st 1 (.tmp 19) (.const (.slice none 0 0))) none [] (
  .done) .none
noncomputable def F.osierref01_R_Fail.ic : IC :=
    (.seq (.reg F.osierref01_R_Fail.r0)
    (.cond (.tmp 12) (.seq (.reg F.osierref01_R_Fail.r1)
    (.reg F.osierref01_R_Fail.r2)) .skip))
noncomputable def F.osierref01_R_Fail.rs : List RO := []
theorem F.osierref01_R_Fail.ok : cFunc Go.Proofs.Try.prog F.osierref01_R_Fail = some (20, F.osierref01_R_Fail.ic, F.osierref01_R_Fail.rs) := by kernel_rfl
theorem F.osierref01_R_Fail.cl : callable Go.Proofs.Try.prog F.osierref01_R_Fail = true := by kernel_rfl
noncomputable def F.num_Reader_Uint.r0 : Plan :=
  .rd 0 none (.mv (.const (.int .u64 0))) (some 2) false <|
  .done
noncomputable def F.num_Reader_Uint.r1 : Plan :=
  .rd 0 none (.mv (.tmp 0)) (some 8) false <|
  .rd 1 none (.eqNil .ptr false (.tmp 8) (.const (.pointer none))) (some 9) false <|
  .rd 2 none (.mv (.tmp 9)) (some 10) false <|
  .rd 3 (some (10, false)) (.mv (.tmp 0)) (some 11) false <|
  .rd 4 (some (10, false)) (.nilC (.tmp 11)) (some 12) false <|
  .rd 5 (some (10, false)) (.fldA 0 (.tmp 12)) (some 13) false <|
  .rd 6 (some (10, false)) (.ld1 (.tmp 13)) (some 14) false <|
  .rd 7 (some (10, false)) (.len .sl (.tmp 14)) (some 15) false <|
  .rd 8 (some (10, false)) (.bin .eql (.tmp 15) (.const (.int .i64 0))) (some 16) false <|
  .rd 9 none (.pick (.tmp 10) (.const (.bool true)) (.tmp 16)) (some 17) false <|
  .done
noncomputable def F.num_Reader_Uint.r2 : Plan :=
  .rd 0 none (.mv (.tmp 0)) (some 18) false <|
  .ef 1 none (.call F.num_Reader_Fail [(.tmp 18), (.const (.int .i64 10))]) (some 19) [] (
  .done) .none
noncomputable def F.num_Reader_Uint.r3 : Plan :=
  .rd 0 none (.mv (.const (.int .u64 0))) (some 2) false <|
  .done
noncomputable def F.num_Reader_Uint.r4 : Plan :=
  .rd 0 none (.mv (.tmp 0)) (some 20) false <|
  .rd 1 none (.nilC (.tmp 20)) (some 21) false <|
  .rd 2 none (.fldA 0 (.tmp 21)) (some 22) false <|
  .rd 3 none (.ld1 (.tmp 22)) (some 23) false <|
  .rd 4 none (.idxA 1 (.tmp 23) (.const (.int .i64 0))) (some 24) false <|
  .rd 5 none (.ld1 (.tmp 24)) (some 25) false <|
  .rd 6 none (.un .xor (.tmp 25)) (some 26) false <|
  .ef 7 none (.call F.bits_LeadingZeros8 [(.tmp 26)]) (some 27) [] (
  .rd 8 none (.bin .add (.tmp 27) (.const (.int .i64 1))) (some 28) false <|
  .rd 9 none (.mv (.tmp 28)) (some 3) false <|
  .done) .none
noncomputable def F.num_Reader_Uint.r5 : Plan :=
  .rd 0 none (.mv (.tmp 0)) (some 29) false <|
  .rd 1 none (.mv (.tmp 3)) (some 30) false <|
  .rd 2 none (.convI .u64 (.tmp 30)) (some 31) false <|
  .ef 3 none (.call F.num_Reader_take [(.tmp 29), (.tmp 31)]) (some 32) [] (
  .rd 4 none (.mv (.tmp 32)) (some 4) false <|
  .done) .none
noncomputable def F.num_Reader_Uint.r6 : Plan :=
  .rd 0 none (.mv (.tmp 4)) (some 33) false <|
  .rd 1 none (.len .sl (.tmp 33)) (some 34) false <|
  .rd 2 none (.bin .eql (.tmp 34) (.const (.int .i64 0))) (some 35) false <|
  .done
noncomputable def F.num_Reader_Uint.r7 : Plan :=
  .rd 0 none (.mv (.const (.int .u64 0))) (some 2) false <|
  .done
noncomputable def F.num_Reader_Uint.r8 : Plan :=
  .rd 0 none (.mv (.tmp 4)) (some 36) false <|
  .rd 1 none (.idxA 1 (.tmp 36) (.const (.int .i64 0))) (some 37) false <|
  .rd 2 none (.ld1 (.tmp 37)) (some 38) true <|
  .rd 3 none (.mv (.tmp 3)) (some 39) false <|
  .ef 4 none (.call F.num_head [(.tmp 39)]) (some 40) [0, 1, 2] (
  .rd 5 none (.bin .andNot (.tmp 38) (.tmp 40)) (some 41) false <|
  .rd 6 none (.convI .u64 (.tmp 41)) (some 42) false <|
  .rd 7 none (.mv (.tmp 42)) (some 5) false <|
  .done) .none
noncomputable def F.num_Reader_Uint.r9 : Plan :=
  .rd 0 none (.mv (.tmp 4)) (some 43) false <|
  .rd 1 none (.sl 1 (.tmp 43) (some (.const (.int .i64 1))) none none) (some 44) false <|
  .rd 2 none (.len .sl (.tmp 44)) (some 45) false <|
  .rd 3 none (.mv (.const (.int .i64 0))) (some 46) false <|
  .done
noncomputable def F.num_Reader_Uint.r10 : Plan :=
  .rd 0 none (.bin .lss (.tmp 46) (.tmp 45)) (some 47) false <|
  .done
noncomputable def F.num_Reader_Uint.r11 : Plan :=
  .rd 0 none (.idxA 1 (.tmp 44) (.tmp 46)) (some 48) false <|
  .rd 1 none (.ld1 (.tmp 48)) (some 49) false <|
  .rd 2 none (.mv (.tmp 49)) (some 7) false <|
  .done
noncomputable def F.num_Reader_Uint.r12 : Plan :=
  .rd 0 none (.mv (.tmp 5)) (some 50) false <|
  .rd 1 none (.bin .shl (.tmp 50) (.const (.int .u64 8))) (some 51) false <|
  .rd 2 none (.mv (.tmp 7)) (some 52) false <|
  .rd 3 none (.convI .u64 (.tmp 52)) (some 53) false <|
  .rd 4 none (.bin .or (.tmp 51) (.tmp 53)) (some 54) false <|
  .rd 5 none (.mv (.tmp 54)) (some 5) false <|
  .done
noncomputable def F.num_Reader_Uint.r13 : Plan :=
  .rd 0 none (.bin .add (.tmp 46) (.const (.int .i64 1))) (some 55) false <|
  .rd 1 none (.mv (.tmp 55)) (some 46) false <|
  .done
noncomputable def F.num_Reader_Uint.l0 : IC :=
    (.seq (.reg F.num_Reader_Uint.r10)
    (.seq (.cond (.tmp 47) .skip (.exit 0))
    (.seq (.block 1 (.seq (.reg F.num_Reader_Uint.r11)
    (.reg F.num_Reader_Uint.r12)))
    (.reg F.num_Reader_Uint.r13))))
noncomputable def F.num_Reader_Uint.r14 : Plan :=
  .rd 0 none (.mv (.tmp 5)) (some 56) false <|
  .ef 1 none (.call F.num_size [(.tmp 56)]) (some 57) [] (
  .rd 2 none (.mv (.tmp 3)) (some 58) false <|
  .rd 3 none (.bin .neq (.tmp 57) (.tmp 58)) (some 59) false <|
  .done) .none
noncomputable def F.num_Reader_Uint.r15 : Plan :=
  .rd 0 none (.mv (.tmp 0)) (some 60) false <|
  .ef 1 none (.call F.num_Reader_Fail [(.tmp 60), (.const (.int .i64 11))]) (some 61) [] (
  .done) .none
noncomputable def F.num_Reader_Uint.r16 : Plan :=
  .rd 0 none (.mv (.const (.int .u64 0))) (some 2) false <|
  .done
noncomputable def F.num_Reader_Uint.r17 : Plan :=
  .rd 0 none (.mv (.tmp 5)) (some 62) false <|
  .rd 1 none (.mv (.tmp 62)) (some 2) false <|
  .done
noncomputable def F.num_Reader_Uint.ic : IC :=
    (.seq (.reg F.num_Reader_Uint.r0)
    (.seq (.seq (.reg F.num_Reader_Uint.r1)
    (.cond (.tmp 17) (.seq (.reg F.num_Reader_Uint.r2)
    (.seq (.reg F.num_Reader_Uint.r3)
    .ret)) .skip))
    (.seq (.reg F.num_Reader_Uint.r4)
    (.seq (.reg F.num_Reader_Uint.r5)
    (.seq (.seq (.reg F.num_Reader_Uint.r6)
    (.cond (.tmp 35) (.seq (.reg F.num_Reader_Uint.r7)
    .ret) .skip))
    (.seq (.reg F.num_Reader_Uint.r8)
    (.seq (.seq (.reg F.num_Reader_Uint.r9)
    (.block 0 (.loop F.num_Reader_Uint.l0)))
    (.seq (.seq (.reg F.num_Reader_Uint.r14)
    (.cond (.tmp 59) (.seq (.reg F.num_Reader_Uint.r15)
    (.seq (.reg F.num_Reader_Uint.r16)
    .ret)) .skip))
    (.seq (.reg F.num_Reader_Uint.r17)
    .ret)))))))))
noncomputable def F.num_Reader_Uint.rs : List RO := [(.mv (.tmp 2))]
theorem F.num_Reader_Uint.ok : cFunc Go.Proofs.Try.prog F.num_Reader_Uint = some (63, F.num_Reader_Uint.ic, F.num_Reader_Uint.rs) := by kernel_rfl
theorem F.num_Reader_Uint.cl : callable Go.Proofs.Try.prog F.num_Reader_Uint = true := by kernel_rfl
noncomputable def F.osierref01_R_Uint.r0 : Plan :=
  .rd 0 none (.mv (.const (.int .u64 0))) (some 2) false <|
  .done
noncomputable def F.osierref01_R_Uint.r1 : Plan :=
  .rd 0 none (.mv (.tmp 0)) (some 8) false <|
  .rd 1 none (.nilC (.tmp 8)) (some 9) false <|
  .rd 2 none (.fldA 1 (.tmp 9)) (some 10) false <|
  .rd 3 none (.ld1 (.tmp 10)) (some 11) false <|
  .rd 4 none (.bin .neq (.tmp 11) (.const (.int .i64 0))) (some 12) false <|
  .done
noncomputable def F.osierref01_R_Uint.r2 : Plan :=
  .rd 0 none (.mv (.const (.int .u64 0))) (some 2) false <|
  .done
noncomputable def F.osierref01_R_Uint.r3 : Plan :=
  .rd 0 none (.mv (.tmp 0)) (some 13) false <|
  .rd 1 none (.nilC (.tmp 13)) (some 14) false <|
  .rd 2 none (.fldA 0 (.tmp 14)) (some 15) false <|
  .rd 3 none (.ld1 (.tmp 15)) (some 16) false <|
  .rd 4 none (.len .sl (.tmp 16)) (some 17) false <|
  .rd 5 none (.bin .eql (.tmp 17) (.const (.int .i64 0))) (some 18) false <|
  .done
noncomputable def F.osierref01_R_Uint.r4 : Plan :=
  .rd 0 none (.mv (.tmp 0)) (some 19) false <|
  .ef 1 none (.call F.osierref01_R_Fail [(.tmp 19), (.const (.int .i64 10))]) (some 20) [] (
  .done) .none
noncomputable def F.osierref01_R_Uint.r5 : Plan :=
  .rd 0 none (.mv (.const (.int .u64 0))) (some 2) false <|
  .done
noncomputable def F.osierref01_R_Uint.r6 : Plan :=
  .rd 0 none (.mv (.const (.int .i64 1))) (some 3) false <|
  .done
noncomputable def F.osierref01_R_Uint.r7 : Plan :=
  .rd 0 none (.mv (.tmp 0)) (some 21) false <|
  .rd 1 none (.nilC (.tmp 21)) (some 22) false <|
  .rd 2 none (.fldA 0 (.tmp 22)) (some 23) false <|
  .rd 3 none (.ld1 (.tmp 23)) (some 24) false <|
  .rd 4 none (.idxA 1 (.tmp 24) (.const (.int .i64 0))) (some 25) false <|
  .rd 5 none (.ld1 (.tmp 25)) (some 26) false <|
  .rd 6 none (.convI .i64 (.tmp 26)) (some 27) false <|
  .rd 7 none (.mv (.tmp 27)) (some 4) false <|
  .done
noncomputable def F.osierref01_R_Uint.r8 : Plan :=
  .rd 0 none (.mv (.const (.int .i64 128))) (some 5) false <|
  .done
noncomputable def F.osierref01_R_Uint.r9 : Plan :=
  .rd 0 none (.mv (.tmp 5)) (some 28) false <|
  .rd 1 none (.bin .gtr (.tmp 28) (.const (.int .i64 0))) (some 29) false <|
  .rd 2 none (.mv (.tmp 29)) (some 30) false <|
  .rd 3 (some (30, true)) (.mv (.tmp 4)) (some 31) false <|
  .rd 4 (some (30, true)) (.mv (.tmp 5)) (some 32) false <|
  .rd 5 (some (30, true)) (.bin .geq (.tmp 31) (.tmp 32)) (some 33) false <|
  .rd 6 none (.pick (.tmp 30) (.tmp 33) (.const (.bool false))) (some 34) false <|
  .done
noncomputable def F.osierref01_R_Uint.r10 : Plan :=
  .rd 0 none (.mv (.tmp 4)) (some 35) false <|
  .rd 1 none (.mv (.tmp 5)) (some 36) false <|
  .rd 2 none (.bin .sub (.tmp 35) (.tmp 36)) (some 37) false <|
  .rd 3 none (.mv (.tmp 37)) (some 4) false <|
  .done
noncomputable def F.osierref01_R_Uint.r11 : Plan :=
  .rd 0 none (.mv (.tmp 5)) (some 38) false <|
  .rd 1 none (.bin .quo (.tmp 38) (.const (.int .i64 2))) (some 39) false <|
  .rd 2 none (.mv (.tmp 39)) (some 5) false <|
  .done
noncomputable def F.osierref01_R_Uint.r12 : Plan :=
  .rd 0 none (.mv (.tmp 3)) (some 40) false <|
  .rd 1 none (.bin .add (.tmp 40) (.const (.int .i64 1))) (some 41) false <|
  .rd 2 none (.mv (.tmp 41)) (some 3) false <|
  .done
noncomputable def F.osierref01_R_Uint.l0 : IC :=
    (.seq (.seq (.reg F.osierref01_R_Uint.r9)
    (.cond (.tmp 34) .skip (.exit 0)))
    (.block 1 (.seq (.reg F.osierref01_R_Uint.r10)
    (.seq (.reg F.osierref01_R_Uint.r11)
    (.reg F.osierref01_R_Uint.r12)))))
noncomputable def F.osierref01_R_Uint.r13 : Plan :=
  .rd 0 none (.mv (.tmp 0)) (some 42) false <|
  .rd 1 none (.nilC (.tmp 42)) (some 43) false <|
  .rd 2 none (.fldA 0 (.tmp 43)) (some 44) false <|
  .rd 3 none (.ld1 (.tmp 44)) (some 45) false <|
  .rd 4 none (.len .sl (.tmp 45)) (some 46) false <|
  .rd 5 none (.mv (.tmp 3)) (some 47) false <|
  .rd 6 none (.bin .lss (.tmp 46) (.tmp 47)) (some 48) false <|
  .done
noncomputable def F.osierref01_R_Uint.r14 : Plan :=
  .rd 0 none (.mv (.tmp 0)) (some 49) false <|
  .ef 1 none (.call F.osierref01_R_Fail [(.tmp 49), (.const (.int .i64 10))]) (some 50) [] (
  .done) .none
noncomputable def F.osierref01_R_Uint.r15 : Plan :=
  .rd 0 none (.mv (.const (.int .u64 0))) (some 2) false <|
  .done
noncomputable def F.osierref01_R_Uint.r16 : Plan :=
  .rd 0 none (.mv (.tmp 4)) (some 51) false <|
  .rd 1 none (.convI .u64 (.tmp 51)) (some 52) false <|
  .rd 2 none (.mv (.tmp 52)) (some 6) false <|
  .done
noncomputable def F.osierref01_R_Uint.r17 : Plan :=
  .rd 0 none (.mv (.const (.int .i64 1))) (some 7) false <|
  .done
noncomputable def F.osierref01_R_Uint.r18 : Plan :=
  .rd 0 none (.mv (.tmp 7)) (some 53) false <|
  .rd 1 none (.mv (.tmp 3)) (some 54) false <|
  .rd 2 none (.bin .lss (.tmp 53) (.tmp 54)) (some 55) false <|
  .done
noncomputable def F.osierref01_R_Uint.r19 : Plan :=
  .rd 0 none (.mv (.tmp 6)) (some 58) false <|
  .rd 1 none (.bin .mul (.tmp 58) (.const (.int .u64 256))) (some 59) false <|
  .rd 2 none (.mv (.tmp 0)) (some 60) false <|
  .rd 3 none (.nilC (.tmp 60)) (some 61) false <|
  .rd 4 none (.fldA 0 (.tmp 61)) (some 62) false <|
  .rd 5 none (.ld1 (.tmp 62)) (some 63) false <|
  .rd 6 none (.mv (.tmp 7)) (some 64) false <|
  .rd 7 none (.idxA 1 (.tmp 63) (.tmp 64)) (some 65) false <|
  .rd 8 none (.ld1 (.tmp 65)) (some 66) false <|
  .rd 9 none (.convI .u64 (.tmp 66)) (some 67) false <|
  .rd 10 none (.bin .add (.tmp 59) (.tmp 67)) (some 68) false <|
  .rd 11 none (.mv (.tmp 68)) (some 6) false <|
  .done
noncomputable def F.osierref01_R_Uint.r20 : Plan :=
  .rd 0 none (.mv (.tmp 7)) (some 56) false <|
  .rd 1 none (.bin .add (.tmp 56) (.const (.int .i64 1))) (some 57) false <|
  .rd 2 none (.mv (.tmp 57)) (some 7) false <|
  .done
noncomputable def F.osierref01_R_Uint.l1 : IC :=
    (.seq (.seq (.reg F.osierref01_R_Uint.r18)
    (.cond (.tmp 55) .skip (.exit 2)))
    (.seq (.block 3 (.reg F.osierref01_R_Uint.r19))
    (.reg F.osierref01_R_Uint.r20)))
noncomputable def F.osierref01_R_Uint.r21 : Plan :=
  .rd 0 none (.mv (.tmp 6)) (some 69) false <|
  .ef 1 none (.call F.osierref01_Size [(.tmp 69)]) (some 70) [] (
  .rd 2 none (.mv (.tmp 3)) (some 71) false <|
  .rd 3 none (.bin .neq (.tmp 70) (.tmp 71)) (some 72) false <|
  .done) .none
noncomputable def F.osierref01_R_Uint.r22 : Plan :=
  .rd 0 none (.mv (.tmp 0)) (some 73) false <|
  .ef 1 none (.call F.osierref01_R_Fail [(.tmp 73), (.const (.int .i64 11))]) (some 74) [] (
  .done) .none
noncomputable def F.osierref01_R_Uint.r23 : Plan :=
  .rd 0 none (.mv (.const (.int .u64 0))) (some 2) false <|
  .done
noncomputable def F.osierref01_R_Uint.r24 : Plan :=
  .rd 0 none (.mv (.tmp 0)) (some 75) false <|
  .rd 1 none (.mv (.tmp 0)) (some 76) false <|
  .rd 2 none (.nilC (.tmp 76)) (some 77) false <|
  .rd 3 none (.fldA 0 (.tmp 77)) (some 78) false <|
  .rd 4 none (.ld1 (.tmp 78)) (some 79) false <|
  .rd 5 none (.mv (.tmp 3)) (some 80) false <|
  .rd 6 none (.sl 1 (.tmp 79) (some (.tmp 80)) none none) (some 81) false <|
  .rd 7 none (.nilC (.tmp 75)) (some 82) false <|
  .rd 8 none (.fldA 0 (.tmp 82)) (some 83) false <|
  .ef 9 none (.st 1 (.tmp 83) (.tmp 81)) none [] (
  .done) .none
noncomputable def F.osierref01_R_Uint.r25 : Plan :=
  .rd 0 none (.mv (.tmp 6)) (some 84) false <|
  .rd 1 none (.mv (.tmp 84)) (some 2) false <|
  .done
noncomputable def F.osierref01_R_Uint.ic : IC :=
    (.seq (.reg F.osierref01_R_Uint.r0)
    (.seq (.seq (.reg F.osierref01_R_Uint.r1)
    (.cond (.tmp 12) (.seq (.reg F.osierref01_R_Uint.r2)
    .ret) .skip))
    (.seq (.seq (.reg F.osierref01_R_Uint.r3)
    (.cond (.tmp 18) (.seq (.reg F.osierref01_R_Uint.r4)
    (.seq (.reg F.osierref01_R_Uint.r5)
    .ret)) .skip))
    (.seq (.reg F.osierref01_R_Uint.r6)
    (.seq (.reg F.osierref01_R_Uint.r7)
    (.seq (.reg F.osierref01_R_Uint.r8)
    (.seq (.block 0 (.loop F.osierref01_R_Uint.l0))
    (.seq (.seq (.reg F.osierref01_R_Uint.r13)
    (.cond (.tmp 48) (.seq (.reg F.osierref01_R_Uint.r14)
    (.seq (.reg F.osierref01_R_Uint.r15)
    .ret)) .skip))
    (.seq (.reg F.osierref01_R_Uint.r16)
    (.seq (.seq (.reg F.osierref01_R_Uint.r17)
    (.block 2 (.loop F.osierref01_R_Uint.l1)))
    (.seq (.seq (.reg F.osierref01_R_Uint.r21)
    (.cond (.tmp 72) (.seq (.reg F.osierref01_R_Uint.r22)
    (.seq (.reg F.osierref01_R_Uint.r23)
    .ret)) .skip))
    (.seq (.reg F.osierref01_R_Uint.r24)
    (.seq (.reg F.osierref01_R_Uint.r25)
    .ret)))))))))))))
noncomputable def F.osierref01_R_Uint.rs : List RO := [(.mv (.tmp 2))]
theorem F.osierref01_R_Uint.ok : cFunc Go.Proofs.Try.prog F.osierref01_R_Uint = some (85, F.osierref01_R_Uint.ic, F.osierref01_R_Uint.rs) := by kernel_rfl
theorem F.osierref01_R_Uint.cl : callable Go.Proofs.Try.prog F.osierref01_R_Uint = true := by kernel_rfl
noncomputable def F.num_size.r0 : Plan :=
  .rd 0 none (.mv (.const (.int .i64 0))) (some 2) false <|
  .done
noncomputable def F.num_size.r1 : Plan :=
  .rd 0 none (.mv (.tmp 0)) (some 4) false <|
  .ef 1 none (.call F.bits_Len64 [(.tmp 4)]) (some 5) [] (
  .rd 2 none (.bin .add (.tmp 5) (.const (.int .i64 6))) (some 6) false <|
  .rd 3 none (.bin .quo (.tmp 6) (.const (.int .i64 7))) (some 7) false <|
  .rd 4 none (.mv (.tmp 7)) (some 3) false <|
  .done) .none
noncomputable def F.num_size.r2 : Plan :=
  .rd 0 none (.mv (.tmp 3)) (some 8) false <|
  .rd 1 none (.maxI true (.tmp 8) (.const (.int .i64 1))) (some 9) false <|
  .rd 2 none (.maxI false (.tmp 9) (.const (.int .i64 9))) (some 10) false <|
  .rd 3 none (.mv (.tmp 10)) (some 2) false <|
  .done
noncomputable def F.num_size.ic : IC :=
    (.seq (.reg F.num_size.r0)
    (.seq (.reg F.num_size.r1)
    (.seq (.reg F.num_size.r2)
    .ret)))
noncomputable def F.num_size.rs : List RO := [(.mv (.tmp 2))]
theorem F.num_size.ok : cFunc Go.Proofs.Try.prog F.num_size = some (11, F.num_size.ic, F.num_size.rs) := by kernel_rfl
theorem F.num_size.cl : callable Go.Proofs.Try.prog F.num_size = true := by kernel_rfl
noncomputable def F.num_head.r0 : Plan :=
  .rd 0 none (.mv (.const (.int .u8 0))) (some 2) false <|
  .done
noncomputable def F.num_head.r1 : Plan :=
  .rd 0 none (.mv (.tmp 0)) (some 3) false <|
  .rd 1 none (.bin .sub (.tmp 3) (.const (.int .i64 1))) (some 4) false <|
  .rd 2 none (.convI .u64 (.tmp 4)) (some 5) false <|
  .rd 3 none (.bin .shr (.const (.int .u16 65280)) (.tmp 5)) (some 6) false <|
  .rd 4 none (.convI .u8 (.tmp 6)) (some 7) false <|
  .rd 5 none (.mv (.tmp 7)) (some 2) false <|
  .done
noncomputable def F.num_head.ic : IC :=
    (.seq (.reg F.num_head.r0)
    (.seq (.reg F.num_head.r1)
    .ret))
noncomputable def F.num_head.rs : List RO := [(.mv (.tmp 2))]
theorem F.num_head.ok : cFunc Go.Proofs.Try.prog F.num_head = some (8, F.num_head.ic, F.num_head.rs) := by kernel_rfl
theorem F.num_head.cl : callable Go.Proofs.Try.prog F.num_head = true := by kernel_rfl
noncomputable def F.osierref01_Size.r0 : Plan :=
  .rd 0 none (.mv (.const (.int .i64 0))) (some 2) false <|
  .done
noncomputable def F.osierref01_Size.r1 : Plan :=
  .rd 0 none (.mv (.tmp 0)) (some 5) false <|
  .rd 1 none (.bin .lss (.tmp 5) (.const (.int .u64 128))) (some 6) false <|
  .done
noncomputable def F.osierref01_Size.r2 : Plan :=
  .rd 0 none (.mv (.const (.int .i64 1))) (some 2) false <|
  .done
noncomputable def F.osierref01_Size.r3 : Plan :=
  .rd 0 none (.mv (.const (.int .u64 128))) (some 3) false <|
  .done
noncomputable def F.osierref01_Size.r4 : Plan :=
  .rd 0 none (.mv (.const (.int .i64 2))) (some 4) false <|
  .done
noncomputable def F.osierref01_Size.r5 : Plan :=
  .rd 0 none (.mv (.tmp 4)) (some 7) false <|
  .rd 1 none (.bin .leq (.tmp 7) (.const (.int .i64 8))) (some 8) false <|
  .done
noncomputable def F.osierref01_Size.r6 : Plan :=
  .rd 0 none (.mv (.tmp 3)) (some 11) false <|
  .rd 1 none (.bin .mul (.tmp 11) (.const (.int .u64 128))) (some 12) false <|
  .rd 2 none (.mv (.tmp 12)) (some 3) false <|
  .done
noncomputable def F.osierref01_Size.r7 : Plan :=
  .rd 0 none (.mv (.tmp 0)) (some 13) false <|
  .rd 1 none (.mv (.tmp 3)) (some 14) false <|
  .rd 2 none (.bin .lss (.tmp 13) (.tmp 14)) (some 15) false <|
  .done
noncomputable def F.osierref01_Size.r8 : Plan :=
  .rd 0 none (.mv (.tmp 4)) (some 16) false <|
  .rd 1 none (.mv (.tmp 16)) (some 2) false <|
  .done
noncomputable def F.osierref01_Size.r9 : Plan :=
  .rd 0 none (.mv (.tmp 4)) (some 9) false <|
  .rd 1 none (.bin .add (.tmp 9) (.const (.int .i64 1))) (some 10) false <|
  .rd 2 none (.mv (.tmp 10)) (some 4) false <|
  .done
noncomputable def F.osierref01_Size.l0 : IC :=
    (.seq (.seq (.reg F.osierref01_Size.r5)
    (.cond (.tmp 8) .skip (.exit 0)))
    (.seq (.block 1 (.seq (.reg F.osierref01_Size.r6)
    (.seq (.reg F.osierref01_Size.r7)
    (.cond (.tmp 15) (.seq (.reg F.osierref01_Size.r8)
    .ret) .skip))))
    (.reg F.osierref01_Size.r9)))
noncomputable def F.osierref01_Size.r10 : Plan :=
  .rd 0 none (.mv (.const (.int .i64 9))) (some 2) false <|
  .done
noncomputable def F.osierref01_Size.ic : IC :=
    (.seq (.reg F.osierref01_Size.r0)
    (.seq (.seq (.reg F.osierref01_Size.r1)
    (.cond (.tmp 6) (.seq (.reg F.osierref01_Size.r2)
    .ret) .skip))
    (.seq (.reg F.osierref01_Size.r3)
    (.seq (.seq (.reg F.osierref01_Size.r4)
    (.block 0 (.loop F.osierref01_Size.l0)))
    (.seq (.reg F.osierref01_Size.r10)
    .ret)))))
noncomputable def F.osierref01_Size.rs : List RO := [(.mv (.tmp 2))]
theorem F.osierref01_Size.ok : cFunc Go.Proofs.Try.prog F.osierref01_Size = some (17, F.osierref01_Size.ic, F.osierref01_Size.rs) := by kernel_rfl
theorem F.osierref01_Size.cl : callable Go.Proofs.Try.prog F.osierref01_Size = true := by kernel_rfl
noncomputable def F.bits_LeadingZeros8.r0 : Plan :=
  .rd 0 none (.mv (.const (.int .i64 0))) (some 2) false <|
  .done
noncomputable def F.bits_LeadingZeros8.r1 : Plan :=
  .rd 0 none (.mv (.tmp 0)) (some 3) false <|
  .ef 1 none (.call F.bits_Len8 [(.tmp 3)]) (some 4) [] (
  .rd 2 none (.bin .sub (.const (.int .i64 8)) (.tmp 4)) (some 5) false <|
  .rd 3 none (.mv (.tmp 5)) (some 2) false <|
  .done) .none
noncomputable def F.bits_LeadingZeros8.ic : IC :=
    (.seq (.reg F.bits_LeadingZeros8.r0)
    (.seq (.reg F.bits_LeadingZeros8.r1)
    .ret))
noncomputable def F.bits_LeadingZeros8.rs : List RO := [(.mv (.tmp 2))]
theorem F.bits_LeadingZeros8.ok : cFunc Go.Proofs.Try.prog F.bits_LeadingZeros8 = some (6, F.bits_LeadingZeros8.ic, F.bits_LeadingZeros8.rs) := by kernel_rfl
theorem F.bits_LeadingZeros8.cl : callable Go.Proofs.Try.prog F.bits_LeadingZeros8 = true := by kernel_rfl
noncomputable def F.num_Reader_take.r0 : Plan :=
  .rd 0 none (.mv (.const (.slice none 0 0))) (some 4) false <|
  .done
noncomputable def F.num_Reader_take.r1 : Plan :=
  .rd 0 none (.mv (.tmp 0)) (some 6) false <|
  .rd 1 none (.eqNil .ptr false (.tmp 6) (.const (.pointer none))) (some 7) false <|
  .rd 2 none (.mv (.tmp 7)) (some 8) false <|
  .rd 3 (some (8, false)) (.mv (.tmp 0)) (some 9) false <|
  .rd 4 (some (8, false)) (.nilC (.tmp 9)) (some 10) false <|
  .rd 5 (some (8, false)) (.fldA 1 (.tmp 10)) (some 11) false <|
  .rd 6 (some (8, false)) (.ld1 (.tmp 11)) (some 12) false <|
  .rd 7 (some (8, false)) (.bin .neq (.tmp 12) (.const (.int .i64 0))) (some 13) false <|
  .rd 8 none (.pick (.tmp 8) (.const (.bool true)) (.tmp 13)) (some 14) false <|
  .rd 9 none (.mv (.tmp 14)) (some 15) false <|
  .rd 10 (some (15, false)) (.mv (.tmp 1)) (some 16) false <|
  .rd 11 (some (15, false)) (.mv (.tmp 0)) (some 17) false <|
  .rd 12 (some (15, false)) (.nilC (.tmp 17)) (some 18) false <|
  .rd 13 (some (15, false)) (.fldA 0 (.tmp 18)) (some 19) false <|
  .rd 14 (some (15, false)) (.ld1 (.tmp 19)) (some 20) false <|
  .rd 15 (some (15, false)) (.len .sl (.tmp 20)) (some 21) false <|
  .rd 16 (some (15, false)) (.convI .u64 (.tmp 21)) (some 22) false <|
  .rd 17 (some (15, false)) (.bin .gtr (.tmp 16) (.tmp 22)) (some 23) false <|
  .rd 18 none (.pick (.tmp 15) (.const (.bool true)) (.tmp 23)) (some 24) false <|
  .done
noncomputable def F.num_Reader_take.r2 : Plan :=
  .rd 0 none (.mv (.tmp 0)) (some 25) false <|
  .ef 1 none (.call F.num_Reader_Fail [(.tmp 25), (.const (.int .i64 10))]) (some 26) [] (
  .done) .none
noncomputable def F.num_Reader_take.r3 : Plan :=
  .rd 0 none (.mv (.const (.slice none 0 0))) (some 4) false <|
  .done
noncomputable def F.num_Reader_take.r4 : Plan :=
  .rd 0 none (.mv (.tmp 0)) (some 27) false <|
  .rd 1 none (.nilC (.tmp 27)) (some 28) false <|
  .rd 2 none (.fldA 0 (.tmp 28)) (some 29) false <|
  .rd 3 none (.ld1 (.tmp 29)) (some 30) false <|
  .rd 4 none (.mv (.tmp 1)) (some 31) false <|
  .rd 5 none (.sl 1 (.tmp 30) none (some (.tmp 31)) none) (some 32) false <|
  .rd 6 none (.mv (.tmp 32)) (some 5) false <|
  .done
noncomputable def F.num_Reader_take.r5 : Plan :=
  .rd 0 none (.mv (.tmp 0)) (some 33) false <|
  .rd 1 none (.mv (.tmp 0)) (some 34) false <|
  .rd 2 none (.nilC (.tmp 34)) (some 35) false <|
  .rd 3 none (.fldA 0 (.tmp 35)) (some 36) false <|
  .rd 4 none (.ld1 (.tmp 36)) (some 37) false <|
  .rd 5 none (.mv (.tmp 1)) (some 38) false <|
  .rd 6 none (.sl 1 (.tmp 37) (some (.tmp 38)) none none) (some 39) false <|
  .rd 7 none (.nilC (.tmp 33)) (some 40) false <|
  .rd 8 none (.fldA 0 (.tmp 40)) (some 41) false <|
  .ef 9 none (.st 1 (.tmp 41) (.tmp 39)) none [] (
  .done) .none
noncomputable def F.num_Reader_take.r6 : Plan :=
  .rd 0 none (.mv (.tmp 5)) (some 42) false <|
  .rd 1 none (.mv (.tmp 42)) (some 4) false <|
  .done
noncomputable def F.num_Reader_take.ic : IC :=
    (.seq (.reg F.num_Reader_take.r0)
    (.seq (.seq (.reg F.num_Reader_take.r1)
    (.cond (.tmp 24) (.seq (.reg F.num_Reader_take.r2)
    (.seq (.reg F.num_Reader_take.r3)
    .ret)) .skip))
    (.seq (.reg F.num_Reader_take.r4)
    (.seq (.reg F.num_Reader_take.r5)
    (.seq (.reg F.num_Reader_take.r6)
    .ret)))))
noncomputable def F.num_Reader_take.rs : List RO := [(.mv (.tmp 4))]
theorem F.num_Reader_take.ok : cFunc Go.Proofs.Try.prog F.num_Reader_take = some (43, F.num_Reader_take.ic, F.num_Reader_take.rs) := by kernel_rfl
theorem F.num_Reader_take.cl : callable Go.Proofs.Try.prog F.num_Reader_take = true := by kernel_rfl
noncomputable def F.bits_Len64.r0 : Plan :=
  .rd 0 none (.mv (.const (.int .i64 0))) (some 2) false <|
  .done
noncomputable def F.bits_Len64.r1 : Plan :=
  .rd 0 none (.mv (.tmp 0)) (some 3) false <|
  .rd 1 none (.bin .geq (.tmp 3) (.const (.int .u64 4294967296))) (some 4) false <|
  .done
noncomputable def F.bits_Len64.r2 : Plan :=
  .rd 0 none (.mv (.tmp 0)) (some 5) false <|
  .rd 1 none (.bin .shr (.tmp 5) (.const (.int .u64 32))) (some 6) false <|
  .rd 2 none (.mv (.tmp 6)) (some 0) false <|
  .done
noncomputable def F.bits_Len64.r3 : Plan :=
  .rd 0 none (.mv (.const (.int .i64 32))) (some 2) false <|
  .done
noncomputable def F.bits_Len64.r4 : Plan :=
  .rd 0 none (.mv (.tmp 0)) (some 7) false <|
  .rd 1 none (.bin .geq (.tmp 7) (.const (.int .u64 65536))) (some 8) false <|
  .done
noncomputable def F.bits_Len64.r5 : Plan :=
  .rd 0 none (.mv (.tmp 0)) (some 9) false <|
  .rd 1 none (.bin .shr (.tmp 9) (.const (.int .u64 16))) (some 10) false <|
  .rd 2 none (.mv (.tmp 10)) (some 0) false <|
  .done
noncomputable def F.bits_Len64.r6 : Plan :=
  .rd 0 none (.mv (.tmp 2)) (some 11) false <|
  .rd 1 none (.bin .add (.tmp 11) (.const (.int .i64 16))) (some 12) false <|
  .rd 2 none (.mv (.tmp 12)) (some 2) false <|
  .done
noncomputable def F.bits_Len64.r7 : Plan :=
  .rd 0 none (.mv (.tmp 0)) (some 13) false <|
  .rd 1 none (.bin .geq (.tmp 13) (.const (.int .u64 256))) (some 14) false <|
  .done
noncomputable def F.bits_Len64.r8 : Plan :=
  .rd 0 none (.mv (.tmp 0)) (some 15) false <|
  .rd 1 none (.bin .shr (.tmp 15) (.const (.int .u64 8))) (some 16) false <|
  .rd 2 none (.mv (.tmp 16)) (some 0) false <|
  .done
noncomputable def F.bits_Len64.r9 : Plan :=
  .rd 0 none (.mv (.tmp 2)) (some 17) false <|
  .rd 1 none (.bin .add (.tmp 17) (.const (.int .i64 8))) (some 18) false <|
  .rd 2 none (.mv (.tmp 18)) (some 2) false <|
  .done
noncomputable def F.bits_Len64.r10 : Plan :=
  .rd 0 none (.mv (.tmp 2)) (some 19) false <|
  .rd 1 none (.mv (.tmp 0)) (some 20) false <|
  .rd 2 none (.convI .u8 (.tmp 20)) (some 21) false <|
  .rd 3 none (.idxS (.const (.string ⟨#[0, 1, 2, 2, 3, 3, 3, 3, 4, 4, 4, 4, 4, 4, 4, 4, 5, 5, 5, 5, 5, 5, 5, 5, 5, 5, 5, 5, 5, 5, 5, 5, 6, 6, 6, 6, 6, 6, 6, 6, 6, 6, 6, 6, 6, 6, 6, 6, 6, 6, 6, 6, 6, 6, 6, 6, 6, 6, 6, 6, 6, 6, 6, 6, 7, 7, 7, 7, 7, 7, 7, 7, 7, 7, 7, 7, 7, 7, 7, 7, 7, 7, 7, 7, 7, 7, 7, 7, 7, 7, 7, 7, 7, 7, 7, 7, 7, 7, 7, 7, 7, 7, 7, 7, 7, 7, 7, 7, 7, 7, 7, 7, 7, 7, 7, 7, 7, 7, 7, 7, 7, 7, 7, 7, 7, 7, 7, 7, 8, 8, 8, 8, 8, 8, 8, 8, 8, 8, 8, 8, 8, 8, 8, 8, 8, 8, 8, 8, 8, 8, 8, 8, 8, 8, 8, 8, 8, 8, 8, 8, 8, 8, 8, 8, 8, 8, 8, 8, 8, 8, 8, 8, 8, 8, 8, 8, 8, 8, 8, 8, 8, 8, 8, 8, 8, 8, 8, 8, 8, 8, 8, 8, 8, 8, 8, 8, 8, 8, 8, 8, 8, 8, 8, 8, 8, 8, 8, 8, 8, 8, 8, 8, 8, 8, 8, 8, 8, 8, 8, 8, 8, 8, 8, 8, 8, 8, 8, 8, 8, 8, 8, 8, 8, 8, 8, 8, 8, 8, 8, 8, 8, 8, 8, 8, 8, 8, 8, 8, 8, 8, 8, 8, 8, 8, 8, 8]⟩)) (.tmp 21)) (some 22) false <|
  .rd 4 none (.convI .i64 (.tmp 22)) (some 23) false <|
  .rd 5 none (.bin .add (.tmp 19) (.tmp 23)) (some 24) false <|
  .rd 6 none (.mv (.tmp 24)) (some 2) false <|
  .done
noncomputable def F.bits_Len64.ic : IC :=
    (.seq (.reg F.bits_Len64.r0)
    (.seq (.seq (.reg F.bits_Len64.r1)
    (.cond (.tmp 4) (.seq (.reg F.bits_Len64.r2)
    (.reg F.bits_Len64.r3)) .skip))
    (.seq (.seq (.reg F.bits_Len64.r4)
    (.cond (.tmp 8) (.seq (.reg F.bits_Len64.r5)
    (.reg F.bits_Len64.r6)) .skip))
    (.seq (.seq (.reg F.bits_Len64.r7)
    (.cond (.tmp 14) (.seq (.reg F.bits_Len64.r8)
    (.reg F.bits_Len64.r9)) .skip))
    (.seq (.reg F.bits_Len64.r10)
    .ret)))))
noncomputable def F.bits_Len64.rs : List RO := [(.mv (.tmp 2))]
theorem F.bits_Len64.ok : cFunc Go.Proofs.Try.prog F.bits_Len64 = some (25, F.bits_Len64.ic, F.bits_Len64.rs) := by kernel_rfl
theorem F.bits_Len64.cl : callable Go.Proofs.Try.prog F.bits_Len64 = true := by kernel_rfl
noncomputable def F.bits_Len8.r0 : Plan :=
  .rd 0 none (.mv (.const (.int .i64 0))) (some 2) false <|
  .done
noncomputable def F.bits_Len8.r1 : Plan :=
  .rd 0 none (.mv (.tmp 0)) (some 3) false <|
  .rd 1 none (.idxS (.const (.string ⟨#[0, 1, 2, 2, 3, 3, 3, 3, 4, 4, 4, 4, 4, 4, 4, 4, 5, 5, 5, 5, 5, 5, 5, 5, 5, 5, 5, 5, 5, 5, 5, 5, 6, 6, 6, 6, 6, 6, 6, 6, 6, 6, 6, 6, 6, 6, 6, 6, 6, 6, 6, 6, 6, 6, 6, 6, 6, 6, 6, 6, 6, 6, 6, 6, 7, 7, 7, 7, 7, 7, 7, 7, 7, 7, 7, 7, 7, 7, 7, 7, 7, 7, 7, 7, 7, 7, 7, 7, 7, 7, 7, 7, 7, 7, 7, 7, 7, 7, 7, 7, 7, 7, 7, 7, 7, 7, 7, 7, 7, 7, 7, 7, 7, 7, 7, 7, 7, 7, 7, 7, 7, 7, 7, 7, 7, 7, 7, 7, 8, 8, 8, 8, 8, 8, 8, 8, 8, 8, 8, 8, 8, 8, 8, 8, 8, 8, 8, 8, 8, 8, 8, 8, 8, 8, 8, 8, 8, 8, 8, 8, 8, 8, 8, 8, 8, 8, 8, 8, 8, 8, 8, 8, 8, 8, 8, 8, 8, 8, 8, 8, 8, 8, 8, 8, 8, 8, 8, 8, 8, 8, 8, 8, 8, 8, 8, 8, 8, 8, 8, 8, 8, 8, 8, 8, 8, 8, 8, 8, 8, 8, 8, 8, 8, 8, 8, 8, 8, 8, 8, 8, 8, 8, 8, 8, 8, 8, 8, 8, 8, 8, 8, 8, 8, 8, 8, 8, 8, 8, 8, 8, 8, 8, 8, 8, 8, 8, 8, 8, 8, 8, 8, 8, 8, 8, 8, 8]⟩)) (.tmp 3)) (some 4) false <|
  .rd 2 none (.convI .i64 (.tmp 4)) (some 5) false <|
  .rd 3 none (.mv (.tmp 5)) (some 2) false <|
  .done
noncomputable def F.bits_Len8.ic : IC :=
    (.seq (.reg F.bits_Len8.r0)
    (.seq (.reg F.bits_Len8.r1)
    .ret))
noncomputable def F.bits_Len8.rs : List RO := [(.mv (.tmp 2))]
theorem F.bits_Len8.ok : cFunc Go.Proofs.Try.prog F.bits_Len8 = some (6, F.bits_Len8.ic, F.bits_Len8.rs) := by kernel_rfl
theorem F.bits_Len8.cl : callable Go.Proofs.Try.prog F.bits_Len8 = true := by kernel_rfl
attribute [go_sem] F.bits_LeadingZeros8.r0 F.bits_LeadingZeros8.r1 F.bits_LeadingZeros8.ic F.bits_LeadingZeros8.rs
attribute [go_sem] F.bits_Len64.r0 F.bits_Len64.r1 F.bits_Len64.r2 F.bits_Len64.r3 F.bits_Len64.r4 F.bits_Len64.r5 F.bits_Len64.r6 F.bits_Len64.r7 F.bits_Len64.r8 F.bits_Len64.r9 F.bits_Len64.r10 F.bits_Len64.ic F.bits_Len64.rs
attribute [go_sem] F.bits_Len8.r0 F.bits_Len8.r1 F.bits_Len8.ic F.bits_Len8.rs
attribute [go_sem] F.dots_Put.r0 F.dots_Put.r1 F.dots_Put.ic F.dots_Put.rs
attribute [go_sem] F.dots_Take.r0 F.dots_Take.r1 F.dots_Take.r2 F.dots_Take.r3 F.dots_Take.r4 F.dots_Take.r5 F.dots_Take.ic F.dots_Take.rs
attribute [go_sem] F.num_Int.r0 F.num_Int.r1 F.num_Int.ic F.num_Int.rs
attribute [go_sem] F.num_Read.r0 F.num_Read.r1 F.num_Read.ic F.num_Read.rs
attribute [go_sem] F.num_Reader_End.r0 F.num_Reader_End.r1 F.num_Reader_End.r2 F.num_Reader_End.r3 F.num_Reader_End.ic F.num_Reader_End.rs
attribute [go_sem] F.num_Reader_Err.r0 F.num_Reader_Err.r1 F.num_Reader_Err.r2 F.num_Reader_Err.r3 F.num_Reader_Err.ic F.num_Reader_Err.rs
attribute [go_sem] F.num_Reader_Fail.r0 F.num_Reader_Fail.r1 F.num_Reader_Fail.ic F.num_Reader_Fail.rs
attribute [go_sem] F.num_Reader_Int.r0 F.num_Reader_Int.r1 F.num_Reader_Int.r2 F.num_Reader_Int.ic F.num_Reader_Int.rs
attribute [go_sem] F.num_Reader_Left.r0 F.num_Reader_Left.r1 F.num_Reader_Left.r2 F.num_Reader_Left.r3 F.num_Reader_Left.ic F.num_Reader_Left.rs
attribute [go_sem] F.num_Reader_Uint.r0 F.num_Reader_Uint.r1 F.num_Reader_Uint.r2 F.num_Reader_Uint.r3 F.num_Reader_Uint.r4 F.num_Reader_Uint.r5 F.num_Reader_Uint.r6 F.num_Reader_Uint.r7 F.num_Reader_Uint.r8 F.num_Reader_Uint.r9 F.num_Reader_Uint.r10 F.num_Reader_Uint.r11 F.num_Reader_Uint.r12 F.num_Reader_Uint.r13 F.num_Reader_Uint.r14 F.num_Reader_Uint.r15 F.num_Reader_Uint.r16 F.num_Reader_Uint.r17 F.num_Reader_Uint.ic F.num_Reader_Uint.rs
attribute [go_sem] F.num_Reader_take.r0 F.num_Reader_take.r1 F.num_Reader_take.r2 F.num_Reader_take.r3 F.num_Reader_take.r4 F.num_Reader_take.r5 F.num_Reader_take.r6 F.num_Reader_take.ic F.num_Reader_take.rs
attribute [go_sem] F.num_Uint.r0 F.num_Uint.r1 F.num_Uint.r2 F.num_Uint.r3 F.num_Uint.r4 F.num_Uint.r5 F.num_Uint.r6 F.num_Uint.r7 F.num_Uint.r8 F.num_Uint.r9 F.num_Uint.r10 F.num_Uint.ic F.num_Uint.rs
attribute [go_sem] F.num_head.r0 F.num_head.r1 F.num_head.ic F.num_head.rs
attribute [go_sem] F.num_size.r0 F.num_size.r1 F.num_size.r2 F.num_size.ic F.num_size.rs
attribute [go_sem] F.osierlaw03_DotsBytes.r0 F.osierlaw03_DotsBytes.r1 F.osierlaw03_DotsBytes.r2 F.osierlaw03_DotsBytes.r3 F.osierlaw03_DotsBytes.r4 F.osierlaw03_DotsBytes.r5 F.osierlaw03_DotsBytes.r6 F.osierlaw03_DotsBytes.r7 F.osierlaw03_DotsBytes.r8 F.osierlaw03_DotsBytes.r9 F.osierlaw03_DotsBytes.r10 F.osierlaw03_DotsBytes.r11 F.osierlaw03_DotsBytes.r12 F.osierlaw03_DotsBytes.r13 F.osierlaw03_DotsBytes.r14 F.osierlaw03_DotsBytes.r15 F.osierlaw03_DotsBytes.r16 F.osierlaw03_DotsBytes.r17 F.osierlaw03_DotsBytes.ic F.osierlaw03_DotsBytes.rs
attribute [go_sem] F.osierref01_Int.r0 F.osierref01_Int.r1 F.osierref01_Int.r2 F.osierref01_Int.r3 F.osierref01_Int.ic F.osierref01_Int.rs
attribute [go_sem] F.osierref01_R_Fail.r0 F.osierref01_R_Fail.r1 F.osierref01_R_Fail.r2 F.osierref01_R_Fail.ic F.osierref01_R_Fail.rs
attribute [go_sem] F.osierref01_R_Int.r0 F.osierref01_R_Int.r1 F.osierref01_R_Int.r2 F.osierref01_R_Int.r3 F.osierref01_R_Int.r4 F.osierref01_R_Int.ic F.osierref01_R_Int.rs
attribute [go_sem] F.osierref01_R_Uint.r0 F.osierref01_R_Uint.r1 F.osierref01_R_Uint.r2 F.osierref01_R_Uint.r3 F.osierref01_R_Uint.r4 F.osierref01_R_Uint.r5 F.osierref01_R_Uint.r6 F.osierref01_R_Uint.r7 F.osierref01_R_Uint.r8 F.osierref01_R_Uint.r9 F.osierref01_R_Uint.r10 F.osierref01_R_Uint.r11 F.osierref01_R_Uint.r12 F.osierref01_R_Uint.r13 F.osierref01_R_Uint.r14 F.osierref01_R_Uint.r15 F.osierref01_R_Uint.r16 F.osierref01_R_Uint.r17 F.osierref01_R_Uint.r18 F.osierref01_R_Uint.r19 F.osierref01_R_Uint.r20 F.osierref01_R_Uint.r21 F.osierref01_R_Uint.r22 F.osierref01_R_Uint.r23 F.osierref01_R_Uint.r24 F.osierref01_R_Uint.r25 F.osierref01_R_Uint.ic F.osierref01_R_Uint.rs
attribute [go_sem] F.osierref01_Size.r0 F.osierref01_Size.r1 F.osierref01_Size.r2 F.osierref01_Size.r3 F.osierref01_Size.r4 F.osierref01_Size.r5 F.osierref01_Size.r6 F.osierref01_Size.r7 F.osierref01_Size.r8 F.osierref01_Size.r9 F.osierref01_Size.r10 F.osierref01_Size.ic F.osierref01_Size.rs
attribute [go_sem] F.osierref01_Uint.r0 F.osierref01_Uint.r1 F.osierref01_Uint.r2 F.osierref01_Uint.r3 F.osierref01_Uint.r4 F.osierref01_Uint.r5 F.osierref01_Uint.r6 F.osierref01_Uint.r7 F.osierref01_Uint.r8 F.osierref01_Uint.r9 F.osierref01_Uint.r10 F.osierref01_Uint.r11 F.osierref01_Uint.r12 F.osierref01_Uint.r13 F.osierref01_Uint.r14 F.osierref01_Uint.r15 F.osierref01_Uint.r16 F.osierref01_Uint.r17 F.osierref01_Uint.r18 F.osierref01_Uint.r19 F.osierref01_Uint.r20 F.osierref01_Uint.r21 F.osierref01_Uint.r22 F.osierref01_Uint.r23 F.osierref01_Uint.ic F.osierref01_Uint.rs
attribute [go_sem] F.osierref03_Put.r0 F.osierref03_Put.r1 F.osierref03_Put.ic F.osierref03_Put.rs
attribute [go_sem] F.osierref03_Take.r0 F.osierref03_Take.r1 F.osierref03_Take.r2 F.osierref03_Take.r3 F.osierref03_Take.r4 F.osierref03_Take.r5 F.osierref03_Take.ic F.osierref03_Take.rs
end Go.Osj
