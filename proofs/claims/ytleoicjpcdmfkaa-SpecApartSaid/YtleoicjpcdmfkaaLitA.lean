/-
  The abstract code of functions 3 to 100, printed by my program wip/tools/Lit.lean; each is held by a theorem.
-/
import Derived.Test.YtleoicjpcdmfkaaAb21
import Derived.Test.YtleoicjpcdmfkaaChecked
import Derived.KernelRfl
namespace Go.Proofs.Ytleoicjpcdmfkaa
open Go Ab

/-- revenant/revenantlaw09.IdealNil -/
def b3 : BFunc := { ntmps := 59, results := [.tmp 4], body :=
 (.seq (.region [
 ⟨some 2, .box 4 (.tmp 0), none⟩,
 ⟨some 3, .box 3 (.tmp 1), none⟩,
 ⟨some 4, .mov (.const (.bool false)), none⟩] [])
 (.seq (.seq (.region [
 ⟨some 6, .call 14 #[], none⟩,
 ⟨some 7, .un .not (.tmp 6), none⟩] [])
 (.cond (.tmp 7) (.seq (.region [
  ⟨some 4, .mov (.const (.bool false)), none⟩] [])
  .ret)
 .skip))
 (.seq (.region [
 ⟨some 5, .mov (.const (.pointer none)), none⟩] [])
 (.seq (.region [
 ⟨some 8, .mov (.tmp 5), none⟩,
 ⟨some 9, .loadN 4 (.tmp 2), none⟩,
 ⟨some 10, .loadN 3 (.tmp 3), none⟩,
 ⟨some 11, .call 15 #[(.tmp 8), (.tmp 9), (.tmp 10)], none⟩] [])
 (.seq (.region [
 ⟨some 12, .mov (.tmp 5), none⟩,
 ⟨some 13, .loadN 4 (.tmp 2), none⟩,
 ⟨some 14, .call 16 #[(.tmp 12), (.tmp 13)], none⟩,
 ⟨some 15, .build #[(.int .u64 0), (.int .i64 0), (.bool false)] [], none⟩,
 ⟨some 16, .eqv false (.agg [.int, .int, .bool]) (.tmp 14) (.tmp 15), none⟩,
 ⟨some 17, .mov (.tmp 16), none⟩,
 ⟨some 18, .mov (.tmp 5), some (17, true)⟩,
 ⟨some 19, .loadN 4 (.tmp 2), some (17, true)⟩,
 ⟨some 20, .loadN 3 (.tmp 3), some (17, true)⟩,
 ⟨some 21, .loadN 3 (.tmp 3), some (17, true)⟩,
 ⟨some 22, .call 17 #[(.tmp 18), (.tmp 19), (.tmp 20), (.tmp 21)], some (17, true)⟩,
 ⟨some 23, .un .not (.tmp 22), some (17, true)⟩,
 ⟨some 24, .pick (.tmp 17) (.tmp 23) (.const (.bool false)), none⟩,
 ⟨some 25, .mov (.tmp 24), none⟩,
 ⟨some 26, .mov (.tmp 5), some (25, true)⟩,
 ⟨some 27, .loadN 4 (.tmp 2), some (25, true)⟩,
 ⟨some 28, .call 18 #[(.tmp 26), (.tmp 27), (.const (.int .u64 3))], some (25, true)⟩,
 ⟨some 29, .bin .eql (.tmp 28) (.const (.int .u64 0)), some (25, true)⟩,
 ⟨some 30, .pick (.tmp 25) (.tmp 29) (.const (.bool false)), none⟩,
 ⟨some 31, .mov (.tmp 30), none⟩,
 ⟨some 32, .mov (.tmp 5), some (31, true)⟩,
 ⟨some 33, .call 19 #[(.tmp 32), (.const (.int .i64 1))], some (31, true)⟩,
 ⟨some 34, .bin .eql (.tmp 33) (.const (.int .i64 0)), some (31, true)⟩,
 ⟨some 35, .pick (.tmp 31) (.tmp 34) (.const (.bool false)), none⟩,
 ⟨some 36, .mov (.tmp 35), none⟩,
 ⟨some 37, .mov (.tmp 5), some (36, true)⟩,
 ⟨some 38, .fieldAddr 0 (.tmp 2), some (36, true)⟩,
 ⟨some 39, .loadN 3 (.tmp 38), some (36, true)⟩,
 ⟨some 40, .call 20 #[(.tmp 37), (.tmp 39)], some (36, true)⟩,
 ⟨some 41, .bin .eql (.tmp 40) (.const (.int .u64 0)), some (36, true)⟩,
 ⟨some 42, .pick (.tmp 36) (.tmp 41) (.const (.bool false)), none⟩,
 ⟨some 43, .mov (.tmp 42), none⟩,
 ⟨some 44, .mov (.tmp 5), some (43, true)⟩,
 ⟨some 45, .call 21 #[(.tmp 44)], some (43, true)⟩,
 ⟨some 46, .build #[(.int .i64 0), (.int .i64 0), (.int .i64 0), (.int .i64 0), (.int .i64 0)] [], some (43, true)⟩,
 ⟨some 47, .eqv false (.agg [.int, .int, .int, .int, .int]) (.tmp 45) (.tmp 46), some (43, true)⟩,
 ⟨some 48, .pick (.tmp 43) (.tmp 47) (.const (.bool false)), none⟩,
 ⟨some 49, .mov (.tmp 48), none⟩,
 ⟨some 50, .mov (.tmp 5), some (49, true)⟩,
 ⟨some 51, .call 22 #[(.tmp 50)], some (49, true)⟩,
 ⟨some 52, .eqv false .ptr (.tmp 51) (.const (.pointer none)), some (49, true)⟩,
 ⟨some 53, .pick (.tmp 49) (.tmp 52) (.const (.bool false)), none⟩,
 ⟨some 54, .mov (.tmp 53), none⟩,
 ⟨some 55, .mov (.tmp 5), some (54, true)⟩,
 ⟨some 56, .call 23 #[(.tmp 55), (.const (.int .i64 1)), (.const (.int .i64 3))], some (54, true)⟩,
 ⟨some 57, .bin .eql (.tmp 56) (.const (.int .u64 0)), some (54, true)⟩,
 ⟨some 58, .pick (.tmp 54) (.tmp 57) (.const (.bool false)), none⟩,
 ⟨some 4, .mov (.tmp 58), none⟩] [])
 .ret))))) }
theorem c3 : bfunc Try.prog 3 = some b3 := by kernel_rfl

/-- revenant/revenantlaw09.IdealKeeps -/
def b4 : BFunc := { ntmps := 128, results := [.tmp 8], body :=
 (.seq (.region [
 ⟨some 8, .mov (.const (.bool false)), none⟩] [])
 (.seq (.seq (.region [
 ⟨some 15, .call 14 #[], none⟩,
 ⟨some 16, .un .not (.tmp 15), none⟩] [])
 (.cond (.tmp 16) (.seq (.region [
  ⟨some 8, .mov (.const (.bool false)), none⟩] [])
  .ret)
 .skip))
 (.seq (.region [
 ⟨some 17, .call 24 #[], none⟩,
 ⟨some 9, .mov (.tmp 17), none⟩] [])
 (.seq (.region [
 ⟨some 18, .mov (.tmp 1), none⟩,
 ⟨some 19, .conv .u64 (.tmp 18), none⟩,
 ⟨some 20, .bin .rem (.tmp 19) (.const (.int .u64 5)), none⟩,
 ⟨some 21, .conv .i64 (.tmp 20), none⟩,
 ⟨some 22, .bin .add (.const (.int .i64 1)) (.tmp 21), none⟩,
 ⟨some 10, .mov (.tmp 22), none⟩] [])
 (.seq (.region [
 ⟨some 23, .mov (.tmp 10), none⟩,
 ⟨some 24, .mov (.tmp 2), none⟩,
 ⟨some 25, .conv .u64 (.tmp 24), none⟩,
 ⟨some 26, .bin .rem (.tmp 25) (.const (.int .u64 12)), none⟩,
 ⟨some 27, .conv .i64 (.tmp 26), none⟩,
 ⟨some 28, .call 25 #[(.tmp 23), (.tmp 27)], none⟩,
 ⟨some 11, .alloc #[(.int .i64 0), (.int .i64 0), (.int .i64 0)], none⟩,
 ⟨none, .store 3 (.tmp 11) (.tmp 28), none⟩] [])
 (.seq (.seq (.region [
 ⟨some 29, .loadN 3 (.tmp 11), none⟩,
 ⟨some 30, .call 26 #[(.tmp 29)], none⟩,
 ⟨some 31, .un .not (.tmp 30), none⟩] [])
 (.cond (.tmp 31) (.seq (.region [
  ⟨some 8, .mov (.const (.bool true)), none⟩] [])
  .ret)
 .skip))
 (.seq (.region [
 ⟨some 32, .mov (.tmp 9), none⟩,
 ⟨some 33, .mov (.tmp 10), none⟩,
 ⟨some 34, .call 19 #[(.tmp 32), (.tmp 33)], none⟩,
 ⟨some 12, .mov (.tmp 34), none⟩] [])
 (.seq (.region [
 ⟨some 35, .mov (.tmp 9), none⟩,
 ⟨some 36, .loadN 3 (.tmp 11), none⟩,
 ⟨some 37, .mov (.tmp 12), none⟩,
 ⟨some 38, .build #[(.int .i64 0), (.int .i64 0), (.int .i64 0), (.int .i64 0)] [(0, 3, (.tmp 36)), (3, 1, (.tmp 37))], none⟩,
 ⟨some 39, .mov (.tmp 3), none⟩,
 ⟨some 40, .build #[(.int .u64 0), (.int .i64 0), (.bool false)] [(0, 1, (.tmp 39))], none⟩,
 ⟨some 41, .call 15 #[(.tmp 35), (.tmp 38), (.tmp 40)], none⟩] [])
 (.seq (.seq (.region [
 ⟨some 13, .mov (.const (.int .i64 0)), none⟩] [])
 (.block 0 (.loop (.seq (.seq (.region [
 ⟨some 42, .mov (.tmp 13), none⟩,
 ⟨some 43, .mov (.tmp 0), none⟩,
 ⟨some 44, .lenS (.tmp 43), none⟩,
 ⟨some 45, .bin .lss (.tmp 42) (.tmp 44), none⟩,
 ⟨some 46, .mov (.tmp 45), none⟩,
 ⟨some 47, .mov (.tmp 13), some (46, true)⟩,
 ⟨some 48, .bin .lss (.tmp 47) (.const (.int .i64 100)), some (46, true)⟩,
 ⟨some 49, .pick (.tmp 46) (.tmp 48) (.const (.bool false)), none⟩] [])
 (.cond (.tmp 49) .skip
 (.exit 0)))
 (.seq (.block 1 (.seq (.region [
 ⟨some 52, .mov (.tmp 0), none⟩,
 ⟨some 53, .mov (.tmp 13), none⟩,
 ⟨some 54, .indexSl 11 (.tmp 52) (.tmp 53), none⟩,
 ⟨some 55, .loadN 11 (.tmp 54), none⟩,
 ⟨some 14, .alloc #[(.int .i64 0), (.int .i64 0), (.int .i64 0), (.int .i64 0), (.int .i64 0), (.int .u64 0), (.int .i64 0), (.bool false), (.int .u64 0), (.int .i64 0), (.bool false)], none⟩,
 ⟨none, .store 11 (.tmp 14) (.tmp 55), none⟩] [])
 (.seq (.seq (.region [
 ⟨some 56, .fieldAddr 1 (.tmp 14), none⟩,
 ⟨some 57, .fieldAddr 3 (.tmp 56), none⟩,
 ⟨some 58, .load1 (.tmp 57), none⟩,
 ⟨some 59, .mov (.tmp 12), none⟩,
 ⟨some 60, .bin .eql (.tmp 58) (.tmp 59), none⟩] [])
 (.cond (.tmp 60) (.region [
  ⟨some 61, .mov (.tmp 12), none⟩,
  ⟨some 62, .bin .add (.tmp 61) (.const (.int .i64 1)), none⟩,
  ⟨some 63, .fieldAddr 1 (.tmp 14), none⟩,
  ⟨some 64, .fieldAddr 3 (.tmp 63), none⟩,
  ⟨none, .store 1 (.tmp 64) (.tmp 62), none⟩] [])
 .skip))
 (.seq (.region [
 ⟨some 65, .fieldAddr 0 (.tmp 14), none⟩,
 ⟨some 66, .load1 (.tmp 65), none⟩] [])
 (.block 2 (.seq (.region [
 ⟨some 68, .bin .eql (.tmp 66) (.const (.int .i64 2)), none⟩,
 ⟨some 67, .mov (.tmp 68), none⟩] [])
 (.cond (.tmp 67) (.region [
  ⟨some 69, .mov (.tmp 9), none⟩,
  ⟨some 70, .fieldAddr 1 (.tmp 14), none⟩,
  ⟨some 71, .loadN 4 (.tmp 70), none⟩,
  ⟨some 72, .fieldAddr 8 (.tmp 14), none⟩,
  ⟨some 73, .loadN 3 (.tmp 72), none⟩,
  ⟨some 74, .call 15 #[(.tmp 69), (.tmp 71), (.tmp 73)], none⟩] [])
 (.seq (.region [
  ⟨some 76, .bin .eql (.tmp 66) (.const (.int .i64 3)), none⟩,
  ⟨some 75, .mov (.tmp 76), none⟩] [])
  (.cond (.tmp 75) (.region [
   ⟨some 77, .mov (.tmp 9), none⟩,
   ⟨some 78, .fieldAddr 1 (.tmp 14), none⟩,
   ⟨some 79, .loadN 4 (.tmp 78), none⟩,
   ⟨some 80, .fieldAddr 5 (.tmp 14), none⟩,
   ⟨some 81, .loadN 3 (.tmp 80), none⟩,
   ⟨some 82, .fieldAddr 8 (.tmp 14), none⟩,
   ⟨some 83, .loadN 3 (.tmp 82), none⟩,
   ⟨some 84, .call 17 #[(.tmp 77), (.tmp 79), (.tmp 81), (.tmp 83)], none⟩] [])
  (.seq (.region [
   ⟨some 86, .bin .eql (.tmp 66) (.const (.int .i64 5)), none⟩,
   ⟨some 85, .mov (.tmp 86), none⟩] [])
   (.cond (.tmp 85) (.region [
    ⟨some 87, .mov (.tmp 9), none⟩,
    ⟨some 88, .fieldAddr 1 (.tmp 14), none⟩,
    ⟨some 89, .loadN 4 (.tmp 88), none⟩,
    ⟨some 90, .fieldAddr 8 (.tmp 14), none⟩,
    ⟨some 91, .fieldAddr 0 (.tmp 90), none⟩,
    ⟨some 92, .load1 (.tmp 91), none⟩,
    ⟨some 93, .call 18 #[(.tmp 87), (.tmp 89), (.tmp 92)], none⟩] [])
   (.seq (.region [
    ⟨some 95, .bin .eql (.tmp 66) (.const (.int .i64 6)), none⟩,
    ⟨some 94, .mov (.tmp 95), none⟩] [])
    (.cond (.tmp 94) (.region [
     ⟨some 96, .mov (.tmp 9), none⟩,
     ⟨some 97, .fieldAddr 1 (.tmp 14), none⟩,
     ⟨some 98, .fieldAddr 0 (.tmp 97), none⟩,
     ⟨some 99, .fieldAddr 1 (.tmp 98), none⟩,
     ⟨some 100, .load1 (.tmp 99), none⟩,
     ⟨some 101, .call 19 #[(.tmp 96), (.tmp 100)], none⟩] [])
    .skip)))))))))))))
 (.region [
 ⟨some 50, .mov (.tmp 13), none⟩,
 ⟨some 51, .bin .add (.tmp 50) (.const (.int .i64 1)), none⟩,
 ⟨some 13, .mov (.tmp 51), none⟩] []))))))
 (.seq (.region [
 ⟨some 102, .mov (.tmp 9), none⟩,
 ⟨some 103, .mov (.tmp 12), none⟩,
 ⟨some 104, .fieldAddr 2 (.tmp 11), none⟩,
 ⟨some 105, .load1 (.tmp 104), none⟩,
 ⟨some 106, .call 23 #[(.tmp 102), (.tmp 103), (.tmp 105)], none⟩,
 ⟨some 107, .mov (.tmp 3), none⟩,
 ⟨some 108, .bin .eql (.tmp 106) (.tmp 107), none⟩,
 ⟨some 109, .mov (.tmp 108), none⟩,
 ⟨some 110, .mov (.tmp 9), some (109, true)⟩,
 ⟨some 111, .loadN 3 (.tmp 11), some (109, true)⟩,
 ⟨some 112, .mov (.tmp 12), some (109, true)⟩,
 ⟨some 113, .build #[(.int .i64 0), (.int .i64 0), (.int .i64 0), (.int .i64 0)] [(0, 3, (.tmp 111)), (3, 1, (.tmp 112))], some (109, true)⟩,
 ⟨some 114, .call 16 #[(.tmp 110), (.tmp 113)], some (109, true)⟩,
 ⟨some 115, .field1 0 (.tmp 114), some (109, true)⟩,
 ⟨some 116, .mov (.tmp 3), some (109, true)⟩,
 ⟨some 117, .bin .eql (.tmp 115) (.tmp 116), some (109, true)⟩,
 ⟨some 118, .pick (.tmp 109) (.tmp 117) (.const (.bool false)), none⟩,
 ⟨some 119, .mov (.tmp 118), none⟩,
 ⟨some 120, .mov (.tmp 9), some (119, true)⟩,
 ⟨some 121, .loadN 3 (.tmp 11), some (119, true)⟩,
 ⟨some 122, .mov (.tmp 12), some (119, true)⟩,
 ⟨some 123, .build #[(.int .i64 0), (.int .i64 0), (.int .i64 0), (.int .i64 0)] [(0, 3, (.tmp 121)), (3, 1, (.tmp 122))], some (119, true)⟩,
 ⟨some 124, .call 16 #[(.tmp 120), (.tmp 123)], some (119, true)⟩,
 ⟨some 125, .field1 2 (.tmp 124), some (119, true)⟩,
 ⟨some 126, .un .not (.tmp 125), some (119, true)⟩,
 ⟨some 127, .pick (.tmp 119) (.tmp 126) (.const (.bool false)), none⟩,
 ⟨some 8, .mov (.tmp 127), none⟩] [])
 .ret)))))))))) }
theorem c4 : bfunc Try.prog 4 = some b4 := by kernel_rfl

/-- revenant/revenantlaw09.IdealExact -/
def b5 : BFunc := { ntmps := 91, results := [.tmp 2], body :=
 (.seq (.region [
 ⟨some 2, .mov (.const (.bool false)), none⟩] [])
 (.seq (.seq (.region [
 ⟨some 8, .call 14 #[], none⟩,
 ⟨some 9, .un .not (.tmp 8), none⟩] [])
 (.cond (.tmp 9) (.seq (.region [
  ⟨some 2, .mov (.const (.bool false)), none⟩] [])
  .ret)
 .skip))
 (.seq (.region [
 ⟨some 10, .call 24 #[], none⟩,
 ⟨some 3, .mov (.tmp 10), none⟩] [])
 (.seq (.region [
 ⟨some 11, .build #[(.slice none 0 0), (.slice none 0 0), (.slice none 0 0)] [], none⟩,
 ⟨some 12, .box 3 (.tmp 11), none⟩,
 ⟨some 4, .mov (.tmp 12), none⟩] [])
 (.seq (.region [
 ⟨some 5, .mov (.const (.int .i64 0)), none⟩] [])
 (.seq (.seq (.region [
 ⟨some 6, .mov (.const (.int .i64 0)), none⟩] [])
 (.block 0 (.loop (.seq (.seq (.region [
 ⟨some 13, .mov (.tmp 6), none⟩,
 ⟨some 14, .mov (.tmp 0), none⟩,
 ⟨some 15, .lenS (.tmp 14), none⟩,
 ⟨some 16, .bin .lss (.tmp 13) (.tmp 15), none⟩,
 ⟨some 17, .mov (.tmp 16), none⟩,
 ⟨some 18, .mov (.tmp 6), some (17, true)⟩,
 ⟨some 19, .bin .lss (.tmp 18) (.const (.int .i64 150)), some (17, true)⟩,
 ⟨some 20, .pick (.tmp 17) (.tmp 19) (.const (.bool false)), none⟩] [])
 (.cond (.tmp 20) .skip
 (.exit 0)))
 (.seq (.block 1 (.seq (.seq (.region [
 ⟨some 23, .mov (.tmp 0), none⟩,
 ⟨some 24, .mov (.tmp 6), none⟩,
 ⟨some 25, .indexSl 11 (.tmp 23) (.tmp 24), none⟩,
 ⟨some 26, .fieldAddr 8 (.tmp 25), none⟩,
 ⟨some 27, .fieldAddr 1 (.tmp 26), none⟩,
 ⟨some 28, .load1 (.tmp 27), none⟩,
 ⟨some 29, .bin .lss (.tmp 28) (.const (.int .i64 0)), none⟩,
 ⟨some 30, .mov (.tmp 29), none⟩,
 ⟨some 31, .mov (.tmp 0), some (30, false)⟩,
 ⟨some 32, .mov (.tmp 6), some (30, false)⟩,
 ⟨some 33, .indexSl 11 (.tmp 31) (.tmp 32), some (30, false)⟩,
 ⟨some 34, .fieldAddr 1 (.tmp 33), some (30, false)⟩,
 ⟨some 35, .fieldAddr 0 (.tmp 34), some (30, false)⟩,
 ⟨some 36, .fieldAddr 0 (.tmp 35), some (30, false)⟩,
 ⟨some 37, .load1 (.tmp 36), some (30, false)⟩,
 ⟨some 38, .bin .eql (.tmp 37) (.const (.int .i64 9)), some (30, false)⟩,
 ⟨some 39, .pick (.tmp 30) (.const (.bool true)) (.tmp 38), none⟩] [])
 (.cond (.tmp 39) (.seq (.region [
  ⟨some 2, .mov (.const (.bool true)), none⟩] [])
  .ret)
 .skip))
 (.seq (.seq (.region [
 ⟨some 40, .mov (.tmp 3), none⟩,
 ⟨some 41, .mov (.tmp 4), none⟩,
 ⟨some 42, .mov (.tmp 0), none⟩,
 ⟨some 43, .mov (.tmp 6), none⟩,
 ⟨some 44, .indexSl 11 (.tmp 42) (.tmp 43), none⟩,
 ⟨some 45, .loadN 11 (.tmp 44), none⟩,
 ⟨some 46, .call 27 #[(.tmp 40), (.tmp 41), (.tmp 45)], none⟩,
 ⟨some 47, .un .not (.tmp 46), none⟩] [])
 (.cond (.tmp 47) (.seq (.region [
  ⟨some 2, .mov (.const (.bool false)), none⟩] [])
  .ret)
 .skip))
 (.seq (.region [
 ⟨some 48, .mov (.tmp 0), none⟩,
 ⟨some 49, .mov (.tmp 6), none⟩,
 ⟨some 50, .indexSl 11 (.tmp 48) (.tmp 49), none⟩,
 ⟨some 51, .fieldAddr 0 (.tmp 50), none⟩,
 ⟨some 52, .load1 (.tmp 51), none⟩,
 ⟨some 53, .bin .geq (.tmp 52) (.const (.int .i64 1)), none⟩,
 ⟨some 54, .mov (.tmp 53), none⟩,
 ⟨some 55, .mov (.tmp 0), some (54, true)⟩,
 ⟨some 56, .mov (.tmp 6), some (54, true)⟩,
 ⟨some 57, .indexSl 11 (.tmp 55) (.tmp 56), some (54, true)⟩,
 ⟨some 58, .fieldAddr 0 (.tmp 57), some (54, true)⟩,
 ⟨some 59, .load1 (.tmp 58), some (54, true)⟩,
 ⟨some 60, .bin .leq (.tmp 59) (.const (.int .i64 5)), some (54, true)⟩,
 ⟨some 61, .pick (.tmp 54) (.tmp 60) (.const (.bool false)), none⟩] [])
 (.cond (.tmp 61) (.region [
  ⟨some 62, .mov (.tmp 5), none⟩,
  ⟨some 63, .bin .add (.tmp 62) (.const (.int .i64 1)), none⟩,
  ⟨some 5, .mov (.tmp 63), none⟩] [])
 .skip)))))
 (.region [
 ⟨some 21, .mov (.tmp 6), none⟩,
 ⟨some 22, .bin .add (.tmp 21) (.const (.int .i64 1)), none⟩,
 ⟨some 6, .mov (.tmp 22), none⟩] []))))))
 (.seq (.region [
 ⟨some 64, .mov (.tmp 3), none⟩,
 ⟨some 65, .call 21 #[(.tmp 64)], none⟩,
 ⟨some 7, .alloc #[(.int .i64 0), (.int .i64 0), (.int .i64 0), (.int .i64 0), (.int .i64 0)], none⟩,
 ⟨none, .store 5 (.tmp 7) (.tmp 65), none⟩] [])
 (.seq (.region [
 ⟨some 66, .fieldAddr 0 (.tmp 7), none⟩,
 ⟨some 67, .load1 (.tmp 66), none⟩,
 ⟨some 68, .fieldAddr 1 (.tmp 7), none⟩,
 ⟨some 69, .load1 (.tmp 68), none⟩,
 ⟨some 70, .bin .add (.tmp 67) (.tmp 69), none⟩,
 ⟨some 71, .fieldAddr 2 (.tmp 7), none⟩,
 ⟨some 72, .load1 (.tmp 71), none⟩,
 ⟨some 73, .bin .add (.tmp 70) (.tmp 72), none⟩,
 ⟨some 74, .fieldAddr 4 (.tmp 7), none⟩,
 ⟨some 75, .load1 (.tmp 74), none⟩,
 ⟨some 76, .bin .add (.tmp 73) (.tmp 75), none⟩,
 ⟨some 77, .mov (.tmp 5), none⟩,
 ⟨some 78, .bin .eql (.tmp 76) (.tmp 77), none⟩,
 ⟨some 79, .mov (.tmp 78), none⟩,
 ⟨some 80, .mov (.tmp 3), some (79, true)⟩,
 ⟨some 81, .call 22 #[(.tmp 80)], some (79, true)⟩,
 ⟨some 82, .call 28 #[(.tmp 81)], some (79, true)⟩,
 ⟨some 83, .mov (.tmp 4), some (79, true)⟩,
 ⟨some 84, .nilCheck (.tmp 83), some (79, true)⟩,
 ⟨some 85, .fieldAddr 2 (.tmp 84), some (79, true)⟩,
 ⟨some 86, .fieldAddr 0 (.tmp 85), some (79, true)⟩,
 ⟨some 87, .load1 (.tmp 86), some (79, true)⟩,
 ⟨some 88, .lenS (.tmp 87), some (79, true)⟩,
 ⟨some 89, .bin .eql (.tmp 82) (.tmp 88), some (79, true)⟩,
 ⟨some 90, .pick (.tmp 79) (.tmp 89) (.const (.bool false)), none⟩,
 ⟨some 2, .mov (.tmp 90), none⟩] [(21, 0), (21, 1)])
 .ret)))))))) }
theorem c5 : bfunc Try.prog 5 = some b5 := by kernel_rfl

/-- revenant/revenantlaw21.SpecExact -/
def b6 : BFunc := { ntmps := 99, results := [.tmp 4], body :=
 (.seq (.region [
 ⟨some 4, .mov (.const (.bool false)), none⟩] [])
 (.seq (.seq (.region [
 ⟨some 18, .call 29 #[], none⟩,
 ⟨some 19, .un .not (.tmp 18), none⟩] [])
 (.cond (.tmp 19) (.seq (.region [
  ⟨some 4, .mov (.const (.bool false)), none⟩] [])
  .ret)
 .skip))
 (.seq (.region [
 ⟨some 20, .build #[(.int .i64 0), (.int .u64 0), (.int .u64 0), (.int .u64 0), (.int .u64 0), (.int .u64 0), (.int .u64 0), (.int .u64 0), (.int .u64 0), (.int .u64 0), (.int .u64 0), (.int .u64 0), (.int .u64 0), (.int .u64 0), (.int .u64 0), (.int .u64 0), (.int .u64 0), (.int .u64 0), (.int .u64 0), (.int .u64 0), (.int .u64 0), (.int .u64 0), (.int .u64 0), (.int .u64 0), (.int .u64 0), (.int .u64 0), (.int .u64 0), (.int .u64 0), (.int .u64 0), (.int .u64 0), (.int .u64 0), (.int .u64 0), (.int .u64 0)] [], none⟩,
 ⟨some 5, .alloc #[(.int .i64 0), (.int .u64 0), (.int .u64 0), (.int .u64 0), (.int .u64 0), (.int .u64 0), (.int .u64 0), (.int .u64 0), (.int .u64 0), (.int .u64 0), (.int .u64 0), (.int .u64 0), (.int .u64 0), (.int .u64 0), (.int .u64 0), (.int .u64 0), (.int .u64 0), (.int .u64 0), (.int .u64 0), (.int .u64 0), (.int .u64 0), (.int .u64 0), (.int .u64 0), (.int .u64 0), (.int .u64 0), (.int .u64 0), (.int .u64 0), (.int .u64 0), (.int .u64 0), (.int .u64 0), (.int .u64 0), (.int .u64 0), (.int .u64 0)], none⟩,
 ⟨none, .store 33 (.tmp 5) (.tmp 20), none⟩] [])
 (.seq (.region [
 ⟨some 21, .build #[(.slice none 0 0)] [], none⟩,
 ⟨some 6, .alloc #[(.slice none 0 0)], none⟩,
 ⟨none, .store 1 (.tmp 6) (.tmp 21), none⟩] [])
 (.seq (.seq (.region [
 ⟨some 7, .mov (.const (.int .i64 0)), none⟩] [])
 (.block 0 (.loop (.seq (.seq (.region [
 ⟨some 22, .mov (.tmp 7), none⟩,
 ⟨some 23, .mov (.tmp 0), none⟩,
 ⟨some 24, .lenS (.tmp 23), none⟩,
 ⟨some 25, .bin .lss (.tmp 22) (.tmp 24), none⟩,
 ⟨some 26, .mov (.tmp 25), none⟩,
 ⟨some 27, .mov (.tmp 7), some (26, true)⟩,
 ⟨some 28, .bin .lss (.tmp 27) (.const (.int .i64 60)), some (26, true)⟩,
 ⟨some 29, .pick (.tmp 26) (.tmp 28) (.const (.bool false)), none⟩] [])
 (.cond (.tmp 29) .skip
 (.exit 0)))
 (.seq (.block 1 (.seq (.region [
 ⟨some 33, .loadN 33 (.tmp 5), none⟩,
 ⟨some 34, .mov (.tmp 0), none⟩,
 ⟨some 35, .mov (.tmp 7), none⟩,
 ⟨some 36, .indexSl 4 (.tmp 34) (.tmp 35), none⟩,
 ⟨some 37, .loadN 4 (.tmp 36), none⟩,
 ⟨some 38, .call 30 #[(.tmp 33), (.tmp 37)], none⟩,
 ⟨some 32, .mov (.tmp 38), none⟩,
 ⟨some 39, .extract (.tmp 32) 0, none⟩,
 ⟨some 40, .extract (.tmp 32) 1, none⟩,
 ⟨some 41, .extract (.tmp 32) 2, none⟩,
 ⟨some 8, .alloc #[(.int .i64 0), (.int .u64 0), (.int .u64 0), (.int .u64 0), (.int .u64 0), (.int .u64 0), (.int .u64 0), (.int .u64 0), (.int .u64 0), (.int .u64 0), (.int .u64 0), (.int .u64 0), (.int .u64 0), (.int .u64 0), (.int .u64 0), (.int .u64 0), (.int .u64 0), (.int .u64 0), (.int .u64 0), (.int .u64 0), (.int .u64 0), (.int .u64 0), (.int .u64 0), (.int .u64 0), (.int .u64 0), (.int .u64 0), (.int .u64 0), (.int .u64 0), (.int .u64 0), (.int .u64 0), (.int .u64 0), (.int .u64 0), (.int .u64 0)], none⟩,
 ⟨some 9, .alloc #[(.int .i64 0), (.bool false), (.int .u64 0)], none⟩,
 ⟨none, .store 33 (.tmp 8) (.tmp 39), none⟩,
 ⟨none, .store 3 (.tmp 9) (.tmp 40), none⟩,
 ⟨some 10, .mov (.tmp 41), none⟩] [])
 (.seq (.region [
 ⟨some 43, .loadN 1 (.tmp 6), none⟩,
 ⟨some 44, .mov (.tmp 0), none⟩,
 ⟨some 45, .mov (.tmp 7), none⟩,
 ⟨some 46, .indexSl 4 (.tmp 44) (.tmp 45), none⟩,
 ⟨some 47, .loadN 4 (.tmp 46), none⟩,
 ⟨some 48, .call 31 #[(.tmp 43), (.tmp 47)], none⟩,
 ⟨some 42, .mov (.tmp 48), none⟩,
 ⟨some 49, .extract (.tmp 42) 0, none⟩,
 ⟨some 50, .extract (.tmp 42) 1, none⟩,
 ⟨some 51, .extract (.tmp 42) 2, none⟩,
 ⟨some 11, .alloc #[(.slice none 0 0)], none⟩,
 ⟨some 12, .alloc #[(.int .i64 0), (.bool false), (.int .u64 0)], none⟩,
 ⟨none, .store 1 (.tmp 11) (.tmp 49), none⟩,
 ⟨none, .store 3 (.tmp 12) (.tmp 50), none⟩,
 ⟨some 13, .mov (.tmp 51), none⟩] [])
 (.seq (.seq (.region [
 ⟨some 52, .mov (.tmp 10), none⟩,
 ⟨some 53, .mov (.tmp 13), none⟩,
 ⟨some 54, .bin .neq (.tmp 52) (.tmp 53), none⟩,
 ⟨some 55, .mov (.tmp 54), none⟩,
 ⟨some 56, .loadN 3 (.tmp 9), some (55, false)⟩,
 ⟨some 57, .loadN 3 (.tmp 12), some (55, false)⟩,
 ⟨some 58, .eqv true (.agg [.int, .bool, .int]) (.tmp 56) (.tmp 57), some (55, false)⟩,
 ⟨some 59, .pick (.tmp 55) (.const (.bool true)) (.tmp 58), none⟩,
 ⟨some 60, .mov (.tmp 59), none⟩,
 ⟨some 61, .mov (.tmp 10), some (60, false)⟩,
 ⟨some 62, .bin .neq (.tmp 61) (.const (.int .i64 0)), some (60, false)⟩,
 ⟨some 63, .mov (.tmp 62), some (60, false)⟩,
 ⟨some 64, .loadN 33 (.tmp 8), some (63, true)⟩,
 ⟨some 65, .build #[(.int .i64 0), (.int .u64 0), (.int .u64 0), (.int .u64 0), (.int .u64 0), (.int .u64 0), (.int .u64 0), (.int .u64 0), (.int .u64 0), (.int .u64 0), (.int .u64 0), (.int .u64 0), (.int .u64 0), (.int .u64 0), (.int .u64 0), (.int .u64 0), (.int .u64 0), (.int .u64 0), (.int .u64 0), (.int .u64 0), (.int .u64 0), (.int .u64 0), (.int .u64 0), (.int .u64 0), (.int .u64 0), (.int .u64 0), (.int .u64 0), (.int .u64 0), (.int .u64 0), (.int .u64 0), (.int .u64 0), (.int .u64 0), (.int .u64 0)] [], some (63, true)⟩,
 ⟨some 66, .eqv true (.agg [.int, .int, .int, .int, .int, .int, .int, .int, .int, .int, .int, .int, .int, .int, .int, .int, .int, .int, .int, .int, .int, .int, .int, .int, .int, .int, .int, .int, .int, .int, .int, .int, .int]) (.tmp 64) (.tmp 65), some (63, true)⟩,
 ⟨some 67, .pick (.tmp 63) (.tmp 66) (.const (.bool false)), some (60, false)⟩,
 ⟨some 68, .pick (.tmp 60) (.const (.bool true)) (.tmp 67), none⟩] [])
 (.cond (.tmp 68) (.seq (.region [
  ⟨some 4, .mov (.const (.bool false)), none⟩] [])
  .ret)
 .skip))
 (.seq (.seq (.region [
 ⟨some 69, .mov (.tmp 10), none⟩,
 ⟨some 70, .bin .eql (.tmp 69) (.const (.int .i64 0)), none⟩] [])
 (.cond (.tmp 70) (.seq (.region [
  ⟨some 71, .loadN 33 (.tmp 8), none⟩,
  ⟨none, .store 33 (.tmp 5) (.tmp 71), none⟩] [])
  (.region [
  ⟨some 72, .loadN 1 (.tmp 11), none⟩,
  ⟨none, .store 1 (.tmp 6) (.tmp 72), none⟩] []))
 .skip))
 (.seq (.region [
 ⟨some 74, .loadN 33 (.tmp 5), none⟩,
 ⟨some 75, .mov (.tmp 1), none⟩,
 ⟨some 76, .call 32 #[(.tmp 74), (.tmp 75)], none⟩,
 ⟨some 73, .mov (.tmp 76), none⟩,
 ⟨some 77, .extract (.tmp 73) 0, none⟩,
 ⟨some 78, .extract (.tmp 73) 1, none⟩,
 ⟨some 14, .mov (.tmp 77), none⟩,
 ⟨some 15, .mov (.tmp 78), none⟩] [])
 (.seq (.region [
 ⟨some 80, .loadN 1 (.tmp 6), none⟩,
 ⟨some 81, .mov (.tmp 1), none⟩,
 ⟨some 82, .call 33 #[(.tmp 80), (.tmp 81)], none⟩,
 ⟨some 79, .mov (.tmp 82), none⟩,
 ⟨some 83, .extract (.tmp 79) 0, none⟩,
 ⟨some 84, .extract (.tmp 79) 1, none⟩,
 ⟨some 16, .mov (.tmp 83), none⟩,
 ⟨some 17, .mov (.tmp 84), none⟩] [])
 (.seq (.region [
 ⟨some 85, .loadN 33 (.tmp 5), none⟩,
 ⟨some 86, .loadN 1 (.tmp 6), none⟩,
 ⟨some 87, .call 34 #[(.tmp 85), (.tmp 86)], none⟩,
 ⟨some 88, .un .not (.tmp 87), none⟩,
 ⟨some 89, .mov (.tmp 88), none⟩,
 ⟨some 90, .mov (.tmp 14), some (89, false)⟩,
 ⟨some 91, .mov (.tmp 16), some (89, false)⟩,
 ⟨some 92, .bin .neq (.tmp 90) (.tmp 91), some (89, false)⟩,
 ⟨some 93, .pick (.tmp 89) (.const (.bool true)) (.tmp 92), none⟩,
 ⟨some 94, .mov (.tmp 93), none⟩,
 ⟨some 95, .mov (.tmp 15), some (94, false)⟩,
 ⟨some 96, .mov (.tmp 17), some (94, false)⟩,
 ⟨some 97, .eqv true .bool (.tmp 95) (.tmp 96), some (94, false)⟩,
 ⟨some 98, .pick (.tmp 94) (.const (.bool true)) (.tmp 97), none⟩] [])
 (.cond (.tmp 98) (.seq (.region [
  ⟨some 4, .mov (.const (.bool false)), none⟩] [])
  .ret)
 .skip)))))))))
 (.region [
 ⟨some 30, .mov (.tmp 7), none⟩,
 ⟨some 31, .bin .add (.tmp 30) (.const (.int .i64 1)), none⟩,
 ⟨some 7, .mov (.tmp 31), none⟩] []))))))
 (.seq (.region [
 ⟨some 4, .mov (.const (.bool true)), none⟩] [])
 .ret)))))) }
theorem c6 : bfunc Try.prog 6 = some b6 := by kernel_rfl

/-- revenant/revenantlaw21.SpecApart -/
def b7 : BFunc := { ntmps := 97, results := [.tmp 6], body :=
 (.seq (.region [
 ⟨some 4, .box 4 (.tmp 1), none⟩,
 ⟨some 5, .box 4 (.tmp 2), none⟩,
 ⟨some 6, .mov (.const (.bool false)), none⟩] [])
 (.seq (.seq (.region [
 ⟨some 21, .call 29 #[], none⟩,
 ⟨some 22, .un .not (.tmp 21), none⟩] [])
 (.cond (.tmp 22) (.seq (.region [
  ⟨some 6, .mov (.const (.bool false)), none⟩] [])
  .ret)
 .skip))
 (.seq (.region [
 ⟨some 24, .mov (.tmp 0), none⟩,
 ⟨some 25, .call 35 #[(.tmp 24)], none⟩,
 ⟨some 23, .mov (.tmp 25), none⟩,
 ⟨some 26, .extract (.tmp 23) 0, none⟩,
 ⟨some 27, .extract (.tmp 23) 1, none⟩,
 ⟨some 7, .alloc #[(.int .i64 0), (.int .u64 0), (.int .u64 0), (.int .u64 0), (.int .u64 0), (.int .u64 0), (.int .u64 0), (.int .u64 0), (.int .u64 0), (.int .u64 0), (.int .u64 0), (.int .u64 0), (.int .u64 0), (.int .u64 0), (.int .u64 0), (.int .u64 0), (.int .u64 0), (.int .u64 0), (.int .u64 0), (.int .u64 0), (.int .u64 0), (.int .u64 0), (.int .u64 0), (.int .u64 0), (.int .u64 0), (.int .u64 0), (.int .u64 0), (.int .u64 0), (.int .u64 0), (.int .u64 0), (.int .u64 0), (.int .u64 0), (.int .u64 0)], none⟩,
 ⟨none, .store 33 (.tmp 7) (.tmp 26), none⟩,
 ⟨some 8, .mov (.tmp 27), none⟩] [])
 (.seq (.seq (.region [
 ⟨some 28, .mov (.tmp 8), none⟩,
 ⟨some 29, .bin .neq (.tmp 28) (.const (.int .i64 0)), none⟩,
 ⟨some 30, .mov (.tmp 29), none⟩,
 ⟨some 31, .mov (.tmp 0), some (30, false)⟩,
 ⟨some 32, .lenS (.tmp 31), some (30, false)⟩,
 ⟨some 33, .bin .gtr (.tmp 32) (.const (.int .i64 14)), some (30, false)⟩,
 ⟨some 34, .pick (.tmp 30) (.const (.bool true)) (.tmp 33), none⟩,
 ⟨some 35, .mov (.tmp 34), none⟩,
 ⟨some 36, .fieldAddr 1 (.tmp 4), some (35, false)⟩,
 ⟨some 37, .load1 (.tmp 36), some (35, false)⟩,
 ⟨some 38, .fieldAddr 1 (.tmp 5), some (35, false)⟩,
 ⟨some 39, .load1 (.tmp 38), some (35, false)⟩,
 ⟨some 40, .bin .eql (.tmp 37) (.tmp 39), some (35, false)⟩,
 ⟨some 41, .pick (.tmp 35) (.const (.bool true)) (.tmp 40), none⟩] [])
 (.cond (.tmp 41) (.seq (.region [
  ⟨some 6, .mov (.const (.bool true)), none⟩] [])
  .ret)
 .skip))
 (.seq (.region [
 ⟨some 43, .loadN 33 (.tmp 7), none⟩,
 ⟨some 44, .loadN 4 (.tmp 4), none⟩,
 ⟨some 45, .call 30 #[(.tmp 43), (.tmp 44)], none⟩,
 ⟨some 42, .mov (.tmp 45), none⟩,
 ⟨some 46, .extract (.tmp 42) 0, none⟩,
 ⟨some 47, .extract (.tmp 42) 1, none⟩,
 ⟨some 48, .extract (.tmp 42) 2, none⟩,
 ⟨some 9, .alloc #[(.int .i64 0), (.int .u64 0), (.int .u64 0), (.int .u64 0), (.int .u64 0), (.int .u64 0), (.int .u64 0), (.int .u64 0), (.int .u64 0), (.int .u64 0), (.int .u64 0), (.int .u64 0), (.int .u64 0), (.int .u64 0), (.int .u64 0), (.int .u64 0), (.int .u64 0), (.int .u64 0), (.int .u64 0), (.int .u64 0), (.int .u64 0), (.int .u64 0), (.int .u64 0), (.int .u64 0), (.int .u64 0), (.int .u64 0), (.int .u64 0), (.int .u64 0), (.int .u64 0), (.int .u64 0), (.int .u64 0), (.int .u64 0), (.int .u64 0)], none⟩,
 ⟨some 10, .alloc #[(.int .i64 0), (.bool false), (.int .u64 0)], none⟩,
 ⟨none, .store 33 (.tmp 9) (.tmp 46), none⟩,
 ⟨none, .store 3 (.tmp 10) (.tmp 47), none⟩,
 ⟨some 11, .mov (.tmp 48), none⟩] [])
 (.seq (.region [
 ⟨some 50, .loadN 33 (.tmp 7), none⟩,
 ⟨some 51, .loadN 4 (.tmp 5), none⟩,
 ⟨some 52, .call 30 #[(.tmp 50), (.tmp 51)], none⟩,
 ⟨some 49, .mov (.tmp 52), none⟩,
 ⟨some 53, .extract (.tmp 49) 0, none⟩,
 ⟨some 54, .extract (.tmp 49) 1, none⟩,
 ⟨some 55, .extract (.tmp 49) 2, none⟩,
 ⟨some 12, .alloc #[(.int .i64 0), (.int .u64 0), (.int .u64 0), (.int .u64 0), (.int .u64 0), (.int .u64 0), (.int .u64 0), (.int .u64 0), (.int .u64 0), (.int .u64 0), (.int .u64 0), (.int .u64 0), (.int .u64 0), (.int .u64 0), (.int .u64 0), (.int .u64 0), (.int .u64 0), (.int .u64 0), (.int .u64 0), (.int .u64 0), (.int .u64 0), (.int .u64 0), (.int .u64 0), (.int .u64 0), (.int .u64 0), (.int .u64 0), (.int .u64 0), (.int .u64 0), (.int .u64 0), (.int .u64 0), (.int .u64 0), (.int .u64 0), (.int .u64 0)], none⟩,
 ⟨some 13, .alloc #[(.int .i64 0), (.bool false), (.int .u64 0)], none⟩,
 ⟨none, .store 33 (.tmp 12) (.tmp 53), none⟩,
 ⟨none, .store 3 (.tmp 13) (.tmp 54), none⟩,
 ⟨some 14, .mov (.tmp 55), none⟩] [])
 (.seq (.seq (.region [
 ⟨some 56, .mov (.tmp 11), none⟩,
 ⟨some 57, .bin .neq (.tmp 56) (.const (.int .i64 0)), none⟩,
 ⟨some 58, .mov (.tmp 57), none⟩,
 ⟨some 59, .mov (.tmp 14), some (58, false)⟩,
 ⟨some 60, .bin .neq (.tmp 59) (.const (.int .i64 0)), some (58, false)⟩,
 ⟨some 61, .pick (.tmp 58) (.const (.bool true)) (.tmp 60), none⟩] [])
 (.cond (.tmp 61) (.seq (.region [
  ⟨some 6, .mov (.const (.bool true)), none⟩] [])
  .ret)
 .skip))
 (.seq (.region [
 ⟨some 63, .loadN 33 (.tmp 9), none⟩,
 ⟨some 64, .loadN 4 (.tmp 5), none⟩,
 ⟨some 65, .call 30 #[(.tmp 63), (.tmp 64)], none⟩,
 ⟨some 62, .mov (.tmp 65), none⟩,
 ⟨some 66, .extract (.tmp 62) 0, none⟩,
 ⟨some 67, .extract (.tmp 62) 1, none⟩,
 ⟨some 68, .extract (.tmp 62) 2, none⟩,
 ⟨some 15, .alloc #[(.int .i64 0), (.int .u64 0), (.int .u64 0), (.int .u64 0), (.int .u64 0), (.int .u64 0), (.int .u64 0), (.int .u64 0), (.int .u64 0), (.int .u64 0), (.int .u64 0), (.int .u64 0), (.int .u64 0), (.int .u64 0), (.int .u64 0), (.int .u64 0), (.int .u64 0), (.int .u64 0), (.int .u64 0), (.int .u64 0), (.int .u64 0), (.int .u64 0), (.int .u64 0), (.int .u64 0), (.int .u64 0), (.int .u64 0), (.int .u64 0), (.int .u64 0), (.int .u64 0), (.int .u64 0), (.int .u64 0), (.int .u64 0), (.int .u64 0)], none⟩,
 ⟨some 16, .alloc #[(.int .i64 0), (.bool false), (.int .u64 0)], none⟩,
 ⟨none, .store 33 (.tmp 15) (.tmp 66), none⟩,
 ⟨none, .store 3 (.tmp 16) (.tmp 67), none⟩,
 ⟨some 17, .mov (.tmp 68), none⟩] [])
 (.seq (.region [
 ⟨some 70, .loadN 33 (.tmp 12), none⟩,
 ⟨some 71, .loadN 4 (.tmp 4), none⟩,
 ⟨some 72, .call 30 #[(.tmp 70), (.tmp 71)], none⟩,
 ⟨some 69, .mov (.tmp 72), none⟩,
 ⟨some 73, .extract (.tmp 69) 0, none⟩,
 ⟨some 74, .extract (.tmp 69) 1, none⟩,
 ⟨some 75, .extract (.tmp 69) 2, none⟩,
 ⟨some 18, .alloc #[(.int .i64 0), (.int .u64 0), (.int .u64 0), (.int .u64 0), (.int .u64 0), (.int .u64 0), (.int .u64 0), (.int .u64 0), (.int .u64 0), (.int .u64 0), (.int .u64 0), (.int .u64 0), (.int .u64 0), (.int .u64 0), (.int .u64 0), (.int .u64 0), (.int .u64 0), (.int .u64 0), (.int .u64 0), (.int .u64 0), (.int .u64 0), (.int .u64 0), (.int .u64 0), (.int .u64 0), (.int .u64 0), (.int .u64 0), (.int .u64 0), (.int .u64 0), (.int .u64 0), (.int .u64 0), (.int .u64 0), (.int .u64 0), (.int .u64 0)], none⟩,
 ⟨some 19, .alloc #[(.int .i64 0), (.bool false), (.int .u64 0)], none⟩,
 ⟨none, .store 33 (.tmp 18) (.tmp 73), none⟩,
 ⟨none, .store 3 (.tmp 19) (.tmp 74), none⟩,
 ⟨some 20, .mov (.tmp 75), none⟩] [])
 (.seq (.region [
 ⟨some 76, .mov (.tmp 17), none⟩,
 ⟨some 77, .bin .eql (.tmp 76) (.const (.int .i64 0)), none⟩,
 ⟨some 78, .mov (.tmp 77), none⟩,
 ⟨some 79, .mov (.tmp 20), some (78, true)⟩,
 ⟨some 80, .bin .eql (.tmp 79) (.const (.int .i64 0)), some (78, true)⟩,
 ⟨some 81, .pick (.tmp 78) (.tmp 80) (.const (.bool false)), none⟩,
 ⟨some 82, .mov (.tmp 81), none⟩,
 ⟨some 83, .loadN 33 (.tmp 15), some (82, true)⟩,
 ⟨some 84, .loadN 33 (.tmp 18), some (82, true)⟩,
 ⟨some 85, .eqv false (.agg [.int, .int, .int, .int, .int, .int, .int, .int, .int, .int, .int, .int, .int, .int, .int, .int, .int, .int, .int, .int, .int, .int, .int, .int, .int, .int, .int, .int, .int, .int, .int, .int, .int]) (.tmp 83) (.tmp 84), some (82, true)⟩,
 ⟨some 86, .pick (.tmp 82) (.tmp 85) (.const (.bool false)), none⟩,
 ⟨some 87, .mov (.tmp 86), none⟩,
 ⟨some 88, .loadN 3 (.tmp 10), some (87, true)⟩,
 ⟨some 89, .loadN 3 (.tmp 19), some (87, true)⟩,
 ⟨some 90, .eqv false (.agg [.int, .bool, .int]) (.tmp 88) (.tmp 89), some (87, true)⟩,
 ⟨some 91, .pick (.tmp 87) (.tmp 90) (.const (.bool false)), none⟩,
 ⟨some 92, .mov (.tmp 91), none⟩,
 ⟨some 93, .loadN 3 (.tmp 13), some (92, true)⟩,
 ⟨some 94, .loadN 3 (.tmp 16), some (92, true)⟩,
 ⟨some 95, .eqv false (.agg [.int, .bool, .int]) (.tmp 93) (.tmp 94), some (92, true)⟩,
 ⟨some 96, .pick (.tmp 92) (.tmp 95) (.const (.bool false)), none⟩,
 ⟨some 6, .mov (.tmp 96), none⟩] [])
 .ret)))))))))) }
theorem c7 : bfunc Try.prog 7 = some b7 := by kernel_rfl

/-- revenant/revenantlaw21.SpecValues -/
def b8 : BFunc := { ntmps := 144, results := [.tmp 6], body :=
 (.seq (.region [
 ⟨some 5, .box 2 (.tmp 2), none⟩,
 ⟨some 6, .mov (.const (.bool false)), none⟩] [])
 (.seq (.seq (.region [
 ⟨some 19, .call 29 #[], none⟩,
 ⟨some 20, .un .not (.tmp 19), none⟩] [])
 (.cond (.tmp 20) (.seq (.region [
  ⟨some 6, .mov (.const (.bool false)), none⟩] [])
  .ret)
 .skip))
 (.seq (.region [
 ⟨some 22, .mov (.tmp 0), none⟩,
 ⟨some 23, .call 35 #[(.tmp 22)], none⟩,
 ⟨some 21, .mov (.tmp 23), none⟩,
 ⟨some 24, .extract (.tmp 21) 0, none⟩,
 ⟨some 25, .extract (.tmp 21) 1, none⟩,
 ⟨some 7, .alloc #[(.int .i64 0), (.int .u64 0), (.int .u64 0), (.int .u64 0), (.int .u64 0), (.int .u64 0), (.int .u64 0), (.int .u64 0), (.int .u64 0), (.int .u64 0), (.int .u64 0), (.int .u64 0), (.int .u64 0), (.int .u64 0), (.int .u64 0), (.int .u64 0), (.int .u64 0), (.int .u64 0), (.int .u64 0), (.int .u64 0), (.int .u64 0), (.int .u64 0), (.int .u64 0), (.int .u64 0), (.int .u64 0), (.int .u64 0), (.int .u64 0), (.int .u64 0), (.int .u64 0), (.int .u64 0), (.int .u64 0), (.int .u64 0), (.int .u64 0)], none⟩,
 ⟨none, .store 33 (.tmp 7) (.tmp 24), none⟩,
 ⟨some 8, .mov (.tmp 25), none⟩] [])
 (.seq (.seq (.region [
 ⟨some 26, .mov (.tmp 8), none⟩,
 ⟨some 27, .bin .neq (.tmp 26) (.const (.int .i64 0)), none⟩] [])
 (.cond (.tmp 27) (.seq (.region [
  ⟨some 6, .mov (.const (.bool true)), none⟩] [])
  .ret)
 .skip))
 (.seq (.region [
 ⟨some 28, .buildSlice #[] 0 [], none⟩,
 ⟨some 29, .mov (.tmp 0), none⟩,
 ⟨some 30, .append 2 16 #[(.int .u64 0), (.int .u64 0)] (.tmp 28) (.tmp 29), none⟩,
 ⟨some 9, .mov (.tmp 30), none⟩] [])
 (.seq (.region [
 ⟨some 31, .build #[(.int .i64 0), (.int .u64 0), (.int .u64 0), (.int .u64 0), (.int .u64 0), (.int .u64 0), (.int .u64 0), (.int .u64 0), (.int .u64 0), (.int .u64 0), (.int .u64 0), (.int .u64 0), (.int .u64 0), (.int .u64 0), (.int .u64 0), (.int .u64 0), (.int .u64 0), (.int .u64 0), (.int .u64 0), (.int .u64 0), (.int .u64 0), (.int .u64 0), (.int .u64 0), (.int .u64 0), (.int .u64 0), (.int .u64 0), (.int .u64 0), (.int .u64 0), (.int .u64 0), (.int .u64 0), (.int .u64 0), (.int .u64 0), (.int .u64 0)] [], none⟩,
 ⟨some 10, .alloc #[(.int .i64 0), (.int .u64 0), (.int .u64 0), (.int .u64 0), (.int .u64 0), (.int .u64 0), (.int .u64 0), (.int .u64 0), (.int .u64 0), (.int .u64 0), (.int .u64 0), (.int .u64 0), (.int .u64 0), (.int .u64 0), (.int .u64 0), (.int .u64 0), (.int .u64 0), (.int .u64 0), (.int .u64 0), (.int .u64 0), (.int .u64 0), (.int .u64 0), (.int .u64 0), (.int .u64 0), (.int .u64 0), (.int .u64 0), (.int .u64 0), (.int .u64 0), (.int .u64 0), (.int .u64 0), (.int .u64 0), (.int .u64 0), (.int .u64 0)], none⟩,
 ⟨none, .store 33 (.tmp 10) (.tmp 31), none⟩] [])
 (.seq (.seq (.region [
 ⟨some 11, .mov (.const (.int .i64 0)), none⟩] [])
 (.block 0 (.loop (.seq (.seq (.region [
 ⟨some 32, .mov (.tmp 9), none⟩,
 ⟨some 33, .lenS (.tmp 32), none⟩,
 ⟨some 34, .bin .gtr (.tmp 33) (.const (.int .i64 0)), none⟩] [])
 (.cond (.tmp 34) .skip
 (.exit 0)))
 (.seq (.block 1 (.seq (.region [
 ⟨some 12, .mov (.const (.int .i64 0)), none⟩] [])
 (.seq (.seq (.region [
 ⟨some 37, .mov (.tmp 11), none⟩,
 ⟨some 38, .mov (.tmp 1), none⟩,
 ⟨some 39, .lenS (.tmp 38), none⟩,
 ⟨some 40, .bin .lss (.tmp 37) (.tmp 39), none⟩] [])
 (.cond (.tmp 40) (.region [
  ⟨some 41, .mov (.tmp 1), none⟩,
  ⟨some 42, .mov (.tmp 11), none⟩,
  ⟨some 43, .indexSl 1 (.tmp 41) (.tmp 42), none⟩,
  ⟨some 44, .load1 (.tmp 43), none⟩,
  ⟨some 45, .conv .u64 (.tmp 44), none⟩,
  ⟨some 46, .mov (.tmp 9), none⟩,
  ⟨some 47, .lenS (.tmp 46), none⟩,
  ⟨some 48, .conv .u64 (.tmp 47), none⟩,
  ⟨some 49, .bin .rem (.tmp 45) (.tmp 48), none⟩,
  ⟨some 50, .conv .i64 (.tmp 49), none⟩,
  ⟨some 12, .mov (.tmp 50), none⟩] [])
 .skip))
 (.seq (.region [
 ⟨some 52, .loadN 33 (.tmp 10), none⟩,
 ⟨some 53, .mov (.tmp 9), none⟩,
 ⟨some 54, .mov (.tmp 12), none⟩,
 ⟨some 55, .indexSl 2 (.tmp 53) (.tmp 54), none⟩,
 ⟨some 56, .loadN 2 (.tmp 55), none⟩,
 ⟨some 57, .call 36 #[(.tmp 52), (.tmp 56)], none⟩,
 ⟨some 51, .mov (.tmp 57), none⟩,
 ⟨some 58, .extract (.tmp 51) 0, none⟩,
 ⟨some 59, .extract (.tmp 51) 1, none⟩,
 ⟨none, .store 33 (.tmp 10) (.tmp 58), none⟩,
 ⟨some 8, .mov (.tmp 59), none⟩] [])
 (.seq (.seq (.region [
 ⟨some 60, .mov (.tmp 8), none⟩,
 ⟨some 61, .bin .neq (.tmp 60) (.const (.int .i64 0)), none⟩] [])
 (.cond (.tmp 61) (.seq (.region [
  ⟨some 6, .mov (.const (.bool false)), none⟩] [])
  .ret)
 .skip))
 (.region [
 ⟨some 62, .buildSlice #[] 0 [], none⟩,
 ⟨some 63, .mov (.tmp 9), none⟩,
 ⟨some 64, .mov (.tmp 12), none⟩,
 ⟨some 65, .slice 2 (.tmp 63) none (some (.tmp 64)), none⟩,
 ⟨some 66, .append 2 16 #[(.int .u64 0), (.int .u64 0)] (.tmp 62) (.tmp 65), none⟩,
 ⟨some 67, .mov (.tmp 9), none⟩,
 ⟨some 68, .mov (.tmp 12), none⟩,
 ⟨some 69, .bin .add (.tmp 68) (.const (.int .i64 1)), none⟩,
 ⟨some 70, .slice 2 (.tmp 67) (some (.tmp 69)) none, none⟩,
 ⟨some 71, .append 2 16 #[(.int .u64 0), (.int .u64 0)] (.tmp 66) (.tmp 70), none⟩,
 ⟨some 9, .mov (.tmp 71), none⟩] [(8, 0)]))))))
 (.region [
 ⟨some 35, .mov (.tmp 11), none⟩,
 ⟨some 36, .bin .add (.tmp 35) (.const (.int .i64 1)), none⟩,
 ⟨some 11, .mov (.tmp 36), none⟩] []))))))
 (.seq (.region [
 ⟨some 72, .makeMap, none⟩,
 ⟨some 13, .mov (.tmp 72), none⟩] [])
 (.seq (.region [
 ⟨some 73, .mov (.tmp 13), none⟩,
 ⟨some 74, .loadN 33 (.tmp 7), none⟩,
 ⟨none, .mapUpdate (.agg [.int, .int, .int, .int, .int, .int, .int, .int, .int, .int, .int, .int, .int, .int, .int, .int, .int, .int, .int, .int, .int, .int, .int, .int, .int, .int, .int, .int, .int, .int, .int, .int, .int]) (.tmp 73) (.tmp 74) (.const (.int .i64 1)), none⟩] [])
 (.seq (.region [
 ⟨some 76, .loadN 33 (.tmp 7), none⟩,
 ⟨some 77, .fieldAddr 0 (.tmp 5), none⟩,
 ⟨some 78, .load1 (.tmp 77), none⟩,
 ⟨some 79, .call 32 #[(.tmp 76), (.tmp 78)], none⟩,
 ⟨some 75, .mov (.tmp 79), none⟩,
 ⟨some 80, .extract (.tmp 75) 0, none⟩,
 ⟨some 81, .extract (.tmp 75) 1, none⟩,
 ⟨some 14, .mov (.tmp 80), none⟩,
 ⟨some 15, .mov (.tmp 81), none⟩] [])
 (.seq (.region [
 ⟨some 83, .loadN 33 (.tmp 7), none⟩,
 ⟨some 84, .loadN 2 (.tmp 5), none⟩,
 ⟨some 85, .call 36 #[(.tmp 83), (.tmp 84)], none⟩,
 ⟨some 82, .mov (.tmp 85), none⟩,
 ⟨some 86, .extract (.tmp 82) 0, none⟩,
 ⟨some 87, .extract (.tmp 82) 1, none⟩,
 ⟨some 16, .alloc #[(.int .i64 0), (.int .u64 0), (.int .u64 0), (.int .u64 0), (.int .u64 0), (.int .u64 0), (.int .u64 0), (.int .u64 0), (.int .u64 0), (.int .u64 0), (.int .u64 0), (.int .u64 0), (.int .u64 0), (.int .u64 0), (.int .u64 0), (.int .u64 0), (.int .u64 0), (.int .u64 0), (.int .u64 0), (.int .u64 0), (.int .u64 0), (.int .u64 0), (.int .u64 0), (.int .u64 0), (.int .u64 0), (.int .u64 0), (.int .u64 0), (.int .u64 0), (.int .u64 0), (.int .u64 0), (.int .u64 0), (.int .u64 0), (.int .u64 0)], none⟩,
 ⟨none, .store 33 (.tmp 16) (.tmp 86), none⟩,
 ⟨some 17, .mov (.tmp 87), none⟩] [])
 (.seq (.seq (.region [
 ⟨some 88, .mov (.tmp 17), none⟩,
 ⟨some 89, .bin .neq (.tmp 88) (.const (.int .i64 0)), none⟩] [])
 (.cond (.tmp 89) (.seq (.region [
  ⟨some 90, .loadN 33 (.tmp 7), none⟩,
  ⟨some 91, .loadN 33 (.tmp 10), none⟩,
  ⟨some 92, .eqv false (.agg [.int, .int, .int, .int, .int, .int, .int, .int, .int, .int, .int, .int, .int, .int, .int, .int, .int, .int, .int, .int, .int, .int, .int, .int, .int, .int, .int, .int, .int, .int, .int, .int, .int]) (.tmp 90) (.tmp 91), none⟩,
  ⟨some 93, .mov (.tmp 92), none⟩,
  ⟨some 94, .mov (.tmp 13), some (93, true)⟩,
  ⟨some 95, .loadN 33 (.tmp 10), some (93, true)⟩,
  ⟨some 96, .lookup (.agg [.int, .int, .int, .int, .int, .int, .int, .int, .int, .int, .int, .int, .int, .int, .int, .int, .int, .int, .int, .int, .int, .int, .int, .int, .int, .int, .int, .int, .int, .int, .int, .int, .int]) (.int .i64 0) false (.tmp 94) (.tmp 95), some (93, true)⟩,
  ⟨some 97, .bin .eql (.tmp 96) (.const (.int .i64 1)), some (93, true)⟩,
  ⟨some 98, .pick (.tmp 93) (.tmp 97) (.const (.bool false)), none⟩,
  ⟨some 6, .mov (.tmp 98), none⟩] [])
  .ret)
 .skip))
 (.seq (.region [
 ⟨some 99, .loadN 33 (.tmp 16), none⟩,
 ⟨some 100, .fieldAddr 0 (.tmp 5), none⟩,
 ⟨some 101, .load1 (.tmp 100), none⟩,
 ⟨some 102, .call 37 #[(.tmp 99), (.tmp 101)], none⟩,
 ⟨some 18, .alloc #[(.int .i64 0), (.int .u64 0), (.int .u64 0), (.int .u64 0), (.int .u64 0), (.int .u64 0), (.int .u64 0), (.int .u64 0), (.int .u64 0), (.int .u64 0), (.int .u64 0), (.int .u64 0), (.int .u64 0), (.int .u64 0), (.int .u64 0), (.int .u64 0), (.int .u64 0), (.int .u64 0), (.int .u64 0), (.int .u64 0), (.int .u64 0), (.int .u64 0), (.int .u64 0), (.int .u64 0), (.int .u64 0), (.int .u64 0), (.int .u64 0), (.int .u64 0), (.int .u64 0), (.int .u64 0), (.int .u64 0), (.int .u64 0), (.int .u64 0)], none⟩,
 ⟨none, .store 33 (.tmp 18) (.tmp 102), none⟩] [])
 (.seq (.seq (.region [
 ⟨some 103, .mov (.tmp 15), none⟩] [])
 (.cond (.tmp 103) (.region [
  ⟨some 105, .loadN 33 (.tmp 18), none⟩,
  ⟨some 106, .fieldAddr 0 (.tmp 5), none⟩,
  ⟨some 107, .load1 (.tmp 106), none⟩,
  ⟨some 108, .mov (.tmp 14), none⟩,
  ⟨some 109, .build #[(.int .u64 0), (.int .u64 0)] [(0, 1, (.tmp 107)), (1, 1, (.tmp 108))], none⟩,
  ⟨some 110, .call 36 #[(.tmp 105), (.tmp 109)], none⟩,
  ⟨some 104, .mov (.tmp 110), none⟩,
  ⟨some 111, .extract (.tmp 104) 0, none⟩,
  ⟨some 112, .extract (.tmp 104) 1, none⟩,
  ⟨none, .store 33 (.tmp 18) (.tmp 111), none⟩,
  ⟨some 17, .mov (.tmp 112), none⟩] [])
 .skip))
 (.seq (.region [
 ⟨some 113, .loadN 33 (.tmp 7), none⟩,
 ⟨some 114, .loadN 33 (.tmp 10), none⟩,
 ⟨some 115, .eqv false (.agg [.int, .int, .int, .int, .int, .int, .int, .int, .int, .int, .int, .int, .int, .int, .int, .int, .int, .int, .int, .int, .int, .int, .int, .int, .int, .int, .int, .int, .int, .int, .int, .int, .int]) (.tmp 113) (.tmp 114), none⟩,
 ⟨some 116, .mov (.tmp 115), none⟩,
 ⟨some 117, .mov (.tmp 13), some (116, true)⟩,
 ⟨some 118, .loadN 33 (.tmp 10), some (116, true)⟩,
 ⟨some 119, .lookup (.agg [.int, .int, .int, .int, .int, .int, .int, .int, .int, .int, .int, .int, .int, .int, .int, .int, .int, .int, .int, .int, .int, .int, .int, .int, .int, .int, .int, .int, .int, .int, .int, .int, .int]) (.int .i64 0) false (.tmp 117) (.tmp 118), some (116, true)⟩,
 ⟨some 120, .bin .eql (.tmp 119) (.const (.int .i64 1)), some (116, true)⟩,
 ⟨some 121, .pick (.tmp 116) (.tmp 120) (.const (.bool false)), none⟩,
 ⟨some 122, .mov (.tmp 121), none⟩,
 ⟨some 123, .mov (.tmp 17), some (122, true)⟩,
 ⟨some 124, .bin .eql (.tmp 123) (.const (.int .i64 0)), some (122, true)⟩,
 ⟨some 125, .pick (.tmp 122) (.tmp 124) (.const (.bool false)), none⟩,
 ⟨some 126, .mov (.tmp 125), none⟩,
 ⟨some 127, .loadN 33 (.tmp 18), some (126, true)⟩,
 ⟨some 128, .loadN 33 (.tmp 7), some (126, true)⟩,
 ⟨some 129, .eqv false (.agg [.int, .int, .int, .int, .int, .int, .int, .int, .int, .int, .int, .int, .int, .int, .int, .int, .int, .int, .int, .int, .int, .int, .int, .int, .int, .int, .int, .int, .int, .int, .int, .int, .int]) (.tmp 127) (.tmp 128), some (126, true)⟩,
 ⟨some 130, .pick (.tmp 126) (.tmp 129) (.const (.bool false)), none⟩,
 ⟨some 131, .mov (.tmp 130), none⟩,
 ⟨some 132, .loadN 33 (.tmp 16), some (131, true)⟩,
 ⟨some 133, .loadN 33 (.tmp 7), some (131, true)⟩,
 ⟨some 134, .eqv false (.agg [.int, .int, .int, .int, .int, .int, .int, .int, .int, .int, .int, .int, .int, .int, .int, .int, .int, .int, .int, .int, .int, .int, .int, .int, .int, .int, .int, .int, .int, .int, .int, .int, .int]) (.tmp 132) (.tmp 133), some (131, true)⟩,
 ⟨some 135, .mov (.tmp 15), some (131, true)⟩,
 ⟨some 136, .mov (.tmp 135), some (131, true)⟩,
 ⟨some 137, .mov (.tmp 14), some (136, true)⟩,
 ⟨some 138, .fieldAddr 1 (.tmp 5), some (136, true)⟩,
 ⟨some 139, .load1 (.tmp 138), some (136, true)⟩,
 ⟨some 140, .bin .eql (.tmp 137) (.tmp 139), some (136, true)⟩,
 ⟨some 141, .pick (.tmp 136) (.tmp 140) (.const (.bool false)), some (131, true)⟩,
 ⟨some 142, .eqv false .bool (.tmp 134) (.tmp 141), some (131, true)⟩,
 ⟨some 143, .pick (.tmp 131) (.tmp 142) (.const (.bool false)), none⟩,
 ⟨some 6, .mov (.tmp 143), none⟩] [])
 .ret))))))))))))))) }
theorem c8 : bfunc Try.prog 8 = some b8 := by kernel_rfl

/-- revenant/revenantlaw21.SpecMay -/
def b9 : BFunc := { ntmps := 73, results := [.tmp 6], body :=
 (.seq (.region [
 ⟨some 4, .box 4 (.tmp 1), none⟩,
 ⟨some 5, .box 3 (.tmp 2), none⟩,
 ⟨some 6, .mov (.const (.bool false)), none⟩] [])
 (.seq (.seq (.region [
 ⟨some 15, .call 29 #[], none⟩,
 ⟨some 16, .un .not (.tmp 15), none⟩] [])
 (.cond (.tmp 16) (.seq (.region [
  ⟨some 6, .mov (.const (.bool false)), none⟩] [])
  .ret)
 .skip))
 (.seq (.region [
 ⟨some 18, .mov (.tmp 0), none⟩,
 ⟨some 19, .call 35 #[(.tmp 18)], none⟩,
 ⟨some 17, .mov (.tmp 19), none⟩,
 ⟨some 20, .extract (.tmp 17) 0, none⟩,
 ⟨some 21, .extract (.tmp 17) 1, none⟩,
 ⟨some 7, .alloc #[(.int .i64 0), (.int .u64 0), (.int .u64 0), (.int .u64 0), (.int .u64 0), (.int .u64 0), (.int .u64 0), (.int .u64 0), (.int .u64 0), (.int .u64 0), (.int .u64 0), (.int .u64 0), (.int .u64 0), (.int .u64 0), (.int .u64 0), (.int .u64 0), (.int .u64 0), (.int .u64 0), (.int .u64 0), (.int .u64 0), (.int .u64 0), (.int .u64 0), (.int .u64 0), (.int .u64 0), (.int .u64 0), (.int .u64 0), (.int .u64 0), (.int .u64 0), (.int .u64 0), (.int .u64 0), (.int .u64 0), (.int .u64 0), (.int .u64 0)], none⟩,
 ⟨none, .store 33 (.tmp 7) (.tmp 20), none⟩,
 ⟨some 8, .mov (.tmp 21), none⟩] [])
 (.seq (.seq (.region [
 ⟨some 22, .mov (.tmp 8), none⟩,
 ⟨some 23, .bin .neq (.tmp 22) (.const (.int .i64 0)), none⟩] [])
 (.cond (.tmp 23) (.seq (.region [
  ⟨some 6, .mov (.const (.bool true)), none⟩] [])
  .ret)
 .skip))
 (.seq (.region [
 ⟨some 24, .build #[(.slice none 0 0)] [], none⟩,
 ⟨some 9, .alloc #[(.slice none 0 0)], none⟩,
 ⟨none, .store 1 (.tmp 9) (.tmp 24), none⟩] [])
 (.seq (.seq (.region [
 ⟨some 10, .mov (.const (.int .i64 0)), none⟩] [])
 (.block 0 (.loop (.seq (.seq (.region [
 ⟨some 25, .mov (.tmp 10), none⟩,
 ⟨some 26, .mov (.tmp 0), none⟩,
 ⟨some 27, .lenS (.tmp 26), none⟩,
 ⟨some 28, .bin .lss (.tmp 25) (.tmp 27), none⟩] [])
 (.cond (.tmp 28) .skip
 (.exit 0)))
 (.seq (.block 1 (.region [
 ⟨some 31, .loadN 1 (.tmp 9), none⟩,
 ⟨some 32, .mov (.tmp 0), none⟩,
 ⟨some 33, .mov (.tmp 10), none⟩,
 ⟨some 34, .indexSl 2 (.tmp 32) (.tmp 33), none⟩,
 ⟨some 35, .fieldAddr 0 (.tmp 34), none⟩,
 ⟨some 36, .load1 (.tmp 35), none⟩,
 ⟨some 37, .mov (.tmp 0), none⟩,
 ⟨some 38, .mov (.tmp 10), none⟩,
 ⟨some 39, .indexSl 2 (.tmp 37) (.tmp 38), none⟩,
 ⟨some 40, .fieldAddr 1 (.tmp 39), none⟩,
 ⟨some 41, .load1 (.tmp 40), none⟩,
 ⟨some 42, .build #[(.int .u64 0), (.int .u64 0)] [(0, 1, (.tmp 36)), (1, 1, (.tmp 41))], none⟩,
 ⟨some 43, .call 38 #[(.tmp 31), (.tmp 42)], none⟩,
 ⟨none, .store 1 (.tmp 9) (.tmp 43), none⟩] []))
 (.region [
 ⟨some 29, .mov (.tmp 10), none⟩,
 ⟨some 30, .bin .add (.tmp 29) (.const (.int .i64 1)), none⟩,
 ⟨some 10, .mov (.tmp 30), none⟩] []))))))
 (.seq (.region [
 ⟨some 45, .loadN 33 (.tmp 7), none⟩,
 ⟨some 46, .loadN 4 (.tmp 4), none⟩,
 ⟨some 47, .loadN 3 (.tmp 5), none⟩,
 ⟨some 48, .call 39 #[(.tmp 45), (.tmp 46), (.tmp 47)], none⟩,
 ⟨some 44, .mov (.tmp 48), none⟩,
 ⟨some 49, .extract (.tmp 44) 0, none⟩,
 ⟨some 50, .extract (.tmp 44) 1, none⟩,
 ⟨some 11, .alloc #[(.int .i64 0), (.int .u64 0), (.int .u64 0), (.int .u64 0), (.int .u64 0), (.int .u64 0), (.int .u64 0), (.int .u64 0), (.int .u64 0), (.int .u64 0), (.int .u64 0), (.int .u64 0), (.int .u64 0), (.int .u64 0), (.int .u64 0), (.int .u64 0), (.int .u64 0), (.int .u64 0), (.int .u64 0), (.int .u64 0), (.int .u64 0), (.int .u64 0), (.int .u64 0), (.int .u64 0), (.int .u64 0), (.int .u64 0), (.int .u64 0), (.int .u64 0), (.int .u64 0), (.int .u64 0), (.int .u64 0), (.int .u64 0), (.int .u64 0)], none⟩,
 ⟨none, .store 33 (.tmp 11) (.tmp 49), none⟩,
 ⟨some 12, .mov (.tmp 50), none⟩] [])
 (.seq (.region [
 ⟨some 52, .loadN 1 (.tmp 9), none⟩,
 ⟨some 53, .loadN 4 (.tmp 4), none⟩,
 ⟨some 54, .loadN 3 (.tmp 5), none⟩,
 ⟨some 55, .call 40 #[(.tmp 52), (.tmp 53), (.tmp 54)], none⟩,
 ⟨some 51, .mov (.tmp 55), none⟩,
 ⟨some 56, .extract (.tmp 51) 0, none⟩,
 ⟨some 57, .extract (.tmp 51) 1, none⟩,
 ⟨some 13, .alloc #[(.slice none 0 0)], none⟩,
 ⟨none, .store 1 (.tmp 13) (.tmp 56), none⟩,
 ⟨some 14, .mov (.tmp 57), none⟩] [])
 (.seq (.seq (.region [
 ⟨some 58, .mov (.tmp 14), none⟩,
 ⟨some 59, .un .not (.tmp 58), none⟩] [])
 (.cond (.tmp 59) (.seq (.region [
  ⟨some 60, .mov (.tmp 12), none⟩,
  ⟨some 61, .un .not (.tmp 60), none⟩,
  ⟨some 62, .mov (.tmp 61), none⟩,
  ⟨some 63, .loadN 33 (.tmp 11), some (62, true)⟩,
  ⟨some 64, .build #[(.int .i64 0), (.int .u64 0), (.int .u64 0), (.int .u64 0), (.int .u64 0), (.int .u64 0), (.int .u64 0), (.int .u64 0), (.int .u64 0), (.int .u64 0), (.int .u64 0), (.int .u64 0), (.int .u64 0), (.int .u64 0), (.int .u64 0), (.int .u64 0), (.int .u64 0), (.int .u64 0), (.int .u64 0), (.int .u64 0), (.int .u64 0), (.int .u64 0), (.int .u64 0), (.int .u64 0), (.int .u64 0), (.int .u64 0), (.int .u64 0), (.int .u64 0), (.int .u64 0), (.int .u64 0), (.int .u64 0), (.int .u64 0), (.int .u64 0)] [], some (62, true)⟩,
  ⟨some 65, .eqv false (.agg [.int, .int, .int, .int, .int, .int, .int, .int, .int, .int, .int, .int, .int, .int, .int, .int, .int, .int, .int, .int, .int, .int, .int, .int, .int, .int, .int, .int, .int, .int, .int, .int, .int]) (.tmp 63) (.tmp 64), some (62, true)⟩,
  ⟨some 66, .pick (.tmp 62) (.tmp 65) (.const (.bool false)), none⟩,
  ⟨some 6, .mov (.tmp 66), none⟩] [])
  .ret)
 .skip))
 (.seq (.region [
 ⟨some 67, .mov (.tmp 12), none⟩,
 ⟨some 68, .mov (.tmp 67), none⟩,
 ⟨some 69, .loadN 33 (.tmp 11), some (68, true)⟩,
 ⟨some 70, .loadN 1 (.tmp 13), some (68, true)⟩,
 ⟨some 71, .call 34 #[(.tmp 69), (.tmp 70)], some (68, true)⟩,
 ⟨some 72, .pick (.tmp 68) (.tmp 71) (.const (.bool false)), none⟩,
 ⟨some 6, .mov (.tmp 72), none⟩] [])
 .ret)))))))))) }
theorem c9 : bfunc Try.prog 9 = some b9 := by kernel_rfl

/-- revenant/revenantlaw21.SpecPairs -/
def b10 : BFunc := { ntmps := 128, results := [.tmp 4], body :=
 (.seq (.region [
 ⟨some 3, .box 2 (.tmp 1), none⟩,
 ⟨some 4, .mov (.const (.bool false)), none⟩] [])
 (.seq (.seq (.region [
 ⟨some 15, .call 29 #[], none⟩,
 ⟨some 16, .un .not (.tmp 15), none⟩] [])
 (.cond (.tmp 16) (.seq (.region [
  ⟨some 4, .mov (.const (.bool false)), none⟩] [])
  .ret)
 .skip))
 (.seq (.seq (.region [
 ⟨some 17, .mov (.tmp 0), none⟩,
 ⟨some 18, .lenS (.tmp 17), none⟩,
 ⟨some 19, .bin .gtr (.tmp 18) (.const (.int .i64 40)), none⟩] [])
 (.cond (.tmp 19) (.seq (.region [
  ⟨some 4, .mov (.const (.bool true)), none⟩] [])
  .ret)
 .skip))
 (.seq (.region [
 ⟨some 20, .build #[(.slice none 0 0)] [], none⟩,
 ⟨some 5, .alloc #[(.slice none 0 0)], none⟩,
 ⟨none, .store 1 (.tmp 5) (.tmp 20), none⟩] [])
 (.seq (.region [
 ⟨some 6, .mov (.const (.bool false)), none⟩] [])
 (.seq (.seq (.region [
 ⟨some 7, .mov (.const (.int .i64 0)), none⟩] [])
 (.block 0 (.loop (.seq (.seq (.region [
 ⟨some 21, .mov (.tmp 7), none⟩,
 ⟨some 22, .mov (.tmp 0), none⟩,
 ⟨some 23, .lenS (.tmp 22), none⟩,
 ⟨some 24, .bin .lss (.tmp 21) (.tmp 23), none⟩] [])
 (.cond (.tmp 24) .skip
 (.exit 0)))
 (.seq (.block 1 (.seq (.region [
 ⟨some 28, .loadN 1 (.tmp 5), none⟩,
 ⟨some 29, .mov (.tmp 0), none⟩,
 ⟨some 30, .mov (.tmp 7), none⟩,
 ⟨some 31, .indexSl 2 (.tmp 29) (.tmp 30), none⟩,
 ⟨some 32, .fieldAddr 0 (.tmp 31), none⟩,
 ⟨some 33, .load1 (.tmp 32), none⟩,
 ⟨some 34, .call 33 #[(.tmp 28), (.tmp 33)], none⟩,
 ⟨some 27, .mov (.tmp 34), none⟩,
 ⟨some 35, .extract (.tmp 27) 0, none⟩,
 ⟨some 36, .extract (.tmp 27) 1, none⟩,
 ⟨some 8, .mov (.tmp 35), none⟩,
 ⟨some 9, .mov (.tmp 36), none⟩] [])
 (.seq (.region [
 ⟨some 37, .mov (.tmp 6), none⟩,
 ⟨some 38, .mov (.tmp 37), none⟩,
 ⟨some 39, .mov (.tmp 9), some (38, false)⟩,
 ⟨some 40, .pick (.tmp 38) (.const (.bool true)) (.tmp 39), none⟩,
 ⟨some 6, .mov (.tmp 40), none⟩] [])
 (.region [
 ⟨some 41, .loadN 1 (.tmp 5), none⟩,
 ⟨some 42, .mov (.tmp 0), none⟩,
 ⟨some 43, .mov (.tmp 7), none⟩,
 ⟨some 44, .indexSl 2 (.tmp 42) (.tmp 43), none⟩,
 ⟨some 45, .fieldAddr 0 (.tmp 44), none⟩,
 ⟨some 46, .load1 (.tmp 45), none⟩,
 ⟨some 47, .mov (.tmp 0), none⟩,
 ⟨some 48, .mov (.tmp 7), none⟩,
 ⟨some 49, .indexSl 2 (.tmp 47) (.tmp 48), none⟩,
 ⟨some 50, .fieldAddr 1 (.tmp 49), none⟩,
 ⟨some 51, .load1 (.tmp 50), none⟩,
 ⟨some 52, .build #[(.int .u64 0), (.int .u64 0)] [(0, 1, (.tmp 46)), (1, 1, (.tmp 51))], none⟩,
 ⟨some 53, .call 38 #[(.tmp 41), (.tmp 52)], none⟩,
 ⟨none, .store 1 (.tmp 5) (.tmp 53), none⟩] []))))
 (.region [
 ⟨some 25, .mov (.tmp 7), none⟩,
 ⟨some 26, .bin .add (.tmp 25) (.const (.int .i64 1)), none⟩,
 ⟨some 7, .mov (.tmp 26), none⟩] []))))))
 (.seq (.region [
 ⟨some 55, .mov (.tmp 0), none⟩,
 ⟨some 56, .call 35 #[(.tmp 55)], none⟩,
 ⟨some 54, .mov (.tmp 56), none⟩,
 ⟨some 57, .extract (.tmp 54) 0, none⟩,
 ⟨some 58, .extract (.tmp 54) 1, none⟩,
 ⟨some 10, .alloc #[(.int .i64 0), (.int .u64 0), (.int .u64 0), (.int .u64 0), (.int .u64 0), (.int .u64 0), (.int .u64 0), (.int .u64 0), (.int .u64 0), (.int .u64 0), (.int .u64 0), (.int .u64 0), (.int .u64 0), (.int .u64 0), (.int .u64 0), (.int .u64 0), (.int .u64 0), (.int .u64 0), (.int .u64 0), (.int .u64 0), (.int .u64 0), (.int .u64 0), (.int .u64 0), (.int .u64 0), (.int .u64 0), (.int .u64 0), (.int .u64 0), (.int .u64 0), (.int .u64 0), (.int .u64 0), (.int .u64 0), (.int .u64 0), (.int .u64 0)], none⟩,
 ⟨none, .store 33 (.tmp 10) (.tmp 57), none⟩,
 ⟨some 11, .mov (.tmp 58), none⟩] [])
 (.seq (.seq (.region [
 ⟨some 59, .mov (.tmp 6), none⟩] [])
 (.cond (.tmp 59) (.seq (.region [
  ⟨some 60, .mov (.tmp 11), none⟩,
  ⟨some 61, .bin .eql (.tmp 60) (.const (.int .i64 1)), none⟩,
  ⟨some 62, .mov (.tmp 61), none⟩,
  ⟨some 63, .loadN 33 (.tmp 10), some (62, true)⟩,
  ⟨some 64, .build #[(.int .i64 0), (.int .u64 0), (.int .u64 0), (.int .u64 0), (.int .u64 0), (.int .u64 0), (.int .u64 0), (.int .u64 0), (.int .u64 0), (.int .u64 0), (.int .u64 0), (.int .u64 0), (.int .u64 0), (.int .u64 0), (.int .u64 0), (.int .u64 0), (.int .u64 0), (.int .u64 0), (.int .u64 0), (.int .u64 0), (.int .u64 0), (.int .u64 0), (.int .u64 0), (.int .u64 0), (.int .u64 0), (.int .u64 0), (.int .u64 0), (.int .u64 0), (.int .u64 0), (.int .u64 0), (.int .u64 0), (.int .u64 0), (.int .u64 0)] [], some (62, true)⟩,
  ⟨some 65, .eqv false (.agg [.int, .int, .int, .int, .int, .int, .int, .int, .int, .int, .int, .int, .int, .int, .int, .int, .int, .int, .int, .int, .int, .int, .int, .int, .int, .int, .int, .int, .int, .int, .int, .int, .int]) (.tmp 63) (.tmp 64), some (62, true)⟩,
  ⟨some 66, .pick (.tmp 62) (.tmp 65) (.const (.bool false)), none⟩,
  ⟨some 4, .mov (.tmp 66), none⟩] [])
  .ret)
 .skip))
 (.seq (.seq (.region [
 ⟨some 67, .mov (.tmp 0), none⟩,
 ⟨some 68, .lenS (.tmp 67), none⟩,
 ⟨some 69, .bin .gtr (.tmp 68) (.const (.int .i64 16)), none⟩] [])
 (.cond (.tmp 69) (.seq (.region [
  ⟨some 70, .mov (.tmp 11), none⟩,
  ⟨some 71, .bin .eql (.tmp 70) (.const (.int .i64 6)), none⟩,
  ⟨some 72, .mov (.tmp 71), none⟩,
  ⟨some 73, .loadN 33 (.tmp 10), some (72, true)⟩,
  ⟨some 74, .build #[(.int .i64 0), (.int .u64 0), (.int .u64 0), (.int .u64 0), (.int .u64 0), (.int .u64 0), (.int .u64 0), (.int .u64 0), (.int .u64 0), (.int .u64 0), (.int .u64 0), (.int .u64 0), (.int .u64 0), (.int .u64 0), (.int .u64 0), (.int .u64 0), (.int .u64 0), (.int .u64 0), (.int .u64 0), (.int .u64 0), (.int .u64 0), (.int .u64 0), (.int .u64 0), (.int .u64 0), (.int .u64 0), (.int .u64 0), (.int .u64 0), (.int .u64 0), (.int .u64 0), (.int .u64 0), (.int .u64 0), (.int .u64 0), (.int .u64 0)] [], some (72, true)⟩,
  ⟨some 75, .eqv false (.agg [.int, .int, .int, .int, .int, .int, .int, .int, .int, .int, .int, .int, .int, .int, .int, .int, .int, .int, .int, .int, .int, .int, .int, .int, .int, .int, .int, .int, .int, .int, .int, .int, .int]) (.tmp 73) (.tmp 74), some (72, true)⟩,
  ⟨some 76, .pick (.tmp 72) (.tmp 75) (.const (.bool false)), none⟩,
  ⟨some 4, .mov (.tmp 76), none⟩] [])
  .ret)
 .skip))
 (.seq (.seq (.region [
 ⟨some 77, .mov (.tmp 11), none⟩,
 ⟨some 78, .bin .neq (.tmp 77) (.const (.int .i64 0)), none⟩,
 ⟨some 79, .mov (.tmp 78), none⟩,
 ⟨some 80, .loadN 33 (.tmp 10), some (79, false)⟩,
 ⟨some 81, .loadN 1 (.tmp 5), some (79, false)⟩,
 ⟨some 82, .call 34 #[(.tmp 80), (.tmp 81)], some (79, false)⟩,
 ⟨some 83, .un .not (.tmp 82), some (79, false)⟩,
 ⟨some 84, .pick (.tmp 79) (.const (.bool true)) (.tmp 83), none⟩,
 ⟨some 85, .mov (.tmp 84), none⟩,
 ⟨some 86, .loadN 33 (.tmp 10), some (85, false)⟩,
 ⟨some 87, .fieldAddr 0 (.tmp 3), some (85, false)⟩,
 ⟨some 88, .load1 (.tmp 87), some (85, false)⟩,
 ⟨some 89, .call 37 #[(.tmp 86), (.tmp 88)], some (85, false)⟩,
 ⟨some 90, .loadN 1 (.tmp 5), some (85, false)⟩,
 ⟨some 91, .fieldAddr 0 (.tmp 3), some (85, false)⟩,
 ⟨some 92, .load1 (.tmp 91), some (85, false)⟩,
 ⟨some 93, .call 41 #[(.tmp 90), (.tmp 92)], some (85, false)⟩,
 ⟨some 94, .call 34 #[(.tmp 89), (.tmp 93)], some (85, false)⟩,
 ⟨some 95, .un .not (.tmp 94), some (85, false)⟩,
 ⟨some 96, .pick (.tmp 85) (.const (.bool true)) (.tmp 95), none⟩] [(13, 1), (15, 1)])
 (.cond (.tmp 96) (.seq (.region [
  ⟨some 4, .mov (.const (.bool false)), none⟩] [])
  .ret)
 .skip))
 (.seq (.region [
 ⟨some 98, .loadN 33 (.tmp 10), none⟩,
 ⟨some 99, .loadN 2 (.tmp 3), none⟩,
 ⟨some 100, .call 36 #[(.tmp 98), (.tmp 99)], none⟩,
 ⟨some 97, .mov (.tmp 100), none⟩,
 ⟨some 101, .extract (.tmp 97) 0, none⟩,
 ⟨some 102, .extract (.tmp 97) 1, none⟩,
 ⟨some 12, .alloc #[(.int .i64 0), (.int .u64 0), (.int .u64 0), (.int .u64 0), (.int .u64 0), (.int .u64 0), (.int .u64 0), (.int .u64 0), (.int .u64 0), (.int .u64 0), (.int .u64 0), (.int .u64 0), (.int .u64 0), (.int .u64 0), (.int .u64 0), (.int .u64 0), (.int .u64 0), (.int .u64 0), (.int .u64 0), (.int .u64 0), (.int .u64 0), (.int .u64 0), (.int .u64 0), (.int .u64 0), (.int .u64 0), (.int .u64 0), (.int .u64 0), (.int .u64 0), (.int .u64 0), (.int .u64 0), (.int .u64 0), (.int .u64 0), (.int .u64 0)], none⟩,
 ⟨none, .store 33 (.tmp 12) (.tmp 101), none⟩,
 ⟨some 13, .mov (.tmp 102), none⟩] [])
 (.seq (.region [
 ⟨some 103, .loadN 1 (.tmp 5), none⟩,
 ⟨some 104, .fieldAddr 0 (.tmp 3), none⟩,
 ⟨some 105, .load1 (.tmp 104), none⟩,
 ⟨some 106, .fieldAddr 1 (.tmp 3), none⟩,
 ⟨some 107, .load1 (.tmp 106), none⟩,
 ⟨some 108, .build #[(.int .u64 0), (.int .u64 0)] [(0, 1, (.tmp 105)), (1, 1, (.tmp 107))], none⟩,
 ⟨some 109, .call 38 #[(.tmp 103), (.tmp 108)], none⟩,
 ⟨some 14, .alloc #[(.slice none 0 0)], none⟩,
 ⟨none, .store 1 (.tmp 14) (.tmp 109), none⟩] [])
 (.seq (.seq (.region [
 ⟨some 110, .fieldAddr 0 (.tmp 14), none⟩,
 ⟨some 111, .load1 (.tmp 110), none⟩,
 ⟨some 112, .lenS (.tmp 111), none⟩,
 ⟨some 113, .bin .gtr (.tmp 112) (.const (.int .i64 16)), none⟩] [])
 (.cond (.tmp 113) (.seq (.region [
  ⟨some 114, .mov (.tmp 13), none⟩,
  ⟨some 115, .bin .eql (.tmp 114) (.const (.int .i64 6)), none⟩,
  ⟨some 116, .mov (.tmp 115), none⟩,
  ⟨some 117, .loadN 33 (.tmp 12), some (116, true)⟩,
  ⟨some 118, .build #[(.int .i64 0), (.int .u64 0), (.int .u64 0), (.int .u64 0), (.int .u64 0), (.int .u64 0), (.int .u64 0), (.int .u64 0), (.int .u64 0), (.int .u64 0), (.int .u64 0), (.int .u64 0), (.int .u64 0), (.int .u64 0), (.int .u64 0), (.int .u64 0), (.int .u64 0), (.int .u64 0), (.int .u64 0), (.int .u64 0), (.int .u64 0), (.int .u64 0), (.int .u64 0), (.int .u64 0), (.int .u64 0), (.int .u64 0), (.int .u64 0), (.int .u64 0), (.int .u64 0), (.int .u64 0), (.int .u64 0), (.int .u64 0), (.int .u64 0)] [], some (116, true)⟩,
  ⟨some 119, .eqv false (.agg [.int, .int, .int, .int, .int, .int, .int, .int, .int, .int, .int, .int, .int, .int, .int, .int, .int, .int, .int, .int, .int, .int, .int, .int, .int, .int, .int, .int, .int, .int, .int, .int, .int]) (.tmp 117) (.tmp 118), some (116, true)⟩,
  ⟨some 120, .pick (.tmp 116) (.tmp 119) (.const (.bool false)), none⟩,
  ⟨some 4, .mov (.tmp 120), none⟩] [])
  .ret)
 .skip))
 (.seq (.region [
 ⟨some 121, .mov (.tmp 13), none⟩,
 ⟨some 122, .bin .eql (.tmp 121) (.const (.int .i64 0)), none⟩,
 ⟨some 123, .mov (.tmp 122), none⟩,
 ⟨some 124, .loadN 33 (.tmp 12), some (123, true)⟩,
 ⟨some 125, .loadN 1 (.tmp 14), some (123, true)⟩,
 ⟨some 126, .call 34 #[(.tmp 124), (.tmp 125)], some (123, true)⟩,
 ⟨some 127, .pick (.tmp 123) (.tmp 126) (.const (.bool false)), none⟩,
 ⟨some 4, .mov (.tmp 127), none⟩] [])
 .ret)))))))))))))) }
theorem c10 : bfunc Try.prog 10 = some b10 := by kernel_rfl

/-- revenant/revenantlaw08.GhostFresh -/
def b11 : BFunc := { ntmps := 111, results := [.tmp 6], body :=
 (.seq (.region [
 ⟨some 6, .mov (.const (.bool false)), none⟩] [])
 (.seq (.seq (.region [
 ⟨some 12, .call 42 #[], none⟩,
 ⟨some 13, .un .not (.tmp 12), none⟩] [])
 (.cond (.tmp 13) (.seq (.region [
  ⟨some 6, .mov (.const (.bool false)), none⟩] [])
  .ret)
 .skip))
 (.seq (.region [
 ⟨some 14, .call 43 #[], none⟩,
 ⟨some 7, .mov (.tmp 14), none⟩] [])
 (.seq (.seq (.region [
 ⟨some 8, .mov (.const (.int .i64 0)), none⟩] [])
 (.block 0 (.loop (.seq (.seq (.region [
 ⟨some 15, .mov (.tmp 8), none⟩,
 ⟨some 16, .mov (.tmp 0), none⟩,
 ⟨some 17, .lenS (.tmp 16), none⟩,
 ⟨some 18, .bin .lss (.tmp 15) (.tmp 17), none⟩,
 ⟨some 19, .mov (.tmp 18), none⟩,
 ⟨some 20, .mov (.tmp 8), some (19, true)⟩,
 ⟨some 21, .bin .lss (.tmp 20) (.const (.int .i64 100)), some (19, true)⟩,
 ⟨some 22, .pick (.tmp 19) (.tmp 21) (.const (.bool false)), none⟩] [])
 (.cond (.tmp 22) .skip
 (.exit 0)))
 (.seq (.block 1 (.seq (.region [
 ⟨some 25, .mov (.tmp 0), none⟩,
 ⟨some 26, .mov (.tmp 8), none⟩,
 ⟨some 27, .indexSl 11 (.tmp 25) (.tmp 26), none⟩,
 ⟨some 28, .fieldAddr 0 (.tmp 27), none⟩,
 ⟨some 29, .load1 (.tmp 28), none⟩,
 ⟨some 30, .bin .eql (.tmp 29) (.const (.int .i64 6)), none⟩] [])
 (.cond (.tmp 30) (.region [
  ⟨some 31, .mov (.tmp 7), none⟩,
  ⟨some 32, .mov (.tmp 0), none⟩,
  ⟨some 33, .mov (.tmp 8), none⟩,
  ⟨some 34, .indexSl 11 (.tmp 32) (.tmp 33), none⟩,
  ⟨some 35, .fieldAddr 1 (.tmp 34), none⟩,
  ⟨some 36, .fieldAddr 0 (.tmp 35), none⟩,
  ⟨some 37, .fieldAddr 1 (.tmp 36), none⟩,
  ⟨some 38, .load1 (.tmp 37), none⟩,
  ⟨some 39, .call 44 #[(.tmp 31), (.tmp 38)], none⟩] [])
 .skip)))
 (.region [
 ⟨some 23, .mov (.tmp 8), none⟩,
 ⟨some 24, .bin .add (.tmp 23) (.const (.int .i64 1)), none⟩,
 ⟨some 8, .mov (.tmp 24), none⟩] []))))))
 (.seq (.region [
 ⟨some 40, .build #[(.int .i64 0), (.int .i64 0), (.int .i64 0), (.int .i64 0)] [], none⟩,
 ⟨some 9, .alloc #[(.int .i64 0), (.int .i64 0), (.int .i64 0), (.int .i64 0)], none⟩,
 ⟨none, .store 4 (.tmp 9) (.tmp 40), none⟩] [])
 (.seq (.region [
 ⟨some 41, .fieldAddr 0 (.tmp 9), none⟩,
 ⟨some 42, .fieldAddr 0 (.tmp 41), none⟩,
 ⟨none, .store 1 (.tmp 42) (.const (.int .i64 5)), none⟩] [])
 (.seq (.region [
 ⟨some 43, .mov (.tmp 1), none⟩,
 ⟨some 44, .fieldAddr 0 (.tmp 9), none⟩,
 ⟨some 45, .fieldAddr 1 (.tmp 44), none⟩,
 ⟨none, .store 1 (.tmp 45) (.tmp 43), none⟩] [])
 (.seq (.region [
 ⟨some 46, .mov (.tmp 2), none⟩,
 ⟨some 47, .fieldAddr 0 (.tmp 9), none⟩,
 ⟨some 48, .fieldAddr 2 (.tmp 47), none⟩,
 ⟨none, .store 1 (.tmp 48) (.tmp 46), none⟩] [])
 (.seq (.region [
 ⟨some 49, .mov (.tmp 7), none⟩,
 ⟨some 50, .call 45 #[(.tmp 49)], none⟩,
 ⟨some 51, .mov (.tmp 1), none⟩,
 ⟨some 52, .call 46 #[(.tmp 50), (.tmp 51)], none⟩,
 ⟨some 53, .fieldAddr 3 (.tmp 9), none⟩,
 ⟨none, .store 1 (.tmp 53) (.tmp 52), none⟩] [])
 (.seq (.seq (.region [
 ⟨some 54, .mov (.tmp 7), none⟩,
 ⟨some 55, .loadN 4 (.tmp 9), none⟩,
 ⟨some 56, .call 47 #[(.tmp 54), (.tmp 55)], none⟩,
 ⟨some 57, .field1 2 (.tmp 56), none⟩,
 ⟨some 58, .mov (.tmp 57), none⟩,
 ⟨some 59, .mov (.tmp 7), some (58, false)⟩,
 ⟨some 60, .call 48 #[(.tmp 59)], some (58, false)⟩,
 ⟨some 61, .bin .neq (.tmp 60) (.const (.int .i64 0)), some (58, false)⟩,
 ⟨some 62, .pick (.tmp 58) (.const (.bool true)) (.tmp 61), none⟩] [])
 (.cond (.tmp 62) (.seq (.region [
  ⟨some 6, .mov (.const (.bool false)), none⟩] [])
  .ret)
 .skip))
 (.seq (.region [
 ⟨some 63, .mov (.tmp 7), none⟩,
 ⟨some 64, .loadN 4 (.tmp 9), none⟩,
 ⟨some 65, .build #[(.int .u64 0), (.int .i64 0), (.bool false)] [(0, 1, (.const (.int .u64 1)))], none⟩,
 ⟨some 66, .call 49 #[(.tmp 63), (.tmp 64), (.tmp 65)], none⟩] [])
 (.seq (.seq (.region [
 ⟨some 67, .mov (.tmp 7), none⟩,
 ⟨some 68, .call 50 #[(.tmp 67)], none⟩,
 ⟨some 69, .bin .neq (.tmp 68) (.const (.int .i64 0)), none⟩,
 ⟨some 70, .mov (.tmp 69), none⟩,
 ⟨some 71, .mov (.tmp 7), some (70, false)⟩,
 ⟨some 72, .mov (.tmp 1), some (70, false)⟩,
 ⟨some 73, .call 44 #[(.tmp 71), (.tmp 72)], some (70, false)⟩,
 ⟨some 74, .bin .eql (.tmp 73) (.const (.int .i64 0)), some (70, false)⟩,
 ⟨some 75, .pick (.tmp 70) (.const (.bool true)) (.tmp 74), none⟩] [])
 (.cond (.tmp 75) (.seq (.region [
  ⟨some 76, .mov (.tmp 7), none⟩,
  ⟨some 77, .call 50 #[(.tmp 76)], none⟩,
  ⟨some 78, .bin .eql (.tmp 77) (.const (.int .i64 0)), none⟩,
  ⟨some 79, .mov (.tmp 78), none⟩,
  ⟨some 80, .mov (.tmp 1), some (79, true)⟩,
  ⟨some 81, .bin .lss (.tmp 80) (.const (.int .i64 1)), some (79, true)⟩,
  ⟨some 82, .pick (.tmp 79) (.tmp 81) (.const (.bool false)), none⟩,
  ⟨some 6, .mov (.tmp 82), none⟩] [])
  .ret)
 .skip))
 (.seq (.region [
 ⟨some 83, .mov (.tmp 7), none⟩,
 ⟨some 84, .loadN 4 (.tmp 9), none⟩,
 ⟨some 85, .call 47 #[(.tmp 83), (.tmp 84)], none⟩,
 ⟨some 10, .alloc #[(.int .u64 0), (.int .i64 0), (.bool false)], none⟩,
 ⟨none, .store 3 (.tmp 10) (.tmp 85), none⟩] [])
 (.seq (.region [
 ⟨some 86, .mov (.tmp 7), none⟩,
 ⟨some 87, .loadN 4 (.tmp 9), none⟩,
 ⟨some 88, .build #[(.int .u64 0), (.int .i64 0), (.bool false)] [(0, 1, (.const (.int .u64 1)))], none⟩,
 ⟨some 89, .build #[(.int .u64 0), (.int .i64 0), (.bool false)] [(0, 1, (.const (.int .u64 2)))], none⟩,
 ⟨some 90, .call 51 #[(.tmp 86), (.tmp 87), (.tmp 88), (.tmp 89)], none⟩,
 ⟨some 11, .mov (.tmp 90), none⟩] [])
 (.seq (.region [
 ⟨some 91, .fieldAddr 2 (.tmp 10), none⟩,
 ⟨some 92, .load1 (.tmp 91), none⟩,
 ⟨some 93, .mov (.tmp 92), none⟩,
 ⟨some 94, .fieldAddr 0 (.tmp 10), some (93, true)⟩,
 ⟨some 95, .load1 (.tmp 94), some (93, true)⟩,
 ⟨some 96, .bin .eql (.tmp 95) (.const (.int .u64 1)), some (93, true)⟩,
 ⟨some 97, .pick (.tmp 93) (.tmp 96) (.const (.bool false)), none⟩,
 ⟨some 98, .mov (.tmp 97), none⟩,
 ⟨some 99, .mov (.tmp 11), some (98, true)⟩,
 ⟨some 100, .pick (.tmp 98) (.tmp 99) (.const (.bool false)), none⟩,
 ⟨some 101, .mov (.tmp 100), none⟩,
 ⟨some 102, .mov (.tmp 7), some (101, true)⟩,
 ⟨some 103, .call 50 #[(.tmp 102)], some (101, true)⟩,
 ⟨some 104, .bin .eql (.tmp 103) (.const (.int .i64 1)), some (101, true)⟩,
 ⟨some 105, .pick (.tmp 101) (.tmp 104) (.const (.bool false)), none⟩,
 ⟨some 106, .mov (.tmp 105), none⟩,
 ⟨some 107, .mov (.tmp 7), some (106, true)⟩,
 ⟨some 108, .call 48 #[(.tmp 107)], some (106, true)⟩,
 ⟨some 109, .bin .eql (.tmp 108) (.const (.int .i64 1)), some (106, true)⟩,
 ⟨some 110, .pick (.tmp 106) (.tmp 109) (.const (.bool false)), none⟩,
 ⟨some 6, .mov (.tmp 110), none⟩] [])
 .ret))))))))))))))) }
theorem c11 : bfunc Try.prog 11 = some b11 := by kernel_rfl

/-- revenant/revenantlaw08.GhostExact -/
def b12 : BFunc := { ntmps := 66, results := [.tmp 2], body :=
 (.seq (.region [
 ⟨some 2, .mov (.const (.bool false)), none⟩] [])
 (.seq (.seq (.region [
 ⟨some 6, .call 42 #[], none⟩,
 ⟨some 7, .un .not (.tmp 6), none⟩] [])
 (.cond (.tmp 7) (.seq (.region [
  ⟨some 2, .mov (.const (.bool false)), none⟩] [])
  .ret)
 .skip))
 (.seq (.region [
 ⟨some 8, .call 43 #[], none⟩,
 ⟨some 3, .mov (.tmp 8), none⟩] [])
 (.seq (.region [
 ⟨some 9, .build #[(.slice none 0 0), (.slice none 0 0), (.slice none 0 0), (.int .i64 0), (.int .i64 0)] [], none⟩,
 ⟨some 10, .box 5 (.tmp 9), none⟩,
 ⟨some 4, .mov (.tmp 10), none⟩] [])
 (.seq (.seq (.region [
 ⟨some 5, .mov (.const (.int .i64 0)), none⟩] [])
 (.block 0 (.loop (.seq (.seq (.region [
 ⟨some 11, .mov (.tmp 5), none⟩,
 ⟨some 12, .mov (.tmp 0), none⟩,
 ⟨some 13, .lenS (.tmp 12), none⟩,
 ⟨some 14, .bin .lss (.tmp 11) (.tmp 13), none⟩,
 ⟨some 15, .mov (.tmp 14), none⟩,
 ⟨some 16, .mov (.tmp 5), some (15, true)⟩,
 ⟨some 17, .bin .lss (.tmp 16) (.const (.int .i64 150)), some (15, true)⟩,
 ⟨some 18, .pick (.tmp 15) (.tmp 17) (.const (.bool false)), none⟩] [])
 (.cond (.tmp 18) .skip
 (.exit 0)))
 (.seq (.block 1 (.seq (.seq (.region [
 ⟨some 21, .mov (.tmp 0), none⟩,
 ⟨some 22, .mov (.tmp 5), none⟩,
 ⟨some 23, .indexSl 11 (.tmp 21) (.tmp 22), none⟩,
 ⟨some 24, .fieldAddr 8 (.tmp 23), none⟩,
 ⟨some 25, .fieldAddr 1 (.tmp 24), none⟩,
 ⟨some 26, .load1 (.tmp 25), none⟩,
 ⟨some 27, .bin .lss (.tmp 26) (.const (.int .i64 0)), none⟩] [])
 (.cond (.tmp 27) (.seq (.region [
  ⟨some 2, .mov (.const (.bool true)), none⟩] [])
  .ret)
 .skip))
 (.seq (.region [
 ⟨some 28, .mov (.tmp 3), none⟩,
 ⟨some 29, .mov (.tmp 4), none⟩,
 ⟨some 30, .mov (.tmp 0), none⟩,
 ⟨some 31, .mov (.tmp 5), none⟩,
 ⟨some 32, .indexSl 11 (.tmp 30) (.tmp 31), none⟩,
 ⟨some 33, .loadN 11 (.tmp 32), none⟩,
 ⟨some 34, .call 52 #[(.tmp 28), (.tmp 29), (.tmp 33)], none⟩,
 ⟨some 35, .un .not (.tmp 34), none⟩,
 ⟨some 36, .mov (.tmp 35), none⟩,
 ⟨some 37, .mov (.tmp 3), some (36, false)⟩,
 ⟨some 38, .call 48 #[(.tmp 37)], some (36, false)⟩,
 ⟨some 39, .mov (.tmp 4), some (36, false)⟩,
 ⟨some 40, .nilCheck (.tmp 39), some (36, false)⟩,
 ⟨some 41, .fieldAddr 4 (.tmp 40), some (36, false)⟩,
 ⟨some 42, .load1 (.tmp 41), some (36, false)⟩,
 ⟨some 43, .bin .neq (.tmp 38) (.tmp 42), some (36, false)⟩,
 ⟨some 44, .pick (.tmp 36) (.const (.bool true)) (.tmp 43), none⟩,
 ⟨some 45, .mov (.tmp 44), none⟩,
 ⟨some 46, .mov (.tmp 3), some (45, false)⟩,
 ⟨some 47, .call 50 #[(.tmp 46)], some (45, false)⟩,
 ⟨some 48, .mov (.tmp 4), some (45, false)⟩,
 ⟨some 49, .nilCheck (.tmp 48), some (45, false)⟩,
 ⟨some 50, .fieldAddr 0 (.tmp 49), some (45, false)⟩,
 ⟨some 51, .fieldAddr 3 (.tmp 50), some (45, false)⟩,
 ⟨some 52, .load1 (.tmp 51), some (45, false)⟩,
 ⟨some 53, .bin .neq (.tmp 47) (.tmp 52), some (45, false)⟩,
 ⟨some 54, .pick (.tmp 45) (.const (.bool true)) (.tmp 53), none⟩] [(14, 1), (24, 2)])
 (.cond (.tmp 54) (.seq (.region [
  ⟨some 2, .mov (.const (.bool false)), none⟩] [])
  .ret)
 .skip))))
 (.region [
 ⟨some 19, .mov (.tmp 5), none⟩,
 ⟨some 20, .bin .add (.tmp 19) (.const (.int .i64 1)), none⟩,
 ⟨some 5, .mov (.tmp 20), none⟩] []))))))
 (.seq (.region [
 ⟨some 55, .mov (.tmp 3), none⟩,
 ⟨some 56, .call 45 #[(.tmp 55)], none⟩,
 ⟨some 57, .call 28 #[(.tmp 56)], none⟩,
 ⟨some 58, .mov (.tmp 4), none⟩,
 ⟨some 59, .nilCheck (.tmp 58), none⟩,
 ⟨some 60, .fieldAddr 0 (.tmp 59), none⟩,
 ⟨some 61, .fieldAddr 2 (.tmp 60), none⟩,
 ⟨some 62, .fieldAddr 0 (.tmp 61), none⟩,
 ⟨some 63, .load1 (.tmp 62), none⟩,
 ⟨some 64, .lenS (.tmp 63), none⟩,
 ⟨some 65, .bin .eql (.tmp 57) (.tmp 64), none⟩,
 ⟨some 2, .mov (.tmp 65), none⟩] [(8, 0), (8, 1)])
 .ret)))))) }
theorem c12 : bfunc Try.prog 12 = some b12 := by kernel_rfl

/-- revenant/revenantlaw09.IdealPlain -/
def b13 : BFunc := { ntmps := 147, results := [.tmp 2], body :=
 (.seq (.region [
 ⟨some 2, .mov (.const (.bool false)), none⟩] [])
 (.seq (.seq (.region [
 ⟨some 10, .call 14 #[], none⟩,
 ⟨some 11, .un .not (.tmp 10), none⟩] [])
 (.cond (.tmp 11) (.seq (.region [
  ⟨some 2, .mov (.const (.bool false)), none⟩] [])
  .ret)
 .skip))
 (.seq (.region [
 ⟨some 12, .call 24 #[], none⟩,
 ⟨some 3, .mov (.tmp 12), none⟩] [])
 (.seq (.region [
 ⟨some 13, .call 53 #[], none⟩,
 ⟨some 4, .mov (.tmp 13), none⟩] [])
 (.seq (.region [
 ⟨some 14, .build #[(.int .i64 0), (.int .i64 0), (.int .i64 0), (.int .i64 0), (.int .i64 0), (.int .i64 0), (.int .i64 0), (.int .i64 0)] [], none⟩,
 ⟨some 5, .alloc #[(.int .i64 0), (.int .i64 0), (.int .i64 0), (.int .i64 0), (.int .i64 0), (.int .i64 0), (.int .i64 0), (.int .i64 0)], none⟩,
 ⟨none, .store 8 (.tmp 5) (.tmp 14), none⟩] [])
 (.seq (.seq (.region [
 ⟨some 6, .mov (.const (.int .i64 1)), none⟩] [])
 (.block 0 (.loop (.seq (.seq (.region [
 ⟨some 15, .mov (.tmp 6), none⟩,
 ⟨some 16, .bin .lss (.tmp 15) (.const (.int .i64 8)), none⟩] [])
 (.cond (.tmp 16) .skip
 (.exit 0)))
 (.seq (.block 1 (.region [
 ⟨some 19, .mov (.tmp 6), none⟩,
 ⟨some 20, .mov (.tmp 3), none⟩,
 ⟨some 21, .mov (.tmp 6), none⟩,
 ⟨some 22, .call 19 #[(.tmp 20), (.tmp 21)], none⟩,
 ⟨some 23, .indexArr 8 1 (.tmp 5) (.tmp 19), none⟩,
 ⟨none, .store 1 (.tmp 23) (.tmp 22), none⟩] []))
 (.region [
 ⟨some 17, .mov (.tmp 6), none⟩,
 ⟨some 18, .bin .add (.tmp 17) (.const (.int .i64 1)), none⟩,
 ⟨some 6, .mov (.tmp 18), none⟩] []))))))
 (.seq (.seq (.region [
 ⟨some 7, .mov (.const (.int .i64 0)), none⟩] [])
 (.block 2 (.loop (.seq (.seq (.region [
 ⟨some 24, .mov (.tmp 7), none⟩,
 ⟨some 25, .mov (.tmp 0), none⟩,
 ⟨some 26, .lenS (.tmp 25), none⟩,
 ⟨some 27, .bin .lss (.tmp 24) (.tmp 26), none⟩,
 ⟨some 28, .mov (.tmp 27), none⟩,
 ⟨some 29, .mov (.tmp 7), some (28, true)⟩,
 ⟨some 30, .bin .lss (.tmp 29) (.const (.int .i64 150)), some (28, true)⟩,
 ⟨some 31, .pick (.tmp 28) (.tmp 30) (.const (.bool false)), none⟩] [])
 (.cond (.tmp 31) .skip
 (.exit 2)))
 (.seq (.block 3 (.seq (.region [
 ⟨some 34, .mov (.tmp 0), none⟩,
 ⟨some 35, .mov (.tmp 7), none⟩,
 ⟨some 36, .indexSl 11 (.tmp 34) (.tmp 35), none⟩,
 ⟨some 37, .loadN 11 (.tmp 36), none⟩,
 ⟨some 8, .alloc #[(.int .i64 0), (.int .i64 0), (.int .i64 0), (.int .i64 0), (.int .i64 0), (.int .u64 0), (.int .i64 0), (.bool false), (.int .u64 0), (.int .i64 0), (.bool false)], none⟩,
 ⟨none, .store 11 (.tmp 8) (.tmp 37), none⟩] [])
 (.seq (.seq (.region [
 ⟨some 38, .fieldAddr 1 (.tmp 8), none⟩,
 ⟨some 39, .fieldAddr 0 (.tmp 38), none⟩,
 ⟨some 40, .fieldAddr 0 (.tmp 39), none⟩,
 ⟨some 41, .load1 (.tmp 40), none⟩,
 ⟨some 42, .bin .eql (.tmp 41) (.const (.int .i64 5)), none⟩] [])
 (.cond (.tmp 42) (.seq (.region [
  ⟨some 43, .fieldAddr 1 (.tmp 8), none⟩,
  ⟨some 44, .fieldAddr 0 (.tmp 43), none⟩,
  ⟨some 45, .fieldAddr 1 (.tmp 44), none⟩,
  ⟨some 46, .load1 (.tmp 45), none⟩,
  ⟨some 47, .conv .u64 (.tmp 46), none⟩,
  ⟨some 48, .bin .rem (.tmp 47) (.const (.int .u64 7)), none⟩,
  ⟨some 49, .conv .i64 (.tmp 48), none⟩,
  ⟨some 50, .bin .add (.const (.int .i64 1)) (.tmp 49), none⟩,
  ⟨some 51, .fieldAddr 1 (.tmp 8), none⟩,
  ⟨some 52, .fieldAddr 0 (.tmp 51), none⟩,
  ⟨some 53, .fieldAddr 1 (.tmp 52), none⟩,
  ⟨none, .store 1 (.tmp 53) (.tmp 50), none⟩] [])
  (.region [
  ⟨some 54, .fieldAddr 1 (.tmp 8), none⟩,
  ⟨some 55, .fieldAddr 0 (.tmp 54), none⟩,
  ⟨some 56, .fieldAddr 1 (.tmp 55), none⟩,
  ⟨some 57, .load1 (.tmp 56), none⟩,
  ⟨some 58, .indexArr 8 1 (.tmp 5) (.tmp 57), none⟩,
  ⟨some 59, .load1 (.tmp 58), none⟩,
  ⟨some 60, .fieldAddr 1 (.tmp 8), none⟩,
  ⟨some 61, .fieldAddr 3 (.tmp 60), none⟩,
  ⟨none, .store 1 (.tmp 61) (.tmp 59), none⟩] []))
 .skip))
 (.seq (.region [
 ⟨some 9, .mov (.const (.bool true)), none⟩] [])
 (.seq (.seq (.region [
 ⟨some 62, .fieldAddr 0 (.tmp 8), none⟩,
 ⟨some 63, .load1 (.tmp 62), none⟩] [])
 (.block 4 (.seq (.region [
 ⟨some 65, .bin .eql (.tmp 63) (.const (.int .i64 1)), none⟩,
 ⟨some 64, .mov (.tmp 65), none⟩] [])
 (.cond (.tmp 64) (.region [
  ⟨some 66, .mov (.tmp 3), none⟩,
  ⟨some 67, .fieldAddr 1 (.tmp 8), none⟩,
  ⟨some 68, .loadN 4 (.tmp 67), none⟩,
  ⟨some 69, .call 16 #[(.tmp 66), (.tmp 68)], none⟩,
  ⟨some 70, .field1 0 (.tmp 69), none⟩,
  ⟨some 71, .mov (.tmp 4), none⟩,
  ⟨some 72, .fieldAddr 1 (.tmp 8), none⟩,
  ⟨some 73, .loadN 4 (.tmp 72), none⟩,
  ⟨some 74, .call 54 #[(.tmp 71), (.tmp 73)], none⟩,
  ⟨some 75, .field1 0 (.tmp 74), none⟩,
  ⟨some 76, .bin .eql (.tmp 70) (.tmp 75), none⟩,
  ⟨some 9, .mov (.tmp 76), none⟩] [(7, 0)])
 (.seq (.region [
  ⟨some 78, .bin .eql (.tmp 63) (.const (.int .i64 2)), none⟩,
  ⟨some 77, .mov (.tmp 78), none⟩] [])
  (.cond (.tmp 77) (.seq (.region [
   ⟨some 79, .mov (.tmp 3), none⟩,
   ⟨some 80, .fieldAddr 1 (.tmp 8), none⟩,
   ⟨some 81, .loadN 4 (.tmp 80), none⟩,
   ⟨some 82, .fieldAddr 8 (.tmp 8), none⟩,
   ⟨some 83, .loadN 3 (.tmp 82), none⟩,
   ⟨some 84, .call 15 #[(.tmp 79), (.tmp 81), (.tmp 83)], none⟩] [])
   (.region [
   ⟨some 85, .mov (.tmp 4), none⟩,
   ⟨some 86, .fieldAddr 1 (.tmp 8), none⟩,
   ⟨some 87, .loadN 4 (.tmp 86), none⟩,
   ⟨some 88, .fieldAddr 8 (.tmp 8), none⟩,
   ⟨some 89, .loadN 3 (.tmp 88), none⟩,
   ⟨some 90, .call 55 #[(.tmp 85), (.tmp 87), (.tmp 89)], none⟩] []))
  (.seq (.region [
   ⟨some 92, .bin .eql (.tmp 63) (.const (.int .i64 3)), none⟩,
   ⟨some 91, .mov (.tmp 92), none⟩] [])
   (.cond (.tmp 91) (.region [
    ⟨some 93, .mov (.tmp 3), none⟩,
    ⟨some 94, .fieldAddr 1 (.tmp 8), none⟩,
    ⟨some 95, .loadN 4 (.tmp 94), none⟩,
    ⟨some 96, .fieldAddr 5 (.tmp 8), none⟩,
    ⟨some 97, .loadN 3 (.tmp 96), none⟩,
    ⟨some 98, .fieldAddr 8 (.tmp 8), none⟩,
    ⟨some 99, .loadN 3 (.tmp 98), none⟩,
    ⟨some 100, .call 17 #[(.tmp 93), (.tmp 95), (.tmp 97), (.tmp 99)], none⟩,
    ⟨some 101, .mov (.tmp 4), none⟩,
    ⟨some 102, .fieldAddr 1 (.tmp 8), none⟩,
    ⟨some 103, .loadN 4 (.tmp 102), none⟩,
    ⟨some 104, .fieldAddr 5 (.tmp 8), none⟩,
    ⟨some 105, .loadN 3 (.tmp 104), none⟩,
    ⟨some 106, .fieldAddr 8 (.tmp 8), none⟩,
    ⟨some 107, .loadN 3 (.tmp 106), none⟩,
    ⟨some 108, .call 56 #[(.tmp 101), (.tmp 103), (.tmp 105), (.tmp 107)], none⟩,
    ⟨some 109, .eqv false .bool (.tmp 100) (.tmp 108), none⟩,
    ⟨some 9, .mov (.tmp 109), none⟩] [(10, 0), (12, 0), (14, 0)])
   (.seq (.region [
    ⟨some 111, .bin .eql (.tmp 63) (.const (.int .i64 5)), none⟩,
    ⟨some 110, .mov (.tmp 111), none⟩] [])
    (.cond (.tmp 110) (.region [
     ⟨some 112, .mov (.tmp 3), none⟩,
     ⟨some 113, .fieldAddr 1 (.tmp 8), none⟩,
     ⟨some 114, .loadN 4 (.tmp 113), none⟩,
     ⟨some 115, .fieldAddr 8 (.tmp 8), none⟩,
     ⟨some 116, .fieldAddr 0 (.tmp 115), none⟩,
     ⟨some 117, .load1 (.tmp 116), none⟩,
     ⟨some 118, .call 18 #[(.tmp 112), (.tmp 114), (.tmp 117)], none⟩,
     ⟨some 119, .mov (.tmp 4), none⟩,
     ⟨some 120, .fieldAddr 1 (.tmp 8), none⟩,
     ⟨some 121, .loadN 4 (.tmp 120), none⟩,
     ⟨some 122, .fieldAddr 8 (.tmp 8), none⟩,
     ⟨some 123, .fieldAddr 0 (.tmp 122), none⟩,
     ⟨some 124, .load1 (.tmp 123), none⟩,
     ⟨some 125, .call 57 #[(.tmp 119), (.tmp 121), (.tmp 124)], none⟩,
     ⟨some 126, .bin .eql (.tmp 118) (.tmp 125), none⟩,
     ⟨some 9, .mov (.tmp 126), none⟩] [(9, 0), (12, 0)])
    (.seq (.region [
     ⟨some 128, .bin .eql (.tmp 63) (.const (.int .i64 7)), none⟩,
     ⟨some 127, .mov (.tmp 128), none⟩] [])
     (.cond (.tmp 127) (.region [
      ⟨some 129, .mov (.tmp 3), none⟩,
      ⟨some 130, .fieldAddr 1 (.tmp 8), none⟩,
      ⟨some 131, .fieldAddr 0 (.tmp 130), none⟩,
      ⟨some 132, .loadN 3 (.tmp 131), none⟩,
      ⟨some 133, .call 20 #[(.tmp 129), (.tmp 132)], none⟩,
      ⟨some 134, .mov (.tmp 4), none⟩,
      ⟨some 135, .fieldAddr 1 (.tmp 8), none⟩,
      ⟨some 136, .fieldAddr 0 (.tmp 135), none⟩,
      ⟨some 137, .loadN 3 (.tmp 136), none⟩,
      ⟨some 138, .call 58 #[(.tmp 134), (.tmp 137)], none⟩,
      ⟨some 139, .bin .eql (.tmp 133) (.tmp 138), none⟩,
      ⟨some 9, .mov (.tmp 139), none⟩] [(8, 0)])
     .skip))))))))))))
 (.seq (.region [
 ⟨some 140, .mov (.tmp 9), none⟩,
 ⟨some 141, .un .not (.tmp 140), none⟩] [])
 (.cond (.tmp 141) (.seq (.region [
  ⟨some 2, .mov (.const (.bool false)), none⟩] [])
  .ret)
 .skip)))))))
 (.region [
 ⟨some 32, .mov (.tmp 7), none⟩,
 ⟨some 33, .bin .add (.tmp 32) (.const (.int .i64 1)), none⟩,
 ⟨some 7, .mov (.tmp 33), none⟩] []))))))
 (.seq (.region [
 ⟨some 142, .mov (.tmp 3), none⟩,
 ⟨some 143, .call 21 #[(.tmp 142)], none⟩,
 ⟨some 144, .mov (.tmp 4), none⟩,
 ⟨some 145, .call 59 #[(.tmp 144)], none⟩,
 ⟨some 146, .eqv false (.agg [.int, .int, .int, .int, .int]) (.tmp 143) (.tmp 145), none⟩,
 ⟨some 2, .mov (.tmp 146), none⟩] [])
 .ret)))))))) }
theorem c13 : bfunc Try.prog 13 = some b13 := by kernel_rfl

/-- revenant/revenantlaw09.awake -/
def b14 : BFunc := { ntmps := 58, results := [.tmp 0], body :=
 (.seq (.region [
 ⟨some 0, .mov (.const (.bool false)), none⟩] [])
 (.seq (.region [
 ⟨some 6, .call 24 #[], none⟩,
 ⟨some 1, .mov (.tmp 6), none⟩] [])
 (.seq (.region [
 ⟨some 7, .mov (.tmp 1), none⟩,
 ⟨some 8, .call 19 #[(.tmp 7), (.const (.int .i64 3))], none⟩,
 ⟨some 2, .mov (.tmp 8), none⟩] [])
 (.seq (.region [
 ⟨some 9, .call 25 #[(.const (.int .i64 3)), (.const (.int .i64 3))], none⟩,
 ⟨some 10, .build #[(.int .i64 0), (.int .i64 0), (.int .i64 0), (.int .i64 0)] [(0, 3, (.tmp 9)), (3, 1, (.const (.int .i64 1)))], none⟩,
 ⟨some 3, .alloc #[(.int .i64 0), (.int .i64 0), (.int .i64 0), (.int .i64 0)], none⟩,
 ⟨none, .store 4 (.tmp 3) (.tmp 10), none⟩] [])
 (.seq (.region [
 ⟨some 11, .mov (.tmp 1), none⟩,
 ⟨some 12, .loadN 4 (.tmp 3), none⟩,
 ⟨some 13, .build #[(.int .u64 0), (.int .i64 0), (.bool false)] [(0, 1, (.const (.int .u64 5))), (1, 1, (.const (.int .i64 8)))], none⟩,
 ⟨some 14, .call 15 #[(.tmp 11), (.tmp 12), (.tmp 13)], none⟩] [])
 (.seq (.region [
 ⟨some 15, .mov (.tmp 1), none⟩,
 ⟨some 16, .call 19 #[(.tmp 15), (.const (.int .i64 3))], none⟩,
 ⟨some 4, .mov (.tmp 16), none⟩] [])
 (.seq (.region [
 ⟨some 17, .fieldAddr 0 (.tmp 3), none⟩,
 ⟨some 18, .loadN 3 (.tmp 17), none⟩,
 ⟨some 19, .build #[(.int .i64 0), (.int .i64 0), (.int .i64 0), (.int .i64 0)] [(0, 3, (.tmp 18)), (3, 1, (.const (.int .i64 2)))], none⟩,
 ⟨some 5, .alloc #[(.int .i64 0), (.int .i64 0), (.int .i64 0), (.int .i64 0)], none⟩,
 ⟨none, .store 4 (.tmp 5) (.tmp 19), none⟩] [])
 (.seq (.region [
 ⟨some 20, .mov (.tmp 2), none⟩,
 ⟨some 21, .bin .eql (.tmp 20) (.const (.int .i64 1)), none⟩,
 ⟨some 22, .mov (.tmp 21), none⟩,
 ⟨some 23, .mov (.tmp 4), some (22, true)⟩,
 ⟨some 24, .bin .eql (.tmp 23) (.const (.int .i64 2)), some (22, true)⟩,
 ⟨some 25, .pick (.tmp 22) (.tmp 24) (.const (.bool false)), none⟩,
 ⟨some 26, .mov (.tmp 25), none⟩,
 ⟨some 27, .mov (.tmp 1), some (26, true)⟩,
 ⟨some 28, .loadN 4 (.tmp 3), some (26, true)⟩,
 ⟨some 29, .call 16 #[(.tmp 27), (.tmp 28)], some (26, true)⟩,
 ⟨some 30, .build #[(.int .u64 0), (.int .i64 0), (.bool false)] [(0, 1, (.const (.int .u64 5))), (1, 1, (.const (.int .i64 8)))], some (26, true)⟩,
 ⟨some 31, .eqv false (.agg [.int, .int, .bool]) (.tmp 29) (.tmp 30), some (26, true)⟩,
 ⟨some 32, .pick (.tmp 26) (.tmp 31) (.const (.bool false)), none⟩,
 ⟨some 33, .mov (.tmp 32), none⟩,
 ⟨some 34, .mov (.tmp 1), some (33, true)⟩,
 ⟨some 35, .loadN 4 (.tmp 5), some (33, true)⟩,
 ⟨some 36, .call 16 #[(.tmp 34), (.tmp 35)], some (33, true)⟩,
 ⟨some 37, .build #[(.int .u64 0), (.int .i64 0), (.bool false)] [], some (33, true)⟩,
 ⟨some 38, .eqv false (.agg [.int, .int, .bool]) (.tmp 36) (.tmp 37), some (33, true)⟩,
 ⟨some 39, .pick (.tmp 33) (.tmp 38) (.const (.bool false)), none⟩,
 ⟨some 40, .mov (.tmp 39), none⟩,
 ⟨some 41, .mov (.tmp 1), some (40, true)⟩,
 ⟨some 42, .call 23 #[(.tmp 41), (.const (.int .i64 1)), (.const (.int .i64 3))], some (40, true)⟩,
 ⟨some 43, .bin .eql (.tmp 42) (.const (.int .u64 5)), some (40, true)⟩,
 ⟨some 44, .pick (.tmp 40) (.tmp 43) (.const (.bool false)), none⟩,
 ⟨some 45, .mov (.tmp 44), none⟩,
 ⟨some 46, .mov (.tmp 1), some (45, true)⟩,
 ⟨some 47, .fieldAddr 0 (.tmp 3), some (45, true)⟩,
 ⟨some 48, .loadN 3 (.tmp 47), some (45, true)⟩,
 ⟨some 49, .call 20 #[(.tmp 46), (.tmp 48)], some (45, true)⟩,
 ⟨some 50, .bin .eql (.tmp 49) (.const (.int .u64 0)), some (45, true)⟩,
 ⟨some 51, .pick (.tmp 45) (.tmp 50) (.const (.bool false)), none⟩,
 ⟨some 52, .mov (.tmp 51), none⟩,
 ⟨some 53, .mov (.tmp 1), some (52, true)⟩,
 ⟨some 54, .call 21 #[(.tmp 53)], some (52, true)⟩,
 ⟨some 55, .build #[(.int .i64 0), (.int .i64 0), (.int .i64 0), (.int .i64 0), (.int .i64 0)] [(0, 1, (.const (.int .i64 2))), (1, 1, (.const (.int .i64 1)))], some (52, true)⟩,
 ⟨some 56, .eqv false (.agg [.int, .int, .int, .int, .int]) (.tmp 54) (.tmp 55), some (52, true)⟩,
 ⟨some 57, .pick (.tmp 52) (.tmp 56) (.const (.bool false)), none⟩,
 ⟨some 0, .mov (.tmp 57), none⟩] [])
 .ret)))))))) }
theorem c14 : bfunc Try.prog 14 = some b14 := by kernel_rfl

/-- (*revenant/ideal.Ideal).Store -/
def b15 : BFunc := { ntmps := 22, results := [], body :=
 (.seq (.region [
 ⟨some 4, .box 4 (.tmp 1), none⟩,
 ⟨some 5, .box 3 (.tmp 2), none⟩] [])
 (.seq (.seq (.region [
 ⟨some 6, .mov (.tmp 0), none⟩,
 ⟨some 7, .eqv false .ptr (.tmp 6) (.const (.pointer none)), none⟩] [])
 (.cond (.tmp 7) .ret
 .skip))
 (.seq (.region [
 ⟨some 8, .mov (.tmp 0), none⟩,
 ⟨some 9, .nilCheck (.tmp 8), none⟩,
 ⟨some 10, .fieldAddr 3 (.tmp 9), none⟩,
 ⟨some 11, .fieldAddr 1 (.tmp 10), none⟩,
 ⟨some 12, .load1 (.tmp 11), none⟩,
 ⟨some 13, .bin .add (.tmp 12) (.const (.int .i64 1)), none⟩,
 ⟨some 14, .nilCheck (.tmp 8), none⟩,
 ⟨some 15, .fieldAddr 3 (.tmp 14), none⟩,
 ⟨some 16, .fieldAddr 1 (.tmp 15), none⟩,
 ⟨none, .store 1 (.tmp 16) (.tmp 13), none⟩] [])
 (.region [
 ⟨some 17, .mov (.tmp 0), none⟩,
 ⟨some 18, .loadN 4 (.tmp 4), none⟩,
 ⟨some 19, .call 61 #[(.tmp 18)], none⟩,
 ⟨some 20, .loadN 3 (.tmp 5), none⟩,
 ⟨some 21, .call 60 #[(.tmp 17), (.tmp 19), (.tmp 20)], none⟩] [(3, 0)])))) }
theorem c15 : bfunc Try.prog 15 = some b15 := by kernel_rfl

/-- (*revenant/ideal.Ideal).Load -/
def b16 : BFunc := { ntmps := 33, results := [.cellN 3 4], body :=
 (.seq (.region [
 ⟨some 3, .box 4 (.tmp 1), none⟩,
 ⟨some 4, .alloc #[(.int .u64 0), (.int .i64 0), (.bool false)], none⟩] [])
 (.seq (.seq (.region [
 ⟨some 6, .mov (.tmp 0), none⟩,
 ⟨some 7, .eqv false .ptr (.tmp 6) (.const (.pointer none)), none⟩] [])
 (.cond (.tmp 7) (.seq (.region [
  ⟨some 8, .build #[(.int .u64 0), (.int .i64 0), (.bool false)] [], none⟩,
  ⟨none, .store 3 (.tmp 4) (.tmp 8), none⟩] [])
  .ret)
 .skip))
 (.seq (.region [
 ⟨some 9, .mov (.tmp 0), none⟩,
 ⟨some 10, .nilCheck (.tmp 9), none⟩,
 ⟨some 11, .fieldAddr 3 (.tmp 10), none⟩,
 ⟨some 12, .fieldAddr 0 (.tmp 11), none⟩,
 ⟨some 13, .load1 (.tmp 12), none⟩,
 ⟨some 14, .bin .add (.tmp 13) (.const (.int .i64 1)), none⟩,
 ⟨some 15, .nilCheck (.tmp 9), none⟩,
 ⟨some 16, .fieldAddr 3 (.tmp 15), none⟩,
 ⟨some 17, .fieldAddr 0 (.tmp 16), none⟩,
 ⟨none, .store 1 (.tmp 17) (.tmp 14), none⟩] [])
 (.seq (.region [
 ⟨some 18, .loadN 4 (.tmp 3), none⟩,
 ⟨some 19, .call 61 #[(.tmp 18)], none⟩,
 ⟨some 5, .alloc #[(.int .i64 0), (.int .i64 0), (.int .i64 0), (.int .i64 0)], none⟩,
 ⟨none, .store 4 (.tmp 5) (.tmp 19), none⟩] [])
 (.seq (.region [
 ⟨some 20, .mov (.tmp 0), none⟩,
 ⟨some 21, .nilCheck (.tmp 20), none⟩,
 ⟨some 22, .fieldAddr 0 (.tmp 21), none⟩,
 ⟨some 23, .load1 (.tmp 22), none⟩,
 ⟨some 24, .loadN 4 (.tmp 5), none⟩,
 ⟨some 25, .lookup (.agg [.int, .int, .int, .int]) (.int .u64 0) false (.tmp 23) (.tmp 24), none⟩,
 ⟨some 26, .mov (.tmp 0), none⟩,
 ⟨some 27, .nilCheck (.tmp 26), none⟩,
 ⟨some 28, .fieldAddr 1 (.tmp 27), none⟩,
 ⟨some 29, .load1 (.tmp 28), none⟩,
 ⟨some 30, .loadN 4 (.tmp 5), none⟩,
 ⟨some 31, .lookup (.agg [.int, .int, .int, .int]) (.int .i64 0) false (.tmp 29) (.tmp 30), none⟩,
 ⟨some 32, .build #[(.int .u64 0), (.int .i64 0), (.bool false)] [(0, 1, (.tmp 25)), (1, 1, (.tmp 31))], none⟩,
 ⟨none, .store 3 (.tmp 4) (.tmp 32), none⟩] [])
 .ret))))) }
theorem c16 : bfunc Try.prog 16 = some b16 := by kernel_rfl

/-- (*revenant/ideal.Ideal).Swap -/
def b17 : BFunc := { ntmps := 45, results := [.tmp 8], body :=
 (.seq (.region [
 ⟨some 5, .box 4 (.tmp 1), none⟩,
 ⟨some 6, .box 3 (.tmp 2), none⟩,
 ⟨some 7, .box 3 (.tmp 3), none⟩,
 ⟨some 8, .mov (.const (.bool false)), none⟩] [])
 (.seq (.seq (.region [
 ⟨some 10, .mov (.tmp 0), none⟩,
 ⟨some 11, .eqv false .ptr (.tmp 10) (.const (.pointer none)), none⟩] [])
 (.cond (.tmp 11) (.seq (.region [
  ⟨some 8, .mov (.const (.bool false)), none⟩] [])
  .ret)
 .skip))
 (.seq (.region [
 ⟨some 12, .mov (.tmp 0), none⟩,
 ⟨some 13, .nilCheck (.tmp 12), none⟩,
 ⟨some 14, .fieldAddr 3 (.tmp 13), none⟩,
 ⟨some 15, .fieldAddr 2 (.tmp 14), none⟩,
 ⟨some 16, .load1 (.tmp 15), none⟩,
 ⟨some 17, .bin .add (.tmp 16) (.const (.int .i64 1)), none⟩,
 ⟨some 18, .nilCheck (.tmp 12), none⟩,
 ⟨some 19, .fieldAddr 3 (.tmp 18), none⟩,
 ⟨some 20, .fieldAddr 2 (.tmp 19), none⟩,
 ⟨none, .store 1 (.tmp 20) (.tmp 17), none⟩] [])
 (.seq (.region [
 ⟨some 21, .loadN 4 (.tmp 5), none⟩,
 ⟨some 22, .call 61 #[(.tmp 21)], none⟩,
 ⟨some 9, .alloc #[(.int .i64 0), (.int .i64 0), (.int .i64 0), (.int .i64 0)], none⟩,
 ⟨none, .store 4 (.tmp 9) (.tmp 22), none⟩] [])
 (.seq (.seq (.region [
 ⟨some 23, .mov (.tmp 0), none⟩,
 ⟨some 24, .nilCheck (.tmp 23), none⟩,
 ⟨some 25, .fieldAddr 0 (.tmp 24), none⟩,
 ⟨some 26, .load1 (.tmp 25), none⟩,
 ⟨some 27, .loadN 4 (.tmp 9), none⟩,
 ⟨some 28, .lookup (.agg [.int, .int, .int, .int]) (.int .u64 0) false (.tmp 26) (.tmp 27), none⟩,
 ⟨some 29, .fieldAddr 0 (.tmp 6), none⟩,
 ⟨some 30, .load1 (.tmp 29), none⟩,
 ⟨some 31, .bin .neq (.tmp 28) (.tmp 30), none⟩] [])
 (.cond (.tmp 31) (.seq (.region [
  ⟨some 32, .mov (.tmp 0), none⟩,
  ⟨some 33, .nilCheck (.tmp 32), none⟩,
  ⟨some 34, .fieldAddr 3 (.tmp 33), none⟩,
  ⟨some 35, .fieldAddr 3 (.tmp 34), none⟩,
  ⟨some 36, .load1 (.tmp 35), none⟩,
  ⟨some 37, .bin .add (.tmp 36) (.const (.int .i64 1)), none⟩,
  ⟨some 38, .nilCheck (.tmp 32), none⟩,
  ⟨some 39, .fieldAddr 3 (.tmp 38), none⟩,
  ⟨some 40, .fieldAddr 3 (.tmp 39), none⟩,
  ⟨none, .store 1 (.tmp 40) (.tmp 37), none⟩] [])
  (.seq (.region [
  ⟨some 8, .mov (.const (.bool false)), none⟩] [])
  .ret))
 .skip))
 (.seq (.region [
 ⟨some 41, .mov (.tmp 0), none⟩,
 ⟨some 42, .loadN 4 (.tmp 9), none⟩,
 ⟨some 43, .loadN 3 (.tmp 7), none⟩,
 ⟨some 44, .call 60 #[(.tmp 41), (.tmp 42), (.tmp 43)], none⟩] [])
 (.seq (.region [
 ⟨some 8, .mov (.const (.bool true)), none⟩] [])
 .ret))))))) }
theorem c17 : bfunc Try.prog 17 = some b17 := by kernel_rfl

/-- (*revenant/ideal.Ideal).Add -/
def b18 : BFunc := { ntmps := 37, results := [.tmp 6], body :=
 (.seq (.region [
 ⟨some 4, .box 4 (.tmp 1), none⟩,
 ⟨some 6, .mov (.const (.int .u64 0)), none⟩] [])
 (.seq (.seq (.region [
 ⟨some 9, .mov (.tmp 0), none⟩,
 ⟨some 10, .eqv false .ptr (.tmp 9) (.const (.pointer none)), none⟩] [])
 (.cond (.tmp 10) (.seq (.region [
  ⟨some 6, .mov (.const (.int .u64 0)), none⟩] [])
  .ret)
 .skip))
 (.seq (.region [
 ⟨some 11, .mov (.tmp 0), none⟩,
 ⟨some 12, .nilCheck (.tmp 11), none⟩,
 ⟨some 13, .fieldAddr 3 (.tmp 12), none⟩,
 ⟨some 14, .fieldAddr 4 (.tmp 13), none⟩,
 ⟨some 15, .load1 (.tmp 14), none⟩,
 ⟨some 16, .bin .add (.tmp 15) (.const (.int .i64 1)), none⟩,
 ⟨some 17, .nilCheck (.tmp 11), none⟩,
 ⟨some 18, .fieldAddr 3 (.tmp 17), none⟩,
 ⟨some 19, .fieldAddr 4 (.tmp 18), none⟩,
 ⟨none, .store 1 (.tmp 19) (.tmp 16), none⟩] [])
 (.seq (.region [
 ⟨some 20, .loadN 4 (.tmp 4), none⟩,
 ⟨some 21, .call 61 #[(.tmp 20)], none⟩,
 ⟨some 7, .alloc #[(.int .i64 0), (.int .i64 0), (.int .i64 0), (.int .i64 0)], none⟩,
 ⟨none, .store 4 (.tmp 7) (.tmp 21), none⟩] [])
 (.seq (.region [
 ⟨some 22, .mov (.tmp 0), none⟩,
 ⟨some 23, .nilCheck (.tmp 22), none⟩,
 ⟨some 24, .fieldAddr 0 (.tmp 23), none⟩,
 ⟨some 25, .load1 (.tmp 24), none⟩,
 ⟨some 26, .loadN 4 (.tmp 7), none⟩,
 ⟨some 27, .lookup (.agg [.int, .int, .int, .int]) (.int .u64 0) false (.tmp 25) (.tmp 26), none⟩,
 ⟨some 8, .mov (.tmp 27), none⟩] [])
 (.seq (.region [
 ⟨some 28, .mov (.tmp 0), none⟩,
 ⟨some 29, .nilCheck (.tmp 28), none⟩,
 ⟨some 30, .fieldAddr 0 (.tmp 29), none⟩,
 ⟨some 31, .load1 (.tmp 30), none⟩,
 ⟨some 32, .loadN 4 (.tmp 7), none⟩,
 ⟨some 33, .mov (.tmp 8), none⟩,
 ⟨some 34, .mov (.tmp 2), none⟩,
 ⟨some 35, .bin .add (.tmp 33) (.tmp 34), none⟩,
 ⟨none, .mapUpdate (.agg [.int, .int, .int, .int]) (.tmp 31) (.tmp 32) (.tmp 35), none⟩] [])
 (.seq (.region [
 ⟨some 36, .mov (.tmp 8), none⟩,
 ⟨some 6, .mov (.tmp 36), none⟩] [])
 .ret))))))) }
theorem c18 : bfunc Try.prog 18 = some b18 := by kernel_rfl

/-- (*revenant/ideal.Ideal).Born -/
def b19 : BFunc := { ntmps := 9, results := [.tmp 4], body :=
 (.seq (.region [
 ⟨some 4, .mov (.const (.int .i64 0)), none⟩] [])
 (.seq (.region [
 ⟨some 5, .mov (.tmp 0), none⟩,
 ⟨some 6, .call 22 #[(.tmp 5)], none⟩,
 ⟨some 7, .mov (.tmp 1), none⟩,
 ⟨some 8, .call 62 #[(.tmp 6), (.tmp 7)], none⟩,
 ⟨some 4, .mov (.tmp 8), none⟩] [])
 .ret)) }
theorem c19 : bfunc Try.prog 19 = some b19 := by kernel_rfl

/-- (*revenant/ideal.Ideal).Peek -/
def b20 : BFunc := { ntmps := 22, results := [.tmp 4], body :=
 (.seq (.region [
 ⟨some 3, .box 3 (.tmp 1), none⟩,
 ⟨some 4, .mov (.const (.int .u64 0)), none⟩] [])
 (.seq (.seq (.region [
 ⟨some 5, .mov (.tmp 0), none⟩,
 ⟨some 6, .eqv false .ptr (.tmp 5) (.const (.pointer none)), none⟩] [])
 (.cond (.tmp 6) (.seq (.region [
  ⟨some 4, .mov (.const (.int .u64 0)), none⟩] [])
  .ret)
 .skip))
 (.seq (.region [
 ⟨some 7, .mov (.tmp 0), none⟩,
 ⟨some 8, .nilCheck (.tmp 7), none⟩,
 ⟨some 9, .fieldAddr 0 (.tmp 8), none⟩,
 ⟨some 10, .load1 (.tmp 9), none⟩,
 ⟨some 11, .loadN 3 (.tmp 3), none⟩,
 ⟨some 12, .mov (.tmp 0), none⟩,
 ⟨some 13, .nilCheck (.tmp 12), none⟩,
 ⟨some 14, .fieldAddr 2 (.tmp 13), none⟩,
 ⟨some 15, .load1 (.tmp 14), none⟩,
 ⟨some 16, .fieldAddr 1 (.tmp 3), none⟩,
 ⟨some 17, .load1 (.tmp 16), none⟩,
 ⟨some 18, .call 46 #[(.tmp 15), (.tmp 17)], none⟩,
 ⟨some 19, .build #[(.int .i64 0), (.int .i64 0), (.int .i64 0), (.int .i64 0)] [(0, 3, (.tmp 11)), (3, 1, (.tmp 18))], none⟩,
 ⟨some 20, .call 61 #[(.tmp 19)], none⟩,
 ⟨some 21, .lookup (.agg [.int, .int, .int, .int]) (.int .u64 0) false (.tmp 10) (.tmp 20), none⟩,
 ⟨some 4, .mov (.tmp 21), none⟩] [(3, 1), (3, 2), (4, 1)])
 .ret))) }
theorem c20 : bfunc Try.prog 20 = some b20 := by kernel_rfl

/-- (*revenant/ideal.Ideal).Count -/
def b21 : BFunc := { ntmps := 10, results := [.cellN 5 2], body :=
 (.seq (.region [
 ⟨some 2, .alloc #[(.int .i64 0), (.int .i64 0), (.int .i64 0), (.int .i64 0), (.int .i64 0)], none⟩] [])
 (.seq (.seq (.region [
 ⟨some 3, .mov (.tmp 0), none⟩,
 ⟨some 4, .eqv false .ptr (.tmp 3) (.const (.pointer none)), none⟩] [])
 (.cond (.tmp 4) (.seq (.region [
  ⟨some 5, .build #[(.int .i64 0), (.int .i64 0), (.int .i64 0), (.int .i64 0), (.int .i64 0)] [], none⟩,
  ⟨none, .store 5 (.tmp 2) (.tmp 5), none⟩] [])
  .ret)
 .skip))
 (.seq (.region [
 ⟨some 6, .mov (.tmp 0), none⟩,
 ⟨some 7, .nilCheck (.tmp 6), none⟩,
 ⟨some 8, .fieldAddr 3 (.tmp 7), none⟩,
 ⟨some 9, .loadN 5 (.tmp 8), none⟩,
 ⟨none, .store 5 (.tmp 2) (.tmp 9), none⟩] [])
 .ret))) }
theorem c21 : bfunc Try.prog 21 = some b21 := by kernel_rfl

/-- (*revenant/ideal.Ideal).Souls -/
def b22 : BFunc := { ntmps := 9, results := [.tmp 2], body :=
 (.seq (.region [
 ⟨some 2, .mov (.const (.pointer none)), none⟩] [])
 (.seq (.seq (.region [
 ⟨some 3, .mov (.tmp 0), none⟩,
 ⟨some 4, .eqv false .ptr (.tmp 3) (.const (.pointer none)), none⟩] [])
 (.cond (.tmp 4) (.seq (.region [
  ⟨some 2, .mov (.const (.pointer none)), none⟩] [])
  .ret)
 .skip))
 (.seq (.region [
 ⟨some 5, .mov (.tmp 0), none⟩,
 ⟨some 6, .nilCheck (.tmp 5), none⟩,
 ⟨some 7, .fieldAddr 2 (.tmp 6), none⟩,
 ⟨some 8, .load1 (.tmp 7), none⟩,
 ⟨some 2, .mov (.tmp 8), none⟩] [])
 .ret))) }
theorem c22 : bfunc Try.prog 22 = some b22 := by kernel_rfl

/-- (*revenant/ideal.Ideal).Content -/
def b23 : BFunc := { ntmps := 23, results := [.tmp 6], body :=
 (.seq (.region [
 ⟨some 6, .mov (.const (.int .u64 0)), none⟩] [])
 (.seq (.seq (.region [
 ⟨some 7, .mov (.tmp 0), none⟩,
 ⟨some 8, .eqv false .ptr (.tmp 7) (.const (.pointer none)), none⟩,
 ⟨some 9, .mov (.tmp 8), none⟩,
 ⟨some 10, .mov (.tmp 2), some (9, false)⟩,
 ⟨some 11, .call 25 #[(.const (.int .i64 0)), (.tmp 10)], some (9, false)⟩,
 ⟨some 12, .call 26 #[(.tmp 11)], some (9, false)⟩,
 ⟨some 13, .un .not (.tmp 12), some (9, false)⟩,
 ⟨some 14, .pick (.tmp 9) (.const (.bool true)) (.tmp 13), none⟩] [])
 (.cond (.tmp 14) (.seq (.region [
  ⟨some 6, .mov (.const (.int .u64 0)), none⟩] [])
  .ret)
 .skip))
 (.seq (.region [
 ⟨some 15, .mov (.tmp 0), none⟩,
 ⟨some 16, .nilCheck (.tmp 15), none⟩,
 ⟨some 17, .fieldAddr 0 (.tmp 16), none⟩,
 ⟨some 18, .load1 (.tmp 17), none⟩,
 ⟨some 19, .mov (.tmp 1), none⟩,
 ⟨some 20, .mov (.tmp 2), none⟩,
 ⟨some 21, .call 63 #[(.tmp 19), (.tmp 20)], none⟩,
 ⟨some 22, .lookup (.agg [.int, .int, .int, .int]) (.int .u64 0) false (.tmp 18) (.tmp 21), none⟩,
 ⟨some 6, .mov (.tmp 22), none⟩] [(3, 1)])
 .ret))) }
theorem c23 : bfunc Try.prog 23 = some b23 := by kernel_rfl

/-- revenant/ideal.New -/
def b24 : BFunc := { ntmps := 6, results := [.tmp 0], body :=
 (.seq (.region [
 ⟨some 0, .mov (.const (.pointer none)), none⟩] [])
 (.seq (.region [
 ⟨some 1, .makeMap, none⟩,
 ⟨some 2, .makeMap, none⟩,
 ⟨some 3, .call 64 #[], none⟩,
 ⟨some 4, .build #[(.map none), (.map none), (.pointer none), (.int .i64 0), (.int .i64 0), (.int .i64 0), (.int .i64 0), (.int .i64 0)] [(0, 1, (.tmp 1)), (1, 1, (.tmp 2)), (2, 1, (.tmp 3))], none⟩,
 ⟨some 5, .box 8 (.tmp 4), none⟩,
 ⟨some 0, .mov (.tmp 5), none⟩] [])
 .ret)) }
theorem c24 : bfunc Try.prog 24 = some b24 := by kernel_rfl

/-- revenant/place.Of -/
def b25 : BFunc := { ntmps := 8, results := [.cellN 3 4], body :=
 (.seq (.region [
 ⟨some 4, .alloc #[(.int .i64 0), (.int .i64 0), (.int .i64 0)], none⟩] [])
 (.seq (.region [
 ⟨some 5, .mov (.tmp 0), none⟩,
 ⟨some 6, .mov (.tmp 1), none⟩,
 ⟨some 7, .build #[(.int .i64 0), (.int .i64 0), (.int .i64 0)] [(0, 1, (.const (.int .i64 5))), (1, 1, (.tmp 5)), (2, 1, (.tmp 6))], none⟩,
 ⟨none, .store 3 (.tmp 4) (.tmp 7), none⟩] [])
 .ret)) }
theorem c25 : bfunc Try.prog 25 = some b25 := by kernel_rfl

/-- revenant/place.IsContent -/
def b26 : BFunc := { ntmps := 21, results := [.tmp 2], body :=
 (.seq (.region [
 ⟨some 1, .box 3 (.tmp 0), none⟩,
 ⟨some 2, .mov (.const (.bool false)), none⟩] [])
 (.seq (.region [
 ⟨some 3, .fieldAddr 0 (.tmp 1), none⟩,
 ⟨some 4, .load1 (.tmp 3), none⟩,
 ⟨some 5, .bin .eql (.tmp 4) (.const (.int .i64 5)), none⟩,
 ⟨some 6, .mov (.tmp 5), none⟩,
 ⟨some 7, .fieldAddr 2 (.tmp 1), some (6, true)⟩,
 ⟨some 8, .load1 (.tmp 7), some (6, true)⟩,
 ⟨some 9, .bin .geq (.tmp 8) (.const (.int .i64 0)), some (6, true)⟩,
 ⟨some 10, .pick (.tmp 6) (.tmp 9) (.const (.bool false)), none⟩,
 ⟨some 11, .mov (.tmp 10), none⟩,
 ⟨some 12, .fieldAddr 2 (.tmp 1), some (11, true)⟩,
 ⟨some 13, .load1 (.tmp 12), some (11, true)⟩,
 ⟨some 14, .bin .neq (.tmp 13) (.const (.int .i64 1)), some (11, true)⟩,
 ⟨some 15, .pick (.tmp 11) (.tmp 14) (.const (.bool false)), none⟩,
 ⟨some 16, .mov (.tmp 15), none⟩,
 ⟨some 17, .fieldAddr 2 (.tmp 1), some (16, true)⟩,
 ⟨some 18, .load1 (.tmp 17), some (16, true)⟩,
 ⟨some 19, .bin .neq (.tmp 18) (.const (.int .i64 2)), some (16, true)⟩,
 ⟨some 20, .pick (.tmp 16) (.tmp 19) (.const (.bool false)), none⟩,
 ⟨some 2, .mov (.tmp 20), none⟩] [])
 .ret)) }
theorem c26 : bfunc Try.prog 26 = some b26 := by kernel_rfl

/-- revenant/revenantlaw09.does -/
def b27 : BFunc := { ntmps := 183, results := [.tmp 6], body :=
 (.seq (.region [
 ⟨some 5, .box 11 (.tmp 2), none⟩,
 ⟨some 6, .mov (.const (.bool false)), none⟩] [])
 (.seq (.region [
 ⟨some 12, .fieldAddr 1 (.tmp 5), none⟩,
 ⟨some 13, .fieldAddr 0 (.tmp 12), none⟩,
 ⟨some 14, .loadN 3 (.tmp 13), none⟩,
 ⟨some 7, .alloc #[(.int .i64 0), (.int .i64 0), (.int .i64 0)], none⟩,
 ⟨none, .store 3 (.tmp 7) (.tmp 14), none⟩] [])
 (.seq (.region [
 ⟨some 15, .loadN 3 (.tmp 7), none⟩,
 ⟨some 16, .fieldAddr 1 (.tmp 5), none⟩,
 ⟨some 17, .fieldAddr 3 (.tmp 16), none⟩,
 ⟨some 18, .load1 (.tmp 17), none⟩,
 ⟨some 19, .call 65 #[(.tmp 15), (.tmp 18)], none⟩,
 ⟨some 8, .alloc #[(.int .i64 0), (.int .i64 0), (.int .i64 0)], none⟩,
 ⟨none, .store 3 (.tmp 8) (.tmp 19), none⟩] [])
 (.seq (.region [
 ⟨some 20, .mov (.tmp 1), none⟩,
 ⟨some 21, .nilCheck (.tmp 20), none⟩,
 ⟨some 22, .fieldAddr 0 (.tmp 21), none⟩,
 ⟨some 23, .loadN 3 (.tmp 8), none⟩,
 ⟨some 24, .call 66 #[(.tmp 22), (.tmp 23)], none⟩,
 ⟨some 9, .mov (.tmp 24), none⟩] [])
 (.seq (.seq (.region [
 ⟨some 25, .fieldAddr 0 (.tmp 5), none⟩,
 ⟨some 26, .load1 (.tmp 25), none⟩] [])
 (.block 0 (.seq (.region [
 ⟨some 28, .bin .eql (.tmp 26) (.const (.int .i64 1)), none⟩,
 ⟨some 27, .mov (.tmp 28), none⟩] [])
 (.cond (.tmp 27) (.seq (.region [
  ⟨some 29, .mov (.tmp 0), none⟩,
  ⟨some 30, .fieldAddr 1 (.tmp 5), none⟩,
  ⟨some 31, .loadN 4 (.tmp 30), none⟩,
  ⟨some 32, .call 16 #[(.tmp 29), (.tmp 31)], none⟩,
  ⟨some 33, .mov (.tmp 9), none⟩,
  ⟨some 34, .mov (.tmp 1), none⟩,
  ⟨some 35, .nilCheck (.tmp 34), none⟩,
  ⟨some 36, .fieldAddr 1 (.tmp 35), none⟩,
  ⟨some 37, .loadN 3 (.tmp 8), none⟩,
  ⟨some 38, .call 66 #[(.tmp 36), (.tmp 37)], none⟩,
  ⟨some 39, .conv .i64 (.tmp 38), none⟩,
  ⟨some 40, .build #[(.int .u64 0), (.int .i64 0), (.bool false)] [(0, 1, (.tmp 33)), (1, 1, (.tmp 39))], none⟩,
  ⟨some 41, .eqv false (.agg [.int, .int, .bool]) (.tmp 32) (.tmp 40), none⟩,
  ⟨some 6, .mov (.tmp 41), none⟩] [(8, 0)])
  .ret)
 (.seq (.region [
  ⟨some 43, .bin .eql (.tmp 26) (.const (.int .i64 2)), none⟩,
  ⟨some 42, .mov (.tmp 43), none⟩] [])
  (.cond (.tmp 42) (.seq (.region [
   ⟨some 44, .mov (.tmp 0), none⟩,
   ⟨some 45, .fieldAddr 1 (.tmp 5), none⟩,
   ⟨some 46, .loadN 4 (.tmp 45), none⟩,
   ⟨some 47, .fieldAddr 8 (.tmp 5), none⟩,
   ⟨some 48, .loadN 3 (.tmp 47), none⟩,
   ⟨some 49, .call 15 #[(.tmp 44), (.tmp 46), (.tmp 48)], none⟩] [])
   (.seq (.region [
   ⟨some 50, .mov (.tmp 1), none⟩,
   ⟨some 51, .loadN 3 (.tmp 7), none⟩,
   ⟨some 52, .fieldAddr 1 (.tmp 5), none⟩,
   ⟨some 53, .fieldAddr 3 (.tmp 52), none⟩,
   ⟨some 54, .load1 (.tmp 53), none⟩,
   ⟨some 55, .fieldAddr 8 (.tmp 5), none⟩,
   ⟨some 56, .fieldAddr 0 (.tmp 55), none⟩,
   ⟨some 57, .load1 (.tmp 56), none⟩,
   ⟨some 58, .fieldAddr 8 (.tmp 5), none⟩,
   ⟨some 59, .fieldAddr 1 (.tmp 58), none⟩,
   ⟨some 60, .load1 (.tmp 59), none⟩,
   ⟨some 61, .call 67 #[(.tmp 50), (.tmp 51), (.tmp 54), (.tmp 57), (.tmp 60)], none⟩] [])
   (.seq (.region [
   ⟨some 6, .mov (.const (.bool true)), none⟩] [])
   .ret)))
  (.seq (.seq (.region [
   ⟨some 63, .bin .eql (.tmp 26) (.const (.int .i64 3)), none⟩,
   ⟨some 62, .mov (.tmp 63), none⟩] [])
   (.cond (.tmp 62) .skip
   (.region [
    ⟨some 64, .bin .eql (.tmp 26) (.const (.int .i64 4)), none⟩,
    ⟨some 62, .mov (.tmp 64), none⟩] [])))
   (.cond (.tmp 62) (.seq (.region [
    ⟨some 65, .fieldAddr 5 (.tmp 5), none⟩,
    ⟨some 66, .loadN 3 (.tmp 65), none⟩,
    ⟨some 10, .alloc #[(.int .u64 0), (.int .i64 0), (.bool false)], none⟩,
    ⟨none, .store 3 (.tmp 10) (.tmp 66), none⟩] [])
    (.seq (.seq (.region [
    ⟨some 67, .fieldAddr 0 (.tmp 5), none⟩,
    ⟨some 68, .load1 (.tmp 67), none⟩,
    ⟨some 69, .bin .eql (.tmp 68) (.const (.int .i64 4)), none⟩] [])
    (.cond (.tmp 69) (.region [
     ⟨some 70, .mov (.tmp 9), none⟩,
     ⟨some 71, .fieldAddr 0 (.tmp 10), none⟩,
     ⟨none, .store 1 (.tmp 71) (.tmp 70), none⟩] [])
    .skip))
    (.seq (.seq (.region [
    ⟨some 72, .mov (.tmp 0), none⟩,
    ⟨some 73, .fieldAddr 1 (.tmp 5), none⟩,
    ⟨some 74, .loadN 4 (.tmp 73), none⟩,
    ⟨some 75, .loadN 3 (.tmp 10), none⟩,
    ⟨some 76, .fieldAddr 8 (.tmp 5), none⟩,
    ⟨some 77, .loadN 3 (.tmp 76), none⟩,
    ⟨some 78, .call 17 #[(.tmp 72), (.tmp 74), (.tmp 75), (.tmp 77)], none⟩,
    ⟨some 79, .fieldAddr 0 (.tmp 10), none⟩,
    ⟨some 80, .load1 (.tmp 79), none⟩,
    ⟨some 81, .mov (.tmp 9), none⟩,
    ⟨some 82, .bin .eql (.tmp 80) (.tmp 81), none⟩,
    ⟨some 83, .eqv true .bool (.tmp 78) (.tmp 82), none⟩] [(8, 0)])
    (.cond (.tmp 83) (.seq (.region [
     ⟨some 6, .mov (.const (.bool false)), none⟩] [])
     .ret)
    .skip))
    (.seq (.seq (.region [
    ⟨some 84, .fieldAddr 0 (.tmp 10), none⟩,
    ⟨some 85, .load1 (.tmp 84), none⟩,
    ⟨some 86, .mov (.tmp 9), none⟩,
    ⟨some 87, .bin .eql (.tmp 85) (.tmp 86), none⟩] [])
    (.cond (.tmp 87) (.region [
     ⟨some 88, .mov (.tmp 1), none⟩,
     ⟨some 89, .loadN 3 (.tmp 7), none⟩,
     ⟨some 90, .fieldAddr 1 (.tmp 5), none⟩,
     ⟨some 91, .fieldAddr 3 (.tmp 90), none⟩,
     ⟨some 92, .load1 (.tmp 91), none⟩,
     ⟨some 93, .fieldAddr 8 (.tmp 5), none⟩,
     ⟨some 94, .fieldAddr 0 (.tmp 93), none⟩,
     ⟨some 95, .load1 (.tmp 94), none⟩,
     ⟨some 96, .fieldAddr 8 (.tmp 5), none⟩,
     ⟨some 97, .fieldAddr 1 (.tmp 96), none⟩,
     ⟨some 98, .load1 (.tmp 97), none⟩,
     ⟨some 99, .call 67 #[(.tmp 88), (.tmp 89), (.tmp 92), (.tmp 95), (.tmp 98)], none⟩] [])
    .skip))
    (.seq (.region [
    ⟨some 6, .mov (.const (.bool true)), none⟩] [])
    .ret)))))
   (.seq (.region [
    ⟨some 101, .bin .eql (.tmp 26) (.const (.int .i64 5)), none⟩,
    ⟨some 100, .mov (.tmp 101), none⟩] [])
    (.cond (.tmp 100) (.seq (.region [
     ⟨some 102, .mov (.tmp 1), none⟩,
     ⟨some 103, .nilCheck (.tmp 102), none⟩,
     ⟨some 104, .fieldAddr 0 (.tmp 103), none⟩,
     ⟨some 105, .loadN 3 (.tmp 8), none⟩,
     ⟨some 106, .mov (.tmp 9), none⟩,
     ⟨some 107, .fieldAddr 8 (.tmp 5), none⟩,
     ⟨some 108, .fieldAddr 0 (.tmp 107), none⟩,
     ⟨some 109, .load1 (.tmp 108), none⟩,
     ⟨some 110, .bin .add (.tmp 106) (.tmp 109), none⟩,
     ⟨some 111, .call 68 #[(.tmp 104), (.tmp 105), (.tmp 110)], none⟩] [])
     (.seq (.region [
     ⟨some 112, .mov (.tmp 0), none⟩,
     ⟨some 113, .fieldAddr 1 (.tmp 5), none⟩,
     ⟨some 114, .loadN 4 (.tmp 113), none⟩,
     ⟨some 115, .fieldAddr 8 (.tmp 5), none⟩,
     ⟨some 116, .fieldAddr 0 (.tmp 115), none⟩,
     ⟨some 117, .load1 (.tmp 116), none⟩,
     ⟨some 118, .call 18 #[(.tmp 112), (.tmp 114), (.tmp 117)], none⟩,
     ⟨some 119, .mov (.tmp 9), none⟩,
     ⟨some 120, .bin .eql (.tmp 118) (.tmp 119), none⟩,
     ⟨some 6, .mov (.tmp 120), none⟩] [])
     .ret))
    (.seq (.region [
     ⟨some 122, .bin .eql (.tmp 26) (.const (.int .i64 6)), none⟩,
     ⟨some 121, .mov (.tmp 122), none⟩] [])
     (.cond (.tmp 121) (.seq (.region [
      ⟨some 123, .mov (.tmp 0), none⟩,
      ⟨some 124, .fieldAddr 1 (.tmp 7), none⟩,
      ⟨some 125, .load1 (.tmp 124), none⟩,
      ⟨some 126, .call 19 #[(.tmp 123), (.tmp 125)], none⟩,
      ⟨some 127, .mov (.tmp 1), none⟩,
      ⟨some 128, .nilCheck (.tmp 127), none⟩,
      ⟨some 129, .fieldAddr 2 (.tmp 128), none⟩,
      ⟨some 130, .fieldAddr 1 (.tmp 7), none⟩,
      ⟨some 131, .load1 (.tmp 130), none⟩,
      ⟨some 132, .call 69 #[(.tmp 129), (.tmp 131)], none⟩,
      ⟨some 133, .bin .eql (.tmp 126) (.tmp 132), none⟩,
      ⟨some 6, .mov (.tmp 133), none⟩] [(8, 0)])
      .ret)
     (.seq (.region [
      ⟨some 135, .bin .eql (.tmp 26) (.const (.int .i64 7)), none⟩,
      ⟨some 134, .mov (.tmp 135), none⟩] [])
      (.cond (.tmp 134) (.seq (.region [
       ⟨some 136, .mov (.tmp 0), none⟩,
       ⟨some 137, .loadN 3 (.tmp 7), none⟩,
       ⟨some 138, .call 20 #[(.tmp 136), (.tmp 137)], none⟩,
       ⟨some 139, .mov (.tmp 1), none⟩,
       ⟨some 140, .nilCheck (.tmp 139), none⟩,
       ⟨some 141, .fieldAddr 0 (.tmp 140), none⟩,
       ⟨some 142, .loadN 3 (.tmp 7), none⟩,
       ⟨some 143, .mov (.tmp 1), none⟩,
       ⟨some 144, .nilCheck (.tmp 143), none⟩,
       ⟨some 145, .fieldAddr 2 (.tmp 144), none⟩,
       ⟨some 146, .fieldAddr 1 (.tmp 7), none⟩,
       ⟨some 147, .load1 (.tmp 146), none⟩,
       ⟨some 148, .call 70 #[(.tmp 145), (.tmp 147)], none⟩,
       ⟨some 149, .call 65 #[(.tmp 142), (.tmp 148)], none⟩,
       ⟨some 150, .call 66 #[(.tmp 141), (.tmp 149)], none⟩,
       ⟨some 151, .bin .eql (.tmp 138) (.tmp 150), none⟩,
       ⟨some 6, .mov (.tmp 151), none⟩] [(6, 0), (6, 2), (11, 0)])
       .ret)
      .skip))))))))))))))
 (.seq (.region [
 ⟨some 152, .fieldAddr 2 (.tmp 7), none⟩,
 ⟨some 153, .load1 (.tmp 152), none⟩,
 ⟨some 154, .call 25 #[(.const (.int .i64 1)), (.tmp 153)], none⟩,
 ⟨some 11, .alloc #[(.int .i64 0), (.int .i64 0), (.int .i64 0)], none⟩,
 ⟨none, .store 3 (.tmp 11) (.tmp 154), none⟩] [])
 (.seq (.seq (.region [
 ⟨some 155, .loadN 3 (.tmp 11), none⟩,
 ⟨some 156, .call 26 #[(.tmp 155)], none⟩,
 ⟨some 157, .un .not (.tmp 156), none⟩] [])
 (.cond (.tmp 157) (.seq (.region [
  ⟨some 158, .mov (.tmp 0), none⟩,
  ⟨some 159, .fieldAddr 1 (.tmp 5), none⟩,
  ⟨some 160, .fieldAddr 3 (.tmp 159), none⟩,
  ⟨some 161, .load1 (.tmp 160), none⟩,
  ⟨some 162, .fieldAddr 2 (.tmp 7), none⟩,
  ⟨some 163, .load1 (.tmp 162), none⟩,
  ⟨some 164, .call 23 #[(.tmp 158), (.tmp 161), (.tmp 163)], none⟩,
  ⟨some 165, .bin .eql (.tmp 164) (.const (.int .u64 0)), none⟩,
  ⟨some 6, .mov (.tmp 165), none⟩] [])
  .ret)
 .skip))
 (.seq (.region [
 ⟨some 166, .mov (.tmp 0), none⟩,
 ⟨some 167, .fieldAddr 1 (.tmp 5), none⟩,
 ⟨some 168, .fieldAddr 3 (.tmp 167), none⟩,
 ⟨some 169, .load1 (.tmp 168), none⟩,
 ⟨some 170, .fieldAddr 2 (.tmp 7), none⟩,
 ⟨some 171, .load1 (.tmp 170), none⟩,
 ⟨some 172, .call 23 #[(.tmp 166), (.tmp 169), (.tmp 171)], none⟩,
 ⟨some 173, .mov (.tmp 1), none⟩,
 ⟨some 174, .nilCheck (.tmp 173), none⟩,
 ⟨some 175, .fieldAddr 0 (.tmp 174), none⟩,
 ⟨some 176, .loadN 3 (.tmp 11), none⟩,
 ⟨some 177, .fieldAddr 1 (.tmp 5), none⟩,
 ⟨some 178, .fieldAddr 3 (.tmp 177), none⟩,
 ⟨some 179, .load1 (.tmp 178), none⟩,
 ⟨some 180, .call 65 #[(.tmp 176), (.tmp 179)], none⟩,
 ⟨some 181, .call 66 #[(.tmp 175), (.tmp 180)], none⟩,
 ⟨some 182, .bin .eql (.tmp 172) (.tmp 181), none⟩,
 ⟨some 6, .mov (.tmp 182), none⟩] [(10, 0), (13, 0)])
 .ret)))))))) }
theorem c27 : bfunc Try.prog 27 = some b27 := by kernel_rfl

/-- (*revenant/soul.Souls).Count -/
def b28 : BFunc := { ntmps := 10, results := [.tmp 2], body :=
 (.seq (.region [
 ⟨some 2, .mov (.const (.int .i64 0)), none⟩] [])
 (.seq (.seq (.region [
 ⟨some 3, .mov (.tmp 0), none⟩,
 ⟨some 4, .eqv false .ptr (.tmp 3) (.const (.pointer none)), none⟩] [])
 (.cond (.tmp 4) (.seq (.region [
  ⟨some 2, .mov (.const (.int .i64 0)), none⟩] [])
  .ret)
 .skip))
 (.seq (.region [
 ⟨some 5, .mov (.tmp 0), none⟩,
 ⟨some 6, .nilCheck (.tmp 5), none⟩,
 ⟨some 7, .fieldAddr 1 (.tmp 6), none⟩,
 ⟨some 8, .load1 (.tmp 7), none⟩,
 ⟨some 9, .lenS (.tmp 8), none⟩,
 ⟨some 2, .mov (.tmp 9), none⟩] [])
 .ret))) }
theorem c28 : bfunc Try.prog 28 = some b28 := by kernel_rfl

/-- revenant/revenantlaw21.awake -/
def b29 : BFunc := { ntmps := 89, results := [.tmp 0], body :=
 (.seq (.region [
 ⟨some 0, .mov (.const (.bool false)), none⟩] [])
 (.seq (.region [
 ⟨some 13, .build #[(.int .i64 0), (.int .u64 0), (.int .u64 0), (.int .u64 0), (.int .u64 0), (.int .u64 0), (.int .u64 0), (.int .u64 0), (.int .u64 0), (.int .u64 0), (.int .u64 0), (.int .u64 0), (.int .u64 0), (.int .u64 0), (.int .u64 0), (.int .u64 0), (.int .u64 0), (.int .u64 0), (.int .u64 0), (.int .u64 0), (.int .u64 0), (.int .u64 0), (.int .u64 0), (.int .u64 0), (.int .u64 0), (.int .u64 0), (.int .u64 0), (.int .u64 0), (.int .u64 0), (.int .u64 0), (.int .u64 0), (.int .u64 0), (.int .u64 0)] [], none⟩,
 ⟨some 1, .alloc #[(.int .i64 0), (.int .u64 0), (.int .u64 0), (.int .u64 0), (.int .u64 0), (.int .u64 0), (.int .u64 0), (.int .u64 0), (.int .u64 0), (.int .u64 0), (.int .u64 0), (.int .u64 0), (.int .u64 0), (.int .u64 0), (.int .u64 0), (.int .u64 0), (.int .u64 0), (.int .u64 0), (.int .u64 0), (.int .u64 0), (.int .u64 0), (.int .u64 0), (.int .u64 0), (.int .u64 0), (.int .u64 0), (.int .u64 0), (.int .u64 0), (.int .u64 0), (.int .u64 0), (.int .u64 0), (.int .u64 0), (.int .u64 0), (.int .u64 0)], none⟩,
 ⟨none, .store 33 (.tmp 1) (.tmp 13), none⟩] [])
 (.seq (.region [
 ⟨some 15, .loadN 33 (.tmp 1), none⟩,
 ⟨some 16, .build #[(.int .i64 0), (.int .u64 0), (.int .u64 0), (.int .i64 0)] [(0, 1, (.const (.int .i64 4))), (1, 1, (.const (.int .u64 1))), (2, 1, (.const (.int .u64 5)))], none⟩,
 ⟨some 17, .call 30 #[(.tmp 15), (.tmp 16)], none⟩,
 ⟨some 14, .mov (.tmp 17), none⟩,
 ⟨some 18, .extract (.tmp 14) 0, none⟩,
 ⟨some 19, .extract (.tmp 14) 1, none⟩,
 ⟨some 20, .extract (.tmp 14) 2, none⟩,
 ⟨some 2, .alloc #[(.int .i64 0), (.bool false), (.int .u64 0)], none⟩,
 ⟨none, .store 33 (.tmp 1) (.tmp 18), none⟩,
 ⟨none, .store 3 (.tmp 2) (.tmp 19), none⟩,
 ⟨some 3, .mov (.tmp 20), none⟩] [])
 (.seq (.region [
 ⟨some 22, .loadN 33 (.tmp 1), none⟩,
 ⟨some 23, .build #[(.int .i64 0), (.int .u64 0), (.int .u64 0), (.int .i64 0)] [(0, 1, (.const (.int .i64 5))), (1, 1, (.const (.int .u64 1))), (2, 1, (.const (.int .u64 6)))], none⟩,
 ⟨some 24, .call 30 #[(.tmp 22), (.tmp 23)], none⟩,
 ⟨some 21, .mov (.tmp 24), none⟩,
 ⟨some 25, .extract (.tmp 21) 0, none⟩,
 ⟨some 26, .extract (.tmp 21) 1, none⟩,
 ⟨some 27, .extract (.tmp 21) 2, none⟩,
 ⟨some 4, .alloc #[(.int .i64 0), (.int .u64 0), (.int .u64 0), (.int .u64 0), (.int .u64 0), (.int .u64 0), (.int .u64 0), (.int .u64 0), (.int .u64 0), (.int .u64 0), (.int .u64 0), (.int .u64 0), (.int .u64 0), (.int .u64 0), (.int .u64 0), (.int .u64 0), (.int .u64 0), (.int .u64 0), (.int .u64 0), (.int .u64 0), (.int .u64 0), (.int .u64 0), (.int .u64 0), (.int .u64 0), (.int .u64 0), (.int .u64 0), (.int .u64 0), (.int .u64 0), (.int .u64 0), (.int .u64 0), (.int .u64 0), (.int .u64 0), (.int .u64 0)], none⟩,
 ⟨some 5, .alloc #[(.int .i64 0), (.bool false), (.int .u64 0)], none⟩,
 ⟨none, .store 33 (.tmp 4) (.tmp 25), none⟩,
 ⟨none, .store 3 (.tmp 5) (.tmp 26), none⟩,
 ⟨some 6, .mov (.tmp 27), none⟩] [])
 (.seq (.region [
 ⟨some 29, .loadN 33 (.tmp 4), none⟩,
 ⟨some 30, .call 32 #[(.tmp 29), (.const (.int .u64 1))], none⟩,
 ⟨some 28, .mov (.tmp 30), none⟩,
 ⟨some 31, .extract (.tmp 28) 0, none⟩,
 ⟨some 32, .extract (.tmp 28) 1, none⟩,
 ⟨some 7, .mov (.tmp 31), none⟩,
 ⟨some 8, .mov (.tmp 32), none⟩] [])
 (.seq (.region [
 ⟨some 34, .loadN 33 (.tmp 4), none⟩,
 ⟨some 35, .build #[(.int .i64 0), (.int .u64 0), (.int .u64 0), (.int .i64 0)] [(0, 1, (.const (.int .i64 1))), (1, 1, (.const (.int .u64 2)))], none⟩,
 ⟨some 36, .build #[(.int .i64 0), (.bool false), (.int .u64 0)] [(0, 1, (.const (.int .i64 6)))], none⟩,
 ⟨some 37, .call 39 #[(.tmp 34), (.tmp 35), (.tmp 36)], none⟩,
 ⟨some 33, .mov (.tmp 37), none⟩,
 ⟨some 38, .extract (.tmp 33) 0, none⟩,
 ⟨some 39, .extract (.tmp 33) 1, none⟩,
 ⟨some 9, .alloc #[(.int .i64 0), (.int .u64 0), (.int .u64 0), (.int .u64 0), (.int .u64 0), (.int .u64 0), (.int .u64 0), (.int .u64 0), (.int .u64 0), (.int .u64 0), (.int .u64 0), (.int .u64 0), (.int .u64 0), (.int .u64 0), (.int .u64 0), (.int .u64 0), (.int .u64 0), (.int .u64 0), (.int .u64 0), (.int .u64 0), (.int .u64 0), (.int .u64 0), (.int .u64 0), (.int .u64 0), (.int .u64 0), (.int .u64 0), (.int .u64 0), (.int .u64 0), (.int .u64 0), (.int .u64 0), (.int .u64 0), (.int .u64 0), (.int .u64 0)], none⟩,
 ⟨none, .store 33 (.tmp 9) (.tmp 38), none⟩,
 ⟨some 10, .mov (.tmp 39), none⟩] [])
 (.seq (.region [
 ⟨some 41, .loadN 33 (.tmp 4), none⟩,
 ⟨some 42, .build #[(.int .i64 0), (.int .u64 0), (.int .u64 0), (.int .i64 0)] [(0, 1, (.const (.int .i64 7))), (1, 1, (.const (.int .u64 1)))], none⟩,
 ⟨some 43, .build #[(.int .i64 0), (.bool false), (.int .u64 0)] [], none⟩,
 ⟨some 44, .call 39 #[(.tmp 41), (.tmp 42), (.tmp 43)], none⟩,
 ⟨some 40, .mov (.tmp 44), none⟩,
 ⟨some 45, .extract (.tmp 40) 0, none⟩,
 ⟨some 46, .extract (.tmp 40) 1, none⟩,
 ⟨some 11, .alloc #[(.int .i64 0), (.int .u64 0), (.int .u64 0), (.int .u64 0), (.int .u64 0), (.int .u64 0), (.int .u64 0), (.int .u64 0), (.int .u64 0), (.int .u64 0), (.int .u64 0), (.int .u64 0), (.int .u64 0), (.int .u64 0), (.int .u64 0), (.int .u64 0), (.int .u64 0), (.int .u64 0), (.int .u64 0), (.int .u64 0), (.int .u64 0), (.int .u64 0), (.int .u64 0), (.int .u64 0), (.int .u64 0), (.int .u64 0), (.int .u64 0), (.int .u64 0), (.int .u64 0), (.int .u64 0), (.int .u64 0), (.int .u64 0), (.int .u64 0)], none⟩,
 ⟨none, .store 33 (.tmp 11) (.tmp 45), none⟩,
 ⟨some 12, .mov (.tmp 46), none⟩] [])
 (.seq (.region [
 ⟨some 47, .loadN 3 (.tmp 2), none⟩,
 ⟨some 48, .build #[(.int .i64 0), (.bool false), (.int .u64 0)] [], none⟩,
 ⟨some 49, .eqv false (.agg [.int, .bool, .int]) (.tmp 47) (.tmp 48), none⟩,
 ⟨some 50, .mov (.tmp 49), none⟩,
 ⟨some 51, .mov (.tmp 3), some (50, true)⟩,
 ⟨some 52, .bin .eql (.tmp 51) (.const (.int .i64 0)), some (50, true)⟩,
 ⟨some 53, .pick (.tmp 50) (.tmp 52) (.const (.bool false)), none⟩,
 ⟨some 54, .mov (.tmp 53), none⟩,
 ⟨some 55, .loadN 3 (.tmp 5), some (54, true)⟩,
 ⟨some 56, .build #[(.int .i64 0), (.bool false), (.int .u64 0)] [(2, 1, (.const (.int .u64 5)))], some (54, true)⟩,
 ⟨some 57, .eqv false (.agg [.int, .bool, .int]) (.tmp 55) (.tmp 56), some (54, true)⟩,
 ⟨some 58, .pick (.tmp 54) (.tmp 57) (.const (.bool false)), none⟩,
 ⟨some 59, .mov (.tmp 58), none⟩,
 ⟨some 60, .mov (.tmp 6), some (59, true)⟩,
 ⟨some 61, .bin .eql (.tmp 60) (.const (.int .i64 0)), some (59, true)⟩,
 ⟨some 62, .pick (.tmp 59) (.tmp 61) (.const (.bool false)), none⟩,
 ⟨some 63, .mov (.tmp 62), none⟩,
 ⟨some 64, .mov (.tmp 7), some (63, true)⟩,
 ⟨some 65, .bin .eql (.tmp 64) (.const (.int .u64 5)), some (63, true)⟩,
 ⟨some 66, .pick (.tmp 63) (.tmp 65) (.const (.bool false)), none⟩,
 ⟨some 67, .mov (.tmp 66), none⟩,
 ⟨some 68, .mov (.tmp 8), some (67, true)⟩,
 ⟨some 69, .pick (.tmp 67) (.tmp 68) (.const (.bool false)), none⟩,
 ⟨some 70, .mov (.tmp 69), none⟩,
 ⟨some 71, .loadN 33 (.tmp 1), some (70, true)⟩,
 ⟨some 72, .loadN 33 (.tmp 4), some (70, true)⟩,
 ⟨some 73, .eqv false (.agg [.int, .int, .int, .int, .int, .int, .int, .int, .int, .int, .int, .int, .int, .int, .int, .int, .int, .int, .int, .int, .int, .int, .int, .int, .int, .int, .int, .int, .int, .int, .int, .int, .int]) (.tmp 71) (.tmp 72), some (70, true)⟩,
 ⟨some 74, .pick (.tmp 70) (.tmp 73) (.const (.bool false)), none⟩,
 ⟨some 75, .mov (.tmp 74), none⟩,
 ⟨some 76, .mov (.tmp 10), some (75, true)⟩,
 ⟨some 77, .pick (.tmp 75) (.tmp 76) (.const (.bool false)), none⟩,
 ⟨some 78, .mov (.tmp 77), none⟩,
 ⟨some 79, .loadN 33 (.tmp 9), some (78, true)⟩,
 ⟨some 80, .loadN 33 (.tmp 4), some (78, true)⟩,
 ⟨some 81, .eqv false (.agg [.int, .int, .int, .int, .int, .int, .int, .int, .int, .int, .int, .int, .int, .int, .int, .int, .int, .int, .int, .int, .int, .int, .int, .int, .int, .int, .int, .int, .int, .int, .int, .int, .int]) (.tmp 79) (.tmp 80), some (78, true)⟩,
 ⟨some 82, .pick (.tmp 78) (.tmp 81) (.const (.bool false)), none⟩,
 ⟨some 83, .mov (.tmp 82), none⟩,
 ⟨some 84, .mov (.tmp 12), some (83, true)⟩,
 ⟨some 85, .un .not (.tmp 84), some (83, true)⟩,
 ⟨some 86, .pick (.tmp 83) (.tmp 85) (.const (.bool false)), none⟩,
 ⟨some 87, .mov (.tmp 86), none⟩,
 ⟨some 88, .pick (.tmp 87) (.const (.bool true)) (.const (.bool false)), none⟩,
 ⟨some 0, .mov (.tmp 88), none⟩] [])
 .ret)))))))) }
theorem c29 : bfunc Try.prog 29 = some b29 := by kernel_rfl

/-- (revenant/spec.State).Do -/
def b30 : BFunc := { ntmps := 100, results := [.cellN 33 4, .cellN 3 5, .tmp 6], body :=
 (.seq (.region [
 ⟨some 2, .box 33 (.tmp 0), none⟩,
 ⟨some 3, .box 4 (.tmp 1), none⟩,
 ⟨some 4, .alloc #[(.int .i64 0), (.int .u64 0), (.int .u64 0), (.int .u64 0), (.int .u64 0), (.int .u64 0), (.int .u64 0), (.int .u64 0), (.int .u64 0), (.int .u64 0), (.int .u64 0), (.int .u64 0), (.int .u64 0), (.int .u64 0), (.int .u64 0), (.int .u64 0), (.int .u64 0), (.int .u64 0), (.int .u64 0), (.int .u64 0), (.int .u64 0), (.int .u64 0), (.int .u64 0), (.int .u64 0), (.int .u64 0), (.int .u64 0), (.int .u64 0), (.int .u64 0), (.int .u64 0), (.int .u64 0), (.int .u64 0), (.int .u64 0), (.int .u64 0)], none⟩,
 ⟨some 5, .alloc #[(.int .i64 0), (.bool false), (.int .u64 0)], none⟩,
 ⟨some 6, .mov (.const (.int .i64 0)), none⟩] [])
 (.seq (.region [
 ⟨some 10, .loadN 33 (.tmp 2), none⟩,
 ⟨some 11, .fieldAddr 1 (.tmp 3), none⟩,
 ⟨some 12, .load1 (.tmp 11), none⟩,
 ⟨some 13, .call 32 #[(.tmp 10), (.tmp 12)], none⟩,
 ⟨some 9, .mov (.tmp 13), none⟩,
 ⟨some 14, .extract (.tmp 9) 0, none⟩,
 ⟨some 15, .extract (.tmp 9) 1, none⟩,
 ⟨some 7, .mov (.tmp 14), none⟩,
 ⟨some 8, .mov (.tmp 15), none⟩] [])
 (.seq (.seq (.region [
 ⟨some 16, .fieldAddr 0 (.tmp 3), none⟩,
 ⟨some 17, .load1 (.tmp 16), none⟩] [])
 (.block 0 (.seq (.region [
 ⟨some 19, .bin .eql (.tmp 17) (.const (.int .i64 1)), none⟩,
 ⟨some 18, .mov (.tmp 19), none⟩] [])
 (.cond (.tmp 18) (.seq (.region [
  ⟨some 20, .loadN 33 (.tmp 2), none⟩,
  ⟨some 21, .fieldAddr 1 (.tmp 3), none⟩,
  ⟨some 22, .load1 (.tmp 21), none⟩,
  ⟨some 23, .build #[(.int .u64 0), (.int .u64 0)] [(0, 1, (.tmp 22))], none⟩,
  ⟨some 24, .mov (.tmp 8), none⟩,
  ⟨some 25, .un .not (.tmp 24), none⟩,
  ⟨some 26, .mov (.tmp 8), none⟩,
  ⟨some 27, .un .not (.tmp 26), none⟩,
  ⟨some 28, .build #[(.int .i64 0), (.bool false), (.int .u64 0)] [(1, 1, (.tmp 27))], none⟩,
  ⟨some 29, .call 71 #[(.tmp 20), (.tmp 23), (.tmp 25), (.tmp 28)], none⟩,
  ⟨some 30, .extract (.tmp 29) 0, none⟩,
  ⟨some 31, .extract (.tmp 29) 1, none⟩,
  ⟨some 32, .extract (.tmp 29) 2, none⟩,
  ⟨none, .store 33 (.tmp 4) (.tmp 30), none⟩,
  ⟨none, .store 3 (.tmp 5) (.tmp 31), none⟩,
  ⟨some 6, .mov (.tmp 32), none⟩] [])
  .ret)
 (.seq (.region [
  ⟨some 34, .bin .eql (.tmp 17) (.const (.int .i64 4)), none⟩,
  ⟨some 33, .mov (.tmp 34), none⟩] [])
  (.cond (.tmp 33) (.seq (.region [
   ⟨some 35, .loadN 33 (.tmp 2), none⟩,
   ⟨some 36, .fieldAddr 1 (.tmp 3), none⟩,
   ⟨some 37, .load1 (.tmp 36), none⟩,
   ⟨some 38, .fieldAddr 2 (.tmp 3), none⟩,
   ⟨some 39, .load1 (.tmp 38), none⟩,
   ⟨some 40, .build #[(.int .u64 0), (.int .u64 0)] [(0, 1, (.tmp 37)), (1, 1, (.tmp 39))], none⟩,
   ⟨some 41, .mov (.tmp 8), none⟩,
   ⟨some 42, .mov (.tmp 7), none⟩,
   ⟨some 43, .build #[(.int .i64 0), (.bool false), (.int .u64 0)] [(1, 1, (.tmp 41)), (2, 1, (.tmp 42))], none⟩,
   ⟨some 44, .call 71 #[(.tmp 35), (.tmp 40), (.const (.bool true)), (.tmp 43)], none⟩,
   ⟨some 45, .extract (.tmp 44) 0, none⟩,
   ⟨some 46, .extract (.tmp 44) 1, none⟩,
   ⟨some 47, .extract (.tmp 44) 2, none⟩,
   ⟨none, .store 33 (.tmp 4) (.tmp 45), none⟩,
   ⟨none, .store 3 (.tmp 5) (.tmp 46), none⟩,
   ⟨some 6, .mov (.tmp 47), none⟩] [])
   .ret)
  (.seq (.region [
   ⟨some 49, .bin .eql (.tmp 17) (.const (.int .i64 5)), none⟩,
   ⟨some 48, .mov (.tmp 49), none⟩] [])
   (.cond (.tmp 48) (.seq (.region [
    ⟨some 50, .loadN 33 (.tmp 2), none⟩,
    ⟨some 51, .fieldAddr 1 (.tmp 3), none⟩,
    ⟨some 52, .load1 (.tmp 51), none⟩,
    ⟨some 53, .fieldAddr 2 (.tmp 3), none⟩,
    ⟨some 54, .load1 (.tmp 53), none⟩,
    ⟨some 55, .build #[(.int .u64 0), (.int .u64 0)] [(0, 1, (.tmp 52)), (1, 1, (.tmp 54))], none⟩,
    ⟨some 56, .mov (.tmp 8), none⟩,
    ⟨some 57, .un .not (.tmp 56), none⟩,
    ⟨some 58, .mov (.tmp 8), none⟩,
    ⟨some 59, .un .not (.tmp 58), none⟩,
    ⟨some 60, .mov (.tmp 7), none⟩,
    ⟨some 61, .build #[(.int .i64 0), (.bool false), (.int .u64 0)] [(1, 1, (.tmp 59)), (2, 1, (.tmp 60))], none⟩,
    ⟨some 62, .call 71 #[(.tmp 50), (.tmp 55), (.tmp 57), (.tmp 61)], none⟩,
    ⟨some 63, .extract (.tmp 62) 0, none⟩,
    ⟨some 64, .extract (.tmp 62) 1, none⟩,
    ⟨some 65, .extract (.tmp 62) 2, none⟩,
    ⟨none, .store 33 (.tmp 4) (.tmp 63), none⟩,
    ⟨none, .store 3 (.tmp 5) (.tmp 64), none⟩,
    ⟨some 6, .mov (.tmp 65), none⟩] [])
    .ret)
   (.seq (.region [
    ⟨some 67, .bin .eql (.tmp 17) (.const (.int .i64 2)), none⟩,
    ⟨some 66, .mov (.tmp 67), none⟩] [])
    (.cond (.tmp 66) (.seq (.region [
     ⟨some 68, .loadN 33 (.tmp 2), none⟩,
     ⟨some 69, .fieldAddr 1 (.tmp 3), none⟩,
     ⟨some 70, .load1 (.tmp 69), none⟩,
     ⟨some 71, .call 37 #[(.tmp 68), (.tmp 70)], none⟩,
     ⟨some 72, .mov (.tmp 8), none⟩,
     ⟨some 73, .build #[(.int .i64 0), (.bool false), (.int .u64 0)] [(1, 1, (.tmp 72))], none⟩,
     ⟨none, .store 33 (.tmp 4) (.tmp 71), none⟩,
     ⟨none, .store 3 (.tmp 5) (.tmp 73), none⟩,
     ⟨some 6, .mov (.const (.int .i64 0)), none⟩] [])
     .ret)
    (.seq (.region [
     ⟨some 75, .bin .eql (.tmp 17) (.const (.int .i64 6)), none⟩,
     ⟨some 74, .mov (.tmp 75), none⟩] [])
     (.cond (.tmp 74) (.seq (.region [
      ⟨some 76, .loadN 33 (.tmp 2), none⟩,
      ⟨some 77, .fieldAddr 1 (.tmp 3), none⟩,
      ⟨some 78, .load1 (.tmp 77), none⟩,
      ⟨some 79, .call 37 #[(.tmp 76), (.tmp 78)], none⟩,
      ⟨some 80, .mov (.tmp 8), none⟩,
      ⟨some 81, .mov (.tmp 7), none⟩,
      ⟨some 82, .build #[(.int .i64 0), (.bool false), (.int .u64 0)] [(1, 1, (.tmp 80)), (2, 1, (.tmp 81))], none⟩,
      ⟨none, .store 33 (.tmp 4) (.tmp 79), none⟩,
      ⟨none, .store 3 (.tmp 5) (.tmp 82), none⟩,
      ⟨some 6, .mov (.const (.int .i64 0)), none⟩] [])
      .ret)
     (.seq (.region [
      ⟨some 84, .bin .eql (.tmp 17) (.const (.int .i64 3)), none⟩,
      ⟨some 83, .mov (.tmp 84), none⟩] [])
      (.cond (.tmp 83) (.seq (.region [
       ⟨some 85, .loadN 33 (.tmp 2), none⟩,
       ⟨some 86, .mov (.tmp 8), none⟩,
       ⟨some 87, .build #[(.int .i64 0), (.bool false), (.int .u64 0)] [(1, 1, (.tmp 86))], none⟩,
       ⟨none, .store 33 (.tmp 4) (.tmp 85), none⟩,
       ⟨none, .store 3 (.tmp 5) (.tmp 87), none⟩,
       ⟨some 6, .mov (.const (.int .i64 0)), none⟩] [])
       .ret)
      (.seq (.region [
       ⟨some 89, .bin .eql (.tmp 17) (.const (.int .i64 7)), none⟩,
       ⟨some 88, .mov (.tmp 89), none⟩] [])
       (.cond (.tmp 88) (.seq (.region [
        ⟨some 90, .loadN 33 (.tmp 2), none⟩,
        ⟨some 91, .mov (.tmp 8), none⟩,
        ⟨some 92, .mov (.tmp 7), none⟩,
        ⟨some 93, .build #[(.int .i64 0), (.bool false), (.int .u64 0)] [(1, 1, (.tmp 91)), (2, 1, (.tmp 92))], none⟩,
        ⟨none, .store 33 (.tmp 4) (.tmp 90), none⟩,
        ⟨none, .store 3 (.tmp 5) (.tmp 93), none⟩,
        ⟨some 6, .mov (.const (.int .i64 0)), none⟩] [])
        .ret)
       (.seq (.region [
        ⟨some 95, .bin .eql (.tmp 17) (.const (.int .i64 8)), none⟩,
        ⟨some 94, .mov (.tmp 95), none⟩] [])
        (.cond (.tmp 94) (.seq (.region [
         ⟨some 96, .loadN 33 (.tmp 2), none⟩,
         ⟨some 97, .build #[(.int .i64 0), (.bool false), (.int .u64 0)] [(1, 1, (.const (.bool true)))], none⟩,
         ⟨none, .store 33 (.tmp 4) (.tmp 96), none⟩,
         ⟨none, .store 3 (.tmp 5) (.tmp 97), none⟩,
         ⟨some 6, .mov (.const (.int .i64 0)), none⟩] [])
         .ret)
        .skip))))))))))))))))))
 (.seq (.region [
 ⟨some 98, .build #[(.int .i64 0), (.int .u64 0), (.int .u64 0), (.int .u64 0), (.int .u64 0), (.int .u64 0), (.int .u64 0), (.int .u64 0), (.int .u64 0), (.int .u64 0), (.int .u64 0), (.int .u64 0), (.int .u64 0), (.int .u64 0), (.int .u64 0), (.int .u64 0), (.int .u64 0), (.int .u64 0), (.int .u64 0), (.int .u64 0), (.int .u64 0), (.int .u64 0), (.int .u64 0), (.int .u64 0), (.int .u64 0), (.int .u64 0), (.int .u64 0), (.int .u64 0), (.int .u64 0), (.int .u64 0), (.int .u64 0), (.int .u64 0), (.int .u64 0)] [], none⟩,
 ⟨some 99, .build #[(.int .i64 0), (.bool false), (.int .u64 0)] [], none⟩,
 ⟨none, .store 33 (.tmp 4) (.tmp 98), none⟩,
 ⟨none, .store 3 (.tmp 5) (.tmp 99), none⟩,
 ⟨some 6, .mov (.const (.int .i64 8)), none⟩] [])
 .ret)))) }
theorem c30 : bfunc Try.prog 30 = some b30 := by kernel_rfl

/-- (revenant/revenantref21.State).Do -/
def b31 : BFunc := { ntmps := 104, results := [.cellN 1 4, .cellN 3 5, .tmp 6], body :=
 (.seq (.region [
 ⟨some 2, .box 1 (.tmp 0), none⟩,
 ⟨some 3, .box 4 (.tmp 1), none⟩,
 ⟨some 4, .alloc #[(.slice none 0 0)], none⟩,
 ⟨some 5, .alloc #[(.int .i64 0), (.bool false), (.int .u64 0)], none⟩,
 ⟨some 6, .mov (.const (.int .i64 0)), none⟩] [])
 (.seq (.region [
 ⟨some 12, .loadN 1 (.tmp 2), none⟩,
 ⟨some 13, .fieldAddr 1 (.tmp 3), none⟩,
 ⟨some 14, .load1 (.tmp 13), none⟩,
 ⟨some 15, .call 33 #[(.tmp 12), (.tmp 14)], none⟩,
 ⟨some 11, .mov (.tmp 15), none⟩,
 ⟨some 16, .extract (.tmp 11) 0, none⟩,
 ⟨some 17, .extract (.tmp 11) 1, none⟩,
 ⟨some 7, .mov (.tmp 16), none⟩,
 ⟨some 8, .mov (.tmp 17), none⟩] [])
 (.seq (.region [
 ⟨some 18, .loadN 1 (.tmp 2), none⟩,
 ⟨some 9, .alloc #[(.slice none 0 0)], none⟩,
 ⟨none, .store 1 (.tmp 9) (.tmp 18), none⟩] [])
 (.seq (.region [
 ⟨some 19, .build #[(.int .i64 0), (.bool false), (.int .u64 0)] [], none⟩,
 ⟨some 10, .alloc #[(.int .i64 0), (.bool false), (.int .u64 0)], none⟩,
 ⟨none, .store 3 (.tmp 10) (.tmp 19), none⟩] [])
 (.seq (.seq (.region [
 ⟨some 20, .fieldAddr 0 (.tmp 3), none⟩,
 ⟨some 21, .load1 (.tmp 20), none⟩] [])
 (.block 0 (.seq (.region [
 ⟨some 25, .bin .eql (.tmp 21) (.const (.int .i64 1)), none⟩,
 ⟨some 24, .mov (.tmp 25), none⟩] [])
 (.cond (.tmp 24) (.seq (.region [
  ⟨some 26, .mov (.tmp 8), none⟩,
  ⟨some 27, .un .not (.tmp 26), none⟩,
  ⟨some 28, .fieldAddr 1 (.tmp 10), none⟩,
  ⟨none, .store 1 (.tmp 28) (.tmp 27), none⟩] [])
  (.seq (.region [
  ⟨some 29, .mov (.tmp 8), none⟩,
  ⟨some 30, .un .not (.tmp 29), none⟩] [])
  (.cond (.tmp 30) (.region [
   ⟨some 31, .loadN 1 (.tmp 2), none⟩,
   ⟨some 32, .fieldAddr 1 (.tmp 3), none⟩,
   ⟨some 33, .load1 (.tmp 32), none⟩,
   ⟨some 34, .build #[(.int .u64 0), (.int .u64 0)] [(0, 1, (.tmp 33)), (1, 1, (.const (.int .u64 0)))], none⟩,
   ⟨some 35, .call 38 #[(.tmp 31), (.tmp 34)], none⟩,
   ⟨none, .store 1 (.tmp 9) (.tmp 35), none⟩] [])
  .skip)))
 (.seq (.region [
  ⟨some 37, .bin .eql (.tmp 21) (.const (.int .i64 2)), none⟩,
  ⟨some 36, .mov (.tmp 37), none⟩] [])
  (.cond (.tmp 36) (.seq (.region [
   ⟨some 38, .mov (.tmp 8), none⟩,
   ⟨some 39, .fieldAddr 1 (.tmp 10), none⟩,
   ⟨none, .store 1 (.tmp 39) (.tmp 38), none⟩] [])
   (.region [
   ⟨some 40, .loadN 1 (.tmp 2), none⟩,
   ⟨some 41, .fieldAddr 1 (.tmp 3), none⟩,
   ⟨some 42, .load1 (.tmp 41), none⟩,
   ⟨some 43, .call 41 #[(.tmp 40), (.tmp 42)], none⟩,
   ⟨none, .store 1 (.tmp 9) (.tmp 43), none⟩] []))
  (.seq (.region [
   ⟨some 45, .bin .eql (.tmp 21) (.const (.int .i64 3)), none⟩,
   ⟨some 44, .mov (.tmp 45), none⟩] [])
   (.cond (.tmp 44) (.region [
    ⟨some 46, .mov (.tmp 8), none⟩,
    ⟨some 47, .fieldAddr 1 (.tmp 10), none⟩,
    ⟨none, .store 1 (.tmp 47) (.tmp 46), none⟩] [])
   (.seq (.region [
    ⟨some 49, .bin .eql (.tmp 21) (.const (.int .i64 4)), none⟩,
    ⟨some 48, .mov (.tmp 49), none⟩] [])
    (.cond (.tmp 48) (.seq (.region [
     ⟨some 50, .mov (.tmp 8), none⟩,
     ⟨some 51, .fieldAddr 1 (.tmp 10), none⟩,
     ⟨none, .store 1 (.tmp 51) (.tmp 50), none⟩] [])
     (.seq (.region [
     ⟨some 52, .mov (.tmp 7), none⟩,
     ⟨some 53, .fieldAddr 2 (.tmp 10), none⟩,
     ⟨none, .store 1 (.tmp 53) (.tmp 52), none⟩] [])
     (.region [
     ⟨some 54, .loadN 1 (.tmp 2), none⟩,
     ⟨some 55, .fieldAddr 1 (.tmp 3), none⟩,
     ⟨some 56, .load1 (.tmp 55), none⟩,
     ⟨some 57, .fieldAddr 2 (.tmp 3), none⟩,
     ⟨some 58, .load1 (.tmp 57), none⟩,
     ⟨some 59, .build #[(.int .u64 0), (.int .u64 0)] [(0, 1, (.tmp 56)), (1, 1, (.tmp 58))], none⟩,
     ⟨some 60, .call 38 #[(.tmp 54), (.tmp 59)], none⟩,
     ⟨none, .store 1 (.tmp 9) (.tmp 60), none⟩] [])))
    (.seq (.region [
     ⟨some 62, .bin .eql (.tmp 21) (.const (.int .i64 5)), none⟩,
     ⟨some 61, .mov (.tmp 62), none⟩] [])
     (.cond (.tmp 61) (.seq (.region [
      ⟨some 63, .mov (.tmp 8), none⟩,
      ⟨some 64, .un .not (.tmp 63), none⟩,
      ⟨some 65, .fieldAddr 1 (.tmp 10), none⟩,
      ⟨none, .store 1 (.tmp 65) (.tmp 64), none⟩] [])
      (.seq (.region [
      ⟨some 66, .mov (.tmp 7), none⟩,
      ⟨some 67, .fieldAddr 2 (.tmp 10), none⟩,
      ⟨none, .store 1 (.tmp 67) (.tmp 66), none⟩] [])
      (.seq (.region [
      ⟨some 68, .mov (.tmp 8), none⟩,
      ⟨some 69, .un .not (.tmp 68), none⟩] [])
      (.cond (.tmp 69) (.region [
       ⟨some 70, .loadN 1 (.tmp 2), none⟩,
       ⟨some 71, .fieldAddr 1 (.tmp 3), none⟩,
       ⟨some 72, .load1 (.tmp 71), none⟩,
       ⟨some 73, .fieldAddr 2 (.tmp 3), none⟩,
       ⟨some 74, .load1 (.tmp 73), none⟩,
       ⟨some 75, .build #[(.int .u64 0), (.int .u64 0)] [(0, 1, (.tmp 72)), (1, 1, (.tmp 74))], none⟩,
       ⟨some 76, .call 38 #[(.tmp 70), (.tmp 75)], none⟩,
       ⟨none, .store 1 (.tmp 9) (.tmp 76), none⟩] [])
      .skip))))
     (.seq (.region [
      ⟨some 78, .bin .eql (.tmp 21) (.const (.int .i64 6)), none⟩,
      ⟨some 77, .mov (.tmp 78), none⟩] [])
      (.cond (.tmp 77) (.seq (.region [
       ⟨some 79, .mov (.tmp 8), none⟩,
       ⟨some 80, .fieldAddr 1 (.tmp 10), none⟩,
       ⟨none, .store 1 (.tmp 80) (.tmp 79), none⟩] [])
       (.seq (.region [
       ⟨some 81, .mov (.tmp 7), none⟩,
       ⟨some 82, .fieldAddr 2 (.tmp 10), none⟩,
       ⟨none, .store 1 (.tmp 82) (.tmp 81), none⟩] [])
       (.region [
       ⟨some 83, .loadN 1 (.tmp 2), none⟩,
       ⟨some 84, .fieldAddr 1 (.tmp 3), none⟩,
       ⟨some 85, .load1 (.tmp 84), none⟩,
       ⟨some 86, .call 41 #[(.tmp 83), (.tmp 85)], none⟩,
       ⟨none, .store 1 (.tmp 9) (.tmp 86), none⟩] [])))
      (.seq (.region [
       ⟨some 88, .bin .eql (.tmp 21) (.const (.int .i64 7)), none⟩,
       ⟨some 87, .mov (.tmp 88), none⟩] [])
       (.cond (.tmp 87) (.seq (.region [
        ⟨some 89, .mov (.tmp 8), none⟩,
        ⟨some 90, .fieldAddr 1 (.tmp 10), none⟩,
        ⟨none, .store 1 (.tmp 90) (.tmp 89), none⟩] [])
        (.region [
        ⟨some 91, .mov (.tmp 7), none⟩,
        ⟨some 92, .fieldAddr 2 (.tmp 10), none⟩,
        ⟨none, .store 1 (.tmp 92) (.tmp 91), none⟩] []))
       (.seq (.region [
        ⟨some 94, .bin .eql (.tmp 21) (.const (.int .i64 8)), none⟩,
        ⟨some 93, .mov (.tmp 94), none⟩] [])
        (.cond (.tmp 93) (.region [
         ⟨some 95, .fieldAddr 1 (.tmp 10), none⟩,
         ⟨none, .store 1 (.tmp 95) (.const (.bool true)), none⟩] [])
        (.seq (.region [
         ⟨some 22, .build #[(.slice none 0 0)] [], none⟩,
         ⟨some 23, .loadN 3 (.tmp 10), none⟩,
         ⟨none, .store 1 (.tmp 4) (.tmp 22), none⟩,
         ⟨none, .store 3 (.tmp 5) (.tmp 23), none⟩,
         ⟨some 6, .mov (.const (.int .i64 8)), none⟩] [(1, 1)])
         .ret)))))))))))))))))))
 (.seq (.seq (.region [
 ⟨some 96, .fieldAddr 0 (.tmp 9), none⟩,
 ⟨some 97, .load1 (.tmp 96), none⟩,
 ⟨some 98, .lenS (.tmp 97), none⟩,
 ⟨some 99, .bin .gtr (.tmp 98) (.const (.int .i64 16)), none⟩] [])
 (.cond (.tmp 99) (.seq (.region [
  ⟨some 100, .build #[(.slice none 0 0)] [], none⟩,
  ⟨some 101, .build #[(.int .i64 0), (.bool false), (.int .u64 0)] [], none⟩,
  ⟨none, .store 1 (.tmp 4) (.tmp 100), none⟩,
  ⟨none, .store 3 (.tmp 5) (.tmp 101), none⟩,
  ⟨some 6, .mov (.const (.int .i64 6)), none⟩] [])
  .ret)
 .skip))
 (.seq (.region [
 ⟨some 102, .loadN 1 (.tmp 9), none⟩,
 ⟨some 103, .loadN 3 (.tmp 10), none⟩,
 ⟨none, .store 1 (.tmp 4) (.tmp 102), none⟩,
 ⟨none, .store 3 (.tmp 5) (.tmp 103), none⟩,
 ⟨some 6, .mov (.const (.int .i64 0)), none⟩] [(1, 1)])
 .ret))))))) }
theorem c31 : bfunc Try.prog 31 = some b31 := by kernel_rfl

/-- (revenant/spec.State).Get -/
def b32 : BFunc := { ntmps := 21, results := [.tmp 4, .tmp 5], body :=
 (.seq (.region [
 ⟨some 2, .box 33 (.tmp 0), none⟩,
 ⟨some 4, .mov (.const (.int .u64 0)), none⟩,
 ⟨some 5, .mov (.const (.bool false)), none⟩] [])
 (.seq (.region [
 ⟨some 9, .loadN 33 (.tmp 2), none⟩,
 ⟨some 10, .mov (.tmp 1), none⟩,
 ⟨some 11, .call 72 #[(.tmp 9), (.tmp 10)], none⟩,
 ⟨some 8, .mov (.tmp 11), none⟩,
 ⟨some 12, .extract (.tmp 8) 0, none⟩,
 ⟨some 13, .extract (.tmp 8) 1, none⟩,
 ⟨some 6, .mov (.tmp 12), none⟩,
 ⟨some 7, .mov (.tmp 13), none⟩] [])
 (.seq (.seq (.region [
 ⟨some 14, .mov (.tmp 7), none⟩,
 ⟨some 15, .un .not (.tmp 14), none⟩] [])
 (.cond (.tmp 15) (.seq (.region [
  ⟨some 4, .mov (.const (.int .u64 0)), none⟩,
  ⟨some 5, .mov (.const (.bool false)), none⟩] [])
  .ret)
 .skip))
 (.seq (.region [
 ⟨some 16, .mov (.tmp 6), none⟩,
 ⟨some 17, .fieldAddr 1 (.tmp 2), none⟩,
 ⟨some 18, .indexArr 16 2 (.tmp 17) (.tmp 16), none⟩,
 ⟨some 19, .fieldAddr 1 (.tmp 18), none⟩,
 ⟨some 20, .load1 (.tmp 19), none⟩,
 ⟨some 4, .mov (.tmp 20), none⟩,
 ⟨some 5, .mov (.const (.bool true)), none⟩] [])
 .ret)))) }
theorem c32 : bfunc Try.prog 32 = some b32 := by kernel_rfl

/-- (revenant/revenantref21.State).Get -/
def b33 : BFunc := { ntmps := 28, results := [.tmp 4, .tmp 5], body :=
 (.seq (.region [
 ⟨some 2, .box 1 (.tmp 0), none⟩,
 ⟨some 4, .mov (.const (.int .u64 0)), none⟩,
 ⟨some 5, .mov (.const (.bool false)), none⟩] [])
 (.seq (.seq (.region [
 ⟨some 6, .mov (.const (.int .i64 0)), none⟩] [])
 (.block 0 (.loop (.seq (.seq (.region [
 ⟨some 7, .mov (.tmp 6), none⟩,
 ⟨some 8, .fieldAddr 0 (.tmp 2), none⟩,
 ⟨some 9, .load1 (.tmp 8), none⟩,
 ⟨some 10, .lenS (.tmp 9), none⟩,
 ⟨some 11, .bin .lss (.tmp 7) (.tmp 10), none⟩] [])
 (.cond (.tmp 11) .skip
 (.exit 0)))
 (.seq (.block 1 (.seq (.region [
 ⟨some 14, .fieldAddr 0 (.tmp 2), none⟩,
 ⟨some 15, .load1 (.tmp 14), none⟩,
 ⟨some 16, .mov (.tmp 6), none⟩,
 ⟨some 17, .indexSl 2 (.tmp 15) (.tmp 16), none⟩,
 ⟨some 18, .fieldAddr 0 (.tmp 17), none⟩,
 ⟨some 19, .load1 (.tmp 18), none⟩,
 ⟨some 20, .mov (.tmp 1), none⟩,
 ⟨some 21, .bin .eql (.tmp 19) (.tmp 20), none⟩] [])
 (.cond (.tmp 21) (.seq (.region [
  ⟨some 22, .fieldAddr 0 (.tmp 2), none⟩,
  ⟨some 23, .load1 (.tmp 22), none⟩,
  ⟨some 24, .mov (.tmp 6), none⟩,
  ⟨some 25, .indexSl 2 (.tmp 23) (.tmp 24), none⟩,
  ⟨some 26, .fieldAddr 1 (.tmp 25), none⟩,
  ⟨some 27, .load1 (.tmp 26), none⟩,
  ⟨some 4, .mov (.tmp 27), none⟩,
  ⟨some 5, .mov (.const (.bool true)), none⟩] [])
  .ret)
 .skip)))
 (.region [
 ⟨some 12, .mov (.tmp 6), none⟩,
 ⟨some 13, .bin .add (.tmp 12) (.const (.int .i64 1)), none⟩,
 ⟨some 6, .mov (.tmp 13), none⟩] []))))))
 (.seq (.region [
 ⟨some 4, .mov (.const (.int .u64 0)), none⟩,
 ⟨some 5, .mov (.const (.bool false)), none⟩] [])
 .ret))) }
theorem c33 : bfunc Try.prog 33 = some b33 := by kernel_rfl

/-- revenant/revenantlaw21.alike -/
def b34 : BFunc := { ntmps := 54, results := [.tmp 4], body :=
 (.seq (.region [
 ⟨some 2, .box 33 (.tmp 0), none⟩,
 ⟨some 3, .box 1 (.tmp 1), none⟩,
 ⟨some 4, .mov (.const (.bool false)), none⟩] [])
 (.seq (.region [
 ⟨some 8, .loadN 33 (.tmp 2), none⟩,
 ⟨some 9, .call 73 #[(.tmp 8)], none⟩,
 ⟨some 5, .mov (.tmp 9), none⟩] [])
 (.seq (.region [
 ⟨some 10, .loadN 1 (.tmp 3), none⟩,
 ⟨some 11, .call 74 #[(.tmp 10)], none⟩,
 ⟨some 6, .mov (.tmp 11), none⟩] [])
 (.seq (.seq (.region [
 ⟨some 12, .mov (.tmp 5), none⟩,
 ⟨some 13, .lenS (.tmp 12), none⟩,
 ⟨some 14, .mov (.tmp 6), none⟩,
 ⟨some 15, .lenS (.tmp 14), none⟩,
 ⟨some 16, .bin .neq (.tmp 13) (.tmp 15), none⟩,
 ⟨some 17, .mov (.tmp 16), none⟩,
 ⟨some 18, .loadN 33 (.tmp 2), some (17, false)⟩,
 ⟨some 19, .call 75 #[(.tmp 18)], some (17, false)⟩,
 ⟨some 20, .mov (.tmp 6), some (17, false)⟩,
 ⟨some 21, .lenS (.tmp 20), some (17, false)⟩,
 ⟨some 22, .bin .neq (.tmp 19) (.tmp 21), some (17, false)⟩,
 ⟨some 23, .pick (.tmp 17) (.const (.bool true)) (.tmp 22), none⟩] [])
 (.cond (.tmp 23) (.seq (.region [
  ⟨some 4, .mov (.const (.bool false)), none⟩] [])
  .ret)
 .skip))
 (.seq (.seq (.region [
 ⟨some 7, .mov (.const (.int .i64 0)), none⟩] [])
 (.block 0 (.loop (.seq (.seq (.region [
 ⟨some 24, .mov (.tmp 7), none⟩,
 ⟨some 25, .mov (.tmp 5), none⟩,
 ⟨some 26, .lenS (.tmp 25), none⟩,
 ⟨some 27, .bin .lss (.tmp 24) (.tmp 26), none⟩] [])
 (.cond (.tmp 27) .skip
 (.exit 0)))
 (.seq (.block 1 (.seq (.region [
 ⟨some 30, .mov (.tmp 5), none⟩,
 ⟨some 31, .mov (.tmp 7), none⟩,
 ⟨some 32, .indexSl 2 (.tmp 30) (.tmp 31), none⟩,
 ⟨some 33, .fieldAddr 0 (.tmp 32), none⟩,
 ⟨some 34, .load1 (.tmp 33), none⟩,
 ⟨some 35, .mov (.tmp 6), none⟩,
 ⟨some 36, .mov (.tmp 7), none⟩,
 ⟨some 37, .indexSl 2 (.tmp 35) (.tmp 36), none⟩,
 ⟨some 38, .fieldAddr 0 (.tmp 37), none⟩,
 ⟨some 39, .load1 (.tmp 38), none⟩,
 ⟨some 40, .bin .neq (.tmp 34) (.tmp 39), none⟩,
 ⟨some 41, .mov (.tmp 40), none⟩,
 ⟨some 42, .mov (.tmp 5), some (41, false)⟩,
 ⟨some 43, .mov (.tmp 7), some (41, false)⟩,
 ⟨some 44, .indexSl 2 (.tmp 42) (.tmp 43), some (41, false)⟩,
 ⟨some 45, .fieldAddr 1 (.tmp 44), some (41, false)⟩,
 ⟨some 46, .load1 (.tmp 45), some (41, false)⟩,
 ⟨some 47, .mov (.tmp 6), some (41, false)⟩,
 ⟨some 48, .mov (.tmp 7), some (41, false)⟩,
 ⟨some 49, .indexSl 2 (.tmp 47) (.tmp 48), some (41, false)⟩,
 ⟨some 50, .fieldAddr 1 (.tmp 49), some (41, false)⟩,
 ⟨some 51, .load1 (.tmp 50), some (41, false)⟩,
 ⟨some 52, .bin .neq (.tmp 46) (.tmp 51), some (41, false)⟩,
 ⟨some 53, .pick (.tmp 41) (.const (.bool true)) (.tmp 52), none⟩] [])
 (.cond (.tmp 53) (.seq (.region [
  ⟨some 4, .mov (.const (.bool false)), none⟩] [])
  .ret)
 .skip)))
 (.region [
 ⟨some 28, .mov (.tmp 7), none⟩,
 ⟨some 29, .bin .add (.tmp 28) (.const (.int .i64 1)), none⟩,
 ⟨some 7, .mov (.tmp 29), none⟩] []))))))
 (.seq (.region [
 ⟨some 4, .mov (.const (.bool true)), none⟩] [])
 .ret)))))) }
theorem c34 : bfunc Try.prog 34 = some b34 := by kernel_rfl

/-- revenant/spec.New -/
def b35 : BFunc := { ntmps := 46, results := [.cellN 33 2, .tmp 3], body :=
 (.seq (.region [
 ⟨some 2, .alloc #[(.int .i64 0), (.int .u64 0), (.int .u64 0), (.int .u64 0), (.int .u64 0), (.int .u64 0), (.int .u64 0), (.int .u64 0), (.int .u64 0), (.int .u64 0), (.int .u64 0), (.int .u64 0), (.int .u64 0), (.int .u64 0), (.int .u64 0), (.int .u64 0), (.int .u64 0), (.int .u64 0), (.int .u64 0), (.int .u64 0), (.int .u64 0), (.int .u64 0), (.int .u64 0), (.int .u64 0), (.int .u64 0), (.int .u64 0), (.int .u64 0), (.int .u64 0), (.int .u64 0), (.int .u64 0), (.int .u64 0), (.int .u64 0), (.int .u64 0)], none⟩,
 ⟨some 3, .mov (.const (.int .i64 0)), none⟩] [])
 (.seq (.region [
 ⟨some 4, .alloc #[(.int .i64 0), (.int .u64 0), (.int .u64 0), (.int .u64 0), (.int .u64 0), (.int .u64 0), (.int .u64 0), (.int .u64 0), (.int .u64 0), (.int .u64 0), (.int .u64 0), (.int .u64 0), (.int .u64 0), (.int .u64 0), (.int .u64 0), (.int .u64 0), (.int .u64 0), (.int .u64 0), (.int .u64 0), (.int .u64 0), (.int .u64 0), (.int .u64 0), (.int .u64 0), (.int .u64 0), (.int .u64 0), (.int .u64 0), (.int .u64 0), (.int .u64 0), (.int .u64 0), (.int .u64 0), (.int .u64 0), (.int .u64 0), (.int .u64 0)], none⟩] [])
 (.seq (.region [
 ⟨some 5, .mov (.const (.int .i64 0)), none⟩] [])
 (.seq (.region [
 ⟨some 11, .makeMap, none⟩,
 ⟨some 6, .mov (.tmp 11), none⟩] [])
 (.seq (.seq (.region [
 ⟨some 12, .mov (.tmp 0), none⟩,
 ⟨some 13, .lenS (.tmp 12), none⟩,
 ⟨some 14, .mov (.const (.int .i64 0)), none⟩] [])
 (.block 0 (.loop (.seq (.region [
 ⟨some 15, .bin .lss (.tmp 14) (.tmp 13), none⟩] [])
 (.seq (.cond (.tmp 15) .skip
 (.exit 0))
 (.seq (.block 1 (.seq (.region [
 ⟨some 16, .mov (.tmp 14), none⟩,
 ⟨some 17, .indexSl 2 (.tmp 12) (.tmp 14), none⟩,
 ⟨some 18, .loadN 2 (.tmp 17), none⟩,
 ⟨some 8, .alloc #[(.int .u64 0), (.int .u64 0)], none⟩,
 ⟨some 7, .mov (.tmp 16), none⟩,
 ⟨none, .store 2 (.tmp 8) (.tmp 18), none⟩] [])
 (.seq (.seq (.region [
 ⟨some 20, .mov (.tmp 6), none⟩,
 ⟨some 21, .fieldAddr 0 (.tmp 8), none⟩,
 ⟨some 22, .load1 (.tmp 21), none⟩,
 ⟨some 23, .lookup (.leaf .int) (.int .i64 0) true (.tmp 20) (.tmp 22), none⟩,
 ⟨some 19, .mov (.tmp 23), none⟩,
 ⟨some 24, .extract (.tmp 19) 0, none⟩,
 ⟨some 25, .extract (.tmp 19) 1, none⟩,
 ⟨some 9, .mov (.tmp 24), none⟩,
 ⟨some 10, .mov (.tmp 25), none⟩] [])
 (.seq (.region [
 ⟨some 26, .mov (.tmp 10), none⟩] [])
 (.cond (.tmp 26) (.seq (.region [
  ⟨some 27, .build #[(.int .i64 0), (.int .u64 0), (.int .u64 0), (.int .u64 0), (.int .u64 0), (.int .u64 0), (.int .u64 0), (.int .u64 0), (.int .u64 0), (.int .u64 0), (.int .u64 0), (.int .u64 0), (.int .u64 0), (.int .u64 0), (.int .u64 0), (.int .u64 0), (.int .u64 0), (.int .u64 0), (.int .u64 0), (.int .u64 0), (.int .u64 0), (.int .u64 0), (.int .u64 0), (.int .u64 0), (.int .u64 0), (.int .u64 0), (.int .u64 0), (.int .u64 0), (.int .u64 0), (.int .u64 0), (.int .u64 0), (.int .u64 0), (.int .u64 0)] [], none⟩,
  ⟨none, .store 33 (.tmp 2) (.tmp 27), none⟩,
  ⟨some 3, .mov (.const (.int .i64 1)), none⟩] [])
  .ret)
 .skip)))
 (.seq (.region [
 ⟨some 28, .mov (.tmp 6), none⟩,
 ⟨some 29, .fieldAddr 0 (.tmp 8), none⟩,
 ⟨some 30, .load1 (.tmp 29), none⟩,
 ⟨some 31, .mov (.tmp 7), none⟩,
 ⟨none, .mapUpdate (.leaf .int) (.tmp 28) (.tmp 30) (.tmp 31), none⟩] [])
 (.seq (.region [
 ⟨some 32, .mov (.tmp 5), none⟩,
 ⟨some 33, .bin .eql (.tmp 32) (.const (.int .i64 0)), none⟩] [])
 (.cond (.tmp 33) (.region [
  ⟨some 35, .loadN 33 (.tmp 4), none⟩,
  ⟨some 36, .loadN 2 (.tmp 8), none⟩,
  ⟨some 37, .call 36 #[(.tmp 35), (.tmp 36)], none⟩,
  ⟨some 34, .mov (.tmp 37), none⟩,
  ⟨some 38, .extract (.tmp 34) 0, none⟩,
  ⟨some 39, .extract (.tmp 34) 1, none⟩,
  ⟨none, .store 33 (.tmp 4) (.tmp 38), none⟩,
  ⟨some 5, .mov (.tmp 39), none⟩] [])
 .skip))))))
 (.region [
 ⟨some 40, .bin .add (.tmp 14) (.const (.int .i64 1)), none⟩,
 ⟨some 14, .mov (.tmp 40), none⟩] [])))))))
 (.seq (.seq (.region [
 ⟨some 41, .mov (.tmp 5), none⟩,
 ⟨some 42, .bin .neq (.tmp 41) (.const (.int .i64 0)), none⟩] [])
 (.cond (.tmp 42) (.seq (.region [
  ⟨some 43, .build #[(.int .i64 0), (.int .u64 0), (.int .u64 0), (.int .u64 0), (.int .u64 0), (.int .u64 0), (.int .u64 0), (.int .u64 0), (.int .u64 0), (.int .u64 0), (.int .u64 0), (.int .u64 0), (.int .u64 0), (.int .u64 0), (.int .u64 0), (.int .u64 0), (.int .u64 0), (.int .u64 0), (.int .u64 0), (.int .u64 0), (.int .u64 0), (.int .u64 0), (.int .u64 0), (.int .u64 0), (.int .u64 0), (.int .u64 0), (.int .u64 0), (.int .u64 0), (.int .u64 0), (.int .u64 0), (.int .u64 0), (.int .u64 0), (.int .u64 0)] [], none⟩,
  ⟨some 44, .mov (.tmp 5), none⟩,
  ⟨none, .store 33 (.tmp 2) (.tmp 43), none⟩,
  ⟨some 3, .mov (.tmp 44), none⟩] [])
  .ret)
 .skip))
 (.seq (.region [
 ⟨some 45, .loadN 33 (.tmp 4), none⟩,
 ⟨none, .store 33 (.tmp 2) (.tmp 45), none⟩,
 ⟨some 3, .mov (.const (.int .i64 0)), none⟩] [])
 .ret))))))) }
theorem c35 : bfunc Try.prog 35 = some b35 := by kernel_rfl

/-- (revenant/spec.State).With -/
def b36 : BFunc := { ntmps := 46, results := [.cellN 33 4, .tmp 5], body :=
 (.seq (.region [
 ⟨some 2, .box 33 (.tmp 0), none⟩,
 ⟨some 3, .box 2 (.tmp 1), none⟩,
 ⟨some 4, .alloc #[(.int .i64 0), (.int .u64 0), (.int .u64 0), (.int .u64 0), (.int .u64 0), (.int .u64 0), (.int .u64 0), (.int .u64 0), (.int .u64 0), (.int .u64 0), (.int .u64 0), (.int .u64 0), (.int .u64 0), (.int .u64 0), (.int .u64 0), (.int .u64 0), (.int .u64 0), (.int .u64 0), (.int .u64 0), (.int .u64 0), (.int .u64 0), (.int .u64 0), (.int .u64 0), (.int .u64 0), (.int .u64 0), (.int .u64 0), (.int .u64 0), (.int .u64 0), (.int .u64 0), (.int .u64 0), (.int .u64 0), (.int .u64 0), (.int .u64 0)], none⟩,
 ⟨some 5, .mov (.const (.int .i64 0)), none⟩] [])
 (.seq (.region [
 ⟨some 9, .loadN 33 (.tmp 2), none⟩,
 ⟨some 10, .fieldAddr 0 (.tmp 3), none⟩,
 ⟨some 11, .load1 (.tmp 10), none⟩,
 ⟨some 12, .call 72 #[(.tmp 9), (.tmp 11)], none⟩,
 ⟨some 8, .mov (.tmp 12), none⟩,
 ⟨some 13, .extract (.tmp 8) 0, none⟩,
 ⟨some 14, .extract (.tmp 8) 1, none⟩,
 ⟨some 6, .mov (.tmp 13), none⟩,
 ⟨some 7, .mov (.tmp 14), none⟩] [])
 (.seq (.block 0 (.seq (.region [
 ⟨some 16, .mov (.tmp 7), none⟩,
 ⟨some 15, .mov (.tmp 16), none⟩] [])
 (.cond (.tmp 15) (.seq (.region [
  ⟨some 17, .mov (.tmp 6), none⟩,
  ⟨some 18, .loadN 2 (.tmp 3), none⟩,
  ⟨some 19, .fieldAddr 1 (.tmp 2), none⟩,
  ⟨some 20, .indexArr 16 2 (.tmp 19) (.tmp 17), none⟩,
  ⟨none, .store 2 (.tmp 20) (.tmp 18), none⟩] [])
  (.seq (.region [
  ⟨some 21, .loadN 33 (.tmp 2), none⟩,
  ⟨none, .store 33 (.tmp 4) (.tmp 21), none⟩,
  ⟨some 5, .mov (.const (.int .i64 0)), none⟩] [])
  .ret))
 (.seq (.region [
  ⟨some 23, .fieldAddr 0 (.tmp 2), none⟩,
  ⟨some 24, .load1 (.tmp 23), none⟩,
  ⟨some 25, .bin .eql (.tmp 24) (.const (.int .i64 16)), none⟩,
  ⟨some 22, .mov (.tmp 25), none⟩] [])
  (.cond (.tmp 22) (.seq (.region [
   ⟨some 26, .build #[(.int .i64 0), (.int .u64 0), (.int .u64 0), (.int .u64 0), (.int .u64 0), (.int .u64 0), (.int .u64 0), (.int .u64 0), (.int .u64 0), (.int .u64 0), (.int .u64 0), (.int .u64 0), (.int .u64 0), (.int .u64 0), (.int .u64 0), (.int .u64 0), (.int .u64 0), (.int .u64 0), (.int .u64 0), (.int .u64 0), (.int .u64 0), (.int .u64 0), (.int .u64 0), (.int .u64 0), (.int .u64 0), (.int .u64 0), (.int .u64 0), (.int .u64 0), (.int .u64 0), (.int .u64 0), (.int .u64 0), (.int .u64 0), (.int .u64 0)] [], none⟩,
   ⟨none, .store 33 (.tmp 4) (.tmp 26), none⟩,
   ⟨some 5, .mov (.const (.int .i64 6)), none⟩] [])
   .ret)
  .skip)))))
 (.seq (.region [
 ⟨some 27, .fieldAddr 1 (.tmp 2), none⟩,
 ⟨some 28, .mov (.tmp 6), none⟩,
 ⟨some 29, .bin .add (.tmp 28) (.const (.int .i64 1)), none⟩,
 ⟨some 30, .sliceArr 16 2 (.tmp 27) (some (.tmp 29)) none, none⟩,
 ⟨some 31, .fieldAddr 1 (.tmp 2), none⟩,
 ⟨some 32, .mov (.tmp 6), none⟩,
 ⟨some 33, .fieldAddr 0 (.tmp 2), none⟩,
 ⟨some 34, .load1 (.tmp 33), none⟩,
 ⟨some 35, .sliceArr 16 2 (.tmp 31) (some (.tmp 32)) (some (.tmp 34)), none⟩,
 ⟨some 36, .copy 2 (.tmp 30) (.tmp 35), none⟩] [])
 (.seq (.region [
 ⟨some 37, .mov (.tmp 6), none⟩,
 ⟨some 38, .loadN 2 (.tmp 3), none⟩,
 ⟨some 39, .fieldAddr 1 (.tmp 2), none⟩,
 ⟨some 40, .indexArr 16 2 (.tmp 39) (.tmp 37), none⟩,
 ⟨none, .store 2 (.tmp 40) (.tmp 38), none⟩] [])
 (.seq (.region [
 ⟨some 41, .fieldAddr 0 (.tmp 2), none⟩,
 ⟨some 42, .load1 (.tmp 41), none⟩,
 ⟨some 43, .bin .add (.tmp 42) (.const (.int .i64 1)), none⟩,
 ⟨some 44, .fieldAddr 0 (.tmp 2), none⟩,
 ⟨none, .store 1 (.tmp 44) (.tmp 43), none⟩] [])
 (.seq (.region [
 ⟨some 45, .loadN 33 (.tmp 2), none⟩,
 ⟨none, .store 33 (.tmp 4) (.tmp 45), none⟩,
 ⟨some 5, .mov (.const (.int .i64 0)), none⟩] [])
 .ret))))))) }
theorem c36 : bfunc Try.prog 36 = some b36 := by kernel_rfl

/-- (revenant/spec.State).Without -/
def b37 : BFunc := { ntmps := 36, results := [.cellN 33 4], body :=
 (.seq (.region [
 ⟨some 2, .box 33 (.tmp 0), none⟩,
 ⟨some 4, .alloc #[(.int .i64 0), (.int .u64 0), (.int .u64 0), (.int .u64 0), (.int .u64 0), (.int .u64 0), (.int .u64 0), (.int .u64 0), (.int .u64 0), (.int .u64 0), (.int .u64 0), (.int .u64 0), (.int .u64 0), (.int .u64 0), (.int .u64 0), (.int .u64 0), (.int .u64 0), (.int .u64 0), (.int .u64 0), (.int .u64 0), (.int .u64 0), (.int .u64 0), (.int .u64 0), (.int .u64 0), (.int .u64 0), (.int .u64 0), (.int .u64 0), (.int .u64 0), (.int .u64 0), (.int .u64 0), (.int .u64 0), (.int .u64 0), (.int .u64 0)], none⟩] [])
 (.seq (.region [
 ⟨some 8, .loadN 33 (.tmp 2), none⟩,
 ⟨some 9, .mov (.tmp 1), none⟩,
 ⟨some 10, .call 72 #[(.tmp 8), (.tmp 9)], none⟩,
 ⟨some 7, .mov (.tmp 10), none⟩,
 ⟨some 11, .extract (.tmp 7) 0, none⟩,
 ⟨some 12, .extract (.tmp 7) 1, none⟩,
 ⟨some 5, .mov (.tmp 11), none⟩,
 ⟨some 6, .mov (.tmp 12), none⟩] [])
 (.seq (.seq (.region [
 ⟨some 13, .mov (.tmp 6), none⟩,
 ⟨some 14, .un .not (.tmp 13), none⟩] [])
 (.cond (.tmp 14) (.seq (.region [
  ⟨some 15, .loadN 33 (.tmp 2), none⟩,
  ⟨none, .store 33 (.tmp 4) (.tmp 15), none⟩] [])
  .ret)
 .skip))
 (.seq (.region [
 ⟨some 16, .fieldAddr 1 (.tmp 2), none⟩,
 ⟨some 17, .mov (.tmp 5), none⟩,
 ⟨some 18, .sliceArr 16 2 (.tmp 16) (some (.tmp 17)) none, none⟩,
 ⟨some 19, .fieldAddr 1 (.tmp 2), none⟩,
 ⟨some 20, .mov (.tmp 5), none⟩,
 ⟨some 21, .bin .add (.tmp 20) (.const (.int .i64 1)), none⟩,
 ⟨some 22, .fieldAddr 0 (.tmp 2), none⟩,
 ⟨some 23, .load1 (.tmp 22), none⟩,
 ⟨some 24, .sliceArr 16 2 (.tmp 19) (some (.tmp 21)) (some (.tmp 23)), none⟩,
 ⟨some 25, .copy 2 (.tmp 18) (.tmp 24), none⟩] [])
 (.seq (.region [
 ⟨some 26, .fieldAddr 0 (.tmp 2), none⟩,
 ⟨some 27, .load1 (.tmp 26), none⟩,
 ⟨some 28, .bin .sub (.tmp 27) (.const (.int .i64 1)), none⟩,
 ⟨some 29, .fieldAddr 0 (.tmp 2), none⟩,
 ⟨none, .store 1 (.tmp 29) (.tmp 28), none⟩] [])
 (.seq (.region [
 ⟨some 30, .fieldAddr 0 (.tmp 2), none⟩,
 ⟨some 31, .load1 (.tmp 30), none⟩,
 ⟨some 32, .build #[(.int .u64 0), (.int .u64 0)] [], none⟩,
 ⟨some 33, .fieldAddr 1 (.tmp 2), none⟩,
 ⟨some 34, .indexArr 16 2 (.tmp 33) (.tmp 31), none⟩,
 ⟨none, .store 2 (.tmp 34) (.tmp 32), none⟩] [])
 (.seq (.region [
 ⟨some 35, .loadN 33 (.tmp 2), none⟩,
 ⟨none, .store 33 (.tmp 4) (.tmp 35), none⟩] [])
 .ret))))))) }
theorem c37 : bfunc Try.prog 37 = some b37 := by kernel_rfl

/-- (revenant/revenantref21.State).With -/
def b38 : BFunc := { ntmps := 17, results := [.cellN 1 4], body :=
 (.seq (.region [
 ⟨some 2, .box 1 (.tmp 0), none⟩,
 ⟨some 3, .box 2 (.tmp 1), none⟩,
 ⟨some 4, .alloc #[(.slice none 0 0)], none⟩] [])
 (.seq (.region [
 ⟨some 6, .loadN 1 (.tmp 2), none⟩,
 ⟨some 7, .fieldAddr 0 (.tmp 3), none⟩,
 ⟨some 8, .load1 (.tmp 7), none⟩,
 ⟨some 9, .call 41 #[(.tmp 6), (.tmp 8)], none⟩,
 ⟨some 5, .alloc #[(.slice none 0 0)], none⟩,
 ⟨none, .store 1 (.tmp 5) (.tmp 9), none⟩] [])
 (.seq (.region [
 ⟨some 10, .fieldAddr 0 (.tmp 5), none⟩,
 ⟨some 11, .load1 (.tmp 10), none⟩,
 ⟨some 12, .loadN 2 (.tmp 3), none⟩,
 ⟨some 13, .buildSlice #[(.int .u64 0), (.int .u64 0)] 1 [(0, 2, (.tmp 12))], none⟩,
 ⟨some 14, .append 2 16 #[(.int .u64 0), (.int .u64 0)] (.tmp 11) (.tmp 13), none⟩,
 ⟨some 15, .fieldAddr 0 (.tmp 5), none⟩,
 ⟨none, .store 1 (.tmp 15) (.tmp 14), none⟩] [])
 (.seq (.region [
 ⟨some 16, .loadN 1 (.tmp 5), none⟩,
 ⟨none, .store 1 (.tmp 4) (.tmp 16), none⟩] [])
 .ret)))) }
theorem c38 : bfunc Try.prog 38 = some b38 := by kernel_rfl

/-- (revenant/spec.State).May -/
def b39 : BFunc := { ntmps := 37, results := [.cellN 33 6, .tmp 7], body :=
 (.seq (.region [
 ⟨some 3, .box 33 (.tmp 0), none⟩,
 ⟨some 4, .box 4 (.tmp 1), none⟩,
 ⟨some 5, .box 3 (.tmp 2), none⟩,
 ⟨some 6, .alloc #[(.int .i64 0), (.int .u64 0), (.int .u64 0), (.int .u64 0), (.int .u64 0), (.int .u64 0), (.int .u64 0), (.int .u64 0), (.int .u64 0), (.int .u64 0), (.int .u64 0), (.int .u64 0), (.int .u64 0), (.int .u64 0), (.int .u64 0), (.int .u64 0), (.int .u64 0), (.int .u64 0), (.int .u64 0), (.int .u64 0), (.int .u64 0), (.int .u64 0), (.int .u64 0), (.int .u64 0), (.int .u64 0), (.int .u64 0), (.int .u64 0), (.int .u64 0), (.int .u64 0), (.int .u64 0), (.int .u64 0), (.int .u64 0), (.int .u64 0)], none⟩,
 ⟨some 7, .mov (.const (.bool false)), none⟩] [])
 (.seq (.seq (.region [
 ⟨some 11, .loadN 4 (.tmp 4), none⟩,
 ⟨some 12, .loadN 3 (.tmp 5), none⟩,
 ⟨some 13, .call 76 #[(.tmp 11), (.tmp 12)], none⟩] [])
 (.cond (.tmp 13) (.seq (.region [
  ⟨some 14, .loadN 33 (.tmp 3), none⟩,
  ⟨none, .store 33 (.tmp 6) (.tmp 14), none⟩,
  ⟨some 7, .mov (.const (.bool true)), none⟩] [])
  .ret)
 .skip))
 (.seq (.region [
 ⟨some 16, .loadN 33 (.tmp 3), none⟩,
 ⟨some 17, .loadN 4 (.tmp 4), none⟩,
 ⟨some 18, .call 30 #[(.tmp 16), (.tmp 17)], none⟩,
 ⟨some 15, .mov (.tmp 18), none⟩,
 ⟨some 19, .extract (.tmp 15) 0, none⟩,
 ⟨some 20, .extract (.tmp 15) 1, none⟩,
 ⟨some 21, .extract (.tmp 15) 2, none⟩,
 ⟨some 8, .alloc #[(.int .i64 0), (.int .u64 0), (.int .u64 0), (.int .u64 0), (.int .u64 0), (.int .u64 0), (.int .u64 0), (.int .u64 0), (.int .u64 0), (.int .u64 0), (.int .u64 0), (.int .u64 0), (.int .u64 0), (.int .u64 0), (.int .u64 0), (.int .u64 0), (.int .u64 0), (.int .u64 0), (.int .u64 0), (.int .u64 0), (.int .u64 0), (.int .u64 0), (.int .u64 0), (.int .u64 0), (.int .u64 0), (.int .u64 0), (.int .u64 0), (.int .u64 0), (.int .u64 0), (.int .u64 0), (.int .u64 0), (.int .u64 0), (.int .u64 0)], none⟩,
 ⟨some 9, .alloc #[(.int .i64 0), (.bool false), (.int .u64 0)], none⟩,
 ⟨none, .store 33 (.tmp 8) (.tmp 19), none⟩,
 ⟨none, .store 3 (.tmp 9) (.tmp 20), none⟩,
 ⟨some 10, .mov (.tmp 21), none⟩] [])
 (.seq (.seq (.region [
 ⟨some 22, .fieldAddr 0 (.tmp 4), none⟩,
 ⟨some 23, .load1 (.tmp 22), none⟩,
 ⟨some 24, .bin .eql (.tmp 23) (.const (.int .i64 8)), none⟩] [])
 (.cond (.tmp 24) (.region [
  ⟨some 25, .fieldAddr 2 (.tmp 5), none⟩,
  ⟨some 26, .load1 (.tmp 25), none⟩,
  ⟨some 27, .fieldAddr 2 (.tmp 9), none⟩,
  ⟨none, .store 1 (.tmp 27) (.tmp 26), none⟩] [])
 .skip))
 (.seq (.seq (.region [
 ⟨some 28, .mov (.tmp 10), none⟩,
 ⟨some 29, .bin .neq (.tmp 28) (.const (.int .i64 0)), none⟩,
 ⟨some 30, .mov (.tmp 29), none⟩,
 ⟨some 31, .loadN 3 (.tmp 5), some (30, false)⟩,
 ⟨some 32, .loadN 3 (.tmp 9), some (30, false)⟩,
 ⟨some 33, .eqv true (.agg [.int, .bool, .int]) (.tmp 31) (.tmp 32), some (30, false)⟩,
 ⟨some 34, .pick (.tmp 30) (.const (.bool true)) (.tmp 33), none⟩] [])
 (.cond (.tmp 34) (.seq (.region [
  ⟨some 35, .build #[(.int .i64 0), (.int .u64 0), (.int .u64 0), (.int .u64 0), (.int .u64 0), (.int .u64 0), (.int .u64 0), (.int .u64 0), (.int .u64 0), (.int .u64 0), (.int .u64 0), (.int .u64 0), (.int .u64 0), (.int .u64 0), (.int .u64 0), (.int .u64 0), (.int .u64 0), (.int .u64 0), (.int .u64 0), (.int .u64 0), (.int .u64 0), (.int .u64 0), (.int .u64 0), (.int .u64 0), (.int .u64 0), (.int .u64 0), (.int .u64 0), (.int .u64 0), (.int .u64 0), (.int .u64 0), (.int .u64 0), (.int .u64 0), (.int .u64 0)] [], none⟩,
  ⟨none, .store 33 (.tmp 6) (.tmp 35), none⟩,
  ⟨some 7, .mov (.const (.bool false)), none⟩] [])
  .ret)
 .skip))
 (.seq (.region [
 ⟨some 36, .loadN 33 (.tmp 8), none⟩,
 ⟨none, .store 33 (.tmp 6) (.tmp 36), none⟩,
 ⟨some 7, .mov (.const (.bool true)), none⟩] [])
 .ret)))))) }
theorem c39 : bfunc Try.prog 39 = some b39 := by kernel_rfl

/-- (revenant/revenantref21.State).May -/
def b40 : BFunc := { ntmps := 87, results := [.cellN 1 6, .tmp 7], body :=
 (.seq (.region [
 ⟨some 3, .box 1 (.tmp 0), none⟩,
 ⟨some 4, .box 4 (.tmp 1), none⟩,
 ⟨some 5, .box 3 (.tmp 2), none⟩,
 ⟨some 6, .alloc #[(.slice none 0 0)], none⟩,
 ⟨some 7, .mov (.const (.bool false)), none⟩] [])
 (.seq (.seq (.region [
 ⟨some 12, .fieldAddr 0 (.tmp 5), none⟩,
 ⟨some 13, .load1 (.tmp 12), none⟩,
 ⟨some 14, .bin .neq (.tmp 13) (.const (.int .i64 0)), none⟩] [])
 (.cond (.tmp 14) (.seq (.seq (.region [
  ⟨some 15, .fieldAddr 1 (.tmp 5), none⟩,
  ⟨some 16, .load1 (.tmp 15), none⟩,
  ⟨some 17, .mov (.tmp 16), none⟩,
  ⟨some 18, .fieldAddr 2 (.tmp 5), some (17, false)⟩,
  ⟨some 19, .load1 (.tmp 18), some (17, false)⟩,
  ⟨some 20, .bin .neq (.tmp 19) (.const (.int .u64 0)), some (17, false)⟩,
  ⟨some 21, .pick (.tmp 17) (.const (.bool true)) (.tmp 20), none⟩] [])
  (.cond (.tmp 21) (.seq (.region [
   ⟨some 22, .build #[(.slice none 0 0)] [], none⟩,
   ⟨none, .store 1 (.tmp 6) (.tmp 22), none⟩,
   ⟨some 7, .mov (.const (.bool false)), none⟩] [])
   .ret)
  .skip))
  (.seq (.region [
  ⟨some 23, .fieldAddr 0 (.tmp 4), none⟩,
  ⟨some 24, .load1 (.tmp 23), none⟩,
  ⟨some 25, .bin .eql (.tmp 24) (.const (.int .i64 1)), none⟩,
  ⟨some 26, .mov (.tmp 25), none⟩,
  ⟨some 27, .fieldAddr 0 (.tmp 4), some (26, false)⟩,
  ⟨some 28, .load1 (.tmp 27), some (26, false)⟩,
  ⟨some 29, .bin .eql (.tmp 28) (.const (.int .i64 4)), some (26, false)⟩,
  ⟨some 30, .pick (.tmp 26) (.const (.bool true)) (.tmp 29), none⟩,
  ⟨some 31, .mov (.tmp 30), none⟩,
  ⟨some 32, .fieldAddr 0 (.tmp 4), some (31, false)⟩,
  ⟨some 33, .load1 (.tmp 32), some (31, false)⟩,
  ⟨some 34, .bin .eql (.tmp 33) (.const (.int .i64 5)), some (31, false)⟩,
  ⟨some 35, .pick (.tmp 31) (.const (.bool true)) (.tmp 34), none⟩,
  ⟨some 8, .mov (.tmp 35), none⟩] [])
  (.seq (.seq (.region [
  ⟨some 36, .fieldAddr 0 (.tmp 5), none⟩,
  ⟨some 37, .load1 (.tmp 36), none⟩,
  ⟨some 38, .bin .eql (.tmp 37) (.const (.int .i64 6)), none⟩,
  ⟨some 39, .mov (.tmp 38), none⟩,
  ⟨some 40, .mov (.tmp 8), some (39, true)⟩,
  ⟨some 41, .pick (.tmp 39) (.tmp 40) (.const (.bool false)), none⟩,
  ⟨some 42, .mov (.tmp 41), none⟩,
  ⟨some 43, .fieldAddr 0 (.tmp 5), some (42, false)⟩,
  ⟨some 44, .load1 (.tmp 43), some (42, false)⟩,
  ⟨some 45, .bin .eql (.tmp 44) (.const (.int .i64 7)), some (42, false)⟩,
  ⟨some 46, .mov (.tmp 45), some (42, false)⟩,
  ⟨some 47, .mov (.tmp 8), some (46, true)⟩,
  ⟨some 48, .mov (.tmp 47), some (46, true)⟩,
  ⟨some 49, .fieldAddr 0 (.tmp 4), some (48, false)⟩,
  ⟨some 50, .load1 (.tmp 49), some (48, false)⟩,
  ⟨some 51, .bin .eql (.tmp 50) (.const (.int .i64 8)), some (48, false)⟩,
  ⟨some 52, .pick (.tmp 48) (.const (.bool true)) (.tmp 51), some (46, true)⟩,
  ⟨some 53, .pick (.tmp 46) (.tmp 52) (.const (.bool false)), some (42, false)⟩,
  ⟨some 54, .pick (.tmp 42) (.const (.bool true)) (.tmp 53), none⟩] [])
  (.cond (.tmp 54) (.seq (.region [
   ⟨some 55, .loadN 1 (.tmp 3), none⟩,
   ⟨none, .store 1 (.tmp 6) (.tmp 55), none⟩,
   ⟨some 7, .mov (.const (.bool true)), none⟩] [])
   .ret)
  .skip))
  (.seq (.region [
  ⟨some 56, .build #[(.slice none 0 0)] [], none⟩,
  ⟨none, .store 1 (.tmp 6) (.tmp 56), none⟩,
  ⟨some 7, .mov (.const (.bool false)), none⟩] [])
  .ret))))
 .skip))
 (.seq (.region [
 ⟨some 58, .loadN 1 (.tmp 3), none⟩,
 ⟨some 59, .loadN 4 (.tmp 4), none⟩,
 ⟨some 60, .call 31 #[(.tmp 58), (.tmp 59)], none⟩,
 ⟨some 57, .mov (.tmp 60), none⟩,
 ⟨some 61, .extract (.tmp 57) 0, none⟩,
 ⟨some 62, .extract (.tmp 57) 1, none⟩,
 ⟨some 63, .extract (.tmp 57) 2, none⟩,
 ⟨some 9, .alloc #[(.slice none 0 0)], none⟩,
 ⟨some 10, .alloc #[(.int .i64 0), (.bool false), (.int .u64 0)], none⟩,
 ⟨none, .store 1 (.tmp 9) (.tmp 61), none⟩,
 ⟨none, .store 3 (.tmp 10) (.tmp 62), none⟩,
 ⟨some 11, .mov (.tmp 63), none⟩] [])
 (.seq (.seq (.region [
 ⟨some 64, .mov (.tmp 11), none⟩,
 ⟨some 65, .bin .neq (.tmp 64) (.const (.int .i64 0)), none⟩,
 ⟨some 66, .mov (.tmp 65), none⟩,
 ⟨some 67, .fieldAddr 1 (.tmp 5), some (66, false)⟩,
 ⟨some 68, .load1 (.tmp 67), some (66, false)⟩,
 ⟨some 69, .fieldAddr 1 (.tmp 10), some (66, false)⟩,
 ⟨some 70, .load1 (.tmp 69), some (66, false)⟩,
 ⟨some 71, .eqv true .bool (.tmp 68) (.tmp 70), some (66, false)⟩,
 ⟨some 72, .pick (.tmp 66) (.const (.bool true)) (.tmp 71), none⟩,
 ⟨some 73, .mov (.tmp 72), none⟩,
 ⟨some 74, .fieldAddr 2 (.tmp 5), some (73, false)⟩,
 ⟨some 75, .load1 (.tmp 74), some (73, false)⟩,
 ⟨some 76, .fieldAddr 2 (.tmp 10), some (73, false)⟩,
 ⟨some 77, .load1 (.tmp 76), some (73, false)⟩,
 ⟨some 78, .bin .neq (.tmp 75) (.tmp 77), some (73, false)⟩,
 ⟨some 79, .mov (.tmp 78), some (73, false)⟩,
 ⟨some 80, .fieldAddr 0 (.tmp 4), some (79, true)⟩,
 ⟨some 81, .load1 (.tmp 80), some (79, true)⟩,
 ⟨some 82, .bin .neq (.tmp 81) (.const (.int .i64 8)), some (79, true)⟩,
 ⟨some 83, .pick (.tmp 79) (.tmp 82) (.const (.bool false)), some (73, false)⟩,
 ⟨some 84, .pick (.tmp 73) (.const (.bool true)) (.tmp 83), none⟩] [])
 (.cond (.tmp 84) (.seq (.region [
  ⟨some 85, .build #[(.slice none 0 0)] [], none⟩,
  ⟨none, .store 1 (.tmp 6) (.tmp 85), none⟩,
  ⟨some 7, .mov (.const (.bool false)), none⟩] [])
  .ret)
 .skip))
 (.seq (.region [
 ⟨some 86, .loadN 1 (.tmp 9), none⟩,
 ⟨none, .store 1 (.tmp 6) (.tmp 86), none⟩,
 ⟨some 7, .mov (.const (.bool true)), none⟩] [])
 .ret))))) }
theorem c40 : bfunc Try.prog 40 = some b40 := by kernel_rfl

/-- (revenant/revenantref21.State).Without -/
def b41 : BFunc := { ntmps := 33, results := [.cellN 1 4], body :=
 (.seq (.region [
 ⟨some 2, .box 1 (.tmp 0), none⟩,
 ⟨some 4, .alloc #[(.slice none 0 0)], none⟩] [])
 (.seq (.region [
 ⟨some 7, .buildSlice #[] 0 [], none⟩,
 ⟨some 5, .mov (.tmp 7), none⟩] [])
 (.seq (.seq (.region [
 ⟨some 6, .mov (.const (.int .i64 0)), none⟩] [])
 (.block 0 (.loop (.seq (.seq (.region [
 ⟨some 8, .mov (.tmp 6), none⟩,
 ⟨some 9, .fieldAddr 0 (.tmp 2), none⟩,
 ⟨some 10, .load1 (.tmp 9), none⟩,
 ⟨some 11, .lenS (.tmp 10), none⟩,
 ⟨some 12, .bin .lss (.tmp 8) (.tmp 11), none⟩] [])
 (.cond (.tmp 12) .skip
 (.exit 0)))
 (.seq (.block 1 (.seq (.region [
 ⟨some 15, .fieldAddr 0 (.tmp 2), none⟩,
 ⟨some 16, .load1 (.tmp 15), none⟩,
 ⟨some 17, .mov (.tmp 6), none⟩,
 ⟨some 18, .indexSl 2 (.tmp 16) (.tmp 17), none⟩,
 ⟨some 19, .fieldAddr 0 (.tmp 18), none⟩,
 ⟨some 20, .load1 (.tmp 19), none⟩,
 ⟨some 21, .mov (.tmp 1), none⟩,
 ⟨some 22, .bin .neq (.tmp 20) (.tmp 21), none⟩] [])
 (.cond (.tmp 22) (.region [
  ⟨some 23, .mov (.tmp 5), none⟩,
  ⟨some 24, .fieldAddr 0 (.tmp 2), none⟩,
  ⟨some 25, .load1 (.tmp 24), none⟩,
  ⟨some 26, .mov (.tmp 6), none⟩,
  ⟨some 27, .indexSl 2 (.tmp 25) (.tmp 26), none⟩,
  ⟨some 28, .loadN 2 (.tmp 27), none⟩,
  ⟨some 29, .buildSlice #[(.int .u64 0), (.int .u64 0)] 1 [(0, 2, (.tmp 28))], none⟩,
  ⟨some 30, .append 2 16 #[(.int .u64 0), (.int .u64 0)] (.tmp 23) (.tmp 29), none⟩,
  ⟨some 5, .mov (.tmp 30), none⟩] [])
 .skip)))
 (.region [
 ⟨some 13, .mov (.tmp 6), none⟩,
 ⟨some 14, .bin .add (.tmp 13) (.const (.int .i64 1)), none⟩,
 ⟨some 6, .mov (.tmp 14), none⟩] []))))))
 (.seq (.region [
 ⟨some 31, .mov (.tmp 5), none⟩,
 ⟨some 32, .build #[(.slice none 0 0)] [(0, 1, (.tmp 31))], none⟩,
 ⟨none, .store 1 (.tmp 4) (.tmp 32), none⟩] [])
 .ret)))) }
theorem c41 : bfunc Try.prog 41 = some b41 := by kernel_rfl

/-- revenant/revenantlaw08.awake -/
def b42 : BFunc := { ntmps := 67, results := [.tmp 0], body :=
 (.seq (.region [
 ⟨some 0, .mov (.const (.bool false)), none⟩] [])
 (.seq (.region [
 ⟨some 7, .call 43 #[], none⟩,
 ⟨some 1, .mov (.tmp 7), none⟩] [])
 (.seq (.region [
 ⟨some 8, .call 25 #[(.const (.int .i64 3)), (.const (.int .i64 3))], none⟩,
 ⟨some 9, .build #[(.int .i64 0), (.int .i64 0), (.int .i64 0), (.int .i64 0)] [(0, 3, (.tmp 8)), (3, 1, (.const (.int .i64 1)))], none⟩,
 ⟨some 2, .alloc #[(.int .i64 0), (.int .i64 0), (.int .i64 0), (.int .i64 0)], none⟩,
 ⟨none, .store 4 (.tmp 2) (.tmp 9), none⟩] [])
 (.seq (.region [
 ⟨some 10, .mov (.tmp 1), none⟩,
 ⟨some 11, .call 44 #[(.tmp 10), (.const (.int .i64 3))], none⟩,
 ⟨some 3, .mov (.tmp 11), none⟩] [])
 (.seq (.region [
 ⟨some 12, .mov (.tmp 1), none⟩,
 ⟨some 13, .loadN 4 (.tmp 2), none⟩,
 ⟨some 14, .build #[(.int .u64 0), (.int .i64 0), (.bool false)] [(0, 1, (.const (.int .u64 5))), (1, 1, (.const (.int .i64 7)))], none⟩,
 ⟨some 15, .call 49 #[(.tmp 12), (.tmp 13), (.tmp 14)], none⟩] [])
 (.seq (.region [
 ⟨some 16, .mov (.tmp 1), none⟩,
 ⟨some 17, .loadN 4 (.tmp 2), none⟩,
 ⟨some 18, .call 47 #[(.tmp 16), (.tmp 17)], none⟩,
 ⟨some 4, .alloc #[(.int .u64 0), (.int .i64 0), (.bool false)], none⟩,
 ⟨none, .store 3 (.tmp 4) (.tmp 18), none⟩] [])
 (.seq (.region [
 ⟨some 19, .mov (.tmp 1), none⟩,
 ⟨some 20, .call 44 #[(.tmp 19), (.const (.int .i64 3))], none⟩,
 ⟨some 5, .mov (.tmp 20), none⟩] [])
 (.seq (.region [
 ⟨some 21, .mov (.tmp 1), none⟩,
 ⟨some 22, .loadN 4 (.tmp 2), none⟩,
 ⟨some 23, .call 47 #[(.tmp 21), (.tmp 22)], none⟩,
 ⟨some 6, .alloc #[(.int .u64 0), (.int .i64 0), (.bool false)], none⟩,
 ⟨none, .store 3 (.tmp 6) (.tmp 23), none⟩] [])
 (.seq (.region [
 ⟨some 24, .mov (.tmp 1), none⟩,
 ⟨some 25, .loadN 4 (.tmp 2), none⟩,
 ⟨some 26, .build #[(.int .u64 0), (.int .i64 0), (.bool false)] [(0, 1, (.const (.int .u64 6)))], none⟩,
 ⟨some 27, .call 49 #[(.tmp 24), (.tmp 25), (.tmp 26)], none⟩] [])
 (.seq (.region [
 ⟨some 28, .mov (.tmp 3), none⟩,
 ⟨some 29, .bin .eql (.tmp 28) (.const (.int .i64 1)), none⟩,
 ⟨some 30, .mov (.tmp 29), none⟩,
 ⟨some 31, .mov (.tmp 5), some (30, true)⟩,
 ⟨some 32, .bin .eql (.tmp 31) (.const (.int .i64 2)), some (30, true)⟩,
 ⟨some 33, .pick (.tmp 30) (.tmp 32) (.const (.bool false)), none⟩,
 ⟨some 34, .mov (.tmp 33), none⟩,
 ⟨some 35, .loadN 3 (.tmp 4), some (34, true)⟩,
 ⟨some 36, .build #[(.int .u64 0), (.int .i64 0), (.bool false)] [(0, 1, (.const (.int .u64 5))), (1, 1, (.const (.int .i64 7)))], some (34, true)⟩,
 ⟨some 37, .eqv false (.agg [.int, .int, .bool]) (.tmp 35) (.tmp 36), some (34, true)⟩,
 ⟨some 38, .pick (.tmp 34) (.tmp 37) (.const (.bool false)), none⟩,
 ⟨some 39, .mov (.tmp 38), none⟩,
 ⟨some 40, .loadN 3 (.tmp 6), some (39, true)⟩,
 ⟨some 41, .build #[(.int .u64 0), (.int .i64 0), (.bool false)] [(0, 1, (.const (.int .u64 5))), (1, 1, (.const (.int .i64 7))), (2, 1, (.const (.bool true)))], some (39, true)⟩,
 ⟨some 42, .eqv false (.agg [.int, .int, .bool]) (.tmp 40) (.tmp 41), some (39, true)⟩,
 ⟨some 43, .pick (.tmp 39) (.tmp 42) (.const (.bool false)), none⟩,
 ⟨some 44, .mov (.tmp 43), none⟩,
 ⟨some 45, .mov (.tmp 1), some (44, true)⟩,
 ⟨some 46, .call 48 #[(.tmp 45)], some (44, true)⟩,
 ⟨some 47, .bin .eql (.tmp 46) (.const (.int .i64 1)), some (44, true)⟩,
 ⟨some 48, .pick (.tmp 44) (.tmp 47) (.const (.bool false)), none⟩,
 ⟨some 49, .mov (.tmp 48), none⟩,
 ⟨some 50, .mov (.tmp 1), some (49, true)⟩,
 ⟨some 51, .call 50 #[(.tmp 50)], some (49, true)⟩,
 ⟨some 52, .bin .eql (.tmp 51) (.const (.int .i64 1)), some (49, true)⟩,
 ⟨some 53, .pick (.tmp 49) (.tmp 52) (.const (.bool false)), none⟩,
 ⟨some 54, .mov (.tmp 53), none⟩,
 ⟨some 55, .mov (.tmp 1), some (54, true)⟩,
 ⟨some 56, .call 45 #[(.tmp 55)], some (54, true)⟩,
 ⟨some 57, .build #[(.int .i64 0), (.int .i64 0)] [(0, 1, (.const (.int .i64 3))), (1, 1, (.const (.int .i64 2)))], some (54, true)⟩,
 ⟨some 58, .call 77 #[(.tmp 56), (.tmp 57)], some (54, true)⟩,
 ⟨some 59, .pick (.tmp 54) (.tmp 58) (.const (.bool false)), none⟩,
 ⟨some 60, .mov (.tmp 59), none⟩,
 ⟨some 61, .mov (.tmp 1), some (60, true)⟩,
 ⟨some 62, .fieldAddr 0 (.tmp 2), some (60, true)⟩,
 ⟨some 63, .loadN 3 (.tmp 62), some (60, true)⟩,
 ⟨some 64, .call 78 #[(.tmp 61), (.tmp 63)], some (60, true)⟩,
 ⟨some 65, .bin .eql (.tmp 64) (.const (.int .u64 6)), some (60, true)⟩,
 ⟨some 66, .pick (.tmp 60) (.tmp 65) (.const (.bool false)), none⟩,
 ⟨some 0, .mov (.tmp 66), none⟩] [])
 .ret)))))))))) }
theorem c42 : bfunc Try.prog 42 = some b42 := by kernel_rfl

/-- revenant/ghost.New -/
def b43 : BFunc := { ntmps := 6, results := [.tmp 0], body :=
 (.seq (.region [
 ⟨some 0, .mov (.const (.pointer none)), none⟩] [])
 (.seq (.region [
 ⟨some 1, .call 53 #[], none⟩,
 ⟨some 2, .makeMap, none⟩,
 ⟨some 3, .call 64 #[], none⟩,
 ⟨some 4, .build #[(.pointer none), (.map none), (.pointer none), (.int .i64 0), (.int .i64 0)] [(0, 1, (.tmp 1)), (1, 1, (.tmp 2)), (2, 1, (.tmp 3))], none⟩,
 ⟨some 5, .box 5 (.tmp 4), none⟩,
 ⟨some 0, .mov (.tmp 5), none⟩] [])
 .ret)) }
theorem c43 : bfunc Try.prog 43 = some b43 := by kernel_rfl

/-- (*revenant/ghost.Ghost).Born -/
def b44 : BFunc := { ntmps := 9, results := [.tmp 4], body :=
 (.seq (.region [
 ⟨some 4, .mov (.const (.int .i64 0)), none⟩] [])
 (.seq (.region [
 ⟨some 5, .mov (.tmp 0), none⟩,
 ⟨some 6, .call 45 #[(.tmp 5)], none⟩,
 ⟨some 7, .mov (.tmp 1), none⟩,
 ⟨some 8, .call 62 #[(.tmp 6), (.tmp 7)], none⟩,
 ⟨some 4, .mov (.tmp 8), none⟩] [])
 .ret)) }
theorem c44 : bfunc Try.prog 44 = some b44 := by kernel_rfl

/-- (*revenant/ghost.Ghost).Souls -/
def b45 : BFunc := { ntmps := 9, results := [.tmp 2], body :=
 (.seq (.region [
 ⟨some 2, .mov (.const (.pointer none)), none⟩] [])
 (.seq (.seq (.region [
 ⟨some 3, .mov (.tmp 0), none⟩,
 ⟨some 4, .eqv false .ptr (.tmp 3) (.const (.pointer none)), none⟩] [])
 (.cond (.tmp 4) (.seq (.region [
  ⟨some 2, .mov (.const (.pointer none)), none⟩] [])
  .ret)
 .skip))
 (.seq (.region [
 ⟨some 5, .mov (.tmp 0), none⟩,
 ⟨some 6, .nilCheck (.tmp 5), none⟩,
 ⟨some 7, .fieldAddr 2 (.tmp 6), none⟩,
 ⟨some 8, .load1 (.tmp 7), none⟩,
 ⟨some 2, .mov (.tmp 8), none⟩] [])
 .ret))) }
theorem c45 : bfunc Try.prog 45 = some b45 := by kernel_rfl

/-- (*revenant/soul.Souls).Now -/
def b46 : BFunc := { ntmps := 13, results := [.tmp 4], body :=
 (.seq (.region [
 ⟨some 4, .mov (.const (.int .i64 0)), none⟩] [])
 (.seq (.seq (.region [
 ⟨some 5, .mov (.tmp 0), none⟩,
 ⟨some 6, .eqv false .ptr (.tmp 5) (.const (.pointer none)), none⟩] [])
 (.cond (.tmp 6) (.seq (.region [
  ⟨some 4, .mov (.const (.int .i64 0)), none⟩] [])
  .ret)
 .skip))
 (.seq (.region [
 ⟨some 7, .mov (.tmp 0), none⟩,
 ⟨some 8, .nilCheck (.tmp 7), none⟩,
 ⟨some 9, .fieldAddr 0 (.tmp 8), none⟩,
 ⟨some 10, .load1 (.tmp 9), none⟩,
 ⟨some 11, .mov (.tmp 1), none⟩,
 ⟨some 12, .lookup (.leaf .int) (.int .i64 0) false (.tmp 10) (.tmp 11), none⟩,
 ⟨some 4, .mov (.tmp 12), none⟩] [])
 .ret))) }
theorem c46 : bfunc Try.prog 46 = some b46 := by kernel_rfl

/-- (*revenant/ghost.Ghost).Load -/
def b47 : BFunc := { ntmps := 37, results := [.cellN 3 4], body :=
 (.seq (.region [
 ⟨some 3, .box 4 (.tmp 1), none⟩,
 ⟨some 4, .alloc #[(.int .u64 0), (.int .i64 0), (.bool false)], none⟩] [])
 (.seq (.seq (.region [
 ⟨some 6, .mov (.tmp 0), none⟩,
 ⟨some 7, .eqv false .ptr (.tmp 6) (.const (.pointer none)), none⟩] [])
 (.cond (.tmp 7) (.seq (.region [
  ⟨some 8, .build #[(.int .u64 0), (.int .i64 0), (.bool false)] [], none⟩,
  ⟨none, .store 3 (.tmp 4) (.tmp 8), none⟩] [])
  .ret)
 .skip))
 (.seq (.region [
 ⟨some 9, .mov (.tmp 0), none⟩,
 ⟨some 10, .nilCheck (.tmp 9), none⟩,
 ⟨some 11, .fieldAddr 0 (.tmp 10), none⟩,
 ⟨some 12, .load1 (.tmp 11), none⟩,
 ⟨some 13, .loadN 4 (.tmp 3), none⟩,
 ⟨some 14, .call 54 #[(.tmp 12), (.tmp 13)], none⟩,
 ⟨some 5, .alloc #[(.int .u64 0), (.int .i64 0), (.bool false)], none⟩,
 ⟨none, .store 3 (.tmp 5) (.tmp 14), none⟩] [])
 (.seq (.region [
 ⟨some 15, .mov (.tmp 0), none⟩,
 ⟨some 16, .nilCheck (.tmp 15), none⟩,
 ⟨some 17, .fieldAddr 1 (.tmp 16), none⟩,
 ⟨some 18, .load1 (.tmp 17), none⟩,
 ⟨some 19, .fieldAddr 0 (.tmp 3), none⟩,
 ⟨some 20, .loadN 3 (.tmp 19), none⟩,
 ⟨some 21, .lookup (.agg [.int, .int, .int]) (.int .i64 0) false (.tmp 18) (.tmp 20), none⟩,
 ⟨some 22, .mov (.tmp 0), none⟩,
 ⟨some 23, .loadN 4 (.tmp 3), none⟩,
 ⟨some 24, .call 79 #[(.tmp 22), (.tmp 23)], none⟩,
 ⟨some 25, .fieldAddr 1 (.tmp 5), none⟩,
 ⟨none, .store 1 (.tmp 25) (.tmp 21), none⟩,
 ⟨some 26, .fieldAddr 2 (.tmp 5), none⟩,
 ⟨none, .store 1 (.tmp 26) (.tmp 24), none⟩] [(3, 1), (5, 1), (6, 1)])
 (.seq (.seq (.region [
 ⟨some 27, .fieldAddr 2 (.tmp 5), none⟩,
 ⟨some 28, .load1 (.tmp 27), none⟩] [])
 (.cond (.tmp 28) (.region [
  ⟨some 29, .mov (.tmp 0), none⟩,
  ⟨some 30, .nilCheck (.tmp 29), none⟩,
  ⟨some 31, .fieldAddr 3 (.tmp 30), none⟩,
  ⟨some 32, .load1 (.tmp 31), none⟩,
  ⟨some 33, .bin .add (.tmp 32) (.const (.int .i64 1)), none⟩,
  ⟨some 34, .nilCheck (.tmp 29), none⟩,
  ⟨some 35, .fieldAddr 3 (.tmp 34), none⟩,
  ⟨none, .store 1 (.tmp 35) (.tmp 33), none⟩] [])
 .skip))
 (.seq (.region [
 ⟨some 36, .loadN 3 (.tmp 5), none⟩,
 ⟨none, .store 3 (.tmp 4) (.tmp 36), none⟩] [])
 .ret)))))) }
theorem c47 : bfunc Try.prog 47 = some b47 := by kernel_rfl

/-- (*revenant/ghost.Ghost).Stale -/
def b48 : BFunc := { ntmps := 9, results := [.tmp 2], body :=
 (.seq (.region [
 ⟨some 2, .mov (.const (.int .i64 0)), none⟩] [])
 (.seq (.seq (.region [
 ⟨some 3, .mov (.tmp 0), none⟩,
 ⟨some 4, .eqv false .ptr (.tmp 3) (.const (.pointer none)), none⟩] [])
 (.cond (.tmp 4) (.seq (.region [
  ⟨some 2, .mov (.const (.int .i64 0)), none⟩] [])
  .ret)
 .skip))
 (.seq (.region [
 ⟨some 5, .mov (.tmp 0), none⟩,
 ⟨some 6, .nilCheck (.tmp 5), none⟩,
 ⟨some 7, .fieldAddr 3 (.tmp 6), none⟩,
 ⟨some 8, .load1 (.tmp 7), none⟩,
 ⟨some 2, .mov (.tmp 8), none⟩] [])
 .ret))) }
theorem c48 : bfunc Try.prog 48 = some b48 := by kernel_rfl

/-- (*revenant/ghost.Ghost).Store -/
def b49 : BFunc := { ntmps := 19, results := [], body :=
 (.seq (.region [
 ⟨some 4, .box 4 (.tmp 1), none⟩,
 ⟨some 5, .box 3 (.tmp 2), none⟩] [])
 (.seq (.seq (.region [
 ⟨some 6, .mov (.tmp 0), none⟩,
 ⟨some 7, .eqv false .ptr (.tmp 6) (.const (.pointer none)), none⟩] [])
 (.cond (.tmp 7) .ret
 .skip))
 (.seq (.region [
 ⟨some 8, .mov (.tmp 0), none⟩,
 ⟨some 9, .nilCheck (.tmp 8), none⟩,
 ⟨some 10, .fieldAddr 0 (.tmp 9), none⟩,
 ⟨some 11, .load1 (.tmp 10), none⟩,
 ⟨some 12, .loadN 4 (.tmp 4), none⟩,
 ⟨some 13, .loadN 3 (.tmp 5), none⟩,
 ⟨some 14, .call 55 #[(.tmp 11), (.tmp 12), (.tmp 13)], none⟩] [])
 (.region [
 ⟨some 15, .mov (.tmp 0), none⟩,
 ⟨some 16, .loadN 4 (.tmp 4), none⟩,
 ⟨some 17, .loadN 3 (.tmp 5), none⟩,
 ⟨some 18, .call 80 #[(.tmp 15), (.tmp 16), (.tmp 17), (.const (.bool false))], none⟩] [])))) }
theorem c49 : bfunc Try.prog 49 = some b49 := by kernel_rfl

/-- (*revenant/ghost.Ghost).Faults -/
def b50 : BFunc := { ntmps := 9, results := [.tmp 2], body :=
 (.seq (.region [
 ⟨some 2, .mov (.const (.int .i64 0)), none⟩] [])
 (.seq (.seq (.region [
 ⟨some 3, .mov (.tmp 0), none⟩,
 ⟨some 4, .eqv false .ptr (.tmp 3) (.const (.pointer none)), none⟩] [])
 (.cond (.tmp 4) (.seq (.region [
  ⟨some 2, .mov (.const (.int .i64 0)), none⟩] [])
  .ret)
 .skip))
 (.seq (.region [
 ⟨some 5, .mov (.tmp 0), none⟩,
 ⟨some 6, .nilCheck (.tmp 5), none⟩,
 ⟨some 7, .fieldAddr 4 (.tmp 6), none⟩,
 ⟨some 8, .load1 (.tmp 7), none⟩,
 ⟨some 2, .mov (.tmp 8), none⟩] [])
 .ret))) }
theorem c50 : bfunc Try.prog 50 = some b50 := by kernel_rfl

/-- (*revenant/ghost.Ghost).Swap -/
def b51 : BFunc := { ntmps := 22, results := [.tmp 8], body :=
 (.seq (.region [
 ⟨some 5, .box 4 (.tmp 1), none⟩,
 ⟨some 6, .box 3 (.tmp 2), none⟩,
 ⟨some 7, .box 3 (.tmp 3), none⟩,
 ⟨some 8, .mov (.const (.bool false)), none⟩] [])
 (.seq (.seq (.region [
 ⟨some 9, .mov (.tmp 0), none⟩,
 ⟨some 10, .call 81 #[(.tmp 9)], none⟩,
 ⟨some 11, .loadN 4 (.tmp 5), none⟩,
 ⟨some 12, .loadN 3 (.tmp 6), none⟩,
 ⟨some 13, .loadN 3 (.tmp 7), none⟩,
 ⟨some 14, .call 56 #[(.tmp 10), (.tmp 11), (.tmp 12), (.tmp 13)], none⟩,
 ⟨some 15, .un .not (.tmp 14), none⟩] [(2, 0), (3, 0), (4, 0)])
 (.cond (.tmp 15) (.seq (.region [
  ⟨some 8, .mov (.const (.bool false)), none⟩] [])
  .ret)
 .skip))
 (.seq (.region [
 ⟨some 16, .mov (.tmp 0), none⟩,
 ⟨some 17, .loadN 4 (.tmp 5), none⟩,
 ⟨some 18, .loadN 3 (.tmp 7), none⟩,
 ⟨some 19, .fieldAddr 2 (.tmp 6), none⟩,
 ⟨some 20, .load1 (.tmp 19), none⟩,
 ⟨some 21, .call 80 #[(.tmp 16), (.tmp 17), (.tmp 18), (.tmp 20)], none⟩] [])
 (.seq (.region [
 ⟨some 8, .mov (.const (.bool true)), none⟩] [])
 .ret)))) }
theorem c51 : bfunc Try.prog 51 = some b51 := by kernel_rfl

/-- revenant/revenantlaw08.does -/
def b52 : BFunc := { ntmps := 147, results := [.tmp 6], body :=
 (.seq (.region [
 ⟨some 5, .box 11 (.tmp 2), none⟩,
 ⟨some 6, .mov (.const (.bool false)), none⟩] [])
 (.seq (.region [
 ⟨some 12, .fieldAddr 1 (.tmp 5), none⟩,
 ⟨some 13, .fieldAddr 0 (.tmp 12), none⟩,
 ⟨some 14, .loadN 3 (.tmp 13), none⟩,
 ⟨some 7, .alloc #[(.int .i64 0), (.int .i64 0), (.int .i64 0)], none⟩,
 ⟨none, .store 3 (.tmp 7) (.tmp 14), none⟩] [])
 (.seq (.seq (.region [
 ⟨some 15, .fieldAddr 0 (.tmp 5), none⟩,
 ⟨some 16, .load1 (.tmp 15), none⟩] [])
 (.block 0 (.seq (.region [
 ⟨some 18, .bin .eql (.tmp 16) (.const (.int .i64 1)), none⟩,
 ⟨some 17, .mov (.tmp 18), none⟩] [])
 (.cond (.tmp 17) (.seq (.region [
  ⟨some 20, .mov (.tmp 1), none⟩,
  ⟨some 21, .loadN 3 (.tmp 7), none⟩,
  ⟨some 22, .fieldAddr 1 (.tmp 5), none⟩,
  ⟨some 23, .fieldAddr 3 (.tmp 22), none⟩,
  ⟨some 24, .load1 (.tmp 23), none⟩,
  ⟨some 25, .call 82 #[(.tmp 20), (.tmp 21), (.tmp 24)], none⟩,
  ⟨some 19, .mov (.tmp 25), none⟩,
  ⟨some 26, .extract (.tmp 19) 0, none⟩,
  ⟨some 27, .extract (.tmp 19) 1, none⟩,
  ⟨some 28, .extract (.tmp 19) 2, none⟩,
  ⟨some 8, .mov (.tmp 26), none⟩,
  ⟨some 9, .mov (.tmp 27), none⟩,
  ⟨some 10, .mov (.tmp 28), none⟩] [])
  (.seq (.region [
  ⟨some 29, .mov (.tmp 0), none⟩,
  ⟨some 30, .fieldAddr 1 (.tmp 5), none⟩,
  ⟨some 31, .loadN 4 (.tmp 30), none⟩,
  ⟨some 32, .call 47 #[(.tmp 29), (.tmp 31)], none⟩,
  ⟨some 33, .mov (.tmp 8), none⟩,
  ⟨some 34, .mov (.tmp 9), none⟩,
  ⟨some 35, .mov (.tmp 10), none⟩,
  ⟨some 36, .build #[(.int .u64 0), (.int .i64 0), (.bool false)] [(0, 1, (.tmp 33)), (1, 1, (.tmp 34)), (2, 1, (.tmp 35))], none⟩,
  ⟨some 37, .eqv false (.agg [.int, .int, .bool]) (.tmp 32) (.tmp 36), none⟩,
  ⟨some 6, .mov (.tmp 37), none⟩] [])
  .ret))
 (.seq (.region [
  ⟨some 39, .bin .eql (.tmp 16) (.const (.int .i64 2)), none⟩,
  ⟨some 38, .mov (.tmp 39), none⟩] [])
  (.cond (.tmp 38) (.seq (.region [
   ⟨some 40, .mov (.tmp 0), none⟩,
   ⟨some 41, .fieldAddr 1 (.tmp 5), none⟩,
   ⟨some 42, .loadN 4 (.tmp 41), none⟩,
   ⟨some 43, .fieldAddr 8 (.tmp 5), none⟩,
   ⟨some 44, .loadN 3 (.tmp 43), none⟩,
   ⟨some 45, .call 49 #[(.tmp 40), (.tmp 42), (.tmp 44)], none⟩] [])
   (.seq (.region [
   ⟨some 46, .mov (.tmp 1), none⟩,
   ⟨some 47, .nilCheck (.tmp 46), none⟩,
   ⟨some 48, .fieldAddr 0 (.tmp 47), none⟩,
   ⟨some 49, .loadN 3 (.tmp 7), none⟩,
   ⟨some 50, .fieldAddr 1 (.tmp 5), none⟩,
   ⟨some 51, .fieldAddr 3 (.tmp 50), none⟩,
   ⟨some 52, .load1 (.tmp 51), none⟩,
   ⟨some 53, .fieldAddr 8 (.tmp 5), none⟩,
   ⟨some 54, .fieldAddr 0 (.tmp 53), none⟩,
   ⟨some 55, .load1 (.tmp 54), none⟩,
   ⟨some 56, .fieldAddr 8 (.tmp 5), none⟩,
   ⟨some 57, .fieldAddr 1 (.tmp 56), none⟩,
   ⟨some 58, .load1 (.tmp 57), none⟩,
   ⟨some 59, .fieldAddr 8 (.tmp 5), none⟩,
   ⟨some 60, .fieldAddr 2 (.tmp 59), none⟩,
   ⟨some 61, .load1 (.tmp 60), none⟩,
   ⟨some 62, .call 83 #[(.tmp 48), (.tmp 49), (.tmp 52), (.tmp 55), (.tmp 58), (.tmp 61)], none⟩] [])
   (.seq (.region [
   ⟨some 6, .mov (.const (.bool true)), none⟩] [])
   .ret)))
  (.seq (.seq (.region [
   ⟨some 64, .bin .eql (.tmp 16) (.const (.int .i64 3)), none⟩,
   ⟨some 63, .mov (.tmp 64), none⟩] [])
   (.cond (.tmp 63) .skip
   (.region [
    ⟨some 65, .bin .eql (.tmp 16) (.const (.int .i64 4)), none⟩,
    ⟨some 63, .mov (.tmp 65), none⟩] [])))
   (.cond (.tmp 63) (.seq (.region [
    ⟨some 66, .fieldAddr 5 (.tmp 5), none⟩,
    ⟨some 67, .loadN 3 (.tmp 66), none⟩,
    ⟨some 11, .alloc #[(.int .u64 0), (.int .i64 0), (.bool false)], none⟩,
    ⟨none, .store 3 (.tmp 11) (.tmp 67), none⟩] [])
    (.seq (.seq (.region [
    ⟨some 68, .fieldAddr 0 (.tmp 5), none⟩,
    ⟨some 69, .load1 (.tmp 68), none⟩,
    ⟨some 70, .bin .eql (.tmp 69) (.const (.int .i64 4)), none⟩] [])
    (.cond (.tmp 70) (.region [
     ⟨some 71, .mov (.tmp 1), none⟩,
     ⟨some 72, .nilCheck (.tmp 71), none⟩,
     ⟨some 73, .fieldAddr 0 (.tmp 72), none⟩,
     ⟨some 74, .fieldAddr 0 (.tmp 73), none⟩,
     ⟨some 75, .loadN 3 (.tmp 7), none⟩,
     ⟨some 76, .call 66 #[(.tmp 74), (.tmp 75)], none⟩,
     ⟨some 77, .fieldAddr 0 (.tmp 11), none⟩,
     ⟨none, .store 1 (.tmp 77) (.tmp 76), none⟩] [])
    .skip))
    (.seq (.region [
    ⟨some 78, .mov (.tmp 0), none⟩,
    ⟨some 79, .fieldAddr 1 (.tmp 5), none⟩,
    ⟨some 80, .loadN 4 (.tmp 79), none⟩,
    ⟨some 81, .loadN 3 (.tmp 11), none⟩,
    ⟨some 82, .fieldAddr 8 (.tmp 5), none⟩,
    ⟨some 83, .loadN 3 (.tmp 82), none⟩,
    ⟨some 84, .call 51 #[(.tmp 78), (.tmp 80), (.tmp 81), (.tmp 83)], none⟩,
    ⟨some 85, .mov (.tmp 1), none⟩,
    ⟨some 86, .nilCheck (.tmp 85), none⟩,
    ⟨some 87, .fieldAddr 0 (.tmp 86), none⟩,
    ⟨some 88, .loadN 3 (.tmp 7), none⟩,
    ⟨some 89, .fieldAddr 1 (.tmp 5), none⟩,
    ⟨some 90, .fieldAddr 3 (.tmp 89), none⟩,
    ⟨some 91, .load1 (.tmp 90), none⟩,
    ⟨some 92, .fieldAddr 0 (.tmp 11), none⟩,
    ⟨some 93, .load1 (.tmp 92), none⟩,
    ⟨some 94, .fieldAddr 2 (.tmp 11), none⟩,
    ⟨some 95, .load1 (.tmp 94), none⟩,
    ⟨some 96, .fieldAddr 8 (.tmp 5), none⟩,
    ⟨some 97, .fieldAddr 0 (.tmp 96), none⟩,
    ⟨some 98, .load1 (.tmp 97), none⟩,
    ⟨some 99, .fieldAddr 8 (.tmp 5), none⟩,
    ⟨some 100, .fieldAddr 1 (.tmp 99), none⟩,
    ⟨some 101, .load1 (.tmp 100), none⟩,
    ⟨some 102, .fieldAddr 8 (.tmp 5), none⟩,
    ⟨some 103, .fieldAddr 2 (.tmp 102), none⟩,
    ⟨some 104, .load1 (.tmp 103), none⟩,
    ⟨some 105, .call 84 #[(.tmp 87), (.tmp 88), (.tmp 91), (.tmp 93), (.tmp 95), (.tmp 98), (.tmp 101), (.tmp 104)], none⟩,
    ⟨some 106, .eqv false .bool (.tmp 84) (.tmp 105), none⟩,
    ⟨some 6, .mov (.tmp 106), none⟩] [(10, 0), (13, 0), (15, 0), (17, 0), (20, 0), (23, 0), (26, 0)])
    .ret)))
   (.seq (.region [
    ⟨some 108, .bin .eql (.tmp 16) (.const (.int .i64 5)), none⟩,
    ⟨some 107, .mov (.tmp 108), none⟩] [])
    (.cond (.tmp 107) (.seq (.region [
     ⟨some 109, .mov (.tmp 0), none⟩,
     ⟨some 110, .fieldAddr 1 (.tmp 5), none⟩,
     ⟨some 111, .loadN 4 (.tmp 110), none⟩,
     ⟨some 112, .fieldAddr 8 (.tmp 5), none⟩,
     ⟨some 113, .fieldAddr 0 (.tmp 112), none⟩,
     ⟨some 114, .load1 (.tmp 113), none⟩,
     ⟨some 115, .call 85 #[(.tmp 109), (.tmp 111), (.tmp 114)], none⟩,
     ⟨some 116, .mov (.tmp 1), none⟩,
     ⟨some 117, .loadN 3 (.tmp 7), none⟩,
     ⟨some 118, .fieldAddr 8 (.tmp 5), none⟩,
     ⟨some 119, .fieldAddr 0 (.tmp 118), none⟩,
     ⟨some 120, .load1 (.tmp 119), none⟩,
     ⟨some 121, .call 86 #[(.tmp 116), (.tmp 117), (.tmp 120)], none⟩,
     ⟨some 122, .bin .eql (.tmp 115) (.tmp 121), none⟩,
     ⟨some 6, .mov (.tmp 122), none⟩] [(8, 0), (11, 0)])
     .ret)
    (.seq (.region [
     ⟨some 124, .bin .eql (.tmp 16) (.const (.int .i64 6)), none⟩,
     ⟨some 123, .mov (.tmp 124), none⟩] [])
     (.cond (.tmp 123) (.seq (.region [
      ⟨some 125, .mov (.tmp 0), none⟩,
      ⟨some 126, .fieldAddr 1 (.tmp 7), none⟩,
      ⟨some 127, .load1 (.tmp 126), none⟩,
      ⟨some 128, .call 44 #[(.tmp 125), (.tmp 127)], none⟩,
      ⟨some 129, .mov (.tmp 1), none⟩,
      ⟨some 130, .nilCheck (.tmp 129), none⟩,
      ⟨some 131, .fieldAddr 0 (.tmp 130), none⟩,
      ⟨some 132, .fieldAddr 2 (.tmp 131), none⟩,
      ⟨some 133, .fieldAddr 1 (.tmp 7), none⟩,
      ⟨some 134, .load1 (.tmp 133), none⟩,
      ⟨some 135, .call 69 #[(.tmp 132), (.tmp 134)], none⟩,
      ⟨some 136, .bin .eql (.tmp 128) (.tmp 135), none⟩,
      ⟨some 6, .mov (.tmp 136), none⟩] [(9, 0)])
      .ret)
     .skip))))))))))))
 (.seq (.region [
 ⟨some 137, .mov (.tmp 0), none⟩,
 ⟨some 138, .loadN 3 (.tmp 7), none⟩,
 ⟨some 139, .call 78 #[(.tmp 137), (.tmp 138)], none⟩,
 ⟨some 140, .mov (.tmp 1), none⟩,
 ⟨some 141, .nilCheck (.tmp 140), none⟩,
 ⟨some 142, .fieldAddr 0 (.tmp 141), none⟩,
 ⟨some 143, .fieldAddr 0 (.tmp 142), none⟩,
 ⟨some 144, .loadN 3 (.tmp 7), none⟩,
 ⟨some 145, .call 66 #[(.tmp 143), (.tmp 144)], none⟩,
 ⟨some 146, .bin .eql (.tmp 139) (.tmp 145), none⟩,
 ⟨some 6, .mov (.tmp 146), none⟩] [(7, 0)])
 .ret)))) }
theorem c52 : bfunc Try.prog 52 = some b52 := by kernel_rfl

/-- revenant/world.New -/
def b53 : BFunc := { ntmps := 4, results := [.tmp 0], body :=
 (.seq (.region [
 ⟨some 0, .mov (.const (.pointer none)), none⟩] [])
 (.seq (.region [
 ⟨some 1, .call 87 #[], none⟩,
 ⟨some 2, .build #[(.pointer none)] [(0, 1, (.tmp 1))], none⟩,
 ⟨some 3, .box 1 (.tmp 2), none⟩,
 ⟨some 0, .mov (.tmp 3), none⟩] [])
 .ret)) }
theorem c53 : bfunc Try.prog 53 = some b53 := by kernel_rfl

/-- (*revenant/world.Plain).Load -/
def b54 : BFunc := { ntmps := 11, results := [.cellN 3 4], body :=
 (.seq (.region [
 ⟨some 3, .box 4 (.tmp 1), none⟩,
 ⟨some 4, .alloc #[(.int .u64 0), (.int .i64 0), (.bool false)], none⟩] [])
 (.seq (.region [
 ⟨some 5, .mov (.tmp 0), none⟩,
 ⟨some 6, .call 88 #[(.tmp 5)], none⟩,
 ⟨some 7, .fieldAddr 0 (.tmp 3), none⟩,
 ⟨some 8, .loadN 3 (.tmp 7), none⟩,
 ⟨some 9, .call 89 #[(.tmp 6), (.tmp 8)], none⟩,
 ⟨some 10, .build #[(.int .u64 0), (.int .i64 0), (.bool false)] [(0, 1, (.tmp 9))], none⟩,
 ⟨none, .store 3 (.tmp 4) (.tmp 10), none⟩] [(3, 0)])
 .ret)) }
theorem c54 : bfunc Try.prog 54 = some b54 := by kernel_rfl

/-- (*revenant/world.Plain).Store -/
def b55 : BFunc := { ntmps := 13, results := [], body :=
 (.seq (.region [
 ⟨some 4, .box 4 (.tmp 1), none⟩,
 ⟨some 5, .box 3 (.tmp 2), none⟩] [])
 (.region [
 ⟨some 6, .mov (.tmp 0), none⟩,
 ⟨some 7, .call 88 #[(.tmp 6)], none⟩,
 ⟨some 8, .fieldAddr 0 (.tmp 4), none⟩,
 ⟨some 9, .loadN 3 (.tmp 8), none⟩,
 ⟨some 10, .fieldAddr 0 (.tmp 5), none⟩,
 ⟨some 11, .load1 (.tmp 10), none⟩,
 ⟨some 12, .call 90 #[(.tmp 7), (.tmp 9), (.tmp 11)], none⟩] [(3, 0), (5, 0)])) }
theorem c55 : bfunc Try.prog 55 = some b55 := by kernel_rfl

/-- (*revenant/world.Plain).Swap -/
def b56 : BFunc := { ntmps := 18, results := [.tmp 8], body :=
 (.seq (.region [
 ⟨some 5, .box 4 (.tmp 1), none⟩,
 ⟨some 6, .box 3 (.tmp 2), none⟩,
 ⟨some 7, .box 3 (.tmp 3), none⟩,
 ⟨some 8, .mov (.const (.bool false)), none⟩] [])
 (.seq (.region [
 ⟨some 9, .mov (.tmp 0), none⟩,
 ⟨some 10, .call 88 #[(.tmp 9)], none⟩,
 ⟨some 11, .fieldAddr 0 (.tmp 5), none⟩,
 ⟨some 12, .loadN 3 (.tmp 11), none⟩,
 ⟨some 13, .fieldAddr 0 (.tmp 6), none⟩,
 ⟨some 14, .load1 (.tmp 13), none⟩,
 ⟨some 15, .fieldAddr 0 (.tmp 7), none⟩,
 ⟨some 16, .load1 (.tmp 15), none⟩,
 ⟨some 17, .call 91 #[(.tmp 10), (.tmp 12), (.tmp 14), (.tmp 16)], none⟩,
 ⟨some 8, .mov (.tmp 17), none⟩] [(3, 0), (5, 0), (7, 0)])
 .ret)) }
theorem c56 : bfunc Try.prog 56 = some b56 := by kernel_rfl

/-- (*revenant/world.Plain).Add -/
def b57 : BFunc := { ntmps := 13, results := [.tmp 6], body :=
 (.seq (.region [
 ⟨some 4, .box 4 (.tmp 1), none⟩,
 ⟨some 6, .mov (.const (.int .u64 0)), none⟩] [])
 (.seq (.region [
 ⟨some 7, .mov (.tmp 0), none⟩,
 ⟨some 8, .call 88 #[(.tmp 7)], none⟩,
 ⟨some 9, .fieldAddr 0 (.tmp 4), none⟩,
 ⟨some 10, .loadN 3 (.tmp 9), none⟩,
 ⟨some 11, .mov (.tmp 2), none⟩,
 ⟨some 12, .call 92 #[(.tmp 8), (.tmp 10), (.tmp 11)], none⟩,
 ⟨some 6, .mov (.tmp 12), none⟩] [(3, 0)])
 .ret)) }
theorem c57 : bfunc Try.prog 57 = some b57 := by kernel_rfl

/-- (*revenant/world.Plain).Peek -/
def b58 : BFunc := { ntmps := 9, results := [.tmp 4], body :=
 (.seq (.region [
 ⟨some 3, .box 3 (.tmp 1), none⟩,
 ⟨some 4, .mov (.const (.int .u64 0)), none⟩] [])
 (.seq (.region [
 ⟨some 5, .mov (.tmp 0), none⟩,
 ⟨some 6, .call 88 #[(.tmp 5)], none⟩,
 ⟨some 7, .loadN 3 (.tmp 3), none⟩,
 ⟨some 8, .call 93 #[(.tmp 6), (.tmp 7)], none⟩,
 ⟨some 4, .mov (.tmp 8), none⟩] [(2, 0)])
 .ret)) }
theorem c58 : bfunc Try.prog 58 = some b58 := by kernel_rfl

/-- (*revenant/world.Plain).Count -/
def b59 : BFunc := { ntmps := 6, results := [.cellN 5 2], body :=
 (.seq (.region [
 ⟨some 2, .alloc #[(.int .i64 0), (.int .i64 0), (.int .i64 0), (.int .i64 0), (.int .i64 0)], none⟩] [])
 (.seq (.region [
 ⟨some 3, .mov (.tmp 0), none⟩,
 ⟨some 4, .call 88 #[(.tmp 3)], none⟩,
 ⟨some 5, .call 94 #[(.tmp 4)], none⟩,
 ⟨none, .store 5 (.tmp 2) (.tmp 5), none⟩] [])
 .ret)) }
theorem c59 : bfunc Try.prog 59 = some b59 := by kernel_rfl

/-- (*revenant/ideal.Ideal).put -/
def b60 : BFunc := { ntmps := 20, results := [], body :=
 (.seq (.region [
 ⟨some 4, .box 4 (.tmp 1), none⟩,
 ⟨some 5, .box 3 (.tmp 2), none⟩] [])
 (.seq (.region [
 ⟨some 6, .mov (.tmp 0), none⟩,
 ⟨some 7, .nilCheck (.tmp 6), none⟩,
 ⟨some 8, .fieldAddr 0 (.tmp 7), none⟩,
 ⟨some 9, .load1 (.tmp 8), none⟩,
 ⟨some 10, .loadN 4 (.tmp 4), none⟩,
 ⟨some 11, .fieldAddr 0 (.tmp 5), none⟩,
 ⟨some 12, .load1 (.tmp 11), none⟩,
 ⟨none, .mapUpdate (.agg [.int, .int, .int, .int]) (.tmp 9) (.tmp 10) (.tmp 12), none⟩] [])
 (.region [
 ⟨some 13, .mov (.tmp 0), none⟩,
 ⟨some 14, .nilCheck (.tmp 13), none⟩,
 ⟨some 15, .fieldAddr 1 (.tmp 14), none⟩,
 ⟨some 16, .load1 (.tmp 15), none⟩,
 ⟨some 17, .loadN 4 (.tmp 4), none⟩,
 ⟨some 18, .fieldAddr 1 (.tmp 5), none⟩,
 ⟨some 19, .load1 (.tmp 18), none⟩,
 ⟨none, .mapUpdate (.agg [.int, .int, .int, .int]) (.tmp 16) (.tmp 17) (.tmp 19), none⟩] []))) }
theorem c60 : bfunc Try.prog 60 = some b60 := by kernel_rfl

/-- revenant/ideal.of -/
def b61 : BFunc := { ntmps := 15, results := [.cellN 4 2], body :=
 (.seq (.region [
 ⟨some 1, .box 4 (.tmp 0), none⟩,
 ⟨some 2, .alloc #[(.int .i64 0), (.int .i64 0), (.int .i64 0), (.int .i64 0)], none⟩] [])
 (.seq (.seq (.region [
 ⟨some 3, .fieldAddr 0 (.tmp 1), none⟩,
 ⟨some 4, .loadN 3 (.tmp 3), none⟩,
 ⟨some 5, .call 26 #[(.tmp 4)], none⟩] [])
 (.cond (.tmp 5) (.seq (.region [
  ⟨some 6, .fieldAddr 3 (.tmp 1), none⟩,
  ⟨some 7, .load1 (.tmp 6), none⟩,
  ⟨some 8, .fieldAddr 0 (.tmp 1), none⟩,
  ⟨some 9, .fieldAddr 2 (.tmp 8), none⟩,
  ⟨some 10, .load1 (.tmp 9), none⟩,
  ⟨some 11, .call 63 #[(.tmp 7), (.tmp 10)], none⟩,
  ⟨none, .store 4 (.tmp 2) (.tmp 11), none⟩] [])
  .ret)
 .skip))
 (.seq (.region [
 ⟨some 12, .fieldAddr 0 (.tmp 1), none⟩,
 ⟨some 13, .loadN 3 (.tmp 12), none⟩,
 ⟨some 14, .build #[(.int .i64 0), (.int .i64 0), (.int .i64 0), (.int .i64 0)] [(0, 3, (.tmp 13))], none⟩,
 ⟨none, .store 4 (.tmp 2) (.tmp 14), none⟩] [])
 .ret))) }
theorem c61 : bfunc Try.prog 61 = some b61 := by kernel_rfl

/-- (*revenant/soul.Souls).Born -/
def b62 : BFunc := { ntmps := 34, results := [.tmp 4], body :=
 (.seq (.region [
 ⟨some 4, .mov (.const (.int .i64 0)), none⟩] [])
 (.seq (.seq (.region [
 ⟨some 6, .mov (.tmp 0), none⟩,
 ⟨some 7, .eqv false .ptr (.tmp 6) (.const (.pointer none)), none⟩,
 ⟨some 8, .mov (.tmp 7), none⟩,
 ⟨some 9, .mov (.tmp 1), some (8, false)⟩,
 ⟨some 10, .bin .lss (.tmp 9) (.const (.int .i64 1)), some (8, false)⟩,
 ⟨some 11, .pick (.tmp 8) (.const (.bool true)) (.tmp 10), none⟩] [])
 (.cond (.tmp 11) (.seq (.region [
  ⟨some 4, .mov (.const (.int .i64 0)), none⟩] [])
  .ret)
 .skip))
 (.seq (.region [
 ⟨some 12, .mov (.tmp 0), none⟩,
 ⟨some 13, .mov (.tmp 0), none⟩,
 ⟨some 14, .nilCheck (.tmp 13), none⟩,
 ⟨some 15, .fieldAddr 1 (.tmp 14), none⟩,
 ⟨some 16, .load1 (.tmp 15), none⟩,
 ⟨some 17, .mov (.tmp 1), none⟩,
 ⟨some 18, .buildSlice #[(.int .i64 0)] 1 [(0, 1, (.tmp 17))], none⟩,
 ⟨some 19, .append 1 8 #[(.int .i64 0)] (.tmp 16) (.tmp 18), none⟩,
 ⟨some 20, .nilCheck (.tmp 12), none⟩,
 ⟨some 21, .fieldAddr 1 (.tmp 20), none⟩,
 ⟨none, .store 1 (.tmp 21) (.tmp 19), none⟩] [])
 (.seq (.region [
 ⟨some 22, .mov (.tmp 0), none⟩,
 ⟨some 23, .nilCheck (.tmp 22), none⟩,
 ⟨some 24, .fieldAddr 1 (.tmp 23), none⟩,
 ⟨some 25, .load1 (.tmp 24), none⟩,
 ⟨some 26, .lenS (.tmp 25), none⟩,
 ⟨some 5, .mov (.tmp 26), none⟩] [])
 (.seq (.region [
 ⟨some 27, .mov (.tmp 0), none⟩,
 ⟨some 28, .nilCheck (.tmp 27), none⟩,
 ⟨some 29, .fieldAddr 0 (.tmp 28), none⟩,
 ⟨some 30, .load1 (.tmp 29), none⟩,
 ⟨some 31, .mov (.tmp 1), none⟩,
 ⟨some 32, .mov (.tmp 5), none⟩,
 ⟨none, .mapUpdate (.leaf .int) (.tmp 30) (.tmp 31) (.tmp 32), none⟩] [])
 (.seq (.region [
 ⟨some 33, .mov (.tmp 5), none⟩,
 ⟨some 4, .mov (.tmp 33), none⟩] [])
 .ret)))))) }
theorem c62 : bfunc Try.prog 62 = some b62 := by kernel_rfl

/-- revenant/ideal.content -/
def b63 : BFunc := { ntmps := 9, results := [.cellN 4 4], body :=
 (.seq (.region [
 ⟨some 4, .alloc #[(.int .i64 0), (.int .i64 0), (.int .i64 0), (.int .i64 0)], none⟩] [])
 (.seq (.region [
 ⟨some 5, .mov (.tmp 1), none⟩,
 ⟨some 6, .call 25 #[(.const (.int .i64 0)), (.tmp 5)], none⟩,
 ⟨some 7, .mov (.tmp 0), none⟩,
 ⟨some 8, .build #[(.int .i64 0), (.int .i64 0), (.int .i64 0), (.int .i64 0)] [(0, 3, (.tmp 6)), (3, 1, (.tmp 7))], none⟩,
 ⟨none, .store 4 (.tmp 4) (.tmp 8), none⟩] [])
 .ret)) }
theorem c63 : bfunc Try.prog 63 = some b63 := by kernel_rfl

/-- revenant/soul.New -/
def b64 : BFunc := { ntmps := 4, results := [.tmp 0], body :=
 (.seq (.region [
 ⟨some 0, .mov (.const (.pointer none)), none⟩] [])
 (.seq (.region [
 ⟨some 1, .makeMap, none⟩,
 ⟨some 2, .build #[(.map none), (.slice none 0 0)] [(0, 1, (.tmp 1))], none⟩,
 ⟨some 3, .box 2 (.tmp 2), none⟩,
 ⟨some 0, .mov (.tmp 3), none⟩] [])
 .ret)) }
theorem c64 : bfunc Try.prog 64 = some b64 := by kernel_rfl

/-- revenant/revenantref09.Where -/
def b65 : BFunc := { ntmps := 37, results := [.cellN 3 4], body :=
 (.seq (.region [
 ⟨some 2, .box 3 (.tmp 0), none⟩,
 ⟨some 4, .alloc #[(.int .i64 0), (.int .i64 0), (.int .i64 0)], none⟩] [])
 (.seq (.seq (.region [
 ⟨some 5, .fieldAddr 0 (.tmp 2), none⟩,
 ⟨some 6, .load1 (.tmp 5), none⟩,
 ⟨some 7, .bin .eql (.tmp 6) (.const (.int .i64 5)), none⟩,
 ⟨some 8, .mov (.tmp 7), none⟩,
 ⟨some 9, .fieldAddr 2 (.tmp 2), some (8, true)⟩,
 ⟨some 10, .load1 (.tmp 9), some (8, true)⟩,
 ⟨some 11, .bin .geq (.tmp 10) (.const (.int .i64 0)), some (8, true)⟩,
 ⟨some 12, .pick (.tmp 8) (.tmp 11) (.const (.bool false)), none⟩,
 ⟨some 13, .mov (.tmp 12), none⟩,
 ⟨some 14, .fieldAddr 2 (.tmp 2), some (13, true)⟩,
 ⟨some 15, .load1 (.tmp 14), some (13, true)⟩,
 ⟨some 16, .bin .neq (.tmp 15) (.const (.int .i64 1)), some (13, true)⟩,
 ⟨some 17, .pick (.tmp 13) (.tmp 16) (.const (.bool false)), none⟩,
 ⟨some 18, .mov (.tmp 17), none⟩,
 ⟨some 19, .fieldAddr 2 (.tmp 2), some (18, true)⟩,
 ⟨some 20, .load1 (.tmp 19), some (18, true)⟩,
 ⟨some 21, .bin .neq (.tmp 20) (.const (.int .i64 2)), some (18, true)⟩,
 ⟨some 22, .pick (.tmp 18) (.tmp 21) (.const (.bool false)), none⟩] [])
 (.cond (.tmp 22) (.seq (.region [
  ⟨some 23, .mov (.tmp 1), none⟩,
  ⟨some 24, .fieldAddr 2 (.tmp 2), none⟩,
  ⟨some 25, .load1 (.tmp 24), none⟩,
  ⟨some 26, .build #[(.int .i64 0), (.int .i64 0), (.int .i64 0)] [(0, 1, (.const (.int .i64 9))), (1, 1, (.tmp 23)), (2, 1, (.tmp 25))], none⟩,
  ⟨none, .store 3 (.tmp 4) (.tmp 26), none⟩] [])
  .ret)
 .skip))
 (.seq (.seq (.region [
 ⟨some 27, .fieldAddr 0 (.tmp 2), none⟩,
 ⟨some 28, .load1 (.tmp 27), none⟩,
 ⟨some 29, .bin .eql (.tmp 28) (.const (.int .i64 9)), none⟩] [])
 (.cond (.tmp 29) (.seq (.region [
  ⟨some 30, .fieldAddr 1 (.tmp 2), none⟩,
  ⟨some 31, .load1 (.tmp 30), none⟩,
  ⟨some 32, .fieldAddr 2 (.tmp 2), none⟩,
  ⟨some 33, .load1 (.tmp 32), none⟩,
  ⟨some 34, .bin .sub (.const (.int .i64 (-1))) (.tmp 33), none⟩,
  ⟨some 35, .build #[(.int .i64 0), (.int .i64 0), (.int .i64 0)] [(0, 1, (.const (.int .i64 9))), (1, 1, (.tmp 31)), (2, 1, (.tmp 34))], none⟩,
  ⟨none, .store 3 (.tmp 4) (.tmp 35), none⟩] [])
  .ret)
 .skip))
 (.seq (.region [
 ⟨some 36, .loadN 3 (.tmp 2), none⟩,
 ⟨none, .store 3 (.tmp 4) (.tmp 36), none⟩] [])
 .ret)))) }
theorem c65 : bfunc Try.prog 65 = some b65 := by kernel_rfl

/-- (*revenant/revenantref04.Cells).Get -/
def b66 : BFunc := { ntmps := 33, results := [.tmp 4], body :=
 (.seq (.region [
 ⟨some 3, .box 3 (.tmp 1), none⟩,
 ⟨some 4, .mov (.const (.int .u64 0)), none⟩] [])
 (.seq (.seq (.region [
 ⟨some 5, .mov (.const (.int .i64 0)), none⟩] [])
 (.block 0 (.loop (.seq (.seq (.region [
 ⟨some 6, .mov (.tmp 5), none⟩,
 ⟨some 7, .mov (.tmp 0), none⟩,
 ⟨some 8, .nilCheck (.tmp 7), none⟩,
 ⟨some 9, .fieldAddr 0 (.tmp 8), none⟩,
 ⟨some 10, .load1 (.tmp 9), none⟩,
 ⟨some 11, .lenS (.tmp 10), none⟩,
 ⟨some 12, .bin .lss (.tmp 6) (.tmp 11), none⟩] [])
 (.cond (.tmp 12) .skip
 (.exit 0)))
 (.seq (.block 1 (.seq (.region [
 ⟨some 15, .mov (.tmp 0), none⟩,
 ⟨some 16, .nilCheck (.tmp 15), none⟩,
 ⟨some 17, .fieldAddr 0 (.tmp 16), none⟩,
 ⟨some 18, .load1 (.tmp 17), none⟩,
 ⟨some 19, .mov (.tmp 5), none⟩,
 ⟨some 20, .indexSl 4 (.tmp 18) (.tmp 19), none⟩,
 ⟨some 21, .fieldAddr 0 (.tmp 20), none⟩,
 ⟨some 22, .loadN 3 (.tmp 21), none⟩,
 ⟨some 23, .loadN 3 (.tmp 3), none⟩,
 ⟨some 24, .eqv false (.agg [.int, .int, .int]) (.tmp 22) (.tmp 23), none⟩] [])
 (.cond (.tmp 24) (.seq (.region [
  ⟨some 25, .mov (.tmp 0), none⟩,
  ⟨some 26, .nilCheck (.tmp 25), none⟩,
  ⟨some 27, .fieldAddr 0 (.tmp 26), none⟩,
  ⟨some 28, .load1 (.tmp 27), none⟩,
  ⟨some 29, .mov (.tmp 5), none⟩,
  ⟨some 30, .indexSl 4 (.tmp 28) (.tmp 29), none⟩,
  ⟨some 31, .fieldAddr 3 (.tmp 30), none⟩,
  ⟨some 32, .load1 (.tmp 31), none⟩,
  ⟨some 4, .mov (.tmp 32), none⟩] [])
  .ret)
 .skip)))
 (.region [
 ⟨some 13, .mov (.tmp 5), none⟩,
 ⟨some 14, .bin .add (.tmp 13) (.const (.int .i64 1)), none⟩,
 ⟨some 5, .mov (.tmp 14), none⟩] []))))))
 (.seq (.region [
 ⟨some 4, .mov (.const (.int .u64 0)), none⟩] [])
 .ret))) }
theorem c66 : bfunc Try.prog 66 = some b66 := by kernel_rfl

/-- (*revenant/revenantref09.Ideal).Set -/
def b67 : BFunc := { ntmps := 27, results := [], body :=
 (.seq (.region [
 ⟨some 6, .box 3 (.tmp 1), none⟩] [])
 (.seq (.region [
 ⟨some 10, .mov (.tmp 0), none⟩,
 ⟨some 11, .nilCheck (.tmp 10), none⟩,
 ⟨some 12, .fieldAddr 0 (.tmp 11), none⟩,
 ⟨some 13, .loadN 3 (.tmp 6), none⟩,
 ⟨some 14, .mov (.tmp 2), none⟩,
 ⟨some 15, .call 65 #[(.tmp 13), (.tmp 14)], none⟩,
 ⟨some 16, .mov (.tmp 3), none⟩,
 ⟨some 17, .call 68 #[(.tmp 12), (.tmp 15), (.tmp 16)], none⟩] [])
 (.region [
 ⟨some 18, .mov (.tmp 0), none⟩,
 ⟨some 19, .nilCheck (.tmp 18), none⟩,
 ⟨some 20, .fieldAddr 1 (.tmp 19), none⟩,
 ⟨some 21, .loadN 3 (.tmp 6), none⟩,
 ⟨some 22, .mov (.tmp 2), none⟩,
 ⟨some 23, .call 65 #[(.tmp 21), (.tmp 22)], none⟩,
 ⟨some 24, .mov (.tmp 4), none⟩,
 ⟨some 25, .conv .u64 (.tmp 24), none⟩,
 ⟨some 26, .call 68 #[(.tmp 20), (.tmp 23), (.tmp 25)], none⟩] []))) }
theorem c67 : bfunc Try.prog 67 = some b67 := by kernel_rfl

/-- (*revenant/revenantref04.Cells).Set -/
def b68 : BFunc := { ntmps := 46, results := [], body :=
 (.seq (.region [
 ⟨some 4, .box 3 (.tmp 1), none⟩] [])
 (.seq (.seq (.region [
 ⟨some 6, .mov (.const (.int .i64 0)), none⟩] [])
 (.block 0 (.loop (.seq (.seq (.region [
 ⟨some 7, .mov (.tmp 6), none⟩,
 ⟨some 8, .mov (.tmp 0), none⟩,
 ⟨some 9, .nilCheck (.tmp 8), none⟩,
 ⟨some 10, .fieldAddr 0 (.tmp 9), none⟩,
 ⟨some 11, .load1 (.tmp 10), none⟩,
 ⟨some 12, .lenS (.tmp 11), none⟩,
 ⟨some 13, .bin .lss (.tmp 7) (.tmp 12), none⟩] [])
 (.cond (.tmp 13) .skip
 (.exit 0)))
 (.seq (.block 1 (.seq (.region [
 ⟨some 16, .mov (.tmp 0), none⟩,
 ⟨some 17, .nilCheck (.tmp 16), none⟩,
 ⟨some 18, .fieldAddr 0 (.tmp 17), none⟩,
 ⟨some 19, .load1 (.tmp 18), none⟩,
 ⟨some 20, .mov (.tmp 6), none⟩,
 ⟨some 21, .indexSl 4 (.tmp 19) (.tmp 20), none⟩,
 ⟨some 22, .fieldAddr 0 (.tmp 21), none⟩,
 ⟨some 23, .loadN 3 (.tmp 22), none⟩,
 ⟨some 24, .loadN 3 (.tmp 4), none⟩,
 ⟨some 25, .eqv false (.agg [.int, .int, .int]) (.tmp 23) (.tmp 24), none⟩] [])
 (.cond (.tmp 25) (.seq (.region [
  ⟨some 26, .mov (.tmp 0), none⟩,
  ⟨some 27, .nilCheck (.tmp 26), none⟩,
  ⟨some 28, .fieldAddr 0 (.tmp 27), none⟩,
  ⟨some 29, .load1 (.tmp 28), none⟩,
  ⟨some 30, .mov (.tmp 6), none⟩,
  ⟨some 31, .mov (.tmp 2), none⟩,
  ⟨some 32, .indexSl 4 (.tmp 29) (.tmp 30), none⟩,
  ⟨some 33, .fieldAddr 3 (.tmp 32), none⟩,
  ⟨none, .store 1 (.tmp 33) (.tmp 31), none⟩] [])
  .ret)
 .skip)))
 (.region [
 ⟨some 14, .mov (.tmp 6), none⟩,
 ⟨some 15, .bin .add (.tmp 14) (.const (.int .i64 1)), none⟩,
 ⟨some 6, .mov (.tmp 15), none⟩] []))))))
 (.region [
 ⟨some 34, .mov (.tmp 0), none⟩,
 ⟨some 35, .mov (.tmp 0), none⟩,
 ⟨some 36, .nilCheck (.tmp 35), none⟩,
 ⟨some 37, .fieldAddr 0 (.tmp 36), none⟩,
 ⟨some 38, .load1 (.tmp 37), none⟩,
 ⟨some 39, .loadN 3 (.tmp 4), none⟩,
 ⟨some 40, .mov (.tmp 2), none⟩,
 ⟨some 41, .build #[(.int .i64 0), (.int .i64 0), (.int .i64 0), (.int .u64 0)] [(0, 3, (.tmp 39)), (3, 1, (.tmp 40))], none⟩,
 ⟨some 42, .buildSlice #[(.int .i64 0), (.int .i64 0), (.int .i64 0), (.int .u64 0)] 1 [(0, 4, (.tmp 41))], none⟩,
 ⟨some 43, .append 4 32 #[(.int .i64 0), (.int .i64 0), (.int .i64 0), (.int .u64 0)] (.tmp 38) (.tmp 42), none⟩,
 ⟨some 44, .nilCheck (.tmp 34), none⟩,
 ⟨some 45, .fieldAddr 0 (.tmp 44), none⟩,
 ⟨none, .store 1 (.tmp 45) (.tmp 43), none⟩] []))) }
theorem c68 : bfunc Try.prog 68 = some b68 := by kernel_rfl

/-- (*revenant/revenantref06.Souls).Born -/
def b69 : BFunc := { ntmps := 22, results := [.tmp 4], body :=
 (.seq (.region [
 ⟨some 4, .mov (.const (.int .i64 0)), none⟩] [])
 (.seq (.seq (.region [
 ⟨some 5, .mov (.tmp 1), none⟩,
 ⟨some 6, .bin .lss (.tmp 5) (.const (.int .i64 1)), none⟩] [])
 (.cond (.tmp 6) (.seq (.region [
  ⟨some 4, .mov (.const (.int .i64 0)), none⟩] [])
  .ret)
 .skip))
 (.seq (.region [
 ⟨some 7, .mov (.tmp 0), none⟩,
 ⟨some 8, .mov (.tmp 0), none⟩,
 ⟨some 9, .nilCheck (.tmp 8), none⟩,
 ⟨some 10, .fieldAddr 0 (.tmp 9), none⟩,
 ⟨some 11, .load1 (.tmp 10), none⟩,
 ⟨some 12, .mov (.tmp 1), none⟩,
 ⟨some 13, .buildSlice #[(.int .i64 0)] 1 [(0, 1, (.tmp 12))], none⟩,
 ⟨some 14, .append 1 8 #[(.int .i64 0)] (.tmp 11) (.tmp 13), none⟩,
 ⟨some 15, .nilCheck (.tmp 7), none⟩,
 ⟨some 16, .fieldAddr 0 (.tmp 15), none⟩,
 ⟨none, .store 1 (.tmp 16) (.tmp 14), none⟩] [])
 (.seq (.region [
 ⟨some 17, .mov (.tmp 0), none⟩,
 ⟨some 18, .nilCheck (.tmp 17), none⟩,
 ⟨some 19, .fieldAddr 0 (.tmp 18), none⟩,
 ⟨some 20, .load1 (.tmp 19), none⟩,
 ⟨some 21, .lenS (.tmp 20), none⟩,
 ⟨some 4, .mov (.tmp 21), none⟩] [])
 .ret)))) }
theorem c69 : bfunc Try.prog 69 = some b69 := by kernel_rfl

/-- (*revenant/revenantref06.Souls).Now -/
def b70 : BFunc := { ntmps := 18, results := [.tmp 4], body :=
 (.seq (.region [
 ⟨some 4, .mov (.const (.int .i64 0)), none⟩] [])
 (.seq (.region [
 ⟨some 6, .mov (.tmp 0), none⟩,
 ⟨some 7, .mov (.tmp 1), none⟩,
 ⟨some 8, .call 95 #[(.tmp 6), (.tmp 7)], none⟩,
 ⟨some 5, .mov (.tmp 8), none⟩] [])
 (.seq (.seq (.region [
 ⟨some 9, .mov (.tmp 5), none⟩,
 ⟨some 10, .lenS (.tmp 9), none⟩,
 ⟨some 11, .bin .eql (.tmp 10) (.const (.int .i64 0)), none⟩] [])
 (.cond (.tmp 11) (.seq (.region [
  ⟨some 4, .mov (.const (.int .i64 0)), none⟩] [])
  .ret)
 .skip))
 (.seq (.region [
 ⟨some 12, .mov (.tmp 5), none⟩,
 ⟨some 13, .mov (.tmp 5), none⟩,
 ⟨some 14, .lenS (.tmp 13), none⟩,
 ⟨some 15, .bin .sub (.tmp 14) (.const (.int .i64 1)), none⟩,
 ⟨some 16, .indexSl 1 (.tmp 12) (.tmp 15), none⟩,
 ⟨some 17, .load1 (.tmp 16), none⟩,
 ⟨some 4, .mov (.tmp 17), none⟩] [])
 .ret)))) }
theorem c70 : bfunc Try.prog 70 = some b70 := by kernel_rfl

/-- (revenant/spec.State).put -/
def b71 : BFunc := { ntmps := 30, results := [.cellN 33 8, .cellN 3 9, .tmp 10], body :=
 (.seq (.region [
 ⟨some 4, .box 33 (.tmp 0), none⟩,
 ⟨some 5, .box 2 (.tmp 1), none⟩,
 ⟨some 7, .box 3 (.tmp 3), none⟩,
 ⟨some 8, .alloc #[(.int .i64 0), (.int .u64 0), (.int .u64 0), (.int .u64 0), (.int .u64 0), (.int .u64 0), (.int .u64 0), (.int .u64 0), (.int .u64 0), (.int .u64 0), (.int .u64 0), (.int .u64 0), (.int .u64 0), (.int .u64 0), (.int .u64 0), (.int .u64 0), (.int .u64 0), (.int .u64 0), (.int .u64 0), (.int .u64 0), (.int .u64 0), (.int .u64 0), (.int .u64 0), (.int .u64 0), (.int .u64 0), (.int .u64 0), (.int .u64 0), (.int .u64 0), (.int .u64 0), (.int .u64 0), (.int .u64 0), (.int .u64 0), (.int .u64 0)], none⟩,
 ⟨some 9, .alloc #[(.int .i64 0), (.bool false), (.int .u64 0)], none⟩,
 ⟨some 10, .mov (.const (.int .i64 0)), none⟩] [])
 (.seq (.seq (.region [
 ⟨some 13, .mov (.tmp 2), none⟩,
 ⟨some 14, .un .not (.tmp 13), none⟩] [])
 (.cond (.tmp 14) (.seq (.region [
  ⟨some 15, .loadN 33 (.tmp 4), none⟩,
  ⟨some 16, .loadN 3 (.tmp 7), none⟩,
  ⟨none, .store 33 (.tmp 8) (.tmp 15), none⟩,
  ⟨none, .store 3 (.tmp 9) (.tmp 16), none⟩,
  ⟨some 10, .mov (.const (.int .i64 0)), none⟩] [(1, 1)])
  .ret)
 .skip))
 (.seq (.region [
 ⟨some 18, .loadN 33 (.tmp 4), none⟩,
 ⟨some 19, .loadN 2 (.tmp 5), none⟩,
 ⟨some 20, .call 36 #[(.tmp 18), (.tmp 19)], none⟩,
 ⟨some 17, .mov (.tmp 20), none⟩,
 ⟨some 21, .extract (.tmp 17) 0, none⟩,
 ⟨some 22, .extract (.tmp 17) 1, none⟩,
 ⟨some 11, .alloc #[(.int .i64 0), (.int .u64 0), (.int .u64 0), (.int .u64 0), (.int .u64 0), (.int .u64 0), (.int .u64 0), (.int .u64 0), (.int .u64 0), (.int .u64 0), (.int .u64 0), (.int .u64 0), (.int .u64 0), (.int .u64 0), (.int .u64 0), (.int .u64 0), (.int .u64 0), (.int .u64 0), (.int .u64 0), (.int .u64 0), (.int .u64 0), (.int .u64 0), (.int .u64 0), (.int .u64 0), (.int .u64 0), (.int .u64 0), (.int .u64 0), (.int .u64 0), (.int .u64 0), (.int .u64 0), (.int .u64 0), (.int .u64 0), (.int .u64 0)], none⟩,
 ⟨none, .store 33 (.tmp 11) (.tmp 21), none⟩,
 ⟨some 12, .mov (.tmp 22), none⟩] [])
 (.seq (.seq (.region [
 ⟨some 23, .mov (.tmp 12), none⟩,
 ⟨some 24, .bin .neq (.tmp 23) (.const (.int .i64 0)), none⟩] [])
 (.cond (.tmp 24) (.seq (.region [
  ⟨some 25, .build #[(.int .i64 0), (.int .u64 0), (.int .u64 0), (.int .u64 0), (.int .u64 0), (.int .u64 0), (.int .u64 0), (.int .u64 0), (.int .u64 0), (.int .u64 0), (.int .u64 0), (.int .u64 0), (.int .u64 0), (.int .u64 0), (.int .u64 0), (.int .u64 0), (.int .u64 0), (.int .u64 0), (.int .u64 0), (.int .u64 0), (.int .u64 0), (.int .u64 0), (.int .u64 0), (.int .u64 0), (.int .u64 0), (.int .u64 0), (.int .u64 0), (.int .u64 0), (.int .u64 0), (.int .u64 0), (.int .u64 0), (.int .u64 0), (.int .u64 0)] [], none⟩,
  ⟨some 26, .build #[(.int .i64 0), (.bool false), (.int .u64 0)] [], none⟩,
  ⟨some 27, .mov (.tmp 12), none⟩,
  ⟨none, .store 33 (.tmp 8) (.tmp 25), none⟩,
  ⟨none, .store 3 (.tmp 9) (.tmp 26), none⟩,
  ⟨some 10, .mov (.tmp 27), none⟩] [])
  .ret)
 .skip))
 (.seq (.region [
 ⟨some 28, .loadN 33 (.tmp 11), none⟩,
 ⟨some 29, .loadN 3 (.tmp 7), none⟩,
 ⟨none, .store 33 (.tmp 8) (.tmp 28), none⟩,
 ⟨none, .store 3 (.tmp 9) (.tmp 29), none⟩,
 ⟨some 10, .mov (.const (.int .i64 0)), none⟩] [(1, 1)])
 .ret))))) }
theorem c71 : bfunc Try.prog 71 = some b71 := by kernel_rfl

/-- (revenant/spec.State).find -/
def b72 : BFunc := { ntmps := 30, results := [.tmp 4, .tmp 5], body :=
 (.seq (.region [
 ⟨some 2, .box 33 (.tmp 0), none⟩,
 ⟨some 4, .mov (.const (.int .i64 0)), none⟩,
 ⟨some 5, .mov (.const (.bool false)), none⟩] [])
 (.seq (.seq (.region [
 ⟨some 7, .fieldAddr 0 (.tmp 2), none⟩,
 ⟨some 8, .load1 (.tmp 7), none⟩,
 ⟨some 9, .mov (.const (.int .i64 0)), none⟩] [])
 (.block 0 (.loop (.seq (.region [
 ⟨some 10, .bin .lss (.tmp 9) (.tmp 8), none⟩] [])
 (.seq (.cond (.tmp 10) .skip
 (.exit 0))
 (.seq (.block 1 (.seq (.region [
 ⟨some 11, .mov (.tmp 9), none⟩,
 ⟨some 6, .mov (.tmp 11), none⟩] [])
 (.seq (.region [
 ⟨some 12, .mov (.tmp 6), none⟩,
 ⟨some 13, .fieldAddr 1 (.tmp 2), none⟩,
 ⟨some 14, .indexArr 16 2 (.tmp 13) (.tmp 12), none⟩,
 ⟨some 15, .fieldAddr 0 (.tmp 14), none⟩,
 ⟨some 16, .load1 (.tmp 15), none⟩,
 ⟨some 17, .mov (.tmp 1), none⟩,
 ⟨some 18, .bin .geq (.tmp 16) (.tmp 17), none⟩] [])
 (.cond (.tmp 18) (.seq (.region [
  ⟨some 19, .mov (.tmp 6), none⟩,
  ⟨some 20, .mov (.tmp 6), none⟩,
  ⟨some 21, .fieldAddr 1 (.tmp 2), none⟩,
  ⟨some 22, .indexArr 16 2 (.tmp 21) (.tmp 20), none⟩,
  ⟨some 23, .fieldAddr 0 (.tmp 22), none⟩,
  ⟨some 24, .load1 (.tmp 23), none⟩,
  ⟨some 25, .mov (.tmp 1), none⟩,
  ⟨some 26, .bin .eql (.tmp 24) (.tmp 25), none⟩,
  ⟨some 4, .mov (.tmp 19), none⟩,
  ⟨some 5, .mov (.tmp 26), none⟩] [])
  .ret)
 .skip))))
 (.region [
 ⟨some 27, .bin .add (.tmp 9) (.const (.int .i64 1)), none⟩,
 ⟨some 9, .mov (.tmp 27), none⟩] [])))))))
 (.seq (.region [
 ⟨some 28, .fieldAddr 0 (.tmp 2), none⟩,
 ⟨some 29, .load1 (.tmp 28), none⟩,
 ⟨some 4, .mov (.tmp 29), none⟩,
 ⟨some 5, .mov (.const (.bool false)), none⟩] [])
 .ret))) }
theorem c72 : bfunc Try.prog 72 = some b72 := by kernel_rfl

/-- (revenant/spec.State).List -/
def b73 : BFunc := { ntmps := 8, results := [.tmp 2], body :=
 (.seq (.region [
 ⟨some 1, .box 33 (.tmp 0), none⟩,
 ⟨some 2, .mov (.const (.slice none 0 0)), none⟩] [])
 (.seq (.region [
 ⟨some 3, .fieldAddr 1 (.tmp 1), none⟩,
 ⟨some 4, .fieldAddr 0 (.tmp 1), none⟩,
 ⟨some 5, .load1 (.tmp 4), none⟩,
 ⟨some 6, .sliceArr 16 2 (.tmp 3) none (some (.tmp 5)), none⟩,
 ⟨some 7, .call 96 #[(.tmp 6)], none⟩,
 ⟨some 2, .mov (.tmp 7), none⟩] [])
 .ret)) }
theorem c73 : bfunc Try.prog 73 = some b73 := by kernel_rfl

/-- (revenant/revenantref21.State).Sorted -/
def b74 : BFunc := { ntmps := 54, results := [.tmp 2], body :=
 (.seq (.region [
 ⟨some 1, .box 1 (.tmp 0), none⟩,
 ⟨some 2, .mov (.const (.slice none 0 0)), none⟩] [])
 (.seq (.region [
 ⟨some 7, .buildSlice #[] 0 [], none⟩,
 ⟨some 8, .fieldAddr 0 (.tmp 1), none⟩,
 ⟨some 9, .load1 (.tmp 8), none⟩,
 ⟨some 10, .append 2 16 #[(.int .u64 0), (.int .u64 0)] (.tmp 7) (.tmp 9), none⟩,
 ⟨some 3, .mov (.tmp 10), none⟩] [])
 (.seq (.seq (.region [
 ⟨some 4, .mov (.const (.int .i64 1)), none⟩] [])
 (.block 0 (.loop (.seq (.seq (.region [
 ⟨some 11, .mov (.tmp 4), none⟩,
 ⟨some 12, .mov (.tmp 3), none⟩,
 ⟨some 13, .lenS (.tmp 12), none⟩,
 ⟨some 14, .bin .lss (.tmp 11) (.tmp 13), none⟩] [])
 (.cond (.tmp 14) .skip
 (.exit 0)))
 (.seq (.block 1 (.seq (.region [
 ⟨some 17, .mov (.tmp 4), none⟩,
 ⟨some 5, .mov (.tmp 17), none⟩] [])
 (.block 2 (.loop (.seq (.seq (.region [
 ⟨some 18, .mov (.tmp 5), none⟩,
 ⟨some 19, .bin .gtr (.tmp 18) (.const (.int .i64 0)), none⟩,
 ⟨some 20, .mov (.tmp 19), none⟩,
 ⟨some 21, .mov (.tmp 3), some (20, true)⟩,
 ⟨some 22, .mov (.tmp 5), some (20, true)⟩,
 ⟨some 23, .indexSl 2 (.tmp 21) (.tmp 22), some (20, true)⟩,
 ⟨some 24, .fieldAddr 0 (.tmp 23), some (20, true)⟩,
 ⟨some 25, .load1 (.tmp 24), some (20, true)⟩,
 ⟨some 26, .mov (.tmp 3), some (20, true)⟩,
 ⟨some 27, .mov (.tmp 5), some (20, true)⟩,
 ⟨some 28, .bin .sub (.tmp 27) (.const (.int .i64 1)), some (20, true)⟩,
 ⟨some 29, .indexSl 2 (.tmp 26) (.tmp 28), some (20, true)⟩,
 ⟨some 30, .fieldAddr 0 (.tmp 29), some (20, true)⟩,
 ⟨some 31, .load1 (.tmp 30), some (20, true)⟩,
 ⟨some 32, .bin .lss (.tmp 25) (.tmp 31), some (20, true)⟩,
 ⟨some 33, .pick (.tmp 20) (.tmp 32) (.const (.bool false)), none⟩] [])
 (.cond (.tmp 33) .skip
 (.exit 2)))
 (.seq (.block 3 (.seq (.region [
 ⟨some 36, .mov (.tmp 3), none⟩,
 ⟨some 37, .mov (.tmp 5), none⟩,
 ⟨some 38, .indexSl 2 (.tmp 36) (.tmp 37), none⟩,
 ⟨some 39, .loadN 2 (.tmp 38), none⟩,
 ⟨some 6, .alloc #[(.int .u64 0), (.int .u64 0)], none⟩,
 ⟨none, .store 2 (.tmp 6) (.tmp 39), none⟩] [])
 (.seq (.region [
 ⟨some 40, .mov (.tmp 3), none⟩,
 ⟨some 41, .mov (.tmp 5), none⟩,
 ⟨some 42, .mov (.tmp 3), none⟩,
 ⟨some 43, .mov (.tmp 5), none⟩,
 ⟨some 44, .bin .sub (.tmp 43) (.const (.int .i64 1)), none⟩,
 ⟨some 45, .indexSl 2 (.tmp 42) (.tmp 44), none⟩,
 ⟨some 46, .loadN 2 (.tmp 45), none⟩,
 ⟨some 47, .indexSl 2 (.tmp 40) (.tmp 41), none⟩,
 ⟨none, .store 2 (.tmp 47) (.tmp 46), none⟩] [])
 (.region [
 ⟨some 48, .mov (.tmp 3), none⟩,
 ⟨some 49, .mov (.tmp 5), none⟩,
 ⟨some 50, .bin .sub (.tmp 49) (.const (.int .i64 1)), none⟩,
 ⟨some 51, .loadN 2 (.tmp 6), none⟩,
 ⟨some 52, .indexSl 2 (.tmp 48) (.tmp 50), none⟩,
 ⟨none, .store 2 (.tmp 52) (.tmp 51), none⟩] []))))
 (.region [
 ⟨some 34, .mov (.tmp 5), none⟩,
 ⟨some 35, .bin .sub (.tmp 34) (.const (.int .i64 1)), none⟩,
 ⟨some 5, .mov (.tmp 35), none⟩] [])))))))
 (.region [
 ⟨some 15, .mov (.tmp 4), none⟩,
 ⟨some 16, .bin .add (.tmp 15) (.const (.int .i64 1)), none⟩,
 ⟨some 4, .mov (.tmp 16), none⟩] []))))))
 (.seq (.region [
 ⟨some 53, .mov (.tmp 3), none⟩,
 ⟨some 2, .mov (.tmp 53), none⟩] [])
 .ret)))) }
theorem c74 : bfunc Try.prog 74 = some b74 := by kernel_rfl

/-- (revenant/spec.State).Len -/
def b75 : BFunc := { ntmps := 5, results := [.tmp 2], body :=
 (.seq (.region [
 ⟨some 1, .box 33 (.tmp 0), none⟩,
 ⟨some 2, .mov (.const (.int .i64 0)), none⟩] [])
 (.seq (.region [
 ⟨some 3, .fieldAddr 0 (.tmp 1), none⟩,
 ⟨some 4, .load1 (.tmp 3), none⟩,
 ⟨some 2, .mov (.tmp 4), none⟩] [])
 .ret)) }
theorem c75 : bfunc Try.prog 75 = some b75 := by kernel_rfl

/-- revenant/spec.isRefused -/
def b76 : BFunc := { ntmps := 33, results := [.tmp 4], body :=
 (.seq (.region [
 ⟨some 2, .box 4 (.tmp 0), none⟩,
 ⟨some 3, .box 3 (.tmp 1), none⟩,
 ⟨some 4, .mov (.const (.bool false)), none⟩] [])
 (.seq (.region [
 ⟨some 6, .fieldAddr 0 (.tmp 2), none⟩,
 ⟨some 7, .load1 (.tmp 6), none⟩,
 ⟨some 8, .bin .eql (.tmp 7) (.const (.int .i64 1)), none⟩,
 ⟨some 9, .mov (.tmp 8), none⟩,
 ⟨some 10, .fieldAddr 0 (.tmp 2), some (9, false)⟩,
 ⟨some 11, .load1 (.tmp 10), some (9, false)⟩,
 ⟨some 12, .bin .eql (.tmp 11) (.const (.int .i64 4)), some (9, false)⟩,
 ⟨some 13, .pick (.tmp 9) (.const (.bool true)) (.tmp 12), none⟩,
 ⟨some 14, .mov (.tmp 13), none⟩,
 ⟨some 15, .fieldAddr 0 (.tmp 2), some (14, false)⟩,
 ⟨some 16, .load1 (.tmp 15), some (14, false)⟩,
 ⟨some 17, .bin .eql (.tmp 16) (.const (.int .i64 5)), some (14, false)⟩,
 ⟨some 18, .pick (.tmp 14) (.const (.bool true)) (.tmp 17), none⟩,
 ⟨some 5, .mov (.tmp 18), none⟩] [])
 (.seq (.seq (.region [
 ⟨some 19, .loadN 3 (.tmp 3), none⟩] [])
 (.block 0 (.seq (.region [
 ⟨some 21, .build #[(.int .i64 0), (.bool false), (.int .u64 0)] [(0, 1, (.const (.int .i64 6)))], none⟩,
 ⟨some 22, .eqv false (.agg [.int, .bool, .int]) (.tmp 19) (.tmp 21), none⟩,
 ⟨some 20, .mov (.tmp 22), none⟩] [])
 (.cond (.tmp 20) (.seq (.region [
  ⟨some 23, .mov (.tmp 5), none⟩,
  ⟨some 4, .mov (.tmp 23), none⟩] [])
  .ret)
 (.seq (.region [
  ⟨some 25, .build #[(.int .i64 0), (.bool false), (.int .u64 0)] [(0, 1, (.const (.int .i64 7)))], none⟩,
  ⟨some 26, .eqv false (.agg [.int, .bool, .int]) (.tmp 19) (.tmp 25), none⟩,
  ⟨some 24, .mov (.tmp 26), none⟩] [])
  (.cond (.tmp 24) (.seq (.region [
   ⟨some 27, .mov (.tmp 5), none⟩,
   ⟨some 28, .mov (.tmp 27), none⟩,
   ⟨some 29, .fieldAddr 0 (.tmp 2), some (28, false)⟩,
   ⟨some 30, .load1 (.tmp 29), some (28, false)⟩,
   ⟨some 31, .bin .eql (.tmp 30) (.const (.int .i64 8)), some (28, false)⟩,
   ⟨some 32, .pick (.tmp 28) (.const (.bool true)) (.tmp 31), none⟩,
   ⟨some 4, .mov (.tmp 32), none⟩] [])
   .ret)
  .skip))))))
 (.seq (.region [
 ⟨some 4, .mov (.const (.bool false)), none⟩] [])
 .ret)))) }
theorem c76 : bfunc Try.prog 76 = some b76 := by kernel_rfl

/-- (*revenant/soul.Souls).Is -/
def b77 : BFunc := { ntmps := 17, results := [.tmp 4], body :=
 (.seq (.region [
 ⟨some 3, .box 2 (.tmp 1), none⟩,
 ⟨some 4, .mov (.const (.bool false)), none⟩] [])
 (.seq (.region [
 ⟨some 5, .fieldAddr 1 (.tmp 3), none⟩,
 ⟨some 6, .load1 (.tmp 5), none⟩,
 ⟨some 7, .bin .neq (.tmp 6) (.const (.int .i64 0)), none⟩,
 ⟨some 8, .mov (.tmp 7), none⟩,
 ⟨some 9, .mov (.tmp 0), some (8, true)⟩,
 ⟨some 10, .fieldAddr 0 (.tmp 3), some (8, true)⟩,
 ⟨some 11, .load1 (.tmp 10), some (8, true)⟩,
 ⟨some 12, .call 46 #[(.tmp 9), (.tmp 11)], some (8, true)⟩,
 ⟨some 13, .fieldAddr 1 (.tmp 3), some (8, true)⟩,
 ⟨some 14, .load1 (.tmp 13), some (8, true)⟩,
 ⟨some 15, .bin .eql (.tmp 12) (.tmp 14), some (8, true)⟩,
 ⟨some 16, .pick (.tmp 8) (.tmp 15) (.const (.bool false)), none⟩,
 ⟨some 4, .mov (.tmp 16), none⟩] [(9, 0)])
 .ret)) }
theorem c77 : bfunc Try.prog 77 = some b77 := by kernel_rfl

/-- (*revenant/ghost.Ghost).Peek -/
def b78 : BFunc := { ntmps := 9, results := [.tmp 4], body :=
 (.seq (.region [
 ⟨some 3, .box 3 (.tmp 1), none⟩,
 ⟨some 4, .mov (.const (.int .u64 0)), none⟩] [])
 (.seq (.region [
 ⟨some 5, .mov (.tmp 0), none⟩,
 ⟨some 6, .call 81 #[(.tmp 5)], none⟩,
 ⟨some 7, .loadN 3 (.tmp 3), none⟩,
 ⟨some 8, .call 58 #[(.tmp 6), (.tmp 7)], none⟩,
 ⟨some 4, .mov (.tmp 8), none⟩] [(2, 0)])
 .ret)) }
theorem c78 : bfunc Try.prog 78 = some b78 := by kernel_rfl

/-- (*revenant/ghost.Ghost).isStale -/
def b79 : BFunc := { ntmps := 22, results := [.tmp 4], body :=
 (.seq (.region [
 ⟨some 3, .box 4 (.tmp 1), none⟩,
 ⟨some 4, .mov (.const (.bool false)), none⟩] [])
 (.seq (.region [
 ⟨some 5, .fieldAddr 0 (.tmp 3), none⟩,
 ⟨some 6, .fieldAddr 0 (.tmp 5), none⟩,
 ⟨some 7, .load1 (.tmp 6), none⟩,
 ⟨some 8, .bin .eql (.tmp 7) (.const (.int .i64 5)), none⟩,
 ⟨some 9, .mov (.tmp 8), none⟩,
 ⟨some 10, .mov (.tmp 0), some (9, true)⟩,
 ⟨some 11, .nilCheck (.tmp 10), some (9, true)⟩,
 ⟨some 12, .fieldAddr 2 (.tmp 11), some (9, true)⟩,
 ⟨some 13, .load1 (.tmp 12), some (9, true)⟩,
 ⟨some 14, .fieldAddr 0 (.tmp 3), some (9, true)⟩,
 ⟨some 15, .fieldAddr 1 (.tmp 14), some (9, true)⟩,
 ⟨some 16, .load1 (.tmp 15), some (9, true)⟩,
 ⟨some 17, .call 46 #[(.tmp 13), (.tmp 16)], some (9, true)⟩,
 ⟨some 18, .fieldAddr 3 (.tmp 3), some (9, true)⟩,
 ⟨some 19, .load1 (.tmp 18), some (9, true)⟩,
 ⟨some 20, .bin .neq (.tmp 17) (.tmp 19), some (9, true)⟩,
 ⟨some 21, .pick (.tmp 9) (.tmp 20) (.const (.bool false)), none⟩,
 ⟨some 4, .mov (.tmp 21), none⟩] [(14, 0)])
 .ret)) }
theorem c79 : bfunc Try.prog 79 = some b79 := by kernel_rfl

/-- (*revenant/ghost.Ghost).lead -/
def b80 : BFunc := { ntmps := 33, results := [], body :=
 (.seq (.region [
 ⟨some 5, .box 4 (.tmp 1), none⟩,
 ⟨some 6, .box 3 (.tmp 2), none⟩] [])
 (.seq (.region [
 ⟨some 8, .mov (.tmp 0), none⟩,
 ⟨some 9, .nilCheck (.tmp 8), none⟩,
 ⟨some 10, .fieldAddr 1 (.tmp 9), none⟩,
 ⟨some 11, .load1 (.tmp 10), none⟩,
 ⟨some 12, .fieldAddr 0 (.tmp 5), none⟩,
 ⟨some 13, .loadN 3 (.tmp 12), none⟩,
 ⟨some 14, .fieldAddr 1 (.tmp 6), none⟩,
 ⟨some 15, .load1 (.tmp 14), none⟩,
 ⟨none, .mapUpdate (.agg [.int, .int, .int]) (.tmp 11) (.tmp 13) (.tmp 15), none⟩] [])
 (.seq (.region [
 ⟨some 16, .mov (.tmp 3), none⟩,
 ⟨some 17, .mov (.tmp 16), none⟩,
 ⟨some 18, .fieldAddr 2 (.tmp 6), some (17, false)⟩,
 ⟨some 19, .load1 (.tmp 18), some (17, false)⟩,
 ⟨some 20, .pick (.tmp 17) (.const (.bool true)) (.tmp 19), none⟩,
 ⟨some 21, .mov (.tmp 20), none⟩,
 ⟨some 22, .mov (.tmp 0), some (21, false)⟩,
 ⟨some 23, .loadN 4 (.tmp 5), some (21, false)⟩,
 ⟨some 24, .call 79 #[(.tmp 22), (.tmp 23)], some (21, false)⟩,
 ⟨some 25, .pick (.tmp 21) (.const (.bool true)) (.tmp 24), none⟩] [])
 (.cond (.tmp 25) (.region [
  ⟨some 26, .mov (.tmp 0), none⟩,
  ⟨some 27, .nilCheck (.tmp 26), none⟩,
  ⟨some 28, .fieldAddr 4 (.tmp 27), none⟩,
  ⟨some 29, .load1 (.tmp 28), none⟩,
  ⟨some 30, .bin .add (.tmp 29) (.const (.int .i64 1)), none⟩,
  ⟨some 31, .nilCheck (.tmp 26), none⟩,
  ⟨some 32, .fieldAddr 4 (.tmp 31), none⟩,
  ⟨none, .store 1 (.tmp 32) (.tmp 30), none⟩] [])
 .skip)))) }
theorem c80 : bfunc Try.prog 80 = some b80 := by kernel_rfl

/-- (*revenant/ghost.Ghost).under -/
def b81 : BFunc := { ntmps := 9, results := [.tmp 2], body :=
 (.seq (.region [
 ⟨some 2, .mov (.const (.pointer none)), none⟩] [])
 (.seq (.seq (.region [
 ⟨some 3, .mov (.tmp 0), none⟩,
 ⟨some 4, .eqv false .ptr (.tmp 3) (.const (.pointer none)), none⟩] [])
 (.cond (.tmp 4) (.seq (.region [
  ⟨some 2, .mov (.const (.pointer none)), none⟩] [])
  .ret)
 .skip))
 (.seq (.region [
 ⟨some 5, .mov (.tmp 0), none⟩,
 ⟨some 6, .nilCheck (.tmp 5), none⟩,
 ⟨some 7, .fieldAddr 0 (.tmp 6), none⟩,
 ⟨some 8, .load1 (.tmp 7), none⟩,
 ⟨some 2, .mov (.tmp 8), none⟩] [])
 .ret))) }
theorem c81 : bfunc Try.prog 81 = some b81 := by kernel_rfl

/-- (*revenant/revenantref08.Ghost).Load -/
def b82 : BFunc := { ntmps := 33, results := [.tmp 6, .tmp 7, .tmp 8], body :=
 (.seq (.region [
 ⟨some 4, .box 3 (.tmp 1), none⟩,
 ⟨some 6, .mov (.const (.int .u64 0)), none⟩,
 ⟨some 7, .mov (.const (.int .i64 0)), none⟩,
 ⟨some 8, .mov (.const (.bool false)), none⟩] [])
 (.seq (.region [
 ⟨some 13, .mov (.tmp 0), none⟩,
 ⟨some 14, .nilCheck (.tmp 13), none⟩,
 ⟨some 15, .fieldAddr 0 (.tmp 14), none⟩,
 ⟨some 16, .loadN 3 (.tmp 4), none⟩,
 ⟨some 17, .mov (.tmp 2), none⟩,
 ⟨some 18, .call 97 #[(.tmp 15), (.tmp 16), (.tmp 17)], none⟩,
 ⟨some 12, .mov (.tmp 18), none⟩,
 ⟨some 19, .extract (.tmp 12) 0, none⟩,
 ⟨some 20, .extract (.tmp 12) 1, none⟩,
 ⟨some 21, .extract (.tmp 12) 2, none⟩,
 ⟨some 9, .mov (.tmp 19), none⟩,
 ⟨some 10, .mov (.tmp 20), none⟩,
 ⟨some 11, .mov (.tmp 21), none⟩] [])
 (.seq (.seq (.region [
 ⟨some 22, .mov (.tmp 11), none⟩] [])
 (.cond (.tmp 22) (.region [
  ⟨some 23, .mov (.tmp 0), none⟩,
  ⟨some 24, .nilCheck (.tmp 23), none⟩,
  ⟨some 25, .fieldAddr 4 (.tmp 24), none⟩,
  ⟨some 26, .load1 (.tmp 25), none⟩,
  ⟨some 27, .bin .add (.tmp 26) (.const (.int .i64 1)), none⟩,
  ⟨some 28, .nilCheck (.tmp 23), none⟩,
  ⟨some 29, .fieldAddr 4 (.tmp 28), none⟩,
  ⟨none, .store 1 (.tmp 29) (.tmp 27), none⟩] [])
 .skip))
 (.seq (.region [
 ⟨some 30, .mov (.tmp 9), none⟩,
 ⟨some 31, .mov (.tmp 10), none⟩,
 ⟨some 32, .mov (.tmp 11), none⟩,
 ⟨some 6, .mov (.tmp 30), none⟩,
 ⟨some 7, .mov (.tmp 31), none⟩,
 ⟨some 8, .mov (.tmp 32), none⟩] [])
 .ret)))) }
theorem c82 : bfunc Try.prog 82 = some b82 := by kernel_rfl

/-- (*revenant/revenantref07.Ghost).Store -/
def b83 : BFunc := { ntmps := 39, results := [], body :=
 (.seq (.region [
 ⟨some 7, .box 3 (.tmp 1), none⟩] [])
 (.seq (.seq (.region [
 ⟨some 12, .mov (.tmp 5), none⟩,
 ⟨some 13, .mov (.tmp 12), none⟩,
 ⟨some 14, .mov (.tmp 0), some (13, false)⟩,
 ⟨some 15, .loadN 3 (.tmp 7), some (13, false)⟩,
 ⟨some 16, .mov (.tmp 2), some (13, false)⟩,
 ⟨some 17, .call 98 #[(.tmp 14), (.tmp 15), (.tmp 16)], some (13, false)⟩,
 ⟨some 18, .pick (.tmp 13) (.const (.bool true)) (.tmp 17), none⟩] [])
 (.cond (.tmp 18) (.region [
  ⟨some 19, .mov (.tmp 0), none⟩,
  ⟨some 20, .nilCheck (.tmp 19), none⟩,
  ⟨some 21, .fieldAddr 3 (.tmp 20), none⟩,
  ⟨some 22, .load1 (.tmp 21), none⟩,
  ⟨some 23, .bin .add (.tmp 22) (.const (.int .i64 1)), none⟩,
  ⟨some 24, .nilCheck (.tmp 19), none⟩,
  ⟨some 25, .fieldAddr 3 (.tmp 24), none⟩,
  ⟨none, .store 1 (.tmp 25) (.tmp 23), none⟩] [])
 .skip))
 (.seq (.region [
 ⟨some 26, .mov (.tmp 0), none⟩,
 ⟨some 27, .nilCheck (.tmp 26), none⟩,
 ⟨some 28, .fieldAddr 0 (.tmp 27), none⟩,
 ⟨some 29, .loadN 3 (.tmp 7), none⟩,
 ⟨some 30, .mov (.tmp 3), none⟩,
 ⟨some 31, .call 68 #[(.tmp 28), (.tmp 29), (.tmp 30)], none⟩] [])
 (.region [
 ⟨some 32, .mov (.tmp 0), none⟩,
 ⟨some 33, .nilCheck (.tmp 32), none⟩,
 ⟨some 34, .fieldAddr 1 (.tmp 33), none⟩,
 ⟨some 35, .loadN 3 (.tmp 7), none⟩,
 ⟨some 36, .mov (.tmp 4), none⟩,
 ⟨some 37, .conv .u64 (.tmp 36), none⟩,
 ⟨some 38, .call 68 #[(.tmp 34), (.tmp 35), (.tmp 37)], none⟩] [])))) }
theorem c83 : bfunc Try.prog 83 = some b83 := by kernel_rfl

/-- (*revenant/revenantref07.Ghost).Swap -/
def b84 : BFunc := { ntmps := 34, results := [.tmp 16], body :=
 (.seq (.region [
 ⟨some 9, .box 3 (.tmp 1), none⟩,
 ⟨some 16, .mov (.const (.bool false)), none⟩] [])
 (.seq (.seq (.region [
 ⟨some 17, .mov (.tmp 0), none⟩,
 ⟨some 18, .nilCheck (.tmp 17), none⟩,
 ⟨some 19, .fieldAddr 0 (.tmp 18), none⟩,
 ⟨some 20, .loadN 3 (.tmp 9), none⟩,
 ⟨some 21, .call 66 #[(.tmp 19), (.tmp 20)], none⟩,
 ⟨some 22, .mov (.tmp 3), none⟩,
 ⟨some 23, .bin .neq (.tmp 21) (.tmp 22), none⟩] [])
 (.cond (.tmp 23) (.seq (.region [
  ⟨some 16, .mov (.const (.bool false)), none⟩] [])
  .ret)
 .skip))
 (.seq (.region [
 ⟨some 24, .mov (.tmp 0), none⟩,
 ⟨some 25, .loadN 3 (.tmp 9), none⟩,
 ⟨some 26, .mov (.tmp 2), none⟩,
 ⟨some 27, .mov (.tmp 5), none⟩,
 ⟨some 28, .mov (.tmp 6), none⟩,
 ⟨some 29, .mov (.tmp 7), none⟩,
 ⟨some 30, .mov (.tmp 29), none⟩,
 ⟨some 31, .mov (.tmp 4), some (30, false)⟩,
 ⟨some 32, .pick (.tmp 30) (.const (.bool true)) (.tmp 31), none⟩,
 ⟨some 33, .call 83 #[(.tmp 24), (.tmp 25), (.tmp 26), (.tmp 27), (.tmp 28), (.tmp 32)], none⟩] [])
 (.seq (.region [
 ⟨some 16, .mov (.const (.bool true)), none⟩] [])
 .ret)))) }
theorem c84 : bfunc Try.prog 84 = some b84 := by kernel_rfl

/-- (*revenant/ghost.Ghost).Add -/
def b85 : BFunc := { ntmps := 12, results := [.tmp 6], body :=
 (.seq (.region [
 ⟨some 4, .box 4 (.tmp 1), none⟩,
 ⟨some 6, .mov (.const (.int .u64 0)), none⟩] [])
 (.seq (.region [
 ⟨some 7, .mov (.tmp 0), none⟩,
 ⟨some 8, .call 81 #[(.tmp 7)], none⟩,
 ⟨some 9, .loadN 4 (.tmp 4), none⟩,
 ⟨some 10, .mov (.tmp 2), none⟩,
 ⟨some 11, .call 57 #[(.tmp 8), (.tmp 9), (.tmp 10)], none⟩,
 ⟨some 6, .mov (.tmp 11), none⟩] [(2, 0)])
 .ret)) }
theorem c85 : bfunc Try.prog 85 = some b85 := by kernel_rfl

/-- (*revenant/revenantref08.Ghost).Add -/
def b86 : BFunc := { ntmps := 24, results := [.tmp 6], body :=
 (.seq (.region [
 ⟨some 4, .box 3 (.tmp 1), none⟩,
 ⟨some 6, .mov (.const (.int .u64 0)), none⟩] [])
 (.seq (.region [
 ⟨some 8, .mov (.tmp 0), none⟩,
 ⟨some 9, .nilCheck (.tmp 8), none⟩,
 ⟨some 10, .fieldAddr 0 (.tmp 9), none⟩,
 ⟨some 11, .fieldAddr 0 (.tmp 10), none⟩,
 ⟨some 12, .loadN 3 (.tmp 4), none⟩,
 ⟨some 13, .call 66 #[(.tmp 11), (.tmp 12)], none⟩,
 ⟨some 7, .mov (.tmp 13), none⟩] [])
 (.seq (.region [
 ⟨some 14, .mov (.tmp 0), none⟩,
 ⟨some 15, .nilCheck (.tmp 14), none⟩,
 ⟨some 16, .fieldAddr 0 (.tmp 15), none⟩,
 ⟨some 17, .fieldAddr 0 (.tmp 16), none⟩,
 ⟨some 18, .loadN 3 (.tmp 4), none⟩,
 ⟨some 19, .mov (.tmp 7), none⟩,
 ⟨some 20, .mov (.tmp 2), none⟩,
 ⟨some 21, .bin .add (.tmp 19) (.tmp 20), none⟩,
 ⟨some 22, .call 68 #[(.tmp 17), (.tmp 18), (.tmp 21)], none⟩] [])
 (.seq (.region [
 ⟨some 23, .mov (.tmp 7), none⟩,
 ⟨some 6, .mov (.tmp 23), none⟩] [])
 .ret)))) }
theorem c86 : bfunc Try.prog 86 = some b86 := by kernel_rfl

/-- revenant/cell.New -/
def b87 : BFunc := { ntmps := 4, results := [.tmp 0], body :=
 (.seq (.region [
 ⟨some 0, .mov (.const (.pointer none)), none⟩] [])
 (.seq (.region [
 ⟨some 1, .makeMap, none⟩,
 ⟨some 2, .build #[(.map none), (.int .i64 0), (.int .i64 0), (.int .i64 0), (.int .i64 0), (.int .i64 0)] [(0, 1, (.tmp 1))], none⟩,
 ⟨some 3, .box 6 (.tmp 2), none⟩,
 ⟨some 0, .mov (.tmp 3), none⟩] [])
 .ret)) }
theorem c87 : bfunc Try.prog 87 = some b87 := by kernel_rfl

/-- (*revenant/world.Plain).words -/
def b88 : BFunc := { ntmps := 9, results := [.tmp 2], body :=
 (.seq (.region [
 ⟨some 2, .mov (.const (.pointer none)), none⟩] [])
 (.seq (.seq (.region [
 ⟨some 3, .mov (.tmp 0), none⟩,
 ⟨some 4, .eqv false .ptr (.tmp 3) (.const (.pointer none)), none⟩] [])
 (.cond (.tmp 4) (.seq (.region [
  ⟨some 2, .mov (.const (.pointer none)), none⟩] [])
  .ret)
 .skip))
 (.seq (.region [
 ⟨some 5, .mov (.tmp 0), none⟩,
 ⟨some 6, .nilCheck (.tmp 5), none⟩,
 ⟨some 7, .fieldAddr 0 (.tmp 6), none⟩,
 ⟨some 8, .load1 (.tmp 7), none⟩,
 ⟨some 2, .mov (.tmp 8), none⟩] [])
 .ret))) }
theorem c88 : bfunc Try.prog 88 = some b88 := by kernel_rfl

/-- (*revenant/cell.Cells).Load -/
def b89 : BFunc := { ntmps := 22, results := [.tmp 4], body :=
 (.seq (.region [
 ⟨some 3, .box 3 (.tmp 1), none⟩,
 ⟨some 4, .mov (.const (.int .u64 0)), none⟩] [])
 (.seq (.seq (.region [
 ⟨some 5, .mov (.tmp 0), none⟩,
 ⟨some 6, .eqv false .ptr (.tmp 5) (.const (.pointer none)), none⟩] [])
 (.cond (.tmp 6) (.seq (.region [
  ⟨some 4, .mov (.const (.int .u64 0)), none⟩] [])
  .ret)
 .skip))
 (.seq (.region [
 ⟨some 7, .mov (.tmp 0), none⟩,
 ⟨some 8, .nilCheck (.tmp 7), none⟩,
 ⟨some 9, .fieldAddr 1 (.tmp 8), none⟩,
 ⟨some 10, .fieldAddr 0 (.tmp 9), none⟩,
 ⟨some 11, .load1 (.tmp 10), none⟩,
 ⟨some 12, .bin .add (.tmp 11) (.const (.int .i64 1)), none⟩,
 ⟨some 13, .nilCheck (.tmp 7), none⟩,
 ⟨some 14, .fieldAddr 1 (.tmp 13), none⟩,
 ⟨some 15, .fieldAddr 0 (.tmp 14), none⟩,
 ⟨none, .store 1 (.tmp 15) (.tmp 12), none⟩] [])
 (.seq (.region [
 ⟨some 16, .mov (.tmp 0), none⟩,
 ⟨some 17, .nilCheck (.tmp 16), none⟩,
 ⟨some 18, .fieldAddr 0 (.tmp 17), none⟩,
 ⟨some 19, .load1 (.tmp 18), none⟩,
 ⟨some 20, .loadN 3 (.tmp 3), none⟩,
 ⟨some 21, .lookup (.agg [.int, .int, .int]) (.int .u64 0) false (.tmp 19) (.tmp 20), none⟩,
 ⟨some 4, .mov (.tmp 21), none⟩] [])
 .ret)))) }
theorem c89 : bfunc Try.prog 89 = some b89 := by kernel_rfl

/-- (*revenant/cell.Cells).Store -/
def b90 : BFunc := { ntmps := 21, results := [], body :=
 (.seq (.region [
 ⟨some 4, .box 3 (.tmp 1), none⟩] [])
 (.seq (.seq (.region [
 ⟨some 6, .mov (.tmp 0), none⟩,
 ⟨some 7, .eqv false .ptr (.tmp 6) (.const (.pointer none)), none⟩] [])
 (.cond (.tmp 7) .ret
 .skip))
 (.seq (.region [
 ⟨some 8, .mov (.tmp 0), none⟩,
 ⟨some 9, .nilCheck (.tmp 8), none⟩,
 ⟨some 10, .fieldAddr 1 (.tmp 9), none⟩,
 ⟨some 11, .fieldAddr 1 (.tmp 10), none⟩,
 ⟨some 12, .load1 (.tmp 11), none⟩,
 ⟨some 13, .bin .add (.tmp 12) (.const (.int .i64 1)), none⟩,
 ⟨some 14, .nilCheck (.tmp 8), none⟩,
 ⟨some 15, .fieldAddr 1 (.tmp 14), none⟩,
 ⟨some 16, .fieldAddr 1 (.tmp 15), none⟩,
 ⟨none, .store 1 (.tmp 16) (.tmp 13), none⟩] [])
 (.region [
 ⟨some 17, .mov (.tmp 0), none⟩,
 ⟨some 18, .loadN 3 (.tmp 4), none⟩,
 ⟨some 19, .mov (.tmp 2), none⟩,
 ⟨some 20, .call 99 #[(.tmp 17), (.tmp 18), (.tmp 19)], none⟩] [])))) }
theorem c90 : bfunc Try.prog 90 = some b90 := by kernel_rfl

/-- (*revenant/cell.Cells).Swap -/
def b91 : BFunc := { ntmps := 41, results := [.tmp 8], body :=
 (.seq (.region [
 ⟨some 5, .box 3 (.tmp 1), none⟩,
 ⟨some 8, .mov (.const (.bool false)), none⟩] [])
 (.seq (.seq (.region [
 ⟨some 9, .mov (.tmp 0), none⟩,
 ⟨some 10, .eqv false .ptr (.tmp 9) (.const (.pointer none)), none⟩] [])
 (.cond (.tmp 10) (.seq (.region [
  ⟨some 8, .mov (.const (.bool false)), none⟩] [])
  .ret)
 .skip))
 (.seq (.region [
 ⟨some 11, .mov (.tmp 0), none⟩,
 ⟨some 12, .nilCheck (.tmp 11), none⟩,
 ⟨some 13, .fieldAddr 1 (.tmp 12), none⟩,
 ⟨some 14, .fieldAddr 2 (.tmp 13), none⟩,
 ⟨some 15, .load1 (.tmp 14), none⟩,
 ⟨some 16, .bin .add (.tmp 15) (.const (.int .i64 1)), none⟩,
 ⟨some 17, .nilCheck (.tmp 11), none⟩,
 ⟨some 18, .fieldAddr 1 (.tmp 17), none⟩,
 ⟨some 19, .fieldAddr 2 (.tmp 18), none⟩,
 ⟨none, .store 1 (.tmp 19) (.tmp 16), none⟩] [])
 (.seq (.seq (.region [
 ⟨some 20, .mov (.tmp 0), none⟩,
 ⟨some 21, .nilCheck (.tmp 20), none⟩,
 ⟨some 22, .fieldAddr 0 (.tmp 21), none⟩,
 ⟨some 23, .load1 (.tmp 22), none⟩,
 ⟨some 24, .loadN 3 (.tmp 5), none⟩,
 ⟨some 25, .lookup (.agg [.int, .int, .int]) (.int .u64 0) false (.tmp 23) (.tmp 24), none⟩,
 ⟨some 26, .mov (.tmp 2), none⟩,
 ⟨some 27, .bin .neq (.tmp 25) (.tmp 26), none⟩] [])
 (.cond (.tmp 27) (.seq (.region [
  ⟨some 28, .mov (.tmp 0), none⟩,
  ⟨some 29, .nilCheck (.tmp 28), none⟩,
  ⟨some 30, .fieldAddr 1 (.tmp 29), none⟩,
  ⟨some 31, .fieldAddr 3 (.tmp 30), none⟩,
  ⟨some 32, .load1 (.tmp 31), none⟩,
  ⟨some 33, .bin .add (.tmp 32) (.const (.int .i64 1)), none⟩,
  ⟨some 34, .nilCheck (.tmp 28), none⟩,
  ⟨some 35, .fieldAddr 1 (.tmp 34), none⟩,
  ⟨some 36, .fieldAddr 3 (.tmp 35), none⟩,
  ⟨none, .store 1 (.tmp 36) (.tmp 33), none⟩] [])
  (.seq (.region [
  ⟨some 8, .mov (.const (.bool false)), none⟩] [])
  .ret))
 .skip))
 (.seq (.region [
 ⟨some 37, .mov (.tmp 0), none⟩,
 ⟨some 38, .loadN 3 (.tmp 5), none⟩,
 ⟨some 39, .mov (.tmp 3), none⟩,
 ⟨some 40, .call 99 #[(.tmp 37), (.tmp 38), (.tmp 39)], none⟩] [])
 (.seq (.region [
 ⟨some 8, .mov (.const (.bool true)), none⟩] [])
 .ret)))))) }
theorem c91 : bfunc Try.prog 91 = some b91 := by kernel_rfl

/-- (*revenant/cell.Cells).Add -/
def b92 : BFunc := { ntmps := 32, results := [.tmp 6], body :=
 (.seq (.region [
 ⟨some 4, .box 3 (.tmp 1), none⟩,
 ⟨some 6, .mov (.const (.int .u64 0)), none⟩] [])
 (.seq (.seq (.region [
 ⟨some 8, .mov (.tmp 0), none⟩,
 ⟨some 9, .eqv false .ptr (.tmp 8) (.const (.pointer none)), none⟩] [])
 (.cond (.tmp 9) (.seq (.region [
  ⟨some 6, .mov (.const (.int .u64 0)), none⟩] [])
  .ret)
 .skip))
 (.seq (.region [
 ⟨some 10, .mov (.tmp 0), none⟩,
 ⟨some 11, .nilCheck (.tmp 10), none⟩,
 ⟨some 12, .fieldAddr 1 (.tmp 11), none⟩,
 ⟨some 13, .fieldAddr 4 (.tmp 12), none⟩,
 ⟨some 14, .load1 (.tmp 13), none⟩,
 ⟨some 15, .bin .add (.tmp 14) (.const (.int .i64 1)), none⟩,
 ⟨some 16, .nilCheck (.tmp 10), none⟩,
 ⟨some 17, .fieldAddr 1 (.tmp 16), none⟩,
 ⟨some 18, .fieldAddr 4 (.tmp 17), none⟩,
 ⟨none, .store 1 (.tmp 18) (.tmp 15), none⟩] [])
 (.seq (.region [
 ⟨some 19, .mov (.tmp 0), none⟩,
 ⟨some 20, .nilCheck (.tmp 19), none⟩,
 ⟨some 21, .fieldAddr 0 (.tmp 20), none⟩,
 ⟨some 22, .load1 (.tmp 21), none⟩,
 ⟨some 23, .loadN 3 (.tmp 4), none⟩,
 ⟨some 24, .lookup (.agg [.int, .int, .int]) (.int .u64 0) false (.tmp 22) (.tmp 23), none⟩,
 ⟨some 7, .mov (.tmp 24), none⟩] [])
 (.seq (.region [
 ⟨some 25, .mov (.tmp 0), none⟩,
 ⟨some 26, .loadN 3 (.tmp 4), none⟩,
 ⟨some 27, .mov (.tmp 7), none⟩,
 ⟨some 28, .mov (.tmp 2), none⟩,
 ⟨some 29, .bin .add (.tmp 27) (.tmp 28), none⟩,
 ⟨some 30, .call 99 #[(.tmp 25), (.tmp 26), (.tmp 29)], none⟩] [])
 (.seq (.region [
 ⟨some 31, .mov (.tmp 7), none⟩,
 ⟨some 6, .mov (.tmp 31), none⟩] [])
 .ret)))))) }
theorem c92 : bfunc Try.prog 92 = some b92 := by kernel_rfl

/-- (*revenant/cell.Cells).Peek -/
def b93 : BFunc := { ntmps := 13, results := [.tmp 4], body :=
 (.seq (.region [
 ⟨some 3, .box 3 (.tmp 1), none⟩,
 ⟨some 4, .mov (.const (.int .u64 0)), none⟩] [])
 (.seq (.seq (.region [
 ⟨some 5, .mov (.tmp 0), none⟩,
 ⟨some 6, .eqv false .ptr (.tmp 5) (.const (.pointer none)), none⟩] [])
 (.cond (.tmp 6) (.seq (.region [
  ⟨some 4, .mov (.const (.int .u64 0)), none⟩] [])
  .ret)
 .skip))
 (.seq (.region [
 ⟨some 7, .mov (.tmp 0), none⟩,
 ⟨some 8, .nilCheck (.tmp 7), none⟩,
 ⟨some 9, .fieldAddr 0 (.tmp 8), none⟩,
 ⟨some 10, .load1 (.tmp 9), none⟩,
 ⟨some 11, .loadN 3 (.tmp 3), none⟩,
 ⟨some 12, .lookup (.agg [.int, .int, .int]) (.int .u64 0) false (.tmp 10) (.tmp 11), none⟩,
 ⟨some 4, .mov (.tmp 12), none⟩] [])
 .ret))) }
theorem c93 : bfunc Try.prog 93 = some b93 := by kernel_rfl

/-- (*revenant/cell.Cells).Count -/
def b94 : BFunc := { ntmps := 10, results := [.cellN 5 2], body :=
 (.seq (.region [
 ⟨some 2, .alloc #[(.int .i64 0), (.int .i64 0), (.int .i64 0), (.int .i64 0), (.int .i64 0)], none⟩] [])
 (.seq (.seq (.region [
 ⟨some 3, .mov (.tmp 0), none⟩,
 ⟨some 4, .eqv false .ptr (.tmp 3) (.const (.pointer none)), none⟩] [])
 (.cond (.tmp 4) (.seq (.region [
  ⟨some 5, .build #[(.int .i64 0), (.int .i64 0), (.int .i64 0), (.int .i64 0), (.int .i64 0)] [], none⟩,
  ⟨none, .store 5 (.tmp 2) (.tmp 5), none⟩] [])
  .ret)
 .skip))
 (.seq (.region [
 ⟨some 6, .mov (.tmp 0), none⟩,
 ⟨some 7, .nilCheck (.tmp 6), none⟩,
 ⟨some 8, .fieldAddr 1 (.tmp 7), none⟩,
 ⟨some 9, .loadN 5 (.tmp 8), none⟩,
 ⟨none, .store 5 (.tmp 2) (.tmp 9), none⟩] [])
 .ret))) }
theorem c94 : bfunc Try.prog 94 = some b94 := by kernel_rfl

/-- (*revenant/revenantref06.Souls).All -/
def b95 : BFunc := { ntmps := 32, results := [.tmp 4], body :=
 (.seq (.region [
 ⟨some 4, .mov (.const (.slice none 0 0)), none⟩] [])
 (.seq (.region [
 ⟨some 7, .buildSlice #[] 0 [], none⟩,
 ⟨some 5, .mov (.tmp 7), none⟩] [])
 (.seq (.seq (.region [
 ⟨some 6, .mov (.const (.int .i64 0)), none⟩] [])
 (.block 0 (.loop (.seq (.seq (.region [
 ⟨some 8, .mov (.tmp 6), none⟩,
 ⟨some 9, .mov (.tmp 0), none⟩,
 ⟨some 10, .nilCheck (.tmp 9), none⟩,
 ⟨some 11, .fieldAddr 0 (.tmp 10), none⟩,
 ⟨some 12, .load1 (.tmp 11), none⟩,
 ⟨some 13, .lenS (.tmp 12), none⟩,
 ⟨some 14, .bin .lss (.tmp 8) (.tmp 13), none⟩] [])
 (.cond (.tmp 14) .skip
 (.exit 0)))
 (.seq (.block 1 (.seq (.region [
 ⟨some 17, .mov (.tmp 0), none⟩,
 ⟨some 18, .nilCheck (.tmp 17), none⟩,
 ⟨some 19, .fieldAddr 0 (.tmp 18), none⟩,
 ⟨some 20, .load1 (.tmp 19), none⟩,
 ⟨some 21, .mov (.tmp 6), none⟩,
 ⟨some 22, .indexSl 1 (.tmp 20) (.tmp 21), none⟩,
 ⟨some 23, .load1 (.tmp 22), none⟩,
 ⟨some 24, .mov (.tmp 1), none⟩,
 ⟨some 25, .bin .eql (.tmp 23) (.tmp 24), none⟩] [])
 (.cond (.tmp 25) (.region [
  ⟨some 26, .mov (.tmp 5), none⟩,
  ⟨some 27, .mov (.tmp 6), none⟩,
  ⟨some 28, .bin .add (.tmp 27) (.const (.int .i64 1)), none⟩,
  ⟨some 29, .buildSlice #[(.int .i64 0)] 1 [(0, 1, (.tmp 28))], none⟩,
  ⟨some 30, .append 1 8 #[(.int .i64 0)] (.tmp 26) (.tmp 29), none⟩,
  ⟨some 5, .mov (.tmp 30), none⟩] [])
 .skip)))
 (.region [
 ⟨some 15, .mov (.tmp 6), none⟩,
 ⟨some 16, .bin .add (.tmp 15) (.const (.int .i64 1)), none⟩,
 ⟨some 6, .mov (.tmp 16), none⟩] []))))))
 (.seq (.region [
 ⟨some 31, .mov (.tmp 5), none⟩,
 ⟨some 4, .mov (.tmp 31), none⟩] [])
 .ret)))) }
theorem c95 : bfunc Try.prog 95 = some b95 := by kernel_rfl

/-- slices.Clone[[]revenant/spec.Pair,revenant/spec.Pair] -/
def b96 : BFunc := { ntmps := 8, results := [.tmp 2], body :=
 (.seq (.region [
 ⟨some 2, .mov (.const (.slice none 0 0)), none⟩] [])
 (.seq (.seq (.region [
 ⟨some 3, .mov (.tmp 0), none⟩,
 ⟨some 4, .eqv false .nilSlice (.tmp 3) (.const (.slice none 0 0)), none⟩] [])
 (.cond (.tmp 4) (.seq (.region [
  ⟨some 2, .mov (.const (.slice none 0 0)), none⟩] [])
  .ret)
 .skip))
 (.seq (.region [
 ⟨some 5, .buildSlice #[] 0 [], none⟩,
 ⟨some 6, .mov (.tmp 0), none⟩,
 ⟨some 7, .append 2 16 #[(.int .u64 0), (.int .u64 0)] (.tmp 5) (.tmp 6), none⟩,
 ⟨some 2, .mov (.tmp 7), none⟩] [])
 .ret))) }
theorem c96 : bfunc Try.prog 96 = some b96 := by kernel_rfl

/-- (*revenant/revenantref07.Ghost).Load -/
def b97 : BFunc := { ntmps := 24, results := [.tmp 6, .tmp 7, .tmp 8], body :=
 (.seq (.region [
 ⟨some 4, .box 3 (.tmp 1), none⟩,
 ⟨some 6, .mov (.const (.int .u64 0)), none⟩,
 ⟨some 7, .mov (.const (.int .i64 0)), none⟩,
 ⟨some 8, .mov (.const (.bool false)), none⟩] [])
 (.seq (.region [
 ⟨some 9, .mov (.tmp 0), none⟩,
 ⟨some 10, .nilCheck (.tmp 9), none⟩,
 ⟨some 11, .fieldAddr 0 (.tmp 10), none⟩,
 ⟨some 12, .loadN 3 (.tmp 4), none⟩,
 ⟨some 13, .call 66 #[(.tmp 11), (.tmp 12)], none⟩,
 ⟨some 14, .mov (.tmp 0), none⟩,
 ⟨some 15, .nilCheck (.tmp 14), none⟩,
 ⟨some 16, .fieldAddr 1 (.tmp 15), none⟩,
 ⟨some 17, .loadN 3 (.tmp 4), none⟩,
 ⟨some 18, .call 66 #[(.tmp 16), (.tmp 17)], none⟩,
 ⟨some 19, .conv .i64 (.tmp 18), none⟩,
 ⟨some 20, .mov (.tmp 0), none⟩,
 ⟨some 21, .loadN 3 (.tmp 4), none⟩,
 ⟨some 22, .mov (.tmp 2), none⟩,
 ⟨some 23, .call 98 #[(.tmp 20), (.tmp 21), (.tmp 22)], none⟩,
 ⟨some 6, .mov (.tmp 13), none⟩,
 ⟨some 7, .mov (.tmp 19), none⟩,
 ⟨some 8, .mov (.tmp 23), none⟩] [(8, 0), (12, 0), (12, 1)])
 .ret)) }
theorem c97 : bfunc Try.prog 97 = some b97 := by kernel_rfl

/-- (*revenant/revenantref07.Ghost).Stale -/
def b98 : BFunc := { ntmps := 20, results := [.tmp 6], body :=
 (.seq (.region [
 ⟨some 4, .box 3 (.tmp 1), none⟩,
 ⟨some 6, .mov (.const (.bool false)), none⟩] [])
 (.seq (.region [
 ⟨some 7, .fieldAddr 0 (.tmp 4), none⟩,
 ⟨some 8, .load1 (.tmp 7), none⟩,
 ⟨some 9, .bin .eql (.tmp 8) (.const (.int .i64 5)), none⟩,
 ⟨some 10, .mov (.tmp 9), none⟩,
 ⟨some 11, .mov (.tmp 0), some (10, true)⟩,
 ⟨some 12, .nilCheck (.tmp 11), some (10, true)⟩,
 ⟨some 13, .fieldAddr 2 (.tmp 12), some (10, true)⟩,
 ⟨some 14, .fieldAddr 1 (.tmp 4), some (10, true)⟩,
 ⟨some 15, .load1 (.tmp 14), some (10, true)⟩,
 ⟨some 16, .call 70 #[(.tmp 13), (.tmp 15)], some (10, true)⟩,
 ⟨some 17, .mov (.tmp 2), some (10, true)⟩,
 ⟨some 18, .bin .neq (.tmp 16) (.tmp 17), some (10, true)⟩,
 ⟨some 19, .pick (.tmp 10) (.tmp 18) (.const (.bool false)), none⟩,
 ⟨some 6, .mov (.tmp 19), none⟩] [])
 .ret)) }
theorem c98 : bfunc Try.prog 98 = some b98 := by kernel_rfl

/-- (*revenant/cell.Cells).put -/
def b99 : BFunc := { ntmps := 19, results := [], body :=
 (.seq (.region [
 ⟨some 4, .box 3 (.tmp 1), none⟩] [])
 (.seq (.seq (.region [
 ⟨some 6, .mov (.tmp 2), none⟩,
 ⟨some 7, .bin .eql (.tmp 6) (.const (.int .u64 0)), none⟩] [])
 (.cond (.tmp 7) (.seq (.region [
  ⟨some 8, .mov (.tmp 0), none⟩,
  ⟨some 9, .nilCheck (.tmp 8), none⟩,
  ⟨some 10, .fieldAddr 0 (.tmp 9), none⟩,
  ⟨some 11, .load1 (.tmp 10), none⟩,
  ⟨some 12, .loadN 3 (.tmp 4), none⟩,
  ⟨none, .delete (.agg [.int, .int, .int]) (.tmp 11) (.tmp 12), none⟩] [])
  .ret)
 .skip))
 (.region [
 ⟨some 13, .mov (.tmp 0), none⟩,
 ⟨some 14, .nilCheck (.tmp 13), none⟩,
 ⟨some 15, .fieldAddr 0 (.tmp 14), none⟩,
 ⟨some 16, .load1 (.tmp 15), none⟩,
 ⟨some 17, .loadN 3 (.tmp 4), none⟩,
 ⟨some 18, .mov (.tmp 2), none⟩,
 ⟨none, .mapUpdate (.agg [.int, .int, .int]) (.tmp 16) (.tmp 17) (.tmp 18), none⟩] []))) }
theorem c99 : bfunc Try.prog 99 = some b99 := by kernel_rfl

end Go.Proofs.Ytleoicjpcdmfkaa
