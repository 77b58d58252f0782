/-
  Pure functions, and that the code does what they do: by program.
-/
import Derived.Test.YtbldikkinholnaaDoorAb29
import Derived.Test.YtbldikkinholnaaDoorProg
import Derived.KernelRfl
namespace Go.Proofs
open Go Go.Ab
set_option linter.unusedSimpArgs false
set_option linter.unusedVariables false
set_option maxHeartbeats 8000000

theorem mix : Tryd.prog.follows .mixedOrders = true := by kernel_rfl
def Tryd.ac3 : ACode :=
  (.seq (.reg [
     ⟨some 4, .op (.mov (.val (.bool false))), none⟩])
    (.seq (.seq (.reg [
      ⟨some 12, .call 6 [], none⟩,
      ⟨some 13, .op (.un .not (.tmp 12)), none⟩])
     (.cond (.tmp 13)
     (.seq (.reg [
       ⟨some 4, .op (.mov (.val (.bool false))), none⟩])
      .ret)
     .skip))
    (.seq (.reg [
     ⟨some 5, .op (.mov (.val (.ls [] true))), none⟩])
    (.seq (.seq (.reg [
      ⟨some 14, .op (.mov (.tmp 1)), none⟩,
      ⟨some 15, .op (.len (.tmp 14)), none⟩,
      ⟨some 16, .op (.mov (.val (.int .i64 0))), none⟩])
     (.block 0 (.loop (.seq (.reg [
        ⟨some 17, .op (.bin .lss (.tmp 16) (.tmp 15)), none⟩])
       (.seq (.cond (.tmp 17)
        .skip
        (.exit 0))
       (.seq (.block 1 (.seq (.reg [
          ⟨some 18, .op (.mov (.tmp 16)), none⟩,
          ⟨some 6, .op (.mov (.tmp 18)), none⟩])
         (.reg [
         ⟨some 19, .op (.mov (.tmp 5)), none⟩,
         ⟨some 20, .op (.mov (.tmp 1)), none⟩,
         ⟨some 21, .op (.mov (.tmp 1)), none⟩,
         ⟨some 22, .op (.len (.tmp 21)), none⟩,
         ⟨some 23, .op (.bin .sub (.tmp 22) (.val (.int .i64 1))), none⟩,
         ⟨some 24, .op (.mov (.tmp 6)), none⟩,
         ⟨some 25, .op (.bin .sub (.tmp 23) (.tmp 24)), none⟩,
         ⟨some 26, .op (.ia 4 (.tmp 20) (.tmp 25)), none⟩,
         ⟨some 27, .op (.load 4 true (.tmp 26)), none⟩,
         ⟨some 28, .op (.bslice 4 (.agg [.int .i64 0, .int .i64 0, .int .i64 0, .str []]) 1 [(0, .tmp 27)]), none⟩,
         ⟨some 29, .op (.app 4 (.tmp 19) (.tmp 28)), none⟩,
         ⟨some 5, .op (.mov (.tmp 29)), none⟩])))
       (.reg [
       ⟨some 30, .op (.bin .add (.tmp 16) (.val (.int .i64 1))), none⟩,
       ⟨some 16, .op (.mov (.tmp 30)), none⟩])))))))
    (.seq (.reg [
     ⟨some 32, .op (.mov (.tmp 0)), none⟩,
     ⟨some 33, .op (.mov (.tmp 1)), none⟩,
     ⟨some 34, .call 7 [.tmp 32, .tmp 33], none⟩,
     ⟨some 31, .op (.mov (.tmp 34)), none⟩,
     ⟨some 35, .op (.ext (.tmp 31) 0), none⟩,
     ⟨some 36, .op (.ext (.tmp 31) 1), none⟩,
     ⟨some 7, .op (.mov (.tmp 35)), none⟩,
     ⟨some 8, .op (.mov (.tmp 36)), none⟩])
    (.seq (.reg [
     ⟨some 38, .op (.mov (.tmp 0)), none⟩,
     ⟨some 39, .op (.mov (.tmp 5)), none⟩,
     ⟨some 40, .call 7 [.tmp 38, .tmp 39], none⟩,
     ⟨some 37, .op (.mov (.tmp 40)), none⟩,
     ⟨some 41, .op (.ext (.tmp 37) 0), none⟩,
     ⟨some 42, .op (.ext (.tmp 37) 1), none⟩,
     ⟨some 9, .op (.mov (.tmp 41)), none⟩,
     ⟨some 10, .op (.mov (.tmp 42)), none⟩])
    (.seq (.seq (.reg [
      ⟨some 43, .op (.mov (.tmp 8)), none⟩,
      ⟨some 44, .op (.bin .eql (.tmp 43) (.val (.int .i64 0))), none⟩,
      ⟨some 45, .op (.mov (.tmp 10)), none⟩,
      ⟨some 46, .op (.bin .eql (.tmp 45) (.val (.int .i64 0))), none⟩,
      ⟨some 47, .op (.eqb true (.tmp 44) (.tmp 46)), none⟩,
      ⟨some 48, .op (.mov (.tmp 47)), none⟩,
      ⟨some 49, .op (.mov (.tmp 7)), some (48, false)⟩,
      ⟨some 50, .op (.mov (.tmp 9)), some (48, false)⟩,
      ⟨some 51, .call 8 [.tmp 49, .tmp 50], some (48, false)⟩,
      ⟨some 52, .op (.un .not (.tmp 51)), some (48, false)⟩,
      ⟨some 53, .op (.pick (.tmp 48) (.val (.bool true)) (.tmp 52)), none⟩])
     (.cond (.tmp 53)
     (.seq (.reg [
       ⟨some 4, .op (.mov (.val (.bool false))), none⟩])
      .ret)
     .skip))
    (.seq (.reg [
     ⟨some 55, .op (.mov (.tmp 0)), none⟩,
     ⟨some 56, .call 7 [.tmp 55, .val (.ls [] true)], none⟩,
     ⟨some 54, .op (.mov (.tmp 56)), none⟩,
     ⟨some 57, .op (.ext (.tmp 54) 0), none⟩,
     ⟨some 58, .op (.ext (.tmp 54) 1), none⟩,
     ⟨some 11, .op (.mov (.tmp 57)), none⟩,
     ⟨some 8, .op (.mov (.tmp 58)), none⟩])
    (.seq (.reg [
     ⟨some 59, .op (.mov (.tmp 8)), none⟩,
     ⟨some 60, .op (.mov (.tmp 0)), none⟩,
     ⟨some 61, .call 9 [.tmp 60], none⟩,
     ⟨some 62, .op (.fld 0 1 false (.tmp 61)), none⟩,
     ⟨some 63, .op (.bin .eql (.tmp 59) (.tmp 62)), none⟩,
     ⟨some 64, .op (.mov (.tmp 63)), none⟩,
     ⟨some 65, .op (.mov (.tmp 8)), some (64, true)⟩,
     ⟨some 66, .op (.bin .neq (.tmp 65) (.val (.int .i64 0))), some (64, true)⟩,
     ⟨some 67, .op (.mov (.tmp 66)), some (64, true)⟩,
     ⟨some 68, .op (.mov (.tmp 11)), some (67, false)⟩,
     ⟨some 69, .op (.mov (.tmp 0)), some (67, false)⟩,
     ⟨some 70, .call 8 [.tmp 68, .tmp 69], some (67, false)⟩,
     ⟨some 71, .op (.pick (.tmp 67) (.val (.bool true)) (.tmp 70)), some (64, true)⟩,
     ⟨some 72, .op (.pick (.tmp 64) (.tmp 71) (.val (.bool false))), none⟩,
     ⟨some 4, .op (.mov (.tmp 72)), none⟩])
    .ret)))))))))
theorem Tryd.cc3 : (Tryd.f3.body.bind (cCode Tryd.prog 73)) = some Tryd.ac3 := by kernel_rfl

def Tryd.ac4 : ACode :=
  (.seq (.reg [
     ⟨some 3, .op (.box (.tmp 1)), none⟩,
     ⟨some 4, .op (.mov (.val (.bool false))), none⟩])
    (.seq (.seq (.reg [
      ⟨some 8, .call 6 [], none⟩,
      ⟨some 9, .op (.un .not (.tmp 8)), none⟩])
     (.cond (.tmp 9)
     (.seq (.reg [
       ⟨some 4, .op (.mov (.val (.bool false))), none⟩])
      .ret)
     .skip))
    (.seq (.reg [
     ⟨some 11, .op (.mov (.tmp 0)), none⟩,
     ⟨some 12, .op (.load 4 true (.tmp 3)), none⟩,
     ⟨some 13, .op (.bslice 4 (.agg [.int .i64 0, .int .i64 0, .int .i64 0, .str []]) 1 [(0, .tmp 12)]), none⟩,
     ⟨some 14, .call 7 [.tmp 11, .tmp 13], none⟩,
     ⟨some 10, .op (.mov (.tmp 14)), none⟩,
     ⟨some 15, .op (.ext (.tmp 10) 0), none⟩,
     ⟨some 16, .op (.ext (.tmp 10) 1), none⟩,
     ⟨some 5, .op (.mov (.tmp 15)), none⟩,
     ⟨some 6, .op (.mov (.tmp 16)), none⟩])
    (.seq (.seq (.reg [
      ⟨some 17, .op (.mov (.tmp 6)), none⟩,
      ⟨some 18, .op (.bin .neq (.tmp 17) (.val (.int .i64 0))), none⟩])
     (.cond (.tmp 18)
     (.seq (.reg [
       ⟨some 19, .op (.mov (.tmp 5)), none⟩,
       ⟨some 20, .op (.len (.tmp 19)), none⟩,
       ⟨some 21, .op (.bin .eql (.tmp 20) (.val (.int .i64 0))), none⟩,
       ⟨some 4, .op (.mov (.tmp 21)), none⟩])
      .ret)
     .skip))
    (.seq (.regd [
     ⟨⟨some 23, .op (.mov (.tmp 5)), none⟩, false, []⟩,
     ⟨⟨some 24, .op (.fa 0 (.tmp 3)), none⟩, false, []⟩,
     ⟨⟨some 25, .op (.load 1 false (.tmp 24)), none⟩, false, []⟩,
     ⟨⟨some 26, .op (.fa 1 (.tmp 3)), none⟩, false, [⟨some 25, .op (.load 1 false (.tmp 24)), none⟩]⟩,
     ⟨⟨some 27, .op (.load 1 false (.tmp 26)), none⟩, false, [⟨some 25, .op (.load 1 false (.tmp 24)), none⟩]⟩,
     ⟨⟨some 28, .op (.fa 1 (.tmp 3)), none⟩, false, [⟨some 25, .op (.load 1 false (.tmp 24)), none⟩, ⟨some 27, .op (.load 1 false (.tmp 26)), none⟩]⟩,
     ⟨⟨some 29, .op (.load 1 false (.tmp 28)), none⟩, false, [⟨some 25, .op (.load 1 false (.tmp 24)), none⟩, ⟨some 27, .op (.load 1 false (.tmp 26)), none⟩]⟩,
     ⟨⟨some 30, .op (.fa 3 (.tmp 3)), none⟩, false, [⟨some 25, .op (.load 1 false (.tmp 24)), none⟩, ⟨some 27, .op (.load 1 false (.tmp 26)), none⟩, ⟨some 29, .op (.load 1 false (.tmp 28)), none⟩]⟩,
     ⟨⟨some 31, .op (.load 1 false (.tmp 30)), none⟩, false, [⟨some 25, .op (.load 1 false (.tmp 24)), none⟩, ⟨some 27, .op (.load 1 false (.tmp 26)), none⟩, ⟨some 29, .op (.load 1 false (.tmp 28)), none⟩]⟩,
     ⟨⟨some 32, .op (.lenS (.tmp 31)), none⟩, false, [⟨some 25, .op (.load 1 false (.tmp 24)), none⟩, ⟨some 27, .op (.load 1 false (.tmp 26)), none⟩, ⟨some 29, .op (.load 1 false (.tmp 28)), none⟩]⟩,
     ⟨⟨some 33, .op (.bin .add (.tmp 29) (.tmp 32)), none⟩, false, [⟨some 25, .op (.load 1 false (.tmp 24)), none⟩, ⟨some 27, .op (.load 1 false (.tmp 26)), none⟩]⟩,
     ⟨⟨some 34, .op (.mov (.tmp 0)), none⟩, false, [⟨some 25, .op (.load 1 false (.tmp 24)), none⟩, ⟨some 27, .op (.load 1 false (.tmp 26)), none⟩, ⟨some 29, .op (.load 1 false (.tmp 28)), none⟩, ⟨some 31, .op (.load 1 false (.tmp 30)), none⟩]⟩,
     ⟨⟨some 35, .op (.fa 0 (.tmp 3)), none⟩, false, [⟨some 25, .op (.load 1 false (.tmp 24)), none⟩, ⟨some 27, .op (.load 1 false (.tmp 26)), none⟩, ⟨some 29, .op (.load 1 false (.tmp 28)), none⟩, ⟨some 31, .op (.load 1 false (.tmp 30)), none⟩]⟩,
     ⟨⟨some 36, .op (.load 1 false (.tmp 35)), none⟩, false, [⟨some 25, .op (.load 1 false (.tmp 24)), none⟩, ⟨some 27, .op (.load 1 false (.tmp 26)), none⟩, ⟨some 29, .op (.load 1 false (.tmp 28)), none⟩, ⟨some 31, .op (.load 1 false (.tmp 30)), none⟩]⟩,
     ⟨⟨some 37, .op (.ia 2 (.tmp 34) (.tmp 36)), none⟩, false, [⟨some 25, .op (.load 1 false (.tmp 24)), none⟩, ⟨some 27, .op (.load 1 false (.tmp 26)), none⟩, ⟨some 29, .op (.load 1 false (.tmp 28)), none⟩, ⟨some 31, .op (.load 1 false (.tmp 30)), none⟩]⟩,
     ⟨⟨some 38, .op (.fa 1 (.tmp 37)), none⟩, false, [⟨some 25, .op (.load 1 false (.tmp 24)), none⟩, ⟨some 27, .op (.load 1 false (.tmp 26)), none⟩, ⟨some 29, .op (.load 1 false (.tmp 28)), none⟩, ⟨some 31, .op (.load 1 false (.tmp 30)), none⟩]⟩,
     ⟨⟨some 39, .op (.load 1 false (.tmp 38)), none⟩, false, [⟨some 25, .op (.load 1 false (.tmp 24)), none⟩, ⟨some 27, .op (.load 1 false (.tmp 26)), none⟩, ⟨some 29, .op (.load 1 false (.tmp 28)), none⟩, ⟨some 31, .op (.load 1 false (.tmp 30)), none⟩]⟩,
     ⟨⟨some 40, .op (.fa 1 (.tmp 3)), none⟩, false, [⟨some 25, .op (.load 1 false (.tmp 24)), none⟩, ⟨some 27, .op (.load 1 false (.tmp 26)), none⟩, ⟨some 29, .op (.load 1 false (.tmp 28)), none⟩, ⟨some 31, .op (.load 1 false (.tmp 30)), none⟩, ⟨some 36, .op (.load 1 false (.tmp 35)), none⟩, ⟨some 37, .op (.ia 2 (.tmp 34) (.tmp 36)), none⟩, ⟨some 39, .op (.load 1 false (.tmp 38)), none⟩]⟩,
     ⟨⟨some 41, .op (.load 1 false (.tmp 40)), none⟩, false, [⟨some 25, .op (.load 1 false (.tmp 24)), none⟩, ⟨some 27, .op (.load 1 false (.tmp 26)), none⟩, ⟨some 29, .op (.load 1 false (.tmp 28)), none⟩, ⟨some 31, .op (.load 1 false (.tmp 30)), none⟩, ⟨some 36, .op (.load 1 false (.tmp 35)), none⟩, ⟨some 37, .op (.ia 2 (.tmp 34) (.tmp 36)), none⟩, ⟨some 39, .op (.load 1 false (.tmp 38)), none⟩]⟩,
     ⟨⟨some 42, .op (.fa 2 (.tmp 3)), none⟩, false, [⟨some 25, .op (.load 1 false (.tmp 24)), none⟩, ⟨some 27, .op (.load 1 false (.tmp 26)), none⟩, ⟨some 29, .op (.load 1 false (.tmp 28)), none⟩, ⟨some 31, .op (.load 1 false (.tmp 30)), none⟩, ⟨some 36, .op (.load 1 false (.tmp 35)), none⟩, ⟨some 37, .op (.ia 2 (.tmp 34) (.tmp 36)), none⟩, ⟨some 39, .op (.load 1 false (.tmp 38)), none⟩, ⟨some 41, .op (.load 1 false (.tmp 40)), none⟩]⟩,
     ⟨⟨some 43, .op (.load 1 false (.tmp 42)), none⟩, false, [⟨some 25, .op (.load 1 false (.tmp 24)), none⟩, ⟨some 27, .op (.load 1 false (.tmp 26)), none⟩, ⟨some 29, .op (.load 1 false (.tmp 28)), none⟩, ⟨some 31, .op (.load 1 false (.tmp 30)), none⟩, ⟨some 36, .op (.load 1 false (.tmp 35)), none⟩, ⟨some 37, .op (.ia 2 (.tmp 34) (.tmp 36)), none⟩, ⟨some 39, .op (.load 1 false (.tmp 38)), none⟩, ⟨some 41, .op (.load 1 false (.tmp 40)), none⟩]⟩,
     ⟨⟨some 44, .op (.slcS (.tmp 39) (some (.tmp 41)) (some (.tmp 43))), none⟩, false, [⟨some 25, .op (.load 1 false (.tmp 24)), none⟩, ⟨some 27, .op (.load 1 false (.tmp 26)), none⟩, ⟨some 29, .op (.load 1 false (.tmp 28)), none⟩, ⟨some 31, .op (.load 1 false (.tmp 30)), none⟩]⟩,
     ⟨⟨some 45, .op (.build [.int .i64 0, .int .i64 0, .int .i64 0, .str []] [(0, 1, .tmp 25), (1, 1, .tmp 27), (2, 1, .tmp 33), (3, 1, .tmp 44)]), none⟩, false, []⟩,
     ⟨⟨some 46, .op (.bslice 4 (.agg [.int .i64 0, .int .i64 0, .int .i64 0, .str []]) 1 [(0, .tmp 45)]), none⟩, true, []⟩,
     ⟨⟨some 47, .call 7 [.tmp 23, .tmp 46], none⟩, true, []⟩,
     ⟨⟨some 22, .op (.mov (.tmp 47)), none⟩, false, []⟩,
     ⟨⟨some 48, .op (.ext (.tmp 22) 0), none⟩, false, []⟩,
     ⟨⟨some 49, .op (.ext (.tmp 22) 1), none⟩, false, []⟩,
     ⟨⟨some 7, .op (.mov (.tmp 48)), none⟩, false, []⟩,
     ⟨⟨some 6, .op (.mov (.tmp 49)), none⟩, false, []⟩])
    (.seq (.reg [
     ⟨some 50, .op (.mov (.tmp 6)), none⟩,
     ⟨some 51, .op (.bin .eql (.tmp 50) (.val (.int .i64 0))), none⟩,
     ⟨some 52, .op (.mov (.tmp 51)), none⟩,
     ⟨some 53, .op (.mov (.tmp 7)), some (52, true)⟩,
     ⟨some 54, .op (.mov (.tmp 0)), some (52, true)⟩,
     ⟨some 55, .call 8 [.tmp 53, .tmp 54], some (52, true)⟩,
     ⟨some 56, .op (.pick (.tmp 52) (.tmp 55) (.val (.bool false))), none⟩,
     ⟨some 4, .op (.mov (.tmp 56)), none⟩])
    .ret))))))
theorem Tryd.cc4 : (Tryd.f4.body.bind (cCode Tryd.prog 57)) = some Tryd.ac4 := by kernel_rfl

def Tryd.ac5 : ACode :=
  (.seq (.reg [
     ⟨some 8, .op (.mov (.val (.bool false))), none⟩])
    (.seq (.seq (.reg [
      ⟨some 13, .call 6 [], none⟩,
      ⟨some 14, .op (.un .not (.tmp 13)), none⟩])
     (.cond (.tmp 14)
     (.seq (.reg [
       ⟨some 8, .op (.mov (.val (.bool false))), none⟩])
      .ret)
     .skip))
    (.seq (.seq (.reg [
      ⟨some 15, .op (.mov (.tmp 0)), none⟩,
      ⟨some 16, .op (.len (.tmp 15)), none⟩,
      ⟨some 17, .op (.mov (.val (.int .i64 0))), none⟩])
     (.block 0 (.loop (.seq (.reg [
        ⟨some 18, .op (.bin .lss (.tmp 17) (.tmp 16)), none⟩])
       (.seq (.cond (.tmp 18)
        .skip
        (.exit 0))
       (.seq (.block 1 (.seq (.reg [
          ⟨some 19, .op (.ia 2 (.tmp 15) (.tmp 17)), none⟩,
          ⟨some 20, .op (.load 2 true (.tmp 19)), none⟩,
          ⟨some 10, .op (.alloc [.str [], .str []]), none⟩,
          ⟨none, .op (.store 2 (.tmp 10) (.tmp 20)), none⟩])
         (.seq (.reg [
          ⟨some 21, .op (.fa 0 (.tmp 10)), none⟩,
          ⟨some 22, .op (.load 1 false (.tmp 21)), none⟩,
          ⟨some 23, .op (.mov (.tmp 2)), none⟩,
          ⟨some 24, .call 10 [.tmp 22, .tmp 23], none⟩,
          ⟨some 11, .op (.mov (.tmp 24)), none⟩])
         (.seq (.reg [
          ⟨some 25, .op (.mov (.tmp 11)), none⟩,
          ⟨some 26, .op (.bin .neq (.tmp 25) (.val (.str []))), none⟩,
          ⟨some 27, .op (.mov (.tmp 26)), none⟩,
          ⟨some 28, .op (.mov (.tmp 11)), some (27, true)⟩,
          ⟨some 29, .call 11 [.tmp 28], some (27, true)⟩,
          ⟨some 30, .op (.un .not (.tmp 29)), some (27, true)⟩,
          ⟨some 31, .op (.pick (.tmp 27) (.tmp 30) (.val (.bool false))), none⟩])
         (.cond (.tmp 31)
         (.seq (.reg [
           ⟨some 8, .op (.mov (.val (.bool false))), none⟩])
          .ret)
         .skip)))))
       (.reg [
       ⟨some 32, .op (.bin .add (.tmp 17) (.val (.int .i64 1))), none⟩,
       ⟨some 17, .op (.mov (.tmp 32)), none⟩])))))))
    (.seq (.reg [
     ⟨some 33, .op (.mov (.tmp 0)), none⟩,
     ⟨some 34, .op (.mov (.tmp 1)), none⟩,
     ⟨some 35, .op (.mov (.tmp 2)), none⟩,
     ⟨some 36, .op (.mov (.tmp 3)), none⟩,
     ⟨some 37, .call 12 [.tmp 33, .tmp 34, .tmp 35, .tmp 36], none⟩,
     ⟨some 12, .op (.mov (.tmp 37)), none⟩])
    (.seq (.reg [
     ⟨some 38, .op (.mov (.tmp 12)), none⟩,
     ⟨some 39, .op (.mov (.tmp 0)), none⟩,
     ⟨some 40, .op (.len (.tmp 39)), none⟩,
     ⟨some 41, .op (.bin .lss (.tmp 38) (.tmp 40)), none⟩,
     ⟨some 42, .op (.mov (.tmp 41)), none⟩,
     ⟨some 43, .op (.mov (.tmp 12)), some (42, true)⟩,
     ⟨some 44, .op (.bin .lss (.tmp 43) (.val (.int .i64 0))), some (42, true)⟩,
     ⟨some 45, .op (.mov (.tmp 44)), some (42, true)⟩,
     ⟨some 46, .op (.mov (.tmp 0)), some (45, false)⟩,
     ⟨some 47, .op (.mov (.tmp 0)), some (45, false)⟩,
     ⟨some 48, .op (.mov (.tmp 12)), some (45, false)⟩,
     ⟨some 49, .op (.ia 2 (.tmp 47) (.tmp 48)), some (45, false)⟩,
     ⟨some 50, .op (.fa 0 (.tmp 49)), some (45, false)⟩,
     ⟨some 51, .op (.load 1 false (.tmp 50)), some (45, false)⟩,
     ⟨some 52, .call 13 [.tmp 46, .tmp 51], some (45, false)⟩,
     ⟨some 53, .op (.mov (.tmp 12)), some (45, false)⟩,
     ⟨some 54, .op (.bin .leq (.tmp 52) (.tmp 53)), some (45, false)⟩,
     ⟨some 55, .op (.pick (.tmp 45) (.val (.bool true)) (.tmp 54)), some (42, true)⟩,
     ⟨some 56, .op (.pick (.tmp 42) (.tmp 55) (.val (.bool false))), none⟩,
     ⟨some 8, .op (.mov (.tmp 56)), none⟩])
    .ret)))))
theorem Tryd.cc5 : (Tryd.f5.body.bind (cCode Tryd.prog 57)) = some Tryd.ac5 := by kernel_rfl

def Tryd.ac6 : ACode :=
  (.seq (.reg [
     ⟨some 0, .op (.mov (.val (.bool false))), none⟩])
    (.seq (.reg [
     ⟨some 4, .op (.build [.str [], .str []] [(0, 1, .val (.str [97, 47, 98, 46, 104])), (1, 1, .val (.str [120, 121, 122]))]), none⟩,
     ⟨some 5, .op (.build [.str [], .str []] [(0, 1, .val (.str [109, 97, 105, 110, 46, 99])), (1, 1, .val (.str [105, 110, 116]))]), none⟩,
     ⟨some 6, .op (.bslice 2 (.agg [.str [], .str []]) 2 [(0, .tmp 4), (1, .tmp 5)]), none⟩,
     ⟨some 1, .op (.mov (.tmp 6)), none⟩])
    (.seq (.reg [
     ⟨some 8, .op (.mov (.tmp 1)), none⟩,
     ⟨some 9, .op (.build [.int .i64 0, .int .i64 0, .int .i64 0, .str []] [(0, 1, .val (.int .i64 0)), (1, 1, .val (.int .i64 1)), (2, 1, .val (.int .i64 2)), (3, 1, .val (.str [81]))]), none⟩,
     ⟨some 10, .op (.bslice 4 (.agg [.int .i64 0, .int .i64 0, .int .i64 0, .str []]) 1 [(0, .tmp 9)]), none⟩,
     ⟨some 11, .call 7 [.tmp 8, .tmp 10], none⟩,
     ⟨some 7, .op (.mov (.tmp 11)), none⟩,
     ⟨some 12, .op (.ext (.tmp 7) 0), none⟩,
     ⟨some 13, .op (.ext (.tmp 7) 1), none⟩,
     ⟨some 2, .op (.mov (.tmp 12)), none⟩,
     ⟨some 3, .op (.mov (.tmp 13)), none⟩])
    (.seq (.reg [
     ⟨some 14, .op (.mov (.tmp 3)), none⟩,
     ⟨some 15, .op (.bin .eql (.tmp 14) (.val (.int .i64 0))), none⟩,
     ⟨some 16, .op (.mov (.tmp 15)), none⟩,
     ⟨some 17, .op (.mov (.tmp 2)), some (16, true)⟩,
     ⟨some 18, .op (.len (.tmp 17)), some (16, true)⟩,
     ⟨some 19, .op (.bin .eql (.tmp 18) (.val (.int .i64 2))), some (16, true)⟩,
     ⟨some 20, .op (.pick (.tmp 16) (.tmp 19) (.val (.bool false))), none⟩,
     ⟨some 21, .op (.mov (.tmp 20)), none⟩,
     ⟨some 22, .op (.mov (.tmp 2)), some (21, true)⟩,
     ⟨some 23, .op (.ia 2 (.tmp 22) (.val (.int .i64 0))), some (21, true)⟩,
     ⟨some 24, .op (.fa 1 (.tmp 23)), some (21, true)⟩,
     ⟨some 25, .op (.load 1 false (.tmp 24)), some (21, true)⟩,
     ⟨some 26, .op (.bin .eql (.tmp 25) (.val (.str [120, 81, 122]))), some (21, true)⟩,
     ⟨some 27, .op (.pick (.tmp 21) (.tmp 26) (.val (.bool false))), none⟩,
     ⟨some 28, .op (.mov (.tmp 27)), none⟩,
     ⟨some 29, .op (.mov (.tmp 1)), some (28, true)⟩,
     ⟨some 30, .call 13 [.tmp 29, .val (.str [109, 97, 105, 110, 46, 99])], some (28, true)⟩,
     ⟨some 31, .op (.bin .eql (.tmp 30) (.val (.int .i64 1))), some (28, true)⟩,
     ⟨some 32, .op (.pick (.tmp 28) (.tmp 31) (.val (.bool false))), none⟩,
     ⟨some 33, .op (.mov (.tmp 32)), none⟩,
     ⟨some 34, .call 10 [.val (.str [97, 47, 98, 46, 104]), .val (.str [46, 46, 47, 109, 97, 105, 110, 46, 99])], some (33, true)⟩,
     ⟨some 35, .op (.bin .eql (.tmp 34) (.val (.str [109, 97, 105, 110, 46, 99]))), some (33, true)⟩,
     ⟨some 36, .op (.pick (.tmp 33) (.tmp 35) (.val (.bool false))), none⟩,
     ⟨some 37, .op (.mov (.tmp 36)), none⟩,
     ⟨some 38, .op (.mov (.tmp 1)), some (37, true)⟩,
     ⟨some 39, .call 12 [.tmp 38, .val (.int .i64 0), .val (.str [98, 46, 104]), .val (.bool true)], some (37, true)⟩,
     ⟨some 40, .op (.bin .eql (.tmp 39) (.val (.int .i64 0))), some (37, true)⟩,
     ⟨some 41, .op (.pick (.tmp 37) (.tmp 40) (.val (.bool false))), none⟩,
     ⟨some 42, .op (.mov (.tmp 41)), none⟩,
     ⟨some 43, .call 11 [.val (.str [97])], some (42, true)⟩,
     ⟨some 44, .op (.pick (.tmp 42) (.tmp 43) (.val (.bool false))), none⟩,
     ⟨some 45, .op (.mov (.tmp 44)), none⟩,
     ⟨some 46, .op (.mov (.tmp 1)), some (45, true)⟩,
     ⟨some 47, .call 9 [.tmp 46], some (45, true)⟩,
     ⟨some 48, .op (.fld 0 1 false (.tmp 47)), some (45, true)⟩,
     ⟨some 49, .op (.bin .eql (.tmp 48) (.val (.int .i64 0))), some (45, true)⟩,
     ⟨some 50, .op (.pick (.tmp 45) (.tmp 49) (.val (.bool false))), none⟩,
     ⟨some 0, .op (.mov (.tmp 50)), none⟩])
    .ret))))
theorem Tryd.cc6 : (Tryd.f6.body.bind (cCode Tryd.prog 51)) = some Tryd.ac6 := by kernel_rfl

def Tryd.ac7 : ACode :=
  (.seq (.reg [
     ⟨some 4, .op (.mov (.val (.ls [] true))), none⟩,
     ⟨some 5, .op (.mov (.val (.int .i64 0))), none⟩])
    (.seq (.seq (.reg [
      ⟨some 16, .op (.mov (.tmp 0)), none⟩,
      ⟨some 17, .call 9 [.tmp 16], none⟩,
      ⟨some 6, .op (.alloc [.int .i64 0, .int .i64 0, .int .i64 0]), none⟩,
      ⟨none, .op (.store 3 (.tmp 6) (.tmp 17)), none⟩])
     (.seq (.reg [
      ⟨some 18, .op (.fa 0 (.tmp 6)), none⟩,
      ⟨some 19, .op (.load 1 false (.tmp 18)), none⟩,
      ⟨some 20, .op (.bin .neq (.tmp 19) (.val (.int .i64 0))), none⟩])
     (.cond (.tmp 20)
     (.seq (.regd [
       ⟨⟨some 21, .op (.fa 0 (.tmp 6)), none⟩, false, []⟩,
       ⟨⟨some 22, .op (.load 1 false (.tmp 21)), none⟩, false, []⟩,
       ⟨⟨some 4, .op (.mov (.val (.ls [] true))), none⟩, false, [⟨some 22, .op (.load 1 false (.tmp 21)), none⟩]⟩,
       ⟨⟨some 5, .op (.mov (.tmp 22)), none⟩, false, []⟩])
      .ret)
     .skip)))
    (.seq (.reg [
     ⟨some 23, .op (.mov (.tmp 0)), none⟩,
     ⟨some 24, .call 14 [.tmp 23], none⟩,
     ⟨some 7, .op (.mov (.tmp 24)), none⟩])
    (.seq (.reg [
     ⟨some 25, .op (.mov (.tmp 1)), none⟩,
     ⟨some 26, .call 15 [.tmp 25], none⟩,
     ⟨some 8, .op (.mov (.tmp 26)), none⟩])
    (.seq (.reg [
     ⟨some 27, .op (.mov (.tmp 8)), none⟩,
     ⟨some 28, .call 16 [.tmp 27, .val (.fn 17 [])], none⟩])
    (.seq (.seq (.reg [
      ⟨some 29, .op (.mov (.tmp 8)), none⟩,
      ⟨some 30, .op (.len (.tmp 29)), none⟩,
      ⟨some 31, .op (.mov (.val (.int .i64 0))), none⟩])
     (.block 0 (.loop (.seq (.reg [
        ⟨some 32, .op (.bin .lss (.tmp 31) (.tmp 30)), none⟩])
       (.seq (.cond (.tmp 32)
        .skip
        (.exit 0))
       (.seq (.block 1 (.seq (.reg [
          ⟨some 33, .op (.mov (.tmp 31)), none⟩,
          ⟨some 34, .op (.ia 4 (.tmp 29) (.tmp 31)), none⟩,
          ⟨some 35, .op (.load 4 true (.tmp 34)), none⟩,
          ⟨some 10, .op (.alloc [.int .i64 0, .int .i64 0, .int .i64 0, .str []]), none⟩,
          ⟨some 9, .op (.mov (.tmp 33)), none⟩,
          ⟨none, .op (.store 4 (.tmp 10) (.tmp 35)), none⟩])
         (.seq (.seq (.reg [
           ⟨some 36, .op (.fa 0 (.tmp 10)), none⟩,
           ⟨some 37, .op (.load 1 false (.tmp 36)), none⟩,
           ⟨some 38, .op (.bin .lss (.tmp 37) (.val (.int .i64 0))), none⟩,
           ⟨some 39, .op (.mov (.tmp 38)), none⟩,
           ⟨some 40, .op (.fa 0 (.tmp 10)), some (39, false)⟩,
           ⟨some 41, .op (.load 1 false (.tmp 40)), some (39, false)⟩,
           ⟨some 42, .op (.mov (.tmp 0)), some (39, false)⟩,
           ⟨some 43, .op (.len (.tmp 42)), some (39, false)⟩,
           ⟨some 44, .op (.bin .geq (.tmp 41) (.tmp 43)), some (39, false)⟩,
           ⟨some 45, .op (.pick (.tmp 39) (.val (.bool true)) (.tmp 44)), none⟩])
          (.cond (.tmp 45)
          (.seq (.reg [
            ⟨some 4, .op (.mov (.val (.ls [] true))), none⟩,
            ⟨some 5, .op (.mov (.val (.int .i64 6))), none⟩])
           .ret)
          .skip))
         (.seq (.seq (.regd [
           ⟨⟨some 46, .op (.fa 1 (.tmp 10)), none⟩, false, []⟩,
           ⟨⟨some 47, .op (.load 1 false (.tmp 46)), none⟩, false, []⟩,
           ⟨⟨some 48, .op (.bin .lss (.tmp 47) (.val (.int .i64 0))), none⟩, false, []⟩,
           ⟨⟨some 49, .op (.mov (.tmp 48)), none⟩, false, []⟩,
           ⟨⟨some 50, .op (.fa 1 (.tmp 10)), some (49, false)⟩, false, []⟩,
           ⟨⟨some 51, .op (.load 1 false (.tmp 50)), some (49, false)⟩, false, []⟩,
           ⟨⟨some 52, .op (.fa 2 (.tmp 10)), some (49, false)⟩, false, [⟨some 51, .op (.load 1 false (.tmp 50)), some (49, false)⟩]⟩,
           ⟨⟨some 53, .op (.load 1 false (.tmp 52)), some (49, false)⟩, false, [⟨some 51, .op (.load 1 false (.tmp 50)), some (49, false)⟩]⟩,
           ⟨⟨some 54, .op (.bin .gtr (.tmp 51) (.tmp 53)), some (49, false)⟩, false, []⟩,
           ⟨⟨some 55, .op (.pick (.tmp 49) (.val (.bool true)) (.tmp 54)), none⟩, false, []⟩,
           ⟨⟨some 56, .op (.mov (.tmp 55)), none⟩, false, []⟩,
           ⟨⟨some 57, .op (.fa 2 (.tmp 10)), some (56, false)⟩, false, []⟩,
           ⟨⟨some 58, .op (.load 1 false (.tmp 57)), some (56, false)⟩, false, []⟩,
           ⟨⟨some 59, .op (.mov (.tmp 0)), some (56, false)⟩, false, [⟨some 58, .op (.load 1 false (.tmp 57)), some (56, false)⟩]⟩,
           ⟨⟨some 60, .op (.fa 0 (.tmp 10)), some (56, false)⟩, false, [⟨some 58, .op (.load 1 false (.tmp 57)), some (56, false)⟩]⟩,
           ⟨⟨some 61, .op (.load 1 false (.tmp 60)), some (56, false)⟩, false, [⟨some 58, .op (.load 1 false (.tmp 57)), some (56, false)⟩]⟩,
           ⟨⟨some 62, .op (.ia 2 (.tmp 59) (.tmp 61)), some (56, false)⟩, false, [⟨some 58, .op (.load 1 false (.tmp 57)), some (56, false)⟩]⟩,
           ⟨⟨some 63, .op (.fa 1 (.tmp 62)), some (56, false)⟩, false, [⟨some 58, .op (.load 1 false (.tmp 57)), some (56, false)⟩]⟩,
           ⟨⟨some 64, .op (.load 1 false (.tmp 63)), some (56, false)⟩, false, [⟨some 58, .op (.load 1 false (.tmp 57)), some (56, false)⟩]⟩,
           ⟨⟨some 65, .op (.lenS (.tmp 64)), some (56, false)⟩, false, [⟨some 58, .op (.load 1 false (.tmp 57)), some (56, false)⟩]⟩,
           ⟨⟨some 66, .op (.bin .gtr (.tmp 58) (.tmp 65)), some (56, false)⟩, false, []⟩,
           ⟨⟨some 67, .op (.pick (.tmp 56) (.val (.bool true)) (.tmp 66)), none⟩, false, []⟩])
          (.cond (.tmp 67)
          (.seq (.reg [
            ⟨some 4, .op (.mov (.val (.ls [] true))), none⟩,
            ⟨some 5, .op (.mov (.val (.int .i64 3))), none⟩])
           .ret)
          .skip))
         (.seq (.regd [
          ⟨⟨some 68, .op (.mov (.tmp 9)), none⟩, false, []⟩,
          ⟨⟨some 69, .op (.bin .gtr (.tmp 68) (.val (.int .i64 0))), none⟩, false, []⟩,
          ⟨⟨some 70, .op (.mov (.tmp 69)), none⟩, false, []⟩,
          ⟨⟨some 71, .op (.mov (.tmp 8)), some (70, true)⟩, false, []⟩,
          ⟨⟨some 72, .op (.mov (.tmp 9)), some (70, true)⟩, false, []⟩,
          ⟨⟨some 73, .op (.bin .sub (.tmp 72) (.val (.int .i64 1))), some (70, true)⟩, false, []⟩,
          ⟨⟨some 74, .op (.ia 4 (.tmp 71) (.tmp 73)), some (70, true)⟩, false, []⟩,
          ⟨⟨some 75, .op (.fa 0 (.tmp 74)), some (70, true)⟩, false, []⟩,
          ⟨⟨some 76, .op (.load 1 false (.tmp 75)), some (70, true)⟩, false, []⟩,
          ⟨⟨some 77, .op (.fa 0 (.tmp 10)), some (70, true)⟩, false, [⟨some 74, .op (.ia 4 (.tmp 71) (.tmp 73)), some (70, true)⟩, ⟨some 76, .op (.load 1 false (.tmp 75)), some (70, true)⟩]⟩,
          ⟨⟨some 78, .op (.load 1 false (.tmp 77)), some (70, true)⟩, false, [⟨some 74, .op (.ia 4 (.tmp 71) (.tmp 73)), some (70, true)⟩, ⟨some 76, .op (.load 1 false (.tmp 75)), some (70, true)⟩]⟩,
          ⟨⟨some 79, .op (.bin .eql (.tmp 76) (.tmp 78)), some (70, true)⟩, false, []⟩,
          ⟨⟨some 80, .op (.pick (.tmp 70) (.tmp 79) (.val (.bool false))), none⟩, false, []⟩,
          ⟨⟨some 81, .op (.mov (.tmp 80)), none⟩, false, []⟩,
          ⟨⟨some 82, .op (.mov (.tmp 8)), some (81, true)⟩, false, []⟩,
          ⟨⟨some 83, .op (.mov (.tmp 9)), some (81, true)⟩, false, []⟩,
          ⟨⟨some 84, .op (.bin .sub (.tmp 83) (.val (.int .i64 1))), some (81, true)⟩, false, []⟩,
          ⟨⟨some 85, .op (.ia 4 (.tmp 82) (.tmp 84)), some (81, true)⟩, false, []⟩,
          ⟨⟨some 86, .op (.fa 2 (.tmp 85)), some (81, true)⟩, false, []⟩,
          ⟨⟨some 87, .op (.load 1 false (.tmp 86)), some (81, true)⟩, false, []⟩,
          ⟨⟨some 88, .op (.fa 1 (.tmp 10)), some (81, true)⟩, false, [⟨some 85, .op (.ia 4 (.tmp 82) (.tmp 84)), some (81, true)⟩, ⟨some 87, .op (.load 1 false (.tmp 86)), some (81, true)⟩]⟩,
          ⟨⟨some 89, .op (.load 1 false (.tmp 88)), some (81, true)⟩, false, [⟨some 85, .op (.ia 4 (.tmp 82) (.tmp 84)), some (81, true)⟩, ⟨some 87, .op (.load 1 false (.tmp 86)), some (81, true)⟩]⟩,
          ⟨⟨some 90, .op (.bin .gtr (.tmp 87) (.tmp 89)), some (81, true)⟩, false, []⟩,
          ⟨⟨some 91, .op (.mov (.tmp 90)), some (81, true)⟩, false, []⟩,
          ⟨⟨some 92, .op (.mov (.tmp 8)), some (91, false)⟩, false, []⟩,
          ⟨⟨some 93, .op (.mov (.tmp 9)), some (91, false)⟩, false, []⟩,
          ⟨⟨some 94, .op (.bin .sub (.tmp 93) (.val (.int .i64 1))), some (91, false)⟩, false, []⟩,
          ⟨⟨some 95, .op (.ia 4 (.tmp 92) (.tmp 94)), some (91, false)⟩, false, []⟩,
          ⟨⟨some 96, .op (.fa 1 (.tmp 95)), some (91, false)⟩, false, []⟩,
          ⟨⟨some 97, .op (.load 1 false (.tmp 96)), some (91, false)⟩, false, []⟩,
          ⟨⟨some 98, .op (.fa 1 (.tmp 10)), some (91, false)⟩, false, [⟨some 95, .op (.ia 4 (.tmp 92) (.tmp 94)), some (91, false)⟩, ⟨some 97, .op (.load 1 false (.tmp 96)), some (91, false)⟩]⟩,
          ⟨⟨some 99, .op (.load 1 false (.tmp 98)), some (91, false)⟩, false, [⟨some 95, .op (.ia 4 (.tmp 92) (.tmp 94)), some (91, false)⟩, ⟨some 97, .op (.load 1 false (.tmp 96)), some (91, false)⟩]⟩,
          ⟨⟨some 100, .op (.bin .eql (.tmp 97) (.tmp 99)), some (91, false)⟩, false, []⟩,
          ⟨⟨some 101, .op (.pick (.tmp 91) (.val (.bool true)) (.tmp 100)), some (81, true)⟩, false, []⟩,
          ⟨⟨some 102, .op (.pick (.tmp 81) (.tmp 101) (.val (.bool false))), none⟩, false, []⟩])
         (.cond (.tmp 102)
         (.seq (.reg [
           ⟨some 4, .op (.mov (.val (.ls [] true))), none⟩,
           ⟨some 5, .op (.mov (.val (.int .i64 8))), none⟩])
          .ret)
         .skip))))))
       (.reg [
       ⟨some 103, .op (.bin .add (.tmp 31) (.val (.int .i64 1))), none⟩,
       ⟨some 31, .op (.mov (.tmp 103)), none⟩])))))))
    (.seq (.seq (.reg [
      ⟨some 104, .op (.mov (.tmp 8)), none⟩,
      ⟨some 105, .op (.len (.tmp 104)), none⟩,
      ⟨some 106, .op (.bin .sub (.tmp 105) (.val (.int .i64 1))), none⟩,
      ⟨some 11, .op (.mov (.tmp 106)), none⟩])
     (.block 2 (.loop (.seq (.seq (.reg [
         ⟨some 107, .op (.mov (.tmp 11)), none⟩,
         ⟨some 108, .op (.bin .geq (.tmp 107) (.val (.int .i64 0))), none⟩])
        (.cond (.tmp 108)
        .skip
        (.exit 2)))
       (.seq (.block 3 (.seq (.reg [
          ⟨some 111, .op (.mov (.tmp 8)), none⟩,
          ⟨some 112, .op (.mov (.tmp 11)), none⟩,
          ⟨some 113, .op (.ia 4 (.tmp 111) (.tmp 112)), none⟩,
          ⟨some 114, .op (.load 4 true (.tmp 113)), none⟩,
          ⟨some 12, .op (.alloc [.int .i64 0, .int .i64 0, .int .i64 0, .str []]), none⟩,
          ⟨none, .op (.store 4 (.tmp 12) (.tmp 114)), none⟩])
         (.seq (.reg [
          ⟨some 115, .op (.mov (.tmp 7)), none⟩,
          ⟨some 116, .op (.fa 0 (.tmp 12)), none⟩,
          ⟨some 117, .op (.load 1 false (.tmp 116)), none⟩,
          ⟨some 118, .op (.ia 2 (.tmp 115) (.tmp 117)), none⟩,
          ⟨some 119, .op (.fa 1 (.tmp 118)), none⟩,
          ⟨some 120, .op (.load 1 false (.tmp 119)), none⟩,
          ⟨some 13, .op (.mov (.tmp 120)), none⟩])
         (.seq (.seq (.reg [
           ⟨some 121, .op (.fa 3 (.tmp 12)), none⟩,
           ⟨some 122, .op (.load 1 false (.tmp 121)), none⟩,
           ⟨some 123, .op (.lenS (.tmp 122)), none⟩,
           ⟨some 124, .op (.bin .gtr (.tmp 123) (.val (.int .i64 3000))), none⟩])
          (.cond (.tmp 124)
          (.seq (.reg [
            ⟨some 4, .op (.mov (.val (.ls [] true))), none⟩,
            ⟨some 5, .op (.mov (.val (.int .i64 4))), none⟩])
           .ret)
          .skip))
         (.regd [
         ⟨⟨some 125, .op (.mov (.tmp 7)), none⟩, false, []⟩,
         ⟨⟨some 126, .op (.fa 0 (.tmp 12)), none⟩, false, []⟩,
         ⟨⟨some 127, .op (.load 1 false (.tmp 126)), none⟩, false, []⟩,
         ⟨⟨some 128, .op (.mov (.tmp 13)), none⟩, false, [⟨some 127, .op (.load 1 false (.tmp 126)), none⟩]⟩,
         ⟨⟨some 129, .op (.fa 1 (.tmp 12)), none⟩, false, [⟨some 127, .op (.load 1 false (.tmp 126)), none⟩]⟩,
         ⟨⟨some 130, .op (.load 1 false (.tmp 129)), none⟩, false, [⟨some 127, .op (.load 1 false (.tmp 126)), none⟩]⟩,
         ⟨⟨some 131, .op (.slcS (.tmp 128) (none) (some (.tmp 130))), none⟩, false, [⟨some 127, .op (.load 1 false (.tmp 126)), none⟩]⟩,
         ⟨⟨some 132, .op (.fa 3 (.tmp 12)), none⟩, false, [⟨some 127, .op (.load 1 false (.tmp 126)), none⟩, ⟨some 130, .op (.load 1 false (.tmp 129)), none⟩]⟩,
         ⟨⟨some 133, .op (.load 1 false (.tmp 132)), none⟩, false, [⟨some 127, .op (.load 1 false (.tmp 126)), none⟩, ⟨some 130, .op (.load 1 false (.tmp 129)), none⟩]⟩,
         ⟨⟨some 134, .op (.bin .add (.tmp 131) (.tmp 133)), none⟩, false, [⟨some 127, .op (.load 1 false (.tmp 126)), none⟩]⟩,
         ⟨⟨some 135, .op (.mov (.tmp 13)), none⟩, false, [⟨some 127, .op (.load 1 false (.tmp 126)), none⟩, ⟨some 130, .op (.load 1 false (.tmp 129)), none⟩, ⟨some 133, .op (.load 1 false (.tmp 132)), none⟩]⟩,
         ⟨⟨some 136, .op (.fa 2 (.tmp 12)), none⟩, false, [⟨some 127, .op (.load 1 false (.tmp 126)), none⟩, ⟨some 130, .op (.load 1 false (.tmp 129)), none⟩, ⟨some 133, .op (.load 1 false (.tmp 132)), none⟩]⟩,
         ⟨⟨some 137, .op (.load 1 false (.tmp 136)), none⟩, false, [⟨some 127, .op (.load 1 false (.tmp 126)), none⟩, ⟨some 130, .op (.load 1 false (.tmp 129)), none⟩, ⟨some 133, .op (.load 1 false (.tmp 132)), none⟩]⟩,
         ⟨⟨some 138, .op (.slcS (.tmp 135) (some (.tmp 137)) (none)), none⟩, false, [⟨some 127, .op (.load 1 false (.tmp 126)), none⟩, ⟨some 130, .op (.load 1 false (.tmp 129)), none⟩, ⟨some 133, .op (.load 1 false (.tmp 132)), none⟩]⟩,
         ⟨⟨some 139, .op (.bin .add (.tmp 134) (.tmp 138)), none⟩, false, [⟨some 127, .op (.load 1 false (.tmp 126)), none⟩]⟩,
         ⟨⟨some 140, .op (.ia 2 (.tmp 125) (.tmp 127)), none⟩, false, []⟩,
         ⟨⟨some 141, .op (.fa 1 (.tmp 140)), none⟩, false, []⟩,
         ⟨⟨none, .op (.store 1 (.tmp 141) (.tmp 139)), none⟩, true, []⟩])))))
       (.reg [
       ⟨some 109, .op (.mov (.tmp 11)), none⟩,
       ⟨some 110, .op (.bin .sub (.tmp 109) (.val (.int .i64 1))), none⟩,
       ⟨some 11, .op (.mov (.tmp 110)), none⟩]))))))
    (.seq (.seq (.reg [
      ⟨some 142, .op (.mov (.tmp 7)), none⟩,
      ⟨some 143, .op (.len (.tmp 142)), none⟩,
      ⟨some 144, .op (.mov (.val (.int .i64 0))), none⟩])
     (.block 4 (.loop (.seq (.reg [
        ⟨some 145, .op (.bin .lss (.tmp 144) (.tmp 143)), none⟩])
       (.seq (.cond (.tmp 145)
        .skip
        (.exit 4))
       (.seq (.block 5 (.seq (.reg [
          ⟨some 146, .op (.ia 2 (.tmp 142) (.tmp 144)), none⟩,
          ⟨some 147, .op (.load 2 true (.tmp 146)), none⟩,
          ⟨some 15, .op (.alloc [.str [], .str []]), none⟩,
          ⟨none, .op (.store 2 (.tmp 15) (.tmp 147)), none⟩])
         (.seq (.reg [
          ⟨some 148, .op (.fa 1 (.tmp 15)), none⟩,
          ⟨some 149, .op (.load 1 false (.tmp 148)), none⟩,
          ⟨some 150, .op (.lenS (.tmp 149)), none⟩,
          ⟨some 151, .op (.bin .gtr (.tmp 150) (.val (.int .i64 3000))), none⟩])
         (.cond (.tmp 151)
         (.seq (.reg [
           ⟨some 4, .op (.mov (.val (.ls [] true))), none⟩,
           ⟨some 5, .op (.mov (.val (.int .i64 4))), none⟩])
          .ret)
         .skip))))
       (.reg [
       ⟨some 152, .op (.bin .add (.tmp 144) (.val (.int .i64 1))), none⟩,
       ⟨some 144, .op (.mov (.tmp 152)), none⟩])))))))
    (.seq (.reg [
     ⟨some 153, .op (.mov (.tmp 7)), none⟩,
     ⟨some 4, .op (.mov (.tmp 153)), none⟩,
     ⟨some 5, .op (.mov (.val (.int .i64 0))), none⟩])
    .ret)))))))))
theorem Tryd.cc7 : (Tryd.f7.body.bind (cCode Tryd.prog 154)) = some Tryd.ac7 := by kernel_rfl

def Tryd.ac8 : ACode :=
  (.seq (.reg [
     ⟨some 4, .op (.mov (.val (.bool false))), none⟩])
    (.seq (.seq (.reg [
      ⟨some 6, .op (.mov (.tmp 0)), none⟩,
      ⟨some 7, .op (.len (.tmp 6)), none⟩,
      ⟨some 8, .op (.mov (.tmp 1)), none⟩,
      ⟨some 9, .op (.len (.tmp 8)), none⟩,
      ⟨some 10, .op (.bin .neq (.tmp 7) (.tmp 9)), none⟩])
     (.cond (.tmp 10)
     (.seq (.reg [
       ⟨some 4, .op (.mov (.val (.bool false))), none⟩])
      .ret)
     .skip))
    (.seq (.seq (.reg [
      ⟨some 11, .op (.mov (.tmp 0)), none⟩,
      ⟨some 12, .op (.len (.tmp 11)), none⟩,
      ⟨some 13, .op (.mov (.val (.int .i64 0))), none⟩])
     (.block 0 (.loop (.seq (.reg [
        ⟨some 14, .op (.bin .lss (.tmp 13) (.tmp 12)), none⟩])
       (.seq (.cond (.tmp 14)
        .skip
        (.exit 0))
       (.seq (.block 1 (.seq (.reg [
          ⟨some 15, .op (.mov (.tmp 13)), none⟩,
          ⟨some 5, .op (.mov (.tmp 15)), none⟩])
         (.seq (.regd [
          ⟨⟨some 16, .op (.mov (.tmp 0)), none⟩, false, []⟩,
          ⟨⟨some 17, .op (.mov (.tmp 5)), none⟩, false, []⟩,
          ⟨⟨some 18, .op (.ia 2 (.tmp 16) (.tmp 17)), none⟩, false, []⟩,
          ⟨⟨some 19, .op (.load 2 true (.tmp 18)), none⟩, false, []⟩,
          ⟨⟨some 20, .op (.mov (.tmp 1)), none⟩, false, [⟨some 18, .op (.ia 2 (.tmp 16) (.tmp 17)), none⟩, ⟨some 19, .op (.load 2 true (.tmp 18)), none⟩]⟩,
          ⟨⟨some 21, .op (.mov (.tmp 5)), none⟩, false, [⟨some 18, .op (.ia 2 (.tmp 16) (.tmp 17)), none⟩, ⟨some 19, .op (.load 2 true (.tmp 18)), none⟩]⟩,
          ⟨⟨some 22, .op (.ia 2 (.tmp 20) (.tmp 21)), none⟩, false, [⟨some 18, .op (.ia 2 (.tmp 16) (.tmp 17)), none⟩, ⟨some 19, .op (.load 2 true (.tmp 18)), none⟩]⟩,
          ⟨⟨some 23, .op (.load 2 true (.tmp 22)), none⟩, false, [⟨some 18, .op (.ia 2 (.tmp 16) (.tmp 17)), none⟩, ⟨some 19, .op (.load 2 true (.tmp 18)), none⟩]⟩,
          ⟨⟨some 24, .op (.eqs true [.s, .s] (.tmp 19) (.tmp 23)), none⟩, false, []⟩])
         (.cond (.tmp 24)
         (.seq (.reg [
           ⟨some 4, .op (.mov (.val (.bool false))), none⟩])
          .ret)
         .skip))))
       (.reg [
       ⟨some 25, .op (.bin .add (.tmp 13) (.val (.int .i64 1))), none⟩,
       ⟨some 13, .op (.mov (.tmp 25)), none⟩])))))))
    (.seq (.reg [
     ⟨some 4, .op (.mov (.val (.bool true))), none⟩])
    .ret))))
theorem Tryd.cc8 : (Tryd.f8.body.bind (cCode Tryd.prog 26)) = some Tryd.ac8 := by kernel_rfl

def Tryd.ac9 : ACode :=
  (.seq (.reg [
     ⟨some 2, .op (.alloc [.int .i64 0, .int .i64 0, .int .i64 0]), none⟩])
    (.seq (.seq (.reg [
      ⟨some 5, .op (.mov (.tmp 0)), none⟩,
      ⟨some 6, .op (.len (.tmp 5)), none⟩,
      ⟨some 7, .op (.bin .gtr (.tmp 6) (.val (.int .i64 8))), none⟩])
     (.cond (.tmp 7)
     (.seq (.reg [
       ⟨some 8, .op (.build [.int .i64 0, .int .i64 0, .int .i64 0] [(0, 1, .val (.int .i64 5)), (1, 1, .val (.int .i64 (-1)))]), none⟩,
       ⟨none, .op (.store 3 (.tmp 2) (.tmp 8)), none⟩])
      .ret)
     .skip))
    (.seq (.seq (.reg [
      ⟨some 9, .op (.mov (.tmp 0)), none⟩,
      ⟨some 10, .op (.len (.tmp 9)), none⟩,
      ⟨some 11, .op (.mov (.val (.int .i64 0))), none⟩])
     (.block 0 (.loop (.seq (.reg [
        ⟨some 12, .op (.bin .lss (.tmp 11) (.tmp 10)), none⟩])
       (.seq (.cond (.tmp 12)
        .skip
        (.exit 0))
       (.seq (.block 1 (.seq (.reg [
          ⟨some 13, .op (.mov (.tmp 11)), none⟩,
          ⟨some 14, .op (.ia 2 (.tmp 9) (.tmp 11)), none⟩,
          ⟨some 15, .op (.load 2 true (.tmp 14)), none⟩,
          ⟨some 4, .op (.alloc [.str [], .str []]), none⟩,
          ⟨some 3, .op (.mov (.tmp 13)), none⟩,
          ⟨none, .op (.store 2 (.tmp 4) (.tmp 15)), none⟩])
         (.block 2 (.seq (.reg [
           ⟨some 17, .op (.fa 0 (.tmp 4)), none⟩,
           ⟨some 18, .op (.load 1 false (.tmp 17)), none⟩,
           ⟨some 19, .call 11 [.tmp 18], none⟩,
           ⟨some 20, .op (.un .not (.tmp 19)), none⟩,
           ⟨some 16, .op (.mov (.tmp 20)), none⟩])
          (.cond (.tmp 16)
          (.seq (.reg [
            ⟨some 21, .op (.mov (.tmp 3)), none⟩,
            ⟨some 22, .op (.build [.int .i64 0, .int .i64 0, .int .i64 0] [(0, 1, .val (.int .i64 7)), (1, 1, .tmp 21)]), none⟩,
            ⟨none, .op (.store 3 (.tmp 2) (.tmp 22)), none⟩])
           .ret)
          (.seq (.reg [
            ⟨some 24, .op (.fa 1 (.tmp 4)), none⟩,
            ⟨some 25, .op (.load 1 false (.tmp 24)), none⟩,
            ⟨some 26, .op (.lenS (.tmp 25)), none⟩,
            ⟨some 27, .op (.bin .gtr (.tmp 26) (.val (.int .i64 3000))), none⟩,
            ⟨some 23, .op (.mov (.tmp 27)), none⟩])
           (.cond (.tmp 23)
           (.seq (.reg [
             ⟨some 28, .op (.mov (.tmp 3)), none⟩,
             ⟨some 29, .op (.build [.int .i64 0, .int .i64 0, .int .i64 0] [(0, 1, .val (.int .i64 4)), (1, 1, .tmp 28)]), none⟩,
             ⟨none, .op (.store 3 (.tmp 2) (.tmp 29)), none⟩])
            .ret)
           (.seq (.regd [
             ⟨⟨some 31, .op (.mov (.tmp 3)), none⟩, false, []⟩,
             ⟨⟨some 32, .op (.bin .gtr (.tmp 31) (.val (.int .i64 0))), none⟩, false, []⟩,
             ⟨⟨some 33, .op (.mov (.tmp 32)), none⟩, false, []⟩,
             ⟨⟨some 34, .op (.mov (.tmp 0)), some (33, true)⟩, false, []⟩,
             ⟨⟨some 35, .op (.mov (.tmp 3)), some (33, true)⟩, false, []⟩,
             ⟨⟨some 36, .op (.bin .sub (.tmp 35) (.val (.int .i64 1))), some (33, true)⟩, false, []⟩,
             ⟨⟨some 37, .op (.ia 2 (.tmp 34) (.tmp 36)), some (33, true)⟩, false, []⟩,
             ⟨⟨some 38, .op (.fa 0 (.tmp 37)), some (33, true)⟩, false, []⟩,
             ⟨⟨some 39, .op (.load 1 false (.tmp 38)), some (33, true)⟩, false, []⟩,
             ⟨⟨some 40, .op (.fa 0 (.tmp 4)), some (33, true)⟩, false, [⟨some 37, .op (.ia 2 (.tmp 34) (.tmp 36)), some (33, true)⟩, ⟨some 39, .op (.load 1 false (.tmp 38)), some (33, true)⟩]⟩,
             ⟨⟨some 41, .op (.load 1 false (.tmp 40)), some (33, true)⟩, false, [⟨some 37, .op (.ia 2 (.tmp 34) (.tmp 36)), some (33, true)⟩, ⟨some 39, .op (.load 1 false (.tmp 38)), some (33, true)⟩]⟩,
             ⟨⟨some 42, .op (.bin .geq (.tmp 39) (.tmp 41)), some (33, true)⟩, false, []⟩,
             ⟨⟨some 43, .op (.pick (.tmp 33) (.tmp 42) (.val (.bool false))), none⟩, false, []⟩,
             ⟨⟨some 30, .op (.mov (.tmp 43)), none⟩, false, []⟩])
            (.cond (.tmp 30)
            (.seq (.reg [
              ⟨some 44, .op (.mov (.tmp 3)), none⟩,
              ⟨some 45, .op (.build [.int .i64 0, .int .i64 0, .int .i64 0] [(0, 1, .val (.int .i64 2)), (1, 1, .tmp 44)]), none⟩,
              ⟨none, .op (.store 3 (.tmp 2) (.tmp 45)), none⟩])
             .ret)
            .skip)))))))))
       (.reg [
       ⟨some 46, .op (.bin .add (.tmp 11) (.val (.int .i64 1))), none⟩,
       ⟨some 11, .op (.mov (.tmp 46)), none⟩])))))))
    (.seq (.reg [
     ⟨some 47, .op (.build [.int .i64 0, .int .i64 0, .int .i64 0] [(1, 1, .val (.int .i64 (-1)))]), none⟩,
     ⟨none, .op (.store 3 (.tmp 2) (.tmp 47)), none⟩])
    .ret))))
theorem Tryd.cc9 : (Tryd.f9.body.bind (cCode Tryd.prog 48)) = some Tryd.ac9 := by kernel_rfl

def Tryd.ac10 : ACode :=
  (.seq (.reg [
     ⟨some 4, .op (.alloc [.str []]), none⟩])
    (.seq (.reg [
     ⟨some 8, .op (.mov (.tmp 0)), none⟩,
     ⟨some 9, .call 18 [.tmp 8, .val (.str [47])], none⟩,
     ⟨some 5, .op (.alloc [.ls [] true]), none⟩,
     ⟨none, .op (.store 1 (.tmp 5) (.tmp 9)), none⟩])
    (.seq (.reg [
     ⟨some 10, .op (.load 1 false (.tmp 5)), none⟩,
     ⟨some 11, .op (.load 1 false (.tmp 5)), none⟩,
     ⟨some 12, .op (.len (.tmp 11)), none⟩,
     ⟨some 13, .op (.bin .sub (.tmp 12) (.val (.int .i64 1))), none⟩,
     ⟨some 14, .op (.slc 1 (.tmp 10) (none) (some (.tmp 13)) (none)), none⟩,
     ⟨none, .op (.store 1 (.tmp 5) (.tmp 14)), none⟩])
    (.seq (.seq (.reg [
      ⟨some 15, .op (.mov (.tmp 1)), none⟩,
      ⟨some 16, .call 19 [.tmp 15, .val (.str [47])], none⟩])
     (.block 0 (.range (.tmp 16) 17
      (.reg [
       ⟨some 6, .op (.mov (.tmp 17)), none⟩])
      (.block 1 (.seq (.reg [
         ⟨some 18, .op (.mov (.tmp 6)), none⟩])
        (.block 2 (.seq (.reg [
          ⟨some 24, .op (.bin .eql (.tmp 18) (.val (.str [46]))), none⟩,
          ⟨some 23, .op (.mov (.tmp 24)), none⟩])
         (.cond (.tmp 23)
         .skip
         (.seq (.reg [
           ⟨some 26, .op (.bin .eql (.tmp 18) (.val (.str [46, 46]))), none⟩,
           ⟨some 25, .op (.mov (.tmp 26)), none⟩])
          (.cond (.tmp 25)
          (.seq (.seq (.reg [
             ⟨some 27, .op (.load 1 false (.tmp 5)), none⟩,
             ⟨some 28, .op (.len (.tmp 27)), none⟩,
             ⟨some 29, .op (.bin .eql (.tmp 28) (.val (.int .i64 0))), none⟩])
            (.cond (.tmp 29)
            (.seq (.reg [
              ⟨none, .op (.store 1 (.tmp 4) (.val (.str []))), none⟩])
             .ret)
            .skip))
           (.reg [
           ⟨some 30, .op (.load 1 false (.tmp 5)), none⟩,
           ⟨some 31, .op (.load 1 false (.tmp 5)), none⟩,
           ⟨some 32, .op (.len (.tmp 31)), none⟩,
           ⟨some 33, .op (.bin .sub (.tmp 32) (.val (.int .i64 1))), none⟩,
           ⟨some 34, .op (.slc 1 (.tmp 30) (none) (some (.tmp 33)) (none)), none⟩,
           ⟨none, .op (.store 1 (.tmp 5) (.tmp 34)), none⟩]))
          (.reg [
           ⟨some 19, .op (.load 1 false (.tmp 5)), none⟩,
           ⟨some 20, .op (.mov (.tmp 6)), none⟩,
           ⟨some 21, .op (.bslice 1 (.str []) 1 [(0, .tmp 20)]), none⟩,
           ⟨some 22, .op (.app 1 (.tmp 19) (.tmp 21)), none⟩,
           ⟨none, .op (.store 1 (.tmp 5) (.tmp 22)), none⟩])))))))))))
    (.seq (.reg [
     ⟨some 35, .op (.load 1 false (.tmp 5)), none⟩,
     ⟨some 36, .call 20 [.tmp 35, .val (.str [47])], none⟩,
     ⟨some 7, .op (.mov (.tmp 36)), none⟩])
    (.seq (.seq (.reg [
      ⟨some 37, .op (.mov (.tmp 7)), none⟩,
      ⟨some 38, .call 11 [.tmp 37], none⟩,
      ⟨some 39, .op (.un .not (.tmp 38)), none⟩])
     (.cond (.tmp 39)
     (.seq (.reg [
       ⟨none, .op (.store 1 (.tmp 4) (.val (.str []))), none⟩])
      .ret)
     .skip))
    (.seq (.reg [
     ⟨some 40, .op (.mov (.tmp 7)), none⟩,
     ⟨none, .op (.store 1 (.tmp 4) (.tmp 40)), none⟩])
    .ret)))))))
theorem Tryd.cc10 : (Tryd.f10.body.bind (cCode Tryd.prog 41)) = some Tryd.ac10 := by kernel_rfl

def Tryd.ac11 : ACode :=
  (.seq (.reg [
     ⟨some 2, .op (.alloc [.bool false]), none⟩])
    (.seq (.seq (.reg [
      ⟨some 7, .op (.mov (.tmp 0)), none⟩,
      ⟨some 8, .op (.lenS (.tmp 7)), none⟩,
      ⟨some 9, .op (.bin .gtr (.tmp 8) (.val (.int .i64 40))), none⟩])
     (.cond (.tmp 9)
     (.seq (.reg [
       ⟨none, .op (.store 1 (.tmp 2) (.val (.bool false))), none⟩])
      .ret)
     .skip))
    (.seq (.seq (.reg [
      ⟨some 10, .op (.mov (.tmp 0)), none⟩,
      ⟨some 11, .call 19 [.tmp 10, .val (.str [47])], none⟩])
     (.block 0 (.range (.tmp 11) 12
      (.reg [
       ⟨some 3, .op (.mov (.tmp 12)), none⟩])
      (.block 1 (.seq (.seq (.reg [
          ⟨some 13, .op (.mov (.tmp 3)), none⟩,
          ⟨some 14, .op (.bin .eql (.tmp 13) (.val (.str []))), none⟩,
          ⟨some 15, .op (.mov (.tmp 14)), none⟩,
          ⟨some 16, .op (.mov (.tmp 3)), some (15, false)⟩,
          ⟨some 17, .op (.bin .eql (.tmp 16) (.val (.str [46]))), some (15, false)⟩,
          ⟨some 18, .op (.pick (.tmp 15) (.val (.bool true)) (.tmp 17)), none⟩,
          ⟨some 19, .op (.mov (.tmp 18)), none⟩,
          ⟨some 20, .op (.mov (.tmp 3)), some (19, false)⟩,
          ⟨some 21, .op (.bin .eql (.tmp 20) (.val (.str [46, 46]))), some (19, false)⟩,
          ⟨some 22, .op (.pick (.tmp 19) (.val (.bool true)) (.tmp 21)), none⟩])
         (.cond (.tmp 22)
         (.seq (.reg [
           ⟨none, .op (.store 1 (.tmp 2) (.val (.bool false))), none⟩])
          .ret)
         .skip))
        (.seq (.reg [
         ⟨some 23, .op (.mov (.tmp 3)), none⟩,
         ⟨some 24, .op (.s2b (.tmp 23)), none⟩,
         ⟨some 25, .op (.len (.tmp 24)), none⟩,
         ⟨some 26, .op (.mov (.val (.int .i64 0))), none⟩])
        (.block 2 (.loop (.seq (.reg [
           ⟨some 27, .op (.bin .lss (.tmp 26) (.tmp 25)), none⟩])
          (.seq (.cond (.tmp 27)
           .skip
           (.exit 2))
          (.seq (.block 3 (.seq (.reg [
             ⟨some 28, .op (.ia 1 (.tmp 24) (.tmp 26)), none⟩,
             ⟨some 29, .op (.load 1 false (.tmp 28)), none⟩,
             ⟨some 5, .op (.mov (.tmp 29)), none⟩])
            (.seq (.reg [
             ⟨some 30, .op (.mov (.tmp 5)), none⟩,
             ⟨some 31, .op (.bin .geq (.tmp 30) (.val (.int .u8 97))), none⟩,
             ⟨some 32, .op (.mov (.tmp 31)), none⟩,
             ⟨some 33, .op (.mov (.tmp 5)), some (32, true)⟩,
             ⟨some 34, .op (.bin .leq (.tmp 33) (.val (.int .u8 122))), some (32, true)⟩,
             ⟨some 35, .op (.pick (.tmp 32) (.tmp 34) (.val (.bool false))), none⟩,
             ⟨some 36, .op (.mov (.tmp 35)), none⟩,
             ⟨some 37, .op (.mov (.tmp 5)), some (36, false)⟩,
             ⟨some 38, .op (.bin .geq (.tmp 37) (.val (.int .u8 65))), some (36, false)⟩,
             ⟨some 39, .op (.mov (.tmp 38)), some (36, false)⟩,
             ⟨some 40, .op (.mov (.tmp 5)), some (39, true)⟩,
             ⟨some 41, .op (.bin .leq (.tmp 40) (.val (.int .u8 90))), some (39, true)⟩,
             ⟨some 42, .op (.pick (.tmp 39) (.tmp 41) (.val (.bool false))), some (36, false)⟩,
             ⟨some 43, .op (.pick (.tmp 36) (.val (.bool true)) (.tmp 42)), none⟩,
             ⟨some 44, .op (.mov (.tmp 43)), none⟩,
             ⟨some 45, .op (.mov (.tmp 5)), some (44, false)⟩,
             ⟨some 46, .op (.bin .geq (.tmp 45) (.val (.int .u8 48))), some (44, false)⟩,
             ⟨some 47, .op (.mov (.tmp 46)), some (44, false)⟩,
             ⟨some 48, .op (.mov (.tmp 5)), some (47, true)⟩,
             ⟨some 49, .op (.bin .leq (.tmp 48) (.val (.int .u8 57))), some (47, true)⟩,
             ⟨some 50, .op (.pick (.tmp 47) (.tmp 49) (.val (.bool false))), some (44, false)⟩,
             ⟨some 51, .op (.pick (.tmp 44) (.val (.bool true)) (.tmp 50)), none⟩,
             ⟨some 6, .op (.mov (.tmp 51)), none⟩])
            (.seq (.reg [
             ⟨some 52, .op (.mov (.tmp 6)), none⟩,
             ⟨some 53, .op (.un .not (.tmp 52)), none⟩,
             ⟨some 54, .op (.mov (.tmp 53)), none⟩,
             ⟨some 55, .op (.mov (.tmp 5)), some (54, true)⟩,
             ⟨some 56, .op (.bin .neq (.tmp 55) (.val (.int .u8 46))), some (54, true)⟩,
             ⟨some 57, .op (.pick (.tmp 54) (.tmp 56) (.val (.bool false))), none⟩,
             ⟨some 58, .op (.mov (.tmp 57)), none⟩,
             ⟨some 59, .op (.mov (.tmp 5)), some (58, true)⟩,
             ⟨some 60, .op (.bin .neq (.tmp 59) (.val (.int .u8 95))), some (58, true)⟩,
             ⟨some 61, .op (.pick (.tmp 58) (.tmp 60) (.val (.bool false))), none⟩])
            (.cond (.tmp 61)
            (.seq (.reg [
              ⟨none, .op (.store 1 (.tmp 2) (.val (.bool false))), none⟩])
             .ret)
            .skip)))))
          (.reg [
          ⟨some 62, .op (.bin .add (.tmp 26) (.val (.int .i64 1))), none⟩,
          ⟨some 26, .op (.mov (.tmp 62)), none⟩]))))))))))))
    (.seq (.reg [
     ⟨none, .op (.store 1 (.tmp 2) (.val (.bool true))), none⟩])
    .ret))))
theorem Tryd.cc11 : (Tryd.f11.body.bind (cCode Tryd.prog 63)) = some Tryd.ac11 := by kernel_rfl

def Tryd.ac12 : ACode :=
  (.seq (.reg [
     ⟨some 8, .op (.mov (.val (.int .i64 0))), none⟩])
    (.seq (.seq (.reg [
      ⟨some 10, .op (.mov (.tmp 1)), none⟩,
      ⟨some 11, .op (.bin .lss (.tmp 10) (.val (.int .i64 0))), none⟩,
      ⟨some 12, .op (.mov (.tmp 11)), none⟩,
      ⟨some 13, .op (.mov (.tmp 1)), some (12, false)⟩,
      ⟨some 14, .op (.mov (.tmp 0)), some (12, false)⟩,
      ⟨some 15, .op (.len (.tmp 14)), some (12, false)⟩,
      ⟨some 16, .op (.bin .geq (.tmp 13) (.tmp 15)), some (12, false)⟩,
      ⟨some 17, .op (.pick (.tmp 12) (.val (.bool true)) (.tmp 16)), none⟩])
     (.cond (.tmp 17)
     (.seq (.reg [
       ⟨some 8, .op (.mov (.val (.int .i64 (-1)))), none⟩])
      .ret)
     .skip))
    (.seq (.seq (.reg [
      ⟨some 18, .op (.mov (.tmp 3)), none⟩,
      ⟨some 19, .op (.un .not (.tmp 18)), none⟩])
     (.cond (.tmp 19)
     (.seq (.reg [
       ⟨some 20, .op (.mov (.tmp 0)), none⟩,
       ⟨some 21, .op (.mov (.tmp 2)), none⟩,
       ⟨some 22, .call 10 [.val (.str [108, 105, 98, 47, 120]), .tmp 21], none⟩,
       ⟨some 23, .call 13 [.tmp 20, .tmp 22], none⟩,
       ⟨some 8, .op (.mov (.tmp 23)), none⟩])
      .ret)
     .skip))
    (.seq (.seq (.reg [
      ⟨some 24, .op (.mov (.tmp 0)), none⟩,
      ⟨some 25, .op (.mov (.tmp 0)), none⟩,
      ⟨some 26, .op (.mov (.tmp 1)), none⟩,
      ⟨some 27, .op (.ia 2 (.tmp 25) (.tmp 26)), none⟩,
      ⟨some 28, .op (.fa 0 (.tmp 27)), none⟩,
      ⟨some 29, .op (.load 1 false (.tmp 28)), none⟩,
      ⟨some 30, .op (.mov (.tmp 2)), none⟩,
      ⟨some 31, .call 10 [.tmp 29, .tmp 30], none⟩,
      ⟨some 32, .call 13 [.tmp 24, .tmp 31], none⟩,
      ⟨some 9, .op (.mov (.tmp 32)), none⟩])
     (.seq (.reg [
      ⟨some 33, .op (.mov (.tmp 9)), none⟩,
      ⟨some 34, .op (.bin .geq (.tmp 33) (.val (.int .i64 0))), none⟩])
     (.cond (.tmp 34)
     (.seq (.reg [
       ⟨some 35, .op (.mov (.tmp 9)), none⟩,
       ⟨some 8, .op (.mov (.tmp 35)), none⟩])
      .ret)
     .skip)))
    (.seq (.reg [
     ⟨some 36, .op (.mov (.tmp 0)), none⟩,
     ⟨some 37, .op (.mov (.tmp 2)), none⟩,
     ⟨some 38, .call 10 [.val (.str [120]), .tmp 37], none⟩,
     ⟨some 39, .call 13 [.tmp 36, .tmp 38], none⟩,
     ⟨some 8, .op (.mov (.tmp 39)), none⟩])
    .ret)))))
theorem Tryd.cc12 : (Tryd.f12.body.bind (cCode Tryd.prog 40)) = some Tryd.ac12 := by kernel_rfl

def Tryd.ac13 : ACode :=
  (.seq (.reg [
     ⟨some 3, .op (.box (.tmp 1)), none⟩,
     ⟨some 4, .op (.mov (.val (.int .i64 0))), none⟩])
    (.seq (.reg [
     ⟨some 5, .op (.mov (.tmp 0)), none⟩,
     ⟨some 6, .op (.mkF 22 [.tmp 3]), none⟩,
     ⟨some 7, .call 21 [.tmp 5, .tmp 6], none⟩,
     ⟨some 4, .op (.mov (.tmp 7)), none⟩])
    .ret))
theorem Tryd.cc13 : (Tryd.f13.body.bind (cCode Tryd.prog 8)) = some Tryd.ac13 := by kernel_rfl

def Tryd.ac14 : ACode :=
  (.seq (.reg [
     ⟨some 2, .op (.mov (.val (.ls [] true))), none⟩])
    (.seq (.seq (.reg [
      ⟨some 3, .op (.mov (.tmp 0)), none⟩,
      ⟨some 4, .nilq 0 false (.tmp 3), none⟩])
     (.cond (.tmp 4)
     (.seq (.reg [
       ⟨some 2, .op (.mov (.val (.ls [] true))), none⟩])
      .ret)
     .skip))
    (.seq (.reg [
     ⟨some 5, .op (.bslice 2 (.agg [.str [], .str []]) 0 []), none⟩,
     ⟨some 6, .op (.mov (.tmp 0)), none⟩,
     ⟨some 7, .op (.app 2 (.tmp 5) (.tmp 6)), none⟩,
     ⟨some 2, .op (.mov (.tmp 7)), none⟩])
    .ret)))
theorem Tryd.cc14 : (Tryd.f14.body.bind (cCode Tryd.prog 8)) = some Tryd.ac14 := by kernel_rfl

def Tryd.ac15 : ACode :=
  (.seq (.reg [
     ⟨some 2, .op (.mov (.val (.ls [] true))), none⟩])
    (.seq (.seq (.reg [
      ⟨some 3, .op (.mov (.tmp 0)), none⟩,
      ⟨some 4, .nilq 0 false (.tmp 3), none⟩])
     (.cond (.tmp 4)
     (.seq (.reg [
       ⟨some 2, .op (.mov (.val (.ls [] true))), none⟩])
      .ret)
     .skip))
    (.seq (.reg [
     ⟨some 5, .op (.bslice 4 (.agg [.int .i64 0, .int .i64 0, .int .i64 0, .str []]) 0 []), none⟩,
     ⟨some 6, .op (.mov (.tmp 0)), none⟩,
     ⟨some 7, .op (.app 4 (.tmp 5) (.tmp 6)), none⟩,
     ⟨some 2, .op (.mov (.tmp 7)), none⟩])
    .ret)))
theorem Tryd.cc15 : (Tryd.f15.body.bind (cCode Tryd.prog 8)) = some Tryd.ac15 := by kernel_rfl

def Tryd.ac16 : ACode :=
  (.reg [
    ⟨some 4, .op (.mov (.tmp 0)), none⟩,
    ⟨some 5, .op (.mov (.tmp 0)), none⟩,
    ⟨some 6, .op (.len (.tmp 5)), none⟩,
    ⟨some 7, .op (.mov (.tmp 1)), none⟩,
    ⟨some 8, .call 23 [.tmp 4, .tmp 6, .tmp 7], none⟩])
theorem Tryd.cc16 : (Tryd.f16.body.bind (cCode Tryd.prog 9)) = some Tryd.ac16 := by kernel_rfl

def Tryd.ac17 : ACode :=
  (.seq (.reg [
     ⟨some 2, .op (.box (.tmp 0)), none⟩,
     ⟨some 3, .op (.box (.tmp 1)), none⟩,
     ⟨some 4, .op (.mov (.val (.int .i64 0))), none⟩])
    (.seq (.regd [
     ⟨⟨some 5, .op (.fa 0 (.tmp 2)), none⟩, false, []⟩,
     ⟨⟨some 6, .op (.load 1 false (.tmp 5)), none⟩, false, []⟩,
     ⟨⟨some 7, .op (.fa 0 (.tmp 3)), none⟩, false, [⟨some 6, .op (.load 1 false (.tmp 5)), none⟩]⟩,
     ⟨⟨some 8, .op (.load 1 false (.tmp 7)), none⟩, false, [⟨some 6, .op (.load 1 false (.tmp 5)), none⟩]⟩,
     ⟨⟨some 10, .op (.fa 1 (.tmp 2)), none⟩, false, [⟨some 6, .op (.load 1 false (.tmp 5)), none⟩, ⟨some 8, .op (.load 1 false (.tmp 7)), none⟩]⟩,
     ⟨⟨some 11, .op (.load 1 false (.tmp 10)), none⟩, false, [⟨some 6, .op (.load 1 false (.tmp 5)), none⟩, ⟨some 8, .op (.load 1 false (.tmp 7)), none⟩]⟩,
     ⟨⟨some 12, .op (.fa 1 (.tmp 3)), none⟩, false, [⟨some 6, .op (.load 1 false (.tmp 5)), none⟩, ⟨some 8, .op (.load 1 false (.tmp 7)), none⟩, ⟨some 11, .op (.load 1 false (.tmp 10)), none⟩]⟩,
     ⟨⟨some 13, .op (.load 1 false (.tmp 12)), none⟩, false, [⟨some 6, .op (.load 1 false (.tmp 5)), none⟩, ⟨some 8, .op (.load 1 false (.tmp 7)), none⟩, ⟨some 11, .op (.load 1 false (.tmp 10)), none⟩]⟩,
     ⟨⟨some 15, .op (.fa 2 (.tmp 2)), none⟩, false, [⟨some 6, .op (.load 1 false (.tmp 5)), none⟩, ⟨some 8, .op (.load 1 false (.tmp 7)), none⟩, ⟨some 11, .op (.load 1 false (.tmp 10)), none⟩, ⟨some 13, .op (.load 1 false (.tmp 12)), none⟩]⟩,
     ⟨⟨some 16, .op (.load 1 false (.tmp 15)), none⟩, false, [⟨some 6, .op (.load 1 false (.tmp 5)), none⟩, ⟨some 8, .op (.load 1 false (.tmp 7)), none⟩, ⟨some 11, .op (.load 1 false (.tmp 10)), none⟩, ⟨some 13, .op (.load 1 false (.tmp 12)), none⟩]⟩,
     ⟨⟨some 17, .op (.fa 2 (.tmp 3)), none⟩, false, [⟨some 6, .op (.load 1 false (.tmp 5)), none⟩, ⟨some 8, .op (.load 1 false (.tmp 7)), none⟩, ⟨some 11, .op (.load 1 false (.tmp 10)), none⟩, ⟨some 13, .op (.load 1 false (.tmp 12)), none⟩, ⟨some 16, .op (.load 1 false (.tmp 15)), none⟩]⟩,
     ⟨⟨some 18, .op (.load 1 false (.tmp 17)), none⟩, false, [⟨some 6, .op (.load 1 false (.tmp 5)), none⟩, ⟨some 8, .op (.load 1 false (.tmp 7)), none⟩, ⟨some 11, .op (.load 1 false (.tmp 10)), none⟩, ⟨some 13, .op (.load 1 false (.tmp 12)), none⟩, ⟨some 16, .op (.load 1 false (.tmp 15)), none⟩]⟩,
     ⟨⟨some 9, .call 25 [.tmp 6, .tmp 8], none⟩, true, [⟨some 11, .op (.load 1 false (.tmp 10)), none⟩, ⟨some 13, .op (.load 1 false (.tmp 12)), none⟩, ⟨some 16, .op (.load 1 false (.tmp 15)), none⟩, ⟨some 18, .op (.load 1 false (.tmp 17)), none⟩]⟩,
     ⟨⟨some 14, .call 25 [.tmp 11, .tmp 13], none⟩, true, [⟨some 16, .op (.load 1 false (.tmp 15)), none⟩, ⟨some 18, .op (.load 1 false (.tmp 17)), none⟩]⟩,
     ⟨⟨some 19, .call 25 [.tmp 16, .tmp 18], none⟩, true, []⟩,
     ⟨⟨some 20, .op (.bslice 1 (.int .i64 0) 3 [(0, .tmp 9), (1, .tmp 14), (2, .tmp 19)]), none⟩, true, []⟩,
     ⟨⟨some 21, .call 24 [.tmp 20], none⟩, true, []⟩,
     ⟨⟨some 4, .op (.mov (.tmp 21)), none⟩, false, []⟩])
    .ret))
theorem Tryd.cc17 : (Tryd.f17.body.bind (cCode Tryd.prog 22)) = some Tryd.ac17 := by kernel_rfl

def Tryd.ac18 : ACode :=
  (.seq (.reg [
     ⟨some 4, .op (.mov (.val (.ls [] true))), none⟩])
    (.seq (.reg [
     ⟨some 5, .op (.mov (.tmp 0)), none⟩,
     ⟨some 6, .op (.mov (.tmp 1)), none⟩,
     ⟨some 7, .call 26 [.tmp 5, .tmp 6, .val (.int .i64 0), .val (.int .i64 (-1))], none⟩,
     ⟨some 4, .op (.mov (.tmp 7)), none⟩])
    .ret))
theorem Tryd.cc18 : (Tryd.f18.body.bind (cCode Tryd.prog 8)) = some Tryd.ac18 := by kernel_rfl

def Tryd.ac19 : ACode :=
  (.seq (.reg [
     ⟨some 4, .op (.mov (.val (.nilf))), none⟩])
    (.seq (.reg [
     ⟨some 5, .op (.mov (.tmp 0)), none⟩,
     ⟨some 6, .op (.mov (.tmp 1)), none⟩,
     ⟨some 7, .call 27 [.tmp 5, .tmp 6, .val (.int .i64 0)], none⟩,
     ⟨some 4, .op (.mov (.tmp 7)), none⟩])
    .ret))
theorem Tryd.cc19 : (Tryd.f19.body.bind (cCode Tryd.prog 8)) = some Tryd.ac19 := by kernel_rfl

def Tryd.ac20 : ACode :=
  (.seq (.reg [
     ⟨some 4, .op (.mov (.val (.str []))), none⟩])
    (.seq (.seq (.reg [
      ⟨some 11, .op (.mov (.tmp 0)), none⟩,
      ⟨some 12, .op (.len (.tmp 11)), none⟩])
     (.block 0 (.seq (.reg [
       ⟨some 14, .op (.bin .eql (.tmp 12) (.val (.int .i64 0))), none⟩,
       ⟨some 13, .op (.mov (.tmp 14)), none⟩])
      (.cond (.tmp 13)
      (.seq (.reg [
        ⟨some 4, .op (.mov (.val (.str []))), none⟩])
       .ret)
      (.seq (.reg [
        ⟨some 16, .op (.bin .eql (.tmp 12) (.val (.int .i64 1))), none⟩,
        ⟨some 15, .op (.mov (.tmp 16)), none⟩])
       (.cond (.tmp 15)
       (.seq (.reg [
         ⟨some 17, .op (.mov (.tmp 0)), none⟩,
         ⟨some 18, .op (.ia 1 (.tmp 17) (.val (.int .i64 0))), none⟩,
         ⟨some 19, .op (.load 1 false (.tmp 18)), none⟩,
         ⟨some 4, .op (.mov (.tmp 19)), none⟩])
        .ret)
       .skip))))))
    (.seq (.reg [
     ⟨some 5, .op (.mov (.val (.int .i64 0))), none⟩])
    (.seq (.seq (.reg [
      ⟨some 20, .op (.mov (.tmp 1)), none⟩,
      ⟨some 21, .op (.lenS (.tmp 20)), none⟩,
      ⟨some 22, .op (.bin .gtr (.tmp 21) (.val (.int .i64 0))), none⟩])
     (.cond (.tmp 22)
     (.seq (.seq (.reg [
        ⟨some 23, .op (.mov (.tmp 1)), none⟩,
        ⟨some 24, .op (.lenS (.tmp 23)), none⟩,
        ⟨some 25, .op (.mov (.tmp 0)), none⟩,
        ⟨some 26, .op (.len (.tmp 25)), none⟩,
        ⟨some 27, .op (.bin .sub (.tmp 26) (.val (.int .i64 1))), none⟩,
        ⟨some 28, .op (.bin .quo (.val (.int .i64 9223372036854775807)) (.tmp 27)), none⟩,
        ⟨some 29, .op (.bin .geq (.tmp 24) (.tmp 28)), none⟩])
       (.cond (.tmp 29)
       (.reg [
        ⟨some 30, .op (.mkI 9 (.val (.str [115, 116, 114, 105, 110, 103, 115, 58, 32, 74, 111, 105, 110, 32, 111, 117, 116, 112, 117, 116, 32, 108, 101, 110, 103, 116, 104, 32, 111, 118, 101, 114, 102, 108, 111, 119]))), none⟩,
        ⟨none, .panic (.tmp 30), none⟩])
       .skip))
      (.reg [
      ⟨some 31, .op (.mov (.tmp 5)), none⟩,
      ⟨some 32, .op (.mov (.tmp 1)), none⟩,
      ⟨some 33, .op (.lenS (.tmp 32)), none⟩,
      ⟨some 34, .op (.mov (.tmp 0)), none⟩,
      ⟨some 35, .op (.len (.tmp 34)), none⟩,
      ⟨some 36, .op (.bin .sub (.tmp 35) (.val (.int .i64 1))), none⟩,
      ⟨some 37, .op (.bin .mul (.tmp 33) (.tmp 36)), none⟩,
      ⟨some 38, .op (.bin .add (.tmp 31) (.tmp 37)), none⟩,
      ⟨some 5, .op (.mov (.tmp 38)), none⟩]))
     .skip))
    (.seq (.seq (.reg [
      ⟨some 39, .op (.mov (.tmp 0)), none⟩,
      ⟨some 40, .op (.len (.tmp 39)), none⟩,
      ⟨some 41, .op (.mov (.val (.int .i64 0))), none⟩])
     (.block 1 (.loop (.seq (.reg [
        ⟨some 42, .op (.bin .lss (.tmp 41) (.tmp 40)), none⟩])
       (.seq (.cond (.tmp 42)
        .skip
        (.exit 1))
       (.seq (.block 2 (.seq (.reg [
          ⟨some 43, .op (.ia 1 (.tmp 39) (.tmp 41)), none⟩,
          ⟨some 44, .op (.load 1 false (.tmp 43)), none⟩,
          ⟨some 7, .op (.mov (.tmp 44)), none⟩])
         (.seq (.seq (.reg [
           ⟨some 45, .op (.mov (.tmp 7)), none⟩,
           ⟨some 46, .op (.lenS (.tmp 45)), none⟩,
           ⟨some 47, .op (.mov (.tmp 5)), none⟩,
           ⟨some 48, .op (.bin .sub (.val (.int .i64 9223372036854775807)) (.tmp 47)), none⟩,
           ⟨some 49, .op (.bin .gtr (.tmp 46) (.tmp 48)), none⟩])
          (.cond (.tmp 49)
          (.reg [
           ⟨some 50, .op (.mkI 9 (.val (.str [115, 116, 114, 105, 110, 103, 115, 58, 32, 74, 111, 105, 110, 32, 111, 117, 116, 112, 117, 116, 32, 108, 101, 110, 103, 116, 104, 32, 111, 118, 101, 114, 102, 108, 111, 119]))), none⟩,
           ⟨none, .panic (.tmp 50), none⟩])
          .skip))
         (.reg [
         ⟨some 51, .op (.mov (.tmp 5)), none⟩,
         ⟨some 52, .op (.mov (.tmp 7)), none⟩,
         ⟨some 53, .op (.lenS (.tmp 52)), none⟩,
         ⟨some 54, .op (.bin .add (.tmp 51) (.tmp 53)), none⟩,
         ⟨some 5, .op (.mov (.tmp 54)), none⟩]))))
       (.reg [
       ⟨some 55, .op (.bin .add (.tmp 41) (.val (.int .i64 1))), none⟩,
       ⟨some 41, .op (.mov (.tmp 55)), none⟩])))))))
    (.seq (.reg [
     ⟨some 8, .op (.alloc [.nilp, .ls [] true]), none⟩])
    (.seq (.reg [
     ⟨some 56, .op (.mov (.tmp 5)), none⟩,
     ⟨some 57, .call 28 [.tmp 8, .tmp 56], none⟩])
    (.seq (.reg [
     ⟨some 58, .op (.mov (.tmp 0)), none⟩,
     ⟨some 59, .op (.ia 1 (.tmp 58) (.val (.int .i64 0))), none⟩,
     ⟨some 60, .op (.load 1 false (.tmp 59)), none⟩,
     ⟨some 61, .call 29 [.tmp 8, .tmp 60], none⟩])
    (.seq (.seq (.reg [
      ⟨some 62, .op (.mov (.tmp 0)), none⟩,
      ⟨some 63, .op (.slc 1 (.tmp 62) (some (.val (.int .i64 1))) (none) (none)), none⟩,
      ⟨some 64, .op (.len (.tmp 63)), none⟩,
      ⟨some 65, .op (.mov (.val (.int .i64 0))), none⟩])
     (.block 3 (.loop (.seq (.reg [
        ⟨some 66, .op (.bin .lss (.tmp 65) (.tmp 64)), none⟩])
       (.seq (.cond (.tmp 66)
        .skip
        (.exit 3))
       (.seq (.block 4 (.seq (.reg [
          ⟨some 67, .op (.ia 1 (.tmp 63) (.tmp 65)), none⟩,
          ⟨some 68, .op (.load 1 false (.tmp 67)), none⟩,
          ⟨some 10, .op (.mov (.tmp 68)), none⟩])
         (.seq (.reg [
          ⟨some 69, .op (.mov (.tmp 1)), none⟩,
          ⟨some 70, .call 29 [.tmp 8, .tmp 69], none⟩])
         (.reg [
         ⟨some 71, .op (.mov (.tmp 10)), none⟩,
         ⟨some 72, .call 29 [.tmp 8, .tmp 71], none⟩]))))
       (.reg [
       ⟨some 73, .op (.bin .add (.tmp 65) (.val (.int .i64 1))), none⟩,
       ⟨some 65, .op (.mov (.tmp 73)), none⟩])))))))
    (.seq (.reg [
     ⟨some 74, .call 30 [.tmp 8], none⟩,
     ⟨some 4, .op (.mov (.tmp 74)), none⟩])
    .ret))))))))))
theorem Tryd.cc20 : (Tryd.f20.body.bind (cCode Tryd.prog 75)) = some Tryd.ac20 := by kernel_rfl

def Tryd.ac21 : ACode :=
  (.seq (.reg [
     ⟨some 4, .op (.mov (.val (.int .i64 0))), none⟩])
    (.seq (.seq (.reg [
      ⟨some 6, .op (.mov (.tmp 0)), none⟩,
      ⟨some 7, .op (.len (.tmp 6)), none⟩,
      ⟨some 8, .op (.mov (.val (.int .i64 0))), none⟩])
     (.block 0 (.loop (.seq (.reg [
        ⟨some 9, .op (.bin .lss (.tmp 8) (.tmp 7)), none⟩])
       (.seq (.cond (.tmp 9)
        .skip
        (.exit 0))
       (.seq (.block 1 (.seq (.reg [
          ⟨some 10, .op (.mov (.tmp 8)), none⟩,
          ⟨some 5, .op (.mov (.tmp 10)), none⟩])
         (.seq (.reg [
          ⟨some 11, .op (.mov (.tmp 1)), none⟩,
          ⟨some 12, .op (.mov (.tmp 0)), none⟩,
          ⟨some 13, .op (.mov (.tmp 5)), none⟩,
          ⟨some 14, .op (.ia 2 (.tmp 12) (.tmp 13)), none⟩,
          ⟨some 15, .op (.load 2 true (.tmp 14)), none⟩,
          ⟨some 16, .callv (.tmp 11) [.tmp 15], none⟩])
         (.cond (.tmp 16)
         (.seq (.reg [
           ⟨some 17, .op (.mov (.tmp 5)), none⟩,
           ⟨some 4, .op (.mov (.tmp 17)), none⟩])
          .ret)
         .skip))))
       (.reg [
       ⟨some 18, .op (.bin .add (.tmp 8) (.val (.int .i64 1))), none⟩,
       ⟨some 8, .op (.mov (.tmp 18)), none⟩])))))))
    (.seq (.reg [
     ⟨some 4, .op (.mov (.val (.int .i64 (-1)))), none⟩])
    .ret)))
theorem Tryd.cc21 : (Tryd.f21.body.bind (cCode Tryd.prog 19)) = some Tryd.ac21 := by kernel_rfl

def Tryd.ac22 : ACode :=
  (.seq (.reg [
     ⟨some 2, .op (.box (.tmp 0)), none⟩,
     ⟨some 3, .op (.mov (.val (.bool false))), none⟩])
    (.seq (.reg [
     ⟨some 4, .op (.fa 0 (.tmp 2)), none⟩,
     ⟨some 5, .op (.load 1 false (.tmp 4)), none⟩,
     ⟨some 6, .op (.load 1 false (.tmp 1)), none⟩,
     ⟨some 7, .op (.bin .eql (.tmp 5) (.tmp 6)), none⟩,
     ⟨some 3, .op (.mov (.tmp 7)), none⟩])
    .ret))
theorem Tryd.cc22 : (Tryd.f22.body.bind (cCode Tryd.prog 8)) = some Tryd.ac22 := by kernel_rfl

def Tryd.ac23 : ACode :=
  (.seq (.reg [
     ⟨some 6, .op (.mov (.val (.int .i64 20))), none⟩])
    (.seq (.reg [
     ⟨some 10, .op (.mov (.tmp 6)), none⟩,
     ⟨some 7, .op (.mov (.val (.int .i64 0))), none⟩,
     ⟨some 8, .op (.mov (.tmp 10)), none⟩])
    (.seq (.block 0 (.loop (.seq (.seq (.reg [
         ⟨some 11, .op (.mov (.tmp 8)), none⟩,
         ⟨some 12, .op (.mov (.tmp 1)), none⟩,
         ⟨some 13, .op (.bin .leq (.tmp 11) (.tmp 12)), none⟩])
        (.cond (.tmp 13)
        .skip
        (.exit 0)))
       (.block 1 (.seq (.reg [
         ⟨some 14, .op (.mov (.tmp 0)), none⟩,
         ⟨some 15, .op (.mov (.tmp 7)), none⟩,
         ⟨some 16, .op (.mov (.tmp 8)), none⟩,
         ⟨some 17, .op (.mov (.tmp 2)), none⟩,
         ⟨some 18, .call 31 [.tmp 14, .tmp 15, .tmp 16, .tmp 17], none⟩])
        (.seq (.reg [
         ⟨some 19, .op (.mov (.tmp 8)), none⟩,
         ⟨some 7, .op (.mov (.tmp 19)), none⟩])
        (.reg [
        ⟨some 20, .op (.mov (.tmp 8)), none⟩,
        ⟨some 21, .op (.mov (.tmp 6)), none⟩,
        ⟨some 22, .op (.bin .add (.tmp 20) (.tmp 21)), none⟩,
        ⟨some 8, .op (.mov (.tmp 22)), none⟩])))))))
    (.seq (.reg [
     ⟨some 23, .op (.mov (.tmp 0)), none⟩,
     ⟨some 24, .op (.mov (.tmp 7)), none⟩,
     ⟨some 25, .op (.mov (.tmp 1)), none⟩,
     ⟨some 26, .op (.mov (.tmp 2)), none⟩,
     ⟨some 27, .call 31 [.tmp 23, .tmp 24, .tmp 25, .tmp 26], none⟩])
    (.block 2 (.loop (.seq (.seq (.reg [
        ⟨some 28, .op (.mov (.tmp 6)), none⟩,
        ⟨some 29, .op (.mov (.tmp 1)), none⟩,
        ⟨some 30, .op (.bin .lss (.tmp 28) (.tmp 29)), none⟩])
       (.cond (.tmp 30)
       .skip
       (.exit 2)))
      (.block 3 (.seq (.reg [
        ⟨some 31, .op (.mov (.tmp 6)), none⟩,
        ⟨some 32, .op (.bin .mul (.val (.int .i64 2)) (.tmp 31)), none⟩,
        ⟨some 7, .op (.mov (.val (.int .i64 0))), none⟩,
        ⟨some 8, .op (.mov (.tmp 32)), none⟩])
       (.seq (.block 4 (.loop (.seq (.seq (.reg [
            ⟨some 33, .op (.mov (.tmp 8)), none⟩,
            ⟨some 34, .op (.mov (.tmp 1)), none⟩,
            ⟨some 35, .op (.bin .leq (.tmp 33) (.tmp 34)), none⟩])
           (.cond (.tmp 35)
           .skip
           (.exit 4)))
          (.block 5 (.seq (.reg [
            ⟨some 36, .op (.mov (.tmp 0)), none⟩,
            ⟨some 37, .op (.mov (.tmp 7)), none⟩,
            ⟨some 38, .op (.mov (.tmp 7)), none⟩,
            ⟨some 39, .op (.mov (.tmp 6)), none⟩,
            ⟨some 40, .op (.bin .add (.tmp 38) (.tmp 39)), none⟩,
            ⟨some 41, .op (.mov (.tmp 8)), none⟩,
            ⟨some 42, .op (.mov (.tmp 2)), none⟩,
            ⟨some 43, .call 32 [.tmp 36, .tmp 37, .tmp 40, .tmp 41, .tmp 42], none⟩])
           (.seq (.reg [
            ⟨some 44, .op (.mov (.tmp 8)), none⟩,
            ⟨some 7, .op (.mov (.tmp 44)), none⟩])
           (.reg [
           ⟨some 45, .op (.mov (.tmp 8)), none⟩,
           ⟨some 46, .op (.mov (.tmp 6)), none⟩,
           ⟨some 47, .op (.bin .mul (.val (.int .i64 2)) (.tmp 46)), none⟩,
           ⟨some 48, .op (.bin .add (.tmp 45) (.tmp 47)), none⟩,
           ⟨some 8, .op (.mov (.tmp 48)), none⟩])))))))
       (.seq (.seq (.reg [
         ⟨some 49, .op (.mov (.tmp 7)), none⟩,
         ⟨some 50, .op (.mov (.tmp 6)), none⟩,
         ⟨some 51, .op (.bin .add (.tmp 49) (.tmp 50)), none⟩,
         ⟨some 9, .op (.mov (.tmp 51)), none⟩])
        (.seq (.reg [
         ⟨some 52, .op (.mov (.tmp 9)), none⟩,
         ⟨some 53, .op (.mov (.tmp 1)), none⟩,
         ⟨some 54, .op (.bin .lss (.tmp 52) (.tmp 53)), none⟩])
        (.cond (.tmp 54)
        (.reg [
         ⟨some 55, .op (.mov (.tmp 0)), none⟩,
         ⟨some 56, .op (.mov (.tmp 7)), none⟩,
         ⟨some 57, .op (.mov (.tmp 9)), none⟩,
         ⟨some 58, .op (.mov (.tmp 1)), none⟩,
         ⟨some 59, .op (.mov (.tmp 2)), none⟩,
         ⟨some 60, .call 32 [.tmp 55, .tmp 56, .tmp 57, .tmp 58, .tmp 59], none⟩])
        .skip)))
       (.reg [
       ⟨some 61, .op (.mov (.tmp 6)), none⟩,
       ⟨some 62, .op (.bin .mul (.tmp 61) (.val (.int .i64 2))), none⟩,
       ⟨some 6, .op (.mov (.tmp 62)), none⟩]))))))))))))
theorem Tryd.cc23 : (Tryd.f23.body.bind (cCode Tryd.prog 63)) = some Tryd.ac23 := by kernel_rfl

def Tryd.ac24 : ACode :=
  (.seq (.reg [
     ⟨some 2, .op (.mov (.val (.int .i64 0))), none⟩])
    (.seq (.reg [
     ⟨some 3, .op (.mov (.val (.int .i64 0))), none⟩])
    (.seq (.seq (.reg [
      ⟨some 6, .op (.mov (.tmp 0)), none⟩,
      ⟨some 7, .op (.len (.tmp 6)), none⟩,
      ⟨some 8, .op (.mov (.val (.int .i64 0))), none⟩])
     (.block 0 (.loop (.seq (.reg [
        ⟨some 9, .op (.bin .lss (.tmp 8) (.tmp 7)), none⟩])
       (.seq (.cond (.tmp 9)
        .skip
        (.exit 0))
       (.seq (.block 1 (.seq (.reg [
          ⟨some 10, .op (.ia 1 (.tmp 6) (.tmp 8)), none⟩,
          ⟨some 11, .op (.load 1 false (.tmp 10)), none⟩,
          ⟨some 5, .op (.mov (.tmp 11)), none⟩])
         (.seq (.reg [
          ⟨some 12, .op (.mov (.tmp 5)), none⟩,
          ⟨some 13, .op (.mov (.tmp 3)), none⟩,
          ⟨some 14, .op (.bin .neq (.tmp 12) (.tmp 13)), none⟩])
         (.cond (.tmp 14)
         (.seq (.reg [
           ⟨some 15, .op (.mov (.tmp 5)), none⟩,
           ⟨some 2, .op (.mov (.tmp 15)), none⟩])
          .ret)
         .skip))))
       (.reg [
       ⟨some 16, .op (.bin .add (.tmp 8) (.val (.int .i64 1))), none⟩,
       ⟨some 8, .op (.mov (.tmp 16)), none⟩])))))))
    (.seq (.reg [
     ⟨some 17, .op (.mov (.tmp 3)), none⟩,
     ⟨some 2, .op (.mov (.tmp 17)), none⟩])
    .ret))))
theorem Tryd.cc24 : (Tryd.f24.body.bind (cCode Tryd.prog 18)) = some Tryd.ac24 := by kernel_rfl

def Tryd.ac25 : ACode :=
  (.seq (.reg [
     ⟨some 4, .op (.mov (.val (.int .i64 0))), none⟩])
    (.seq (.reg [
     ⟨some 7, .op (.mov (.tmp 0)), none⟩,
     ⟨some 8, .call 33 [.tmp 7], none⟩,
     ⟨some 5, .op (.mov (.tmp 8)), none⟩])
    (.seq (.reg [
     ⟨some 9, .op (.mov (.tmp 1)), none⟩,
     ⟨some 10, .call 33 [.tmp 9], none⟩,
     ⟨some 6, .op (.mov (.tmp 10)), none⟩])
    (.seq (.seq (.reg [
      ⟨some 11, .op (.mov (.tmp 5)), none⟩])
     (.cond (.tmp 11)
     (.seq (.seq (.reg [
        ⟨some 12, .op (.mov (.tmp 6)), none⟩])
       (.cond (.tmp 12)
       (.seq (.reg [
         ⟨some 4, .op (.mov (.val (.int .i64 0))), none⟩])
        .ret)
       .skip))
      (.seq (.reg [
       ⟨some 4, .op (.mov (.val (.int .i64 (-1)))), none⟩])
      .ret))
     .skip))
    (.seq (.seq (.reg [
      ⟨some 13, .op (.mov (.tmp 6)), none⟩])
     (.cond (.tmp 13)
     (.seq (.reg [
       ⟨some 4, .op (.mov (.val (.int .i64 1))), none⟩])
      .ret)
     .skip))
    (.seq (.seq (.reg [
      ⟨some 14, .op (.mov (.tmp 0)), none⟩,
      ⟨some 15, .op (.mov (.tmp 1)), none⟩,
      ⟨some 16, .op (.bin .lss (.tmp 14) (.tmp 15)), none⟩])
     (.cond (.tmp 16)
     (.seq (.reg [
       ⟨some 4, .op (.mov (.val (.int .i64 (-1)))), none⟩])
      .ret)
     .skip))
    (.seq (.seq (.reg [
      ⟨some 17, .op (.mov (.tmp 0)), none⟩,
      ⟨some 18, .op (.mov (.tmp 1)), none⟩,
      ⟨some 19, .op (.bin .gtr (.tmp 17) (.tmp 18)), none⟩])
     (.cond (.tmp 19)
     (.seq (.reg [
       ⟨some 4, .op (.mov (.val (.int .i64 1))), none⟩])
      .ret)
     .skip))
    (.seq (.reg [
     ⟨some 4, .op (.mov (.val (.int .i64 0))), none⟩])
    .ret))))))))
theorem Tryd.cc25 : (Tryd.f25.body.bind (cCode Tryd.prog 20)) = some Tryd.ac25 := by kernel_rfl

def Tryd.ac26 : ACode :=
  (.seq (.reg [
     ⟨some 8, .op (.mov (.val (.ls [] true))), none⟩])
    (.seq (.seq (.reg [
      ⟨some 12, .op (.mov (.tmp 3)), none⟩,
      ⟨some 13, .op (.bin .eql (.tmp 12) (.val (.int .i64 0))), none⟩])
     (.cond (.tmp 13)
     (.seq (.reg [
       ⟨some 8, .op (.mov (.val (.ls [] true))), none⟩])
      .ret)
     .skip))
    (.seq (.seq (.reg [
      ⟨some 14, .op (.mov (.tmp 1)), none⟩,
      ⟨some 15, .op (.bin .eql (.tmp 14) (.val (.str []))), none⟩])
     (.cond (.tmp 15)
     (.seq (.reg [
       ⟨some 16, .op (.mov (.tmp 0)), none⟩,
       ⟨some 17, .op (.mov (.tmp 3)), none⟩,
       ⟨some 18, .call 34 [.tmp 16, .tmp 17], none⟩,
       ⟨some 8, .op (.mov (.tmp 18)), none⟩])
      .ret)
     .skip))
    (.seq (.seq (.reg [
      ⟨some 19, .op (.mov (.tmp 3)), none⟩,
      ⟨some 20, .op (.bin .lss (.tmp 19) (.val (.int .i64 0))), none⟩])
     (.cond (.tmp 20)
     (.reg [
      ⟨some 21, .op (.mov (.tmp 0)), none⟩,
      ⟨some 22, .op (.mov (.tmp 1)), none⟩,
      ⟨some 23, .call 35 [.tmp 21, .tmp 22], none⟩,
      ⟨some 24, .op (.bin .add (.tmp 23) (.val (.int .i64 1))), none⟩,
      ⟨some 3, .op (.mov (.tmp 24)), none⟩])
     .skip))
    (.seq (.reg [
     ⟨some 25, .op (.mov (.tmp 3)), none⟩,
     ⟨some 26, .op (.mov (.tmp 0)), none⟩,
     ⟨some 27, .op (.lenS (.tmp 26)), none⟩,
     ⟨some 28, .op (.bin .add (.tmp 27) (.val (.int .i64 1))), none⟩,
     ⟨some 29, .op (.mm false (.tmp 25) (.tmp 28)), none⟩,
     ⟨some 3, .op (.mov (.tmp 29)), none⟩])
    (.seq (.reg [
     ⟨some 30, .op (.mov (.tmp 3)), none⟩,
     ⟨some 31, .op (.mslice 1 (.str []) (.tmp 30) (.tmp 30)), none⟩,
     ⟨some 9, .op (.mov (.tmp 31)), none⟩])
    (.seq (.reg [
     ⟨some 32, .op (.mov (.tmp 3)), none⟩,
     ⟨some 33, .op (.bin .sub (.tmp 32) (.val (.int .i64 1))), none⟩,
     ⟨some 3, .op (.mov (.tmp 33)), none⟩])
    (.seq (.reg [
     ⟨some 10, .op (.mov (.val (.int .i64 0))), none⟩])
    (.seq (.block 0 (.loop (.seq (.seq (.reg [
         ⟨some 34, .op (.mov (.tmp 10)), none⟩,
         ⟨some 35, .op (.mov (.tmp 3)), none⟩,
         ⟨some 36, .op (.bin .lss (.tmp 34) (.tmp 35)), none⟩])
        (.cond (.tmp 36)
        .skip
        (.exit 0)))
       (.block 1 (.seq (.reg [
         ⟨some 37, .op (.mov (.tmp 0)), none⟩,
         ⟨some 38, .op (.mov (.tmp 1)), none⟩,
         ⟨some 39, .call 36 [.tmp 37, .tmp 38], none⟩,
         ⟨some 11, .op (.mov (.tmp 39)), none⟩])
        (.seq (.seq (.reg [
          ⟨some 40, .op (.mov (.tmp 11)), none⟩,
          ⟨some 41, .op (.bin .lss (.tmp 40) (.val (.int .i64 0))), none⟩])
         (.cond (.tmp 41)
         (.exit 0)
         .skip))
        (.seq (.reg [
         ⟨some 42, .op (.mov (.tmp 9)), none⟩,
         ⟨some 43, .op (.mov (.tmp 10)), none⟩,
         ⟨some 44, .op (.mov (.tmp 0)), none⟩,
         ⟨some 45, .op (.mov (.tmp 11)), none⟩,
         ⟨some 46, .op (.mov (.tmp 2)), none⟩,
         ⟨some 47, .op (.bin .add (.tmp 45) (.tmp 46)), none⟩,
         ⟨some 48, .op (.slcS (.tmp 44) (none) (some (.tmp 47))), none⟩,
         ⟨some 49, .op (.ia 1 (.tmp 42) (.tmp 43)), none⟩,
         ⟨none, .op (.store 1 (.tmp 49) (.tmp 48)), none⟩])
        (.seq (.reg [
         ⟨some 50, .op (.mov (.tmp 0)), none⟩,
         ⟨some 51, .op (.mov (.tmp 11)), none⟩,
         ⟨some 52, .op (.mov (.tmp 1)), none⟩,
         ⟨some 53, .op (.lenS (.tmp 52)), none⟩,
         ⟨some 54, .op (.bin .add (.tmp 51) (.tmp 53)), none⟩,
         ⟨some 55, .op (.slcS (.tmp 50) (some (.tmp 54)) (none)), none⟩,
         ⟨some 0, .op (.mov (.tmp 55)), none⟩])
        (.reg [
        ⟨some 56, .op (.mov (.tmp 10)), none⟩,
        ⟨some 57, .op (.bin .add (.tmp 56) (.val (.int .i64 1))), none⟩,
        ⟨some 10, .op (.mov (.tmp 57)), none⟩])))))))))
    (.seq (.reg [
     ⟨some 58, .op (.mov (.tmp 9)), none⟩,
     ⟨some 59, .op (.mov (.tmp 10)), none⟩,
     ⟨some 60, .op (.mov (.tmp 0)), none⟩,
     ⟨some 61, .op (.ia 1 (.tmp 58) (.tmp 59)), none⟩,
     ⟨none, .op (.store 1 (.tmp 61) (.tmp 60)), none⟩])
    (.seq (.reg [
     ⟨some 62, .op (.mov (.tmp 9)), none⟩,
     ⟨some 63, .op (.mov (.tmp 10)), none⟩,
     ⟨some 64, .op (.bin .add (.tmp 63) (.val (.int .i64 1))), none⟩,
     ⟨some 65, .op (.slc 1 (.tmp 62) (none) (some (.tmp 64)) (none)), none⟩,
     ⟨some 8, .op (.mov (.tmp 65)), none⟩])
    .ret)))))))))))
theorem Tryd.cc26 : (Tryd.f26.body.bind (cCode Tryd.prog 66)) = some Tryd.ac26 := by kernel_rfl

def Tryd.ac27 : ACode :=
  (.seq (.reg [
     ⟨some 3, .op (.box (.tmp 0)), none⟩,
     ⟨some 4, .op (.box (.tmp 1)), none⟩,
     ⟨some 5, .op (.box (.tmp 2)), none⟩,
     ⟨some 6, .op (.mov (.val (.nilf))), none⟩])
    (.seq (.reg [
     ⟨some 7, .op (.mkF 37 [.tmp 4, .tmp 3, .tmp 5]), none⟩,
     ⟨some 6, .op (.mov (.tmp 7)), none⟩])
    .ret))
theorem Tryd.cc27 : (Tryd.f27.body.bind (cCode Tryd.prog 8)) = some Tryd.ac27 := by kernel_rfl

def Tryd.ac31 : ACode :=
  (.seq (.reg [
     ⟨some 10, .op (.mov (.tmp 1)), none⟩,
     ⟨some 11, .op (.bin .add (.tmp 10) (.val (.int .i64 1))), none⟩,
     ⟨some 8, .op (.mov (.tmp 11)), none⟩])
    (.block 0 (.loop (.seq (.seq (.reg [
        ⟨some 12, .op (.mov (.tmp 8)), none⟩,
        ⟨some 13, .op (.mov (.tmp 2)), none⟩,
        ⟨some 14, .op (.bin .lss (.tmp 12) (.tmp 13)), none⟩])
       (.cond (.tmp 14)
       .skip
       (.exit 0)))
      (.seq (.block 1 (.seq (.reg [
         ⟨some 17, .op (.mov (.tmp 8)), none⟩,
         ⟨some 9, .op (.mov (.tmp 17)), none⟩])
        (.block 2 (.loop (.seq (.seq (.regd [
            ⟨⟨some 18, .op (.mov (.tmp 9)), none⟩, false, []⟩,
            ⟨⟨some 19, .op (.mov (.tmp 1)), none⟩, false, []⟩,
            ⟨⟨some 20, .op (.bin .gtr (.tmp 18) (.tmp 19)), none⟩, false, []⟩,
            ⟨⟨some 21, .op (.mov (.tmp 20)), none⟩, false, []⟩,
            ⟨⟨some 22, .op (.mov (.tmp 3)), some (21, true)⟩, false, []⟩,
            ⟨⟨some 23, .op (.mov (.tmp 0)), some (21, true)⟩, false, []⟩,
            ⟨⟨some 24, .op (.mov (.tmp 9)), some (21, true)⟩, false, []⟩,
            ⟨⟨some 25, .op (.ia 4 (.tmp 23) (.tmp 24)), some (21, true)⟩, false, []⟩,
            ⟨⟨some 26, .op (.load 4 true (.tmp 25)), some (21, true)⟩, false, []⟩,
            ⟨⟨some 27, .op (.mov (.tmp 0)), some (21, true)⟩, false, [⟨some 25, .op (.ia 4 (.tmp 23) (.tmp 24)), some (21, true)⟩, ⟨some 26, .op (.load 4 true (.tmp 25)), some (21, true)⟩]⟩,
            ⟨⟨some 28, .op (.mov (.tmp 9)), some (21, true)⟩, false, [⟨some 25, .op (.ia 4 (.tmp 23) (.tmp 24)), some (21, true)⟩, ⟨some 26, .op (.load 4 true (.tmp 25)), some (21, true)⟩]⟩,
            ⟨⟨some 29, .op (.bin .sub (.tmp 28) (.val (.int .i64 1))), some (21, true)⟩, false, [⟨some 25, .op (.ia 4 (.tmp 23) (.tmp 24)), some (21, true)⟩, ⟨some 26, .op (.load 4 true (.tmp 25)), some (21, true)⟩]⟩,
            ⟨⟨some 30, .op (.ia 4 (.tmp 27) (.tmp 29)), some (21, true)⟩, false, [⟨some 25, .op (.ia 4 (.tmp 23) (.tmp 24)), some (21, true)⟩, ⟨some 26, .op (.load 4 true (.tmp 25)), some (21, true)⟩]⟩,
            ⟨⟨some 31, .op (.load 4 true (.tmp 30)), some (21, true)⟩, false, [⟨some 25, .op (.ia 4 (.tmp 23) (.tmp 24)), some (21, true)⟩, ⟨some 26, .op (.load 4 true (.tmp 25)), some (21, true)⟩]⟩,
            ⟨⟨some 32, .callv (.tmp 22) [.tmp 26, .tmp 31], some (21, true)⟩, true, []⟩,
            ⟨⟨some 33, .op (.bin .lss (.tmp 32) (.val (.int .i64 0))), some (21, true)⟩, false, []⟩,
            ⟨⟨some 34, .op (.pick (.tmp 21) (.tmp 33) (.val (.bool false))), none⟩, false, []⟩])
           (.cond (.tmp 34)
           .skip
           (.exit 2)))
          (.seq (.block 3 (.regd [
            ⟨⟨some 37, .op (.mov (.tmp 0)), none⟩, false, []⟩,
            ⟨⟨some 38, .op (.mov (.tmp 9)), none⟩, false, []⟩,
            ⟨⟨some 39, .op (.mov (.tmp 0)), none⟩, false, []⟩,
            ⟨⟨some 40, .op (.mov (.tmp 9)), none⟩, false, []⟩,
            ⟨⟨some 41, .op (.bin .sub (.tmp 40) (.val (.int .i64 1))), none⟩, false, []⟩,
            ⟨⟨some 42, .op (.mov (.tmp 0)), none⟩, false, []⟩,
            ⟨⟨some 43, .op (.mov (.tmp 9)), none⟩, false, []⟩,
            ⟨⟨some 44, .op (.bin .sub (.tmp 43) (.val (.int .i64 1))), none⟩, false, []⟩,
            ⟨⟨some 45, .op (.ia 4 (.tmp 42) (.tmp 44)), none⟩, false, []⟩,
            ⟨⟨some 46, .op (.load 4 true (.tmp 45)), none⟩, false, []⟩,
            ⟨⟨some 47, .op (.mov (.tmp 0)), none⟩, false, [⟨some 45, .op (.ia 4 (.tmp 42) (.tmp 44)), none⟩, ⟨some 46, .op (.load 4 true (.tmp 45)), none⟩]⟩,
            ⟨⟨some 48, .op (.mov (.tmp 9)), none⟩, false, [⟨some 45, .op (.ia 4 (.tmp 42) (.tmp 44)), none⟩, ⟨some 46, .op (.load 4 true (.tmp 45)), none⟩]⟩,
            ⟨⟨some 49, .op (.ia 4 (.tmp 47) (.tmp 48)), none⟩, false, [⟨some 45, .op (.ia 4 (.tmp 42) (.tmp 44)), none⟩, ⟨some 46, .op (.load 4 true (.tmp 45)), none⟩]⟩,
            ⟨⟨some 50, .op (.load 4 true (.tmp 49)), none⟩, false, [⟨some 45, .op (.ia 4 (.tmp 42) (.tmp 44)), none⟩, ⟨some 46, .op (.load 4 true (.tmp 45)), none⟩]⟩,
            ⟨⟨some 51, .op (.ia 4 (.tmp 37) (.tmp 38)), none⟩, false, []⟩,
            ⟨⟨none, .op (.store 4 (.tmp 51) (.tmp 46)), none⟩, true, []⟩,
            ⟨⟨some 52, .op (.ia 4 (.tmp 39) (.tmp 41)), none⟩, false, []⟩,
            ⟨⟨none, .op (.store 4 (.tmp 52) (.tmp 50)), none⟩, true, []⟩]))
          (.reg [
          ⟨some 35, .op (.mov (.tmp 9)), none⟩,
          ⟨some 36, .op (.bin .sub (.tmp 35) (.val (.int .i64 1))), none⟩,
          ⟨some 9, .op (.mov (.tmp 36)), none⟩])))))))
      (.reg [
      ⟨some 15, .op (.mov (.tmp 8)), none⟩,
      ⟨some 16, .op (.bin .add (.tmp 15) (.val (.int .i64 1))), none⟩,
      ⟨some 8, .op (.mov (.tmp 16)), none⟩]))))))
theorem Tryd.cc31 : (Tryd.f31.body.bind (cCode Tryd.prog 53)) = some Tryd.ac31 := by kernel_rfl

def Tryd.ac32 : ACode :=
  (.seq (.seq (.reg [
      ⟨some 25, .op (.mov (.tmp 2)), none⟩,
      ⟨some 26, .op (.mov (.tmp 1)), none⟩,
      ⟨some 27, .op (.bin .sub (.tmp 25) (.tmp 26)), none⟩,
      ⟨some 28, .op (.bin .eql (.tmp 27) (.val (.int .i64 1))), none⟩])
     (.cond (.tmp 28)
     (.seq (.reg [
       ⟨some 29, .op (.mov (.tmp 2)), none⟩,
       ⟨some 10, .op (.mov (.tmp 29)), none⟩])
      (.seq (.reg [
       ⟨some 30, .op (.mov (.tmp 3)), none⟩,
       ⟨some 11, .op (.mov (.tmp 30)), none⟩])
      (.seq (.block 0 (.loop (.seq (.seq (.reg [
           ⟨some 31, .op (.mov (.tmp 10)), none⟩,
           ⟨some 32, .op (.mov (.tmp 11)), none⟩,
           ⟨some 33, .op (.bin .lss (.tmp 31) (.tmp 32)), none⟩])
          (.cond (.tmp 33)
          .skip
          (.exit 0)))
         (.block 1 (.seq (.reg [
           ⟨some 34, .op (.mov (.tmp 10)), none⟩,
           ⟨some 35, .op (.mov (.tmp 11)), none⟩,
           ⟨some 36, .op (.bin .add (.tmp 34) (.tmp 35)), none⟩,
           ⟨some 37, .op (.conv .u64 (.tmp 36)), none⟩,
           ⟨some 38, .op (.bin .shr (.tmp 37) (.val (.int .u64 1))), none⟩,
           ⟨some 39, .op (.conv .i64 (.tmp 38)), none⟩,
           ⟨some 12, .op (.mov (.tmp 39)), none⟩])
          (.seq (.regd [
           ⟨⟨some 40, .op (.mov (.tmp 4)), none⟩, false, []⟩,
           ⟨⟨some 41, .op (.mov (.tmp 0)), none⟩, false, []⟩,
           ⟨⟨some 42, .op (.mov (.tmp 12)), none⟩, false, []⟩,
           ⟨⟨some 43, .op (.ia 4 (.tmp 41) (.tmp 42)), none⟩, false, []⟩,
           ⟨⟨some 44, .op (.load 4 true (.tmp 43)), none⟩, false, []⟩,
           ⟨⟨some 45, .op (.mov (.tmp 0)), none⟩, false, [⟨some 43, .op (.ia 4 (.tmp 41) (.tmp 42)), none⟩, ⟨some 44, .op (.load 4 true (.tmp 43)), none⟩]⟩,
           ⟨⟨some 46, .op (.mov (.tmp 1)), none⟩, false, [⟨some 43, .op (.ia 4 (.tmp 41) (.tmp 42)), none⟩, ⟨some 44, .op (.load 4 true (.tmp 43)), none⟩]⟩,
           ⟨⟨some 47, .op (.ia 4 (.tmp 45) (.tmp 46)), none⟩, false, [⟨some 43, .op (.ia 4 (.tmp 41) (.tmp 42)), none⟩, ⟨some 44, .op (.load 4 true (.tmp 43)), none⟩]⟩,
           ⟨⟨some 48, .op (.load 4 true (.tmp 47)), none⟩, false, [⟨some 43, .op (.ia 4 (.tmp 41) (.tmp 42)), none⟩, ⟨some 44, .op (.load 4 true (.tmp 43)), none⟩]⟩,
           ⟨⟨some 49, .callv (.tmp 40) [.tmp 44, .tmp 48], none⟩, true, []⟩,
           ⟨⟨some 50, .op (.bin .lss (.tmp 49) (.val (.int .i64 0))), none⟩, false, []⟩])
          (.cond (.tmp 50)
          (.reg [
           ⟨some 51, .op (.mov (.tmp 12)), none⟩,
           ⟨some 52, .op (.bin .add (.tmp 51) (.val (.int .i64 1))), none⟩,
           ⟨some 10, .op (.mov (.tmp 52)), none⟩])
          (.reg [
           ⟨some 53, .op (.mov (.tmp 12)), none⟩,
           ⟨some 11, .op (.mov (.tmp 53)), none⟩]))))))))
      (.seq (.seq (.reg [
        ⟨some 54, .op (.mov (.tmp 1)), none⟩,
        ⟨some 13, .op (.mov (.tmp 54)), none⟩])
       (.block 2 (.loop (.seq (.seq (.reg [
           ⟨some 55, .op (.mov (.tmp 13)), none⟩,
           ⟨some 56, .op (.mov (.tmp 10)), none⟩,
           ⟨some 57, .op (.bin .sub (.tmp 56) (.val (.int .i64 1))), none⟩,
           ⟨some 58, .op (.bin .lss (.tmp 55) (.tmp 57)), none⟩])
          (.cond (.tmp 58)
          .skip
          (.exit 2)))
         (.seq (.block 3 (.regd [
           ⟨⟨some 61, .op (.mov (.tmp 0)), none⟩, false, []⟩,
           ⟨⟨some 62, .op (.mov (.tmp 13)), none⟩, false, []⟩,
           ⟨⟨some 63, .op (.mov (.tmp 0)), none⟩, false, []⟩,
           ⟨⟨some 64, .op (.mov (.tmp 13)), none⟩, false, []⟩,
           ⟨⟨some 65, .op (.bin .add (.tmp 64) (.val (.int .i64 1))), none⟩, false, []⟩,
           ⟨⟨some 66, .op (.mov (.tmp 0)), none⟩, false, []⟩,
           ⟨⟨some 67, .op (.mov (.tmp 13)), none⟩, false, []⟩,
           ⟨⟨some 68, .op (.bin .add (.tmp 67) (.val (.int .i64 1))), none⟩, false, []⟩,
           ⟨⟨some 69, .op (.ia 4 (.tmp 66) (.tmp 68)), none⟩, false, []⟩,
           ⟨⟨some 70, .op (.load 4 true (.tmp 69)), none⟩, false, []⟩,
           ⟨⟨some 71, .op (.mov (.tmp 0)), none⟩, false, [⟨some 69, .op (.ia 4 (.tmp 66) (.tmp 68)), none⟩, ⟨some 70, .op (.load 4 true (.tmp 69)), none⟩]⟩,
           ⟨⟨some 72, .op (.mov (.tmp 13)), none⟩, false, [⟨some 69, .op (.ia 4 (.tmp 66) (.tmp 68)), none⟩, ⟨some 70, .op (.load 4 true (.tmp 69)), none⟩]⟩,
           ⟨⟨some 73, .op (.ia 4 (.tmp 71) (.tmp 72)), none⟩, false, [⟨some 69, .op (.ia 4 (.tmp 66) (.tmp 68)), none⟩, ⟨some 70, .op (.load 4 true (.tmp 69)), none⟩]⟩,
           ⟨⟨some 74, .op (.load 4 true (.tmp 73)), none⟩, false, [⟨some 69, .op (.ia 4 (.tmp 66) (.tmp 68)), none⟩, ⟨some 70, .op (.load 4 true (.tmp 69)), none⟩]⟩,
           ⟨⟨some 75, .op (.ia 4 (.tmp 61) (.tmp 62)), none⟩, false, []⟩,
           ⟨⟨none, .op (.store 4 (.tmp 75) (.tmp 70)), none⟩, true, []⟩,
           ⟨⟨some 76, .op (.ia 4 (.tmp 63) (.tmp 65)), none⟩, false, []⟩,
           ⟨⟨none, .op (.store 4 (.tmp 76) (.tmp 74)), none⟩, true, []⟩]))
         (.reg [
         ⟨some 59, .op (.mov (.tmp 13)), none⟩,
         ⟨some 60, .op (.bin .add (.tmp 59) (.val (.int .i64 1))), none⟩,
         ⟨some 13, .op (.mov (.tmp 60)), none⟩]))))))
      .ret))))
     .skip))
    (.seq (.seq (.reg [
      ⟨some 77, .op (.mov (.tmp 3)), none⟩,
      ⟨some 78, .op (.mov (.tmp 2)), none⟩,
      ⟨some 79, .op (.bin .sub (.tmp 77) (.tmp 78)), none⟩,
      ⟨some 80, .op (.bin .eql (.tmp 79) (.val (.int .i64 1))), none⟩])
     (.cond (.tmp 80)
     (.seq (.reg [
       ⟨some 81, .op (.mov (.tmp 1)), none⟩,
       ⟨some 14, .op (.mov (.tmp 81)), none⟩])
      (.seq (.reg [
       ⟨some 82, .op (.mov (.tmp 2)), none⟩,
       ⟨some 15, .op (.mov (.tmp 82)), none⟩])
      (.seq (.block 4 (.loop (.seq (.seq (.reg [
           ⟨some 83, .op (.mov (.tmp 14)), none⟩,
           ⟨some 84, .op (.mov (.tmp 15)), none⟩,
           ⟨some 85, .op (.bin .lss (.tmp 83) (.tmp 84)), none⟩])
          (.cond (.tmp 85)
          .skip
          (.exit 4)))
         (.block 5 (.seq (.reg [
           ⟨some 86, .op (.mov (.tmp 14)), none⟩,
           ⟨some 87, .op (.mov (.tmp 15)), none⟩,
           ⟨some 88, .op (.bin .add (.tmp 86) (.tmp 87)), none⟩,
           ⟨some 89, .op (.conv .u64 (.tmp 88)), none⟩,
           ⟨some 90, .op (.bin .shr (.tmp 89) (.val (.int .u64 1))), none⟩,
           ⟨some 91, .op (.conv .i64 (.tmp 90)), none⟩,
           ⟨some 16, .op (.mov (.tmp 91)), none⟩])
          (.seq (.regd [
           ⟨⟨some 92, .op (.mov (.tmp 4)), none⟩, false, []⟩,
           ⟨⟨some 93, .op (.mov (.tmp 0)), none⟩, false, []⟩,
           ⟨⟨some 94, .op (.mov (.tmp 2)), none⟩, false, []⟩,
           ⟨⟨some 95, .op (.ia 4 (.tmp 93) (.tmp 94)), none⟩, false, []⟩,
           ⟨⟨some 96, .op (.load 4 true (.tmp 95)), none⟩, false, []⟩,
           ⟨⟨some 97, .op (.mov (.tmp 0)), none⟩, false, [⟨some 95, .op (.ia 4 (.tmp 93) (.tmp 94)), none⟩, ⟨some 96, .op (.load 4 true (.tmp 95)), none⟩]⟩,
           ⟨⟨some 98, .op (.mov (.tmp 16)), none⟩, false, [⟨some 95, .op (.ia 4 (.tmp 93) (.tmp 94)), none⟩, ⟨some 96, .op (.load 4 true (.tmp 95)), none⟩]⟩,
           ⟨⟨some 99, .op (.ia 4 (.tmp 97) (.tmp 98)), none⟩, false, [⟨some 95, .op (.ia 4 (.tmp 93) (.tmp 94)), none⟩, ⟨some 96, .op (.load 4 true (.tmp 95)), none⟩]⟩,
           ⟨⟨some 100, .op (.load 4 true (.tmp 99)), none⟩, false, [⟨some 95, .op (.ia 4 (.tmp 93) (.tmp 94)), none⟩, ⟨some 96, .op (.load 4 true (.tmp 95)), none⟩]⟩,
           ⟨⟨some 101, .callv (.tmp 92) [.tmp 96, .tmp 100], none⟩, true, []⟩,
           ⟨⟨some 102, .op (.bin .lss (.tmp 101) (.val (.int .i64 0))), none⟩, false, []⟩,
           ⟨⟨some 103, .op (.un .not (.tmp 102)), none⟩, false, []⟩])
          (.cond (.tmp 103)
          (.reg [
           ⟨some 104, .op (.mov (.tmp 16)), none⟩,
           ⟨some 105, .op (.bin .add (.tmp 104) (.val (.int .i64 1))), none⟩,
           ⟨some 14, .op (.mov (.tmp 105)), none⟩])
          (.reg [
           ⟨some 106, .op (.mov (.tmp 16)), none⟩,
           ⟨some 15, .op (.mov (.tmp 106)), none⟩]))))))))
      (.seq (.seq (.reg [
        ⟨some 107, .op (.mov (.tmp 2)), none⟩,
        ⟨some 17, .op (.mov (.tmp 107)), none⟩])
       (.block 6 (.loop (.seq (.seq (.reg [
           ⟨some 108, .op (.mov (.tmp 17)), none⟩,
           ⟨some 109, .op (.mov (.tmp 14)), none⟩,
           ⟨some 110, .op (.bin .gtr (.tmp 108) (.tmp 109)), none⟩])
          (.cond (.tmp 110)
          .skip
          (.exit 6)))
         (.seq (.block 7 (.regd [
           ⟨⟨some 113, .op (.mov (.tmp 0)), none⟩, false, []⟩,
           ⟨⟨some 114, .op (.mov (.tmp 17)), none⟩, false, []⟩,
           ⟨⟨some 115, .op (.mov (.tmp 0)), none⟩, false, []⟩,
           ⟨⟨some 116, .op (.mov (.tmp 17)), none⟩, false, []⟩,
           ⟨⟨some 117, .op (.bin .sub (.tmp 116) (.val (.int .i64 1))), none⟩, false, []⟩,
           ⟨⟨some 118, .op (.mov (.tmp 0)), none⟩, false, []⟩,
           ⟨⟨some 119, .op (.mov (.tmp 17)), none⟩, false, []⟩,
           ⟨⟨some 120, .op (.bin .sub (.tmp 119) (.val (.int .i64 1))), none⟩, false, []⟩,
           ⟨⟨some 121, .op (.ia 4 (.tmp 118) (.tmp 120)), none⟩, false, []⟩,
           ⟨⟨some 122, .op (.load 4 true (.tmp 121)), none⟩, false, []⟩,
           ⟨⟨some 123, .op (.mov (.tmp 0)), none⟩, false, [⟨some 121, .op (.ia 4 (.tmp 118) (.tmp 120)), none⟩, ⟨some 122, .op (.load 4 true (.tmp 121)), none⟩]⟩,
           ⟨⟨some 124, .op (.mov (.tmp 17)), none⟩, false, [⟨some 121, .op (.ia 4 (.tmp 118) (.tmp 120)), none⟩, ⟨some 122, .op (.load 4 true (.tmp 121)), none⟩]⟩,
           ⟨⟨some 125, .op (.ia 4 (.tmp 123) (.tmp 124)), none⟩, false, [⟨some 121, .op (.ia 4 (.tmp 118) (.tmp 120)), none⟩, ⟨some 122, .op (.load 4 true (.tmp 121)), none⟩]⟩,
           ⟨⟨some 126, .op (.load 4 true (.tmp 125)), none⟩, false, [⟨some 121, .op (.ia 4 (.tmp 118) (.tmp 120)), none⟩, ⟨some 122, .op (.load 4 true (.tmp 121)), none⟩]⟩,
           ⟨⟨some 127, .op (.ia 4 (.tmp 113) (.tmp 114)), none⟩, false, []⟩,
           ⟨⟨none, .op (.store 4 (.tmp 127) (.tmp 122)), none⟩, true, []⟩,
           ⟨⟨some 128, .op (.ia 4 (.tmp 115) (.tmp 117)), none⟩, false, []⟩,
           ⟨⟨none, .op (.store 4 (.tmp 128) (.tmp 126)), none⟩, true, []⟩]))
         (.reg [
         ⟨some 111, .op (.mov (.tmp 17)), none⟩,
         ⟨some 112, .op (.bin .sub (.tmp 111) (.val (.int .i64 1))), none⟩,
         ⟨some 17, .op (.mov (.tmp 112)), none⟩]))))))
      .ret))))
     .skip))
    (.seq (.reg [
     ⟨some 129, .op (.mov (.tmp 1)), none⟩,
     ⟨some 130, .op (.mov (.tmp 3)), none⟩,
     ⟨some 131, .op (.bin .add (.tmp 129) (.tmp 130)), none⟩,
     ⟨some 132, .op (.conv .u64 (.tmp 131)), none⟩,
     ⟨some 133, .op (.bin .shr (.tmp 132) (.val (.int .u64 1))), none⟩,
     ⟨some 134, .op (.conv .i64 (.tmp 133)), none⟩,
     ⟨some 18, .op (.mov (.tmp 134)), none⟩])
    (.seq (.reg [
     ⟨some 135, .op (.mov (.tmp 18)), none⟩,
     ⟨some 136, .op (.mov (.tmp 2)), none⟩,
     ⟨some 137, .op (.bin .add (.tmp 135) (.tmp 136)), none⟩,
     ⟨some 19, .op (.mov (.tmp 137)), none⟩])
    (.seq (.reg [
     ⟨some 20, .op (.mov (.val (.int .i64 0))), none⟩,
     ⟨some 21, .op (.mov (.val (.int .i64 0))), none⟩])
    (.seq (.seq (.reg [
      ⟨some 138, .op (.mov (.tmp 2)), none⟩,
      ⟨some 139, .op (.mov (.tmp 18)), none⟩,
      ⟨some 140, .op (.bin .gtr (.tmp 138) (.tmp 139)), none⟩])
     (.cond (.tmp 140)
     (.seq (.reg [
       ⟨some 141, .op (.mov (.tmp 19)), none⟩,
       ⟨some 142, .op (.mov (.tmp 3)), none⟩,
       ⟨some 143, .op (.bin .sub (.tmp 141) (.tmp 142)), none⟩,
       ⟨some 20, .op (.mov (.tmp 143)), none⟩])
      (.reg [
      ⟨some 144, .op (.mov (.tmp 18)), none⟩,
      ⟨some 21, .op (.mov (.tmp 144)), none⟩]))
     (.seq (.reg [
       ⟨some 145, .op (.mov (.tmp 1)), none⟩,
       ⟨some 20, .op (.mov (.tmp 145)), none⟩])
      (.reg [
      ⟨some 146, .op (.mov (.tmp 2)), none⟩,
      ⟨some 21, .op (.mov (.tmp 146)), none⟩]))))
    (.seq (.reg [
     ⟨some 147, .op (.mov (.tmp 19)), none⟩,
     ⟨some 148, .op (.bin .sub (.tmp 147) (.val (.int .i64 1))), none⟩,
     ⟨some 22, .op (.mov (.tmp 148)), none⟩])
    (.seq (.block 8 (.loop (.seq (.seq (.reg [
         ⟨some 149, .op (.mov (.tmp 20)), none⟩,
         ⟨some 150, .op (.mov (.tmp 21)), none⟩,
         ⟨some 151, .op (.bin .lss (.tmp 149) (.tmp 150)), none⟩])
        (.cond (.tmp 151)
        .skip
        (.exit 8)))
       (.block 9 (.seq (.reg [
         ⟨some 152, .op (.mov (.tmp 20)), none⟩,
         ⟨some 153, .op (.mov (.tmp 21)), none⟩,
         ⟨some 154, .op (.bin .add (.tmp 152) (.tmp 153)), none⟩,
         ⟨some 155, .op (.conv .u64 (.tmp 154)), none⟩,
         ⟨some 156, .op (.bin .shr (.tmp 155) (.val (.int .u64 1))), none⟩,
         ⟨some 157, .op (.conv .i64 (.tmp 156)), none⟩,
         ⟨some 23, .op (.mov (.tmp 157)), none⟩])
        (.seq (.regd [
         ⟨⟨some 158, .op (.mov (.tmp 4)), none⟩, false, []⟩,
         ⟨⟨some 159, .op (.mov (.tmp 0)), none⟩, false, []⟩,
         ⟨⟨some 160, .op (.mov (.tmp 22)), none⟩, false, []⟩,
         ⟨⟨some 161, .op (.mov (.tmp 23)), none⟩, false, []⟩,
         ⟨⟨some 162, .op (.bin .sub (.tmp 160) (.tmp 161)), none⟩, false, []⟩,
         ⟨⟨some 163, .op (.ia 4 (.tmp 159) (.tmp 162)), none⟩, false, []⟩,
         ⟨⟨some 164, .op (.load 4 true (.tmp 163)), none⟩, false, []⟩,
         ⟨⟨some 165, .op (.mov (.tmp 0)), none⟩, false, [⟨some 163, .op (.ia 4 (.tmp 159) (.tmp 162)), none⟩, ⟨some 164, .op (.load 4 true (.tmp 163)), none⟩]⟩,
         ⟨⟨some 166, .op (.mov (.tmp 23)), none⟩, false, [⟨some 163, .op (.ia 4 (.tmp 159) (.tmp 162)), none⟩, ⟨some 164, .op (.load 4 true (.tmp 163)), none⟩]⟩,
         ⟨⟨some 167, .op (.ia 4 (.tmp 165) (.tmp 166)), none⟩, false, [⟨some 163, .op (.ia 4 (.tmp 159) (.tmp 162)), none⟩, ⟨some 164, .op (.load 4 true (.tmp 163)), none⟩]⟩,
         ⟨⟨some 168, .op (.load 4 true (.tmp 167)), none⟩, false, [⟨some 163, .op (.ia 4 (.tmp 159) (.tmp 162)), none⟩, ⟨some 164, .op (.load 4 true (.tmp 163)), none⟩]⟩,
         ⟨⟨some 169, .callv (.tmp 158) [.tmp 164, .tmp 168], none⟩, true, []⟩,
         ⟨⟨some 170, .op (.bin .lss (.tmp 169) (.val (.int .i64 0))), none⟩, false, []⟩,
         ⟨⟨some 171, .op (.un .not (.tmp 170)), none⟩, false, []⟩])
        (.cond (.tmp 171)
        (.reg [
         ⟨some 172, .op (.mov (.tmp 23)), none⟩,
         ⟨some 173, .op (.bin .add (.tmp 172) (.val (.int .i64 1))), none⟩,
         ⟨some 20, .op (.mov (.tmp 173)), none⟩])
        (.reg [
         ⟨some 174, .op (.mov (.tmp 23)), none⟩,
         ⟨some 21, .op (.mov (.tmp 174)), none⟩]))))))))
    (.seq (.reg [
     ⟨some 175, .op (.mov (.tmp 19)), none⟩,
     ⟨some 176, .op (.mov (.tmp 20)), none⟩,
     ⟨some 177, .op (.bin .sub (.tmp 175) (.tmp 176)), none⟩,
     ⟨some 24, .op (.mov (.tmp 177)), none⟩])
    (.seq (.seq (.reg [
      ⟨some 178, .op (.mov (.tmp 20)), none⟩,
      ⟨some 179, .op (.mov (.tmp 2)), none⟩,
      ⟨some 180, .op (.bin .lss (.tmp 178) (.tmp 179)), none⟩,
      ⟨some 181, .op (.mov (.tmp 180)), none⟩,
      ⟨some 182, .op (.mov (.tmp 2)), some (181, true)⟩,
      ⟨some 183, .op (.mov (.tmp 24)), some (181, true)⟩,
      ⟨some 184, .op (.bin .lss (.tmp 182) (.tmp 183)), some (181, true)⟩,
      ⟨some 185, .op (.pick (.tmp 181) (.tmp 184) (.val (.bool false))), none⟩])
     (.cond (.tmp 185)
     (.reg [
      ⟨some 186, .op (.mov (.tmp 0)), none⟩,
      ⟨some 187, .op (.mov (.tmp 20)), none⟩,
      ⟨some 188, .op (.mov (.tmp 2)), none⟩,
      ⟨some 189, .op (.mov (.tmp 24)), none⟩,
      ⟨some 190, .op (.mov (.tmp 4)), none⟩,
      ⟨some 191, .call 41 [.tmp 186, .tmp 187, .tmp 188, .tmp 189, .tmp 190], none⟩])
     .skip))
    (.seq (.seq (.reg [
      ⟨some 192, .op (.mov (.tmp 1)), none⟩,
      ⟨some 193, .op (.mov (.tmp 20)), none⟩,
      ⟨some 194, .op (.bin .lss (.tmp 192) (.tmp 193)), none⟩,
      ⟨some 195, .op (.mov (.tmp 194)), none⟩,
      ⟨some 196, .op (.mov (.tmp 20)), some (195, true)⟩,
      ⟨some 197, .op (.mov (.tmp 18)), some (195, true)⟩,
      ⟨some 198, .op (.bin .lss (.tmp 196) (.tmp 197)), some (195, true)⟩,
      ⟨some 199, .op (.pick (.tmp 195) (.tmp 198) (.val (.bool false))), none⟩])
     (.cond (.tmp 199)
     (.reg [
      ⟨some 200, .op (.mov (.tmp 0)), none⟩,
      ⟨some 201, .op (.mov (.tmp 1)), none⟩,
      ⟨some 202, .op (.mov (.tmp 20)), none⟩,
      ⟨some 203, .op (.mov (.tmp 18)), none⟩,
      ⟨some 204, .op (.mov (.tmp 4)), none⟩,
      ⟨some 205, .call 32 [.tmp 200, .tmp 201, .tmp 202, .tmp 203, .tmp 204], none⟩])
     .skip))
    (.seq (.reg [
     ⟨some 206, .op (.mov (.tmp 18)), none⟩,
     ⟨some 207, .op (.mov (.tmp 24)), none⟩,
     ⟨some 208, .op (.bin .lss (.tmp 206) (.tmp 207)), none⟩,
     ⟨some 209, .op (.mov (.tmp 208)), none⟩,
     ⟨some 210, .op (.mov (.tmp 24)), some (209, true)⟩,
     ⟨some 211, .op (.mov (.tmp 3)), some (209, true)⟩,
     ⟨some 212, .op (.bin .lss (.tmp 210) (.tmp 211)), some (209, true)⟩,
     ⟨some 213, .op (.pick (.tmp 209) (.tmp 212) (.val (.bool false))), none⟩])
    (.cond (.tmp 213)
    (.reg [
     ⟨some 214, .op (.mov (.tmp 0)), none⟩,
     ⟨some 215, .op (.mov (.tmp 18)), none⟩,
     ⟨some 216, .op (.mov (.tmp 24)), none⟩,
     ⟨some 217, .op (.mov (.tmp 3)), none⟩,
     ⟨some 218, .op (.mov (.tmp 4)), none⟩,
     ⟨some 219, .call 32 [.tmp 214, .tmp 215, .tmp 216, .tmp 217, .tmp 218], none⟩])
    .skip)))))))))))))
theorem Tryd.cc32 : (Tryd.f32.body.bind (cCode Tryd.prog 220)) = some Tryd.ac32 := by kernel_rfl

def Tryd.ac33 : ACode :=
  (.seq (.reg [
     ⟨some 2, .op (.mov (.val (.bool false))), none⟩])
    (.seq (.reg [
     ⟨some 3, .op (.mov (.tmp 0)), none⟩,
     ⟨some 4, .op (.mov (.tmp 0)), none⟩,
     ⟨some 5, .op (.bin .neq (.tmp 3) (.tmp 4)), none⟩,
     ⟨some 2, .op (.mov (.tmp 5)), none⟩])
    .ret))
theorem Tryd.cc33 : (Tryd.f33.body.bind (cCode Tryd.prog 6)) = some Tryd.ac33 := by kernel_rfl

def Tryd.ac37 : ACode :=
  (.seq (.seq (.reg [
      ⟨some 9, .op (.load 1 false (.tmp 1)), none⟩,
      ⟨some 10, .op (.lenS (.tmp 9)), none⟩,
      ⟨some 11, .op (.bin .eql (.tmp 10) (.val (.int .i64 0))), none⟩])
     (.cond (.tmp 11)
     (.seq (.block 0 (.loop (.seq (.seq (.reg [
           ⟨some 12, .op (.load 1 false (.tmp 2)), none⟩,
           ⟨some 13, .op (.lenS (.tmp 12)), none⟩,
           ⟨some 14, .op (.bin .gtr (.tmp 13) (.val (.int .i64 0))), none⟩])
          (.cond (.tmp 14)
          .skip
          (.exit 0)))
         (.block 1 (.seq (.reg [
           ⟨some 16, .op (.load 1 false (.tmp 2)), none⟩,
           ⟨some 17, .call 38 [.tmp 16], none⟩,
           ⟨some 15, .op (.mov (.tmp 17)), none⟩,
           ⟨some 18, .op (.ext (.tmp 15) 0), none⟩,
           ⟨some 19, .op (.ext (.tmp 15) 1), none⟩,
           ⟨some 5, .op (.mov (.tmp 18)), none⟩,
           ⟨some 6, .op (.mov (.tmp 19)), none⟩])
          (.seq (.seq (.reg [
            ⟨some 20, .op (.mov (.tmp 0)), none⟩,
            ⟨some 21, .op (.load 1 false (.tmp 2)), none⟩,
            ⟨some 22, .op (.mov (.tmp 6)), none⟩,
            ⟨some 23, .op (.slcS (.tmp 21) (none) (some (.tmp 22))), none⟩,
            ⟨some 24, .callv (.tmp 20) [.tmp 23], none⟩,
            ⟨some 25, .op (.un .not (.tmp 24)), none⟩])
           (.cond (.tmp 25)
           .ret
           .skip))
          (.reg [
          ⟨some 26, .op (.load 1 false (.tmp 2)), none⟩,
          ⟨some 27, .op (.mov (.tmp 6)), none⟩,
          ⟨some 28, .op (.slcS (.tmp 26) (some (.tmp 27)) (none)), none⟩,
          ⟨none, .op (.store 1 (.tmp 2) (.tmp 28)), none⟩])))))))
      .ret)
     .skip))
    (.seq (.block 2 (.loop (.block 3 (.seq (.reg [
         ⟨some 29, .op (.load 1 false (.tmp 2)), none⟩,
         ⟨some 30, .op (.load 1 false (.tmp 1)), none⟩,
         ⟨some 31, .call 36 [.tmp 29, .tmp 30], none⟩,
         ⟨some 7, .op (.mov (.tmp 31)), none⟩])
        (.seq (.seq (.reg [
          ⟨some 32, .op (.mov (.tmp 7)), none⟩,
          ⟨some 33, .op (.bin .lss (.tmp 32) (.val (.int .i64 0))), none⟩])
         (.cond (.tmp 33)
         (.exit 2)
         .skip))
        (.seq (.reg [
         ⟨some 34, .op (.load 1 false (.tmp 2)), none⟩,
         ⟨some 35, .op (.mov (.tmp 7)), none⟩,
         ⟨some 36, .op (.load 1 false (.tmp 3)), none⟩,
         ⟨some 37, .op (.bin .add (.tmp 35) (.tmp 36)), none⟩,
         ⟨some 38, .op (.slcS (.tmp 34) (none) (some (.tmp 37))), none⟩,
         ⟨some 8, .op (.mov (.tmp 38)), none⟩])
        (.seq (.seq (.reg [
          ⟨some 39, .op (.mov (.tmp 0)), none⟩,
          ⟨some 40, .op (.mov (.tmp 8)), none⟩,
          ⟨some 41, .callv (.tmp 39) [.tmp 40], none⟩,
          ⟨some 42, .op (.un .not (.tmp 41)), none⟩])
         (.cond (.tmp 42)
         .ret
         .skip))
        (.reg [
        ⟨some 43, .op (.load 1 false (.tmp 2)), none⟩,
        ⟨some 44, .op (.mov (.tmp 7)), none⟩,
        ⟨some 45, .op (.load 1 false (.tmp 1)), none⟩,
        ⟨some 46, .op (.lenS (.tmp 45)), none⟩,
        ⟨some 47, .op (.bin .add (.tmp 44) (.tmp 46)), none⟩,
        ⟨some 48, .op (.slcS (.tmp 43) (some (.tmp 47)) (none)), none⟩,
        ⟨none, .op (.store 1 (.tmp 2) (.tmp 48)), none⟩]))))))))
    (.reg [
    ⟨some 49, .op (.mov (.tmp 0)), none⟩,
    ⟨some 50, .op (.load 1 false (.tmp 2)), none⟩,
    ⟨some 51, .callv (.tmp 49) [.tmp 50], none⟩])))
theorem Tryd.cc37 : (Tryd.f37.body.bind (cCode Tryd.prog 52)) = some Tryd.ac37 := by kernel_rfl

def Tryd.ac41 : ACode :=
  (.seq (.reg [
     ⟨some 12, .op (.mov (.tmp 2)), none⟩,
     ⟨some 13, .op (.mov (.tmp 1)), none⟩,
     ⟨some 14, .op (.bin .sub (.tmp 12) (.tmp 13)), none⟩,
     ⟨some 10, .op (.mov (.tmp 14)), none⟩])
    (.seq (.reg [
     ⟨some 15, .op (.mov (.tmp 3)), none⟩,
     ⟨some 16, .op (.mov (.tmp 2)), none⟩,
     ⟨some 17, .op (.bin .sub (.tmp 15) (.tmp 16)), none⟩,
     ⟨some 11, .op (.mov (.tmp 17)), none⟩])
    (.seq (.block 0 (.loop (.seq (.seq (.reg [
         ⟨some 18, .op (.mov (.tmp 10)), none⟩,
         ⟨some 19, .op (.mov (.tmp 11)), none⟩,
         ⟨some 20, .op (.bin .neq (.tmp 18) (.tmp 19)), none⟩])
        (.cond (.tmp 20)
        .skip
        (.exit 0)))
       (.block 1 (.seq (.reg [
         ⟨some 21, .op (.mov (.tmp 10)), none⟩,
         ⟨some 22, .op (.mov (.tmp 11)), none⟩,
         ⟨some 23, .op (.bin .gtr (.tmp 21) (.tmp 22)), none⟩])
        (.cond (.tmp 23)
        (.seq (.reg [
          ⟨some 24, .op (.mov (.tmp 0)), none⟩,
          ⟨some 25, .op (.mov (.tmp 2)), none⟩,
          ⟨some 26, .op (.mov (.tmp 10)), none⟩,
          ⟨some 27, .op (.bin .sub (.tmp 25) (.tmp 26)), none⟩,
          ⟨some 28, .op (.mov (.tmp 2)), none⟩,
          ⟨some 29, .op (.mov (.tmp 11)), none⟩,
          ⟨some 30, .op (.mov (.tmp 4)), none⟩,
          ⟨some 31, .call 48 [.tmp 24, .tmp 27, .tmp 28, .tmp 29, .tmp 30], none⟩])
         (.reg [
         ⟨some 32, .op (.mov (.tmp 10)), none⟩,
         ⟨some 33, .op (.mov (.tmp 11)), none⟩,
         ⟨some 34, .op (.bin .sub (.tmp 32) (.tmp 33)), none⟩,
         ⟨some 10, .op (.mov (.tmp 34)), none⟩]))
        (.seq (.reg [
          ⟨some 35, .op (.mov (.tmp 0)), none⟩,
          ⟨some 36, .op (.mov (.tmp 2)), none⟩,
          ⟨some 37, .op (.mov (.tmp 10)), none⟩,
          ⟨some 38, .op (.bin .sub (.tmp 36) (.tmp 37)), none⟩,
          ⟨some 39, .op (.mov (.tmp 2)), none⟩,
          ⟨some 40, .op (.mov (.tmp 11)), none⟩,
          ⟨some 41, .op (.bin .add (.tmp 39) (.tmp 40)), none⟩,
          ⟨some 42, .op (.mov (.tmp 10)), none⟩,
          ⟨some 43, .op (.bin .sub (.tmp 41) (.tmp 42)), none⟩,
          ⟨some 44, .op (.mov (.tmp 10)), none⟩,
          ⟨some 45, .op (.mov (.tmp 4)), none⟩,
          ⟨some 46, .call 48 [.tmp 35, .tmp 38, .tmp 43, .tmp 44, .tmp 45], none⟩])
         (.reg [
         ⟨some 47, .op (.mov (.tmp 11)), none⟩,
         ⟨some 48, .op (.mov (.tmp 10)), none⟩,
         ⟨some 49, .op (.bin .sub (.tmp 47) (.tmp 48)), none⟩,
         ⟨some 11, .op (.mov (.tmp 49)), none⟩]))))))))
    (.reg [
    ⟨some 50, .op (.mov (.tmp 0)), none⟩,
    ⟨some 51, .op (.mov (.tmp 2)), none⟩,
    ⟨some 52, .op (.mov (.tmp 10)), none⟩,
    ⟨some 53, .op (.bin .sub (.tmp 51) (.tmp 52)), none⟩,
    ⟨some 54, .op (.mov (.tmp 2)), none⟩,
    ⟨some 55, .op (.mov (.tmp 10)), none⟩,
    ⟨some 56, .op (.mov (.tmp 4)), none⟩,
    ⟨some 57, .call 48 [.tmp 50, .tmp 53, .tmp 54, .tmp 55, .tmp 56], none⟩]))))
theorem Tryd.cc41 : (Tryd.f41.body.bind (cCode Tryd.prog 58)) = some Tryd.ac41 := by kernel_rfl

def Tryd.ac48 : ACode :=
  (.seq (.reg [
     ⟨some 10, .op (.mov (.val (.int .i64 0))), none⟩])
    (.block 0 (.loop (.seq (.seq (.reg [
        ⟨some 11, .op (.mov (.tmp 10)), none⟩,
        ⟨some 12, .op (.mov (.tmp 3)), none⟩,
        ⟨some 13, .op (.bin .lss (.tmp 11) (.tmp 12)), none⟩])
       (.cond (.tmp 13)
       .skip
       (.exit 0)))
      (.seq (.block 1 (.regd [
        ⟨⟨some 16, .op (.mov (.tmp 0)), none⟩, false, []⟩,
        ⟨⟨some 17, .op (.mov (.tmp 1)), none⟩, false, []⟩,
        ⟨⟨some 18, .op (.mov (.tmp 10)), none⟩, false, []⟩,
        ⟨⟨some 19, .op (.bin .add (.tmp 17) (.tmp 18)), none⟩, false, []⟩,
        ⟨⟨some 20, .op (.mov (.tmp 0)), none⟩, false, []⟩,
        ⟨⟨some 21, .op (.mov (.tmp 2)), none⟩, false, []⟩,
        ⟨⟨some 22, .op (.mov (.tmp 10)), none⟩, false, []⟩,
        ⟨⟨some 23, .op (.bin .add (.tmp 21) (.tmp 22)), none⟩, false, []⟩,
        ⟨⟨some 24, .op (.mov (.tmp 0)), none⟩, false, []⟩,
        ⟨⟨some 25, .op (.mov (.tmp 2)), none⟩, false, []⟩,
        ⟨⟨some 26, .op (.mov (.tmp 10)), none⟩, false, []⟩,
        ⟨⟨some 27, .op (.bin .add (.tmp 25) (.tmp 26)), none⟩, false, []⟩,
        ⟨⟨some 28, .op (.ia 4 (.tmp 24) (.tmp 27)), none⟩, false, []⟩,
        ⟨⟨some 29, .op (.load 4 true (.tmp 28)), none⟩, false, []⟩,
        ⟨⟨some 30, .op (.mov (.tmp 0)), none⟩, false, [⟨some 28, .op (.ia 4 (.tmp 24) (.tmp 27)), none⟩, ⟨some 29, .op (.load 4 true (.tmp 28)), none⟩]⟩,
        ⟨⟨some 31, .op (.mov (.tmp 1)), none⟩, false, [⟨some 28, .op (.ia 4 (.tmp 24) (.tmp 27)), none⟩, ⟨some 29, .op (.load 4 true (.tmp 28)), none⟩]⟩,
        ⟨⟨some 32, .op (.mov (.tmp 10)), none⟩, false, [⟨some 28, .op (.ia 4 (.tmp 24) (.tmp 27)), none⟩, ⟨some 29, .op (.load 4 true (.tmp 28)), none⟩]⟩,
        ⟨⟨some 33, .op (.bin .add (.tmp 31) (.tmp 32)), none⟩, false, [⟨some 28, .op (.ia 4 (.tmp 24) (.tmp 27)), none⟩, ⟨some 29, .op (.load 4 true (.tmp 28)), none⟩]⟩,
        ⟨⟨some 34, .op (.ia 4 (.tmp 30) (.tmp 33)), none⟩, false, [⟨some 28, .op (.ia 4 (.tmp 24) (.tmp 27)), none⟩, ⟨some 29, .op (.load 4 true (.tmp 28)), none⟩]⟩,
        ⟨⟨some 35, .op (.load 4 true (.tmp 34)), none⟩, false, [⟨some 28, .op (.ia 4 (.tmp 24) (.tmp 27)), none⟩, ⟨some 29, .op (.load 4 true (.tmp 28)), none⟩]⟩,
        ⟨⟨some 36, .op (.ia 4 (.tmp 16) (.tmp 19)), none⟩, false, []⟩,
        ⟨⟨none, .op (.store 4 (.tmp 36) (.tmp 29)), none⟩, true, []⟩,
        ⟨⟨some 37, .op (.ia 4 (.tmp 20) (.tmp 23)), none⟩, false, []⟩,
        ⟨⟨none, .op (.store 4 (.tmp 37) (.tmp 35)), none⟩, true, []⟩]))
      (.reg [
      ⟨some 14, .op (.mov (.tmp 10)), none⟩,
      ⟨some 15, .op (.bin .add (.tmp 14) (.val (.int .i64 1))), none⟩,
      ⟨some 10, .op (.mov (.tmp 15)), none⟩]))))))
theorem Tryd.cc48 : (Tryd.f48.body.bind (cCode Tryd.prog 38)) = some Tryd.ac48 := by kernel_rfl

end Go.Proofs
