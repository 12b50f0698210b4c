/-
  The bodies of functions, in the small language: printed by program, proved by the kernel's computing. (Own work.)
-/
import Derived.Test.YtppdghfpbliaeaaAbsU
import Derived.Test.YtppdghfpbliaeaaChecked
namespace Go.Proofs.Ytppdghfpbliaeaa
open Go Go.Abs

/- bushel/bushellaw00.Code -/
def a11 : AFun := ⟨15, [.tmp 2], (.seq (.reg [2] [⟨(some 2), none, .mv (.c (.int .i64 0))⟩])
  (.seq (.seq (.reg [5] [⟨(some 4), none, .mv (.t 0)⟩,
        ⟨(some 5), none, .bin .eql .ifc true (.t 4) (.c .inil)⟩])
   (.cond (.t 5) (.seq (.reg [2] [⟨(some 2), none, .mv (.c (.int .i64 0))⟩])
     .ret)
   .skip))
  (.seq (.seq (.reg [3] [⟨(some 3), none, .mv (.c (.int .i64 1))⟩])
   (.block 0 (.loop (.seq (.seq (.reg [7] [⟨(some 6), none, .mv (.t 3)⟩,
           ⟨(some 7), none, .bin .leq .other true (.t 6) (.c (.int .i64 11))⟩])
      (.cond (.t 7) .skip
      (.exit 0)))
     (.seq (.block 1 (.seq (.reg [13] [⟨(some 10), none, .mv (.t 0)⟩,
            ⟨(some 11), none, .mv (.t 3)⟩,
            ⟨(some 12), none, .mkif 47 (.t 11)⟩,
            ⟨(some 13), none, .bin .eql .ifc false (.t 10) (.t 12)⟩])
       (.cond (.t 13) (.seq (.reg [2] [⟨(some 14), none, .mv (.t 3)⟩,
              ⟨(some 2), none, .mv (.t 14)⟩])
         .ret)
       .skip)))
     (.reg [3] [⟨(some 8), none, .mv (.t 3)⟩,
         ⟨(some 9), none, .bin .add .other true (.t 8) (.c (.int .i64 1))⟩,
         ⟨(some 3), none, .mv (.t 9)⟩]))))))
  (.seq (.reg [2] [⟨(some 2), none, .mv (.c (.int .i64 (-1)))⟩])
  .ret))))⟩
theorem c11 : compF Try.prog [0, 2, 3, 5, 7, 13] Try.f11 = some a11 := by kernel_rfl

/- bushel/bushelref14.Arith -/
def a40 : AFun := ⟨45, [.tmp 6, .tmp 7, .tmp 8], (.seq (.reg [6, 7, 8] [⟨(some 6), none, .mv (.c (.int .i64 0))⟩,
       ⟨(some 7), none, .mv (.c (.int .i64 0))⟩,
       ⟨(some 8), none, .mv (.c (.bool false))⟩])
  (.seq (.reg [9] [⟨(some 9), none, .mv (.c (.int .i64 1))⟩])
  (.seq (.seq (.reg [10] [⟨(some 10), none, .mv (.t 0)⟩])
   (.block 0 (.seq (.reg [11] [⟨(some 12), none, .bin .eql .other true (.t 10) (.c (.str [43]))⟩,
         ⟨(some 11), none, .mv (.t 12)⟩])
    (.cond (.t 11) (.seq (.reg [6, 7, 8] [⟨(some 13), none, .mv (.t 1)⟩,
           ⟨(some 14), none, .mv (.t 2)⟩,
           ⟨(some 15), none, .bin .add .other false (.t 13) (.t 14)⟩,
           ⟨(some 6), none, .mv (.t 15)⟩,
           ⟨(some 7), none, .mv (.c (.int .i64 0))⟩,
           ⟨(some 8), none, .mv (.c (.bool true))⟩])
      .ret)
    (.seq (.reg [16] [⟨(some 17), none, .bin .eql .other true (.t 10) (.c (.str [45]))⟩,
         ⟨(some 16), none, .mv (.t 17)⟩])
    (.cond (.t 16) (.seq (.reg [6, 7, 8] [⟨(some 18), none, .mv (.t 1)⟩,
           ⟨(some 19), none, .mv (.t 2)⟩,
           ⟨(some 20), none, .bin .sub .other false (.t 18) (.t 19)⟩,
           ⟨(some 6), none, .mv (.t 20)⟩,
           ⟨(some 7), none, .mv (.c (.int .i64 0))⟩,
           ⟨(some 8), none, .mv (.c (.bool true))⟩])
      .ret)
    (.seq (.reg [21] [⟨(some 22), none, .bin .eql .other true (.t 10) (.c (.str [42]))⟩,
         ⟨(some 21), none, .mv (.t 22)⟩])
    (.cond (.t 21) (.seq (.reg [6, 7, 8] [⟨(some 23), none, .mv (.t 1)⟩,
           ⟨(some 24), none, .mv (.t 2)⟩,
           ⟨(some 25), none, .bin .mul .other false (.t 23) (.t 24)⟩,
           ⟨(some 6), none, .mv (.t 25)⟩,
           ⟨(some 7), none, .mv (.c (.int .i64 0))⟩,
           ⟨(some 8), none, .mv (.c (.bool true))⟩])
      .ret)
    (.seq (.reg [26] [⟨(some 27), none, .bin .eql .other true (.t 10) (.c (.str [47]))⟩,
         ⟨(some 26), none, .mv (.t 27)⟩])
    (.cond (.t 26) (.seq (.seq (.reg [29] [⟨(some 28), none, .mv (.t 2)⟩,
            ⟨(some 29), none, .bin .eql .other true (.t 28) (.c (.int .i64 0))⟩])
       (.cond (.t 29) (.seq (.reg [6, 7, 8] [⟨(some 6), none, .mv (.c (.int .i64 0))⟩,
              ⟨(some 7), none, .mv (.c (.int .i64 1))⟩,
              ⟨(some 8), none, .mv (.c (.bool true))⟩])
         .ret)
       .skip))
      (.seq (.reg [6, 7, 8] [⟨(some 30), none, .mv (.t 1)⟩,
           ⟨(some 31), none, .mv (.t 2)⟩,
           ⟨(some 32), none, .bin .quo .other false (.t 30) (.t 31)⟩,
           ⟨(some 6), none, .mv (.t 32)⟩,
           ⟨(some 7), none, .mv (.c (.int .i64 0))⟩,
           ⟨(some 8), none, .mv (.c (.bool true))⟩])
      .ret))
    (.seq (.reg [33] [⟨(some 34), none, .bin .eql .other true (.t 10) (.c (.str [60]))⟩,
         ⟨(some 33), none, .mv (.t 34)⟩])
    (.cond (.t 33) (.seq (.seq (.reg [37] [⟨(some 35), none, .mv (.t 1)⟩,
            ⟨(some 36), none, .mv (.t 2)⟩,
            ⟨(some 37), none, .bin .lss .other false (.t 35) (.t 36)⟩])
       (.cond (.t 37) (.seq (.reg [6, 7, 8] [⟨(some 38), none, .mv (.t 9)⟩,
              ⟨(some 6), none, .mv (.t 38)⟩,
              ⟨(some 7), none, .mv (.c (.int .i64 0))⟩,
              ⟨(some 8), none, .mv (.c (.bool true))⟩])
         .ret)
       .skip))
      (.seq (.reg [6, 7, 8] [⟨(some 6), none, .mv (.c (.int .i64 0))⟩,
           ⟨(some 7), none, .mv (.c (.int .i64 0))⟩,
           ⟨(some 8), none, .mv (.c (.bool true))⟩])
      .ret))
    (.seq (.reg [39] [⟨(some 40), none, .bin .eql .other true (.t 10) (.c (.str [61, 61]))⟩,
         ⟨(some 39), none, .mv (.t 40)⟩])
    (.cond (.t 39) (.seq (.seq (.reg [43] [⟨(some 41), none, .mv (.t 1)⟩,
            ⟨(some 42), none, .mv (.t 2)⟩,
            ⟨(some 43), none, .bin .eql .other false (.t 41) (.t 42)⟩])
       (.cond (.t 43) (.seq (.reg [6, 7, 8] [⟨(some 44), none, .mv (.t 9)⟩,
              ⟨(some 6), none, .mv (.t 44)⟩,
              ⟨(some 7), none, .mv (.c (.int .i64 0))⟩,
              ⟨(some 8), none, .mv (.c (.bool true))⟩])
         .ret)
       .skip))
      (.seq (.reg [6, 7, 8] [⟨(some 6), none, .mv (.c (.int .i64 0))⟩,
           ⟨(some 7), none, .mv (.c (.int .i64 0))⟩,
           ⟨(some 8), none, .mv (.c (.bool true))⟩])
      .ret))
    .skip))))))))))))))
  (.seq (.reg [6, 7, 8] [⟨(some 6), none, .mv (.c (.int .i64 0))⟩,
       ⟨(some 7), none, .mv (.c (.int .i64 0))⟩,
       ⟨(some 8), none, .mv (.c (.bool false))⟩])
  .ret))))⟩
theorem c40 : compF Try.prog [0, 1, 2, 6, 7, 8, 9, 10, 11, 16, 21, 26, 29, 33, 37, 39, 43] Try.f40 = some a40 := by kernel_rfl

end Go.Proofs.Ytppdghfpbliaeaa
