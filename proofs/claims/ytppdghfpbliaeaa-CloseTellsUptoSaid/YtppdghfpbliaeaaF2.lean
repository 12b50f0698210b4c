/-
  The bodies of functions, in the small language: printed by program, proved by the kernel's computing. (Own work.)
-/
import Derived.Test.YtppdghfpbliaeaaAbsU
import Derived.Test.YtppdghfpbliaeaaChecked
namespace Go.Proofs.Ytppdghfpbliaeaa
open Go Go.Abs

/- slices.insertionSortOrdered[string] -/
def a71 : AFun := ⟨49, [], (.seq (.reg [6] [⟨(some 8), none, .mv (.t 1)⟩,
       ⟨(some 9), none, .bin .add .other true (.t 8) (.c (.int .i64 1))⟩,
       ⟨(some 6), none, .mv (.t 9)⟩])
  (.block 0 (.loop (.seq (.seq (.reg [12] [⟨(some 10), none, .mv (.t 6)⟩,
          ⟨(some 11), none, .mv (.t 2)⟩,
          ⟨(some 12), none, .bin .lss .other false (.t 10) (.t 11)⟩])
     (.cond (.t 12) .skip
     (.exit 0)))
    (.seq (.block 1 (.seq (.reg [7] [⟨(some 15), none, .mv (.t 6)⟩,
           ⟨(some 7), none, .mv (.t 15)⟩])
      (.block 2 (.loop (.seq (.seq (.any [30] [(⟨(some 16), none, .mv (.t 7)⟩, true),
              (⟨(some 17), none, .mv (.t 1)⟩, false),
              (⟨(some 18), none, .bin .gtr .other false (.t 16) (.t 17)⟩, true),
              (⟨(some 19), none, .mv (.t 18)⟩, true),
              (⟨(some 20), (some (19, true)), .mv (.t 0)⟩, true),
              (⟨(some 21), (some (19, true)), .mv (.t 7)⟩, false),
              (⟨(some 22), (some (19, true)), .iaddr none (.t 20) (.t 21)⟩, true),
              (⟨(some 23), (some (19, true)), .load none (.t 22)⟩, true),
              (⟨(some 24), (some (19, true)), .mv (.t 0)⟩, false),
              (⟨(some 25), (some (19, true)), .mv (.t 7)⟩, false),
              (⟨(some 26), (some (19, true)), .bin .sub .other true (.t 25) (.c (.int .i64 1))⟩, false),
              (⟨(some 27), (some (19, true)), .iaddr none (.t 24) (.t 26)⟩, false),
              (⟨(some 28), (some (19, true)), .load none (.t 27)⟩, false),
              (⟨(some 29), (some (19, true)), .call (.c (.fn 62)) [(.t 23), (.t 28)]⟩, true),
              (⟨(some 30), none, .pick (.t 19) (.t 29) (.c (.bool false))⟩, true)])
         (.cond (.t 30) .skip
         (.exit 2)))
        (.seq (.block 3 (.any [] [(⟨(some 33), none, .mv (.t 0)⟩, true),
              (⟨(some 34), none, .mv (.t 7)⟩, false),
              (⟨(some 35), none, .mv (.t 0)⟩, false),
              (⟨(some 36), none, .mv (.t 7)⟩, false),
              (⟨(some 37), none, .bin .sub .other true (.t 36) (.c (.int .i64 1))⟩, false),
              (⟨(some 38), none, .mv (.t 0)⟩, false),
              (⟨(some 39), none, .mv (.t 7)⟩, false),
              (⟨(some 40), none, .bin .sub .other true (.t 39) (.c (.int .i64 1))⟩, false),
              (⟨(some 41), none, .iaddr none (.t 38) (.t 40)⟩, false),
              (⟨(some 42), none, .load none (.t 41)⟩, false),
              (⟨(some 43), none, .mv (.t 0)⟩, false),
              (⟨(some 44), none, .mv (.t 7)⟩, false),
              (⟨(some 45), none, .iaddr none (.t 43) (.t 44)⟩, false),
              (⟨(some 46), none, .load none (.t 45)⟩, false),
              (⟨(some 47), none, .iaddr none (.t 33) (.t 34)⟩, false),
              (⟨none, none, .store 1 (.t 47) (.t 42)⟩, false),
              (⟨(some 48), none, .iaddr none (.t 35) (.t 37)⟩, true),
              (⟨none, none, .store 1 (.t 48) (.t 46)⟩, true)]))
        (.reg [7] [⟨(some 31), none, .mv (.t 7)⟩,
            ⟨(some 32), none, .bin .sub .other true (.t 31) (.c (.int .i64 1))⟩,
            ⟨(some 7), none, .mv (.t 32)⟩])))))))
    (.reg [6] [⟨(some 13), none, .mv (.t 6)⟩,
        ⟨(some 14), none, .bin .add .other true (.t 13) (.c (.int .i64 1))⟩,
        ⟨(some 6), none, .mv (.t 14)⟩]))))))⟩
theorem c71 : compF Try.prog [0, 1, 2, 6, 7, 12, 30] Try.f71 = some a71 := by kernel_rfl

/- math/bits.Len64 -/
def a80 : AFun := ⟨25, [.tmp 2], (.seq (.reg [2] [⟨(some 2), none, .mv (.c (.int .i64 0))⟩])
  (.seq (.seq (.reg [4] [⟨(some 3), none, .mv (.t 0)⟩,
        ⟨(some 4), none, .bin .geq .other true (.t 3) (.c (.int .u64 4294967296))⟩])
   (.cond (.t 4) (.seq (.reg [0] [⟨(some 5), none, .mv (.t 0)⟩,
          ⟨(some 6), none, .bin .shr .other true (.t 5) (.c (.int .u64 32))⟩,
          ⟨(some 0), none, .mv (.t 6)⟩])
     (.reg [2] [⟨(some 2), none, .mv (.c (.int .i64 32))⟩]))
   .skip))
  (.seq (.seq (.reg [8] [⟨(some 7), none, .mv (.t 0)⟩,
        ⟨(some 8), none, .bin .geq .other true (.t 7) (.c (.int .u64 65536))⟩])
   (.cond (.t 8) (.seq (.reg [0] [⟨(some 9), none, .mv (.t 0)⟩,
          ⟨(some 10), none, .bin .shr .other true (.t 9) (.c (.int .u64 16))⟩,
          ⟨(some 0), none, .mv (.t 10)⟩])
     (.reg [2] [⟨(some 11), none, .mv (.t 2)⟩,
         ⟨(some 12), none, .bin .add .other true (.t 11) (.c (.int .i64 16))⟩,
         ⟨(some 2), none, .mv (.t 12)⟩]))
   .skip))
  (.seq (.seq (.reg [14] [⟨(some 13), none, .mv (.t 0)⟩,
        ⟨(some 14), none, .bin .geq .other true (.t 13) (.c (.int .u64 256))⟩])
   (.cond (.t 14) (.seq (.reg [0] [⟨(some 15), none, .mv (.t 0)⟩,
          ⟨(some 16), none, .bin .shr .other true (.t 15) (.c (.int .u64 8))⟩,
          ⟨(some 0), none, .mv (.t 16)⟩])
     (.reg [2] [⟨(some 17), none, .mv (.t 2)⟩,
         ⟨(some 18), none, .bin .add .other true (.t 17) (.c (.int .i64 8))⟩,
         ⟨(some 2), none, .mv (.t 18)⟩]))
   .skip))
  (.seq (.reg [2] [⟨(some 19), none, .mv (.t 2)⟩,
       ⟨(some 20), none, .mv (.t 0)⟩,
       ⟨(some 21), none, .conv (.toInt .u8) (.t 20)⟩,
       ⟨(some 22), none, .index (.c (.str [0, 1, 2, 2, 3, 3, 3, 3, 4, 4, 4, 4, 4, 4, 4, 4, 5, 5, 5, 5, 5, 5, 5, 5, 5, 5, 5, 5, 5, 5, 5, 5, 6, 6, 6, 6, 6, 6, 6, 6, 6, 6, 6, 6, 6, 6, 6, 6, 6, 6, 6, 6, 6, 6, 6, 6, 6, 6, 6, 6, 6, 6, 6, 6, 7, 7, 7, 7, 7, 7, 7, 7, 7, 7, 7, 7, 7, 7, 7, 7, 7, 7, 7, 7, 7, 7, 7, 7, 7, 7, 7, 7, 7, 7, 7, 7, 7, 7, 7, 7, 7, 7, 7, 7, 7, 7, 7, 7, 7, 7, 7, 7, 7, 7, 7, 7, 7, 7, 7, 7, 7, 7, 7, 7, 7, 7, 7, 7, 8, 8, 8, 8, 8, 8, 8, 8, 8, 8, 8, 8, 8, 8, 8, 8, 8, 8, 8, 8, 8, 8, 8, 8, 8, 8, 8, 8, 8, 8, 8, 8, 8, 8, 8, 8, 8, 8, 8, 8, 8, 8, 8, 8, 8, 8, 8, 8, 8, 8, 8, 8, 8, 8, 8, 8, 8, 8, 8, 8, 8, 8, 8, 8, 8, 8, 8, 8, 8, 8, 8, 8, 8, 8, 8, 8, 8, 8, 8, 8, 8, 8, 8, 8, 8, 8, 8, 8, 8, 8, 8, 8, 8, 8, 8, 8, 8, 8, 8, 8, 8, 8, 8, 8, 8, 8, 8, 8, 8, 8, 8, 8, 8, 8, 8, 8, 8, 8, 8, 8, 8, 8, 8, 8, 8, 8, 8, 8])) (.t 21)⟩,
       ⟨(some 23), none, .conv (.toInt .i64) (.t 22)⟩,
       ⟨(some 24), none, .bin .add .other false (.t 19) (.t 23)⟩,
       ⟨(some 2), none, .mv (.t 24)⟩])
  .ret)))))⟩
theorem c80 : compF Try.prog [0, 2, 4, 8, 14] Try.f80 = some a80 := by kernel_rfl

end Go.Proofs.Ytppdghfpbliaeaa
