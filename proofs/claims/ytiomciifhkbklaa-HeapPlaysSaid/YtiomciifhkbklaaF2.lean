/-
  The bodies of functions, in the small language: printed by program, proved by the kernel's computing. (Own work.)
-/
import Derived.Test.YtiomciifhkbklaaAbsU
import Derived.Test.YtiomciifhkbklaaChecked
namespace Go.Proofs.Ytiomciifhkbklaa
open Go Go.Abs

/- slices.Concat[[]bushel/word.Word,bushel/word.Word] -/
def a32W : AFun := ⟨36, [.tmp 2], (.seq (.reg [2] [⟨(some 2), none, .mv (.c .snil)⟩])
  (.seq (.reg [3] [⟨(some 3), none, .mv (.c (.int .i64 0))⟩])
  (.seq (.seq (.reg [9, 10, 11] [⟨(some 9), none, .mv (.t 0)⟩,
        ⟨(some 10), none, .len .sl (.t 9)⟩,
        ⟨(some 11), none, .mv (.c (.int .i64 0))⟩])
   (.block 0 (.loop (.seq (.reg [12] [⟨(some 12), none, .bin .lss .other false (.t 11) (.t 10)⟩])
     (.seq (.cond (.t 12) .skip
      (.exit 0))
     (.seq (.block 1 (.seq (.reg [5] [⟨(some 13), none, .iaddr none (.t 9) (.t 11)⟩,
            ⟨(some 14), none, .load none (.t 13)⟩,
            ⟨(some 5), none, .mv (.t 14)⟩])
       (.seq (.reg [3] [⟨(some 15), none, .mv (.t 3)⟩,
            ⟨(some 16), none, .mv (.t 5)⟩,
            ⟨(some 17), none, .len .sl (.t 16)⟩,
            ⟨(some 18), none, .bin .add .other false (.t 15) (.t 17)⟩,
            ⟨(some 3), none, .mv (.t 18)⟩])
       (.seq (.reg [20] [⟨(some 19), none, .mv (.t 3)⟩,
            ⟨(some 20), none, .bin .lss .other true (.t 19) (.c (.int .i64 0))⟩])
       (.cond (.t 20) (.reg [] [⟨(some 21), none, .mkif 9 (.c (.str [108, 101, 110, 32, 111, 117, 116, 32, 111, 102, 32, 114, 97, 110, 103, 101]))⟩,
             ⟨none, none, .ext .stop []⟩])
       .skip)))))
     (.reg [11] [⟨(some 22), none, .bin .add .other true (.t 11) (.c (.int .i64 1))⟩,
         ⟨(some 11), none, .mv (.t 22)⟩])))))))
  (.seq (.reg [6] [⟨(some 23), none, .mv (.t 3)⟩,
       ⟨(some 24), none, .call (.c (.fn 44)) [(.c .snil), (.t 23)]⟩,
       ⟨(some 6), none, .mv (.t 24)⟩])
  (.seq (.seq (.reg [25, 26, 27] [⟨(some 25), none, .mv (.t 0)⟩,
        ⟨(some 26), none, .len .sl (.t 25)⟩,
        ⟨(some 27), none, .mv (.c (.int .i64 0))⟩])
   (.block 2 (.loop (.seq (.reg [28] [⟨(some 28), none, .bin .lss .other false (.t 27) (.t 26)⟩])
     (.seq (.cond (.t 28) .skip
      (.exit 2))
     (.seq (.block 3 (.seq (.reg [8] [⟨(some 29), none, .iaddr none (.t 25) (.t 27)⟩,
            ⟨(some 30), none, .load none (.t 29)⟩,
            ⟨(some 8), none, .mv (.t 30)⟩])
       (.reg [6] [⟨(some 31), none, .mv (.t 6)⟩,
           ⟨(some 32), none, .mv (.t 8)⟩,
           ⟨(some 33), none, .ext (.appm (some 2) 16) [(.t 31), (.t 32)]⟩,
           ⟨(some 6), none, .mv (.t 33)⟩])))
     (.reg [27] [⟨(some 34), none, .bin .add .other true (.t 27) (.c (.int .i64 1))⟩,
         ⟨(some 27), none, .mv (.t 34)⟩])))))))
  (.seq (.reg [2] [⟨(some 35), none, .mv (.t 6)⟩,
       ⟨(some 2), none, .mv (.t 35)⟩])
  .ret))))))⟩
theorem c32W : compF Try.prog [0, 2, 3, 5, 6, 8, 9, 10, 11, 12, 20, 25, 26, 27, 28] Try.f32 [33] = some a32W := by kernel_rfl

end Go.Proofs.Ytiomciifhkbklaa
