/-
  The bodies of functions, in the small language: printed by program, proved by the kernel's computing. (Own work.)
-/
import Derived.Test.YtbifjffjibnjjaaDoorAbsU
import Derived.Test.YtbifjffjibnjjaaDoorChecked
namespace Go.Proofs.YtbifjffjibnjjaaDoor
open Go Go.Abs

/- (*bushel/model.writer).text -/
def a35n : AFun := ⟨63, [], (.seq (.seq (.reg [5] [⟨(some 4), none, .mv (.t 0)⟩,
        ⟨(some 5), none, .call (.c (.fn 61)) [(.t 4)]⟩])
   (.cond (.t 5) .ret
   .skip))
  (.seq (.reg [9] [⟨(some 6), none, .mv (.t 1)⟩,
       ⟨(some 7), none, .nilck (.t 6)⟩,
       ⟨(some 8), none, .faddr 0 (.t 7)⟩,
       ⟨(some 9), none, .ext (.ldk none) [(.t 8)]⟩])
  (.block 0 (.seq (.reg [10] [⟨(some 11), none, .bin .eql .other true (.t 9) (.c (.int .i64 1))⟩,
        ⟨(some 10), none, .mv (.t 11)⟩])
   (.cond (.t 10) (.reg [] [⟨(some 12), none, .mv (.t 0)⟩,
         ⟨(some 13), none, .mv (.t 1)⟩,
         ⟨(some 14), none, .nilck (.t 13)⟩,
         ⟨(some 15), none, .faddr 1 (.t 14)⟩,
         ⟨(some 16), none, .load none (.t 15)⟩,
         ⟨(some 17), none, .call (.c (.fn 63)) [(.t 16), (.c (.int .i64 10))]⟩,
         ⟨(some 18), none, .call (.c (.fn 62)) [(.t 12), (.t 17)]⟩])
   (.seq (.reg [19] [⟨(some 20), none, .bin .eql .other true (.t 9) (.c (.int .i64 2))⟩,
        ⟨(some 19), none, .mv (.t 20)⟩])
   (.cond (.t 19) (.reg [] [⟨(some 21), none, .mv (.t 0)⟩,
         ⟨(some 22), none, .mv (.t 1)⟩,
         ⟨(some 23), none, .nilck (.t 22)⟩,
         ⟨(some 24), none, .faddr 2 (.t 23)⟩,
         ⟨(some 25), none, .load none (.t 24)⟩,
         ⟨(some 26), none, .call (.c (.fn 64)) [(.t 21), (.t 25)]⟩])
   (.seq (.reg [27] [⟨(some 28), none, .bin .eql .other true (.t 9) (.c (.int .i64 3))⟩,
        ⟨(some 27), none, .mv (.t 28)⟩])
   (.cond (.t 27) (.reg [] [⟨(some 29), none, .mv (.t 0)⟩,
         ⟨(some 30), none, .call (.c (.fn 62)) [(.t 29), (.c (.str [102, 110]))]⟩])
   (.seq (.reg [31] [⟨(some 32), none, .bin .eql .other true (.t 9) (.c (.int .i64 4))⟩,
        ⟨(some 31), none, .mv (.t 32)⟩])
   (.cond (.t 31) (.reg [] [⟨(some 33), none, .mv (.t 0)⟩,
         ⟨(some 34), none, .mv (.t 1)⟩,
         ⟨(some 35), none, .call (.c (.fn 65)) [(.t 33), (.t 34)]⟩])
   (.seq (.reg [36] [⟨(some 37), none, .bin .eql .other true (.t 9) (.c (.int .i64 5))⟩,
        ⟨(some 36), none, .mv (.t 37)⟩])
   (.cond (.t 36) (.seq (.reg [] [⟨(some 38), none, .mv (.t 0)⟩,
          ⟨(some 39), none, .mv (.t 1)⟩,
          ⟨(some 40), none, .nilck (.t 39)⟩,
          ⟨(some 41), none, .faddr 2 (.t 40)⟩,
          ⟨(some 42), none, .load none (.t 41)⟩,
          ⟨(some 43), none, .bin .add .other true (.t 42) (.c (.str [32]))⟩,
          ⟨(some 44), none, .call (.c (.fn 62)) [(.t 38), (.t 43)]⟩])
     (.reg [] [⟨(some 45), none, .mv (.t 0)⟩,
         ⟨(some 46), none, .mv (.t 1)⟩,
         ⟨(some 47), none, .nilck (.t 46)⟩,
         ⟨(some 48), none, .faddr 4 (.t 47)⟩,
         ⟨(some 49), none, .load none (.t 48)⟩,
         ⟨(some 50), none, .mksl none [(.c (.int .i64 5))]⟩,
         ⟨(some 51), none, .call (.c (.fn 66)) [(.t 45), (.t 49), (.t 50)]⟩]))
   (.seq (.reg [52] [⟨(some 53), none, .bin .eql .other true (.t 9) (.c (.int .i64 6))⟩,
        ⟨(some 52), none, .mv (.t 53)⟩])
   (.cond (.t 52) (.seq (.reg [] [⟨(some 54), none, .mv (.t 0)⟩,
          ⟨(some 55), none, .call (.c (.fn 62)) [(.t 54), (.c (.str [114, 101, 102, 32]))]⟩])
     (.reg [] [⟨(some 56), none, .mv (.t 0)⟩,
         ⟨(some 57), none, .mv (.t 1)⟩,
         ⟨(some 58), none, .nilck (.t 57)⟩,
         ⟨(some 59), none, .faddr 4 (.t 58)⟩,
         ⟨(some 60), none, .ext (.ldk none) [(.t 59)]⟩,
         ⟨(some 61), none, .mksl none [(.c (.int .i64 5)), (.c (.int .i64 6))]⟩,
         ⟨(some 62), none, .call (.c (.fn 66)) [(.t 56), (.t 60), (.t 61)]⟩]))
   .skip)))))))))))))))⟩
theorem c35n : compF Tryd.prog [0, 1, 5, 9, 10, 19, 27, 31, 36, 52] Tryd.f35 [9, 60] = some a35n := by kernel_rfl

end Go.Proofs.YtbifjffjibnjjaaDoor
