/-
  The bodies of functions, in the small language: printed by program, proved by the kernel's computing. (Own work.)
-/
import Derived.Test.YtbifjffjibnjjaaDoorAbsU
import Derived.Test.YtbifjffjibnjjaaDoorChecked
namespace Go.Proofs.YtbifjffjibnjjaaDoor
open Go Go.Abs

/- bushel/bushelref08.Has -/
def a27 : AFun := ⟨18, [.tmp 4], (.seq (.reg [4] [⟨(some 4), none, .mv (.c (.bool false))⟩])
  (.seq (.seq (.reg [5] [⟨(some 5), none, .mv (.c (.int .i64 0))⟩])
   (.block 0 (.loop (.seq (.seq (.reg [9] [⟨(some 6), none, .mv (.t 5)⟩,
           ⟨(some 7), none, .mv (.t 0)⟩,
           ⟨(some 8), none, .len .sl (.t 7)⟩,
           ⟨(some 9), none, .bin .lss .other false (.t 6) (.t 8)⟩])
      (.cond (.t 9) .skip
      (.exit 0)))
     (.seq (.block 1 (.seq (.reg [17] [⟨(some 12), none, .mv (.t 0)⟩,
            ⟨(some 13), none, .mv (.t 5)⟩,
            ⟨(some 14), none, .iaddr none (.t 12) (.t 13)⟩,
            ⟨(some 15), none, .load none (.t 14)⟩,
            ⟨(some 16), none, .mv (.t 1)⟩,
            ⟨(some 17), none, .bin .eql .other false (.t 15) (.t 16)⟩])
       (.cond (.t 17) (.seq (.reg [4] [⟨(some 4), none, .mv (.c (.bool true))⟩])
         .ret)
       .skip)))
     (.reg [5] [⟨(some 10), none, .mv (.t 5)⟩,
         ⟨(some 11), none, .bin .add .other true (.t 10) (.c (.int .i64 1))⟩,
         ⟨(some 5), none, .mv (.t 11)⟩]))))))
  (.seq (.reg [4] [⟨(some 4), none, .mv (.c (.bool false))⟩])
  .ret)))⟩
theorem c27 : compF Tryd.prog [0, 1, 4, 5, 9, 17] Tryd.f27 = some a27 := by kernel_rfl

/- bushel/bushelref08.Offset -/
def a97 : AFun := ⟨22, [.tmp 4], (.seq (.reg [4] [⟨(some 4), none, .mv (.c (.int .i64 0))⟩])
  (.seq (.reg [5] [⟨(some 5), none, .mv (.c (.int .i64 0))⟩])
  (.seq (.seq (.reg [6] [⟨(some 6), none, .mv (.c (.int .i64 0))⟩])
   (.block 0 (.loop (.seq (.seq (.reg [10] [⟨(some 7), none, .mv (.t 6)⟩,
           ⟨(some 8), none, .mv (.t 0)⟩,
           ⟨(some 9), none, .len .sl (.t 8)⟩,
           ⟨(some 10), none, .bin .lss .other false (.t 7) (.t 9)⟩])
      (.cond (.t 10) .skip
      (.exit 0)))
     (.seq (.block 1 (.seq (.reg [18] [⟨(some 13), none, .mv (.t 0)⟩,
            ⟨(some 14), none, .mv (.t 6)⟩,
            ⟨(some 15), none, .iaddr none (.t 13) (.t 14)⟩,
            ⟨(some 16), none, .load none (.t 15)⟩,
            ⟨(some 17), none, .mv (.t 1)⟩,
            ⟨(some 18), none, .bin .lss .other false (.t 16) (.t 17)⟩])
       (.cond (.t 18) (.reg [5] [⟨(some 19), none, .mv (.t 5)⟩,
             ⟨(some 20), none, .bin .add .other true (.t 19) (.c (.int .i64 1))⟩,
             ⟨(some 5), none, .mv (.t 20)⟩])
       .skip)))
     (.reg [6] [⟨(some 11), none, .mv (.t 6)⟩,
         ⟨(some 12), none, .bin .add .other true (.t 11) (.c (.int .i64 1))⟩,
         ⟨(some 6), none, .mv (.t 12)⟩]))))))
  (.seq (.reg [4] [⟨(some 21), none, .mv (.t 5)⟩,
       ⟨(some 4), none, .mv (.t 21)⟩])
  .ret))))⟩
theorem c97 : compF Tryd.prog [0, 1, 4, 5, 6, 10, 18] Tryd.f97 = some a97 := by kernel_rfl

/- bushel/bushelref08.Add -/
def a72 : AFun := ⟨30, [.tmp 4], (.seq (.reg [4] [⟨(some 4), none, .mv (.c .snil)⟩])
  (.seq (.reg [5] [⟨(some 8), none, .mv (.t 0)⟩,
       ⟨(some 9), none, .mv (.t 1)⟩,
       ⟨(some 10), none, .call (.c (.fn 27)) [(.t 8), (.t 9)]⟩,
       ⟨(some 5), none, .mv (.t 10)⟩])
  (.seq (.seq (.reg [11] [⟨(some 11), none, .mv (.t 5)⟩])
   (.cond (.t 11) (.seq (.reg [4] [⟨(some 12), none, .mv (.t 0)⟩,
          ⟨(some 4), none, .mv (.t 12)⟩])
     .ret)
   .skip))
  (.seq (.reg [6] [⟨(some 13), none, .mv (.t 0)⟩,
       ⟨(some 14), none, .mv (.t 1)⟩,
       ⟨(some 15), none, .call (.c (.fn 97)) [(.t 13), (.t 14)]⟩,
       ⟨(some 6), none, .mv (.t 15)⟩])
  (.seq (.reg [7] [⟨(some 16), none, .mksl none []⟩,
       ⟨(some 17), none, .mv (.t 0)⟩,
       ⟨(some 18), none, .mv (.t 6)⟩,
       ⟨(some 19), none, .slice (.sl none) (.t 17) none (some (.t 18)) none⟩,
       ⟨(some 20), none, .append none 16 (.t 16) (.t 19)⟩,
       ⟨(some 7), none, .mv (.t 20)⟩])
  (.seq (.reg [7] [⟨(some 21), none, .mv (.t 7)⟩,
       ⟨(some 22), none, .mv (.t 1)⟩,
       ⟨(some 23), none, .mksl none [(.t 22)]⟩,
       ⟨(some 24), none, .append none 16 (.t 21) (.t 23)⟩,
       ⟨(some 7), none, .mv (.t 24)⟩])
  (.seq (.reg [4] [⟨(some 25), none, .mv (.t 7)⟩,
       ⟨(some 26), none, .mv (.t 0)⟩,
       ⟨(some 27), none, .mv (.t 6)⟩,
       ⟨(some 28), none, .slice (.sl none) (.t 26) (some (.t 27)) none none⟩,
       ⟨(some 29), none, .append none 16 (.t 25) (.t 28)⟩,
       ⟨(some 4), none, .mv (.t 29)⟩])
  .ret)))))))⟩
theorem c72 : compF Tryd.prog [0, 1, 4, 5, 6, 7, 11] Tryd.f72 = some a72 := by kernel_rfl

/- bushel/bushelref08.Of -/
def a40 : AFun := ⟨18, [.tmp 2], (.seq (.reg [2] [⟨(some 2), none, .mv (.c .snil)⟩])
  (.seq (.reg [3] [⟨(some 3), none, .mv (.c .snil)⟩])
  (.seq (.seq (.reg [4] [⟨(some 4), none, .mv (.c (.int .i64 0))⟩])
   (.block 0 (.loop (.seq (.seq (.reg [8] [⟨(some 5), none, .mv (.t 4)⟩,
           ⟨(some 6), none, .mv (.t 0)⟩,
           ⟨(some 7), none, .len .sl (.t 6)⟩,
           ⟨(some 8), none, .bin .lss .other false (.t 5) (.t 7)⟩])
      (.cond (.t 8) .skip
      (.exit 0)))
     (.seq (.block 1 (.reg [3] [⟨(some 11), none, .mv (.t 3)⟩,
           ⟨(some 12), none, .mv (.t 0)⟩,
           ⟨(some 13), none, .mv (.t 4)⟩,
           ⟨(some 14), none, .iaddr none (.t 12) (.t 13)⟩,
           ⟨(some 15), none, .load none (.t 14)⟩,
           ⟨(some 16), none, .call (.c (.fn 72)) [(.t 11), (.t 15)]⟩,
           ⟨(some 3), none, .mv (.t 16)⟩]))
     (.reg [4] [⟨(some 9), none, .mv (.t 4)⟩,
         ⟨(some 10), none, .bin .add .other true (.t 9) (.c (.int .i64 1))⟩,
         ⟨(some 4), none, .mv (.t 10)⟩]))))))
  (.seq (.reg [2] [⟨(some 17), none, .mv (.t 3)⟩,
       ⟨(some 2), none, .mv (.t 17)⟩])
  .ret))))⟩
theorem c40 : compF Tryd.prog [0, 2, 3, 4, 8] Tryd.f40 = some a40 := by kernel_rfl

end Go.Proofs.YtbifjffjibnjjaaDoor
