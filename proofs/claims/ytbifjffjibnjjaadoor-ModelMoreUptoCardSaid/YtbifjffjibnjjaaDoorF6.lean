/-
  The bodies of functions, in the small language: printed by program, proved by the kernel's computing. (Own work.)
-/
import Derived.Test.YtbifjffjibnjjaaDoorAbsU
import Derived.Test.YtbifjffjibnjjaaDoorChecked
namespace Go.Proofs.YtbifjffjibnjjaaDoor
open Go Go.Abs

/- bushel/bushellaw17.ModelMore -/
def a4 : AFun := ⟨79, [.tmp 8], (.seq (.reg [4, 8] [⟨(some 4), none, .box (.t 0)⟩,
       ⟨(some 8), none, .mv (.c (.bool false))⟩])
  (.seq (.reg [9] [⟨(some 14), none, .call (.c (.fn 13)) []⟩,
       ⟨(some 9), none, .mv (.t 14)⟩])
  (.seq (.reg [10] [⟨(some 15), none, .load (some 8) (.t 4)⟩,
       ⟨(some 16), none, .call (.c (.fn 14)) [(.t 15)]⟩,
       ⟨(some 10), none, .mv (.t 16)⟩])
  (.seq (.reg [11] [⟨(some 17), none, .mv (.t 1)⟩,
       ⟨(some 18), none, .call (.c (.fn 15)) [(.t 17)]⟩,
       ⟨(some 11), none, .mv (.t 18)⟩])
  (.seq (.seq (.reg [45] [⟨(some 19), none, .mv (.t 10)⟩,
        ⟨(some 20), none, .un .not (.t 19)⟩,
        ⟨(some 21), none, .mv (.t 20)⟩,
        ⟨(some 22), (some (21, false)), .mv (.t 11)⟩,
        ⟨(some 23), (some (21, false)), .un .not (.t 22)⟩,
        ⟨(some 24), none, .pick (.t 21) (.c (.bool true)) (.t 23)⟩,
        ⟨(some 25), none, .mv (.t 24)⟩,
        ⟨(some 26), (some (25, false)), .load (some 8) (.t 4)⟩,
        ⟨(some 27), (some (25, false)), .call (.c (.fn 16)) [(.t 26)]⟩,
        ⟨(some 28), (some (25, false)), .bin .gtr .other true (.t 27) (.c (.int .i64 300))⟩,
        ⟨(some 29), none, .pick (.t 25) (.c (.bool true)) (.t 28)⟩,
        ⟨(some 30), none, .mv (.t 29)⟩,
        ⟨(some 31), (some (30, false)), .mv (.t 2)⟩,
        ⟨(some 32), (some (30, false)), .bin .lss .other true (.t 31) (.c (.int .i64 0))⟩,
        ⟨(some 33), none, .pick (.t 30) (.c (.bool true)) (.t 32)⟩,
        ⟨(some 34), none, .mv (.t 33)⟩,
        ⟨(some 35), (some (34, false)), .mv (.t 3)⟩,
        ⟨(some 36), (some (34, false)), .bin .lss .other true (.t 35) (.c (.int .i64 0))⟩,
        ⟨(some 37), none, .pick (.t 34) (.c (.bool true)) (.t 36)⟩,
        ⟨(some 38), none, .mv (.t 37)⟩,
        ⟨(some 39), (some (38, false)), .mv (.t 2)⟩,
        ⟨(some 40), (some (38, false)), .bin .gtr .other true (.t 39) (.c (.int .i64 2000))⟩,
        ⟨(some 41), none, .pick (.t 38) (.c (.bool true)) (.t 40)⟩,
        ⟨(some 42), none, .mv (.t 41)⟩,
        ⟨(some 43), (some (42, false)), .mv (.t 3)⟩,
        ⟨(some 44), (some (42, false)), .bin .gtr .other true (.t 43) (.c (.int .i64 2000))⟩,
        ⟨(some 45), none, .pick (.t 42) (.c (.bool true)) (.t 44)⟩])
   (.cond (.t 45) (.seq (.reg [8] [⟨(some 46), none, .mv (.t 9)⟩,
          ⟨(some 8), none, .mv (.t 46)⟩])
     .ret)
   .skip))
  (.seq (.reg [12] [⟨(some 47), none, .load (some 8) (.t 4)⟩,
       ⟨(some 48), none, .mv (.t 1)⟩,
       ⟨(some 49), none, .mv (.t 2)⟩,
       ⟨(some 50), none, .call (.c (.fn 17)) [(.t 47), (.t 48), (.t 49)]⟩,
       ⟨(some 12), none, .alloc [(.int .i64 0), (.int .i64 0), (.str []), .snil]⟩,
       ⟨none, none, .store 4 (.t 12) (.t 50)⟩])
  (.seq (.reg [13] [⟨(some 51), none, .load (some 8) (.t 4)⟩,
       ⟨(some 52), none, .mv (.t 1)⟩,
       ⟨(some 53), none, .mv (.t 2)⟩,
       ⟨(some 54), none, .mv (.t 3)⟩,
       ⟨(some 55), none, .bin .add .other false (.t 53) (.t 54)⟩,
       ⟨(some 56), none, .call (.c (.fn 17)) [(.t 51), (.t 52), (.t 55)]⟩,
       ⟨(some 13), none, .alloc [(.int .i64 0), (.int .i64 0), (.str []), .snil]⟩,
       ⟨none, none, .store 4 (.t 13) (.t 56)⟩])
  (.seq (.seq (.reg [59] [⟨(some 57), none, .faddr 0 (.t 12)⟩,
        ⟨(some 58), none, .load none (.t 57)⟩,
        ⟨(some 59), none, .bin .eql .other true (.t 58) (.c (.int .i64 8))⟩])
   (.cond (.t 59) (.seq (.reg [8] [⟨(some 60), none, .mv (.t 9)⟩,
          ⟨(some 61), none, .mv (.t 60)⟩,
          ⟨(some 62), (some (61, true)), .faddr 3 (.t 13)⟩,
          ⟨(some 63), (some (61, true)), .load none (.t 62)⟩,
          ⟨(some 64), (some (61, true)), .faddr 3 (.t 12)⟩,
          ⟨(some 65), (some (61, true)), .load none (.t 64)⟩,
          ⟨(some 66), (some (61, true)), .call (.c (.fn 11)) [(.t 63), (.t 65)]⟩,
          ⟨(some 67), none, .pick (.t 61) (.t 66) (.c (.bool false))⟩,
          ⟨(some 68), none, .mv (.t 67)⟩,
          ⟨(some 69), (some (68, true)), .faddr 2 (.t 12)⟩,
          ⟨(some 70), (some (68, true)), .load none (.t 69)⟩,
          ⟨(some 71), (some (68, true)), .bin .eql .other true (.t 70) (.c (.str []))⟩,
          ⟨(some 72), none, .pick (.t 68) (.t 71) (.c (.bool false))⟩,
          ⟨(some 8), none, .mv (.t 72)⟩])
     .ret)
   .skip))
  (.seq (.reg [8] [⟨(some 73), none, .mv (.t 9)⟩,
       ⟨(some 74), none, .mv (.t 73)⟩,
       ⟨(some 75), (some (74, true)), .load (some 4) (.t 12)⟩,
       ⟨(some 76), (some (74, true)), .load (some 4) (.t 13)⟩,
       ⟨(some 77), (some (74, true)), .call (.c (.fn 12)) [(.t 75), (.t 76)]⟩,
       ⟨(some 78), none, .pick (.t 74) (.t 77) (.c (.bool false))⟩,
       ⟨(some 8), none, .mv (.t 78)⟩])
  .ret)))))))))⟩
theorem c4 : compF Tryd.prog [0, 1, 2, 3, 4, 8, 9, 10, 11, 12, 13, 45, 59] Tryd.f4 = some a4 := by kernel_rfl

/- bushel/bushellaw17.up -/
def a13 : AFun := ⟨27, [.tmp 0], (.seq (.reg [0] [⟨(some 0), none, .mv (.c (.bool false))⟩])
  (.seq (.reg [1] [⟨(some 4), none, .build [(.int .i64 0), (.int .i64 0), (.int .i64 0), (.str []), (.str []), .snil, .snil, .snil] [(0, 1, (.c (.int .i64 8)))]⟩,
       ⟨(some 1), none, .alloc [(.int .i64 0), (.int .i64 0), (.int .i64 0), (.str []), (.str []), .snil, .snil, .snil]⟩,
       ⟨none, none, .store 8 (.t 1) (.t 4)⟩])
  (.seq (.reg [2] [⟨(some 5), none, .build [(.int .i64 0), (.int .i64 0), (.int .i64 0), (.str []), (.str []), .snil, .snil, .snil] [(0, 1, (.c (.int .i64 1))), (2, 1, (.c (.int .i64 1)))]⟩,
       ⟨(some 6), none, .load (some 8) (.t 1)⟩,
       ⟨(some 7), none, .mksl (some 8) [(.t 5), (.t 6)]⟩,
       ⟨(some 8), none, .build [(.int .i64 0), (.int .i64 0), (.int .i64 0), (.str []), (.str []), .snil, .snil, .snil] [(0, 1, (.c (.int .i64 10))), (3, 1, (.c (.str [97]))), (7, 1, (.t 7))]⟩,
       ⟨(some 9), none, .call (.c (.fn 17)) [(.t 8), (.c .snil), (.c (.int .i64 9))]⟩,
       ⟨(some 2), none, .alloc [(.int .i64 0), (.int .i64 0), (.str []), .snil]⟩,
       ⟨none, none, .store 4 (.t 2) (.t 9)⟩])
  (.seq (.reg [3] [⟨(some 10), none, .load (some 8) (.t 1)⟩,
       ⟨(some 11), none, .mksl (some 8) [(.t 10)]⟩,
       ⟨(some 12), none, .build [(.int .i64 0), (.int .i64 0), (.int .i64 0), (.str []), (.str []), .snil, .snil, .snil] [(0, 1, (.c (.int .i64 9))), (3, 1, (.c (.str [97]))), (7, 1, (.t 11))]⟩,
       ⟨(some 13), none, .call (.c (.fn 17)) [(.t 12), (.c .snil), (.c (.int .i64 9))]⟩,
       ⟨(some 3), none, .alloc [(.int .i64 0), (.int .i64 0), (.str []), .snil]⟩,
       ⟨none, none, .store 4 (.t 3) (.t 13)⟩])
  (.seq (.reg [0] [⟨(some 14), none, .faddr 0 (.t 2)⟩,
       ⟨(some 15), none, .load none (.t 14)⟩,
       ⟨(some 16), none, .bin .eql .other true (.t 15) (.c (.int .i64 0))⟩,
       ⟨(some 17), none, .mv (.t 16)⟩,
       ⟨(some 18), (some (17, true)), .faddr 2 (.t 2)⟩,
       ⟨(some 19), (some (17, true)), .load none (.t 18)⟩,
       ⟨(some 20), (some (17, true)), .bin .eql .other true (.t 19) (.c (.str [123, 97, 32, 61, 32, 49, 125]))⟩,
       ⟨(some 21), none, .pick (.t 17) (.t 20) (.c (.bool false))⟩,
       ⟨(some 22), none, .mv (.t 21)⟩,
       ⟨(some 23), (some (22, true)), .faddr 0 (.t 3)⟩,
       ⟨(some 24), (some (22, true)), .load none (.t 23)⟩,
       ⟨(some 25), (some (22, true)), .bin .eql .other true (.t 24) (.c (.int .i64 11))⟩,
       ⟨(some 26), none, .pick (.t 22) (.t 25) (.c (.bool false))⟩,
       ⟨(some 0), none, .mv (.t 26)⟩])
  .ret)))))⟩
theorem c13 : compF Tryd.prog [0, 1, 2, 3] Tryd.f13 = some a13 := by kernel_rfl

/- bushel/bushelref05.Few -/
def a14 : AFun := ⟨6, [.tmp 2], (.seq (.reg [1, 2] [⟨(some 1), none, .box (.t 0)⟩,
       ⟨(some 2), none, .mv (.c (.bool false))⟩])
  (.seq (.reg [2] [⟨(some 3), none, .load (some 8) (.t 1)⟩,
       ⟨(some 4), none, .call (.c (.fn 33)) [(.t 3), (.c (.int .i64 20000))]⟩,
       ⟨(some 5), none, .bin .geq .other true (.t 4) (.c (.int .i64 0))⟩,
       ⟨(some 2), none, .mv (.t 5)⟩])
  .ret))⟩
theorem c14 : compF Tryd.prog [0, 1, 2] Tryd.f14 = some a14 := by kernel_rfl

/- bushel/bushellaw17.lines -/
def a15 : AFun := ⟨19, [.tmp 2], (.seq (.reg [2] [⟨(some 2), none, .mv (.c (.bool false))⟩])
  (.seq (.seq (.reg [3] [⟨(some 3), none, .mv (.c (.int .i64 0))⟩])
   (.block 0 (.loop (.seq (.seq (.reg [7] [⟨(some 4), none, .mv (.t 3)⟩,
           ⟨(some 5), none, .mv (.t 0)⟩,
           ⟨(some 6), none, .len .sl (.t 5)⟩,
           ⟨(some 7), none, .bin .lss .other false (.t 4) (.t 6)⟩])
      (.cond (.t 7) .skip
      (.exit 0)))
     (.seq (.block 1 (.seq (.reg [15] [⟨(some 10), none, .mv (.t 0)⟩,
            ⟨(some 11), none, .mv (.t 3)⟩,
            ⟨(some 12), none, .iaddr none (.t 10) (.t 11)⟩,
            ⟨(some 13), none, .load none (.t 12)⟩,
            ⟨(some 14), none, .len .str (.t 13)⟩,
            ⟨(some 15), none, .bin .gtr .other true (.t 14) (.c (.int .i64 3000))⟩])
       (.cond (.t 15) (.seq (.reg [2] [⟨(some 2), none, .mv (.c (.bool false))⟩])
         .ret)
       .skip)))
     (.reg [3] [⟨(some 8), none, .mv (.t 3)⟩,
         ⟨(some 9), none, .bin .add .other true (.t 8) (.c (.int .i64 1))⟩,
         ⟨(some 3), none, .mv (.t 9)⟩]))))))
  (.seq (.reg [2] [⟨(some 16), none, .mv (.t 0)⟩,
       ⟨(some 17), none, .len .sl (.t 16)⟩,
       ⟨(some 18), none, .bin .leq .other true (.t 17) (.c (.int .i64 20))⟩,
       ⟨(some 2), none, .mv (.t 18)⟩])
  .ret)))⟩
theorem c15 : compF Tryd.prog [0, 2, 3, 7, 15] Tryd.f15 = some a15 := by kernel_rfl

/- bushel/bushelref05.Nodes -/
def a16 : AFun := ⟨21, [.tmp 2], (.seq (.reg [1, 2] [⟨(some 1), none, .box (.t 0)⟩,
       ⟨(some 2), none, .mv (.c (.int .i64 0))⟩])
  (.seq (.reg [3] [⟨(some 3), none, .mv (.c (.int .i64 1))⟩])
  (.seq (.seq (.reg [4] [⟨(some 4), none, .mv (.c (.int .i64 0))⟩])
   (.block 0 (.loop (.seq (.seq (.reg [9] [⟨(some 5), none, .mv (.t 4)⟩,
           ⟨(some 6), none, .faddr 7 (.t 1)⟩,
           ⟨(some 7), none, .load none (.t 6)⟩,
           ⟨(some 8), none, .len .sl (.t 7)⟩,
           ⟨(some 9), none, .bin .lss .other false (.t 5) (.t 8)⟩])
      (.cond (.t 9) .skip
      (.exit 0)))
     (.seq (.block 1 (.reg [3] [⟨(some 12), none, .mv (.t 3)⟩,
           ⟨(some 13), none, .faddr 7 (.t 1)⟩,
           ⟨(some 14), none, .load none (.t 13)⟩,
           ⟨(some 15), none, .mv (.t 4)⟩,
           ⟨(some 16), none, .iaddr (some 8) (.t 14) (.t 15)⟩,
           ⟨(some 17), none, .load (some 8) (.t 16)⟩,
           ⟨(some 18), none, .call (.c (.fn 16)) [(.t 17)]⟩,
           ⟨(some 19), none, .bin .add .other false (.t 12) (.t 18)⟩,
           ⟨(some 3), none, .mv (.t 19)⟩]))
     (.reg [4] [⟨(some 10), none, .mv (.t 4)⟩,
         ⟨(some 11), none, .bin .add .other true (.t 10) (.c (.int .i64 1))⟩,
         ⟨(some 4), none, .mv (.t 11)⟩]))))))
  (.seq (.reg [2] [⟨(some 20), none, .mv (.t 3)⟩,
       ⟨(some 2), none, .mv (.t 20)⟩])
  .ret))))⟩
theorem c16 : compF Tryd.prog [0, 1, 2, 3, 4, 9] Tryd.f16 = some a16 := by kernel_rfl

/- bushel/model.Run -/
def a17 : AFun := ⟨37, [.cell 6 (some 4)], (.seq (.reg [3, 6] [⟨(some 3), none, .box (.t 0)⟩,
       ⟨(some 6), none, .alloc [(.int .i64 0), (.int .i64 0), (.str []), .snil]⟩])
  (.seq (.reg [7] [⟨(some 10), none, .mv (.t 1)⟩,
       ⟨(some 11), none, .mv (.t 2)⟩,
       ⟨(some 12), none, .build [.snil, (.int .i64 0), (.int .i64 0), (.int .i64 0), (.str []), .snil] [(0, 1, (.t 10)), (1, 1, (.t 11))]⟩,
       ⟨(some 13), none, .box (.t 12)⟩,
       ⟨(some 7), none, .mv (.t 13)⟩])
  (.seq (.seq (.reg [8] [⟨(some 14), none, .mv (.t 7)⟩,
        ⟨(some 15), none, .load (some 8) (.t 3)⟩,
        ⟨(some 16), none, .call (.c (.fn 34)) [(.t 14), (.t 15), (.c .pnil)]⟩,
        ⟨(some 8), none, .mv (.t 16)⟩])
   (.seq (.reg [18] [⟨(some 17), none, .mv (.t 8)⟩,
        ⟨(some 18), none, .bin .neq .ptr true (.t 17) (.c .pnil)⟩])
   (.cond (.t 18) (.seq (.reg [9] [⟨(some 19), none, .build [.snil] []⟩,
          ⟨(some 20), none, .box (.t 19)⟩,
          ⟨(some 9), none, .mv (.t 20)⟩])
     (.seq (.reg [] [⟨(some 21), none, .mv (.t 9)⟩,
          ⟨(some 22), none, .mv (.t 8)⟩,
          ⟨(some 23), none, .call (.c (.fn 35)) [(.t 21), (.t 22)]⟩])
     (.reg [] [⟨(some 24), none, .mv (.t 7)⟩,
         ⟨(some 25), none, .mv (.t 9)⟩,
         ⟨(some 26), none, .nilck (.t 25)⟩,
         ⟨(some 27), none, .faddr 0 (.t 26)⟩,
         ⟨(some 28), none, .load none (.t 27)⟩,
         ⟨(some 29), none, .conv .ofBytes (.t 28)⟩,
         ⟨(some 30), none, .nilck (.t 24)⟩,
         ⟨(some 31), none, .faddr 2 (.t 30)⟩,
         ⟨(some 32), none, .faddr 2 (.t 31)⟩,
         ⟨none, none, .store 1 (.t 32) (.t 29)⟩])))
   .skip)))
  (.seq (.reg [] [⟨(some 33), none, .mv (.t 7)⟩,
       ⟨(some 34), none, .nilck (.t 33)⟩,
       ⟨(some 35), none, .faddr 2 (.t 34)⟩,
       ⟨(some 36), none, .load (some 4) (.t 35)⟩,
       ⟨none, none, .store 4 (.t 6) (.t 36)⟩])
  .ret))))⟩
theorem c17 : compF Tryd.prog [0, 1, 2, 3, 6, 7, 8, 9, 18] Tryd.f17 = some a17 := by kernel_rfl

/- bushel/bushelref05.count -/
def a33 : AFun := ⟨69, [.tmp 4], (.seq (.reg [2, 4] [⟨(some 2), none, .box (.t 0)⟩,
       ⟨(some 4), none, .mv (.c (.int .i64 0))⟩])
  (.seq (.reg [1] [⟨(some 8), none, .mv (.t 1)⟩,
       ⟨(some 9), none, .bin .sub .other true (.t 8) (.c (.int .i64 1))⟩,
       ⟨(some 10), none, .faddr 3 (.t 2)⟩,
       ⟨(some 11), none, .load none (.t 10)⟩,
       ⟨(some 12), none, .len .str (.t 11)⟩,
       ⟨(some 13), none, .bin .sub .other false (.t 9) (.t 12)⟩,
       ⟨(some 14), none, .faddr 4 (.t 2)⟩,
       ⟨(some 15), none, .load none (.t 14)⟩,
       ⟨(some 16), none, .len .str (.t 15)⟩,
       ⟨(some 17), none, .bin .sub .other false (.t 13) (.t 16)⟩,
       ⟨(some 1), none, .mv (.t 17)⟩])
  (.seq (.seq (.reg [5] [⟨(some 5), none, .mv (.c (.int .i64 0))⟩])
   (.block 0 (.loop (.seq (.seq (.reg [22] [⟨(some 18), none, .mv (.t 5)⟩,
           ⟨(some 19), none, .faddr 5 (.t 2)⟩,
           ⟨(some 20), none, .load none (.t 19)⟩,
           ⟨(some 21), none, .len .sl (.t 20)⟩,
           ⟨(some 22), none, .bin .lss .other false (.t 18) (.t 21)⟩])
      (.cond (.t 22) .skip
      (.exit 0)))
     (.seq (.block 1 (.reg [1] [⟨(some 25), none, .mv (.t 1)⟩,
           ⟨(some 26), none, .bin .sub .other true (.t 25) (.c (.int .i64 1))⟩,
           ⟨(some 27), none, .faddr 5 (.t 2)⟩,
           ⟨(some 28), none, .load none (.t 27)⟩,
           ⟨(some 29), none, .mv (.t 5)⟩,
           ⟨(some 30), none, .iaddr none (.t 28) (.t 29)⟩,
           ⟨(some 31), none, .load none (.t 30)⟩,
           ⟨(some 32), none, .len .str (.t 31)⟩,
           ⟨(some 33), none, .bin .sub .other false (.t 26) (.t 32)⟩,
           ⟨(some 1), none, .mv (.t 33)⟩]))
     (.reg [5] [⟨(some 23), none, .mv (.t 5)⟩,
         ⟨(some 24), none, .bin .add .other true (.t 23) (.c (.int .i64 1))⟩,
         ⟨(some 5), none, .mv (.t 24)⟩]))))))
  (.seq (.seq (.reg [6] [⟨(some 6), none, .mv (.c (.int .i64 0))⟩])
   (.block 2 (.loop (.seq (.seq (.reg [38] [⟨(some 34), none, .mv (.t 6)⟩,
           ⟨(some 35), none, .faddr 6 (.t 2)⟩,
           ⟨(some 36), none, .load none (.t 35)⟩,
           ⟨(some 37), none, .len .sl (.t 36)⟩,
           ⟨(some 38), none, .bin .lss .other false (.t 34) (.t 37)⟩])
      (.cond (.t 38) .skip
      (.exit 2)))
     (.seq (.block 3 (.reg [1] [⟨(some 41), none, .mv (.t 1)⟩,
           ⟨(some 42), none, .bin .sub .other true (.t 41) (.c (.int .i64 1))⟩,
           ⟨(some 43), none, .faddr 6 (.t 2)⟩,
           ⟨(some 44), none, .load none (.t 43)⟩,
           ⟨(some 45), none, .mv (.t 6)⟩,
           ⟨(some 46), none, .iaddr none (.t 44) (.t 45)⟩,
           ⟨(some 47), none, .load none (.t 46)⟩,
           ⟨(some 48), none, .len .str (.t 47)⟩,
           ⟨(some 49), none, .bin .sub .other false (.t 42) (.t 48)⟩,
           ⟨(some 1), none, .mv (.t 49)⟩]))
     (.reg [6] [⟨(some 39), none, .mv (.t 6)⟩,
         ⟨(some 40), none, .bin .add .other true (.t 39) (.c (.int .i64 1))⟩,
         ⟨(some 6), none, .mv (.t 40)⟩]))))))
  (.seq (.seq (.reg [7] [⟨(some 7), none, .mv (.c (.int .i64 0))⟩])
   (.block 4 (.loop (.seq (.seq (.reg [58] [⟨(some 50), none, .mv (.t 7)⟩,
           ⟨(some 51), none, .faddr 7 (.t 2)⟩,
           ⟨(some 52), none, .load none (.t 51)⟩,
           ⟨(some 53), none, .len .sl (.t 52)⟩,
           ⟨(some 54), none, .bin .lss .other false (.t 50) (.t 53)⟩,
           ⟨(some 55), none, .mv (.t 54)⟩,
           ⟨(some 56), (some (55, true)), .mv (.t 1)⟩,
           ⟨(some 57), (some (55, true)), .bin .geq .other true (.t 56) (.c (.int .i64 0))⟩,
           ⟨(some 58), none, .pick (.t 55) (.t 57) (.c (.bool false))⟩])
      (.cond (.t 58) .skip
      (.exit 4)))
     (.seq (.block 5 (.reg [1] [⟨(some 61), none, .faddr 7 (.t 2)⟩,
           ⟨(some 62), none, .load none (.t 61)⟩,
           ⟨(some 63), none, .mv (.t 7)⟩,
           ⟨(some 64), none, .iaddr (some 8) (.t 62) (.t 63)⟩,
           ⟨(some 65), none, .load (some 8) (.t 64)⟩,
           ⟨(some 66), none, .mv (.t 1)⟩,
           ⟨(some 67), none, .call (.c (.fn 33)) [(.t 65), (.t 66)]⟩,
           ⟨(some 1), none, .mv (.t 67)⟩]))
     (.reg [7] [⟨(some 59), none, .mv (.t 7)⟩,
         ⟨(some 60), none, .bin .add .other true (.t 59) (.c (.int .i64 1))⟩,
         ⟨(some 7), none, .mv (.t 60)⟩]))))))
  (.seq (.reg [4] [⟨(some 68), none, .mv (.t 1)⟩,
       ⟨(some 4), none, .mv (.t 68)⟩])
  .ret))))))⟩
theorem c33 : compF Tryd.prog [0, 1, 2, 4, 5, 6, 7, 22, 38, 58] Tryd.f33 = some a33 := by kernel_rfl

/- (*bushel/model.machine).eval -/
def a34m : AFun := ⟨183, [.tmp 6], (.seq (.reg [4, 6] [⟨(some 4), none, .box (.t 1)⟩,
       ⟨(some 6), none, .mv (.c .pnil)⟩])
  (.seq (.seq (.reg [18] [⟨(some 14), none, .mv (.t 0)⟩,
        ⟨(some 15), none, .nilck (.t 14)⟩,
        ⟨(some 16), none, .faddr 1 (.t 15)⟩,
        ⟨(some 17), none, .load none (.t 16)⟩,
        ⟨(some 18), none, .bin .leq .other true (.t 17) (.c (.int .i64 0))⟩])
   (.cond (.t 18) (.seq (.reg [6] [⟨(some 19), none, .mv (.t 0)⟩,
          ⟨(some 20), none, .call (.c (.fn 55)) [(.t 19), (.c (.int .i64 8)), (.c (.int .i64 0))]⟩,
          ⟨(some 6), none, .mv (.t 20)⟩])
     .ret)
   .skip))
  (.seq (.reg [] [⟨(some 21), none, .mv (.t 0)⟩,
       ⟨(some 22), none, .nilck (.t 21)⟩,
       ⟨(some 23), none, .faddr 1 (.t 22)⟩,
       ⟨(some 24), none, .load none (.t 23)⟩,
       ⟨(some 25), none, .bin .sub .other true (.t 24) (.c (.int .i64 1))⟩,
       ⟨(some 26), none, .nilck (.t 21)⟩,
       ⟨(some 27), none, .faddr 1 (.t 26)⟩,
       ⟨none, none, .store 1 (.t 27) (.t 25)⟩])
  (.seq (.seq (.any [47] [(⟨(some 28), none, .load (some 8) (.t 4)⟩, true),
        (⟨(some 30), none, .faddr 7 (.t 4)⟩, false),
        (⟨(some 31), none, .load none (.t 30)⟩, false),
        (⟨(some 32), none, .len .sl (.t 31)⟩, false),
        (⟨(some 29), none, .call (.c (.fn 56)) [(.t 28)]⟩, false),
        (⟨(some 33), none, .bin .neq .other false (.t 29) (.t 32)⟩, true),
        (⟨(some 34), none, .mv (.t 33)⟩, true),
        (⟨(some 35), (some (34, false)), .faddr 0 (.t 4)⟩, true),
        (⟨(some 36), (some (34, false)), .load none (.t 35)⟩, true),
        (⟨(some 37), (some (34, false)), .bin .eql .other true (.t 36) (.c (.int .i64 14))⟩, true),
        (⟨(some 38), (some (34, false)), .mv (.t 37)⟩, true),
        (⟨(some 39), (some (38, true)), .faddr 6 (.t 4)⟩, true),
        (⟨(some 40), (some (38, true)), .load none (.t 39)⟩, true),
        (⟨(some 41), (some (38, true)), .len .sl (.t 40)⟩, true),
        (⟨(some 42), (some (38, true)), .faddr 5 (.t 4)⟩, false),
        (⟨(some 43), (some (38, true)), .load none (.t 42)⟩, false),
        (⟨(some 44), (some (38, true)), .len .sl (.t 43)⟩, false),
        (⟨(some 45), (some (38, true)), .bin .neq .other false (.t 41) (.t 44)⟩, true),
        (⟨(some 46), (some (34, false)), .pick (.t 38) (.t 45) (.c (.bool false))⟩, true),
        (⟨(some 47), none, .pick (.t 34) (.c (.bool true)) (.t 46)⟩, true)])
   (.cond (.t 47) (.seq (.reg [6] [⟨(some 48), none, .mv (.t 0)⟩,
          ⟨(some 49), none, .call (.c (.fn 57)) [(.t 48)]⟩,
          ⟨(some 6), none, .mv (.t 49)⟩])
     .ret)
   .skip))
  (.seq (.seq (.reg [51] [⟨(some 50), none, .faddr 0 (.t 4)⟩,
        ⟨(some 51), none, .load none (.t 50)⟩])
   (.block 0 (.seq (.reg [52] [⟨(some 53), none, .bin .eql .other true (.t 51) (.c (.int .i64 1))⟩,
         ⟨(some 52), none, .mv (.t 53)⟩])
    (.cond (.t 52) (.seq (.reg [6] [⟨(some 54), none, .faddr 2 (.t 4)⟩,
           ⟨(some 55), none, .load none (.t 54)⟩,
           ⟨(some 56), none, .build [(.int .i64 0), (.int .i64 0), (.str []), .mnil, .pnil, .pnil] [(0, 1, (.c (.int .i64 1))), (1, 1, (.t 55))]⟩,
           ⟨(some 57), none, .ext .ibox [(.t 56)]⟩,
           ⟨(some 6), none, .mv (.t 57)⟩])
      .ret)
    (.seq (.reg [58] [⟨(some 59), none, .bin .eql .other true (.t 51) (.c (.int .i64 2))⟩,
         ⟨(some 58), none, .mv (.t 59)⟩])
    (.cond (.t 58) (.seq (.reg [6] [⟨(some 60), none, .faddr 3 (.t 4)⟩,
           ⟨(some 61), none, .load none (.t 60)⟩,
           ⟨(some 62), none, .build [(.int .i64 0), (.int .i64 0), (.str []), .mnil, .pnil, .pnil] [(0, 1, (.c (.int .i64 2))), (2, 1, (.t 61))]⟩,
           ⟨(some 63), none, .ext .ibox [(.t 62)]⟩,
           ⟨(some 6), none, .mv (.t 63)⟩])
      .ret)
    (.seq (.reg [64] [⟨(some 65), none, .bin .eql .other true (.t 51) (.c (.int .i64 3))⟩,
         ⟨(some 64), none, .mv (.t 65)⟩])
    (.cond (.t 64) (.seq (.seq (.reg [7] [⟨(some 66), none, .mv (.t 2)⟩,
            ⟨(some 7), none, .mv (.t 66)⟩])
       (.block 1 (.loop (.seq (.seq (.reg [68] [⟨(some 67), none, .mv (.t 7)⟩,
               ⟨(some 68), none, .bin .neq .ptr true (.t 67) (.c .pnil)⟩])
          (.cond (.t 68) .skip
          (.exit 1)))
         (.seq (.block 2 (.seq (.any [79] [(⟨(some 73), none, .mv (.t 7)⟩, true),
                (⟨(some 74), none, .nilck (.t 73)⟩, true),
                (⟨(some 75), none, .faddr 0 (.t 74)⟩, true),
                (⟨(some 76), none, .load none (.t 75)⟩, true),
                (⟨(some 77), none, .faddr 3 (.t 4)⟩, false),
                (⟨(some 78), none, .load none (.t 77)⟩, false),
                (⟨(some 79), none, .bin .eql .other false (.t 76) (.t 78)⟩, true)])
           (.cond (.t 79) (.seq (.reg [6] [⟨(some 80), none, .mv (.t 7)⟩,
                  ⟨(some 81), none, .nilck (.t 80)⟩,
                  ⟨(some 82), none, .faddr 1 (.t 81)⟩,
                  ⟨(some 83), none, .load none (.t 82)⟩,
                  ⟨(some 6), none, .mv (.t 83)⟩])
             .ret)
           .skip)))
         (.reg [7] [⟨(some 69), none, .mv (.t 7)⟩,
             ⟨(some 70), none, .nilck (.t 69)⟩,
             ⟨(some 71), none, .faddr 2 (.t 70)⟩,
             ⟨(some 72), none, .load none (.t 71)⟩,
             ⟨(some 7), none, .mv (.t 72)⟩]))))))
      (.seq (.reg [6] [⟨(some 84), none, .mv (.t 0)⟩,
           ⟨(some 85), none, .call (.c (.fn 57)) [(.t 84)]⟩,
           ⟨(some 6), none, .mv (.t 85)⟩])
      .ret))
    (.seq (.reg [86] [⟨(some 87), none, .bin .eql .other true (.t 51) (.c (.int .i64 4))⟩,
         ⟨(some 86), none, .mv (.t 87)⟩])
    (.cond (.t 86) (.seq (.any [6] [(⟨(some 88), none, .faddr 3 (.t 4)⟩, true),
           (⟨(some 89), none, .load none (.t 88)⟩, true),
           (⟨(some 90), none, .faddr 7 (.t 4)⟩, false),
           (⟨(some 91), none, .load none (.t 90)⟩, false),
           (⟨(some 92), none, .iaddr (some 8) (.t 91) (.c (.int .i64 0))⟩, false),
           (⟨(some 93), none, .load (some 8) (.t 92)⟩, false),
           (⟨(some 94), none, .mv (.t 2)⟩, false),
           (⟨(some 95), none, .build [(.bool false), (.str []), (.str []), (.int .i64 0), (.int .i64 0), (.int .i64 0), (.str []), (.str []), .snil, .snil, .snil, .pnil] [(0, 1, (.c (.bool false))), (1, 1, (.c (.str []))), (2, 1, (.t 89)), (3, 8, (.t 93)), (11, 1, (.t 94))]⟩, true),
           (⟨(some 96), none, .ext .ibox [(.t 95)]⟩, true),
           (⟨(some 97), none, .build [(.int .i64 0), (.int .i64 0), (.str []), .mnil, .pnil, .pnil] [(0, 1, (.c (.int .i64 3))), (5, 1, (.t 96))]⟩, true),
           (⟨(some 98), none, .ext .ibox [(.t 97)]⟩, true),
           (⟨(some 6), none, .mv (.t 98)⟩, true)])
      .ret)
    (.seq (.reg [99] [⟨(some 100), none, .bin .eql .other true (.t 51) (.c (.int .i64 6))⟩,
         ⟨(some 99), none, .mv (.t 100)⟩])
    (.cond (.t 99) (.seq (.reg [8] [⟨(some 101), none, .mv (.t 0)⟩,
           ⟨(some 102), none, .faddr 7 (.t 4)⟩,
           ⟨(some 103), none, .load none (.t 102)⟩,
           ⟨(some 104), none, .iaddr (some 8) (.t 103) (.c (.int .i64 0))⟩,
           ⟨(some 105), none, .load (some 8) (.t 104)⟩,
           ⟨(some 106), none, .mv (.t 2)⟩,
           ⟨(some 107), none, .call (.c (.fn 34)) [(.t 101), (.t 105), (.t 106)]⟩,
           ⟨(some 8), none, .mv (.t 107)⟩])
      (.seq (.seq (.reg [109] [⟨(some 108), none, .mv (.t 8)⟩,
            ⟨(some 109), none, .bin .eql .ptr true (.t 108) (.c .pnil)⟩])
       (.cond (.t 109) (.seq (.reg [6] [⟨(some 6), none, .mv (.c .pnil)⟩])
         .ret)
       .skip))
      (.seq (.any [6] [(⟨(some 110), none, .mv (.t 0)⟩, true),
           (⟨(some 111), none, .faddr 7 (.t 4)⟩, false),
           (⟨(some 112), none, .load none (.t 111)⟩, false),
           (⟨(some 113), none, .iaddr (some 8) (.t 112) (.c (.int .i64 1))⟩, false),
           (⟨(some 114), none, .load (some 8) (.t 113)⟩, false),
           (⟨(some 115), none, .faddr 3 (.t 4)⟩, false),
           (⟨(some 116), none, .load none (.t 115)⟩, false),
           (⟨(some 117), none, .mv (.t 8)⟩, false),
           (⟨(some 118), none, .mv (.t 2)⟩, false),
           (⟨(some 119), none, .build [(.str []), .pnil, .pnil] [(0, 1, (.t 116)), (1, 1, (.t 117)), (2, 1, (.t 118))]⟩, false),
           (⟨(some 120), none, .ext .ibox [(.t 119)]⟩, false),
           (⟨(some 121), none, .call (.c (.fn 34)) [(.t 110), (.t 114), (.t 120)]⟩, true),
           (⟨(some 6), none, .mv (.t 121)⟩, true)])
      .ret)))
    (.seq (.reg [122] [⟨(some 123), none, .bin .eql .other true (.t 51) (.c (.int .i64 7))⟩,
         ⟨(some 122), none, .mv (.t 123)⟩])
    (.cond (.t 122) (.seq (.any [9] [(⟨(some 124), none, .faddr 3 (.t 4)⟩, true),
           (⟨(some 125), none, .load none (.t 124)⟩, true),
           (⟨(some 126), none, .faddr 4 (.t 4)⟩, false),
           (⟨(some 127), none, .load none (.t 126)⟩, false),
           (⟨(some 128), none, .faddr 7 (.t 4)⟩, false),
           (⟨(some 129), none, .load none (.t 128)⟩, false),
           (⟨(some 130), none, .iaddr (some 8) (.t 129) (.c (.int .i64 0))⟩, false),
           (⟨(some 131), none, .load (some 8) (.t 130)⟩, false),
           (⟨(some 132), none, .mv (.t 2)⟩, false),
           (⟨(some 133), none, .build [(.bool false), (.str []), (.str []), (.int .i64 0), (.int .i64 0), (.int .i64 0), (.str []), (.str []), .snil, .snil, .snil, .pnil] [(0, 1, (.c (.bool true))), (1, 1, (.t 125)), (2, 1, (.t 127)), (3, 8, (.t 131)), (11, 1, (.t 132))]⟩, true),
           (⟨(some 134), none, .ext .ibox [(.t 133)]⟩, true),
           (⟨(some 135), none, .build [(.int .i64 0), (.int .i64 0), (.str []), .mnil, .pnil, .pnil] [(0, 1, (.c (.int .i64 3))), (5, 1, (.t 134))]⟩, true),
           (⟨(some 136), none, .ext .ibox [(.t 135)]⟩, true),
           (⟨(some 9), none, .mv (.t 136)⟩, true)])
      (.seq (.any [6] [(⟨(some 137), none, .mv (.t 0)⟩, true),
           (⟨(some 138), none, .faddr 7 (.t 4)⟩, false),
           (⟨(some 139), none, .load none (.t 138)⟩, false),
           (⟨(some 140), none, .iaddr (some 8) (.t 139) (.c (.int .i64 1))⟩, false),
           (⟨(some 141), none, .load (some 8) (.t 140)⟩, false),
           (⟨(some 142), none, .faddr 3 (.t 4)⟩, false),
           (⟨(some 143), none, .load none (.t 142)⟩, false),
           (⟨(some 144), none, .mv (.t 9)⟩, false),
           (⟨(some 145), none, .mv (.t 2)⟩, false),
           (⟨(some 146), none, .build [(.str []), .pnil, .pnil] [(0, 1, (.t 143)), (1, 1, (.t 144)), (2, 1, (.t 145))]⟩, false),
           (⟨(some 147), none, .ext .ibox [(.t 146)]⟩, false),
           (⟨(some 148), none, .call (.c (.fn 34)) [(.t 137), (.t 141), (.t 147)]⟩, true),
           (⟨(some 6), none, .mv (.t 148)⟩, true)])
      .ret))
    (.seq (.reg [149] [⟨(some 150), none, .bin .eql .other true (.t 51) (.c (.int .i64 15))⟩,
         ⟨(some 149), none, .mv (.t 150)⟩])
    (.cond (.t 149) (.seq (.reg [6] [⟨(some 151), none, .mv (.t 0)⟩,
           ⟨(some 152), none, .load (some 8) (.t 4)⟩,
           ⟨(some 153), none, .mv (.t 2)⟩,
           ⟨(some 154), none, .call (.c (.fn 58)) [(.t 151), (.t 152), (.t 153)]⟩,
           ⟨(some 6), none, .mv (.t 154)⟩])
      .ret)
    (.seq (.reg [155] [⟨(some 156), none, .bin .eql .other true (.t 51) (.c (.int .i64 14))⟩,
         ⟨(some 155), none, .mv (.t 156)⟩])
    (.cond (.t 155) (.seq (.reg [6] [⟨(some 157), none, .mv (.t 0)⟩,
           ⟨(some 158), none, .load (some 8) (.t 4)⟩,
           ⟨(some 159), none, .mv (.t 2)⟩,
           ⟨(some 160), none, .call (.c (.fn 59)) [(.t 157), (.t 158), (.t 159)]⟩,
           ⟨(some 6), none, .mv (.t 160)⟩])
      .ret)
    .skip))))))))))))))))))
  (.seq (.reg [10] [⟨(some 10), none, .mv (.c .snil)⟩])
  (.seq (.seq (.reg [162, 163, 164] [⟨(some 161), none, .faddr 7 (.t 4)⟩,
        ⟨(some 162), none, .load none (.t 161)⟩,
        ⟨(some 163), none, .len .sl (.t 162)⟩,
        ⟨(some 164), none, .mv (.c (.int .i64 0))⟩])
   (.block 3 (.loop (.seq (.reg [165] [⟨(some 165), none, .bin .lss .other false (.t 164) (.t 163)⟩])
     (.seq (.cond (.t 165) .skip
      (.exit 3))
     (.seq (.block 4 (.seq (.reg [12] [⟨(some 166), none, .iaddr (some 8) (.t 162) (.t 164)⟩,
            ⟨(some 167), none, .load (some 8) (.t 166)⟩,
            ⟨(some 12), none, .alloc [(.int .i64 0), (.int .i64 0), (.int .i64 0), (.str []), (.str []), .snil, .snil, .snil]⟩,
            ⟨none, none, .store 8 (.t 12) (.t 167)⟩])
       (.seq (.reg [13] [⟨(some 168), none, .mv (.t 0)⟩,
            ⟨(some 169), none, .load (some 8) (.t 12)⟩,
            ⟨(some 170), none, .mv (.t 2)⟩,
            ⟨(some 171), none, .call (.c (.fn 34)) [(.t 168), (.t 169), (.t 170)]⟩,
            ⟨(some 13), none, .mv (.t 171)⟩])
       (.seq (.seq (.reg [173] [⟨(some 172), none, .mv (.t 13)⟩,
             ⟨(some 173), none, .bin .eql .ptr true (.t 172) (.c .pnil)⟩])
        (.cond (.t 173) (.seq (.reg [6] [⟨(some 6), none, .mv (.c .pnil)⟩])
          .ret)
        .skip))
       (.reg [10] [⟨(some 174), none, .mv (.t 10)⟩,
           ⟨(some 175), none, .mv (.t 13)⟩,
           ⟨(some 176), none, .mksl none [(.t 175)]⟩,
           ⟨(some 177), none, .append none 8 (.t 174) (.t 176)⟩,
           ⟨(some 10), none, .mv (.t 177)⟩])))))
     (.reg [164] [⟨(some 178), none, .bin .add .other true (.t 164) (.c (.int .i64 1))⟩,
         ⟨(some 164), none, .mv (.t 178)⟩])))))))
  (.seq (.reg [6] [⟨(some 179), none, .mv (.t 0)⟩,
       ⟨(some 180), none, .load (some 8) (.t 4)⟩,
       ⟨(some 181), none, .mv (.t 10)⟩,
       ⟨(some 182), none, .call (.c (.fn 60)) [(.t 179), (.t 180), (.t 181)]⟩,
       ⟨(some 6), none, .mv (.t 182)⟩])
  .ret))))))))⟩
theorem c34m : compF Tryd.prog [0, 1, 2, 4, 6, 7, 8, 9, 10, 12, 13, 18, 47, 51, 52, 58, 64, 68, 79, 86, 99, 109, 122, 149, 155, 162, 163, 164, 165, 173] Tryd.f34 [57, 63, 96, 98, 120, 134, 136, 147] = some a34m := by kernel_rfl

/- (*bushel/model.writer).text -/
def a35m : AFun := ⟨63, [], (.seq (.seq (.reg [5] [⟨(some 4), none, .mv (.t 0)⟩,
        ⟨(some 5), none, .call (.c (.fn 61)) [(.t 4)]⟩])
   (.cond (.t 5) .ret
   .skip))
  (.seq (.reg [9] [⟨(some 6), none, .mv (.t 1)⟩,
       ⟨(some 7), none, .nilck (.t 6)⟩,
       ⟨(some 8), none, .faddr 0 (.t 7)⟩,
       ⟨(some 9), none, .ext (.ldk none) [(.t 8)]⟩])
  (.block 0 (.seq (.reg [10] [⟨(some 11), none, .bin .eql .other true (.t 9) (.c (.int .i64 1))⟩,
        ⟨(some 10), none, .mv (.t 11)⟩])
   (.cond (.t 10) (.reg [] [⟨(some 12), none, .mv (.t 0)⟩,
         ⟨(some 13), none, .mv (.t 1)⟩,
         ⟨(some 14), none, .nilck (.t 13)⟩,
         ⟨(some 15), none, .faddr 1 (.t 14)⟩,
         ⟨(some 16), none, .load none (.t 15)⟩,
         ⟨(some 17), none, .call (.c (.fn 63)) [(.t 16), (.c (.int .i64 10))]⟩,
         ⟨(some 18), none, .call (.c (.fn 62)) [(.t 12), (.t 17)]⟩])
   (.seq (.reg [19] [⟨(some 20), none, .bin .eql .other true (.t 9) (.c (.int .i64 2))⟩,
        ⟨(some 19), none, .mv (.t 20)⟩])
   (.cond (.t 19) (.reg [] [⟨(some 21), none, .mv (.t 0)⟩,
         ⟨(some 22), none, .mv (.t 1)⟩,
         ⟨(some 23), none, .nilck (.t 22)⟩,
         ⟨(some 24), none, .faddr 2 (.t 23)⟩,
         ⟨(some 25), none, .load none (.t 24)⟩,
         ⟨(some 26), none, .call (.c (.fn 64)) [(.t 21), (.t 25)]⟩])
   (.seq (.reg [27] [⟨(some 28), none, .bin .eql .other true (.t 9) (.c (.int .i64 3))⟩,
        ⟨(some 27), none, .mv (.t 28)⟩])
   (.cond (.t 27) (.reg [] [⟨(some 29), none, .mv (.t 0)⟩,
         ⟨(some 30), none, .call (.c (.fn 62)) [(.t 29), (.c (.str [102, 110]))]⟩])
   (.seq (.reg [31] [⟨(some 32), none, .bin .eql .other true (.t 9) (.c (.int .i64 4))⟩,
        ⟨(some 31), none, .mv (.t 32)⟩])
   (.cond (.t 31) (.reg [] [⟨(some 33), none, .mv (.t 0)⟩,
         ⟨(some 34), none, .mv (.t 1)⟩,
         ⟨(some 35), none, .call (.c (.fn 65)) [(.t 33), (.t 34)]⟩])
   (.seq (.reg [36] [⟨(some 37), none, .bin .eql .other true (.t 9) (.c (.int .i64 5))⟩,
        ⟨(some 36), none, .mv (.t 37)⟩])
   (.cond (.t 36) (.seq (.reg [] [⟨(some 38), none, .mv (.t 0)⟩,
          ⟨(some 39), none, .mv (.t 1)⟩,
          ⟨(some 40), none, .nilck (.t 39)⟩,
          ⟨(some 41), none, .faddr 2 (.t 40)⟩,
          ⟨(some 42), none, .load none (.t 41)⟩,
          ⟨(some 43), none, .bin .add .other true (.t 42) (.c (.str [32]))⟩,
          ⟨(some 44), none, .call (.c (.fn 62)) [(.t 38), (.t 43)]⟩])
     (.reg [] [⟨(some 45), none, .mv (.t 0)⟩,
         ⟨(some 46), none, .mv (.t 1)⟩,
         ⟨(some 47), none, .nilck (.t 46)⟩,
         ⟨(some 48), none, .faddr 4 (.t 47)⟩,
         ⟨(some 49), none, .load none (.t 48)⟩,
         ⟨(some 50), none, .mksl none [(.c (.int .i64 5))]⟩,
         ⟨(some 51), none, .call (.c (.fn 66)) [(.t 45), (.t 49), (.t 50)]⟩]))
   (.seq (.reg [52] [⟨(some 53), none, .bin .eql .other true (.t 9) (.c (.int .i64 6))⟩,
        ⟨(some 52), none, .mv (.t 53)⟩])
   (.cond (.t 52) (.seq (.reg [] [⟨(some 54), none, .mv (.t 0)⟩,
          ⟨(some 55), none, .call (.c (.fn 62)) [(.t 54), (.c (.str [114, 101, 102, 32]))]⟩])
     (.reg [] [⟨(some 56), none, .mv (.t 0)⟩,
         ⟨(some 57), none, .mv (.t 1)⟩,
         ⟨(some 58), none, .nilck (.t 57)⟩,
         ⟨(some 59), none, .faddr 4 (.t 58)⟩,
         ⟨(some 60), none, .load none (.t 59)⟩,
         ⟨(some 61), none, .mksl none [(.c (.int .i64 5)), (.c (.int .i64 6))]⟩,
         ⟨(some 62), none, .call (.c (.fn 66)) [(.t 56), (.t 60), (.t 61)]⟩]))
   .skip)))))))))))))))⟩
theorem c35m : compF Tryd.prog [0, 1, 5, 9, 10, 19, 27, 31, 36, 52] Tryd.f35 [9] = some a35m := by kernel_rfl

/- (*bushel/model.machine).end -/
def a55 : AFun := ⟨23, [.tmp 6], (.seq (.reg [6] [⟨(some 6), none, .mv (.c .pnil)⟩])
  (.seq (.seq (.reg [12] [⟨(some 7), none, .mv (.t 0)⟩,
        ⟨(some 8), none, .nilck (.t 7)⟩,
        ⟨(some 9), none, .faddr 2 (.t 8)⟩,
        ⟨(some 10), none, .faddr 0 (.t 9)⟩,
        ⟨(some 11), none, .load none (.t 10)⟩,
        ⟨(some 12), none, .bin .eql .other true (.t 11) (.c (.int .i64 0))⟩])
   (.cond (.t 12) (.reg [] [⟨(some 13), none, .mv (.t 0)⟩,
         ⟨(some 14), none, .mv (.t 0)⟩,
         ⟨(some 15), none, .mv (.t 1)⟩,
         ⟨(some 16), none, .mv (.t 2)⟩,
         ⟨(some 17), none, .nilck (.t 13)⟩,
         ⟨(some 18), none, .faddr 2 (.t 17)⟩,
         ⟨(some 19), none, .faddr 0 (.t 18)⟩,
         ⟨none, none, .store 1 (.t 19) (.t 15)⟩,
         ⟨(some 20), none, .nilck (.t 14)⟩,
         ⟨(some 21), none, .faddr 2 (.t 20)⟩,
         ⟨(some 22), none, .faddr 1 (.t 21)⟩,
         ⟨none, none, .store 1 (.t 22) (.t 16)⟩])
   .skip))
  (.seq (.reg [6] [⟨(some 6), none, .mv (.c .pnil)⟩])
  .ret)))⟩
theorem c55 : compF Tryd.prog [0, 1, 2, 6, 12] Tryd.f55 = some a55 := by kernel_rfl

/- bushel/model.parts -/
def a56 : AFun := ⟨47, [.tmp 2], (.seq (.reg [1, 2] [⟨(some 1), none, .box (.t 0)⟩,
       ⟨(some 2), none, .mv (.c (.int .i64 0))⟩])
  (.seq (.seq (.reg [5] [⟨(some 4), none, .faddr 0 (.t 1)⟩,
        ⟨(some 5), none, .load none (.t 4)⟩])
   (.block 0 (.seq (.seq (.reg [6] [⟨(some 7), none, .bin .eql .other true (.t 5) (.c (.int .i64 1))⟩,
          ⟨(some 6), none, .mv (.t 7)⟩])
     (.cond (.t 6) .skip
     (.seq (.reg [6] [⟨(some 8), none, .bin .eql .other true (.t 5) (.c (.int .i64 2))⟩,
          ⟨(some 6), none, .mv (.t 8)⟩])
     (.cond (.t 6) .skip
     (.seq (.reg [6] [⟨(some 9), none, .bin .eql .other true (.t 5) (.c (.int .i64 3))⟩,
          ⟨(some 6), none, .mv (.t 9)⟩])
     (.cond (.t 6) .skip
     (.reg [6] [⟨(some 10), none, .bin .eql .other true (.t 5) (.c (.int .i64 22))⟩,
         ⟨(some 6), none, .mv (.t 10)⟩])))))))
    (.cond (.t 6) (.seq (.reg [2] [⟨(some 2), none, .mv (.c (.int .i64 0))⟩])
      .ret)
    (.seq (.seq (.reg [11] [⟨(some 12), none, .bin .eql .other true (.t 5) (.c (.int .i64 4))⟩,
          ⟨(some 11), none, .mv (.t 12)⟩])
     (.cond (.t 11) .skip
     (.seq (.reg [11] [⟨(some 13), none, .bin .eql .other true (.t 5) (.c (.int .i64 9))⟩,
          ⟨(some 11), none, .mv (.t 13)⟩])
     (.cond (.t 11) .skip
     (.seq (.reg [11] [⟨(some 14), none, .bin .eql .other true (.t 5) (.c (.int .i64 11))⟩,
          ⟨(some 11), none, .mv (.t 14)⟩])
     (.cond (.t 11) .skip
     (.seq (.reg [11] [⟨(some 15), none, .bin .eql .other true (.t 5) (.c (.int .i64 13))⟩,
          ⟨(some 11), none, .mv (.t 15)⟩])
     (.cond (.t 11) .skip
     (.seq (.reg [11] [⟨(some 16), none, .bin .eql .other true (.t 5) (.c (.int .i64 17))⟩,
          ⟨(some 11), none, .mv (.t 16)⟩])
     (.cond (.t 11) .skip
     (.seq (.reg [11] [⟨(some 17), none, .bin .eql .other true (.t 5) (.c (.int .i64 18))⟩,
          ⟨(some 11), none, .mv (.t 17)⟩])
     (.cond (.t 11) .skip
     (.seq (.reg [11] [⟨(some 18), none, .bin .eql .other true (.t 5) (.c (.int .i64 20))⟩,
          ⟨(some 11), none, .mv (.t 18)⟩])
     (.cond (.t 11) .skip
     (.reg [11] [⟨(some 19), none, .bin .eql .other true (.t 5) (.c (.int .i64 21))⟩,
         ⟨(some 11), none, .mv (.t 19)⟩])))))))))))))))
    (.cond (.t 11) (.seq (.reg [2] [⟨(some 2), none, .mv (.c (.int .i64 1))⟩])
      .ret)
    (.seq (.seq (.reg [20] [⟨(some 21), none, .bin .eql .other true (.t 5) (.c (.int .i64 5))⟩,
          ⟨(some 20), none, .mv (.t 21)⟩])
     (.cond (.t 20) .skip
     (.seq (.reg [20] [⟨(some 22), none, .bin .eql .other true (.t 5) (.c (.int .i64 6))⟩,
          ⟨(some 20), none, .mv (.t 22)⟩])
     (.cond (.t 20) .skip
     (.seq (.reg [20] [⟨(some 23), none, .bin .eql .other true (.t 5) (.c (.int .i64 7))⟩,
          ⟨(some 20), none, .mv (.t 23)⟩])
     (.cond (.t 20) .skip
     (.seq (.reg [20] [⟨(some 24), none, .bin .eql .other true (.t 5) (.c (.int .i64 10))⟩,
          ⟨(some 20), none, .mv (.t 24)⟩])
     (.cond (.t 20) .skip
     (.seq (.reg [20] [⟨(some 25), none, .bin .eql .other true (.t 5) (.c (.int .i64 12))⟩,
          ⟨(some 20), none, .mv (.t 25)⟩])
     (.cond (.t 20) .skip
     (.seq (.reg [20] [⟨(some 26), none, .bin .eql .other true (.t 5) (.c (.int .i64 16))⟩,
          ⟨(some 20), none, .mv (.t 26)⟩])
     (.cond (.t 20) .skip
     (.reg [20] [⟨(some 27), none, .bin .eql .other true (.t 5) (.c (.int .i64 19))⟩,
         ⟨(some 20), none, .mv (.t 27)⟩])))))))))))))
    (.cond (.t 20) (.seq (.reg [2] [⟨(some 2), none, .mv (.c (.int .i64 2))⟩])
      .ret)
    (.seq (.reg [28] [⟨(some 29), none, .bin .eql .other true (.t 5) (.c (.int .i64 15))⟩,
         ⟨(some 28), none, .mv (.t 29)⟩])
    (.cond (.t 28) (.seq (.reg [2] [⟨(some 2), none, .mv (.c (.int .i64 3))⟩])
      .ret)
    (.seq (.reg [30] [⟨(some 31), none, .bin .eql .other true (.t 5) (.c (.int .i64 8))⟩,
         ⟨(some 30), none, .mv (.t 31)⟩])
    (.cond (.t 30) (.seq (.reg [2] [⟨(some 32), none, .faddr 5 (.t 1)⟩,
           ⟨(some 33), none, .load none (.t 32)⟩,
           ⟨(some 34), none, .len .sl (.t 33)⟩,
           ⟨(some 2), none, .mv (.t 34)⟩])
      .ret)
    (.seq (.reg [35] [⟨(some 36), none, .bin .eql .other true (.t 5) (.c (.int .i64 14))⟩,
         ⟨(some 35), none, .mv (.t 36)⟩])
    (.cond (.t 35) (.seq (.reg [3] [⟨(some 37), none, .faddr 5 (.t 1)⟩,
           ⟨(some 38), none, .load none (.t 37)⟩,
           ⟨(some 39), none, .len .sl (.t 38)⟩,
           ⟨(some 40), none, .bin .add .other true (.c (.int .i64 1)) (.t 39)⟩,
           ⟨(some 3), none, .mv (.t 40)⟩])
      (.seq (.seq (.reg [43] [⟨(some 41), none, .faddr 4 (.t 1)⟩,
            ⟨(some 42), none, .load none (.t 41)⟩,
            ⟨(some 43), none, .bin .neq .other true (.t 42) (.c (.str []))⟩])
       (.cond (.t 43) (.reg [3] [⟨(some 44), none, .mv (.t 3)⟩,
             ⟨(some 45), none, .bin .add .other true (.t 44) (.c (.int .i64 1))⟩,
             ⟨(some 3), none, .mv (.t 45)⟩])
       .skip))
      (.seq (.reg [2] [⟨(some 46), none, .mv (.t 3)⟩,
           ⟨(some 2), none, .mv (.t 46)⟩])
      .ret)))
    .skip))))))))))))))
  (.seq (.reg [2] [⟨(some 2), none, .mv (.c (.int .i64 (-1)))⟩])
  .ret)))⟩
theorem c56 : compF Tryd.prog [0, 1, 2, 3, 5, 6, 11, 20, 28, 30, 35, 43] Tryd.f56 = some a56 := by kernel_rfl

/- (*bushel/model.machine).stuck -/
def a57 : AFun := ⟨5, [.tmp 2], (.seq (.reg [2] [⟨(some 2), none, .mv (.c .pnil)⟩])
  (.seq (.reg [2] [⟨(some 3), none, .mv (.t 0)⟩,
       ⟨(some 4), none, .call (.c (.fn 55)) [(.t 3), (.c (.int .i64 11)), (.c (.int .i64 0))]⟩,
       ⟨(some 2), none, .mv (.t 4)⟩])
  .ret))⟩
theorem c57 : compF Tryd.prog [0, 2] Tryd.f57 = some a57 := by kernel_rfl

/- (*bushel/model.machine).choose -/
def a58m : AFun := ⟨46, [.tmp 6], (.seq (.reg [4, 6] [⟨(some 4), none, .box (.t 1)⟩,
       ⟨(some 6), none, .mv (.c .pnil)⟩])
  (.seq (.reg [7] [⟨(some 8), none, .mv (.t 0)⟩,
       ⟨(some 9), none, .faddr 7 (.t 4)⟩,
       ⟨(some 10), none, .load none (.t 9)⟩,
       ⟨(some 11), none, .iaddr (some 8) (.t 10) (.c (.int .i64 0))⟩,
       ⟨(some 12), none, .load (some 8) (.t 11)⟩,
       ⟨(some 13), none, .mv (.t 2)⟩,
       ⟨(some 14), none, .call (.c (.fn 34)) [(.t 8), (.t 12), (.t 13)]⟩,
       ⟨(some 7), none, .mv (.t 14)⟩])
  (.seq (.block 0 (.seq (.reg [15] [⟨(some 16), none, .mv (.t 7)⟩,
         ⟨(some 17), none, .bin .eql .ptr true (.t 16) (.c .pnil)⟩,
         ⟨(some 15), none, .mv (.t 17)⟩])
    (.cond (.t 15) (.seq (.reg [6] [⟨(some 6), none, .mv (.c .pnil)⟩])
      .ret)
    (.seq (.reg [18] [⟨(some 19), none, .mv (.t 7)⟩,
         ⟨(some 20), none, .nilck (.t 19)⟩,
         ⟨(some 21), none, .faddr 0 (.t 20)⟩,
         ⟨(some 22), none, .ext (.ldk none) [(.t 21)]⟩,
         ⟨(some 23), none, .bin .neq .other true (.t 22) (.c (.int .i64 1))⟩,
         ⟨(some 18), none, .mv (.t 23)⟩])
    (.cond (.t 18) (.seq (.reg [6] [⟨(some 24), none, .mv (.t 0)⟩,
           ⟨(some 25), none, .call (.c (.fn 57)) [(.t 24)]⟩,
           ⟨(some 6), none, .mv (.t 25)⟩])
      .ret)
    (.seq (.reg [26] [⟨(some 27), none, .mv (.t 7)⟩,
         ⟨(some 28), none, .nilck (.t 27)⟩,
         ⟨(some 29), none, .faddr 1 (.t 28)⟩,
         ⟨(some 30), none, .load none (.t 29)⟩,
         ⟨(some 31), none, .bin .neq .other true (.t 30) (.c (.int .i64 0))⟩,
         ⟨(some 26), none, .mv (.t 31)⟩])
    (.cond (.t 26) (.seq (.reg [6] [⟨(some 32), none, .mv (.t 0)⟩,
           ⟨(some 33), none, .faddr 7 (.t 4)⟩,
           ⟨(some 34), none, .load none (.t 33)⟩,
           ⟨(some 35), none, .iaddr (some 8) (.t 34) (.c (.int .i64 1))⟩,
           ⟨(some 36), none, .load (some 8) (.t 35)⟩,
           ⟨(some 37), none, .mv (.t 2)⟩,
           ⟨(some 38), none, .call (.c (.fn 34)) [(.t 32), (.t 36), (.t 37)]⟩,
           ⟨(some 6), none, .mv (.t 38)⟩])
      .ret)
    .skip)))))))
  (.seq (.reg [6] [⟨(some 39), none, .mv (.t 0)⟩,
       ⟨(some 40), none, .faddr 7 (.t 4)⟩,
       ⟨(some 41), none, .load none (.t 40)⟩,
       ⟨(some 42), none, .iaddr (some 8) (.t 41) (.c (.int .i64 2))⟩,
       ⟨(some 43), none, .load (some 8) (.t 42)⟩,
       ⟨(some 44), none, .mv (.t 2)⟩,
       ⟨(some 45), none, .call (.c (.fn 34)) [(.t 39), (.t 43), (.t 44)]⟩,
       ⟨(some 6), none, .mv (.t 45)⟩])
  .ret))))⟩
theorem c58m : compF Tryd.prog [0, 1, 2, 4, 6, 7, 15, 18, 26] Tryd.f58 [22] = some a58m := by kernel_rfl

/- (*bushel/model.machine).match -/
def a59m : AFun := ⟨75, [.tmp 6], (.seq (.reg [4, 6] [⟨(some 4), none, .box (.t 1)⟩,
       ⟨(some 6), none, .mv (.c .pnil)⟩])
  (.seq (.reg [7] [⟨(some 9), none, .mv (.t 0)⟩,
       ⟨(some 10), none, .faddr 7 (.t 4)⟩,
       ⟨(some 11), none, .load none (.t 10)⟩,
       ⟨(some 12), none, .iaddr (some 8) (.t 11) (.c (.int .i64 0))⟩,
       ⟨(some 13), none, .load (some 8) (.t 12)⟩,
       ⟨(some 14), none, .mv (.t 2)⟩,
       ⟨(some 15), none, .call (.c (.fn 34)) [(.t 9), (.t 13), (.t 14)]⟩,
       ⟨(some 7), none, .mv (.t 15)⟩])
  (.seq (.seq (.reg [17] [⟨(some 16), none, .mv (.t 7)⟩,
        ⟨(some 17), none, .bin .eql .ptr true (.t 16) (.c .pnil)⟩])
   (.cond (.t 17) (.seq (.reg [6] [⟨(some 6), none, .mv (.c .pnil)⟩])
     .ret)
   .skip))
  (.seq (.seq (.reg [22] [⟨(some 18), none, .mv (.t 7)⟩,
        ⟨(some 19), none, .nilck (.t 18)⟩,
        ⟨(some 20), none, .faddr 0 (.t 19)⟩,
        ⟨(some 21), none, .ext (.ldk none) [(.t 20)]⟩,
        ⟨(some 22), none, .bin .neq .other true (.t 21) (.c (.int .i64 5))⟩])
   (.cond (.t 22) (.seq (.reg [6] [⟨(some 23), none, .mv (.t 0)⟩,
          ⟨(some 24), none, .call (.c (.fn 57)) [(.t 23)]⟩,
          ⟨(some 6), none, .mv (.t 24)⟩])
     .ret)
   .skip))
  (.seq (.seq (.any [8] [(⟨(some 25), none, .faddr 5 (.t 4)⟩, true),
        (⟨(some 26), none, .load none (.t 25)⟩, true),
        (⟨(some 27), none, .mv (.t 7)⟩, false),
        (⟨(some 28), none, .nilck (.t 27)⟩, false),
        (⟨(some 29), none, .faddr 2 (.t 28)⟩, false),
        (⟨(some 30), none, .load none (.t 29)⟩, false),
        (⟨(some 31), none, .call (.c (.fn 85)) [(.t 26), (.t 30)]⟩, true),
        (⟨(some 8), none, .mv (.t 31)⟩, true)])
   (.seq (.reg [33] [⟨(some 32), none, .mv (.t 8)⟩,
        ⟨(some 33), none, .bin .geq .other true (.t 32) (.c (.int .i64 0))⟩])
   (.cond (.t 33) (.seq (.any [6] [(⟨(some 34), none, .mv (.t 0)⟩, true),
          (⟨(some 35), none, .faddr 7 (.t 4)⟩, false),
          (⟨(some 36), none, .load none (.t 35)⟩, false),
          (⟨(some 37), none, .mv (.t 8)⟩, false),
          (⟨(some 38), none, .bin .add .other true (.t 37) (.c (.int .i64 1))⟩, false),
          (⟨(some 39), none, .iaddr (some 8) (.t 36) (.t 38)⟩, false),
          (⟨(some 40), none, .load (some 8) (.t 39)⟩, false),
          (⟨(some 41), none, .faddr 6 (.t 4)⟩, false),
          (⟨(some 42), none, .load none (.t 41)⟩, false),
          (⟨(some 43), none, .mv (.t 8)⟩, false),
          (⟨(some 44), none, .iaddr none (.t 42) (.t 43)⟩, false),
          (⟨(some 45), none, .load none (.t 44)⟩, false),
          (⟨(some 46), none, .mv (.t 7)⟩, false),
          (⟨(some 47), none, .nilck (.t 46)⟩, false),
          (⟨(some 48), none, .faddr 4 (.t 47)⟩, false),
          (⟨(some 49), none, .load none (.t 48)⟩, false),
          (⟨(some 50), none, .mv (.t 2)⟩, false),
          (⟨(some 51), none, .build [(.str []), .pnil, .pnil] [(0, 1, (.t 45)), (1, 1, (.t 49)), (2, 1, (.t 50))]⟩, false),
          (⟨(some 52), none, .ext .ibox [(.t 51)]⟩, false),
          (⟨(some 53), none, .call (.c (.fn 34)) [(.t 34), (.t 40), (.t 52)]⟩, true),
          (⟨(some 6), none, .mv (.t 53)⟩, true)])
     .ret)
   .skip)))
  (.seq (.seq (.reg [56] [⟨(some 54), none, .faddr 4 (.t 4)⟩,
        ⟨(some 55), none, .load none (.t 54)⟩,
        ⟨(some 56), none, .bin .eql .other true (.t 55) (.c (.str []))⟩])
   (.cond (.t 56) (.seq (.reg [6] [⟨(some 57), none, .mv (.t 0)⟩,
          ⟨(some 58), none, .call (.c (.fn 57)) [(.t 57)]⟩,
          ⟨(some 6), none, .mv (.t 58)⟩])
     .ret)
   .skip))
  (.seq (.any [6] [(⟨(some 59), none, .mv (.t 0)⟩, true),
       (⟨(some 60), none, .faddr 7 (.t 4)⟩, false),
       (⟨(some 61), none, .load none (.t 60)⟩, false),
       (⟨(some 62), none, .faddr 7 (.t 4)⟩, false),
       (⟨(some 63), none, .load none (.t 62)⟩, false),
       (⟨(some 64), none, .len .sl (.t 63)⟩, false),
       (⟨(some 65), none, .bin .sub .other true (.t 64) (.c (.int .i64 1))⟩, false),
       (⟨(some 66), none, .iaddr (some 8) (.t 61) (.t 65)⟩, false),
       (⟨(some 67), none, .load (some 8) (.t 66)⟩, false),
       (⟨(some 68), none, .faddr 4 (.t 4)⟩, false),
       (⟨(some 69), none, .load none (.t 68)⟩, false),
       (⟨(some 70), none, .mv (.t 7)⟩, false),
       (⟨(some 71), none, .mv (.t 2)⟩, false),
       (⟨(some 72), none, .build [(.str []), .pnil, .pnil] [(0, 1, (.t 69)), (1, 1, (.t 70)), (2, 1, (.t 71))]⟩, false),
       (⟨(some 73), none, .ext .ibox [(.t 72)]⟩, false),
       (⟨(some 74), none, .call (.c (.fn 34)) [(.t 59), (.t 67), (.t 73)]⟩, true),
       (⟨(some 6), none, .mv (.t 74)⟩, true)])
  .ret)))))))⟩
theorem c59m : compF Tryd.prog [0, 1, 2, 4, 6, 7, 8, 17, 22, 33, 56] Tryd.f59 [21, 52, 73] = some a59m := by kernel_rfl

/- (*bushel/model.machine).do -/
def a60m : AFun := ⟨168, [.tmp 6], (.seq (.reg [4, 6] [⟨(some 4), none, .box (.t 1)⟩,
       ⟨(some 6), none, .mv (.c .pnil)⟩])
  (.seq (.seq (.reg [12] [⟨(some 11), none, .faddr 0 (.t 4)⟩,
        ⟨(some 12), none, .load none (.t 11)⟩])
   (.block 0 (.seq (.reg [13] [⟨(some 14), none, .bin .eql .other true (.t 12) (.c (.int .i64 5))⟩,
         ⟨(some 13), none, .mv (.t 14)⟩])
    (.cond (.t 13) (.seq (.reg [6] [⟨(some 15), none, .mv (.t 0)⟩,
           ⟨(some 16), none, .mv (.t 2)⟩,
           ⟨(some 17), none, .call (.c (.fn 86)) [(.t 15), (.t 16)]⟩,
           ⟨(some 6), none, .mv (.t 17)⟩])
      .ret)
    (.seq (.reg [18] [⟨(some 19), none, .bin .eql .other true (.t 12) (.c (.int .i64 8))⟩,
         ⟨(some 18), none, .mv (.t 19)⟩])
    (.cond (.t 18) (.seq (.reg [7] [⟨(some 20), none, .call (.c (.fn 87)) []⟩,
           ⟨(some 7), none, .mv (.t 20)⟩])
      (.seq (.seq (.reg [22, 23, 24] [⟨(some 21), none, .faddr 5 (.t 4)⟩,
            ⟨(some 22), none, .load none (.t 21)⟩,
            ⟨(some 23), none, .len .sl (.t 22)⟩,
            ⟨(some 24), none, .mv (.c (.int .i64 0))⟩])
       (.block 1 (.loop (.seq (.reg [25] [⟨(some 25), none, .bin .lss .other false (.t 24) (.t 23)⟩])
         (.seq (.cond (.t 25) .skip
          (.exit 1))
         (.seq (.block 2 (.seq (.reg [8, 9] [⟨(some 26), none, .mv (.t 24)⟩,
                ⟨(some 27), none, .iaddr none (.t 22) (.t 24)⟩,
                ⟨(some 28), none, .load none (.t 27)⟩,
                ⟨(some 8), none, .mv (.t 26)⟩,
                ⟨(some 9), none, .mv (.t 28)⟩])
           (.any [] [(⟨(some 29), none, .mv (.t 7)⟩, true),
               (⟨(some 30), none, .nilck (.t 29)⟩, true),
               (⟨(some 31), none, .faddr 3 (.t 30)⟩, true),
               (⟨(some 32), none, .load none (.t 31)⟩, true),
               (⟨(some 33), none, .mv (.t 9)⟩, false),
               (⟨(some 34), none, .mv (.t 2)⟩, false),
               (⟨(some 35), none, .mv (.t 8)⟩, false),
               (⟨(some 36), none, .iaddr none (.t 34) (.t 35)⟩, false),
               (⟨(some 37), none, .load none (.t 36)⟩, false),
               (⟨none, none, .ext (.mput .str) [(.t 32), (.t 33), (.t 37)]⟩, true)])))
         (.reg [24] [⟨(some 38), none, .bin .add .other true (.t 24) (.c (.int .i64 1))⟩,
             ⟨(some 24), none, .mv (.t 38)⟩])))))))
      (.seq (.reg [6] [⟨(some 39), none, .mv (.t 7)⟩,
           ⟨(some 6), none, .mv (.t 39)⟩])
      .ret)))
    (.seq (.seq (.reg [40] [⟨(some 41), none, .bin .eql .other true (.t 12) (.c (.int .i64 9))⟩,
          ⟨(some 40), none, .mv (.t 41)⟩])
     (.cond (.t 40) .skip
     (.seq (.reg [40] [⟨(some 42), none, .bin .eql .other true (.t 12) (.c (.int .i64 11))⟩,
          ⟨(some 40), none, .mv (.t 42)⟩])
     (.cond (.t 40) .skip
     (.seq (.reg [40] [⟨(some 43), none, .bin .eql .other true (.t 12) (.c (.int .i64 10))⟩,
          ⟨(some 40), none, .mv (.t 43)⟩])
     (.cond (.t 40) .skip
     (.reg [40] [⟨(some 44), none, .bin .eql .other true (.t 12) (.c (.int .i64 12))⟩,
         ⟨(some 40), none, .mv (.t 44)⟩])))))))
    (.cond (.t 40) (.seq (.reg [6] [⟨(some 45), none, .mv (.t 0)⟩,
           ⟨(some 46), none, .load (some 8) (.t 4)⟩,
           ⟨(some 47), none, .mv (.t 2)⟩,
           ⟨(some 48), none, .call (.c (.fn 88)) [(.t 45), (.t 46), (.t 47)]⟩,
           ⟨(some 6), none, .mv (.t 48)⟩])
      .ret)
    (.seq (.reg [49] [⟨(some 50), none, .bin .eql .other true (.t 12) (.c (.int .i64 13))⟩,
         ⟨(some 49), none, .mv (.t 50)⟩])
    (.cond (.t 49) (.seq (.any [6] [(⟨(some 51), none, .faddr 3 (.t 4)⟩, true),
           (⟨(some 52), none, .load none (.t 51)⟩, true),
           (⟨(some 53), none, .mv (.t 2)⟩, false),
           (⟨(some 54), none, .iaddr none (.t 53) (.c (.int .i64 0))⟩, false),
           (⟨(some 55), none, .load none (.t 54)⟩, false),
           (⟨(some 56), none, .build [(.int .i64 0), (.int .i64 0), (.str []), .mnil, .pnil, .pnil] [(0, 1, (.c (.int .i64 5))), (2, 1, (.t 52)), (4, 1, (.t 55))]⟩, true),
           (⟨(some 57), none, .ext .ibox [(.t 56)]⟩, true),
           (⟨(some 6), none, .mv (.t 57)⟩, true)])
      .ret)
    (.seq (.reg [58] [⟨(some 59), none, .bin .eql .other true (.t 12) (.c (.int .i64 16))⟩,
         ⟨(some 58), none, .mv (.t 59)⟩])
    (.cond (.t 58) (.seq (.reg [6] [⟨(some 60), none, .mv (.t 0)⟩,
           ⟨(some 61), none, .faddr 3 (.t 4)⟩,
           ⟨(some 62), none, .load none (.t 61)⟩,
           ⟨(some 63), none, .mv (.t 2)⟩,
           ⟨(some 64), none, .call (.c (.fn 89)) [(.t 60), (.t 62), (.t 63)]⟩,
           ⟨(some 6), none, .mv (.t 64)⟩])
      .ret)
    (.seq (.reg [65] [⟨(some 66), none, .bin .eql .other true (.t 12) (.c (.int .i64 17))⟩,
         ⟨(some 65), none, .mv (.t 66)⟩])
    (.cond (.t 65) (.seq (.reg [6] [⟨(some 67), none, .mv (.t 2)⟩,
           ⟨(some 68), none, .iaddr none (.t 67) (.c (.int .i64 0))⟩,
           ⟨(some 69), none, .load none (.t 68)⟩,
           ⟨(some 70), none, .build [(.int .i64 0), (.int .i64 0), (.str []), .mnil, .pnil, .pnil] [(0, 1, (.c (.int .i64 6))), (4, 1, (.t 69))]⟩,
           ⟨(some 71), none, .ext .xbox [(.t 70)]⟩,
           ⟨(some 6), none, .mv (.t 71)⟩])
      .ret)
    (.seq (.reg [72] [⟨(some 73), none, .bin .eql .other true (.t 12) (.c (.int .i64 18))⟩,
         ⟨(some 72), none, .mv (.t 73)⟩])
    (.cond (.t 72) (.seq (.reg [76] [⟨(some 74), none, .mv (.t 2)⟩,
           ⟨(some 75), none, .mksl none [(.c (.int .i64 6))]⟩,
           ⟨(some 76), none, .call (.c (.fn 90)) [(.t 74), (.t 75)]⟩])
      (.cond (.t 76) (.seq (.reg [6] [⟨(some 77), none, .mv (.t 2)⟩,
             ⟨(some 78), none, .iaddr none (.t 77) (.c (.int .i64 0))⟩,
             ⟨(some 79), none, .load none (.t 78)⟩,
             ⟨(some 80), none, .nilck (.t 79)⟩,
             ⟨(some 81), none, .faddr 4 (.t 80)⟩,
             ⟨(some 82), none, .ext (.ldk none) [(.t 81)]⟩,
             ⟨(some 6), none, .mv (.t 82)⟩])
        .ret)
      .skip))
    (.seq (.reg [83] [⟨(some 84), none, .bin .eql .other true (.t 12) (.c (.int .i64 19))⟩,
         ⟨(some 83), none, .mv (.t 84)⟩])
    (.cond (.t 83) (.seq (.reg [87] [⟨(some 85), none, .mv (.t 2)⟩,
           ⟨(some 86), none, .mksl none [(.c (.int .i64 6))]⟩,
           ⟨(some 87), none, .call (.c (.fn 90)) [(.t 85), (.t 86)]⟩])
      (.cond (.t 87) (.seq (.any [] [(⟨(some 88), none, .mv (.t 2)⟩, true),
             (⟨(some 89), none, .iaddr none (.t 88) (.c (.int .i64 0))⟩, true),
             (⟨(some 90), none, .load none (.t 89)⟩, true),
             (⟨(some 91), none, .mv (.t 2)⟩, false),
             (⟨(some 92), none, .iaddr none (.t 91) (.c (.int .i64 1))⟩, false),
             (⟨(some 93), none, .load none (.t 92)⟩, false),
             (⟨(some 94), none, .nilck (.t 90)⟩, true),
             (⟨(some 95), none, .faddr 4 (.t 94)⟩, true),
             (⟨none, none, .store 1 (.t 95) (.t 93)⟩, true)])
        (.seq (.reg [6] [⟨(some 96), none, .call (.c (.fn 87)) []⟩,
             ⟨(some 6), none, .mv (.t 96)⟩])
        .ret))
      .skip))
    (.seq (.reg [97] [⟨(some 98), none, .bin .eql .other true (.t 12) (.c (.int .i64 20))⟩,
         ⟨(some 97), none, .mv (.t 98)⟩])
    (.cond (.t 97) (.seq (.reg [101] [⟨(some 99), none, .mv (.t 2)⟩,
           ⟨(some 100), none, .mksl none [(.c (.int .i64 2))]⟩,
           ⟨(some 101), none, .call (.c (.fn 90)) [(.t 99), (.t 100)]⟩])
      (.cond (.t 101) (.seq (.any [] [(⟨(some 102), none, .mv (.t 0)⟩, true),
             (⟨(some 103), none, .mv (.t 0)⟩, false),
             (⟨(some 104), none, .nilck (.t 103)⟩, false),
             (⟨(some 105), none, .faddr 2 (.t 104)⟩, false),
             (⟨(some 106), none, .faddr 3 (.t 105)⟩, false),
             (⟨(some 107), none, .load none (.t 106)⟩, false),
             (⟨(some 108), none, .mv (.t 2)⟩, false),
             (⟨(some 109), none, .iaddr none (.t 108) (.c (.int .i64 0))⟩, false),
             (⟨(some 110), none, .load none (.t 109)⟩, false),
             (⟨(some 111), none, .nilck (.t 110)⟩, false),
             (⟨(some 112), none, .faddr 2 (.t 111)⟩, false),
             (⟨(some 113), none, .load none (.t 112)⟩, false),
             (⟨(some 114), none, .mksl none [(.t 113)]⟩, false),
             (⟨(some 115), none, .append none 16 (.t 107) (.t 114)⟩, false),
             (⟨(some 116), none, .nilck (.t 102)⟩, true),
             (⟨(some 117), none, .faddr 2 (.t 116)⟩, true),
             (⟨(some 118), none, .faddr 3 (.t 117)⟩, true),
             (⟨none, none, .store 1 (.t 118) (.t 115)⟩, true)])
        (.seq (.reg [6] [⟨(some 119), none, .call (.c (.fn 87)) []⟩,
             ⟨(some 6), none, .mv (.t 119)⟩])
        .ret))
      .skip))
    (.seq (.reg [120] [⟨(some 121), none, .bin .eql .other true (.t 12) (.c (.int .i64 21))⟩,
         ⟨(some 120), none, .mv (.t 121)⟩])
    (.cond (.t 120) (.seq (.reg [124] [⟨(some 122), none, .mv (.t 2)⟩,
           ⟨(some 123), none, .mksl none [(.c (.int .i64 1))]⟩,
           ⟨(some 124), none, .call (.c (.fn 90)) [(.t 122), (.t 123)]⟩])
      (.cond (.t 124) (.seq (.reg [6] [⟨(some 125), none, .mv (.t 2)⟩,
             ⟨(some 126), none, .iaddr none (.t 125) (.c (.int .i64 0))⟩,
             ⟨(some 127), none, .load none (.t 126)⟩,
             ⟨(some 128), none, .nilck (.t 127)⟩,
             ⟨(some 129), none, .faddr 1 (.t 128)⟩,
             ⟨(some 130), none, .load none (.t 129)⟩,
             ⟨(some 131), none, .call (.c (.fn 63)) [(.t 130), (.c (.int .i64 10))]⟩,
             ⟨(some 132), none, .build [(.int .i64 0), (.int .i64 0), (.str []), .mnil, .pnil, .pnil] [(0, 1, (.c (.int .i64 2))), (2, 1, (.t 131))]⟩,
             ⟨(some 133), none, .ext .ibox [(.t 132)]⟩,
             ⟨(some 6), none, .mv (.t 133)⟩])
        .ret)
      .skip))
    (.seq (.reg [134] [⟨(some 135), none, .bin .eql .other true (.t 12) (.c (.int .i64 22))⟩,
         ⟨(some 134), none, .mv (.t 135)⟩])
    (.cond (.t 134) (.seq (.seq (.reg [141] [⟨(some 136), none, .mv (.t 0)⟩,
            ⟨(some 137), none, .nilck (.t 136)⟩,
            ⟨(some 138), none, .faddr 0 (.t 137)⟩,
            ⟨(some 139), none, .load none (.t 138)⟩,
            ⟨(some 140), none, .len .sl (.t 139)⟩,
            ⟨(some 141), none, .bin .eql .other true (.t 140) (.c (.int .i64 0))⟩])
       (.cond (.t 141) (.seq (.reg [6] [⟨(some 142), none, .mv (.t 0)⟩,
              ⟨(some 143), none, .call (.c (.fn 55)) [(.t 142), (.c (.int .i64 9)), (.c (.int .i64 3))]⟩,
              ⟨(some 6), none, .mv (.t 143)⟩])
         .ret)
       .skip))
      (.seq (.reg [10] [⟨(some 144), none, .mv (.t 0)⟩,
           ⟨(some 145), none, .nilck (.t 144)⟩,
           ⟨(some 146), none, .faddr 0 (.t 145)⟩,
           ⟨(some 147), none, .load none (.t 146)⟩,
           ⟨(some 148), none, .iaddr none (.t 147) (.c (.int .i64 0))⟩,
           ⟨(some 149), none, .load none (.t 148)⟩,
           ⟨(some 10), none, .mv (.t 149)⟩])
      (.seq (.reg [] [⟨(some 150), none, .mv (.t 0)⟩,
           ⟨(some 151), none, .mv (.t 0)⟩,
           ⟨(some 152), none, .nilck (.t 151)⟩,
           ⟨(some 153), none, .faddr 0 (.t 152)⟩,
           ⟨(some 154), none, .load none (.t 153)⟩,
           ⟨(some 155), none, .slice (.sl none) (.t 154) (some (.c (.int .i64 1))) none none⟩,
           ⟨(some 156), none, .nilck (.t 150)⟩,
           ⟨(some 157), none, .faddr 0 (.t 156)⟩,
           ⟨none, none, .store 1 (.t 157) (.t 155)⟩])
      (.seq (.seq (.reg [160] [⟨(some 158), none, .mv (.t 10)⟩,
            ⟨(some 159), none, .len .str (.t 158)⟩,
            ⟨(some 160), none, .bin .gtr .other true (.t 159) (.c (.int .i64 2000))⟩])
       (.cond (.t 160) (.seq (.reg [6] [⟨(some 161), none, .mv (.t 0)⟩,
              ⟨(some 162), none, .call (.c (.fn 55)) [(.t 161), (.c (.int .i64 9)), (.c (.int .i64 2))]⟩,
              ⟨(some 6), none, .mv (.t 162)⟩])
         .ret)
       .skip))
      (.seq (.reg [6] [⟨(some 163), none, .mv (.t 10)⟩,
           ⟨(some 164), none, .build [(.int .i64 0), (.int .i64 0), (.str []), .mnil, .pnil, .pnil] [(0, 1, (.c (.int .i64 2))), (2, 1, (.t 163))]⟩,
           ⟨(some 165), none, .ext .ibox [(.t 164)]⟩,
           ⟨(some 6), none, .mv (.t 165)⟩])
      .ret)))))
    .skip))))))))))))))))))))))))
  (.seq (.reg [6] [⟨(some 166), none, .mv (.t 0)⟩,
       ⟨(some 167), none, .call (.c (.fn 57)) [(.t 166)]⟩,
       ⟨(some 6), none, .mv (.t 167)⟩])
  .ret)))⟩
theorem c60m : compF Tryd.prog [0, 1, 2, 4, 6, 7, 8, 9, 10, 12, 13, 18, 22, 23, 24, 25, 40, 49, 58, 65, 72, 76, 83, 87, 97, 101, 120, 124, 134, 141, 160] Tryd.f60 [57, 1000071, 82, 133, 165] = some a60m := by kernel_rfl

/- (*bushel/model.writer).full -/
def a61 : AFun := ⟨9, [.tmp 2], (.seq (.reg [2] [⟨(some 2), none, .mv (.c (.bool false))⟩])
  (.seq (.reg [2] [⟨(some 3), none, .mv (.t 0)⟩,
       ⟨(some 4), none, .nilck (.t 3)⟩,
       ⟨(some 5), none, .faddr 0 (.t 4)⟩,
       ⟨(some 6), none, .load none (.t 5)⟩,
       ⟨(some 7), none, .len .sl (.t 6)⟩,
       ⟨(some 8), none, .bin .geq .other true (.t 7) (.c (.int .i64 2000))⟩,
       ⟨(some 2), none, .mv (.t 8)⟩])
  .ret))⟩
theorem c61 : compF Tryd.prog [0, 2] Tryd.f61 = some a61 := by kernel_rfl

/- (*bushel/model.writer).put -/
def a62 : AFun := ⟨23, [], (.any [] [(⟨(some 4), none, .mv (.t 0)⟩, true),
      (⟨(some 5), none, .mv (.t 0)⟩, false),
      (⟨(some 6), none, .nilck (.t 5)⟩, false),
      (⟨(some 7), none, .faddr 0 (.t 6)⟩, false),
      (⟨(some 8), none, .load none (.t 7)⟩, false),
      (⟨(some 9), none, .mv (.t 1)⟩, false),
      (⟨(some 10), none, .mv (.t 1)⟩, false),
      (⟨(some 11), none, .len .str (.t 10)⟩, false),
      (⟨(some 12), none, .mv (.t 0)⟩, false),
      (⟨(some 13), none, .nilck (.t 12)⟩, false),
      (⟨(some 14), none, .faddr 0 (.t 13)⟩, false),
      (⟨(some 15), none, .load none (.t 14)⟩, false),
      (⟨(some 16), none, .len .sl (.t 15)⟩, false),
      (⟨(some 17), none, .bin .sub .other true (.c (.int .i64 2000)) (.t 16)⟩, false),
      (⟨(some 18), none, .min [(.t 11), (.t 17)]⟩, false),
      (⟨(some 19), none, .slice .str (.t 9) none (some (.t 18)) none⟩, false),
      (⟨(some 20), none, .append none 1 (.t 8) (.t 19)⟩, false),
      (⟨(some 21), none, .nilck (.t 4)⟩, true),
      (⟨(some 22), none, .faddr 0 (.t 21)⟩, true),
      (⟨none, none, .store 1 (.t 22) (.t 20)⟩, true)])⟩
theorem c62 : compF Tryd.prog [0, 1] Tryd.f62 = some a62 := by kernel_rfl

/- (*bushel/model.writer).quoted -/
def a64 : AFun := ⟨46, [], (.seq (.reg [] [⟨(some 6), none, .mv (.t 0)⟩,
       ⟨(some 7), none, .call (.c (.fn 62)) [(.t 6), (.c (.str [34]))]⟩])
  (.seq (.seq (.reg [9, 10, 11] [⟨(some 8), none, .mv (.t 1)⟩,
        ⟨(some 9), none, .conv .toBytes (.t 8)⟩,
        ⟨(some 10), none, .len .sl (.t 9)⟩,
        ⟨(some 11), none, .mv (.c (.int .i64 0))⟩])
   (.block 0 (.loop (.seq (.reg [12] [⟨(some 12), none, .bin .lss .other false (.t 11) (.t 10)⟩])
     (.seq (.cond (.t 12) .skip
      (.exit 0))
     (.seq (.block 1 (.seq (.reg [5] [⟨(some 13), none, .iaddr none (.t 9) (.t 11)⟩,
            ⟨(some 14), none, .load none (.t 13)⟩,
            ⟨(some 5), none, .mv (.t 14)⟩])
       (.block 2 (.seq (.reg [15] [⟨(some 16), none, .mv (.t 5)⟩,
             ⟨(some 17), none, .bin .eql .other true (.t 16) (.c (.int .u8 10))⟩,
             ⟨(some 15), none, .mv (.t 17)⟩])
        (.cond (.t 15) (.reg [] [⟨(some 18), none, .mv (.t 0)⟩,
              ⟨(some 19), none, .call (.c (.fn 62)) [(.t 18), (.c (.str [92, 110]))]⟩])
        (.seq (.reg [20] [⟨(some 21), none, .mv (.t 5)⟩,
             ⟨(some 22), none, .bin .eql .other true (.t 21) (.c (.int .u8 34))⟩,
             ⟨(some 23), none, .mv (.t 22)⟩,
             ⟨(some 24), (some (23, false)), .mv (.t 5)⟩,
             ⟨(some 25), (some (23, false)), .bin .eql .other true (.t 24) (.c (.int .u8 92))⟩,
             ⟨(some 26), none, .pick (.t 23) (.c (.bool true)) (.t 25)⟩,
             ⟨(some 20), none, .mv (.t 26)⟩])
        (.cond (.t 20) (.reg [] [⟨(some 27), none, .mv (.t 0)⟩,
              ⟨(some 28), none, .mv (.t 5)⟩,
              ⟨(some 29), none, .conv .rune (.t 28)⟩,
              ⟨(some 30), none, .bin .add .other true (.c (.str [92])) (.t 29)⟩,
              ⟨(some 31), none, .call (.c (.fn 62)) [(.t 27), (.t 30)]⟩])
        (.seq (.reg [32] [⟨(some 33), none, .mv (.t 5)⟩,
             ⟨(some 34), none, .bin .geq .other true (.t 33) (.c (.int .u8 32))⟩,
             ⟨(some 35), none, .mv (.t 34)⟩,
             ⟨(some 36), (some (35, true)), .mv (.t 5)⟩,
             ⟨(some 37), (some (35, true)), .bin .leq .other true (.t 36) (.c (.int .u8 126))⟩,
             ⟨(some 38), none, .pick (.t 35) (.t 37) (.c (.bool false))⟩,
             ⟨(some 32), none, .mv (.t 38)⟩])
        (.cond (.t 32) (.reg [] [⟨(some 39), none, .mv (.t 0)⟩,
              ⟨(some 40), none, .mv (.t 5)⟩,
              ⟨(some 41), none, .conv .rune (.t 40)⟩,
              ⟨(some 42), none, .call (.c (.fn 62)) [(.t 39), (.t 41)]⟩])
        .skip)))))))))
     (.reg [11] [⟨(some 43), none, .bin .add .other true (.t 11) (.c (.int .i64 1))⟩,
         ⟨(some 11), none, .mv (.t 43)⟩])))))))
  (.reg [] [⟨(some 44), none, .mv (.t 0)⟩,
      ⟨(some 45), none, .call (.c (.fn 62)) [(.t 44), (.c (.str [34]))]⟩])))⟩
theorem c64 : compF Tryd.prog [0, 1, 5, 9, 10, 11, 12, 15, 20, 32] Tryd.f64 = some a64 := by kernel_rfl

/- (*bushel/model.writer).record -/
def a65 : AFun := ⟨39, [], (.seq (.reg [] [⟨(some 6), none, .mv (.t 0)⟩,
       ⟨(some 7), none, .call (.c (.fn 62)) [(.t 6), (.c (.str [123]))]⟩])
  (.seq (.seq (.reg [13, 14, 15] [⟨(some 8), none, .mv (.t 1)⟩,
        ⟨(some 9), none, .nilck (.t 8)⟩,
        ⟨(some 10), none, .faddr 3 (.t 9)⟩,
        ⟨(some 11), none, .load none (.t 10)⟩,
        ⟨(some 12), none, .call (.c (.fn 92)) [(.t 11)]⟩,
        ⟨(some 13), none, .call (.c (.fn 37)) [(.t 12)]⟩,
        ⟨(some 14), none, .len .sl (.t 13)⟩,
        ⟨(some 15), none, .mv (.c (.int .i64 0))⟩])
   (.block 0 (.loop (.seq (.reg [16] [⟨(some 16), none, .bin .lss .other false (.t 15) (.t 14)⟩])
     (.seq (.cond (.t 16) .skip
      (.exit 0))
     (.seq (.block 1 (.seq (.reg [4, 5] [⟨(some 17), none, .mv (.t 15)⟩,
            ⟨(some 18), none, .iaddr none (.t 13) (.t 15)⟩,
            ⟨(some 19), none, .load none (.t 18)⟩,
            ⟨(some 4), none, .mv (.t 17)⟩,
            ⟨(some 5), none, .mv (.t 19)⟩])
       (.seq (.seq (.reg [21] [⟨(some 20), none, .mv (.t 4)⟩,
             ⟨(some 21), none, .bin .gtr .other true (.t 20) (.c (.int .i64 0))⟩])
        (.cond (.t 21) (.reg [] [⟨(some 22), none, .mv (.t 0)⟩,
              ⟨(some 23), none, .call (.c (.fn 62)) [(.t 22), (.c (.str [44, 32]))]⟩])
        .skip))
       (.seq (.reg [] [⟨(some 24), none, .mv (.t 0)⟩,
            ⟨(some 25), none, .mv (.t 5)⟩,
            ⟨(some 26), none, .bin .add .other true (.t 25) (.c (.str [32, 61, 32]))⟩,
            ⟨(some 27), none, .call (.c (.fn 62)) [(.t 24), (.t 26)]⟩])
       (.reg [] [⟨(some 28), none, .mv (.t 0)⟩,
           ⟨(some 29), none, .mv (.t 1)⟩,
           ⟨(some 30), none, .nilck (.t 29)⟩,
           ⟨(some 31), none, .faddr 3 (.t 30)⟩,
           ⟨(some 32), none, .load none (.t 31)⟩,
           ⟨(some 33), none, .mv (.t 5)⟩,
           ⟨(some 34), none, .ext (.mget .str false .pnil) [(.t 32), (.t 33)]⟩,
           ⟨(some 35), none, .call (.c (.fn 35)) [(.t 28), (.t 34)]⟩])))))
     (.reg [15] [⟨(some 36), none, .bin .add .other true (.t 15) (.c (.int .i64 1))⟩,
         ⟨(some 15), none, .mv (.t 36)⟩])))))))
  (.reg [] [⟨(some 37), none, .mv (.t 0)⟩,
      ⟨(some 38), none, .call (.c (.fn 62)) [(.t 37), (.c (.str [125]))]⟩])))⟩
theorem c65 : compF Tryd.prog [0, 1, 4, 5, 13, 14, 15, 16, 21] Tryd.f65 = some a65 := by kernel_rfl

/- (*bushel/model.writer).inner -/
def a66m : AFun := ⟨22, [], (.seq (.reg [6] [⟨(some 7), none, .mv (.t 2)⟩,
       ⟨(some 8), none, .mv (.t 1)⟩,
       ⟨(some 9), none, .nilck (.t 8)⟩,
       ⟨(some 10), none, .faddr 0 (.t 9)⟩,
       ⟨(some 11), none, .ext (.ldk none) [(.t 10)]⟩,
       ⟨(some 12), none, .call (.c (.fn 93)) [(.t 7), (.t 11)]⟩,
       ⟨(some 6), none, .mv (.t 12)⟩])
  (.seq (.seq (.reg [13] [⟨(some 13), none, .mv (.t 6)⟩])
   (.cond (.t 13) (.reg [] [⟨(some 14), none, .mv (.t 0)⟩,
         ⟨(some 15), none, .call (.c (.fn 62)) [(.t 14), (.c (.str [40]))]⟩])
   .skip))
  (.seq (.reg [] [⟨(some 16), none, .mv (.t 0)⟩,
       ⟨(some 17), none, .mv (.t 1)⟩,
       ⟨(some 18), none, .call (.c (.fn 35)) [(.t 16), (.t 17)]⟩])
  (.seq (.reg [19] [⟨(some 19), none, .mv (.t 6)⟩])
  (.cond (.t 19) (.reg [] [⟨(some 20), none, .mv (.t 0)⟩,
        ⟨(some 21), none, .call (.c (.fn 62)) [(.t 20), (.c (.str [41]))]⟩])
  .skip)))))⟩
theorem c66m : compF Tryd.prog [0, 1, 2, 6, 13, 19] Tryd.f66 [11] = some a66m := by kernel_rfl

/- slices.Index[[]string,string] -/
def a85 : AFun := ⟨19, [.tmp 4], (.seq (.reg [4] [⟨(some 4), none, .mv (.c (.int .i64 0))⟩])
  (.seq (.seq (.reg [7, 8] [⟨(some 6), none, .mv (.t 0)⟩,
        ⟨(some 7), none, .len .sl (.t 6)⟩,
        ⟨(some 8), none, .mv (.c (.int .i64 0))⟩])
   (.block 0 (.loop (.seq (.reg [9] [⟨(some 9), none, .bin .lss .other false (.t 8) (.t 7)⟩])
     (.seq (.cond (.t 9) .skip
      (.exit 0))
     (.seq (.block 1 (.seq (.reg [5] [⟨(some 10), none, .mv (.t 8)⟩,
            ⟨(some 5), none, .mv (.t 10)⟩])
       (.seq (.reg [16] [⟨(some 11), none, .mv (.t 1)⟩,
            ⟨(some 12), none, .mv (.t 0)⟩,
            ⟨(some 13), none, .mv (.t 5)⟩,
            ⟨(some 14), none, .iaddr none (.t 12) (.t 13)⟩,
            ⟨(some 15), none, .load none (.t 14)⟩,
            ⟨(some 16), none, .bin .eql .other false (.t 11) (.t 15)⟩])
       (.cond (.t 16) (.seq (.reg [4] [⟨(some 17), none, .mv (.t 5)⟩,
              ⟨(some 4), none, .mv (.t 17)⟩])
         .ret)
       .skip))))
     (.reg [8] [⟨(some 18), none, .bin .add .other true (.t 8) (.c (.int .i64 1))⟩,
         ⟨(some 8), none, .mv (.t 18)⟩])))))))
  (.seq (.reg [4] [⟨(some 4), none, .mv (.c (.int .i64 (-1)))⟩])
  .ret)))⟩
theorem c85 : compF Tryd.prog [0, 1, 4, 5, 7, 8, 9, 16] Tryd.f85 = some a85 := by kernel_rfl

/- (*bushel/model.machine).apply -/
def a86m : AFun := ⟨53, [.tmp 4], (.seq (.reg [4] [⟨(some 4), none, .mv (.c .pnil)⟩])
  (.seq (.seq (.reg [10] [⟨(some 7), none, .mv (.t 1)⟩,
        ⟨(some 8), none, .mksl none [(.c (.int .i64 3))]⟩,
        ⟨(some 9), none, .call (.c (.fn 90)) [(.t 7), (.t 8)]⟩,
        ⟨(some 10), none, .un .not (.t 9)⟩])
   (.cond (.t 10) (.seq (.reg [4] [⟨(some 11), none, .mv (.t 0)⟩,
          ⟨(some 12), none, .call (.c (.fn 57)) [(.t 11)]⟩,
          ⟨(some 4), none, .mv (.t 12)⟩])
     .ret)
   .skip))
  (.seq (.reg [5] [⟨(some 13), none, .mv (.t 1)⟩,
       ⟨(some 14), none, .iaddr none (.t 13) (.c (.int .i64 0))⟩,
       ⟨(some 15), none, .load none (.t 14)⟩,
       ⟨(some 16), none, .nilck (.t 15)⟩,
       ⟨(some 17), none, .faddr 5 (.t 16)⟩,
       ⟨(some 18), none, .load none (.t 17)⟩,
       ⟨(some 5), none, .mv (.t 18)⟩])
  (.seq (.reg [6] [⟨(some 19), none, .mv (.t 5)⟩,
       ⟨(some 20), none, .nilck (.t 19)⟩,
       ⟨(some 21), none, .faddr 11 (.t 20)⟩,
       ⟨(some 22), none, .load none (.t 21)⟩,
       ⟨(some 6), none, .mv (.t 22)⟩])
  (.seq (.seq (.reg [26] [⟨(some 23), none, .mv (.t 5)⟩,
        ⟨(some 24), none, .nilck (.t 23)⟩,
        ⟨(some 25), none, .faddr 0 (.t 24)⟩,
        ⟨(some 26), none, .load none (.t 25)⟩])
   (.cond (.t 26) (.any [6] [(⟨(some 27), none, .mv (.t 5)⟩, true),
         (⟨(some 28), none, .nilck (.t 27)⟩, true),
         (⟨(some 29), none, .faddr 1 (.t 28)⟩, true),
         (⟨(some 30), none, .load none (.t 29)⟩, true),
         (⟨(some 31), none, .mv (.t 1)⟩, false),
         (⟨(some 32), none, .iaddr none (.t 31) (.c (.int .i64 0))⟩, false),
         (⟨(some 33), none, .load none (.t 32)⟩, false),
         (⟨(some 34), none, .mv (.t 6)⟩, false),
         (⟨(some 35), none, .build [(.str []), .pnil, .pnil] [(0, 1, (.t 30)), (1, 1, (.t 33)), (2, 1, (.t 34))]⟩, true),
         (⟨(some 36), none, .ext .ibox [(.t 35)]⟩, true),
         (⟨(some 6), none, .mv (.t 36)⟩, true)])
   .skip))
  (.seq (.any [4] [(⟨(some 37), none, .mv (.t 0)⟩, true),
       (⟨(some 38), none, .mv (.t 5)⟩, false),
       (⟨(some 39), none, .nilck (.t 38)⟩, false),
       (⟨(some 40), none, .faddr 3 (.t 39)⟩, false),
       (⟨(some 41), none, .load (some 8) (.t 40)⟩, false),
       (⟨(some 42), none, .mv (.t 5)⟩, false),
       (⟨(some 43), none, .nilck (.t 42)⟩, false),
       (⟨(some 44), none, .faddr 2 (.t 43)⟩, false),
       (⟨(some 45), none, .load none (.t 44)⟩, false),
       (⟨(some 46), none, .mv (.t 1)⟩, false),
       (⟨(some 47), none, .iaddr none (.t 46) (.c (.int .i64 1))⟩, false),
       (⟨(some 48), none, .load none (.t 47)⟩, false),
       (⟨(some 49), none, .mv (.t 6)⟩, false),
       (⟨(some 50), none, .build [(.str []), .pnil, .pnil] [(0, 1, (.t 45)), (1, 1, (.t 48)), (2, 1, (.t 49))]⟩, false),
       (⟨(some 51), none, .ext .ibox [(.t 50)]⟩, false),
       (⟨(some 52), none, .call (.c (.fn 34)) [(.t 37), (.t 41), (.t 51)]⟩, true),
       (⟨(some 4), none, .mv (.t 52)⟩, true)])
  .ret))))))⟩
theorem c86m : compF Tryd.prog [0, 1, 4, 5, 6, 10, 26] Tryd.f86 [36, 51] = some a86m := by kernel_rfl

/- bushel/model.unit -/
def a87 : AFun := ⟨4, [.tmp 0], (.seq (.reg [0] [⟨(some 0), none, .mv (.c .pnil)⟩])
  (.seq (.reg [0] [⟨(some 1), none, .ext .mkmap []⟩,
       ⟨(some 2), none, .build [(.int .i64 0), (.int .i64 0), (.str []), .mnil, .pnil, .pnil] [(0, 1, (.c (.int .i64 4))), (3, 1, (.t 1))]⟩,
       ⟨(some 3), none, .box (.t 2)⟩,
       ⟨(some 0), none, .mv (.t 3)⟩])
  .ret))⟩
theorem c87 : compF Tryd.prog [0] Tryd.f87 = some a87 := by kernel_rfl

/- (*bushel/model.machine).field -/
def a88m : AFun := ⟨71, [.tmp 6], (.seq (.reg [4, 6] [⟨(some 4), none, .box (.t 1)⟩,
       ⟨(some 6), none, .mv (.c .pnil)⟩])
  (.seq (.reg [7] [⟨(some 11), none, .mv (.t 2)⟩,
       ⟨(some 12), none, .mv (.t 2)⟩,
       ⟨(some 13), none, .len .sl (.t 12)⟩,
       ⟨(some 14), none, .bin .sub .other true (.t 13) (.c (.int .i64 1))⟩,
       ⟨(some 15), none, .iaddr none (.t 11) (.t 14)⟩,
       ⟨(some 16), none, .load none (.t 15)⟩,
       ⟨(some 7), none, .mv (.t 16)⟩])
  (.seq (.seq (.reg [21] [⟨(some 17), none, .mv (.t 7)⟩,
        ⟨(some 18), none, .nilck (.t 17)⟩,
        ⟨(some 19), none, .faddr 0 (.t 18)⟩,
        ⟨(some 20), none, .ext (.ldk none) [(.t 19)]⟩,
        ⟨(some 21), none, .bin .neq .other true (.t 20) (.c (.int .i64 4))⟩])
   (.cond (.t 21) (.seq (.reg [6] [⟨(some 22), none, .mv (.t 0)⟩,
          ⟨(some 23), none, .call (.c (.fn 57)) [(.t 22)]⟩,
          ⟨(some 6), none, .mv (.t 23)⟩])
     .ret)
   .skip))
  (.seq (.any [8, 9] [(⟨(some 25), none, .mv (.t 7)⟩, true),
       (⟨(some 26), none, .nilck (.t 25)⟩, true),
       (⟨(some 27), none, .faddr 3 (.t 26)⟩, true),
       (⟨(some 28), none, .load none (.t 27)⟩, true),
       (⟨(some 29), none, .faddr 3 (.t 4)⟩, false),
       (⟨(some 30), none, .load none (.t 29)⟩, false),
       (⟨(some 31), none, .ext (.mget .str true .pnil) [(.t 28), (.t 30)]⟩, true),
       (⟨(some 24), none, .mv (.t 31)⟩, true),
       (⟨(some 32), none, .extract (.t 24) 0⟩, true),
       (⟨(some 33), none, .extract (.t 24) 1⟩, false),
       (⟨(some 8), none, .mv (.t 32)⟩, false),
       (⟨(some 9), none, .mv (.t 33)⟩, true)])
  (.seq (.seq (.reg [38] [⟨(some 34), none, .mv (.t 9)⟩,
        ⟨(some 35), none, .faddr 0 (.t 4)⟩,
        ⟨(some 36), none, .load none (.t 35)⟩,
        ⟨(some 37), none, .bin .eql .other true (.t 36) (.c (.int .i64 10))⟩,
        ⟨(some 38), none, .bin .eql .bool false (.t 34) (.t 37)⟩])
   (.cond (.t 38) (.seq (.reg [6] [⟨(some 39), none, .mv (.t 0)⟩,
          ⟨(some 40), none, .call (.c (.fn 57)) [(.t 39)]⟩,
          ⟨(some 6), none, .mv (.t 40)⟩])
     .ret)
   .skip))
  (.seq (.seq (.reg [43] [⟨(some 41), none, .faddr 0 (.t 4)⟩,
        ⟨(some 42), none, .load none (.t 41)⟩,
        ⟨(some 43), none, .bin .eql .other true (.t 42) (.c (.int .i64 9))⟩])
   (.cond (.t 43) (.seq (.reg [6] [⟨(some 44), none, .mv (.t 8)⟩,
          ⟨(some 6), none, .mv (.t 44)⟩])
     .ret)
   .skip))
  (.seq (.reg [10] [⟨(some 45), none, .mv (.t 7)⟩,
       ⟨(some 46), none, .nilck (.t 45)⟩,
       ⟨(some 47), none, .faddr 3 (.t 46)⟩,
       ⟨(some 48), none, .load none (.t 47)⟩,
       ⟨(some 49), none, .call (.c (.fn 104)) [(.t 48)]⟩,
       ⟨(some 50), none, .build [(.int .i64 0), (.int .i64 0), (.str []), .mnil, .pnil, .pnil] [(0, 1, (.c (.int .i64 4))), (3, 1, (.t 49))]⟩,
       ⟨(some 51), none, .box (.t 50)⟩,
       ⟨(some 10), none, .mv (.t 51)⟩])
  (.seq (.seq (.reg [54] [⟨(some 52), none, .faddr 0 (.t 4)⟩,
        ⟨(some 53), none, .load none (.t 52)⟩,
        ⟨(some 54), none, .bin .eql .other true (.t 53) (.c (.int .i64 11))⟩])
   (.cond (.t 54) (.any [] [(⟨(some 55), none, .mv (.t 10)⟩, true),
         (⟨(some 56), none, .nilck (.t 55)⟩, true),
         (⟨(some 57), none, .faddr 3 (.t 56)⟩, true),
         (⟨(some 58), none, .load none (.t 57)⟩, true),
         (⟨(some 59), none, .faddr 3 (.t 4)⟩, false),
         (⟨(some 60), none, .load none (.t 59)⟩, false),
         (⟨none, none, .ext (.mdel .str) [(.t 58), (.t 60)]⟩, true)])
   (.any [] [(⟨(some 61), none, .mv (.t 10)⟩, true),
       (⟨(some 62), none, .nilck (.t 61)⟩, true),
       (⟨(some 63), none, .faddr 3 (.t 62)⟩, true),
       (⟨(some 64), none, .load none (.t 63)⟩, true),
       (⟨(some 65), none, .faddr 3 (.t 4)⟩, false),
       (⟨(some 66), none, .load none (.t 65)⟩, false),
       (⟨(some 67), none, .mv (.t 2)⟩, false),
       (⟨(some 68), none, .iaddr none (.t 67) (.c (.int .i64 0))⟩, false),
       (⟨(some 69), none, .load none (.t 68)⟩, false),
       (⟨none, none, .ext (.mput .str) [(.t 64), (.t 66), (.t 69)]⟩, true)])))
  (.seq (.reg [6] [⟨(some 70), none, .mv (.t 10)⟩,
       ⟨(some 6), none, .mv (.t 70)⟩])
  .ret)))))))))⟩
theorem c88m : compF Tryd.prog [0, 1, 2, 4, 6, 7, 8, 9, 10, 21, 38, 43, 54] Tryd.f88 [20] = some a88m := by kernel_rfl

/- (*bushel/model.machine).op -/
def a89m : AFun := ⟨192, [.tmp 6], (.seq (.reg [6] [⟨(some 6), none, .mv (.c .pnil)⟩])
  (.seq (.any [7, 8] [(⟨(some 11), none, .mv (.t 2)⟩, true),
       (⟨(some 12), none, .iaddr none (.t 11) (.c (.int .i64 0))⟩, true),
       (⟨(some 13), none, .load none (.t 12)⟩, true),
       (⟨(some 14), none, .mv (.t 2)⟩, false),
       (⟨(some 15), none, .iaddr none (.t 14) (.c (.int .i64 1))⟩, false),
       (⟨(some 16), none, .load none (.t 15)⟩, false),
       (⟨(some 7), none, .mv (.t 13)⟩, false),
       (⟨(some 8), none, .mv (.t 16)⟩, true)])
  (.seq (.block 0 (.seq (.reg [17] [⟨(some 18), none, .mv (.t 1)⟩,
         ⟨(some 19), none, .bin .eql .other true (.t 18) (.c (.str [94]))⟩,
         ⟨(some 20), none, .mv (.t 19)⟩,
         ⟨(some 21), (some (20, true)), .mv (.t 2)⟩,
         ⟨(some 22), (some (20, true)), .mksl none [(.c (.int .i64 2)), (.c (.int .i64 2))]⟩,
         ⟨(some 23), (some (20, true)), .call (.c (.fn 90)) [(.t 21), (.t 22)]⟩,
         ⟨(some 24), none, .pick (.t 20) (.t 23) (.c (.bool false))⟩,
         ⟨(some 17), none, .mv (.t 24)⟩])
    (.cond (.t 17) (.seq (.seq (.any [36] [(⟨(some 25), none, .mv (.t 7)⟩, true),
            (⟨(some 26), none, .nilck (.t 25)⟩, true),
            (⟨(some 27), none, .faddr 2 (.t 26)⟩, true),
            (⟨(some 28), none, .load none (.t 27)⟩, true),
            (⟨(some 29), none, .len .str (.t 28)⟩, true),
            (⟨(some 30), none, .mv (.t 8)⟩, false),
            (⟨(some 31), none, .nilck (.t 30)⟩, false),
            (⟨(some 32), none, .faddr 2 (.t 31)⟩, false),
            (⟨(some 33), none, .load none (.t 32)⟩, false),
            (⟨(some 34), none, .len .str (.t 33)⟩, false),
            (⟨(some 35), none, .bin .add .other false (.t 29) (.t 34)⟩, true),
            (⟨(some 36), none, .bin .gtr .other true (.t 35) (.c (.int .i64 2000))⟩, true)])
       (.cond (.t 36) (.seq (.reg [6] [⟨(some 37), none, .mv (.t 0)⟩,
              ⟨(some 38), none, .call (.c (.fn 55)) [(.t 37), (.c (.int .i64 9)), (.c (.int .i64 2))]⟩,
              ⟨(some 6), none, .mv (.t 38)⟩])
         .ret)
       .skip))
      (.seq (.any [6] [(⟨(some 39), none, .mv (.t 7)⟩, true),
           (⟨(some 40), none, .nilck (.t 39)⟩, true),
           (⟨(some 41), none, .faddr 2 (.t 40)⟩, true),
           (⟨(some 42), none, .load none (.t 41)⟩, true),
           (⟨(some 43), none, .mv (.t 8)⟩, false),
           (⟨(some 44), none, .nilck (.t 43)⟩, false),
           (⟨(some 45), none, .faddr 2 (.t 44)⟩, false),
           (⟨(some 46), none, .load none (.t 45)⟩, false),
           (⟨(some 47), none, .bin .add .other false (.t 42) (.t 46)⟩, true),
           (⟨(some 48), none, .build [(.int .i64 0), (.int .i64 0), (.str []), .mnil, .pnil, .pnil] [(0, 1, (.c (.int .i64 2))), (2, 1, (.t 47))]⟩, true),
           (⟨(some 49), none, .ext .ibox [(.t 48)]⟩, true),
           (⟨(some 6), none, .mv (.t 49)⟩, true)])
      .ret))
    (.seq (.reg [50] [⟨(some 51), none, .mv (.t 1)⟩,
         ⟨(some 52), none, .bin .eql .other true (.t 51) (.c (.str [35]))⟩,
         ⟨(some 53), none, .mv (.t 52)⟩,
         ⟨(some 54), (some (53, true)), .mv (.t 2)⟩,
         ⟨(some 55), (some (53, true)), .mksl none [(.c (.int .i64 2)), (.c (.int .i64 1))]⟩,
         ⟨(some 56), (some (53, true)), .call (.c (.fn 90)) [(.t 54), (.t 55)]⟩,
         ⟨(some 57), none, .pick (.t 53) (.t 56) (.c (.bool false))⟩,
         ⟨(some 50), none, .mv (.t 57)⟩])
    (.cond (.t 50) (.seq (.seq (.any [74] [(⟨(some 58), none, .mv (.t 8)⟩, true),
            (⟨(some 59), none, .nilck (.t 58)⟩, true),
            (⟨(some 60), none, .faddr 1 (.t 59)⟩, true),
            (⟨(some 61), none, .load none (.t 60)⟩, true),
            (⟨(some 62), none, .bin .lss .other true (.t 61) (.c (.int .i64 0))⟩, true),
            (⟨(some 63), none, .mv (.t 62)⟩, true),
            (⟨(some 64), (some (63, false)), .mv (.t 8)⟩, true),
            (⟨(some 65), (some (63, false)), .nilck (.t 64)⟩, true),
            (⟨(some 66), (some (63, false)), .faddr 1 (.t 65)⟩, true),
            (⟨(some 67), (some (63, false)), .load none (.t 66)⟩, true),
            (⟨(some 68), (some (63, false)), .mv (.t 7)⟩, false),
            (⟨(some 69), (some (63, false)), .nilck (.t 68)⟩, false),
            (⟨(some 70), (some (63, false)), .faddr 2 (.t 69)⟩, false),
            (⟨(some 71), (some (63, false)), .load none (.t 70)⟩, false),
            (⟨(some 72), (some (63, false)), .len .str (.t 71)⟩, false),
            (⟨(some 73), (some (63, false)), .bin .geq .other false (.t 67) (.t 72)⟩, true),
            (⟨(some 74), none, .pick (.t 63) (.c (.bool true)) (.t 73)⟩, true)])
       (.cond (.t 74) (.seq (.reg [6] [⟨(some 75), none, .mv (.t 0)⟩,
              ⟨(some 76), none, .call (.c (.fn 55)) [(.t 75), (.c (.int .i64 9)), (.c (.int .i64 2))]⟩,
              ⟨(some 6), none, .mv (.t 76)⟩])
         .ret)
       .skip))
      (.seq (.any [6] [(⟨(some 77), none, .mv (.t 7)⟩, true),
           (⟨(some 78), none, .nilck (.t 77)⟩, true),
           (⟨(some 79), none, .faddr 2 (.t 78)⟩, true),
           (⟨(some 80), none, .load none (.t 79)⟩, true),
           (⟨(some 81), none, .mv (.t 8)⟩, false),
           (⟨(some 82), none, .nilck (.t 81)⟩, false),
           (⟨(some 83), none, .faddr 1 (.t 82)⟩, false),
           (⟨(some 84), none, .load none (.t 83)⟩, false),
           (⟨(some 85), none, .index (.t 80) (.t 84)⟩, true),
           (⟨(some 86), none, .conv (.toInt .i64) (.t 85)⟩, true),
           (⟨(some 87), none, .build [(.int .i64 0), (.int .i64 0), (.str []), .mnil, .pnil, .pnil] [(0, 1, (.c (.int .i64 1))), (1, 1, (.t 86))]⟩, true),
           (⟨(some 88), none, .ext .ibox [(.t 87)]⟩, true),
           (⟨(some 6), none, .mv (.t 88)⟩, true)])
      .ret))
    (.seq (.reg [89] [⟨(some 90), none, .mv (.t 2)⟩,
         ⟨(some 91), none, .mksl none [(.c (.int .i64 1)), (.c (.int .i64 1))]⟩,
         ⟨(some 92), none, .call (.c (.fn 90)) [(.t 90), (.t 91)]⟩,
         ⟨(some 93), none, .un .not (.t 92)⟩,
         ⟨(some 89), none, .mv (.t 93)⟩])
    (.cond (.t 89) (.seq (.reg [6] [⟨(some 94), none, .mv (.t 0)⟩,
           ⟨(some 95), none, .call (.c (.fn 57)) [(.t 94)]⟩,
           ⟨(some 6), none, .mv (.t 95)⟩])
      .ret)
    .skip)))))))
  (.seq (.reg [9] [⟨(some 96), none, .build [(.int .i64 0), (.int .i64 0), (.str []), .mnil, .pnil, .pnil] [(0, 1, (.c (.int .i64 1)))]⟩,
       ⟨(some 97), none, .box (.t 96)⟩,
       ⟨(some 9), none, .alloc [.pnil]⟩,
       ⟨none, none, .store 1 (.t 9) (.t 97)⟩])
  (.seq (.reg [10] [⟨(some 98), none, .mkfn 105 [(.t 9)]⟩,
       ⟨(some 10), none, .mv (.t 98)⟩])
  (.seq (.seq (.reg [99] [⟨(some 99), none, .mv (.t 1)⟩])
   (.block 1 (.seq (.reg [102] [⟨(some 103), none, .bin .eql .other true (.t 99) (.c (.str [43]))⟩,
         ⟨(some 102), none, .mv (.t 103)⟩])
    (.cond (.t 102) (.any [] [(⟨(some 104), none, .load none (.t 9)⟩, true),
          (⟨(some 105), none, .mv (.t 7)⟩, false),
          (⟨(some 106), none, .nilck (.t 105)⟩, false),
          (⟨(some 107), none, .faddr 1 (.t 106)⟩, false),
          (⟨(some 108), none, .load none (.t 107)⟩, false),
          (⟨(some 109), none, .mv (.t 8)⟩, false),
          (⟨(some 110), none, .nilck (.t 109)⟩, false),
          (⟨(some 111), none, .faddr 1 (.t 110)⟩, false),
          (⟨(some 112), none, .load none (.t 111)⟩, false),
          (⟨(some 113), none, .bin .add .other false (.t 108) (.t 112)⟩, false),
          (⟨(some 114), none, .nilck (.t 104)⟩, true),
          (⟨(some 115), none, .faddr 1 (.t 114)⟩, true),
          (⟨none, none, .store 1 (.t 115) (.t 113)⟩, true)])
    (.seq (.reg [116] [⟨(some 117), none, .bin .eql .other true (.t 99) (.c (.str [45]))⟩,
         ⟨(some 116), none, .mv (.t 117)⟩])
    (.cond (.t 116) (.any [] [(⟨(some 118), none, .load none (.t 9)⟩, true),
          (⟨(some 119), none, .mv (.t 7)⟩, false),
          (⟨(some 120), none, .nilck (.t 119)⟩, false),
          (⟨(some 121), none, .faddr 1 (.t 120)⟩, false),
          (⟨(some 122), none, .load none (.t 121)⟩, false),
          (⟨(some 123), none, .mv (.t 8)⟩, false),
          (⟨(some 124), none, .nilck (.t 123)⟩, false),
          (⟨(some 125), none, .faddr 1 (.t 124)⟩, false),
          (⟨(some 126), none, .load none (.t 125)⟩, false),
          (⟨(some 127), none, .bin .sub .other false (.t 122) (.t 126)⟩, false),
          (⟨(some 128), none, .nilck (.t 118)⟩, true),
          (⟨(some 129), none, .faddr 1 (.t 128)⟩, true),
          (⟨none, none, .store 1 (.t 129) (.t 127)⟩, true)])
    (.seq (.reg [130] [⟨(some 131), none, .bin .eql .other true (.t 99) (.c (.str [42]))⟩,
         ⟨(some 130), none, .mv (.t 131)⟩])
    (.cond (.t 130) (.any [] [(⟨(some 132), none, .load none (.t 9)⟩, true),
          (⟨(some 133), none, .mv (.t 7)⟩, false),
          (⟨(some 134), none, .nilck (.t 133)⟩, false),
          (⟨(some 135), none, .faddr 1 (.t 134)⟩, false),
          (⟨(some 136), none, .load none (.t 135)⟩, false),
          (⟨(some 137), none, .mv (.t 8)⟩, false),
          (⟨(some 138), none, .nilck (.t 137)⟩, false),
          (⟨(some 139), none, .faddr 1 (.t 138)⟩, false),
          (⟨(some 140), none, .load none (.t 139)⟩, false),
          (⟨(some 141), none, .bin .mul .other false (.t 136) (.t 140)⟩, false),
          (⟨(some 142), none, .nilck (.t 132)⟩, true),
          (⟨(some 143), none, .faddr 1 (.t 142)⟩, true),
          (⟨none, none, .store 1 (.t 143) (.t 141)⟩, true)])
    (.seq (.reg [144] [⟨(some 145), none, .bin .eql .other true (.t 99) (.c (.str [47]))⟩,
         ⟨(some 144), none, .mv (.t 145)⟩])
    (.cond (.t 144) (.seq (.seq (.reg [150] [⟨(some 146), none, .mv (.t 8)⟩,
            ⟨(some 147), none, .nilck (.t 146)⟩,
            ⟨(some 148), none, .faddr 1 (.t 147)⟩,
            ⟨(some 149), none, .load none (.t 148)⟩,
            ⟨(some 150), none, .bin .eql .other true (.t 149) (.c (.int .i64 0))⟩])
       (.cond (.t 150) (.seq (.reg [6] [⟨(some 151), none, .mv (.t 0)⟩,
              ⟨(some 152), none, .call (.c (.fn 55)) [(.t 151), (.c (.int .i64 9)), (.c (.int .i64 1))]⟩,
              ⟨(some 6), none, .mv (.t 152)⟩])
         .ret)
       .skip))
      (.any [] [(⟨(some 153), none, .load none (.t 9)⟩, true),
          (⟨(some 154), none, .mv (.t 7)⟩, false),
          (⟨(some 155), none, .nilck (.t 154)⟩, false),
          (⟨(some 156), none, .faddr 1 (.t 155)⟩, false),
          (⟨(some 157), none, .load none (.t 156)⟩, false),
          (⟨(some 158), none, .mv (.t 8)⟩, false),
          (⟨(some 159), none, .nilck (.t 158)⟩, false),
          (⟨(some 160), none, .faddr 1 (.t 159)⟩, false),
          (⟨(some 161), none, .load none (.t 160)⟩, false),
          (⟨(some 162), none, .bin .quo .other false (.t 157) (.t 161)⟩, false),
          (⟨(some 163), none, .nilck (.t 153)⟩, true),
          (⟨(some 164), none, .faddr 1 (.t 163)⟩, true),
          (⟨none, none, .store 1 (.t 164) (.t 162)⟩, true)]))
    (.seq (.reg [165] [⟨(some 166), none, .bin .eql .other true (.t 99) (.c (.str [60]))⟩,
         ⟨(some 165), none, .mv (.t 166)⟩])
    (.cond (.t 165) (.any [] [(⟨(some 167), none, .mv (.t 10)⟩, true),
          (⟨(some 168), none, .mv (.t 7)⟩, false),
          (⟨(some 169), none, .nilck (.t 168)⟩, false),
          (⟨(some 170), none, .faddr 1 (.t 169)⟩, false),
          (⟨(some 171), none, .load none (.t 170)⟩, false),
          (⟨(some 172), none, .mv (.t 8)⟩, false),
          (⟨(some 173), none, .nilck (.t 172)⟩, false),
          (⟨(some 174), none, .faddr 1 (.t 173)⟩, false),
          (⟨(some 175), none, .load none (.t 174)⟩, false),
          (⟨(some 176), none, .bin .lss .other false (.t 171) (.t 175)⟩, false),
          (⟨(some 177), none, .call (.t 167) [(.t 176)]⟩, true)])
    (.seq (.reg [178] [⟨(some 179), none, .bin .eql .other true (.t 99) (.c (.str [61, 61]))⟩,
         ⟨(some 178), none, .mv (.t 179)⟩])
    (.cond (.t 178) (.any [] [(⟨(some 180), none, .mv (.t 10)⟩, true),
          (⟨(some 181), none, .mv (.t 7)⟩, false),
          (⟨(some 182), none, .nilck (.t 181)⟩, false),
          (⟨(some 183), none, .faddr 1 (.t 182)⟩, false),
          (⟨(some 184), none, .load none (.t 183)⟩, false),
          (⟨(some 185), none, .mv (.t 8)⟩, false),
          (⟨(some 186), none, .nilck (.t 185)⟩, false),
          (⟨(some 187), none, .faddr 1 (.t 186)⟩, false),
          (⟨(some 188), none, .load none (.t 187)⟩, false),
          (⟨(some 189), none, .bin .eql .other false (.t 184) (.t 188)⟩, false),
          (⟨(some 190), none, .call (.t 180) [(.t 189)]⟩, true)])
    (.seq (.reg [6] [⟨(some 100), none, .mv (.t 0)⟩,
         ⟨(some 101), none, .call (.c (.fn 57)) [(.t 100)]⟩,
         ⟨(some 6), none, .mv (.t 101)⟩])
    .ret)))))))))))))))
  (.seq (.reg [6] [⟨(some 191), none, .load none (.t 9)⟩,
       ⟨(some 6), none, .mv (.t 191)⟩])
  .ret)))))))⟩
theorem c89m : compF Tryd.prog [0, 1, 2, 6, 7, 8, 9, 10, 17, 36, 50, 74, 89, 99, 102, 116, 130, 144, 150, 165, 178] Tryd.f89 [49, 88] = some a89m := by kernel_rfl

/- bushel/model.are -/
def a90m : AFun := ⟨24, [.tmp 4], (.seq (.reg [4] [⟨(some 4), none, .mv (.c (.bool false))⟩])
  (.seq (.seq (.reg [7, 8, 9] [⟨(some 7), none, .mv (.t 1)⟩,
        ⟨(some 8), none, .len .sl (.t 7)⟩,
        ⟨(some 9), none, .mv (.c (.int .i64 0))⟩])
   (.block 0 (.loop (.seq (.reg [10] [⟨(some 10), none, .bin .lss .other false (.t 9) (.t 8)⟩])
     (.seq (.cond (.t 10) .skip
      (.exit 0))
     (.seq (.block 1 (.seq (.reg [5, 6] [⟨(some 11), none, .mv (.t 9)⟩,
            ⟨(some 12), none, .iaddr none (.t 7) (.t 9)⟩,
            ⟨(some 13), none, .load none (.t 12)⟩,
            ⟨(some 5), none, .mv (.t 11)⟩,
            ⟨(some 6), none, .mv (.t 13)⟩])
       (.seq (.reg [22] [⟨(some 14), none, .mv (.t 0)⟩,
            ⟨(some 15), none, .mv (.t 5)⟩,
            ⟨(some 16), none, .iaddr none (.t 14) (.t 15)⟩,
            ⟨(some 17), none, .load none (.t 16)⟩,
            ⟨(some 18), none, .nilck (.t 17)⟩,
            ⟨(some 19), none, .faddr 0 (.t 18)⟩,
            ⟨(some 20), none, .ext (.ldk none) [(.t 19)]⟩,
            ⟨(some 21), none, .mv (.t 6)⟩,
            ⟨(some 22), none, .bin .neq .other false (.t 20) (.t 21)⟩])
       (.cond (.t 22) (.seq (.reg [4] [⟨(some 4), none, .mv (.c (.bool false))⟩])
         .ret)
       .skip))))
     (.reg [9] [⟨(some 23), none, .bin .add .other true (.t 9) (.c (.int .i64 1))⟩,
         ⟨(some 9), none, .mv (.t 23)⟩])))))))
  (.seq (.reg [4] [⟨(some 4), none, .mv (.c (.bool true))⟩])
  .ret)))⟩
theorem c90m : compF Tryd.prog [0, 1, 4, 5, 6, 7, 8, 9, 10, 22] Tryd.f90 [20] = some a90m := by kernel_rfl

/- maps.Keys[map[string]*bushel/model.value,string,*bushel/model.value] -/
def a92 : AFun := ⟨4, [.tmp 2], (.seq (.reg [1, 2] [⟨(some 1), none, .box (.t 0)⟩,
       ⟨(some 2), none, .mv (.c .fnil)⟩])
  (.seq (.reg [2] [⟨(some 3), none, .mkfn 110 [(.t 1)]⟩,
       ⟨(some 2), none, .mv (.t 3)⟩])
  .ret))⟩
theorem c92 : compF Tryd.prog [0, 1, 2] Tryd.f92 = some a92 := by kernel_rfl

/- slices.Contains[[]int,int] -/
def a93 : AFun := ⟨9, [.tmp 4], (.seq (.reg [4] [⟨(some 4), none, .mv (.c (.bool false))⟩])
  (.seq (.reg [4] [⟨(some 5), none, .mv (.t 0)⟩,
       ⟨(some 6), none, .mv (.t 1)⟩,
       ⟨(some 7), none, .call (.c (.fn 111)) [(.t 5), (.t 6)]⟩,
       ⟨(some 8), none, .bin .geq .other true (.t 7) (.c (.int .i64 0))⟩,
       ⟨(some 4), none, .mv (.t 8)⟩])
  .ret))⟩
theorem c93 : compF Tryd.prog [0, 1, 4] Tryd.f93 = some a93 := by kernel_rfl

/- (*bushel/model.machine).op$1 -/
def a105 : AFun := ⟨7, [], (.seq (.reg [3] [⟨(some 3), none, .mv (.t 0)⟩])
  (.cond (.t 3) (.reg [] [⟨(some 4), none, .load none (.t 1)⟩,
        ⟨(some 5), none, .nilck (.t 4)⟩,
        ⟨(some 6), none, .faddr 1 (.t 5)⟩,
        ⟨none, none, .store 1 (.t 6) (.c (.int .i64 1))⟩])
  .skip))⟩
theorem c105 : compF Tryd.prog [0, 1, 3] Tryd.f105 = some a105 := by kernel_rfl

/- slices.Index[[]int,int] -/
def a111 : AFun := ⟨19, [.tmp 4], (.seq (.reg [4] [⟨(some 4), none, .mv (.c (.int .i64 0))⟩])
  (.seq (.seq (.reg [7, 8] [⟨(some 6), none, .mv (.t 0)⟩,
        ⟨(some 7), none, .len .sl (.t 6)⟩,
        ⟨(some 8), none, .mv (.c (.int .i64 0))⟩])
   (.block 0 (.loop (.seq (.reg [9] [⟨(some 9), none, .bin .lss .other false (.t 8) (.t 7)⟩])
     (.seq (.cond (.t 9) .skip
      (.exit 0))
     (.seq (.block 1 (.seq (.reg [5] [⟨(some 10), none, .mv (.t 8)⟩,
            ⟨(some 5), none, .mv (.t 10)⟩])
       (.seq (.reg [16] [⟨(some 11), none, .mv (.t 1)⟩,
            ⟨(some 12), none, .mv (.t 0)⟩,
            ⟨(some 13), none, .mv (.t 5)⟩,
            ⟨(some 14), none, .iaddr none (.t 12) (.t 13)⟩,
            ⟨(some 15), none, .load none (.t 14)⟩,
            ⟨(some 16), none, .bin .eql .other false (.t 11) (.t 15)⟩])
       (.cond (.t 16) (.seq (.reg [4] [⟨(some 17), none, .mv (.t 5)⟩,
              ⟨(some 4), none, .mv (.t 17)⟩])
         .ret)
       .skip))))
     (.reg [8] [⟨(some 18), none, .bin .add .other true (.t 8) (.c (.int .i64 1))⟩,
         ⟨(some 8), none, .mv (.t 18)⟩])))))))
  (.seq (.reg [4] [⟨(some 4), none, .mv (.c (.int .i64 (-1)))⟩])
  .ret)))⟩
theorem c111 : compF Tryd.prog [0, 1, 4, 5, 7, 8, 9, 16] Tryd.f111 = some a111 := by kernel_rfl

end Go.Proofs.YtbifjffjibnjjaaDoor
