/-
  The bodies of functions, in the small language: printed by program, proved by the kernel's computing. (Own work.)
-/
import Derived.Test.YtbifjffjibnjjaaDoorAbsU
import Derived.Test.YtbifjffjibnjjaaDoorChecked
namespace Go.Proofs.YtbifjffjibnjjaaDoor
open Go Go.Abs

/- bushel/bushellaw14.CoreTells -/
def a5 : AFun := ⟨49, [.tmp 4], (.seq (.reg [2, 3, 4] [⟨(some 2), none, .box (.t 0)⟩,
       ⟨(some 3), none, .box (.t 1)⟩,
       ⟨(some 4), none, .mv (.c (.bool false))⟩])
  (.seq (.reg [5] [⟨(some 8), none, .call (.c (.fn 7)) []⟩,
       ⟨(some 5), none, .mv (.t 8)⟩])
  (.seq (.reg [6] [⟨(some 9), none, .load (some 6) (.t 2)⟩,
       ⟨(some 10), none, .call (.c (.fn 8)) [(.t 9)]⟩,
       ⟨(some 6), none, .mv (.t 10)⟩])
  (.seq (.reg [7] [⟨(some 11), none, .load (some 6) (.t 3)⟩,
       ⟨(some 12), none, .call (.c (.fn 8)) [(.t 11)]⟩,
       ⟨(some 7), none, .mv (.t 12)⟩])
  (.seq (.seq (.reg [18] [⟨(some 13), none, .mv (.t 6)⟩,
        ⟨(some 14), none, .un .not (.t 13)⟩,
        ⟨(some 15), none, .mv (.t 14)⟩,
        ⟨(some 16), (some (15, false)), .mv (.t 7)⟩,
        ⟨(some 17), (some (15, false)), .un .not (.t 16)⟩,
        ⟨(some 18), none, .pick (.t 15) (.c (.bool true)) (.t 17)⟩])
   (.cond (.t 18) (.seq (.reg [4] [⟨(some 19), none, .mv (.t 5)⟩,
          ⟨(some 4), none, .mv (.t 19)⟩])
     .ret)
   .skip))
  (.seq (.any [4] [(⟨(some 20), none, .mv (.t 5)⟩, true),
       (⟨(some 21), none, .mv (.t 20)⟩, true),
       (⟨(some 22), (some (21, true)), .load (some 6) (.t 2)⟩, true),
       (⟨(some 24), (some (21, true)), .load (some 6) (.t 2)⟩, false),
       (⟨(some 23), (some (21, true)), .call (.c (.fn 19)) [(.t 22)]⟩, false),
       (⟨(some 25), (some (21, true)), .call (.c (.fn 20)) [(.t 24)]⟩, true),
       (⟨(some 26), (some (21, true)), .call (.c (.fn 18)) [(.t 23), (.t 25)]⟩, true),
       (⟨(some 27), none, .pick (.t 21) (.t 26) (.c (.bool false))⟩, true),
       (⟨(some 28), none, .mv (.t 27)⟩, true),
       (⟨(some 29), (some (28, true)), .load (some 6) (.t 2)⟩, true),
       (⟨(some 31), (some (28, true)), .load (some 6) (.t 2)⟩, false),
       (⟨(some 30), (some (28, true)), .call (.c (.fn 21)) [(.t 29)]⟩, false),
       (⟨(some 32), (some (28, true)), .call (.c (.fn 22)) [(.t 31)]⟩, true),
       (⟨(some 33), (some (28, true)), .bin .eql .other false (.t 30) (.t 32)⟩, true),
       (⟨(some 34), none, .pick (.t 28) (.t 33) (.c (.bool false))⟩, true),
       (⟨(some 35), none, .mv (.t 34)⟩, true),
       (⟨(some 36), (some (35, true)), .load (some 6) (.t 2)⟩, true),
       (⟨(some 37), (some (35, true)), .load (some 6) (.t 3)⟩, false),
       (⟨(some 39), (some (35, true)), .load (some 6) (.t 2)⟩, false),
       (⟨(some 40), (some (35, true)), .load (some 6) (.t 3)⟩, false),
       (⟨(some 38), (some (35, true)), .call (.c (.fn 23)) [(.t 36), (.t 37)]⟩, false),
       (⟨(some 41), (some (35, true)), .call (.c (.fn 24)) [(.t 39), (.t 40)]⟩, true),
       (⟨(some 42), (some (35, true)), .bin .eql .bool false (.t 38) (.t 41)⟩, true),
       (⟨(some 43), none, .pick (.t 35) (.t 42) (.c (.bool false))⟩, true),
       (⟨(some 44), none, .mv (.t 43)⟩, true),
       (⟨(some 45), (some (44, true)), .load (some 6) (.t 2)⟩, true),
       (⟨(some 46), (some (44, true)), .load (some 6) (.t 2)⟩, false),
       (⟨(some 47), (some (44, true)), .call (.c (.fn 23)) [(.t 45), (.t 46)]⟩, true),
       (⟨(some 48), none, .pick (.t 44) (.t 47) (.c (.bool false))⟩, true),
       (⟨(some 4), none, .mv (.t 48)⟩, true)])
  .ret))))))⟩
theorem c5 : compF Tryd.prog [0, 1, 2, 3, 4, 5, 6, 7, 18] Tryd.f5 = some a5 := by kernel_rfl

/- bushel/bushellaw14.up -/
def a7 : AFun := ⟨38, [.tmp 0], (.seq (.reg [0] [⟨(some 0), none, .mv (.c (.bool false))⟩])
  (.seq (.reg [1, 2] [⟨(some 6), none, .call (.c (.fn 29)) []⟩,
       ⟨(some 7), none, .call (.c (.fn 10)) [(.t 6), (.c .snil), (.c (.int .i64 3))]⟩,
       ⟨(some 5), none, .mv (.t 7)⟩,
       ⟨(some 8), none, .extract (.t 5) 0⟩,
       ⟨(some 9), none, .extract (.t 5) 1⟩,
       ⟨(some 1), none, .alloc [(.int .i64 0), (.int .i64 0), (.str []), .snil, .pnil, .pnil]⟩,
       ⟨(some 2), none, .alloc [(.int .i64 0), (.int .i64 0), (.str []), .snil]⟩,
       ⟨none, none, .store 6 (.t 1) (.t 8)⟩,
       ⟨none, none, .store 4 (.t 2) (.t 9)⟩])
  (.seq (.reg [4] [⟨(some 11), none, .call (.c (.fn 29)) []⟩,
       ⟨(some 12), none, .call (.c (.fn 10)) [(.t 11), (.c .snil), (.c (.int .i64 2))]⟩,
       ⟨(some 10), none, .mv (.t 12)⟩,
       ⟨(some 13), none, .extract (.t 10) 0⟩,
       ⟨(some 14), none, .extract (.t 10) 1⟩,
       ⟨(some 3), none, .alloc [(.int .i64 0), (.int .i64 0), (.str []), .snil, .pnil, .pnil]⟩,
       ⟨(some 4), none, .alloc [(.int .i64 0), (.int .i64 0), (.str []), .snil]⟩,
       ⟨none, none, .store 6 (.t 3) (.t 13)⟩,
       ⟨none, none, .store 4 (.t 4) (.t 14)⟩])
  (.seq (.reg [0] [⟨(some 15), none, .faddr 0 (.t 1)⟩,
       ⟨(some 16), none, .load none (.t 15)⟩,
       ⟨(some 17), none, .bin .eql .other true (.t 16) (.c (.int .i64 1))⟩,
       ⟨(some 18), none, .mv (.t 17)⟩,
       ⟨(some 19), (some (18, true)), .faddr 1 (.t 1)⟩,
       ⟨(some 20), (some (18, true)), .load none (.t 19)⟩,
       ⟨(some 21), (some (18, true)), .bin .eql .other true (.t 20) (.c (.int .i64 5))⟩,
       ⟨(some 22), none, .pick (.t 18) (.t 21) (.c (.bool false))⟩,
       ⟨(some 23), none, .mv (.t 22)⟩,
       ⟨(some 24), (some (23, true)), .faddr 0 (.t 2)⟩,
       ⟨(some 25), (some (23, true)), .load none (.t 24)⟩,
       ⟨(some 26), (some (23, true)), .bin .eql .other true (.t 25) (.c (.int .i64 0))⟩,
       ⟨(some 27), none, .pick (.t 23) (.t 26) (.c (.bool false))⟩,
       ⟨(some 28), none, .mv (.t 27)⟩,
       ⟨(some 29), (some (28, true)), .faddr 0 (.t 4)⟩,
       ⟨(some 30), (some (28, true)), .load none (.t 29)⟩,
       ⟨(some 31), (some (28, true)), .bin .eql .other true (.t 30) (.c (.int .i64 8))⟩,
       ⟨(some 32), none, .pick (.t 28) (.t 31) (.c (.bool false))⟩,
       ⟨(some 33), none, .mv (.t 32)⟩,
       ⟨(some 34), (some (33, true)), .call (.c (.fn 29)) []⟩,
       ⟨(some 35), (some (33, true)), .call (.c (.fn 21)) [(.t 34)]⟩,
       ⟨(some 36), (some (33, true)), .bin .eql .other true (.t 35) (.c (.int .i64 3))⟩,
       ⟨(some 37), none, .pick (.t 33) (.t 36) (.c (.bool false))⟩,
       ⟨(some 0), none, .mv (.t 37)⟩])
  .ret))))⟩
theorem c7 : compF Tryd.prog [0, 1, 2, 4] Tryd.f7 = some a7 := by kernel_rfl

/- bushel/bushelref14.Few -/
def a8 : AFun := ⟨6, [.tmp 2], (.seq (.reg [1, 2] [⟨(some 1), none, .box (.t 0)⟩,
       ⟨(some 2), none, .mv (.c (.bool false))⟩])
  (.seq (.reg [2] [⟨(some 3), none, .load (some 6) (.t 1)⟩,
       ⟨(some 4), none, .call (.c (.fn 30)) [(.t 3), (.c (.int .i64 5000))]⟩,
       ⟨(some 5), none, .bin .geq .other true (.t 4) (.c (.int .i64 0))⟩,
       ⟨(some 2), none, .mv (.t 5)⟩])
  .ret))⟩
theorem c8 : compF Tryd.prog [0, 1, 2] Tryd.f8 = some a8 := by kernel_rfl

/- bushel/bushelref14.count -/
def a30 : AFun := ⟨52, [.tmp 4], (.seq (.reg [2, 4] [⟨(some 2), none, .box (.t 0)⟩,
       ⟨(some 4), none, .mv (.c (.int .i64 0))⟩])
  (.seq (.reg [1] [⟨(some 7), none, .mv (.t 1)⟩,
       ⟨(some 8), none, .bin .sub .other true (.t 7) (.c (.int .i64 1))⟩,
       ⟨(some 9), none, .faddr 2 (.t 2)⟩,
       ⟨(some 10), none, .load none (.t 9)⟩,
       ⟨(some 11), none, .len .str (.t 10)⟩,
       ⟨(some 12), none, .bin .sub .other false (.t 8) (.t 11)⟩,
       ⟨(some 13), none, .faddr 3 (.t 2)⟩,
       ⟨(some 14), none, .load none (.t 13)⟩,
       ⟨(some 15), none, .len .str (.t 14)⟩,
       ⟨(some 16), none, .bin .sub .other false (.t 12) (.t 15)⟩,
       ⟨(some 1), none, .mv (.t 16)⟩])
  (.seq (.seq (.reg [5] [⟨(some 5), none, .mv (.c (.int .i64 0))⟩])
   (.block 0 (.loop (.seq (.seq (.reg [21] [⟨(some 17), none, .mv (.t 5)⟩,
           ⟨(some 18), none, .faddr 4 (.t 2)⟩,
           ⟨(some 19), none, .load none (.t 18)⟩,
           ⟨(some 20), none, .len .sl (.t 19)⟩,
           ⟨(some 21), none, .bin .lss .other false (.t 17) (.t 20)⟩])
      (.cond (.t 21) .skip
      (.exit 0)))
     (.seq (.block 1 (.reg [1] [⟨(some 24), none, .mv (.t 1)⟩,
           ⟨(some 25), none, .bin .sub .other true (.t 24) (.c (.int .i64 1))⟩,
           ⟨(some 26), none, .faddr 4 (.t 2)⟩,
           ⟨(some 27), none, .load none (.t 26)⟩,
           ⟨(some 28), none, .mv (.t 5)⟩,
           ⟨(some 29), none, .iaddr none (.t 27) (.t 28)⟩,
           ⟨(some 30), none, .load none (.t 29)⟩,
           ⟨(some 31), none, .len .str (.t 30)⟩,
           ⟨(some 32), none, .bin .sub .other false (.t 25) (.t 31)⟩,
           ⟨(some 1), none, .mv (.t 32)⟩]))
     (.reg [5] [⟨(some 22), none, .mv (.t 5)⟩,
         ⟨(some 23), none, .bin .add .other true (.t 22) (.c (.int .i64 1))⟩,
         ⟨(some 5), none, .mv (.t 23)⟩]))))))
  (.seq (.seq (.reg [6] [⟨(some 6), none, .mv (.c (.int .i64 0))⟩])
   (.block 2 (.loop (.seq (.seq (.reg [41] [⟨(some 33), none, .mv (.t 6)⟩,
           ⟨(some 34), none, .faddr 5 (.t 2)⟩,
           ⟨(some 35), none, .load none (.t 34)⟩,
           ⟨(some 36), none, .len .sl (.t 35)⟩,
           ⟨(some 37), none, .bin .lss .other false (.t 33) (.t 36)⟩,
           ⟨(some 38), none, .mv (.t 37)⟩,
           ⟨(some 39), (some (38, true)), .mv (.t 1)⟩,
           ⟨(some 40), (some (38, true)), .bin .geq .other true (.t 39) (.c (.int .i64 0))⟩,
           ⟨(some 41), none, .pick (.t 38) (.t 40) (.c (.bool false))⟩])
      (.cond (.t 41) .skip
      (.exit 2)))
     (.seq (.block 3 (.reg [1] [⟨(some 44), none, .faddr 5 (.t 2)⟩,
           ⟨(some 45), none, .load none (.t 44)⟩,
           ⟨(some 46), none, .mv (.t 6)⟩,
           ⟨(some 47), none, .iaddr (some 6) (.t 45) (.t 46)⟩,
           ⟨(some 48), none, .load (some 6) (.t 47)⟩,
           ⟨(some 49), none, .mv (.t 1)⟩,
           ⟨(some 50), none, .call (.c (.fn 30)) [(.t 48), (.t 49)]⟩,
           ⟨(some 1), none, .mv (.t 50)⟩]))
     (.reg [6] [⟨(some 42), none, .mv (.t 6)⟩,
         ⟨(some 43), none, .bin .add .other true (.t 42) (.c (.int .i64 1))⟩,
         ⟨(some 6), none, .mv (.t 43)⟩]))))))
  (.seq (.reg [4] [⟨(some 51), none, .mv (.t 1)⟩,
       ⟨(some 4), none, .mv (.t 51)⟩])
  .ret)))))⟩
theorem c30 : compF Tryd.prog [0, 1, 2, 4, 5, 6, 21, 41] Tryd.f30 = some a30 := by kernel_rfl

/- bushel/bushellaw14.sum -/
def a29 : AFun := ⟨5, [.cell 0 (some 6)], (.seq (.reg [0] [⟨(some 0), none, .alloc [(.int .i64 0), (.int .i64 0), (.str []), (.str []), .snil, .snil]⟩])
  (.seq (.reg [] [⟨(some 1), none, .build [(.int .i64 0), (.int .i64 0), (.str []), (.str []), .snil, .snil] [(0, 1, (.c (.int .i64 1))), (1, 1, (.c (.int .i64 2)))]⟩,
       ⟨(some 2), none, .build [(.int .i64 0), (.int .i64 0), (.str []), (.str []), .snil, .snil] [(0, 1, (.c (.int .i64 1))), (1, 1, (.c (.int .i64 3)))]⟩,
       ⟨(some 3), none, .mksl (some 6) [(.t 1), (.t 2)]⟩,
       ⟨(some 4), none, .build [(.int .i64 0), (.int .i64 0), (.str []), (.str []), .snil, .snil] [(0, 1, (.c (.int .i64 16))), (2, 1, (.c (.str [43]))), (5, 1, (.t 3))]⟩,
       ⟨none, none, .store 6 (.t 0) (.t 4)⟩])
  .ret))⟩
theorem c29 : compF Tryd.prog [0] Tryd.f29 = some a29 := by kernel_rfl

/- bushel/core.Run -/
def a10 : AFun := ⟨33, [.cell 6 (some 6), .cell 7 (some 4)], (.seq (.reg [3, 6, 7] [⟨(some 3), none, .box (.t 0)⟩,
       ⟨(some 6), none, .alloc [(.int .i64 0), (.int .i64 0), (.str []), .snil, .pnil, .pnil]⟩,
       ⟨(some 7), none, .alloc [(.int .i64 0), (.int .i64 0), (.str []), .snil]⟩])
  (.seq (.reg [8] [⟨(some 11), none, .mv (.t 1)⟩,
       ⟨(some 12), none, .mv (.t 2)⟩,
       ⟨(some 13), none, .build [.snil, (.int .i64 0), (.int .i64 0), (.int .i64 0), (.str []), .snil] [(0, 1, (.t 11)), (1, 1, (.t 12))]⟩,
       ⟨(some 14), none, .box (.t 13)⟩,
       ⟨(some 8), none, .mv (.t 14)⟩])
  (.seq (.reg [9, 10] [⟨(some 16), none, .mv (.t 8)⟩,
       ⟨(some 17), none, .load (some 6) (.t 3)⟩,
       ⟨(some 18), none, .call (.c (.fn 31)) [(.t 16), (.t 17), (.c .pnil)]⟩,
       ⟨(some 15), none, .mv (.t 18)⟩,
       ⟨(some 19), none, .extract (.t 15) 0⟩,
       ⟨(some 20), none, .extract (.t 15) 1⟩,
       ⟨(some 9), none, .alloc [(.int .i64 0), (.int .i64 0), (.str []), .snil, .pnil, .pnil]⟩,
       ⟨none, none, .store 6 (.t 9) (.t 19)⟩,
       ⟨(some 10), none, .mv (.t 20)⟩])
  (.seq (.seq (.reg [22] [⟨(some 21), none, .mv (.t 10)⟩,
        ⟨(some 22), none, .un .not (.t 21)⟩])
   (.cond (.t 22) (.seq (.any [] [(⟨(some 23), none, .build [(.int .i64 0), (.int .i64 0), (.str []), .snil, .pnil, .pnil] []⟩, true),
          (⟨(some 24), none, .mv (.t 8)⟩, false),
          (⟨(some 25), none, .nilck (.t 24)⟩, false),
          (⟨(some 26), none, .faddr 2 (.t 25)⟩, false),
          (⟨(some 27), none, .load (some 4) (.t 26)⟩, false),
          (⟨none, none, .store 6 (.t 6) (.t 23)⟩, false),
          (⟨none, none, .store 4 (.t 7) (.t 27)⟩, true)])
     .ret)
   .skip))
  (.seq (.any [] [(⟨(some 28), none, .load (some 6) (.t 9)⟩, true),
       (⟨(some 29), none, .mv (.t 8)⟩, false),
       (⟨(some 30), none, .nilck (.t 29)⟩, false),
       (⟨(some 31), none, .faddr 2 (.t 30)⟩, false),
       (⟨(some 32), none, .load (some 4) (.t 31)⟩, false),
       (⟨none, none, .store 6 (.t 6) (.t 28)⟩, false),
       (⟨none, none, .store 4 (.t 7) (.t 32)⟩, true)])
  .ret)))))⟩
theorem c10 : compF Tryd.prog [0, 1, 2, 3, 6, 7, 8, 9, 10, 22] Tryd.f10 = some a10 := by kernel_rfl

/- bushel/core.parts -/
def a49 : AFun := ⟨48, [.tmp 2], (.seq (.reg [1, 2] [⟨(some 1), none, .box (.t 0)⟩,
       ⟨(some 2), none, .mv (.c (.int .i64 0))⟩])
  (.seq (.seq (.reg [5] [⟨(some 4), none, .faddr 0 (.t 1)⟩,
        ⟨(some 5), none, .load none (.t 4)⟩])
   (.block 0 (.seq (.seq (.reg [6] [⟨(some 7), none, .bin .eql .other true (.t 5) (.c (.int .i64 1))⟩,
          ⟨(some 6), none, .mv (.t 7)⟩])
     (.cond (.t 6) .skip
     (.seq (.reg [6] [⟨(some 8), none, .bin .eql .other true (.t 5) (.c (.int .i64 2))⟩,
          ⟨(some 6), none, .mv (.t 8)⟩])
     (.cond (.t 6) .skip
     (.seq (.reg [6] [⟨(some 9), none, .bin .eql .other true (.t 5) (.c (.int .i64 3))⟩,
          ⟨(some 6), none, .mv (.t 9)⟩])
     (.cond (.t 6) .skip
     (.reg [6] [⟨(some 10), none, .bin .eql .other true (.t 5) (.c (.int .i64 22))⟩,
         ⟨(some 6), none, .mv (.t 10)⟩])))))))
    (.cond (.t 6) (.seq (.reg [2] [⟨(some 2), none, .mv (.c (.int .i64 0))⟩])
      .ret)
    (.seq (.seq (.reg [11] [⟨(some 12), none, .bin .eql .other true (.t 5) (.c (.int .i64 4))⟩,
          ⟨(some 11), none, .mv (.t 12)⟩])
     (.cond (.t 11) .skip
     (.seq (.reg [11] [⟨(some 13), none, .bin .eql .other true (.t 5) (.c (.int .i64 17))⟩,
          ⟨(some 11), none, .mv (.t 13)⟩])
     (.cond (.t 11) .skip
     (.seq (.reg [11] [⟨(some 14), none, .bin .eql .other true (.t 5) (.c (.int .i64 18))⟩,
          ⟨(some 11), none, .mv (.t 14)⟩])
     (.cond (.t 11) .skip
     (.seq (.reg [11] [⟨(some 15), none, .bin .eql .other true (.t 5) (.c (.int .i64 20))⟩,
          ⟨(some 11), none, .mv (.t 15)⟩])
     (.cond (.t 11) .skip
     (.reg [11] [⟨(some 16), none, .bin .eql .other true (.t 5) (.c (.int .i64 21))⟩,
         ⟨(some 11), none, .mv (.t 16)⟩])))))))))
    (.cond (.t 11) (.seq (.reg [2] [⟨(some 2), none, .mv (.c (.int .i64 1))⟩])
      .ret)
    (.seq (.seq (.reg [17] [⟨(some 18), none, .bin .eql .other true (.t 5) (.c (.int .i64 5))⟩,
          ⟨(some 17), none, .mv (.t 18)⟩])
     (.cond (.t 17) .skip
     (.seq (.reg [17] [⟨(some 19), none, .bin .eql .other true (.t 5) (.c (.int .i64 6))⟩,
          ⟨(some 17), none, .mv (.t 19)⟩])
     (.cond (.t 17) .skip
     (.seq (.reg [17] [⟨(some 20), none, .bin .eql .other true (.t 5) (.c (.int .i64 7))⟩,
          ⟨(some 17), none, .mv (.t 20)⟩])
     (.cond (.t 17) .skip
     (.seq (.reg [17] [⟨(some 21), none, .bin .eql .other true (.t 5) (.c (.int .i64 9))⟩,
          ⟨(some 17), none, .mv (.t 21)⟩])
     (.cond (.t 17) .skip
     (.seq (.reg [17] [⟨(some 22), none, .bin .eql .other true (.t 5) (.c (.int .i64 11))⟩,
          ⟨(some 17), none, .mv (.t 22)⟩])
     (.cond (.t 17) .skip
     (.seq (.reg [17] [⟨(some 23), none, .bin .eql .other true (.t 5) (.c (.int .i64 13))⟩,
          ⟨(some 17), none, .mv (.t 23)⟩])
     (.cond (.t 17) .skip
     (.seq (.reg [17] [⟨(some 24), none, .bin .eql .other true (.t 5) (.c (.int .i64 16))⟩,
          ⟨(some 17), none, .mv (.t 24)⟩])
     (.cond (.t 17) .skip
     (.reg [17] [⟨(some 25), none, .bin .eql .other true (.t 5) (.c (.int .i64 19))⟩,
         ⟨(some 17), none, .mv (.t 25)⟩])))))))))))))))
    (.cond (.t 17) (.seq (.reg [2] [⟨(some 2), none, .mv (.c (.int .i64 2))⟩])
      .ret)
    (.seq (.seq (.reg [26] [⟨(some 27), none, .bin .eql .other true (.t 5) (.c (.int .i64 10))⟩,
          ⟨(some 26), none, .mv (.t 27)⟩])
     (.cond (.t 26) .skip
     (.seq (.reg [26] [⟨(some 28), none, .bin .eql .other true (.t 5) (.c (.int .i64 12))⟩,
          ⟨(some 26), none, .mv (.t 28)⟩])
     (.cond (.t 26) .skip
     (.reg [26] [⟨(some 29), none, .bin .eql .other true (.t 5) (.c (.int .i64 15))⟩,
         ⟨(some 26), none, .mv (.t 29)⟩])))))
    (.cond (.t 26) (.seq (.reg [2] [⟨(some 2), none, .mv (.c (.int .i64 3))⟩])
      .ret)
    (.seq (.reg [30] [⟨(some 31), none, .bin .eql .other true (.t 5) (.c (.int .i64 8))⟩,
         ⟨(some 30), none, .mv (.t 31)⟩])
    (.cond (.t 30) (.seq (.reg [2] [⟨(some 32), none, .faddr 5 (.t 1)⟩,
           ⟨(some 33), none, .load none (.t 32)⟩,
           ⟨(some 34), none, .len .sl (.t 33)⟩,
           ⟨(some 2), none, .mv (.t 34)⟩])
      .ret)
    (.seq (.reg [35] [⟨(some 36), none, .bin .eql .other true (.t 5) (.c (.int .i64 14))⟩,
         ⟨(some 35), none, .mv (.t 36)⟩])
    (.cond (.t 35) (.seq (.reg [3] [⟨(some 37), none, .faddr 4 (.t 1)⟩,
           ⟨(some 38), none, .load none (.t 37)⟩,
           ⟨(some 39), none, .len .sl (.t 38)⟩,
           ⟨(some 40), none, .bin .mul .other true (.c (.int .i64 2)) (.t 39)⟩,
           ⟨(some 41), none, .bin .add .other true (.c (.int .i64 1)) (.t 40)⟩,
           ⟨(some 3), none, .mv (.t 41)⟩])
      (.seq (.seq (.reg [44] [⟨(some 42), none, .faddr 3 (.t 1)⟩,
            ⟨(some 43), none, .load none (.t 42)⟩,
            ⟨(some 44), none, .bin .neq .other true (.t 43) (.c (.str []))⟩])
       (.cond (.t 44) (.reg [3] [⟨(some 45), none, .mv (.t 3)⟩,
             ⟨(some 46), none, .bin .add .other true (.t 45) (.c (.int .i64 1))⟩,
             ⟨(some 3), none, .mv (.t 46)⟩])
       .skip))
      (.seq (.reg [2] [⟨(some 47), none, .mv (.t 3)⟩,
           ⟨(some 2), none, .mv (.t 47)⟩])
      .ret)))
    .skip))))))))))))))
  (.seq (.reg [2] [⟨(some 2), none, .mv (.c (.int .i64 (-1)))⟩])
  .ret)))⟩
theorem c49 : compF Tryd.prog [0, 1, 2, 3, 5, 6, 11, 17, 26, 30, 35, 44] Tryd.f49 = some a49 := by kernel_rfl

/- (*bushel/core.machine).all -/
def a53 : AFun := ⟨34, [.tmp 6, .tmp 7], (.seq (.reg [6, 7] [⟨(some 6), none, .mv (.c .snil)⟩,
       ⟨(some 7), none, .mv (.c (.bool false))⟩])
  (.seq (.reg [8] [⟨(some 8), none, .mv (.c .snil)⟩])
  (.seq (.seq (.reg [13, 14, 15] [⟨(some 13), none, .mv (.t 1)⟩,
        ⟨(some 14), none, .len .sl (.t 13)⟩,
        ⟨(some 15), none, .mv (.c (.int .i64 0))⟩])
   (.block 0 (.loop (.seq (.reg [16] [⟨(some 16), none, .bin .lss .other false (.t 15) (.t 14)⟩])
     (.seq (.cond (.t 16) .skip
      (.exit 0))
     (.seq (.block 1 (.seq (.reg [10] [⟨(some 17), none, .iaddr (some 6) (.t 13) (.t 15)⟩,
            ⟨(some 18), none, .load (some 6) (.t 17)⟩,
            ⟨(some 10), none, .alloc [(.int .i64 0), (.int .i64 0), (.str []), (.str []), .snil, .snil]⟩,
            ⟨none, none, .store 6 (.t 10) (.t 18)⟩])
       (.seq (.reg [11, 12] [⟨(some 20), none, .mv (.t 0)⟩,
            ⟨(some 21), none, .load (some 6) (.t 10)⟩,
            ⟨(some 22), none, .mv (.t 2)⟩,
            ⟨(some 23), none, .call (.c (.fn 31)) [(.t 20), (.t 21), (.t 22)]⟩,
            ⟨(some 19), none, .mv (.t 23)⟩,
            ⟨(some 24), none, .extract (.t 19) 0⟩,
            ⟨(some 25), none, .extract (.t 19) 1⟩,
            ⟨(some 11), none, .alloc [(.int .i64 0), (.int .i64 0), (.str []), .snil, .pnil, .pnil]⟩,
            ⟨none, none, .store 6 (.t 11) (.t 24)⟩,
            ⟨(some 12), none, .mv (.t 25)⟩])
       (.seq (.seq (.reg [27] [⟨(some 26), none, .mv (.t 12)⟩,
             ⟨(some 27), none, .un .not (.t 26)⟩])
        (.cond (.t 27) (.seq (.reg [6, 7] [⟨(some 6), none, .mv (.c .snil)⟩,
               ⟨(some 7), none, .mv (.c (.bool false))⟩])
          .ret)
        .skip))
       (.reg [8] [⟨(some 28), none, .mv (.t 8)⟩,
           ⟨(some 29), none, .load (some 6) (.t 11)⟩,
           ⟨(some 30), none, .mksl (some 6) [(.t 29)]⟩,
           ⟨(some 31), none, .append (some 6) 72 (.t 28) (.t 30)⟩,
           ⟨(some 8), none, .mv (.t 31)⟩])))))
     (.reg [15] [⟨(some 32), none, .bin .add .other true (.t 15) (.c (.int .i64 1))⟩,
         ⟨(some 15), none, .mv (.t 32)⟩])))))))
  (.seq (.reg [6, 7] [⟨(some 33), none, .mv (.t 8)⟩,
       ⟨(some 6), none, .mv (.t 33)⟩,
       ⟨(some 7), none, .mv (.c (.bool true))⟩])
  .ret))))⟩
theorem c53 : compF Tryd.prog [0, 1, 2, 6, 7, 8, 10, 11, 12, 13, 14, 15, 16, 27] Tryd.f53 = some a53 := by kernel_rfl

/- (*bushel/core.machine).op -/
def a84 : AFun := ⟨138, [.cell 8 (some 6), .tmp 9], (.seq (.reg [6, 7, 8, 9] [⟨(some 6), none, .box (.t 2)⟩,
       ⟨(some 7), none, .box (.t 3)⟩,
       ⟨(some 8), none, .alloc [(.int .i64 0), (.int .i64 0), (.str []), .snil, .pnil, .pnil]⟩,
       ⟨(some 9), none, .mv (.c (.bool false))⟩])
  (.seq (.reg [10] [⟨(some 12), none, .load (some 6) (.t 6)⟩,
       ⟨(some 13), none, .load (some 6) (.t 7)⟩,
       ⟨(some 14), none, .mksl (some 6) [(.t 12), (.t 13)]⟩,
       ⟨(some 10), none, .mv (.t 14)⟩])
  (.seq (.block 0 (.seq (.reg [15] [⟨(some 16), none, .mv (.t 1)⟩,
         ⟨(some 17), none, .bin .eql .other true (.t 16) (.c (.str [94]))⟩,
         ⟨(some 18), none, .mv (.t 17)⟩,
         ⟨(some 19), (some (18, true)), .mv (.t 10)⟩,
         ⟨(some 20), (some (18, true)), .mksl none [(.c (.int .i64 2)), (.c (.int .i64 2))]⟩,
         ⟨(some 21), (some (18, true)), .call (.c (.fn 83)) [(.t 19), (.t 20)]⟩,
         ⟨(some 22), none, .pick (.t 18) (.t 21) (.c (.bool false))⟩,
         ⟨(some 15), none, .mv (.t 22)⟩])
    (.cond (.t 15) (.seq (.seq (.reg [30] [⟨(some 23), none, .faddr 2 (.t 6)⟩,
            ⟨(some 24), none, .load none (.t 23)⟩,
            ⟨(some 25), none, .len .str (.t 24)⟩,
            ⟨(some 26), none, .faddr 2 (.t 7)⟩,
            ⟨(some 27), none, .load none (.t 26)⟩,
            ⟨(some 28), none, .len .str (.t 27)⟩,
            ⟨(some 29), none, .bin .add .other false (.t 25) (.t 28)⟩,
            ⟨(some 30), none, .bin .gtr .other true (.t 29) (.c (.int .i64 2000))⟩])
       (.cond (.t 30) (.seq (.reg [9] [⟨(some 31), none, .mv (.t 0)⟩,
              ⟨(some 32), none, .call (.c (.fn 48)) [(.t 31), (.c (.int .i64 9)), (.c (.int .i64 2))]⟩,
              ⟨(some 33), none, .extract (.t 32) 0⟩,
              ⟨(some 34), none, .extract (.t 32) 1⟩,
              ⟨none, none, .store 6 (.t 8) (.t 33)⟩,
              ⟨(some 9), none, .mv (.t 34)⟩])
         .ret)
       .skip))
      (.seq (.reg [9] [⟨(some 35), none, .faddr 2 (.t 6)⟩,
           ⟨(some 36), none, .load none (.t 35)⟩,
           ⟨(some 37), none, .faddr 2 (.t 7)⟩,
           ⟨(some 38), none, .load none (.t 37)⟩,
           ⟨(some 39), none, .bin .add .other false (.t 36) (.t 38)⟩,
           ⟨(some 40), none, .build [(.int .i64 0), (.int .i64 0), (.str []), .snil, .pnil, .pnil] [(0, 1, (.c (.int .i64 2))), (2, 1, (.t 39))]⟩,
           ⟨none, none, .store 6 (.t 8) (.t 40)⟩,
           ⟨(some 9), none, .mv (.c (.bool true))⟩])
      .ret))
    (.seq (.reg [41] [⟨(some 42), none, .mv (.t 1)⟩,
         ⟨(some 43), none, .bin .eql .other true (.t 42) (.c (.str [35]))⟩,
         ⟨(some 44), none, .mv (.t 43)⟩,
         ⟨(some 45), (some (44, true)), .mv (.t 10)⟩,
         ⟨(some 46), (some (44, true)), .mksl none [(.c (.int .i64 2)), (.c (.int .i64 1))]⟩,
         ⟨(some 47), (some (44, true)), .call (.c (.fn 83)) [(.t 45), (.t 46)]⟩,
         ⟨(some 48), none, .pick (.t 44) (.t 47) (.c (.bool false))⟩,
         ⟨(some 41), none, .mv (.t 48)⟩])
    (.cond (.t 41) (.seq (.seq (.reg [59] [⟨(some 49), none, .faddr 1 (.t 7)⟩,
            ⟨(some 50), none, .load none (.t 49)⟩,
            ⟨(some 51), none, .bin .lss .other true (.t 50) (.c (.int .i64 0))⟩,
            ⟨(some 52), none, .mv (.t 51)⟩,
            ⟨(some 53), (some (52, false)), .faddr 1 (.t 7)⟩,
            ⟨(some 54), (some (52, false)), .load none (.t 53)⟩,
            ⟨(some 55), (some (52, false)), .faddr 2 (.t 6)⟩,
            ⟨(some 56), (some (52, false)), .load none (.t 55)⟩,
            ⟨(some 57), (some (52, false)), .len .str (.t 56)⟩,
            ⟨(some 58), (some (52, false)), .bin .geq .other false (.t 54) (.t 57)⟩,
            ⟨(some 59), none, .pick (.t 52) (.c (.bool true)) (.t 58)⟩])
       (.cond (.t 59) (.seq (.reg [9] [⟨(some 60), none, .mv (.t 0)⟩,
              ⟨(some 61), none, .call (.c (.fn 48)) [(.t 60), (.c (.int .i64 9)), (.c (.int .i64 2))]⟩,
              ⟨(some 62), none, .extract (.t 61) 0⟩,
              ⟨(some 63), none, .extract (.t 61) 1⟩,
              ⟨none, none, .store 6 (.t 8) (.t 62)⟩,
              ⟨(some 9), none, .mv (.t 63)⟩])
         .ret)
       .skip))
      (.seq (.reg [9] [⟨(some 64), none, .faddr 2 (.t 6)⟩,
           ⟨(some 65), none, .load none (.t 64)⟩,
           ⟨(some 66), none, .faddr 1 (.t 7)⟩,
           ⟨(some 67), none, .load none (.t 66)⟩,
           ⟨(some 68), none, .index (.t 65) (.t 67)⟩,
           ⟨(some 69), none, .conv (.toInt .i64) (.t 68)⟩,
           ⟨(some 70), none, .build [(.int .i64 0), (.int .i64 0), (.str []), .snil, .pnil, .pnil] [(0, 1, (.c (.int .i64 1))), (1, 1, (.t 69))]⟩,
           ⟨none, none, .store 6 (.t 8) (.t 70)⟩,
           ⟨(some 9), none, .mv (.c (.bool true))⟩])
      .ret))
    (.seq (.reg [71] [⟨(some 72), none, .mv (.t 10)⟩,
         ⟨(some 73), none, .mksl none [(.c (.int .i64 1)), (.c (.int .i64 1))]⟩,
         ⟨(some 74), none, .call (.c (.fn 83)) [(.t 72), (.t 73)]⟩,
         ⟨(some 75), none, .un .not (.t 74)⟩,
         ⟨(some 71), none, .mv (.t 75)⟩])
    (.cond (.t 71) (.seq (.reg [9] [⟨(some 76), none, .mv (.t 0)⟩,
           ⟨(some 77), none, .call (.c (.fn 50)) [(.t 76)]⟩,
           ⟨(some 78), none, .extract (.t 77) 0⟩,
           ⟨(some 79), none, .extract (.t 77) 1⟩,
           ⟨none, none, .store 6 (.t 8) (.t 78)⟩,
           ⟨(some 9), none, .mv (.t 79)⟩])
      .ret)
    .skip)))))))
  (.seq (.reg [11] [⟨(some 11), none, .mv (.c (.int .i64 0))⟩])
  (.seq (.seq (.reg [80] [⟨(some 80), none, .mv (.t 1)⟩])
   (.block 1 (.seq (.reg [85] [⟨(some 86), none, .bin .eql .other true (.t 80) (.c (.str [43]))⟩,
         ⟨(some 85), none, .mv (.t 86)⟩])
    (.cond (.t 85) (.reg [11] [⟨(some 87), none, .faddr 1 (.t 6)⟩,
          ⟨(some 88), none, .load none (.t 87)⟩,
          ⟨(some 89), none, .faddr 1 (.t 7)⟩,
          ⟨(some 90), none, .load none (.t 89)⟩,
          ⟨(some 91), none, .bin .add .other false (.t 88) (.t 90)⟩,
          ⟨(some 11), none, .mv (.t 91)⟩])
    (.seq (.reg [92] [⟨(some 93), none, .bin .eql .other true (.t 80) (.c (.str [45]))⟩,
         ⟨(some 92), none, .mv (.t 93)⟩])
    (.cond (.t 92) (.reg [11] [⟨(some 94), none, .faddr 1 (.t 6)⟩,
          ⟨(some 95), none, .load none (.t 94)⟩,
          ⟨(some 96), none, .faddr 1 (.t 7)⟩,
          ⟨(some 97), none, .load none (.t 96)⟩,
          ⟨(some 98), none, .bin .sub .other false (.t 95) (.t 97)⟩,
          ⟨(some 11), none, .mv (.t 98)⟩])
    (.seq (.reg [99] [⟨(some 100), none, .bin .eql .other true (.t 80) (.c (.str [42]))⟩,
         ⟨(some 99), none, .mv (.t 100)⟩])
    (.cond (.t 99) (.reg [11] [⟨(some 101), none, .faddr 1 (.t 6)⟩,
          ⟨(some 102), none, .load none (.t 101)⟩,
          ⟨(some 103), none, .faddr 1 (.t 7)⟩,
          ⟨(some 104), none, .load none (.t 103)⟩,
          ⟨(some 105), none, .bin .mul .other false (.t 102) (.t 104)⟩,
          ⟨(some 11), none, .mv (.t 105)⟩])
    (.seq (.reg [106] [⟨(some 107), none, .bin .eql .other true (.t 80) (.c (.str [47]))⟩,
         ⟨(some 106), none, .mv (.t 107)⟩])
    (.cond (.t 106) (.seq (.seq (.reg [110] [⟨(some 108), none, .faddr 1 (.t 7)⟩,
            ⟨(some 109), none, .load none (.t 108)⟩,
            ⟨(some 110), none, .bin .eql .other true (.t 109) (.c (.int .i64 0))⟩])
       (.cond (.t 110) (.seq (.reg [9] [⟨(some 111), none, .mv (.t 0)⟩,
              ⟨(some 112), none, .call (.c (.fn 48)) [(.t 111), (.c (.int .i64 9)), (.c (.int .i64 1))]⟩,
              ⟨(some 113), none, .extract (.t 112) 0⟩,
              ⟨(some 114), none, .extract (.t 112) 1⟩,
              ⟨none, none, .store 6 (.t 8) (.t 113)⟩,
              ⟨(some 9), none, .mv (.t 114)⟩])
         .ret)
       .skip))
      (.reg [11] [⟨(some 115), none, .faddr 1 (.t 6)⟩,
          ⟨(some 116), none, .load none (.t 115)⟩,
          ⟨(some 117), none, .faddr 1 (.t 7)⟩,
          ⟨(some 118), none, .load none (.t 117)⟩,
          ⟨(some 119), none, .bin .quo .other false (.t 116) (.t 118)⟩,
          ⟨(some 11), none, .mv (.t 119)⟩]))
    (.seq (.reg [120] [⟨(some 121), none, .bin .eql .other true (.t 80) (.c (.str [60]))⟩,
         ⟨(some 120), none, .mv (.t 121)⟩])
    (.cond (.t 120) (.reg [11] [⟨(some 122), none, .faddr 1 (.t 6)⟩,
          ⟨(some 123), none, .load none (.t 122)⟩,
          ⟨(some 124), none, .faddr 1 (.t 7)⟩,
          ⟨(some 125), none, .load none (.t 124)⟩,
          ⟨(some 126), none, .bin .lss .other false (.t 123) (.t 125)⟩,
          ⟨(some 127), none, .call (.c (.fn 103)) [(.t 126)]⟩,
          ⟨(some 11), none, .mv (.t 127)⟩])
    (.seq (.reg [128] [⟨(some 129), none, .bin .eql .other true (.t 80) (.c (.str [61, 61]))⟩,
         ⟨(some 128), none, .mv (.t 129)⟩])
    (.cond (.t 128) (.reg [11] [⟨(some 130), none, .faddr 1 (.t 6)⟩,
          ⟨(some 131), none, .load none (.t 130)⟩,
          ⟨(some 132), none, .faddr 1 (.t 7)⟩,
          ⟨(some 133), none, .load none (.t 132)⟩,
          ⟨(some 134), none, .bin .eql .other false (.t 131) (.t 133)⟩,
          ⟨(some 135), none, .call (.c (.fn 103)) [(.t 134)]⟩,
          ⟨(some 11), none, .mv (.t 135)⟩])
    (.seq (.reg [9] [⟨(some 81), none, .mv (.t 0)⟩,
         ⟨(some 82), none, .call (.c (.fn 50)) [(.t 81)]⟩,
         ⟨(some 83), none, .extract (.t 82) 0⟩,
         ⟨(some 84), none, .extract (.t 82) 1⟩,
         ⟨none, none, .store 6 (.t 8) (.t 83)⟩,
         ⟨(some 9), none, .mv (.t 84)⟩])
    .ret)))))))))))))))
  (.seq (.reg [9] [⟨(some 136), none, .mv (.t 11)⟩,
       ⟨(some 137), none, .build [(.int .i64 0), (.int .i64 0), (.str []), .snil, .pnil, .pnil] [(0, 1, (.c (.int .i64 1))), (1, 1, (.t 136))]⟩,
       ⟨none, none, .store 6 (.t 8) (.t 137)⟩,
       ⟨(some 9), none, .mv (.c (.bool true))⟩])
  .ret))))))⟩
theorem c84 : compF Tryd.prog [0, 1, 2, 3, 6, 7, 8, 9, 10, 11, 15, 30, 41, 59, 71, 80, 85, 92, 99, 106, 110, 120, 128] Tryd.f84 = some a84 := by kernel_rfl

/- bushel/core.are -/
def a83 : AFun := ⟨22, [.tmp 4], (.seq (.reg [4] [⟨(some 4), none, .mv (.c (.bool false))⟩])
  (.seq (.seq (.reg [7, 8, 9] [⟨(some 7), none, .mv (.t 1)⟩,
        ⟨(some 8), none, .len .sl (.t 7)⟩,
        ⟨(some 9), none, .mv (.c (.int .i64 0))⟩])
   (.block 0 (.loop (.seq (.reg [10] [⟨(some 10), none, .bin .lss .other false (.t 9) (.t 8)⟩])
     (.seq (.cond (.t 10) .skip
      (.exit 0))
     (.seq (.block 1 (.seq (.reg [5, 6] [⟨(some 11), none, .mv (.t 9)⟩,
            ⟨(some 12), none, .iaddr none (.t 7) (.t 9)⟩,
            ⟨(some 13), none, .load none (.t 12)⟩,
            ⟨(some 5), none, .mv (.t 11)⟩,
            ⟨(some 6), none, .mv (.t 13)⟩])
       (.seq (.reg [20] [⟨(some 14), none, .mv (.t 0)⟩,
            ⟨(some 15), none, .mv (.t 5)⟩,
            ⟨(some 16), none, .iaddr (some 6) (.t 14) (.t 15)⟩,
            ⟨(some 17), none, .faddr 0 (.t 16)⟩,
            ⟨(some 18), none, .load none (.t 17)⟩,
            ⟨(some 19), none, .mv (.t 6)⟩,
            ⟨(some 20), none, .bin .neq .other false (.t 18) (.t 19)⟩])
       (.cond (.t 20) (.seq (.reg [4] [⟨(some 4), none, .mv (.c (.bool false))⟩])
         .ret)
       .skip))))
     (.reg [9] [⟨(some 21), none, .bin .add .other true (.t 9) (.c (.int .i64 1))⟩,
         ⟨(some 9), none, .mv (.t 21)⟩])))))))
  (.seq (.reg [4] [⟨(some 4), none, .mv (.c (.bool true))⟩])
  .ret)))⟩
theorem c83 : compF Tryd.prog [0, 1, 4, 5, 6, 7, 8, 9, 10, 20] Tryd.f83 = some a83 := by kernel_rfl

/- (*bushel/core.machine).end -/
def a48 : AFun := ⟨25, [.cell 6 (some 6), .tmp 7], (.seq (.reg [6, 7] [⟨(some 6), none, .alloc [(.int .i64 0), (.int .i64 0), (.str []), .snil, .pnil, .pnil]⟩,
       ⟨(some 7), none, .mv (.c (.bool false))⟩])
  (.seq (.seq (.reg [13] [⟨(some 8), none, .mv (.t 0)⟩,
        ⟨(some 9), none, .nilck (.t 8)⟩,
        ⟨(some 10), none, .faddr 2 (.t 9)⟩,
        ⟨(some 11), none, .faddr 0 (.t 10)⟩,
        ⟨(some 12), none, .load none (.t 11)⟩,
        ⟨(some 13), none, .bin .eql .other true (.t 12) (.c (.int .i64 0))⟩])
   (.cond (.t 13) (.reg [] [⟨(some 14), none, .mv (.t 0)⟩,
         ⟨(some 15), none, .mv (.t 0)⟩,
         ⟨(some 16), none, .mv (.t 1)⟩,
         ⟨(some 17), none, .mv (.t 2)⟩,
         ⟨(some 18), none, .nilck (.t 14)⟩,
         ⟨(some 19), none, .faddr 2 (.t 18)⟩,
         ⟨(some 20), none, .faddr 0 (.t 19)⟩,
         ⟨none, none, .store 1 (.t 20) (.t 16)⟩,
         ⟨(some 21), none, .nilck (.t 15)⟩,
         ⟨(some 22), none, .faddr 2 (.t 21)⟩,
         ⟨(some 23), none, .faddr 1 (.t 22)⟩,
         ⟨none, none, .store 1 (.t 23) (.t 17)⟩])
   .skip))
  (.seq (.reg [7] [⟨(some 24), none, .build [(.int .i64 0), (.int .i64 0), (.str []), .snil, .pnil, .pnil] []⟩,
       ⟨none, none, .store 6 (.t 6) (.t 24)⟩,
       ⟨(some 7), none, .mv (.c (.bool false))⟩])
  .ret)))⟩
theorem c48 : compF Tryd.prog [0, 1, 2, 6, 7, 13] Tryd.f48 = some a48 := by kernel_rfl

/- (*bushel/core.machine).stuck -/
def a50 : AFun := ⟨8, [.cell 2 (some 6), .tmp 3], (.seq (.reg [2, 3] [⟨(some 2), none, .alloc [(.int .i64 0), (.int .i64 0), (.str []), .snil, .pnil, .pnil]⟩,
       ⟨(some 3), none, .mv (.c (.bool false))⟩])
  (.seq (.reg [3] [⟨(some 4), none, .mv (.t 0)⟩,
       ⟨(some 5), none, .call (.c (.fn 48)) [(.t 4), (.c (.int .i64 11)), (.c (.int .i64 0))]⟩,
       ⟨(some 6), none, .extract (.t 5) 0⟩,
       ⟨(some 7), none, .extract (.t 5) 1⟩,
       ⟨none, none, .store 6 (.t 2) (.t 6)⟩,
       ⟨(some 3), none, .mv (.t 7)⟩])
  .ret))⟩
theorem c50 : compF Tryd.prog [0, 2, 3] Tryd.f50 = some a50 := by kernel_rfl

/- (*bushel/core.machine).choose -/
def a51 : AFun := ⟨54, [.cell 6 (some 6), .tmp 7], (.seq (.reg [4, 6, 7] [⟨(some 4), none, .box (.t 1)⟩,
       ⟨(some 6), none, .alloc [(.int .i64 0), (.int .i64 0), (.str []), .snil, .pnil, .pnil]⟩,
       ⟨(some 7), none, .mv (.c (.bool false))⟩])
  (.seq (.reg [8, 9] [⟨(some 11), none, .mv (.t 0)⟩,
       ⟨(some 12), none, .faddr 5 (.t 4)⟩,
       ⟨(some 13), none, .load none (.t 12)⟩,
       ⟨(some 14), none, .iaddr (some 6) (.t 13) (.c (.int .i64 0))⟩,
       ⟨(some 15), none, .load (some 6) (.t 14)⟩,
       ⟨(some 16), none, .mv (.t 2)⟩,
       ⟨(some 17), none, .call (.c (.fn 31)) [(.t 11), (.t 15), (.t 16)]⟩,
       ⟨(some 10), none, .mv (.t 17)⟩,
       ⟨(some 18), none, .extract (.t 10) 0⟩,
       ⟨(some 19), none, .extract (.t 10) 1⟩,
       ⟨(some 8), none, .alloc [(.int .i64 0), (.int .i64 0), (.str []), .snil, .pnil, .pnil]⟩,
       ⟨none, none, .store 6 (.t 8) (.t 18)⟩,
       ⟨(some 9), none, .mv (.t 19)⟩])
  (.seq (.block 0 (.seq (.reg [20] [⟨(some 21), none, .mv (.t 9)⟩,
         ⟨(some 22), none, .un .not (.t 21)⟩,
         ⟨(some 20), none, .mv (.t 22)⟩])
    (.cond (.t 20) (.seq (.reg [7] [⟨(some 23), none, .load (some 6) (.t 8)⟩,
           ⟨none, none, .store 6 (.t 6) (.t 23)⟩,
           ⟨(some 7), none, .mv (.c (.bool false))⟩])
      .ret)
    (.seq (.reg [24] [⟨(some 25), none, .faddr 0 (.t 8)⟩,
         ⟨(some 26), none, .load none (.t 25)⟩,
         ⟨(some 27), none, .bin .neq .other true (.t 26) (.c (.int .i64 1))⟩,
         ⟨(some 24), none, .mv (.t 27)⟩])
    (.cond (.t 24) (.seq (.reg [7] [⟨(some 28), none, .mv (.t 0)⟩,
           ⟨(some 29), none, .call (.c (.fn 50)) [(.t 28)]⟩,
           ⟨(some 30), none, .extract (.t 29) 0⟩,
           ⟨(some 31), none, .extract (.t 29) 1⟩,
           ⟨none, none, .store 6 (.t 6) (.t 30)⟩,
           ⟨(some 7), none, .mv (.t 31)⟩])
      .ret)
    (.seq (.reg [32] [⟨(some 33), none, .faddr 1 (.t 8)⟩,
         ⟨(some 34), none, .load none (.t 33)⟩,
         ⟨(some 35), none, .bin .neq .other true (.t 34) (.c (.int .i64 0))⟩,
         ⟨(some 32), none, .mv (.t 35)⟩])
    (.cond (.t 32) (.seq (.reg [7] [⟨(some 36), none, .mv (.t 0)⟩,
           ⟨(some 37), none, .faddr 5 (.t 4)⟩,
           ⟨(some 38), none, .load none (.t 37)⟩,
           ⟨(some 39), none, .iaddr (some 6) (.t 38) (.c (.int .i64 1))⟩,
           ⟨(some 40), none, .load (some 6) (.t 39)⟩,
           ⟨(some 41), none, .mv (.t 2)⟩,
           ⟨(some 42), none, .call (.c (.fn 31)) [(.t 36), (.t 40), (.t 41)]⟩,
           ⟨(some 43), none, .extract (.t 42) 0⟩,
           ⟨(some 44), none, .extract (.t 42) 1⟩,
           ⟨none, none, .store 6 (.t 6) (.t 43)⟩,
           ⟨(some 7), none, .mv (.t 44)⟩])
      .ret)
    .skip)))))))
  (.seq (.reg [7] [⟨(some 45), none, .mv (.t 0)⟩,
       ⟨(some 46), none, .faddr 5 (.t 4)⟩,
       ⟨(some 47), none, .load none (.t 46)⟩,
       ⟨(some 48), none, .iaddr (some 6) (.t 47) (.c (.int .i64 2))⟩,
       ⟨(some 49), none, .load (some 6) (.t 48)⟩,
       ⟨(some 50), none, .mv (.t 2)⟩,
       ⟨(some 51), none, .call (.c (.fn 31)) [(.t 45), (.t 49), (.t 50)]⟩,
       ⟨(some 52), none, .extract (.t 51) 0⟩,
       ⟨(some 53), none, .extract (.t 51) 1⟩,
       ⟨none, none, .store 6 (.t 6) (.t 52)⟩,
       ⟨(some 7), none, .mv (.t 53)⟩])
  .ret))))⟩
theorem c51 : compF Tryd.prog [0, 1, 2, 4, 6, 7, 8, 9, 20, 24, 32] Tryd.f51 = some a51 := by kernel_rfl

/- (*bushel/core.machine).tuple -/
def a82 : AFun := ⟨113, [.cell 6 (some 6), .tmp 7], (.seq (.reg [6, 7] [⟨(some 6), none, .alloc [(.int .i64 0), (.int .i64 0), (.str []), .snil, .pnil, .pnil]⟩,
       ⟨(some 7), none, .mv (.c (.bool false))⟩])
  (.seq (.alt [8, 9] [(⟨(some 11), none, .mv (.t 2)⟩, true),
       (⟨(some 12), none, .iaddr (some 6) (.t 11) (.c (.int .i64 0))⟩, true),
       (⟨(some 13), none, .load (some 6) (.t 12)⟩, true),
       (⟨(some 14), none, .mv (.t 2)⟩, false),
       (⟨(some 15), none, .iaddr (some 6) (.t 14) (.c (.int .i64 1))⟩, false),
       (⟨(some 16), none, .load (some 6) (.t 15)⟩, false)] (⟨(some 8), none, .alloc [(.int .i64 0), (.int .i64 0), (.str []), .snil, .pnil, .pnil]⟩, false) (⟨(some 9), none, .alloc [(.int .i64 0), (.int .i64 0), (.str []), .snil, .pnil, .pnil]⟩, false) [] [(⟨none, none, .store 6 (.t 8) (.t 13)⟩, false),
       (⟨none, none, .store 6 (.t 9) (.t 16)⟩, true)])
  (.seq (.seq (.reg [19] [⟨(some 17), none, .mv (.t 2)⟩,
        ⟨(some 18), none, .len .sl (.t 17)⟩,
        ⟨(some 19), none, .bin .eql .other true (.t 18) (.c (.int .i64 3))⟩])
   (.cond (.t 19) (.reg [] [⟨(some 20), none, .mv (.t 2)⟩,
         ⟨(some 21), none, .iaddr (some 6) (.t 20) (.c (.int .i64 2))⟩,
         ⟨(some 22), none, .load (some 6) (.t 21)⟩,
         ⟨none, none, .store 6 (.t 8) (.t 22)⟩])
   .skip))
  (.seq (.seq (.reg [55] [⟨(some 23), none, .faddr 0 (.t 8)⟩,
        ⟨(some 24), none, .load none (.t 23)⟩,
        ⟨(some 25), none, .bin .neq .other true (.t 24) (.c (.int .i64 4))⟩,
        ⟨(some 26), none, .mv (.t 25)⟩,
        ⟨(some 27), (some (26, false)), .faddr 0 (.t 9)⟩,
        ⟨(some 28), (some (26, false)), .load none (.t 27)⟩,
        ⟨(some 29), (some (26, false)), .bin .neq .other true (.t 28) (.c (.int .i64 1))⟩,
        ⟨(some 30), none, .pick (.t 26) (.c (.bool true)) (.t 29)⟩,
        ⟨(some 31), none, .mv (.t 30)⟩,
        ⟨(some 32), (some (31, false)), .faddr 1 (.t 9)⟩,
        ⟨(some 33), (some (31, false)), .load none (.t 32)⟩,
        ⟨(some 34), (some (31, false)), .bin .lss .other true (.t 33) (.c (.int .i64 0))⟩,
        ⟨(some 35), none, .pick (.t 31) (.c (.bool true)) (.t 34)⟩,
        ⟨(some 36), none, .mv (.t 35)⟩,
        ⟨(some 37), (some (36, false)), .faddr 1 (.t 9)⟩,
        ⟨(some 38), (some (36, false)), .load none (.t 37)⟩,
        ⟨(some 39), (some (36, false)), .faddr 3 (.t 8)⟩,
        ⟨(some 40), (some (36, false)), .load none (.t 39)⟩,
        ⟨(some 41), (some (36, false)), .len .sl (.t 40)⟩,
        ⟨(some 42), (some (36, false)), .bin .gtr .other false (.t 38) (.t 41)⟩,
        ⟨(some 43), none, .pick (.t 36) (.c (.bool true)) (.t 42)⟩,
        ⟨(some 44), none, .mv (.t 43)⟩,
        ⟨(some 45), (some (44, false)), .faddr 1 (.t 9)⟩,
        ⟨(some 46), (some (44, false)), .load none (.t 45)⟩,
        ⟨(some 47), (some (44, false)), .faddr 3 (.t 8)⟩,
        ⟨(some 48), (some (44, false)), .load none (.t 47)⟩,
        ⟨(some 49), (some (44, false)), .len .sl (.t 48)⟩,
        ⟨(some 50), (some (44, false)), .bin .eql .other false (.t 46) (.t 49)⟩,
        ⟨(some 51), (some (44, false)), .mv (.t 50)⟩,
        ⟨(some 52), (some (51, true)), .mv (.t 1)⟩,
        ⟨(some 53), (some (51, true)), .bin .neq .other true (.t 52) (.c (.int .i64 10))⟩,
        ⟨(some 54), (some (44, false)), .pick (.t 51) (.t 53) (.c (.bool false))⟩,
        ⟨(some 55), none, .pick (.t 44) (.c (.bool true)) (.t 54)⟩])
   (.cond (.t 55) (.seq (.reg [7] [⟨(some 56), none, .mv (.t 0)⟩,
          ⟨(some 57), none, .call (.c (.fn 50)) [(.t 56)]⟩,
          ⟨(some 58), none, .extract (.t 57) 0⟩,
          ⟨(some 59), none, .extract (.t 57) 1⟩,
          ⟨none, none, .store 6 (.t 6) (.t 58)⟩,
          ⟨(some 7), none, .mv (.t 59)⟩])
     .ret)
   .skip))
  (.seq (.reg [10] [⟨(some 60), none, .faddr 1 (.t 9)⟩,
       ⟨(some 61), none, .load none (.t 60)⟩,
       ⟨(some 10), none, .mv (.t 61)⟩])
  (.seq (.seq (.reg [62] [⟨(some 62), none, .mv (.t 1)⟩])
   (.block 0 (.seq (.reg [63] [⟨(some 64), none, .bin .eql .other true (.t 62) (.c (.int .i64 9))⟩,
         ⟨(some 63), none, .mv (.t 64)⟩])
    (.cond (.t 63) (.seq (.reg [7] [⟨(some 65), none, .faddr 3 (.t 8)⟩,
           ⟨(some 66), none, .load none (.t 65)⟩,
           ⟨(some 67), none, .mv (.t 10)⟩,
           ⟨(some 68), none, .iaddr (some 6) (.t 66) (.t 67)⟩,
           ⟨(some 69), none, .load (some 6) (.t 68)⟩,
           ⟨none, none, .store 6 (.t 6) (.t 69)⟩,
           ⟨(some 7), none, .mv (.c (.bool true))⟩])
      .ret)
    (.seq (.reg [70] [⟨(some 71), none, .bin .eql .other true (.t 62) (.c (.int .i64 11))⟩,
         ⟨(some 70), none, .mv (.t 71)⟩])
    (.cond (.t 70) (.seq (.any [7] [(⟨(some 72), none, .faddr 3 (.t 8)⟩, true),
           (⟨(some 73), none, .load none (.t 72)⟩, true),
           (⟨(some 74), none, .mv (.t 10)⟩, false),
           (⟨(some 75), none, .slice (.sl (some 6)) (.t 73) none (some (.t 74)) none⟩, true),
           (⟨(some 76), none, .faddr 3 (.t 8)⟩, false),
           (⟨(some 77), none, .load none (.t 76)⟩, false),
           (⟨(some 78), none, .mv (.t 10)⟩, false),
           (⟨(some 79), none, .bin .add .other true (.t 78) (.c (.int .i64 1))⟩, false),
           (⟨(some 80), none, .slice (.sl (some 6)) (.t 77) (some (.t 79)) none none⟩, false),
           (⟨(some 81), none, .mksl none [(.t 75), (.t 80)]⟩, true),
           (⟨(some 82), none, .call (.c (.fn 102)) [(.t 81)]⟩, true),
           (⟨(some 83), none, .build [(.int .i64 0), (.int .i64 0), (.str []), .snil, .pnil, .pnil] [(0, 1, (.c (.int .i64 4))), (3, 1, (.t 82))]⟩, true),
           (⟨none, none, .store 6 (.t 6) (.t 83)⟩, true),
           (⟨(some 7), none, .mv (.c (.bool true))⟩, true)])
      .ret)
    (.seq (.reg [84] [⟨(some 85), none, .bin .eql .other true (.t 62) (.c (.int .i64 10))⟩,
         ⟨(some 84), none, .mv (.t 85)⟩])
    (.cond (.t 84) (.seq (.any [7] [(⟨(some 86), none, .faddr 3 (.t 8)⟩, true),
           (⟨(some 87), none, .load none (.t 86)⟩, true),
           (⟨(some 88), none, .mv (.t 10)⟩, false),
           (⟨(some 89), none, .slice (.sl (some 6)) (.t 87) none (some (.t 88)) none⟩, true),
           (⟨(some 90), none, .mv (.t 2)⟩, false),
           (⟨(some 91), none, .slice (.sl (some 6)) (.t 90) none (some (.c (.int .i64 1))) none⟩, false),
           (⟨(some 92), none, .faddr 3 (.t 8)⟩, false),
           (⟨(some 93), none, .load none (.t 92)⟩, false),
           (⟨(some 94), none, .mv (.t 10)⟩, false),
           (⟨(some 95), none, .slice (.sl (some 6)) (.t 93) (some (.t 94)) none none⟩, false),
           (⟨(some 96), none, .mksl none [(.t 89), (.t 91), (.t 95)]⟩, true),
           (⟨(some 97), none, .call (.c (.fn 102)) [(.t 96)]⟩, true),
           (⟨(some 98), none, .build [(.int .i64 0), (.int .i64 0), (.str []), .snil, .pnil, .pnil] [(0, 1, (.c (.int .i64 4))), (3, 1, (.t 97))]⟩, true),
           (⟨none, none, .store 6 (.t 6) (.t 98)⟩, true),
           (⟨(some 7), none, .mv (.c (.bool true))⟩, true)])
      .ret)
    .skip))))))))
  (.seq (.any [7] [(⟨(some 99), none, .faddr 3 (.t 8)⟩, true),
       (⟨(some 100), none, .load none (.t 99)⟩, true),
       (⟨(some 101), none, .mv (.t 10)⟩, false),
       (⟨(some 102), none, .slice (.sl (some 6)) (.t 100) none (some (.t 101)) none⟩, true),
       (⟨(some 103), none, .mv (.t 2)⟩, false),
       (⟨(some 104), none, .slice (.sl (some 6)) (.t 103) none (some (.c (.int .i64 1))) none⟩, false),
       (⟨(some 105), none, .faddr 3 (.t 8)⟩, false),
       (⟨(some 106), none, .load none (.t 105)⟩, false),
       (⟨(some 107), none, .mv (.t 10)⟩, false),
       (⟨(some 108), none, .bin .add .other true (.t 107) (.c (.int .i64 1))⟩, false),
       (⟨(some 109), none, .slice (.sl (some 6)) (.t 106) (some (.t 108)) none none⟩, false),
       (⟨(some 110), none, .mksl none [(.t 102), (.t 104), (.t 109)]⟩, true),
       (⟨(some 111), none, .call (.c (.fn 102)) [(.t 110)]⟩, true),
       (⟨(some 112), none, .build [(.int .i64 0), (.int .i64 0), (.str []), .snil, .pnil, .pnil] [(0, 1, (.c (.int .i64 4))), (3, 1, (.t 111))]⟩, true),
       (⟨none, none, .store 6 (.t 6) (.t 112)⟩, true),
       (⟨(some 7), none, .mv (.c (.bool true))⟩, true)])
  .ret)))))))⟩
theorem c82 : compF Tryd.prog [0, 1, 2, 6, 7, 8, 9, 10, 19, 55, 62, 63, 70, 84] Tryd.f82 = some a82 := by kernel_rfl

/- bushel/bushelref05.Texts -/
def a18 : AFun := ⟨8, [.tmp 4], (.seq (.reg [4] [⟨(some 4), none, .mv (.c (.bool false))⟩])
  (.seq (.reg [4] [⟨(some 5), none, .mv (.t 0)⟩,
       ⟨(some 6), none, .mv (.t 1)⟩,
       ⟨(some 7), none, .call (.c (.fn 36)) [(.t 5), (.t 6)]⟩,
       ⟨(some 4), none, .mv (.t 7)⟩])
  .ret))⟩
theorem c18 : compF Tryd.prog [0, 1, 4] Tryd.f18 = some a18 := by kernel_rfl

/- bushel/bushelref05.texts -/
def a36 : AFun := ⟨26, [.tmp 4], (.seq (.reg [4] [⟨(some 4), none, .mv (.c (.bool false))⟩])
  (.seq (.seq (.reg [10] [⟨(some 6), none, .mv (.t 0)⟩,
        ⟨(some 7), none, .len .sl (.t 6)⟩,
        ⟨(some 8), none, .mv (.t 1)⟩,
        ⟨(some 9), none, .len .sl (.t 8)⟩,
        ⟨(some 10), none, .bin .neq .other false (.t 7) (.t 9)⟩])
   (.cond (.t 10) (.seq (.reg [4] [⟨(some 4), none, .mv (.c (.bool false))⟩])
     .ret)
   .skip))
  (.seq (.seq (.reg [5] [⟨(some 5), none, .mv (.c (.int .i64 0))⟩])
   (.block 0 (.loop (.seq (.seq (.reg [14] [⟨(some 11), none, .mv (.t 5)⟩,
           ⟨(some 12), none, .mv (.t 0)⟩,
           ⟨(some 13), none, .len .sl (.t 12)⟩,
           ⟨(some 14), none, .bin .lss .other false (.t 11) (.t 13)⟩])
      (.cond (.t 14) .skip
      (.exit 0)))
     (.seq (.block 1 (.seq (.any [25] [(⟨(some 17), none, .mv (.t 0)⟩, true),
            (⟨(some 18), none, .mv (.t 5)⟩, false),
            (⟨(some 19), none, .iaddr none (.t 17) (.t 18)⟩, true),
            (⟨(some 20), none, .load none (.t 19)⟩, true),
            (⟨(some 21), none, .mv (.t 1)⟩, false),
            (⟨(some 22), none, .mv (.t 5)⟩, false),
            (⟨(some 23), none, .iaddr none (.t 21) (.t 22)⟩, false),
            (⟨(some 24), none, .load none (.t 23)⟩, false),
            (⟨(some 25), none, .bin .neq .other false (.t 20) (.t 24)⟩, true)])
       (.cond (.t 25) (.seq (.reg [4] [⟨(some 4), none, .mv (.c (.bool false))⟩])
         .ret)
       .skip)))
     (.reg [5] [⟨(some 15), none, .mv (.t 5)⟩,
         ⟨(some 16), none, .bin .add .other true (.t 15) (.c (.int .i64 1))⟩,
         ⟨(some 5), none, .mv (.t 16)⟩]))))))
  (.seq (.reg [4] [⟨(some 4), none, .mv (.c (.bool true))⟩])
  .ret))))⟩
theorem c36 : compF Tryd.prog [0, 1, 4, 5, 10, 14, 25] Tryd.f36 = some a36 := by kernel_rfl

/- bushel/bushelref14.texts -/
def a32 : AFun := ⟨26, [.tmp 4], (.seq (.reg [4] [⟨(some 4), none, .mv (.c (.bool false))⟩])
  (.seq (.seq (.reg [10] [⟨(some 6), none, .mv (.t 0)⟩,
        ⟨(some 7), none, .len .sl (.t 6)⟩,
        ⟨(some 8), none, .mv (.t 1)⟩,
        ⟨(some 9), none, .len .sl (.t 8)⟩,
        ⟨(some 10), none, .bin .neq .other false (.t 7) (.t 9)⟩])
   (.cond (.t 10) (.seq (.reg [4] [⟨(some 4), none, .mv (.c (.bool false))⟩])
     .ret)
   .skip))
  (.seq (.seq (.reg [5] [⟨(some 5), none, .mv (.c (.int .i64 0))⟩])
   (.block 0 (.loop (.seq (.seq (.reg [14] [⟨(some 11), none, .mv (.t 5)⟩,
           ⟨(some 12), none, .mv (.t 0)⟩,
           ⟨(some 13), none, .len .sl (.t 12)⟩,
           ⟨(some 14), none, .bin .lss .other false (.t 11) (.t 13)⟩])
      (.cond (.t 14) .skip
      (.exit 0)))
     (.seq (.block 1 (.seq (.any [25] [(⟨(some 17), none, .mv (.t 0)⟩, true),
            (⟨(some 18), none, .mv (.t 5)⟩, false),
            (⟨(some 19), none, .iaddr none (.t 17) (.t 18)⟩, true),
            (⟨(some 20), none, .load none (.t 19)⟩, true),
            (⟨(some 21), none, .mv (.t 1)⟩, false),
            (⟨(some 22), none, .mv (.t 5)⟩, false),
            (⟨(some 23), none, .iaddr none (.t 21) (.t 22)⟩, false),
            (⟨(some 24), none, .load none (.t 23)⟩, false),
            (⟨(some 25), none, .bin .neq .other false (.t 20) (.t 24)⟩, true)])
       (.cond (.t 25) (.seq (.reg [4] [⟨(some 4), none, .mv (.c (.bool false))⟩])
         .ret)
       .skip)))
     (.reg [5] [⟨(some 15), none, .mv (.t 5)⟩,
         ⟨(some 16), none, .bin .add .other true (.t 15) (.c (.int .i64 1))⟩,
         ⟨(some 5), none, .mv (.t 16)⟩]))))))
  (.seq (.reg [4] [⟨(some 4), none, .mv (.c (.bool true))⟩])
  .ret))))⟩
theorem c32 : compF Tryd.prog [0, 1, 4, 5, 10, 14, 25] Tryd.f32 = some a32 := by kernel_rfl

/- bushel/core.Free -/
def a19 : AFun := ⟨7, [.tmp 2], (.seq (.reg [1, 2] [⟨(some 1), none, .box (.t 0)⟩,
       ⟨(some 2), none, .mv (.c .snil)⟩])
  (.seq (.reg [2] [⟨(some 3), none, .load (some 6) (.t 1)⟩,
       ⟨(some 4), none, .call (.c (.fn 39)) [(.t 3)]⟩,
       ⟨(some 5), none, .call (.c (.fn 38)) [(.t 4)]⟩,
       ⟨(some 6), none, .call (.c (.fn 37)) [(.t 5)]⟩,
       ⟨(some 2), none, .mv (.t 6)⟩])
  .ret))⟩
theorem c19 : compF Tryd.prog [0, 1, 2] Tryd.f19 = some a19 := by kernel_rfl

/- bushel/core.free -/
def a39 : AFun := ⟨42, [.tmp 2], (.seq (.reg [1, 2] [⟨(some 1), none, .box (.t 0)⟩,
       ⟨(some 2), none, .mv (.c .mnil)⟩])
  (.seq (.reg [3] [⟨(some 9), none, .ext .mkmap []⟩,
       ⟨(some 3), none, .mv (.t 9)⟩])
  (.seq (.seq (.reg [12] [⟨(some 10), none, .faddr 0 (.t 1)⟩,
        ⟨(some 11), none, .load none (.t 10)⟩,
        ⟨(some 12), none, .bin .eql .other true (.t 11) (.c (.int .i64 3))⟩])
   (.cond (.t 12) (.reg [] [⟨(some 13), none, .mv (.t 3)⟩,
         ⟨(some 14), none, .faddr 2 (.t 1)⟩,
         ⟨(some 15), none, .load none (.t 14)⟩,
         ⟨none, none, .ext (.mput .str) [(.t 13), (.t 15), (.c (.bool true))]⟩])
   .skip))
  (.seq (.seq (.reg [17, 18, 19] [⟨(some 16), none, .faddr 5 (.t 1)⟩,
        ⟨(some 17), none, .load none (.t 16)⟩,
        ⟨(some 18), none, .len .sl (.t 17)⟩,
        ⟨(some 19), none, .mv (.c (.int .i64 0))⟩])
   (.block 0 (.loop (.seq (.reg [20] [⟨(some 20), none, .bin .lss .other false (.t 19) (.t 18)⟩])
     (.seq (.cond (.t 20) .skip
      (.exit 0))
     (.seq (.block 1 (.seq (.reg [5, 4] [⟨(some 21), none, .mv (.t 19)⟩,
            ⟨(some 22), none, .iaddr (some 6) (.t 17) (.t 19)⟩,
            ⟨(some 23), none, .load (some 6) (.t 22)⟩,
            ⟨(some 5), none, .alloc [(.int .i64 0), (.int .i64 0), (.str []), (.str []), .snil, .snil]⟩,
            ⟨(some 4), none, .mv (.t 21)⟩,
            ⟨none, none, .store 6 (.t 5) (.t 23)⟩])
       (.seq (.reg [6] [⟨(some 24), none, .load (some 6) (.t 5)⟩,
            ⟨(some 25), none, .call (.c (.fn 39)) [(.t 24)]⟩,
            ⟨(some 6), none, .mv (.t 25)⟩])
       (.seq (.seq (.reg [28, 29, 30] [⟨(some 26), none, .load (some 6) (.t 1)⟩,
             ⟨(some 27), none, .mv (.t 4)⟩,
             ⟨(some 28), none, .call (.c (.fn 70)) [(.t 26), (.t 27)]⟩,
             ⟨(some 29), none, .len .sl (.t 28)⟩,
             ⟨(some 30), none, .mv (.c (.int .i64 0))⟩])
        (.block 2 (.loop (.seq (.reg [31] [⟨(some 31), none, .bin .lss .other false (.t 30) (.t 29)⟩])
          (.seq (.cond (.t 31) .skip
           (.exit 2))
          (.seq (.block 3 (.seq (.reg [8] [⟨(some 32), none, .iaddr none (.t 28) (.t 30)⟩,
                 ⟨(some 33), none, .load none (.t 32)⟩,
                 ⟨(some 8), none, .mv (.t 33)⟩])
            (.reg [] [⟨(some 34), none, .mv (.t 6)⟩,
                ⟨(some 35), none, .mv (.t 8)⟩,
                ⟨none, none, .ext (.mdel .str) [(.t 34), (.t 35)]⟩])))
          (.reg [30] [⟨(some 36), none, .bin .add .other true (.t 30) (.c (.int .i64 1))⟩,
              ⟨(some 30), none, .mv (.t 36)⟩])))))))
       (.reg [] [⟨(some 37), none, .mv (.t 3)⟩,
           ⟨(some 38), none, .mv (.t 6)⟩,
           ⟨(some 39), none, .call (.c (.fn 71)) [(.t 37), (.t 38)]⟩])))))
     (.reg [19] [⟨(some 40), none, .bin .add .other true (.t 19) (.c (.int .i64 1))⟩,
         ⟨(some 19), none, .mv (.t 40)⟩])))))))
  (.seq (.reg [2] [⟨(some 41), none, .mv (.t 3)⟩,
       ⟨(some 2), none, .mv (.t 41)⟩])
  .ret)))))⟩
theorem c39 : compF Tryd.prog [0, 1, 2, 3, 4, 5, 6, 8, 12, 17, 18, 19, 20, 28, 29, 30, 31] Tryd.f39 = some a39 := by kernel_rfl

/- bushel/core.binds -/
def a70 : AFun := ⟨79, [.tmp 4], (.seq (.reg [2, 4] [⟨(some 2), none, .box (.t 0)⟩,
       ⟨(some 4), none, .mv (.c .snil)⟩])
  (.seq (.block 0 (.seq (.reg [5] [⟨(some 6), none, .faddr 0 (.t 2)⟩,
         ⟨(some 7), none, .load none (.t 6)⟩,
         ⟨(some 8), none, .bin .eql .other true (.t 7) (.c (.int .i64 4))⟩,
         ⟨(some 9), none, .mv (.t 8)⟩,
         ⟨(some 10), (some (9, true)), .mv (.t 1)⟩,
         ⟨(some 11), (some (9, true)), .bin .eql .other true (.t 10) (.c (.int .i64 0))⟩,
         ⟨(some 12), none, .pick (.t 9) (.t 11) (.c (.bool false))⟩,
         ⟨(some 13), none, .mv (.t 12)⟩,
         ⟨(some 14), (some (13, false)), .faddr 0 (.t 2)⟩,
         ⟨(some 15), (some (13, false)), .load none (.t 14)⟩,
         ⟨(some 16), (some (13, false)), .bin .eql .other true (.t 15) (.c (.int .i64 6))⟩,
         ⟨(some 17), (some (13, false)), .mv (.t 16)⟩,
         ⟨(some 18), (some (17, true)), .mv (.t 1)⟩,
         ⟨(some 19), (some (17, true)), .bin .eql .other true (.t 18) (.c (.int .i64 1))⟩,
         ⟨(some 20), (some (13, false)), .pick (.t 17) (.t 19) (.c (.bool false))⟩,
         ⟨(some 21), none, .pick (.t 13) (.c (.bool true)) (.t 20)⟩,
         ⟨(some 22), none, .mv (.t 21)⟩,
         ⟨(some 23), (some (22, false)), .faddr 0 (.t 2)⟩,
         ⟨(some 24), (some (22, false)), .load none (.t 23)⟩,
         ⟨(some 25), (some (22, false)), .bin .eql .other true (.t 24) (.c (.int .i64 7))⟩,
         ⟨(some 26), (some (22, false)), .mv (.t 25)⟩,
         ⟨(some 27), (some (26, true)), .mv (.t 1)⟩,
         ⟨(some 28), (some (26, true)), .bin .eql .other true (.t 27) (.c (.int .i64 1))⟩,
         ⟨(some 29), (some (22, false)), .pick (.t 26) (.t 28) (.c (.bool false))⟩,
         ⟨(some 30), none, .pick (.t 22) (.c (.bool true)) (.t 29)⟩,
         ⟨(some 5), none, .mv (.t 30)⟩])
    (.cond (.t 5) (.seq (.reg [4] [⟨(some 31), none, .faddr 2 (.t 2)⟩,
           ⟨(some 32), none, .load none (.t 31)⟩,
           ⟨(some 33), none, .mksl none [(.t 32)]⟩,
           ⟨(some 4), none, .mv (.t 33)⟩])
      .ret)
    (.seq (.reg [34] [⟨(some 35), none, .faddr 0 (.t 2)⟩,
         ⟨(some 36), none, .load none (.t 35)⟩,
         ⟨(some 37), none, .bin .eql .other true (.t 36) (.c (.int .i64 7))⟩,
         ⟨(some 38), none, .mv (.t 37)⟩,
         ⟨(some 39), (some (38, true)), .mv (.t 1)⟩,
         ⟨(some 40), (some (38, true)), .bin .eql .other true (.t 39) (.c (.int .i64 0))⟩,
         ⟨(some 41), none, .pick (.t 38) (.t 40) (.c (.bool false))⟩,
         ⟨(some 34), none, .mv (.t 41)⟩])
    (.cond (.t 34) (.seq (.reg [4] [⟨(some 42), none, .faddr 2 (.t 2)⟩,
           ⟨(some 43), none, .load none (.t 42)⟩,
           ⟨(some 44), none, .faddr 3 (.t 2)⟩,
           ⟨(some 45), none, .load none (.t 44)⟩,
           ⟨(some 46), none, .mksl none [(.t 43), (.t 45)]⟩,
           ⟨(some 4), none, .mv (.t 46)⟩])
      .ret)
    (.seq (.reg [47] [⟨(some 48), none, .faddr 0 (.t 2)⟩,
         ⟨(some 49), none, .load none (.t 48)⟩,
         ⟨(some 50), none, .bin .neq .other true (.t 49) (.c (.int .i64 14))⟩,
         ⟨(some 51), none, .mv (.t 50)⟩,
         ⟨(some 52), (some (51, false)), .mv (.t 1)⟩,
         ⟨(some 53), (some (51, false)), .bin .eql .other true (.t 52) (.c (.int .i64 0))⟩,
         ⟨(some 54), none, .pick (.t 51) (.c (.bool true)) (.t 53)⟩,
         ⟨(some 47), none, .mv (.t 54)⟩])
    (.cond (.t 47) (.seq (.reg [4] [⟨(some 4), none, .mv (.c .snil)⟩])
      .ret)
    (.seq (.reg [55] [⟨(some 56), none, .mv (.t 1)⟩,
         ⟨(some 57), none, .bin .sub .other true (.t 56) (.c (.int .i64 1))⟩,
         ⟨(some 58), none, .bin .quo .other true (.t 57) (.c (.int .i64 2))⟩,
         ⟨(some 59), none, .faddr 4 (.t 2)⟩,
         ⟨(some 60), none, .load none (.t 59)⟩,
         ⟨(some 61), none, .len .sl (.t 60)⟩,
         ⟨(some 62), none, .bin .lss .other false (.t 58) (.t 61)⟩,
         ⟨(some 55), none, .mv (.t 62)⟩])
    (.cond (.t 55) (.seq (.seq (.reg [65] [⟨(some 63), none, .mv (.t 1)⟩,
            ⟨(some 64), none, .bin .rem .other true (.t 63) (.c (.int .i64 2))⟩,
            ⟨(some 65), none, .bin .eql .other true (.t 64) (.c (.int .i64 0))⟩])
       (.cond (.t 65) (.seq (.reg [4] [⟨(some 66), none, .faddr 4 (.t 2)⟩,
              ⟨(some 67), none, .load none (.t 66)⟩,
              ⟨(some 68), none, .mv (.t 1)⟩,
              ⟨(some 69), none, .bin .sub .other true (.t 68) (.c (.int .i64 1))⟩,
              ⟨(some 70), none, .bin .quo .other true (.t 69) (.c (.int .i64 2))⟩,
              ⟨(some 71), none, .mv (.t 1)⟩,
              ⟨(some 72), none, .bin .sub .other true (.t 71) (.c (.int .i64 1))⟩,
              ⟨(some 73), none, .bin .quo .other true (.t 72) (.c (.int .i64 2))⟩,
              ⟨(some 74), none, .bin .add .other true (.t 73) (.c (.int .i64 1))⟩,
              ⟨(some 75), none, .slice (.sl none) (.t 67) (some (.t 70)) (some (.t 74)) none⟩,
              ⟨(some 4), none, .mv (.t 75)⟩])
         .ret)
       .skip))
      (.seq (.reg [4] [⟨(some 4), none, .mv (.c .snil)⟩])
      .ret))
    .skip)))))))))
  (.seq (.reg [4] [⟨(some 76), none, .faddr 3 (.t 2)⟩,
       ⟨(some 77), none, .load none (.t 76)⟩,
       ⟨(some 78), none, .mksl none [(.t 77)]⟩,
       ⟨(some 4), none, .mv (.t 78)⟩])
  .ret)))⟩
theorem c70 : compF Tryd.prog [0, 1, 2, 4, 5, 34, 47, 55, 65] Tryd.f70 = some a70 := by kernel_rfl

/- maps.Keys[map[string]bool,string,bool] -/
def a38 : AFun := ⟨4, [.tmp 2], (.seq (.reg [1, 2] [⟨(some 1), none, .box (.t 0)⟩,
       ⟨(some 2), none, .mv (.c .fnil)⟩])
  (.seq (.reg [2] [⟨(some 3), none, .mkfn 69 [(.t 1)]⟩,
       ⟨(some 2), none, .mv (.t 3)⟩])
  .ret))⟩
theorem c38 : compF Tryd.prog [0, 1, 2] Tryd.f38 = some a38 := by kernel_rfl

/- bushel/bushelref14.Free -/
def a20 : AFun := ⟨6, [.tmp 2], (.seq (.reg [1, 2] [⟨(some 1), none, .box (.t 0)⟩,
       ⟨(some 2), none, .mv (.c .snil)⟩])
  (.seq (.reg [2] [⟨(some 3), none, .load (some 6) (.t 1)⟩,
       ⟨(some 4), none, .call (.c (.fn 41)) [(.t 3)]⟩,
       ⟨(some 5), none, .call (.c (.fn 40)) [(.t 4)]⟩,
       ⟨(some 2), none, .mv (.t 5)⟩])
  .ret))⟩
theorem c20 : compF Tryd.prog [0, 1, 2] Tryd.f20 = some a20 := by kernel_rfl

/- bushel/bushelref14.free -/
def a41 : AFun := ⟨52, [.tmp 2], (.seq (.reg [1, 2] [⟨(some 1), none, .box (.t 0)⟩,
       ⟨(some 2), none, .mv (.c .snil)⟩])
  (.seq (.reg [3] [⟨(some 3), none, .mv (.c .snil)⟩])
  (.seq (.seq (.reg [10] [⟨(some 8), none, .faddr 0 (.t 1)⟩,
        ⟨(some 9), none, .load none (.t 8)⟩,
        ⟨(some 10), none, .bin .eql .other true (.t 9) (.c (.int .i64 3))⟩])
   (.cond (.t 10) (.reg [3] [⟨(some 11), none, .mv (.t 3)⟩,
         ⟨(some 12), none, .faddr 2 (.t 1)⟩,
         ⟨(some 13), none, .load none (.t 12)⟩,
         ⟨(some 14), none, .mksl none [(.t 13)]⟩,
         ⟨(some 15), none, .append none 16 (.t 11) (.t 14)⟩,
         ⟨(some 3), none, .mv (.t 15)⟩])
   .skip))
  (.seq (.seq (.reg [4] [⟨(some 4), none, .mv (.c (.int .i64 0))⟩])
   (.block 0 (.loop (.seq (.seq (.reg [20] [⟨(some 16), none, .mv (.t 4)⟩,
           ⟨(some 17), none, .faddr 5 (.t 1)⟩,
           ⟨(some 18), none, .load none (.t 17)⟩,
           ⟨(some 19), none, .len .sl (.t 18)⟩,
           ⟨(some 20), none, .bin .lss .other false (.t 16) (.t 19)⟩])
      (.cond (.t 20) .skip
      (.exit 0)))
     (.seq (.block 1 (.seq (.reg [5] [⟨(some 23), none, .faddr 5 (.t 1)⟩,
            ⟨(some 24), none, .load none (.t 23)⟩,
            ⟨(some 25), none, .mv (.t 4)⟩,
            ⟨(some 26), none, .iaddr (some 6) (.t 24) (.t 25)⟩,
            ⟨(some 27), none, .load (some 6) (.t 26)⟩,
            ⟨(some 28), none, .call (.c (.fn 41)) [(.t 27)]⟩,
            ⟨(some 5), none, .mv (.t 28)⟩])
       (.seq (.reg [6] [⟨(some 6), none, .mv (.c (.int .i64 0))⟩])
       (.block 2 (.loop (.seq (.seq (.reg [32] [⟨(some 29), none, .mv (.t 6)⟩,
               ⟨(some 30), none, .mv (.t 5)⟩,
               ⟨(some 31), none, .len .sl (.t 30)⟩,
               ⟨(some 32), none, .bin .lss .other false (.t 29) (.t 31)⟩])
          (.cond (.t 32) .skip
          (.exit 2)))
         (.seq (.block 3 (.seq (.any [7] [(⟨(some 35), none, .load (some 6) (.t 1)⟩, true),
                (⟨(some 36), none, .mv (.t 4)⟩, false),
                (⟨(some 37), none, .mv (.t 5)⟩, false),
                (⟨(some 38), none, .mv (.t 6)⟩, false),
                (⟨(some 39), none, .iaddr none (.t 37) (.t 38)⟩, false),
                (⟨(some 40), none, .load none (.t 39)⟩, false),
                (⟨(some 41), none, .call (.c (.fn 73)) [(.t 35), (.t 36), (.t 40)]⟩, true),
                (⟨(some 7), none, .mv (.t 41)⟩, true)])
           (.seq (.reg [43] [⟨(some 42), none, .mv (.t 7)⟩,
                ⟨(some 43), none, .un .not (.t 42)⟩])
           (.cond (.t 43) (.reg [3] [⟨(some 44), none, .mv (.t 3)⟩,
                 ⟨(some 45), none, .mv (.t 5)⟩,
                 ⟨(some 46), none, .mv (.t 6)⟩,
                 ⟨(some 47), none, .iaddr none (.t 45) (.t 46)⟩,
                 ⟨(some 48), none, .load none (.t 47)⟩,
                 ⟨(some 49), none, .mksl none [(.t 48)]⟩,
                 ⟨(some 50), none, .append none 16 (.t 44) (.t 49)⟩,
                 ⟨(some 3), none, .mv (.t 50)⟩])
           .skip))))
         (.reg [6] [⟨(some 33), none, .mv (.t 6)⟩,
             ⟨(some 34), none, .bin .add .other true (.t 33) (.c (.int .i64 1))⟩,
             ⟨(some 6), none, .mv (.t 34)⟩]))))))))
     (.reg [4] [⟨(some 21), none, .mv (.t 4)⟩,
         ⟨(some 22), none, .bin .add .other true (.t 21) (.c (.int .i64 1))⟩,
         ⟨(some 4), none, .mv (.t 22)⟩]))))))
  (.seq (.reg [2] [⟨(some 51), none, .mv (.t 3)⟩,
       ⟨(some 2), none, .mv (.t 51)⟩])
  .ret)))))⟩
theorem c41 : compF Tryd.prog [0, 1, 2, 3, 4, 5, 6, 7, 10, 20, 32, 43] Tryd.f41 = some a41 := by kernel_rfl

/- bushel/bushelref14.Binds -/
def a73 : AFun := ⟨78, [.tmp 6], (.seq (.reg [3, 6] [⟨(some 3), none, .box (.t 0)⟩,
       ⟨(some 6), none, .mv (.c (.bool false))⟩])
  (.seq (.seq (.reg [9] [⟨(some 8), none, .faddr 0 (.t 3)⟩,
        ⟨(some 9), none, .load none (.t 8)⟩])
   (.block 0 (.seq (.reg [10] [⟨(some 11), none, .bin .eql .other true (.t 9) (.c (.int .i64 4))⟩,
         ⟨(some 10), none, .mv (.t 11)⟩])
    (.cond (.t 10) (.seq (.reg [6] [⟨(some 12), none, .mv (.t 1)⟩,
           ⟨(some 13), none, .bin .eql .other true (.t 12) (.c (.int .i64 0))⟩,
           ⟨(some 14), none, .mv (.t 13)⟩,
           ⟨(some 15), (some (14, true)), .mv (.t 2)⟩,
           ⟨(some 16), (some (14, true)), .faddr 2 (.t 3)⟩,
           ⟨(some 17), (some (14, true)), .load none (.t 16)⟩,
           ⟨(some 18), (some (14, true)), .bin .eql .other false (.t 15) (.t 17)⟩,
           ⟨(some 19), none, .pick (.t 14) (.t 18) (.c (.bool false))⟩,
           ⟨(some 6), none, .mv (.t 19)⟩])
      .ret)
    (.seq (.reg [20] [⟨(some 21), none, .bin .eql .other true (.t 9) (.c (.int .i64 6))⟩,
         ⟨(some 20), none, .mv (.t 21)⟩])
    (.cond (.t 20) (.seq (.reg [6] [⟨(some 22), none, .mv (.t 1)⟩,
           ⟨(some 23), none, .bin .eql .other true (.t 22) (.c (.int .i64 1))⟩,
           ⟨(some 24), none, .mv (.t 23)⟩,
           ⟨(some 25), (some (24, true)), .mv (.t 2)⟩,
           ⟨(some 26), (some (24, true)), .faddr 2 (.t 3)⟩,
           ⟨(some 27), (some (24, true)), .load none (.t 26)⟩,
           ⟨(some 28), (some (24, true)), .bin .eql .other false (.t 25) (.t 27)⟩,
           ⟨(some 29), none, .pick (.t 24) (.t 28) (.c (.bool false))⟩,
           ⟨(some 6), none, .mv (.t 29)⟩])
      .ret)
    (.seq (.reg [30] [⟨(some 31), none, .bin .eql .other true (.t 9) (.c (.int .i64 7))⟩,
         ⟨(some 30), none, .mv (.t 31)⟩])
    (.cond (.t 30) (.seq (.reg [6] [⟨(some 32), none, .mv (.t 1)⟩,
           ⟨(some 33), none, .bin .lss .other true (.t 32) (.c (.int .i64 2))⟩,
           ⟨(some 34), none, .mv (.t 33)⟩,
           ⟨(some 35), (some (34, true)), .mv (.t 2)⟩,
           ⟨(some 36), (some (34, true)), .faddr 2 (.t 3)⟩,
           ⟨(some 37), (some (34, true)), .load none (.t 36)⟩,
           ⟨(some 38), (some (34, true)), .bin .eql .other false (.t 35) (.t 37)⟩,
           ⟨(some 39), none, .pick (.t 34) (.t 38) (.c (.bool false))⟩,
           ⟨(some 40), none, .mv (.t 39)⟩,
           ⟨(some 41), (some (40, false)), .mv (.t 1)⟩,
           ⟨(some 42), (some (40, false)), .bin .eql .other true (.t 41) (.c (.int .i64 0))⟩,
           ⟨(some 43), (some (40, false)), .mv (.t 42)⟩,
           ⟨(some 44), (some (43, true)), .mv (.t 2)⟩,
           ⟨(some 45), (some (43, true)), .faddr 3 (.t 3)⟩,
           ⟨(some 46), (some (43, true)), .load none (.t 45)⟩,
           ⟨(some 47), (some (43, true)), .bin .eql .other false (.t 44) (.t 46)⟩,
           ⟨(some 48), (some (40, false)), .pick (.t 43) (.t 47) (.c (.bool false))⟩,
           ⟨(some 49), none, .pick (.t 40) (.c (.bool true)) (.t 48)⟩,
           ⟨(some 6), none, .mv (.t 49)⟩])
      .ret)
    (.seq (.reg [50] [⟨(some 51), none, .bin .eql .other true (.t 9) (.c (.int .i64 14))⟩,
         ⟨(some 50), none, .mv (.t 51)⟩])
    (.cond (.t 50) (.seq (.seq (.reg [53] [⟨(some 52), none, .mv (.t 1)⟩,
            ⟨(some 53), none, .bin .eql .other true (.t 52) (.c (.int .i64 0))⟩])
       (.cond (.t 53) (.seq (.reg [6] [⟨(some 6), none, .mv (.c (.bool false))⟩])
         .ret)
       .skip))
      (.seq (.reg [7] [⟨(some 54), none, .mv (.t 1)⟩,
           ⟨(some 55), none, .bin .sub .other true (.t 54) (.c (.int .i64 1))⟩,
           ⟨(some 56), none, .bin .quo .other true (.t 55) (.c (.int .i64 2))⟩,
           ⟨(some 7), none, .mv (.t 56)⟩])
      (.seq (.seq (.reg [61] [⟨(some 57), none, .mv (.t 7)⟩,
            ⟨(some 58), none, .faddr 4 (.t 3)⟩,
            ⟨(some 59), none, .load none (.t 58)⟩,
            ⟨(some 60), none, .len .sl (.t 59)⟩,
            ⟨(some 61), none, .bin .lss .other false (.t 57) (.t 60)⟩])
       (.cond (.t 61) (.seq (.reg [6] [⟨(some 62), none, .mv (.t 1)⟩,
              ⟨(some 63), none, .bin .rem .other true (.t 62) (.c (.int .i64 2))⟩,
              ⟨(some 64), none, .bin .eql .other true (.t 63) (.c (.int .i64 0))⟩,
              ⟨(some 65), none, .mv (.t 64)⟩,
              ⟨(some 66), (some (65, true)), .mv (.t 2)⟩,
              ⟨(some 67), (some (65, true)), .faddr 4 (.t 3)⟩,
              ⟨(some 68), (some (65, true)), .load none (.t 67)⟩,
              ⟨(some 69), (some (65, true)), .mv (.t 7)⟩,
              ⟨(some 70), (some (65, true)), .iaddr none (.t 68) (.t 69)⟩,
              ⟨(some 71), (some (65, true)), .load none (.t 70)⟩,
              ⟨(some 72), (some (65, true)), .bin .eql .other false (.t 66) (.t 71)⟩,
              ⟨(some 73), none, .pick (.t 65) (.t 72) (.c (.bool false))⟩,
              ⟨(some 6), none, .mv (.t 73)⟩])
         .ret)
       .skip))
      (.seq (.reg [6] [⟨(some 74), none, .mv (.t 2)⟩,
           ⟨(some 75), none, .faddr 3 (.t 3)⟩,
           ⟨(some 76), none, .load none (.t 75)⟩,
           ⟨(some 77), none, .bin .eql .other false (.t 74) (.t 76)⟩,
           ⟨(some 6), none, .mv (.t 77)⟩])
      .ret))))
    .skip))))))))))
  (.seq (.reg [6] [⟨(some 6), none, .mv (.c (.bool false))⟩])
  .ret)))⟩
theorem c73 : compF Tryd.prog [0, 1, 2, 3, 6, 7, 9, 10, 20, 30, 50, 53, 61] Tryd.f73 = some a73 := by kernel_rfl

/- bushel/core.Nodes -/
def a21 : AFun := ⟨19, [.tmp 2], (.seq (.reg [1, 2] [⟨(some 1), none, .box (.t 0)⟩,
       ⟨(some 2), none, .mv (.c (.int .i64 0))⟩])
  (.seq (.reg [3] [⟨(some 3), none, .mv (.c (.int .i64 1))⟩])
  (.seq (.seq (.reg [7, 8, 9] [⟨(some 6), none, .faddr 5 (.t 1)⟩,
        ⟨(some 7), none, .load none (.t 6)⟩,
        ⟨(some 8), none, .len .sl (.t 7)⟩,
        ⟨(some 9), none, .mv (.c (.int .i64 0))⟩])
   (.block 0 (.loop (.seq (.reg [10] [⟨(some 10), none, .bin .lss .other false (.t 9) (.t 8)⟩])
     (.seq (.cond (.t 10) .skip
      (.exit 0))
     (.seq (.block 1 (.seq (.reg [5] [⟨(some 11), none, .iaddr (some 6) (.t 7) (.t 9)⟩,
            ⟨(some 12), none, .load (some 6) (.t 11)⟩,
            ⟨(some 5), none, .alloc [(.int .i64 0), (.int .i64 0), (.str []), (.str []), .snil, .snil]⟩,
            ⟨none, none, .store 6 (.t 5) (.t 12)⟩])
       (.reg [3] [⟨(some 13), none, .mv (.t 3)⟩,
           ⟨(some 14), none, .load (some 6) (.t 5)⟩,
           ⟨(some 15), none, .call (.c (.fn 21)) [(.t 14)]⟩,
           ⟨(some 16), none, .bin .add .other false (.t 13) (.t 15)⟩,
           ⟨(some 3), none, .mv (.t 16)⟩])))
     (.reg [9] [⟨(some 17), none, .bin .add .other true (.t 9) (.c (.int .i64 1))⟩,
         ⟨(some 9), none, .mv (.t 17)⟩])))))))
  (.seq (.reg [2] [⟨(some 18), none, .mv (.t 3)⟩,
       ⟨(some 2), none, .mv (.t 18)⟩])
  .ret))))⟩
theorem c21 : compF Tryd.prog [0, 1, 2, 3, 5, 7, 8, 9, 10] Tryd.f21 = some a21 := by kernel_rfl

/- bushel/bushelref14.Nodes -/
def a22 : AFun := ⟨21, [.tmp 2], (.seq (.reg [1, 2] [⟨(some 1), none, .box (.t 0)⟩,
       ⟨(some 2), none, .mv (.c (.int .i64 0))⟩])
  (.seq (.reg [3] [⟨(some 3), none, .mv (.c (.int .i64 1))⟩])
  (.seq (.seq (.reg [4] [⟨(some 4), none, .mv (.c (.int .i64 0))⟩])
   (.block 0 (.loop (.seq (.seq (.reg [9] [⟨(some 5), none, .mv (.t 4)⟩,
           ⟨(some 6), none, .faddr 5 (.t 1)⟩,
           ⟨(some 7), none, .load none (.t 6)⟩,
           ⟨(some 8), none, .len .sl (.t 7)⟩,
           ⟨(some 9), none, .bin .lss .other false (.t 5) (.t 8)⟩])
      (.cond (.t 9) .skip
      (.exit 0)))
     (.seq (.block 1 (.reg [3] [⟨(some 12), none, .mv (.t 3)⟩,
           ⟨(some 13), none, .faddr 5 (.t 1)⟩,
           ⟨(some 14), none, .load none (.t 13)⟩,
           ⟨(some 15), none, .mv (.t 4)⟩,
           ⟨(some 16), none, .iaddr (some 6) (.t 14) (.t 15)⟩,
           ⟨(some 17), none, .load (some 6) (.t 16)⟩,
           ⟨(some 18), none, .call (.c (.fn 22)) [(.t 17)]⟩,
           ⟨(some 19), none, .bin .add .other false (.t 12) (.t 18)⟩,
           ⟨(some 3), none, .mv (.t 19)⟩]))
     (.reg [4] [⟨(some 10), none, .mv (.t 4)⟩,
         ⟨(some 11), none, .bin .add .other true (.t 10) (.c (.int .i64 1))⟩,
         ⟨(some 4), none, .mv (.t 11)⟩]))))))
  (.seq (.reg [2] [⟨(some 20), none, .mv (.t 3)⟩,
       ⟨(some 2), none, .mv (.t 20)⟩])
  .ret))))⟩
theorem c22 : compF Tryd.prog [0, 1, 2, 3, 4, 9] Tryd.f22 = some a22 := by kernel_rfl

/- bushel/core.Same -/
def a23 : AFun := ⟨45, [.tmp 4], (.seq (.reg [2, 3, 4] [⟨(some 2), none, .box (.t 0)⟩,
       ⟨(some 3), none, .box (.t 1)⟩,
       ⟨(some 4), none, .mv (.c (.bool false))⟩])
  (.seq (.reg [4] [⟨(some 5), none, .faddr 0 (.t 2)⟩,
       ⟨(some 6), none, .load none (.t 5)⟩,
       ⟨(some 7), none, .faddr 0 (.t 3)⟩,
       ⟨(some 8), none, .load none (.t 7)⟩,
       ⟨(some 9), none, .bin .eql .other false (.t 6) (.t 8)⟩,
       ⟨(some 10), none, .mv (.t 9)⟩,
       ⟨(some 11), (some (10, true)), .faddr 1 (.t 2)⟩,
       ⟨(some 12), (some (10, true)), .load none (.t 11)⟩,
       ⟨(some 13), (some (10, true)), .faddr 1 (.t 3)⟩,
       ⟨(some 14), (some (10, true)), .load none (.t 13)⟩,
       ⟨(some 15), (some (10, true)), .bin .eql .other false (.t 12) (.t 14)⟩,
       ⟨(some 16), none, .pick (.t 10) (.t 15) (.c (.bool false))⟩,
       ⟨(some 17), none, .mv (.t 16)⟩,
       ⟨(some 18), (some (17, true)), .faddr 2 (.t 2)⟩,
       ⟨(some 19), (some (17, true)), .load none (.t 18)⟩,
       ⟨(some 20), (some (17, true)), .faddr 2 (.t 3)⟩,
       ⟨(some 21), (some (17, true)), .load none (.t 20)⟩,
       ⟨(some 22), (some (17, true)), .bin .eql .other false (.t 19) (.t 21)⟩,
       ⟨(some 23), none, .pick (.t 17) (.t 22) (.c (.bool false))⟩,
       ⟨(some 24), none, .mv (.t 23)⟩,
       ⟨(some 25), (some (24, true)), .faddr 3 (.t 2)⟩,
       ⟨(some 26), (some (24, true)), .load none (.t 25)⟩,
       ⟨(some 27), (some (24, true)), .faddr 3 (.t 3)⟩,
       ⟨(some 28), (some (24, true)), .load none (.t 27)⟩,
       ⟨(some 29), (some (24, true)), .bin .eql .other false (.t 26) (.t 28)⟩,
       ⟨(some 30), none, .pick (.t 24) (.t 29) (.c (.bool false))⟩,
       ⟨(some 31), none, .mv (.t 30)⟩,
       ⟨(some 32), (some (31, true)), .faddr 4 (.t 2)⟩,
       ⟨(some 33), (some (31, true)), .load none (.t 32)⟩,
       ⟨(some 34), (some (31, true)), .faddr 4 (.t 3)⟩,
       ⟨(some 35), (some (31, true)), .load none (.t 34)⟩,
       ⟨(some 36), (some (31, true)), .call (.c (.fn 42)) [(.t 33), (.t 35)]⟩,
       ⟨(some 37), none, .pick (.t 31) (.t 36) (.c (.bool false))⟩,
       ⟨(some 38), none, .mv (.t 37)⟩,
       ⟨(some 39), (some (38, true)), .faddr 5 (.t 2)⟩,
       ⟨(some 40), (some (38, true)), .load none (.t 39)⟩,
       ⟨(some 41), (some (38, true)), .faddr 5 (.t 3)⟩,
       ⟨(some 42), (some (38, true)), .load none (.t 41)⟩,
       ⟨(some 43), (some (38, true)), .call (.c (.fn 43)) [(.t 40), (.t 42), (.c (.fn 23))]⟩,
       ⟨(some 44), none, .pick (.t 38) (.t 43) (.c (.bool false))⟩,
       ⟨(some 4), none, .mv (.t 44)⟩])
  .ret))⟩
theorem c23 : compF Tryd.prog [0, 1, 2, 3, 4] Tryd.f23 = some a23 := by kernel_rfl

/- bushel/bushelref14.Same -/
def a24 : AFun := ⟨72, [.tmp 4], (.seq (.reg [2, 3, 4] [⟨(some 2), none, .box (.t 0)⟩,
       ⟨(some 3), none, .box (.t 1)⟩,
       ⟨(some 4), none, .mv (.c (.bool false))⟩])
  (.seq (.reg [5] [⟨(some 8), none, .faddr 4 (.t 2)⟩,
       ⟨(some 9), none, .load none (.t 8)⟩,
       ⟨(some 10), none, .faddr 4 (.t 3)⟩,
       ⟨(some 11), none, .load none (.t 10)⟩,
       ⟨(some 12), none, .call (.c (.fn 32)) [(.t 9), (.t 11)]⟩,
       ⟨(some 5), none, .mv (.t 12)⟩])
  (.seq (.seq (.reg [51] [⟨(some 13), none, .faddr 0 (.t 2)⟩,
        ⟨(some 14), none, .load none (.t 13)⟩,
        ⟨(some 15), none, .faddr 0 (.t 3)⟩,
        ⟨(some 16), none, .load none (.t 15)⟩,
        ⟨(some 17), none, .bin .neq .other false (.t 14) (.t 16)⟩,
        ⟨(some 18), none, .mv (.t 17)⟩,
        ⟨(some 19), (some (18, false)), .faddr 1 (.t 2)⟩,
        ⟨(some 20), (some (18, false)), .load none (.t 19)⟩,
        ⟨(some 21), (some (18, false)), .faddr 1 (.t 3)⟩,
        ⟨(some 22), (some (18, false)), .load none (.t 21)⟩,
        ⟨(some 23), (some (18, false)), .bin .neq .other false (.t 20) (.t 22)⟩,
        ⟨(some 24), none, .pick (.t 18) (.c (.bool true)) (.t 23)⟩,
        ⟨(some 25), none, .mv (.t 24)⟩,
        ⟨(some 26), (some (25, false)), .faddr 2 (.t 2)⟩,
        ⟨(some 27), (some (25, false)), .load none (.t 26)⟩,
        ⟨(some 28), (some (25, false)), .faddr 2 (.t 3)⟩,
        ⟨(some 29), (some (25, false)), .load none (.t 28)⟩,
        ⟨(some 30), (some (25, false)), .bin .neq .other false (.t 27) (.t 29)⟩,
        ⟨(some 31), none, .pick (.t 25) (.c (.bool true)) (.t 30)⟩,
        ⟨(some 32), none, .mv (.t 31)⟩,
        ⟨(some 33), (some (32, false)), .faddr 3 (.t 2)⟩,
        ⟨(some 34), (some (32, false)), .load none (.t 33)⟩,
        ⟨(some 35), (some (32, false)), .faddr 3 (.t 3)⟩,
        ⟨(some 36), (some (32, false)), .load none (.t 35)⟩,
        ⟨(some 37), (some (32, false)), .bin .neq .other false (.t 34) (.t 36)⟩,
        ⟨(some 38), none, .pick (.t 32) (.c (.bool true)) (.t 37)⟩,
        ⟨(some 39), none, .mv (.t 38)⟩,
        ⟨(some 40), (some (39, false)), .mv (.t 5)⟩,
        ⟨(some 41), (some (39, false)), .un .not (.t 40)⟩,
        ⟨(some 42), none, .pick (.t 39) (.c (.bool true)) (.t 41)⟩,
        ⟨(some 43), none, .mv (.t 42)⟩,
        ⟨(some 44), (some (43, false)), .faddr 5 (.t 2)⟩,
        ⟨(some 45), (some (43, false)), .load none (.t 44)⟩,
        ⟨(some 46), (some (43, false)), .len .sl (.t 45)⟩,
        ⟨(some 47), (some (43, false)), .faddr 5 (.t 3)⟩,
        ⟨(some 48), (some (43, false)), .load none (.t 47)⟩,
        ⟨(some 49), (some (43, false)), .len .sl (.t 48)⟩,
        ⟨(some 50), (some (43, false)), .bin .neq .other false (.t 46) (.t 49)⟩,
        ⟨(some 51), none, .pick (.t 43) (.c (.bool true)) (.t 50)⟩])
   (.cond (.t 51) (.seq (.reg [4] [⟨(some 4), none, .mv (.c (.bool false))⟩])
     .ret)
   .skip))
  (.seq (.seq (.reg [6] [⟨(some 6), none, .mv (.c (.int .i64 0))⟩])
   (.block 0 (.loop (.seq (.seq (.reg [56] [⟨(some 52), none, .mv (.t 6)⟩,
           ⟨(some 53), none, .faddr 5 (.t 2)⟩,
           ⟨(some 54), none, .load none (.t 53)⟩,
           ⟨(some 55), none, .len .sl (.t 54)⟩,
           ⟨(some 56), none, .bin .lss .other false (.t 52) (.t 55)⟩])
      (.cond (.t 56) .skip
      (.exit 0)))
     (.seq (.block 1 (.seq (.any [7] [(⟨(some 59), none, .faddr 5 (.t 2)⟩, true),
            (⟨(some 60), none, .load none (.t 59)⟩, true),
            (⟨(some 61), none, .mv (.t 6)⟩, false),
            (⟨(some 62), none, .iaddr (some 6) (.t 60) (.t 61)⟩, true),
            (⟨(some 63), none, .load (some 6) (.t 62)⟩, true),
            (⟨(some 64), none, .faddr 5 (.t 3)⟩, false),
            (⟨(some 65), none, .load none (.t 64)⟩, false),
            (⟨(some 66), none, .mv (.t 6)⟩, false),
            (⟨(some 67), none, .iaddr (some 6) (.t 65) (.t 66)⟩, false),
            (⟨(some 68), none, .load (some 6) (.t 67)⟩, false),
            (⟨(some 69), none, .call (.c (.fn 24)) [(.t 63), (.t 68)]⟩, true),
            (⟨(some 7), none, .mv (.t 69)⟩, true)])
       (.seq (.reg [71] [⟨(some 70), none, .mv (.t 7)⟩,
            ⟨(some 71), none, .un .not (.t 70)⟩])
       (.cond (.t 71) (.seq (.reg [4] [⟨(some 4), none, .mv (.c (.bool false))⟩])
         .ret)
       .skip))))
     (.reg [6] [⟨(some 57), none, .mv (.t 6)⟩,
         ⟨(some 58), none, .bin .add .other true (.t 57) (.c (.int .i64 1))⟩,
         ⟨(some 6), none, .mv (.t 58)⟩]))))))
  (.seq (.reg [4] [⟨(some 4), none, .mv (.c (.bool true))⟩])
  .ret)))))⟩
theorem c24 : compF Tryd.prog [0, 1, 2, 3, 4, 5, 6, 7, 51, 56, 71] Tryd.f24 = some a24 := by kernel_rfl

/- slices.Equal[[]string,string] -/
def a42 : AFun := ⟨26, [.tmp 4], (.seq (.reg [4] [⟨(some 4), none, .mv (.c (.bool false))⟩])
  (.seq (.seq (.reg [10] [⟨(some 6), none, .mv (.t 0)⟩,
        ⟨(some 7), none, .len .sl (.t 6)⟩,
        ⟨(some 8), none, .mv (.t 1)⟩,
        ⟨(some 9), none, .len .sl (.t 8)⟩,
        ⟨(some 10), none, .bin .neq .other false (.t 7) (.t 9)⟩])
   (.cond (.t 10) (.seq (.reg [4] [⟨(some 4), none, .mv (.c (.bool false))⟩])
     .ret)
   .skip))
  (.seq (.seq (.reg [12, 13] [⟨(some 11), none, .mv (.t 0)⟩,
        ⟨(some 12), none, .len .sl (.t 11)⟩,
        ⟨(some 13), none, .mv (.c (.int .i64 0))⟩])
   (.block 0 (.loop (.seq (.reg [14] [⟨(some 14), none, .bin .lss .other false (.t 13) (.t 12)⟩])
     (.seq (.cond (.t 14) .skip
      (.exit 0))
     (.seq (.block 1 (.seq (.reg [5] [⟨(some 15), none, .mv (.t 13)⟩,
            ⟨(some 5), none, .mv (.t 15)⟩])
       (.seq (.any [24] [(⟨(some 16), none, .mv (.t 0)⟩, true),
            (⟨(some 17), none, .mv (.t 5)⟩, false),
            (⟨(some 18), none, .iaddr none (.t 16) (.t 17)⟩, true),
            (⟨(some 19), none, .load none (.t 18)⟩, true),
            (⟨(some 20), none, .mv (.t 1)⟩, false),
            (⟨(some 21), none, .mv (.t 5)⟩, false),
            (⟨(some 22), none, .iaddr none (.t 20) (.t 21)⟩, false),
            (⟨(some 23), none, .load none (.t 22)⟩, false),
            (⟨(some 24), none, .bin .neq .other false (.t 19) (.t 23)⟩, true)])
       (.cond (.t 24) (.seq (.reg [4] [⟨(some 4), none, .mv (.c (.bool false))⟩])
         .ret)
       .skip))))
     (.reg [13] [⟨(some 25), none, .bin .add .other true (.t 13) (.c (.int .i64 1))⟩,
         ⟨(some 13), none, .mv (.t 25)⟩])))))))
  (.seq (.reg [4] [⟨(some 4), none, .mv (.c (.bool true))⟩])
  .ret))))⟩
theorem c42 : compF Tryd.prog [0, 1, 4, 5, 10, 12, 13, 14, 24] Tryd.f42 = some a42 := by kernel_rfl

/- slices.EqualFunc[[]bushel/api.Core,[]bushel/api.Core,bushel/api.Core,bushel/api.Core] -/
def a43 : AFun := ⟨32, [.tmp 6], (.seq (.reg [6] [⟨(some 6), none, .mv (.c (.bool false))⟩])
  (.seq (.seq (.reg [14] [⟨(some 10), none, .mv (.t 0)⟩,
        ⟨(some 11), none, .len .sl (.t 10)⟩,
        ⟨(some 12), none, .mv (.t 1)⟩,
        ⟨(some 13), none, .len .sl (.t 12)⟩,
        ⟨(some 14), none, .bin .neq .other false (.t 11) (.t 13)⟩])
   (.cond (.t 14) (.seq (.reg [6] [⟨(some 6), none, .mv (.c (.bool false))⟩])
     .ret)
   .skip))
  (.seq (.seq (.reg [15, 16, 17] [⟨(some 15), none, .mv (.t 0)⟩,
        ⟨(some 16), none, .len .sl (.t 15)⟩,
        ⟨(some 17), none, .mv (.c (.int .i64 0))⟩])
   (.block 0 (.loop (.seq (.reg [18] [⟨(some 18), none, .bin .lss .other false (.t 17) (.t 16)⟩])
     (.seq (.cond (.t 18) .skip
      (.exit 0))
     (.seq (.block 1 (.seq (.reg [8, 7] [⟨(some 19), none, .mv (.t 17)⟩,
            ⟨(some 20), none, .iaddr (some 6) (.t 15) (.t 17)⟩,
            ⟨(some 21), none, .load (some 6) (.t 20)⟩,
            ⟨(some 8), none, .alloc [(.int .i64 0), (.int .i64 0), (.str []), (.str []), .snil, .snil]⟩,
            ⟨(some 7), none, .mv (.t 19)⟩,
            ⟨none, none, .store 6 (.t 8) (.t 21)⟩])
       (.seq (.reg [9] [⟨(some 22), none, .mv (.t 1)⟩,
            ⟨(some 23), none, .mv (.t 7)⟩,
            ⟨(some 24), none, .iaddr (some 6) (.t 22) (.t 23)⟩,
            ⟨(some 25), none, .load (some 6) (.t 24)⟩,
            ⟨(some 9), none, .alloc [(.int .i64 0), (.int .i64 0), (.str []), (.str []), .snil, .snil]⟩,
            ⟨none, none, .store 6 (.t 9) (.t 25)⟩])
       (.seq (.reg [30] [⟨(some 26), none, .mv (.t 2)⟩,
            ⟨(some 27), none, .load (some 6) (.t 8)⟩,
            ⟨(some 28), none, .load (some 6) (.t 9)⟩,
            ⟨(some 29), none, .call (.t 26) [(.t 27), (.t 28)]⟩,
            ⟨(some 30), none, .un .not (.t 29)⟩])
       (.cond (.t 30) (.seq (.reg [6] [⟨(some 6), none, .mv (.c (.bool false))⟩])
         .ret)
       .skip)))))
     (.reg [17] [⟨(some 31), none, .bin .add .other true (.t 17) (.c (.int .i64 1))⟩,
         ⟨(some 17), none, .mv (.t 31)⟩])))))))
  (.seq (.reg [6] [⟨(some 6), none, .mv (.c (.bool true))⟩])
  .ret))))⟩
theorem c43 : compF Tryd.prog [0, 1, 2, 6, 7, 8, 9, 14, 15, 16, 17, 18, 30] Tryd.f43 = some a43 := by kernel_rfl

/- slices.Grow[[]bushel/core.Value,bushel/core.Value] -/
def a124 : AFun := ⟨27, [.tmp 4], (.seq (.reg [4] [⟨(some 4), none, .mv (.c .snil)⟩])
  (.seq (.seq (.reg [6] [⟨(some 5), none, .mv (.t 1)⟩,
        ⟨(some 6), none, .bin .lss .other true (.t 5) (.c (.int .i64 0))⟩])
   (.cond (.t 6) (.reg [] [⟨(some 7), none, .mkif 9 (.c (.str [99, 97, 110, 110, 111, 116, 32, 98, 101, 32, 110, 101, 103, 97, 116, 105, 118, 101]))⟩,
         ⟨none, none, .ext .stop []⟩])
   .skip))
  (.seq (.seq (.reg [1] [⟨(some 8), none, .mv (.t 1)⟩,
        ⟨(some 9), none, .mv (.t 0)⟩,
        ⟨(some 10), none, .ext .cap [(.t 9)]⟩,
        ⟨(some 11), none, .mv (.t 0)⟩,
        ⟨(some 12), none, .len .sl (.t 11)⟩,
        ⟨(some 13), none, .bin .sub .other false (.t 10) (.t 12)⟩,
        ⟨(some 14), none, .bin .sub .other false (.t 8) (.t 13)⟩,
        ⟨(some 1), none, .mv (.t 14)⟩])
   (.seq (.reg [16] [⟨(some 15), none, .mv (.t 1)⟩,
        ⟨(some 16), none, .bin .gtr .other true (.t 15) (.c (.int .i64 0))⟩])
   (.cond (.t 16) (.reg [0] [⟨(some 17), none, .mv (.t 0)⟩,
         ⟨(some 18), none, .mv (.t 0)⟩,
         ⟨(some 19), none, .ext .cap [(.t 18)]⟩,
         ⟨(some 20), none, .slice (.sl (some 6)) (.t 17) none (some (.t 19)) none⟩,
         ⟨(some 21), none, .mv (.t 1)⟩,
         ⟨(some 22), none, .ext (.appz (some 6) 72 [(.int .i64 0), (.int .i64 0), (.str []), .snil, .pnil, .pnil]) [(.t 20), (.t 21)]⟩,
         ⟨(some 23), none, .mv (.t 0)⟩,
         ⟨(some 24), none, .len .sl (.t 23)⟩,
         ⟨(some 25), none, .slice (.sl (some 6)) (.t 22) none (some (.t 24)) none⟩,
         ⟨(some 0), none, .mv (.t 25)⟩])
   .skip)))
  (.seq (.reg [4] [⟨(some 26), none, .mv (.t 0)⟩,
       ⟨(some 4), none, .mv (.t 26)⟩])
  .ret))))⟩
theorem c124 : compF Tryd.prog [0, 1, 4, 6, 16] Tryd.f124 = some a124 := by kernel_rfl

end Go.Proofs.YtbifjffjibnjjaaDoor
