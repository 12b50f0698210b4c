/-
  The bodies of functions, in the small language: printed by program, proved by the kernel's computing. (Own work.)
-/
import Derived.Test.YtppdghfpbliaeaaDoorAbsU
import Derived.Test.YtppdghfpbliaeaaDoorChecked
namespace Go.Proofs.YtppdghfpbliaeaaDoor
open Go Go.Abs

/- bushel/bushellaw13.EvidWhole -/
def a3 : AFun := ⟨141, [.tmp 8], (.seq (.reg [8] [⟨(some 8), none, .mv (.c (.bool false))⟩])
  (.seq (.reg [9] [⟨(some 21), none, .call (.c (.fn 8)) []⟩,
       ⟨(some 9), none, .mv (.t 21)⟩])
  (.seq (.seq (.reg [42] [⟨(some 22), none, .mv (.t 0)⟩,
        ⟨(some 23), none, .len .sl (.t 22)⟩,
        ⟨(some 24), none, .bin .gtr .other true (.t 23) (.c (.int .i64 50))⟩,
        ⟨(some 25), none, .mv (.t 24)⟩,
        ⟨(some 26), (some (25, false)), .mv (.t 1)⟩,
        ⟨(some 27), (some (25, false)), .len .sl (.t 26)⟩,
        ⟨(some 28), (some (25, false)), .bin .gtr .other true (.t 27) (.c (.int .i64 50))⟩,
        ⟨(some 29), none, .pick (.t 25) (.c (.bool true)) (.t 28)⟩,
        ⟨(some 30), none, .mv (.t 29)⟩,
        ⟨(some 31), (some (30, false)), .mv (.t 2)⟩,
        ⟨(some 32), (some (30, false)), .len .str (.t 31)⟩,
        ⟨(some 33), (some (30, false)), .bin .gtr .other true (.t 32) (.c (.int .i64 50))⟩,
        ⟨(some 34), none, .pick (.t 30) (.c (.bool true)) (.t 33)⟩,
        ⟨(some 35), none, .mv (.t 34)⟩,
        ⟨(some 36), (some (35, false)), .mv (.t 2)⟩,
        ⟨(some 37), (some (35, false)), .bin .eql .other true (.t 36) (.c (.str []))⟩,
        ⟨(some 38), none, .pick (.t 35) (.c (.bool true)) (.t 37)⟩,
        ⟨(some 39), none, .mv (.t 38)⟩,
        ⟨(some 40), (some (39, false)), .mv (.t 3)⟩,
        ⟨(some 41), (some (39, false)), .bin .lss .other true (.t 40) (.c (.int .i64 0))⟩,
        ⟨(some 42), none, .pick (.t 39) (.c (.bool true)) (.t 41)⟩])
   (.cond (.t 42) (.seq (.reg [8] [⟨(some 43), none, .mv (.t 9)⟩,
          ⟨(some 8), none, .mv (.t 43)⟩])
     .ret)
   .skip))
  (.seq (.seq (.reg [10] [⟨(some 10), none, .mv (.c (.int .i64 0))⟩])
   (.block 0 (.loop (.seq (.seq (.reg [47] [⟨(some 44), none, .mv (.t 10)⟩,
           ⟨(some 45), none, .mv (.t 0)⟩,
           ⟨(some 46), none, .len .sl (.t 45)⟩,
           ⟨(some 47), none, .bin .lss .other false (.t 44) (.t 46)⟩])
      (.cond (.t 47) .skip
      (.exit 0)))
     (.seq (.block 1 (.seq (.reg [62] [⟨(some 50), none, .mv (.t 0)⟩,
            ⟨(some 51), none, .mv (.t 10)⟩,
            ⟨(some 52), none, .iaddr none (.t 50) (.t 51)⟩,
            ⟨(some 53), none, .load none (.t 52)⟩,
            ⟨(some 54), none, .len .str (.t 53)⟩,
            ⟨(some 55), none, .bin .gtr .other true (.t 54) (.c (.int .i64 50))⟩,
            ⟨(some 56), none, .mv (.t 55)⟩,
            ⟨(some 57), (some (56, false)), .mv (.t 0)⟩,
            ⟨(some 58), (some (56, false)), .mv (.t 10)⟩,
            ⟨(some 59), (some (56, false)), .iaddr none (.t 57) (.t 58)⟩,
            ⟨(some 60), (some (56, false)), .load none (.t 59)⟩,
            ⟨(some 61), (some (56, false)), .bin .eql .other true (.t 60) (.c (.str []))⟩,
            ⟨(some 62), none, .pick (.t 56) (.c (.bool true)) (.t 61)⟩])
       (.cond (.t 62) (.seq (.reg [8] [⟨(some 63), none, .mv (.t 9)⟩,
              ⟨(some 8), none, .mv (.t 63)⟩])
         .ret)
       .skip)))
     (.reg [10] [⟨(some 48), none, .mv (.t 10)⟩,
         ⟨(some 49), none, .bin .add .other true (.t 48) (.c (.int .i64 1))⟩,
         ⟨(some 10), none, .mv (.t 49)⟩]))))))
  (.seq (.seq (.reg [11] [⟨(some 11), none, .mv (.c (.int .i64 0))⟩])
   (.block 2 (.loop (.seq (.seq (.reg [67] [⟨(some 64), none, .mv (.t 11)⟩,
           ⟨(some 65), none, .mv (.t 1)⟩,
           ⟨(some 66), none, .len .sl (.t 65)⟩,
           ⟨(some 67), none, .bin .lss .other false (.t 64) (.t 66)⟩])
      (.cond (.t 67) .skip
      (.exit 2)))
     (.seq (.block 3 (.seq (.reg [82] [⟨(some 70), none, .mv (.t 1)⟩,
            ⟨(some 71), none, .mv (.t 11)⟩,
            ⟨(some 72), none, .iaddr none (.t 70) (.t 71)⟩,
            ⟨(some 73), none, .load none (.t 72)⟩,
            ⟨(some 74), none, .len .str (.t 73)⟩,
            ⟨(some 75), none, .bin .gtr .other true (.t 74) (.c (.int .i64 50))⟩,
            ⟨(some 76), none, .mv (.t 75)⟩,
            ⟨(some 77), (some (76, false)), .mv (.t 1)⟩,
            ⟨(some 78), (some (76, false)), .mv (.t 11)⟩,
            ⟨(some 79), (some (76, false)), .iaddr none (.t 77) (.t 78)⟩,
            ⟨(some 80), (some (76, false)), .load none (.t 79)⟩,
            ⟨(some 81), (some (76, false)), .bin .eql .other true (.t 80) (.c (.str []))⟩,
            ⟨(some 82), none, .pick (.t 76) (.c (.bool true)) (.t 81)⟩])
       (.cond (.t 82) (.seq (.reg [8] [⟨(some 83), none, .mv (.t 9)⟩,
              ⟨(some 8), none, .mv (.t 83)⟩])
         .ret)
       .skip)))
     (.reg [11] [⟨(some 68), none, .mv (.t 11)⟩,
         ⟨(some 69), none, .bin .add .other true (.t 68) (.c (.int .i64 1))⟩,
         ⟨(some 11), none, .mv (.t 69)⟩]))))))
  (.seq (.reg [12] [⟨(some 84), none, .mv (.t 0)⟩,
       ⟨(some 85), none, .call (.c (.fn 9)) [(.t 84)]⟩,
       ⟨(some 12), none, .mv (.t 85)⟩])
  (.seq (.reg [13] [⟨(some 86), none, .mv (.t 1)⟩,
       ⟨(some 87), none, .call (.c (.fn 9)) [(.t 86)]⟩,
       ⟨(some 88), none, .mv (.t 12)⟩,
       ⟨(some 89), none, .call (.c (.fn 10)) [(.t 87), (.t 88)]⟩,
       ⟨(some 13), none, .mv (.t 89)⟩])
  (.seq (.reg [14] [⟨(some 90), none, .mv (.t 12)⟩,
       ⟨(some 91), none, .mv (.t 3)⟩,
       ⟨(some 92), none, .build [(.int .i64 0), (.int .i64 0), .snil, .snil, (.int .i64 0)] [(0, 1, (.c (.int .i64 4))), (3, 1, (.t 90)), (4, 1, (.t 91))]⟩,
       ⟨(some 14), none, .alloc [(.int .i64 0), (.int .i64 0), .snil, .snil, (.int .i64 0)]⟩,
       ⟨none, none, .store 5 (.t 14) (.t 92)⟩])
  (.seq (.seq (.reg [15] [⟨(some 15), none, .mv (.c (.int .i64 0))⟩])
   (.block 4 (.loop (.seq (.seq (.reg [96] [⟨(some 93), none, .mv (.t 15)⟩,
           ⟨(some 94), none, .mv (.t 12)⟩,
           ⟨(some 95), none, .len .sl (.t 94)⟩,
           ⟨(some 96), none, .bin .lss .other false (.t 93) (.t 95)⟩])
      (.cond (.t 96) .skip
      (.exit 4)))
     (.seq (.block 5 (.reg [] [⟨(some 99), none, .faddr 2 (.t 14)⟩,
           ⟨(some 100), none, .load none (.t 99)⟩,
           ⟨(some 101), none, .build [(.int .i64 0), (.int .i64 0), .snil, .snil, (.int .i64 0)] [(0, 1, (.c (.int .i64 1))), (4, 1, (.c (.int .i64 (-1))))]⟩,
           ⟨(some 102), none, .mksl (some 5) [(.t 101)]⟩,
           ⟨(some 103), none, .append (some 5) 72 (.t 100) (.t 102)⟩,
           ⟨(some 104), none, .faddr 2 (.t 14)⟩,
           ⟨none, none, .store 1 (.t 104) (.t 103)⟩]))
     (.reg [15] [⟨(some 97), none, .mv (.t 15)⟩,
         ⟨(some 98), none, .bin .add .other true (.t 97) (.c (.int .i64 1))⟩,
         ⟨(some 15), none, .mv (.t 98)⟩]))))))
  (.seq (.reg [16, 17] [⟨(some 106), none, .load (some 5) (.t 14)⟩,
       ⟨(some 107), none, .mv (.t 2)⟩,
       ⟨(some 108), none, .call (.c (.fn 11)) [(.t 106), (.t 107)]⟩,
       ⟨(some 105), none, .mv (.t 108)⟩,
       ⟨(some 109), none, .extract (.t 105) 0⟩,
       ⟨(some 110), none, .extract (.t 105) 1⟩,
       ⟨(some 16), none, .alloc [(.int .i64 0), (.int .i64 0), (.str [])]⟩,
       ⟨none, none, .store 3 (.t 16) (.t 109)⟩,
       ⟨(some 17), none, .mv (.t 110)⟩])
  (.seq (.seq (.reg [112] [⟨(some 111), none, .mv (.t 17)⟩,
        ⟨(some 112), none, .bin .neq .ifc true (.t 111) (.c .inil)⟩])
   (.cond (.t 112) (.seq (.reg [8] [⟨(some 8), none, .mv (.c (.bool false))⟩])
     .ret)
   .skip))
  (.seq (.reg [18] [⟨(some 113), none, .ext .mkmap []⟩,
       ⟨(some 114), none, .mv (.t 3)⟩,
       ⟨(some 115), none, .mv (.t 2)⟩,
       ⟨(some 116), none, .build [(.int .i64 0), (.str [])] [(0, 1, (.t 114)), (1, 1, (.t 115))]⟩,
       ⟨(some 117), none, .mv (.t 13)⟩,
       ⟨(some 118), none, .mv (.t 2)⟩,
       ⟨(some 119), none, .call (.c (.fn 12)) [(.t 117), (.t 118)]⟩,
       ⟨none, none, .ext (.mput (.pair .i64)) [(.t 113), (.t 116), (.t 119)]⟩,
       ⟨(some 120), none, .mv (.t 113)⟩,
       ⟨(some 18), none, .mv (.t 120)⟩])
  (.seq (.reg [19, 20] [⟨(some 122), none, .load (some 3) (.t 16)⟩,
       ⟨(some 123), none, .mv (.t 18)⟩,
       ⟨(some 124), none, .call (.c (.fn 13)) [(.t 122), (.t 123)]⟩,
       ⟨(some 121), none, .mv (.t 124)⟩,
       ⟨(some 125), none, .extract (.t 121) 0⟩,
       ⟨(some 126), none, .extract (.t 121) 1⟩,
       ⟨(some 19), none, .mv (.t 125)⟩,
       ⟨(some 20), none, .mv (.t 126)⟩])
  (.seq (.reg [8] [⟨(some 127), none, .mv (.t 9)⟩,
       ⟨(some 128), none, .mv (.t 127)⟩,
       ⟨(some 129), (some (128, true)), .mv (.t 20)⟩,
       ⟨(some 130), (some (128, true)), .bin .eql .ifc true (.t 129) (.c .inil)⟩,
       ⟨(some 131), none, .pick (.t 128) (.t 130) (.c (.bool false))⟩,
       ⟨(some 132), none, .mv (.t 131)⟩,
       ⟨(some 133), (some (132, true)), .mv (.t 19)⟩,
       ⟨(some 134), (some (132, true)), .mv (.t 12)⟩,
       ⟨(some 135), (some (132, true)), .mv (.t 13)⟩,
       ⟨(some 136), (some (132, true)), .call (.c (.fn 14)) [(.t 134), (.t 135)]⟩,
       ⟨(some 137), (some (132, true)), .mv (.t 2)⟩,
       ⟨(some 138), (some (132, true)), .call (.c (.fn 12)) [(.t 136), (.t 137)]⟩,
       ⟨(some 139), (some (132, true)), .bin .eql .other false (.t 133) (.t 138)⟩,
       ⟨(some 140), none, .pick (.t 132) (.t 139) (.c (.bool false))⟩,
       ⟨(some 8), none, .mv (.t 140)⟩])
  .ret))))))))))))))⟩
theorem c3 : compF Tryd.prog [0, 1, 2, 3, 8, 9, 10, 11, 12, 13, 14, 15, 16, 17, 18, 19, 20, 42, 47, 62, 67, 82, 96, 112] Tryd.f3 = some a3 := by kernel_rfl

/- bushel/bushellaw13.up -/
def a8 : AFun := ⟨39, [.tmp 0], (.seq (.reg [0] [⟨(some 0), none, .mv (.c (.bool false))⟩])
  (.seq (.reg [1] [⟨(some 6), none, .build [(.int .i64 0), (.int .i64 0), .snil, .snil, (.int .i64 0)] [(0, 1, (.c (.int .i64 1))), (4, 1, (.c (.int .i64 (-1))))]⟩,
       ⟨(some 1), none, .alloc [(.int .i64 0), (.int .i64 0), .snil, .snil, (.int .i64 0)]⟩,
       ⟨none, none, .store 5 (.t 1) (.t 6)⟩])
  (.seq (.reg [2, 3] [⟨(some 8), none, .mksl none [(.c (.str [97])), (.c (.str [99])), (.c (.str [100]))]⟩,
       ⟨(some 9), none, .load (some 5) (.t 1)⟩,
       ⟨(some 10), none, .load (some 5) (.t 1)⟩,
       ⟨(some 11), none, .load (some 5) (.t 1)⟩,
       ⟨(some 12), none, .mksl (some 5) [(.t 9), (.t 10), (.t 11)]⟩,
       ⟨(some 13), none, .build [(.int .i64 0), (.int .i64 0), .snil, .snil, (.int .i64 0)] [(0, 1, (.c (.int .i64 4))), (3, 1, (.t 8)), (2, 1, (.t 12)), (4, 1, (.c (.int .i64 5)))]⟩,
       ⟨(some 14), none, .call (.c (.fn 11)) [(.t 13), (.c (.str [99]))]⟩,
       ⟨(some 7), none, .mv (.t 14)⟩,
       ⟨(some 15), none, .extract (.t 7) 0⟩,
       ⟨(some 16), none, .extract (.t 7) 1⟩,
       ⟨(some 2), none, .alloc [(.int .i64 0), (.int .i64 0), (.str [])]⟩,
       ⟨none, none, .store 3 (.t 2) (.t 15)⟩,
       ⟨(some 3), none, .mv (.t 16)⟩])
  (.seq (.reg [5] [⟨(some 18), none, .load (some 5) (.t 1)⟩,
       ⟨(some 19), none, .call (.c (.fn 11)) [(.t 18), (.c (.str [99]))]⟩,
       ⟨(some 17), none, .mv (.t 19)⟩,
       ⟨(some 20), none, .extract (.t 17) 0⟩,
       ⟨(some 21), none, .extract (.t 17) 1⟩,
       ⟨(some 4), none, .alloc [(.int .i64 0), (.int .i64 0), (.str [])]⟩,
       ⟨none, none, .store 3 (.t 4) (.t 20)⟩,
       ⟨(some 5), none, .mv (.t 21)⟩])
  (.seq (.reg [0] [⟨(some 22), none, .mv (.t 3)⟩,
       ⟨(some 23), none, .bin .eql .ifc true (.t 22) (.c .inil)⟩,
       ⟨(some 24), none, .mv (.t 23)⟩,
       ⟨(some 25), (some (24, true)), .load (some 3) (.t 2)⟩,
       ⟨(some 26), (some (24, true)), .build [(.int .i64 0), (.int .i64 0), (.str [])] [(0, 1, (.c (.int .i64 1))), (1, 1, (.c (.int .i64 5))), (2, 1, (.c (.str [99])))]⟩,
       ⟨(some 27), (some (24, true)), .bin .eql (.struct [.int, .int, .str]) false (.t 25) (.t 26)⟩,
       ⟨(some 28), none, .pick (.t 24) (.t 27) (.c (.bool false))⟩,
       ⟨(some 29), none, .mv (.t 28)⟩,
       ⟨(some 30), (some (29, true)), .mv (.t 5)⟩,
       ⟨(some 31), (some (29, true)), .mkif 47 (.c (.int .i64 1))⟩,
       ⟨(some 32), (some (29, true)), .bin .eql .ifc false (.t 30) (.t 31)⟩,
       ⟨(some 33), none, .pick (.t 29) (.t 32) (.c (.bool false))⟩,
       ⟨(some 34), none, .mv (.t 33)⟩,
       ⟨(some 35), (some (34, true)), .build [(.int .i64 0), (.str [])] [(0, 1, (.c (.int .i64 5))), (1, 1, (.c (.str [99])))]⟩,
       ⟨(some 36), (some (34, true)), .call (.c (.fn 18)) [(.t 35)]⟩,
       ⟨(some 37), (some (34, true)), .bin .eql .other true (.t 36) (.c (.str [36, 53, 46, 99]))⟩,
       ⟨(some 38), none, .pick (.t 34) (.t 37) (.c (.bool false))⟩,
       ⟨(some 0), none, .mv (.t 38)⟩])
  .ret)))))⟩
theorem c8 : compF Tryd.prog [0, 1, 2, 3, 5] Tryd.f8 = some a8 := by kernel_rfl

/- bushel/bushelref08.Of -/
def a9 : AFun := ⟨18, [.tmp 2], (.seq (.reg [2] [⟨(some 2), none, .mv (.c .snil)⟩])
  (.seq (.reg [3] [⟨(some 3), none, .mv (.c .snil)⟩])
  (.seq (.seq (.reg [4] [⟨(some 4), none, .mv (.c (.int .i64 0))⟩])
   (.block 0 (.loop (.seq (.seq (.reg [8] [⟨(some 5), none, .mv (.t 4)⟩,
           ⟨(some 6), none, .mv (.t 0)⟩,
           ⟨(some 7), none, .len .sl (.t 6)⟩,
           ⟨(some 8), none, .bin .lss .other false (.t 5) (.t 7)⟩])
      (.cond (.t 8) .skip
      (.exit 0)))
     (.seq (.block 1 (.reg [3] [⟨(some 11), none, .mv (.t 3)⟩,
           ⟨(some 12), none, .mv (.t 0)⟩,
           ⟨(some 13), none, .mv (.t 4)⟩,
           ⟨(some 14), none, .iaddr none (.t 12) (.t 13)⟩,
           ⟨(some 15), none, .load none (.t 14)⟩,
           ⟨(some 16), none, .call (.c (.fn 34)) [(.t 11), (.t 15)]⟩,
           ⟨(some 3), none, .mv (.t 16)⟩]))
     (.reg [4] [⟨(some 9), none, .mv (.t 4)⟩,
         ⟨(some 10), none, .bin .add .other true (.t 9) (.c (.int .i64 1))⟩,
         ⟨(some 4), none, .mv (.t 10)⟩]))))))
  (.seq (.reg [2] [⟨(some 17), none, .mv (.t 3)⟩,
       ⟨(some 2), none, .mv (.t 17)⟩])
  .ret))))⟩
theorem c9 : compF Tryd.prog [0, 2, 3, 4, 8] Tryd.f9 = some a9 := by kernel_rfl

/- bushel/bushelref08.Less -/
def a10 : AFun := ⟨30, [.tmp 4], (.seq (.reg [4] [⟨(some 4), none, .mv (.c .snil)⟩])
  (.seq (.reg [5] [⟨(some 5), none, .mv (.c .snil)⟩])
  (.seq (.seq (.reg [6] [⟨(some 6), none, .mv (.c (.int .i64 0))⟩])
   (.block 0 (.loop (.seq (.seq (.reg [11] [⟨(some 8), none, .mv (.t 6)⟩,
           ⟨(some 9), none, .mv (.t 0)⟩,
           ⟨(some 10), none, .len .sl (.t 9)⟩,
           ⟨(some 11), none, .bin .lss .other false (.t 8) (.t 10)⟩])
      (.cond (.t 11) .skip
      (.exit 0)))
     (.seq (.block 1 (.seq (.reg [7] [⟨(some 14), none, .mv (.t 1)⟩,
            ⟨(some 15), none, .mv (.t 0)⟩,
            ⟨(some 16), none, .mv (.t 6)⟩,
            ⟨(some 17), none, .iaddr none (.t 15) (.t 16)⟩,
            ⟨(some 18), none, .load none (.t 17)⟩,
            ⟨(some 19), none, .call (.c (.fn 35)) [(.t 14), (.t 18)]⟩,
            ⟨(some 7), none, .mv (.t 19)⟩])
       (.seq (.reg [21] [⟨(some 20), none, .mv (.t 7)⟩,
            ⟨(some 21), none, .un .not (.t 20)⟩])
       (.cond (.t 21) (.reg [5] [⟨(some 22), none, .mv (.t 5)⟩,
             ⟨(some 23), none, .mv (.t 0)⟩,
             ⟨(some 24), none, .mv (.t 6)⟩,
             ⟨(some 25), none, .iaddr none (.t 23) (.t 24)⟩,
             ⟨(some 26), none, .load none (.t 25)⟩,
             ⟨(some 27), none, .mksl none [(.t 26)]⟩,
             ⟨(some 28), none, .append none 16 (.t 22) (.t 27)⟩,
             ⟨(some 5), none, .mv (.t 28)⟩])
       .skip))))
     (.reg [6] [⟨(some 12), none, .mv (.t 6)⟩,
         ⟨(some 13), none, .bin .add .other true (.t 12) (.c (.int .i64 1))⟩,
         ⟨(some 6), none, .mv (.t 13)⟩]))))))
  (.seq (.reg [4] [⟨(some 29), none, .mv (.t 5)⟩,
       ⟨(some 4), none, .mv (.t 29)⟩])
  .ret))))⟩
theorem c10 : compF Tryd.prog [0, 1, 4, 5, 6, 7, 11, 21] Tryd.f10 = some a10 := by kernel_rfl

/- bushel/evid.Of -/
def a11 : AFun := ⟨39, [.cell 4 (some 3), .tmp 5], (.seq (.reg [2, 4, 5] [⟨(some 2), none, .box (.t 0)⟩,
       ⟨(some 4), none, .alloc [(.int .i64 0), (.int .i64 0), (.str [])]⟩,
       ⟨(some 5), none, .mv (.c .inil)⟩])
  (.seq (.seq (.reg [23] [⟨(some 7), none, .faddr 0 (.t 2)⟩,
        ⟨(some 8), none, .load none (.t 7)⟩,
        ⟨(some 9), none, .bin .neq .other true (.t 8) (.c (.int .i64 4))⟩,
        ⟨(some 10), none, .mv (.t 9)⟩,
        ⟨(some 11), (some (10, true)), .faddr 0 (.t 2)⟩,
        ⟨(some 12), (some (10, true)), .load none (.t 11)⟩,
        ⟨(some 13), (some (10, true)), .bin .neq .other true (.t 12) (.c (.int .i64 5))⟩,
        ⟨(some 14), none, .pick (.t 10) (.t 13) (.c (.bool false))⟩,
        ⟨(some 15), none, .mv (.t 14)⟩,
        ⟨(some 16), (some (15, false)), .load (some 5) (.t 2)⟩,
        ⟨(some 17), (some (15, false)), .call (.c (.fn 36)) [(.t 16)]⟩,
        ⟨(some 18), (some (15, false)), .un .not (.t 17)⟩,
        ⟨(some 19), none, .pick (.t 15) (.c (.bool true)) (.t 18)⟩,
        ⟨(some 20), none, .mv (.t 19)⟩,
        ⟨(some 21), (some (20, false)), .mv (.t 1)⟩,
        ⟨(some 22), (some (20, false)), .bin .eql .other true (.t 21) (.c (.str []))⟩,
        ⟨(some 23), none, .pick (.t 20) (.c (.bool true)) (.t 22)⟩])
   (.cond (.t 23) (.seq (.reg [5] [⟨(some 24), none, .build [(.int .i64 0), (.int .i64 0), (.str [])] []⟩,
          ⟨(some 25), none, .mkif 47 (.c (.int .i64 1))⟩,
          ⟨none, none, .store 3 (.t 4) (.t 24)⟩,
          ⟨(some 5), none, .mv (.t 25)⟩])
     .ret)
   .skip))
  (.seq (.alt [6] [(⟨(some 26), none, .faddr 3 (.t 2)⟩, true),
       (⟨(some 27), none, .load none (.t 26)⟩, true),
       (⟨(some 28), none, .mv (.t 1)⟩, false),
       (⟨(some 30), none, .faddr 4 (.t 2)⟩, false),
       (⟨(some 31), none, .load none (.t 30)⟩, false)] (⟨(some 29), none, .call (.c (.fn 37)) [(.t 27), (.t 28)]⟩, false) (⟨(some 6), none, .alloc [(.int .i64 0), (.int .i64 0), (.str [])]⟩, false) [(⟨(some 32), none, .build [(.int .i64 0), (.int .i64 0), (.str [])] [(0, 1, (.t 29)), (1, 1, (.t 31))]⟩, true)] [(⟨none, none, .store 3 (.t 6) (.t 32)⟩, true)])
  (.seq (.seq (.reg [35] [⟨(some 33), none, .faddr 4 (.t 2)⟩,
        ⟨(some 34), none, .load none (.t 33)⟩,
        ⟨(some 35), none, .bin .geq .other true (.t 34) (.c (.int .i64 0))⟩])
   (.cond (.t 35) (.reg [] [⟨(some 36), none, .mv (.t 1)⟩,
         ⟨(some 37), none, .faddr 2 (.t 6)⟩,
         ⟨none, none, .store 1 (.t 37) (.t 36)⟩])
   .skip))
  (.seq (.reg [5] [⟨(some 38), none, .load (some 3) (.t 6)⟩,
       ⟨none, none, .store 3 (.t 4) (.t 38)⟩,
       ⟨(some 5), none, .mv (.c .inil)⟩])
  .ret)))))⟩
theorem c11 : compF Tryd.prog [0, 1, 2, 4, 5, 6, 23, 35] Tryd.f11 = some a11 := by kernel_rfl

/- bushel/bushelref08.Offset -/
def a12 : AFun := ⟨22, [.tmp 4], (.seq (.reg [4] [⟨(some 4), none, .mv (.c (.int .i64 0))⟩])
  (.seq (.reg [5] [⟨(some 5), none, .mv (.c (.int .i64 0))⟩])
  (.seq (.seq (.reg [6] [⟨(some 6), none, .mv (.c (.int .i64 0))⟩])
   (.block 0 (.loop (.seq (.seq (.reg [10] [⟨(some 7), none, .mv (.t 6)⟩,
           ⟨(some 8), none, .mv (.t 0)⟩,
           ⟨(some 9), none, .len .sl (.t 8)⟩,
           ⟨(some 10), none, .bin .lss .other false (.t 7) (.t 9)⟩])
      (.cond (.t 10) .skip
      (.exit 0)))
     (.seq (.block 1 (.seq (.reg [18] [⟨(some 13), none, .mv (.t 0)⟩,
            ⟨(some 14), none, .mv (.t 6)⟩,
            ⟨(some 15), none, .iaddr none (.t 13) (.t 14)⟩,
            ⟨(some 16), none, .load none (.t 15)⟩,
            ⟨(some 17), none, .mv (.t 1)⟩,
            ⟨(some 18), none, .bin .lss .other false (.t 16) (.t 17)⟩])
       (.cond (.t 18) (.reg [5] [⟨(some 19), none, .mv (.t 5)⟩,
             ⟨(some 20), none, .bin .add .other true (.t 19) (.c (.int .i64 1))⟩,
             ⟨(some 5), none, .mv (.t 20)⟩])
       .skip)))
     (.reg [6] [⟨(some 11), none, .mv (.t 6)⟩,
         ⟨(some 12), none, .bin .add .other true (.t 11) (.c (.int .i64 1))⟩,
         ⟨(some 6), none, .mv (.t 12)⟩]))))))
  (.seq (.reg [4] [⟨(some 21), none, .mv (.t 5)⟩,
       ⟨(some 4), none, .mv (.t 21)⟩])
  .ret))))⟩
theorem c12 : compF Tryd.prog [0, 1, 4, 5, 6, 10, 18] Tryd.f12 = some a12 := by kernel_rfl

/- bushel/evid.Value -/
def a13 : AFun := ⟨30, [.tmp 4, .tmp 5], (.seq (.reg [2, 4, 5] [⟨(some 2), none, .box (.t 0)⟩,
       ⟨(some 4), none, .mv (.c (.int .i64 0))⟩,
       ⟨(some 5), none, .mv (.c .inil)⟩])
  (.seq (.seq (.reg [10] [⟨(some 8), none, .faddr 1 (.t 2)⟩,
        ⟨(some 9), none, .load none (.t 8)⟩,
        ⟨(some 10), none, .bin .lss .other true (.t 9) (.c (.int .i64 0))⟩])
   (.cond (.t 10) (.seq (.reg [4, 5] [⟨(some 11), none, .faddr 0 (.t 2)⟩,
          ⟨(some 12), none, .load none (.t 11)⟩,
          ⟨(some 4), none, .mv (.t 12)⟩,
          ⟨(some 5), none, .mv (.c .inil)⟩])
     .ret)
   .skip))
  (.seq (.reg [6, 7] [⟨(some 14), none, .mv (.t 1)⟩,
       ⟨(some 15), none, .faddr 1 (.t 2)⟩,
       ⟨(some 16), none, .load none (.t 15)⟩,
       ⟨(some 17), none, .faddr 2 (.t 2)⟩,
       ⟨(some 18), none, .load none (.t 17)⟩,
       ⟨(some 19), none, .build [(.int .i64 0), (.str [])] [(0, 1, (.t 16)), (1, 1, (.t 18))]⟩,
       ⟨(some 20), none, .ext (.mget (.pair .i64) true (.int .i64 0)) [(.t 14), (.t 19)]⟩,
       ⟨(some 13), none, .mv (.t 20)⟩,
       ⟨(some 21), none, .extract (.t 13) 0⟩,
       ⟨(some 22), none, .extract (.t 13) 1⟩,
       ⟨(some 6), none, .mv (.t 21)⟩,
       ⟨(some 7), none, .mv (.t 22)⟩])
  (.seq (.seq (.reg [24] [⟨(some 23), none, .mv (.t 7)⟩,
        ⟨(some 24), none, .un .not (.t 23)⟩])
   (.cond (.t 24) (.seq (.reg [4, 5] [⟨(some 25), none, .mkif 47 (.c (.int .i64 4))⟩,
          ⟨(some 4), none, .mv (.c (.int .i64 0))⟩,
          ⟨(some 5), none, .mv (.t 25)⟩])
     .ret)
   .skip))
  (.seq (.reg [4, 5] [⟨(some 26), none, .faddr 0 (.t 2)⟩,
       ⟨(some 27), none, .load none (.t 26)⟩,
       ⟨(some 28), none, .mv (.t 6)⟩,
       ⟨(some 29), none, .bin .add .other false (.t 27) (.t 28)⟩,
       ⟨(some 4), none, .mv (.t 29)⟩,
       ⟨(some 5), none, .mv (.c .inil)⟩])
  .ret)))))⟩
theorem c13 : compF Tryd.prog [0, 1, 2, 4, 5, 6, 7, 10, 24] Tryd.f13 = some a13 := by kernel_rfl

/- bushel/bushelref08.Join -/
def a14 : AFun := ⟨11, [.tmp 4], (.seq (.reg [4] [⟨(some 4), none, .mv (.c .snil)⟩])
  (.seq (.reg [4] [⟨(some 5), none, .mksl none []⟩,
       ⟨(some 6), none, .mv (.t 0)⟩,
       ⟨(some 7), none, .append none 16 (.t 5) (.t 6)⟩,
       ⟨(some 8), none, .mv (.t 1)⟩,
       ⟨(some 9), none, .append none 16 (.t 7) (.t 8)⟩,
       ⟨(some 10), none, .call (.c (.fn 9)) [(.t 9)]⟩,
       ⟨(some 4), none, .mv (.t 10)⟩])
  .ret))⟩
theorem c14 : compF Tryd.prog [0, 1, 4] Tryd.f14 = some a14 := by kernel_rfl

/- strconv.Itoa -/
def a17 : AFun := ⟨5, [.tmp 2], (.seq (.reg [2] [⟨(some 2), none, .mv (.c (.str []))⟩])
  (.seq (.reg [2] [⟨(some 3), none, .mv (.t 0)⟩,
       ⟨(some 4), none, .call (.c (.fn 41)) [(.t 3)]⟩,
       ⟨(some 2), none, .mv (.t 4)⟩])
  .ret))⟩
theorem c17 : compF Tryd.prog [0, 2] Tryd.f17 = some a17 := by kernel_rfl

/- bushel/evid.Name -/
def a18 : AFun := ⟨11, [.tmp 2], (.seq (.reg [1, 2] [⟨(some 1), none, .box (.t 0)⟩,
       ⟨(some 2), none, .mv (.c (.str []))⟩])
  (.seq (.any [2] [(⟨(some 3), none, .faddr 0 (.t 1)⟩, true),
       (⟨(some 4), none, .load none (.t 3)⟩, true),
       (⟨(some 8), none, .faddr 1 (.t 1)⟩, false),
       (⟨(some 9), none, .load none (.t 8)⟩, false),
       (⟨(some 5), none, .call (.c (.fn 17)) [(.t 4)]⟩, false),
       (⟨(some 6), none, .bin .add .other true (.c (.str [36])) (.t 5)⟩, false),
       (⟨(some 7), none, .bin .add .other true (.t 6) (.c (.str [46]))⟩, false),
       (⟨(some 10), none, .bin .add .other false (.t 7) (.t 9)⟩, true),
       (⟨(some 2), none, .mv (.t 10)⟩, true)])
  .ret))⟩
theorem c18 : compF Tryd.prog [0, 1, 2] Tryd.f18 = some a18 := by kernel_rfl

/- bushel/bushelref08.Add -/
def a34 : AFun := ⟨30, [.tmp 4], (.seq (.reg [4] [⟨(some 4), none, .mv (.c .snil)⟩])
  (.seq (.reg [5] [⟨(some 8), none, .mv (.t 0)⟩,
       ⟨(some 9), none, .mv (.t 1)⟩,
       ⟨(some 10), none, .call (.c (.fn 35)) [(.t 8), (.t 9)]⟩,
       ⟨(some 5), none, .mv (.t 10)⟩])
  (.seq (.seq (.reg [11] [⟨(some 11), none, .mv (.t 5)⟩])
   (.cond (.t 11) (.seq (.reg [4] [⟨(some 12), none, .mv (.t 0)⟩,
          ⟨(some 4), none, .mv (.t 12)⟩])
     .ret)
   .skip))
  (.seq (.reg [6] [⟨(some 13), none, .mv (.t 0)⟩,
       ⟨(some 14), none, .mv (.t 1)⟩,
       ⟨(some 15), none, .call (.c (.fn 12)) [(.t 13), (.t 14)]⟩,
       ⟨(some 6), none, .mv (.t 15)⟩])
  (.seq (.reg [7] [⟨(some 16), none, .mksl none []⟩,
       ⟨(some 17), none, .mv (.t 0)⟩,
       ⟨(some 18), none, .mv (.t 6)⟩,
       ⟨(some 19), none, .slice (.sl none) (.t 17) none (some (.t 18)) none⟩,
       ⟨(some 20), none, .append none 16 (.t 16) (.t 19)⟩,
       ⟨(some 7), none, .mv (.t 20)⟩])
  (.seq (.reg [7] [⟨(some 21), none, .mv (.t 7)⟩,
       ⟨(some 22), none, .mv (.t 1)⟩,
       ⟨(some 23), none, .mksl none [(.t 22)]⟩,
       ⟨(some 24), none, .append none 16 (.t 21) (.t 23)⟩,
       ⟨(some 7), none, .mv (.t 24)⟩])
  (.seq (.reg [4] [⟨(some 25), none, .mv (.t 7)⟩,
       ⟨(some 26), none, .mv (.t 0)⟩,
       ⟨(some 27), none, .mv (.t 6)⟩,
       ⟨(some 28), none, .slice (.sl none) (.t 26) (some (.t 27)) none none⟩,
       ⟨(some 29), none, .append none 16 (.t 25) (.t 28)⟩,
       ⟨(some 4), none, .mv (.t 29)⟩])
  .ret)))))))⟩
theorem c34 : compF Tryd.prog [0, 1, 4, 5, 6, 7, 11] Tryd.f34 = some a34 := by kernel_rfl

/- bushel/bushelref08.Has -/
def a35 : AFun := ⟨18, [.tmp 4], (.seq (.reg [4] [⟨(some 4), none, .mv (.c (.bool false))⟩])
  (.seq (.seq (.reg [5] [⟨(some 5), none, .mv (.c (.int .i64 0))⟩])
   (.block 0 (.loop (.seq (.seq (.reg [9] [⟨(some 6), none, .mv (.t 5)⟩,
           ⟨(some 7), none, .mv (.t 0)⟩,
           ⟨(some 8), none, .len .sl (.t 7)⟩,
           ⟨(some 9), none, .bin .lss .other false (.t 6) (.t 8)⟩])
      (.cond (.t 9) .skip
      (.exit 0)))
     (.seq (.block 1 (.seq (.reg [17] [⟨(some 12), none, .mv (.t 0)⟩,
            ⟨(some 13), none, .mv (.t 5)⟩,
            ⟨(some 14), none, .iaddr none (.t 12) (.t 13)⟩,
            ⟨(some 15), none, .load none (.t 14)⟩,
            ⟨(some 16), none, .mv (.t 1)⟩,
            ⟨(some 17), none, .bin .eql .other false (.t 15) (.t 16)⟩])
       (.cond (.t 17) (.seq (.reg [4] [⟨(some 4), none, .mv (.c (.bool true))⟩])
         .ret)
       .skip)))
     (.reg [5] [⟨(some 10), none, .mv (.t 5)⟩,
         ⟨(some 11), none, .bin .add .other true (.t 10) (.c (.int .i64 1))⟩,
         ⟨(some 5), none, .mv (.t 11)⟩]))))))
  (.seq (.reg [4] [⟨(some 4), none, .mv (.c (.bool false))⟩])
  .ret)))⟩
theorem c35 : compF Tryd.prog [0, 1, 4, 5, 9, 17] Tryd.f35 = some a35 := by kernel_rfl

/- bushel/typ.May -/
def a36 : AFun := ⟨6, [.tmp 2], (.seq (.reg [1, 2] [⟨(some 1), none, .box (.t 0)⟩,
       ⟨(some 2), none, .mv (.c (.bool false))⟩])
  (.seq (.reg [3] [⟨(some 3), none, .alloc [(.int .i64 0)]⟩,
       ⟨none, none, .store 1 (.t 3) (.c (.int .i64 0))⟩])
  (.seq (.reg [2] [⟨(some 4), none, .load (some 5) (.t 1)⟩,
       ⟨(some 5), none, .call (.c (.fn 52)) [(.t 4), (.t 3)]⟩,
       ⟨(some 2), none, .mv (.t 5)⟩])
  .ret)))⟩
theorem c36 : compF Tryd.prog [0, 1, 2, 3] Tryd.f36 = some a36 := by kernel_rfl

/- bushel/label.Offset -/
def a37 : AFun := ⟨8, [.tmp 4], (.seq (.reg [4] [⟨(some 4), none, .mv (.c (.int .i64 0))⟩])
  (.seq (.reg [4] [⟨(some 5), none, .mv (.t 0)⟩,
       ⟨(some 6), none, .mv (.t 1)⟩,
       ⟨(some 7), none, .call (.c (.fn 53)) [(.t 5), (.t 6)]⟩,
       ⟨(some 4), none, .mv (.t 7)⟩])
  .ret))⟩
theorem c37 : compF Tryd.prog [0, 1, 4] Tryd.f37 = some a37 := by kernel_rfl

/- internal/strconv.Itoa -/
def a41 : AFun := ⟨5, [.tmp 2], (.seq (.reg [2] [⟨(some 2), none, .mv (.c (.str []))⟩])
  (.seq (.reg [2] [⟨(some 3), none, .mv (.t 0)⟩,
       ⟨(some 4), none, .call (.c (.fn 55)) [(.t 3), (.c (.int .i64 10))]⟩,
       ⟨(some 2), none, .mv (.t 4)⟩])
  .ret))⟩
theorem c41 : compF Tryd.prog [0, 2] Tryd.f41 = some a41 := by kernel_rfl

/- bushel/typ.fine -/
def a52 : AFun := ⟨70, [.tmp 4], (.seq (.reg [2, 3, 4] [⟨(some 2), none, .box (.t 0)⟩,
       ⟨(some 3), none, .box (.t 1)⟩,
       ⟨(some 4), none, .mv (.c (.bool false))⟩])
  (.seq (.reg [] [⟨(some 5), none, .load none (.t 3)⟩,
       ⟨(some 6), none, .nilck (.t 5)⟩,
       ⟨(some 7), none, .load none (.t 6)⟩,
       ⟨(some 8), none, .bin .add .other true (.t 7) (.c (.int .i64 1))⟩,
       ⟨(some 9), none, .nilck (.t 5)⟩,
       ⟨none, none, .store 1 (.t 9) (.t 8)⟩])
  (.seq (.block 0 (.seq (.any [10] [(⟨(some 11), none, .load none (.t 3)⟩, true),
         (⟨(some 12), none, .nilck (.t 11)⟩, true),
         (⟨(some 13), none, .load none (.t 12)⟩, true),
         (⟨(some 14), none, .bin .gtr .other true (.t 13) (.c (.int .i64 4000))⟩, true),
         (⟨(some 15), none, .mv (.t 14)⟩, true),
         (⟨(some 16), (some (15, false)), .load (some 5) (.t 2)⟩, true),
         (⟨(some 18), (some (15, false)), .faddr 2 (.t 2)⟩, false),
         (⟨(some 19), (some (15, false)), .load none (.t 18)⟩, false),
         (⟨(some 20), (some (15, false)), .len .sl (.t 19)⟩, false),
         (⟨(some 17), (some (15, false)), .call (.c (.fn 66)) [(.t 16)]⟩, false),
         (⟨(some 21), (some (15, false)), .bin .neq .other false (.t 17) (.t 20)⟩, true),
         (⟨(some 22), none, .pick (.t 15) (.c (.bool true)) (.t 21)⟩, true),
         (⟨(some 23), none, .mv (.t 22)⟩, true),
         (⟨(some 24), (some (23, false)), .faddr 1 (.t 2)⟩, true),
         (⟨(some 25), (some (23, false)), .load none (.t 24)⟩, true),
         (⟨(some 26), (some (23, false)), .bin .lss .other true (.t 25) (.c (.int .i64 0))⟩, true),
         (⟨(some 27), none, .pick (.t 23) (.c (.bool true)) (.t 26)⟩, true),
         (⟨(some 28), none, .mv (.t 27)⟩, true),
         (⟨(some 29), (some (28, false)), .faddr 1 (.t 2)⟩, true),
         (⟨(some 30), (some (28, false)), .load none (.t 29)⟩, true),
         (⟨(some 31), (some (28, false)), .bin .gtr .other true (.t 30) (.c (.int .i64 0))⟩, true),
         (⟨(some 32), (some (28, false)), .mv (.t 31)⟩, true),
         (⟨(some 33), (some (32, true)), .faddr 0 (.t 2)⟩, true),
         (⟨(some 34), (some (32, true)), .load none (.t 33)⟩, true),
         (⟨(some 35), (some (32, true)), .bin .neq .other true (.t 34) (.c (.int .i64 7))⟩, true),
         (⟨(some 36), (some (28, false)), .pick (.t 32) (.t 35) (.c (.bool false))⟩, true),
         (⟨(some 37), none, .pick (.t 28) (.c (.bool true)) (.t 36)⟩, true),
         (⟨(some 10), none, .mv (.t 37)⟩, true)])
    (.cond (.t 10) (.seq (.reg [4] [⟨(some 4), none, .mv (.c (.bool false))⟩])
      .ret)
    (.seq (.reg [38] [⟨(some 39), none, .load (some 5) (.t 2)⟩,
         ⟨(some 40), none, .call (.c (.fn 67)) [(.t 39)]⟩,
         ⟨(some 38), none, .mv (.t 40)⟩])
    (.cond (.t 38) (.seq (.reg [54] [⟨(some 41), none, .faddr 4 (.t 2)⟩,
           ⟨(some 42), none, .load none (.t 41)⟩,
           ⟨(some 43), none, .bin .lss .other true (.t 42) (.c (.int .i64 (-1)))⟩,
           ⟨(some 44), none, .mv (.t 43)⟩,
           ⟨(some 45), (some (44, false)), .faddr 3 (.t 2)⟩,
           ⟨(some 46), (some (44, false)), .load none (.t 45)⟩,
           ⟨(some 47), (some (44, false)), .call (.c (.fn 68)) [(.t 46)]⟩,
           ⟨(some 48), (some (44, false)), .un .not (.t 47)⟩,
           ⟨(some 49), none, .pick (.t 44) (.c (.bool true)) (.t 48)⟩,
           ⟨(some 50), none, .mv (.t 49)⟩,
           ⟨(some 51), (some (50, false)), .faddr 3 (.t 2)⟩,
           ⟨(some 52), (some (50, false)), .load none (.t 51)⟩,
           ⟨(some 53), (some (50, false)), .call (.c (.fn 69)) [(.t 52), (.c (.str []))]⟩,
           ⟨(some 54), none, .pick (.t 50) (.c (.bool true)) (.t 53)⟩])
      (.cond (.t 54) (.seq (.reg [4] [⟨(some 4), none, .mv (.c (.bool false))⟩])
        .ret)
      .skip))
    (.seq (.reg [55] [⟨(some 56), none, .faddr 4 (.t 2)⟩,
         ⟨(some 57), none, .load none (.t 56)⟩,
         ⟨(some 58), none, .bin .neq .other true (.t 57) (.c (.int .i64 (-1)))⟩,
         ⟨(some 59), none, .mv (.t 58)⟩,
         ⟨(some 60), (some (59, false)), .faddr 3 (.t 2)⟩,
         ⟨(some 61), (some (59, false)), .load none (.t 60)⟩,
         ⟨(some 62), (some (59, false)), .len .sl (.t 61)⟩,
         ⟨(some 63), (some (59, false)), .bin .gtr .other true (.t 62) (.c (.int .i64 0))⟩,
         ⟨(some 64), none, .pick (.t 59) (.c (.bool true)) (.t 63)⟩,
         ⟨(some 55), none, .mv (.t 64)⟩])
    (.cond (.t 55) (.seq (.reg [4] [⟨(some 4), none, .mv (.c (.bool false))⟩])
      .ret)
    .skip)))))))
  (.seq (.reg [4] [⟨(some 65), none, .faddr 2 (.t 2)⟩,
       ⟨(some 66), none, .load none (.t 65)⟩,
       ⟨(some 67), none, .mkfn 71 [(.t 3)]⟩,
       ⟨(some 68), none, .call (.c (.fn 70)) [(.t 66), (.t 67)]⟩,
       ⟨(some 69), none, .un .not (.t 68)⟩,
       ⟨(some 4), none, .mv (.t 69)⟩])
  .ret))))⟩
theorem c52 : compF Tryd.prog [0, 1, 2, 3, 4, 10, 38, 54, 55] Tryd.f52 = some a52 := by kernel_rfl

/- sort.SearchStrings -/
def a53 : AFun := ⟨9, [.tmp 4], (.seq (.reg [2, 3, 4] [⟨(some 2), none, .box (.t 0)⟩,
       ⟨(some 3), none, .box (.t 1)⟩,
       ⟨(some 4), none, .mv (.c (.int .i64 0))⟩])
  (.seq (.reg [4] [⟨(some 5), none, .load none (.t 2)⟩,
       ⟨(some 6), none, .len .sl (.t 5)⟩,
       ⟨(some 7), none, .mkfn 73 [(.t 2), (.t 3)]⟩,
       ⟨(some 8), none, .call (.c (.fn 72)) [(.t 6), (.t 7)]⟩,
       ⟨(some 4), none, .mv (.t 8)⟩])
  .ret))⟩
theorem c53 : compF Tryd.prog [0, 1, 2, 3, 4] Tryd.f53 = some a53 := by kernel_rfl

/- internal/strconv.FormatInt -/
def a55 : AFun := ⟨54, [.tmp 4], (.seq (.reg [4] [⟨(some 4), none, .mv (.c (.str []))⟩])
  (.seq (.seq (.reg [11] [⟨(some 10), none, .mv (.t 1)⟩,
        ⟨(some 11), none, .bin .eql .other true (.t 10) (.c (.int .i64 10))⟩])
   (.cond (.t 11) (.seq (.seq (.reg [17] [⟨(some 12), none, .mv (.t 0)⟩,
           ⟨(some 13), none, .bin .leq .other true (.c (.int .i64 0)) (.t 12)⟩,
           ⟨(some 14), none, .mv (.t 13)⟩,
           ⟨(some 15), (some (14, true)), .mv (.t 0)⟩,
           ⟨(some 16), (some (14, true)), .bin .lss .other true (.t 15) (.c (.int .i64 100))⟩,
           ⟨(some 17), none, .pick (.t 14) (.t 16) (.c (.bool false))⟩])
      (.cond (.t 17) (.seq (.reg [4] [⟨(some 18), none, .mv (.t 0)⟩,
             ⟨(some 19), none, .call (.c (.fn 74)) [(.t 18)]⟩,
             ⟨(some 4), none, .mv (.t 19)⟩])
        .ret)
      .skip))
     (.seq (.reg [5] [⟨(some 5), none, .alloc [(.int .u8 0), (.int .u8 0), (.int .u8 0), (.int .u8 0), (.int .u8 0), (.int .u8 0), (.int .u8 0), (.int .u8 0), (.int .u8 0), (.int .u8 0), (.int .u8 0), (.int .u8 0), (.int .u8 0), (.int .u8 0), (.int .u8 0), (.int .u8 0), (.int .u8 0), (.int .u8 0), (.int .u8 0), (.int .u8 0), (.int .u8 0), (.int .u8 0), (.int .u8 0), (.int .u8 0)]⟩])
     (.seq (.reg [6] [⟨(some 20), none, .mv (.t 0)⟩,
          ⟨(some 21), none, .conv (.toInt .u64) (.t 20)⟩,
          ⟨(some 6), none, .mv (.t 21)⟩])
     (.seq (.seq (.reg [23] [⟨(some 22), none, .mv (.t 0)⟩,
           ⟨(some 23), none, .bin .lss .other true (.t 22) (.c (.int .i64 0))⟩])
      (.cond (.t 23) (.reg [6] [⟨(some 24), none, .mv (.t 6)⟩,
            ⟨(some 25), none, .un .neg (.t 24)⟩,
            ⟨(some 6), none, .mv (.t 25)⟩])
      .skip))
     (.seq (.reg [7] [⟨(some 26), none, .mv (.t 6)⟩,
          ⟨(some 27), none, .call (.c (.fn 75)) [(.t 26)]⟩,
          ⟨(some 7), none, .mv (.t 27)⟩])
     (.seq (.reg [] [⟨(some 28), none, .mv (.t 7)⟩,
          ⟨(some 29), none, .bin .add .other true (.c (.int .i64 1)) (.t 28)⟩,
          ⟨(some 30), none, .ext .stop []⟩,
          ⟨(some 31), none, .mv (.t 6)⟩,
          ⟨(some 32), none, .call (.c (.fn 76)) [(.t 30), (.t 31)]⟩])
     (.seq (.seq (.reg [34] [⟨(some 33), none, .mv (.t 0)⟩,
           ⟨(some 34), none, .bin .lss .other true (.t 33) (.c (.int .i64 0))⟩])
      (.cond (.t 34) (.seq (.reg [] [⟨(some 35), none, .ext .stop []⟩,
             ⟨none, none, .store 1 (.t 35) (.c (.int .u8 45))⟩])
        (.seq (.reg [4] [⟨(some 36), none, .mv (.t 7)⟩,
             ⟨(some 37), none, .bin .add .other true (.c (.int .i64 1)) (.t 36)⟩,
             ⟨(some 38), none, .ext .stop []⟩,
             ⟨(some 39), none, .conv .ofBytes (.t 38)⟩,
             ⟨(some 4), none, .mv (.t 39)⟩])
        .ret))
      .skip))
     (.seq (.reg [4] [⟨(some 40), none, .mv (.t 7)⟩,
          ⟨(some 41), none, .bin .add .other true (.c (.int .i64 1)) (.t 40)⟩,
          ⟨(some 42), none, .ext .stop []⟩,
          ⟨(some 43), none, .conv .ofBytes (.t 42)⟩,
          ⟨(some 4), none, .mv (.t 43)⟩])
     .ret))))))))
   .skip))
  (.seq (.reg [9] [⟨(some 45), none, .mv (.t 0)⟩,
       ⟨(some 46), none, .conv (.toInt .u64) (.t 45)⟩,
       ⟨(some 47), none, .mv (.t 1)⟩,
       ⟨(some 48), none, .mv (.t 0)⟩,
       ⟨(some 49), none, .bin .lss .other true (.t 48) (.c (.int .i64 0))⟩,
       ⟨(some 50), none, .call (.c (.fn 77)) [(.c .snil), (.t 46), (.t 47), (.t 49), (.c (.bool false))]⟩,
       ⟨(some 44), none, .mv (.t 50)⟩,
       ⟨(some 51), none, .extract (.t 44) 0⟩,
       ⟨(some 52), none, .extract (.t 44) 1⟩,
       ⟨(some 8), none, .mv (.t 51)⟩,
       ⟨(some 9), none, .mv (.t 52)⟩])
  (.seq (.reg [4] [⟨(some 53), none, .mv (.t 9)⟩,
       ⟨(some 4), none, .mv (.t 53)⟩])
  .ret))))⟩
theorem c55 : compF Tryd.prog [0, 1, 4, 5, 6, 7, 9, 11, 17, 23, 34] Tryd.f55 = some a55 := by kernel_rfl

/- bushel/typ.parts -/
def a66 : AFun := ⟨19, [.tmp 2], (.seq (.reg [1, 2] [⟨(some 1), none, .box (.t 0)⟩,
       ⟨(some 2), none, .mv (.c (.int .i64 0))⟩])
  (.seq (.seq (.reg [4] [⟨(some 3), none, .faddr 0 (.t 1)⟩,
        ⟨(some 4), none, .load none (.t 3)⟩])
   (.block 0 (.seq (.seq (.reg [5] [⟨(some 6), none, .bin .eql .other true (.t 4) (.c (.int .i64 1))⟩,
          ⟨(some 5), none, .mv (.t 6)⟩])
     (.cond (.t 5) .skip
     (.seq (.reg [5] [⟨(some 7), none, .bin .eql .other true (.t 4) (.c (.int .i64 2))⟩,
          ⟨(some 5), none, .mv (.t 7)⟩])
     (.cond (.t 5) .skip
     (.reg [5] [⟨(some 8), none, .bin .eql .other true (.t 4) (.c (.int .i64 7))⟩,
         ⟨(some 5), none, .mv (.t 8)⟩])))))
    (.cond (.t 5) (.seq (.reg [2] [⟨(some 2), none, .mv (.c (.int .i64 0))⟩])
      .ret)
    (.seq (.reg [9] [⟨(some 10), none, .bin .eql .other true (.t 4) (.c (.int .i64 6))⟩,
         ⟨(some 9), none, .mv (.t 10)⟩])
    (.cond (.t 9) (.seq (.reg [2] [⟨(some 2), none, .mv (.c (.int .i64 1))⟩])
      .ret)
    (.seq (.reg [11] [⟨(some 12), none, .bin .eql .other true (.t 4) (.c (.int .i64 3))⟩,
         ⟨(some 11), none, .mv (.t 12)⟩])
    (.cond (.t 11) (.seq (.reg [2] [⟨(some 2), none, .mv (.c (.int .i64 2))⟩])
      .ret)
    (.seq (.seq (.reg [13] [⟨(some 14), none, .bin .eql .other true (.t 4) (.c (.int .i64 4))⟩,
          ⟨(some 13), none, .mv (.t 14)⟩])
     (.cond (.t 13) .skip
     (.reg [13] [⟨(some 15), none, .bin .eql .other true (.t 4) (.c (.int .i64 5))⟩,
         ⟨(some 13), none, .mv (.t 15)⟩])))
    (.cond (.t 13) (.seq (.reg [2] [⟨(some 16), none, .faddr 3 (.t 1)⟩,
           ⟨(some 17), none, .load none (.t 16)⟩,
           ⟨(some 18), none, .len .sl (.t 17)⟩,
           ⟨(some 2), none, .mv (.t 18)⟩])
      .ret)
    .skip))))))))))
  (.seq (.reg [2] [⟨(some 2), none, .mv (.c (.int .i64 (-1)))⟩])
  .ret)))⟩
theorem c66 : compF Tryd.prog [0, 1, 2, 4, 5, 9, 11, 13] Tryd.f66 = some a66 := by kernel_rfl

/- bushel/typ.isRow -/
def a67 : AFun := ⟨11, [.tmp 2], (.seq (.reg [1, 2] [⟨(some 1), none, .box (.t 0)⟩,
       ⟨(some 2), none, .mv (.c (.bool false))⟩])
  (.seq (.reg [2] [⟨(some 3), none, .faddr 0 (.t 1)⟩,
       ⟨(some 4), none, .load none (.t 3)⟩,
       ⟨(some 5), none, .bin .eql .other true (.t 4) (.c (.int .i64 4))⟩,
       ⟨(some 6), none, .mv (.t 5)⟩,
       ⟨(some 7), (some (6, false)), .faddr 0 (.t 1)⟩,
       ⟨(some 8), (some (6, false)), .load none (.t 7)⟩,
       ⟨(some 9), (some (6, false)), .bin .eql .other true (.t 8) (.c (.int .i64 5))⟩,
       ⟨(some 10), none, .pick (.t 6) (.c (.bool true)) (.t 9)⟩,
       ⟨(some 2), none, .mv (.t 10)⟩])
  .ret))⟩
theorem c67 : compF Tryd.prog [0, 1, 2] Tryd.f67 = some a67 := by kernel_rfl

/- bushel/label.Is -/
def a68 : AFun := ⟨24, [.tmp 2], (.seq (.reg [2] [⟨(some 2), none, .mv (.c (.bool false))⟩])
  (.seq (.seq (.reg [5, 6] [⟨(some 4), none, .mv (.t 0)⟩,
        ⟨(some 5), none, .len .sl (.t 4)⟩,
        ⟨(some 6), none, .mv (.c (.int .i64 0))⟩])
   (.block 0 (.loop (.seq (.reg [7] [⟨(some 7), none, .bin .lss .other false (.t 6) (.t 5)⟩])
     (.seq (.cond (.t 7) .skip
      (.exit 0))
     (.seq (.block 1 (.seq (.reg [3] [⟨(some 8), none, .mv (.t 6)⟩,
            ⟨(some 3), none, .mv (.t 8)⟩])
       (.seq (.any [22] [(⟨(some 9), none, .mv (.t 3)⟩, true),
            (⟨(some 10), none, .bin .gtr .other true (.t 9) (.c (.int .i64 0))⟩, true),
            (⟨(some 11), none, .mv (.t 10)⟩, true),
            (⟨(some 12), (some (11, true)), .mv (.t 0)⟩, true),
            (⟨(some 13), (some (11, true)), .mv (.t 3)⟩, false),
            (⟨(some 14), (some (11, true)), .bin .sub .other true (.t 13) (.c (.int .i64 1))⟩, false),
            (⟨(some 15), (some (11, true)), .iaddr none (.t 12) (.t 14)⟩, true),
            (⟨(some 16), (some (11, true)), .load none (.t 15)⟩, true),
            (⟨(some 17), (some (11, true)), .mv (.t 0)⟩, false),
            (⟨(some 18), (some (11, true)), .mv (.t 3)⟩, false),
            (⟨(some 19), (some (11, true)), .iaddr none (.t 17) (.t 18)⟩, false),
            (⟨(some 20), (some (11, true)), .load none (.t 19)⟩, false),
            (⟨(some 21), (some (11, true)), .bin .geq .other false (.t 16) (.t 20)⟩, true),
            (⟨(some 22), none, .pick (.t 11) (.t 21) (.c (.bool false))⟩, true)])
       (.cond (.t 22) (.seq (.reg [2] [⟨(some 2), none, .mv (.c (.bool false))⟩])
         .ret)
       .skip))))
     (.reg [6] [⟨(some 23), none, .bin .add .other true (.t 6) (.c (.int .i64 1))⟩,
         ⟨(some 6), none, .mv (.t 23)⟩])))))))
  (.seq (.reg [2] [⟨(some 2), none, .mv (.c (.bool true))⟩])
  .ret)))⟩
theorem c68 : compF Tryd.prog [0, 2, 3, 5, 6, 7, 22] Tryd.f68 = some a68 := by kernel_rfl

/- slices.Contains[[]string,string] -/
def a69 : AFun := ⟨9, [.tmp 4], (.seq (.reg [4] [⟨(some 4), none, .mv (.c (.bool false))⟩])
  (.seq (.reg [4] [⟨(some 5), none, .mv (.t 0)⟩,
       ⟨(some 6), none, .mv (.t 1)⟩,
       ⟨(some 7), none, .call (.c (.fn 85)) [(.t 5), (.t 6)]⟩,
       ⟨(some 8), none, .bin .geq .other true (.t 7) (.c (.int .i64 0))⟩,
       ⟨(some 4), none, .mv (.t 8)⟩])
  .ret))⟩
theorem c69 : compF Tryd.prog [0, 1, 4] Tryd.f69 = some a69 := by kernel_rfl

/- slices.ContainsFunc[[]bushel/api.Type,bushel/api.Type] -/
def a70 : AFun := ⟨9, [.tmp 4], (.seq (.reg [4] [⟨(some 4), none, .mv (.c (.bool false))⟩])
  (.seq (.reg [4] [⟨(some 5), none, .mv (.t 0)⟩,
       ⟨(some 6), none, .mv (.t 1)⟩,
       ⟨(some 7), none, .call (.c (.fn 86)) [(.t 5), (.t 6)]⟩,
       ⟨(some 8), none, .bin .geq .other true (.t 7) (.c (.int .i64 0))⟩,
       ⟨(some 4), none, .mv (.t 8)⟩])
  .ret))⟩
theorem c70 : compF Tryd.prog [0, 1, 4] Tryd.f70 = some a70 := by kernel_rfl

/- bushel/typ.fine$1 -/
def a71 : AFun := ⟨8, [.tmp 3], (.seq (.reg [2, 3] [⟨(some 2), none, .box (.t 0)⟩,
       ⟨(some 3), none, .mv (.c (.bool false))⟩])
  (.seq (.reg [3] [⟨(some 4), none, .load (some 5) (.t 2)⟩,
       ⟨(some 5), none, .load none (.t 1)⟩,
       ⟨(some 6), none, .call (.c (.fn 52)) [(.t 4), (.t 5)]⟩,
       ⟨(some 7), none, .un .not (.t 6)⟩,
       ⟨(some 3), none, .mv (.t 7)⟩])
  .ret))⟩
theorem c71 : compF Tryd.prog [0, 1, 2, 3] Tryd.f71 = some a71 := by kernel_rfl

/- sort.Search -/
def a72 : AFun := ⟨26, [.tmp 4], (.seq (.reg [4] [⟨(some 4), none, .mv (.c (.int .i64 0))⟩])
  (.seq (.reg [5, 6] [⟨(some 8), none, .mv (.t 0)⟩,
       ⟨(some 5), none, .mv (.c (.int .i64 0))⟩,
       ⟨(some 6), none, .mv (.t 8)⟩])
  (.seq (.block 0 (.loop (.seq (.seq (.reg [11] [⟨(some 9), none, .mv (.t 5)⟩,
           ⟨(some 10), none, .mv (.t 6)⟩,
           ⟨(some 11), none, .bin .lss .other false (.t 9) (.t 10)⟩])
      (.cond (.t 11) .skip
      (.exit 0)))
     (.block 1 (.seq (.reg [7] [⟨(some 12), none, .mv (.t 5)⟩,
           ⟨(some 13), none, .mv (.t 6)⟩,
           ⟨(some 14), none, .bin .add .other false (.t 12) (.t 13)⟩,
           ⟨(some 15), none, .conv (.toInt .u64) (.t 14)⟩,
           ⟨(some 16), none, .bin .shr .other true (.t 15) (.c (.int .u64 1))⟩,
           ⟨(some 17), none, .conv (.toInt .i64) (.t 16)⟩,
           ⟨(some 7), none, .mv (.t 17)⟩])
      (.seq (.reg [21] [⟨(some 18), none, .mv (.t 1)⟩,
           ⟨(some 19), none, .mv (.t 7)⟩,
           ⟨(some 20), none, .call (.t 18) [(.t 19)]⟩,
           ⟨(some 21), none, .un .not (.t 20)⟩])
      (.cond (.t 21) (.reg [5] [⟨(some 22), none, .mv (.t 7)⟩,
            ⟨(some 23), none, .bin .add .other true (.t 22) (.c (.int .i64 1))⟩,
            ⟨(some 5), none, .mv (.t 23)⟩])
      (.reg [6] [⟨(some 24), none, .mv (.t 7)⟩,
          ⟨(some 6), none, .mv (.t 24)⟩]))))))))
  (.seq (.reg [4] [⟨(some 25), none, .mv (.t 5)⟩,
       ⟨(some 4), none, .mv (.t 25)⟩])
  .ret))))⟩
theorem c72 : compF Tryd.prog [0, 1, 4, 5, 6, 7, 11, 21] Tryd.f72 = some a72 := by kernel_rfl

/- sort.SearchStrings$1 -/
def a73 : AFun := ⟨11, [.tmp 4], (.seq (.reg [4] [⟨(some 4), none, .mv (.c (.bool false))⟩])
  (.seq (.any [4] [(⟨(some 5), none, .load none (.t 1)⟩, true),
       (⟨(some 6), none, .mv (.t 0)⟩, false),
       (⟨(some 7), none, .iaddr none (.t 5) (.t 6)⟩, true),
       (⟨(some 8), none, .load none (.t 7)⟩, true),
       (⟨(some 9), none, .load none (.t 2)⟩, false),
       (⟨(some 10), none, .bin .geq .other false (.t 8) (.t 9)⟩, true),
       (⟨(some 4), none, .mv (.t 10)⟩, true)])
  .ret))⟩
theorem c73 : compF Tryd.prog [0, 1, 2, 4] Tryd.f73 = some a73 := by kernel_rfl

/- internal/strconv.small -/
def a74 : AFun := ⟨15, [.tmp 2], (.seq (.reg [2] [⟨(some 2), none, .mv (.c (.str []))⟩])
  (.seq (.seq (.reg [4] [⟨(some 3), none, .mv (.t 0)⟩,
        ⟨(some 4), none, .bin .lss .other true (.t 3) (.c (.int .i64 10))⟩])
   (.cond (.t 4) (.seq (.reg [2] [⟨(some 5), none, .mv (.t 0)⟩,
          ⟨(some 6), none, .mv (.t 0)⟩,
          ⟨(some 7), none, .bin .add .other true (.t 6) (.c (.int .i64 1))⟩,
          ⟨(some 8), none, .slice .str (.c (.str [48, 49, 50, 51, 52, 53, 54, 55, 56, 57, 97, 98, 99, 100, 101, 102, 103, 104, 105, 106, 107, 108, 109, 110, 111, 112, 113, 114, 115, 116, 117, 118, 119, 120, 121, 122])) (some (.t 5)) (some (.t 7)) none⟩,
          ⟨(some 2), none, .mv (.t 8)⟩])
     .ret)
   .skip))
  (.seq (.reg [2] [⟨(some 9), none, .mv (.t 0)⟩,
       ⟨(some 10), none, .bin .mul .other true (.t 9) (.c (.int .i64 2))⟩,
       ⟨(some 11), none, .mv (.t 0)⟩,
       ⟨(some 12), none, .bin .mul .other true (.t 11) (.c (.int .i64 2))⟩,
       ⟨(some 13), none, .bin .add .other true (.t 12) (.c (.int .i64 2))⟩,
       ⟨(some 14), none, .slice .str (.c (.str [48, 48, 48, 49, 48, 50, 48, 51, 48, 52, 48, 53, 48, 54, 48, 55, 48, 56, 48, 57, 49, 48, 49, 49, 49, 50, 49, 51, 49, 52, 49, 53, 49, 54, 49, 55, 49, 56, 49, 57, 50, 48, 50, 49, 50, 50, 50, 51, 50, 52, 50, 53, 50, 54, 50, 55, 50, 56, 50, 57, 51, 48, 51, 49, 51, 50, 51, 51, 51, 52, 51, 53, 51, 54, 51, 55, 51, 56, 51, 57, 52, 48, 52, 49, 52, 50, 52, 51, 52, 52, 52, 53, 52, 54, 52, 55, 52, 56, 52, 57, 53, 48, 53, 49, 53, 50, 53, 51, 53, 52, 53, 53, 53, 54, 53, 55, 53, 56, 53, 57, 54, 48, 54, 49, 54, 50, 54, 51, 54, 52, 54, 53, 54, 54, 54, 55, 54, 56, 54, 57, 55, 48, 55, 49, 55, 50, 55, 51, 55, 52, 55, 53, 55, 54, 55, 55, 55, 56, 55, 57, 56, 48, 56, 49, 56, 50, 56, 51, 56, 52, 56, 53, 56, 54, 56, 55, 56, 56, 56, 57, 57, 48, 57, 49, 57, 50, 57, 51, 57, 52, 57, 53, 57, 54, 57, 55, 57, 56, 57, 57])) (some (.t 10)) (some (.t 13)) none⟩,
       ⟨(some 2), none, .mv (.t 14)⟩])
  .ret)))⟩
theorem c74 : compF Tryd.prog [0, 2, 4] Tryd.f74 = some a74 := by kernel_rfl

/- slices.Index[[]string,string] -/
def a85 : AFun := ⟨19, [.tmp 4], (.seq (.reg [4] [⟨(some 4), none, .mv (.c (.int .i64 0))⟩])
  (.seq (.seq (.reg [7, 8] [⟨(some 6), none, .mv (.t 0)⟩,
        ⟨(some 7), none, .len .sl (.t 6)⟩,
        ⟨(some 8), none, .mv (.c (.int .i64 0))⟩])
   (.block 0 (.loop (.seq (.reg [9] [⟨(some 9), none, .bin .lss .other false (.t 8) (.t 7)⟩])
     (.seq (.cond (.t 9) .skip
      (.exit 0))
     (.seq (.block 1 (.seq (.reg [5] [⟨(some 10), none, .mv (.t 8)⟩,
            ⟨(some 5), none, .mv (.t 10)⟩])
       (.seq (.reg [16] [⟨(some 11), none, .mv (.t 1)⟩,
            ⟨(some 12), none, .mv (.t 0)⟩,
            ⟨(some 13), none, .mv (.t 5)⟩,
            ⟨(some 14), none, .iaddr none (.t 12) (.t 13)⟩,
            ⟨(some 15), none, .load none (.t 14)⟩,
            ⟨(some 16), none, .bin .eql .other false (.t 11) (.t 15)⟩])
       (.cond (.t 16) (.seq (.reg [4] [⟨(some 17), none, .mv (.t 5)⟩,
              ⟨(some 4), none, .mv (.t 17)⟩])
         .ret)
       .skip))))
     (.reg [8] [⟨(some 18), none, .bin .add .other true (.t 8) (.c (.int .i64 1))⟩,
         ⟨(some 8), none, .mv (.t 18)⟩])))))))
  (.seq (.reg [4] [⟨(some 4), none, .mv (.c (.int .i64 (-1)))⟩])
  .ret)))⟩
theorem c85 : compF Tryd.prog [0, 1, 4, 5, 7, 8, 9, 16] Tryd.f85 = some a85 := by kernel_rfl

/- slices.IndexFunc[[]bushel/api.Type,bushel/api.Type] -/
def a86 : AFun := ⟨19, [.tmp 4], (.seq (.reg [4] [⟨(some 4), none, .mv (.c (.int .i64 0))⟩])
  (.seq (.seq (.reg [7, 8] [⟨(some 6), none, .mv (.t 0)⟩,
        ⟨(some 7), none, .len .sl (.t 6)⟩,
        ⟨(some 8), none, .mv (.c (.int .i64 0))⟩])
   (.block 0 (.loop (.seq (.reg [9] [⟨(some 9), none, .bin .lss .other false (.t 8) (.t 7)⟩])
     (.seq (.cond (.t 9) .skip
      (.exit 0))
     (.seq (.block 1 (.seq (.reg [5] [⟨(some 10), none, .mv (.t 8)⟩,
            ⟨(some 5), none, .mv (.t 10)⟩])
       (.seq (.reg [16] [⟨(some 11), none, .mv (.t 1)⟩,
            ⟨(some 12), none, .mv (.t 0)⟩,
            ⟨(some 13), none, .mv (.t 5)⟩,
            ⟨(some 14), none, .iaddr (some 5) (.t 12) (.t 13)⟩,
            ⟨(some 15), none, .load (some 5) (.t 14)⟩,
            ⟨(some 16), none, .call (.t 11) [(.t 15)]⟩])
       (.cond (.t 16) (.seq (.reg [4] [⟨(some 17), none, .mv (.t 5)⟩,
              ⟨(some 4), none, .mv (.t 17)⟩])
         .ret)
       .skip))))
     (.reg [8] [⟨(some 18), none, .bin .add .other true (.t 8) (.c (.int .i64 1))⟩,
         ⟨(some 8), none, .mv (.t 18)⟩])))))))
  (.seq (.reg [4] [⟨(some 4), none, .mv (.c (.int .i64 (-1)))⟩])
  .ret)))⟩
theorem c86 : compF Tryd.prog [0, 1, 4, 5, 7, 8, 9, 16] Tryd.f86 = some a86 := by kernel_rfl

end Go.Proofs.YtppdghfpbliaeaaDoor
