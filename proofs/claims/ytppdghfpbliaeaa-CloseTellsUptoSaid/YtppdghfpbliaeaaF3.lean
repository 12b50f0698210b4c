/-
  The bodies of functions, in the small language: printed by program, proved by the kernel's computing. (Own work.)
-/
import Derived.Test.YtppdghfpbliaeaaAbsU
import Derived.Test.YtppdghfpbliaeaaChecked
namespace Go.Proofs.Ytppdghfpbliaeaa
open Go Go.Abs

/- bushel/bushellaw18.CloseTells -/
def a3 : AFun := ⟨96, [.tmp 2], (.seq (.reg [1, 2] [⟨(some 1), none, .box (.t 0)⟩,
       ⟨(some 2), none, .mv (.c (.bool false))⟩])
  (.seq (.reg [3] [⟨(some 10), none, .call (.c (.fn 7)) []⟩,
       ⟨(some 3), none, .mv (.t 10)⟩])
  (.seq (.reg [4] [⟨(some 11), none, .load (some 6) (.t 1)⟩,
       ⟨(some 12), none, .call (.c (.fn 8)) [(.t 11)]⟩,
       ⟨(some 4), none, .mv (.t 12)⟩])
  (.seq (.seq (.reg [14] [⟨(some 13), none, .mv (.t 4)⟩,
        ⟨(some 14), none, .un .not (.t 13)⟩])
   (.cond (.t 14) (.seq (.reg [2] [⟨(some 15), none, .mv (.t 3)⟩,
          ⟨(some 2), none, .mv (.t 15)⟩])
     .ret)
   .skip))
  (.seq (.reg [5, 6] [⟨(some 17), none, .load (some 6) (.t 1)⟩,
       ⟨(some 18), none, .call (.c (.fn 9)) [(.t 17)]⟩,
       ⟨(some 16), none, .mv (.t 18)⟩,
       ⟨(some 19), none, .extract (.t 16) 0⟩,
       ⟨(some 20), none, .extract (.t 16) 1⟩,
       ⟨(some 5), none, .mv (.t 19)⟩,
       ⟨(some 6), none, .mv (.t 20)⟩])
  (.seq (.reg [7, 8] [⟨(some 22), none, .load (some 6) (.t 1)⟩,
       ⟨(some 23), none, .call (.c (.fn 10)) [(.t 22)]⟩,
       ⟨(some 21), none, .mv (.t 23)⟩,
       ⟨(some 24), none, .extract (.t 21) 0⟩,
       ⟨(some 25), none, .extract (.t 21) 1⟩,
       ⟨(some 7), none, .mv (.t 24)⟩,
       ⟨(some 8), none, .mv (.t 25)⟩])
  (.seq (.seq (.reg [36] [⟨(some 26), none, .mv (.t 6)⟩,
        ⟨(some 27), none, .call (.c (.fn 11)) [(.t 26)]⟩,
        ⟨(some 28), none, .mv (.t 8)⟩,
        ⟨(some 29), none, .bin .neq .other false (.t 27) (.t 28)⟩,
        ⟨(some 30), none, .mv (.t 29)⟩,
        ⟨(some 31), (some (30, false)), .mv (.t 5)⟩,
        ⟨(some 32), (some (30, false)), .len .sl (.t 31)⟩,
        ⟨(some 33), (some (30, false)), .mv (.t 7)⟩,
        ⟨(some 34), (some (30, false)), .len .sl (.t 33)⟩,
        ⟨(some 35), (some (30, false)), .bin .neq .other false (.t 32) (.t 34)⟩,
        ⟨(some 36), none, .pick (.t 30) (.c (.bool true)) (.t 35)⟩])
   (.cond (.t 36) (.seq (.reg [2] [⟨(some 2), none, .mv (.c (.bool false))⟩])
     .ret)
   .skip))
  (.seq (.seq (.reg [9] [⟨(some 9), none, .mv (.c (.int .i64 0))⟩])
   (.block 0 (.loop (.seq (.seq (.reg [40] [⟨(some 37), none, .mv (.t 9)⟩,
           ⟨(some 38), none, .mv (.t 5)⟩,
           ⟨(some 39), none, .len .sl (.t 38)⟩,
           ⟨(some 40), none, .bin .lss .other false (.t 37) (.t 39)⟩])
      (.cond (.t 40) .skip
      (.exit 0)))
     (.seq (.block 1 (.seq (.any [94] [(⟨(some 43), none, .mv (.t 5)⟩, true),
            (⟨(some 44), none, .mv (.t 9)⟩, false),
            (⟨(some 45), none, .iaddr (some 9) (.t 43) (.t 44)⟩, true),
            (⟨(some 46), none, .faddr 0 (.t 45)⟩, true),
            (⟨(some 47), none, .load none (.t 46)⟩, true),
            (⟨(some 48), none, .mv (.t 7)⟩, false),
            (⟨(some 49), none, .mv (.t 9)⟩, false),
            (⟨(some 50), none, .iaddr (some 9) (.t 48) (.t 49)⟩, false),
            (⟨(some 51), none, .faddr 0 (.t 50)⟩, false),
            (⟨(some 52), none, .load none (.t 51)⟩, false),
            (⟨(some 53), none, .bin .neq .other false (.t 47) (.t 52)⟩, true),
            (⟨(some 54), none, .mv (.t 53)⟩, true),
            (⟨(some 55), (some (54, false)), .mv (.t 5)⟩, true),
            (⟨(some 56), (some (54, false)), .mv (.t 9)⟩, false),
            (⟨(some 57), (some (54, false)), .iaddr (some 9) (.t 55) (.t 56)⟩, true),
            (⟨(some 58), (some (54, false)), .faddr 1 (.t 57)⟩, true),
            (⟨(some 59), (some (54, false)), .load none (.t 58)⟩, true),
            (⟨(some 60), (some (54, false)), .mv (.t 7)⟩, false),
            (⟨(some 61), (some (54, false)), .mv (.t 9)⟩, false),
            (⟨(some 62), (some (54, false)), .iaddr (some 9) (.t 60) (.t 61)⟩, false),
            (⟨(some 63), (some (54, false)), .faddr 1 (.t 62)⟩, false),
            (⟨(some 64), (some (54, false)), .load none (.t 63)⟩, false),
            (⟨(some 65), (some (54, false)), .bin .neq .other false (.t 59) (.t 64)⟩, true),
            (⟨(some 66), none, .pick (.t 54) (.c (.bool true)) (.t 65)⟩, true),
            (⟨(some 67), none, .mv (.t 66)⟩, true),
            (⟨(some 68), (some (67, false)), .mv (.t 5)⟩, true),
            (⟨(some 69), (some (67, false)), .mv (.t 9)⟩, false),
            (⟨(some 70), (some (67, false)), .iaddr (some 9) (.t 68) (.t 69)⟩, true),
            (⟨(some 71), (some (67, false)), .faddr 2 (.t 70)⟩, true),
            (⟨(some 72), (some (67, false)), .load none (.t 71)⟩, true),
            (⟨(some 73), (some (67, false)), .mv (.t 7)⟩, false),
            (⟨(some 74), (some (67, false)), .mv (.t 9)⟩, false),
            (⟨(some 75), (some (67, false)), .iaddr (some 9) (.t 73) (.t 74)⟩, false),
            (⟨(some 76), (some (67, false)), .faddr 2 (.t 75)⟩, false),
            (⟨(some 77), (some (67, false)), .load none (.t 76)⟩, false),
            (⟨(some 78), (some (67, false)), .call (.c (.fn 12)) [(.t 72), (.t 77)]⟩, true),
            (⟨(some 79), (some (67, false)), .un .not (.t 78)⟩, true),
            (⟨(some 80), none, .pick (.t 67) (.c (.bool true)) (.t 79)⟩, true),
            (⟨(some 81), none, .mv (.t 80)⟩, true),
            (⟨(some 82), (some (81, false)), .mv (.t 5)⟩, true),
            (⟨(some 83), (some (81, false)), .mv (.t 9)⟩, false),
            (⟨(some 84), (some (81, false)), .iaddr (some 9) (.t 82) (.t 83)⟩, true),
            (⟨(some 85), (some (81, false)), .faddr 3 (.t 84)⟩, true),
            (⟨(some 86), (some (81, false)), .load (some 6) (.t 85)⟩, true),
            (⟨(some 87), (some (81, false)), .mv (.t 7)⟩, false),
            (⟨(some 88), (some (81, false)), .mv (.t 9)⟩, false),
            (⟨(some 89), (some (81, false)), .iaddr (some 9) (.t 87) (.t 88)⟩, false),
            (⟨(some 90), (some (81, false)), .faddr 3 (.t 89)⟩, false),
            (⟨(some 91), (some (81, false)), .load (some 6) (.t 90)⟩, false),
            (⟨(some 92), (some (81, false)), .call (.c (.fn 13)) [(.t 86), (.t 91)]⟩, true),
            (⟨(some 93), (some (81, false)), .un .not (.t 92)⟩, true),
            (⟨(some 94), none, .pick (.t 81) (.c (.bool true)) (.t 93)⟩, true)])
       (.cond (.t 94) (.seq (.reg [2] [⟨(some 2), none, .mv (.c (.bool false))⟩])
         .ret)
       .skip)))
     (.reg [9] [⟨(some 41), none, .mv (.t 9)⟩,
         ⟨(some 42), none, .bin .add .other true (.t 41) (.c (.int .i64 1))⟩,
         ⟨(some 9), none, .mv (.t 42)⟩]))))))
  (.seq (.reg [2] [⟨(some 95), none, .mv (.t 3)⟩,
       ⟨(some 2), none, .mv (.t 95)⟩])
  .ret)))))))))⟩
theorem c3 : compF Try.prog [0, 1, 2, 3, 4, 5, 6, 7, 8, 9, 14, 36, 40, 94] Try.f3 = some a3 := by kernel_rfl

/- bushel/bushellaw18.CloseOwn -/
def a4 : AFun := ⟨133, [.tmp 2], (.seq (.reg [1, 2] [⟨(some 1), none, .box (.t 0)⟩,
       ⟨(some 2), none, .mv (.c (.bool false))⟩])
  (.seq (.reg [3] [⟨(some 14), none, .call (.c (.fn 7)) []⟩,
       ⟨(some 3), none, .mv (.t 14)⟩])
  (.seq (.reg [4] [⟨(some 15), none, .load (some 6) (.t 1)⟩,
       ⟨(some 16), none, .call (.c (.fn 8)) [(.t 15)]⟩,
       ⟨(some 4), none, .mv (.t 16)⟩])
  (.seq (.reg [5] [⟨(some 17), none, .load (some 6) (.t 1)⟩,
       ⟨(some 18), none, .call (.c (.fn 14)) [(.t 17)]⟩,
       ⟨(some 5), none, .mv (.t 18)⟩])
  (.seq (.seq (.reg [24] [⟨(some 19), none, .mv (.t 4)⟩,
        ⟨(some 20), none, .un .not (.t 19)⟩,
        ⟨(some 21), none, .mv (.t 20)⟩,
        ⟨(some 22), (some (21, false)), .mv (.t 5)⟩,
        ⟨(some 23), (some (21, false)), .un .not (.t 22)⟩,
        ⟨(some 24), none, .pick (.t 21) (.c (.bool true)) (.t 23)⟩])
   (.cond (.t 24) (.seq (.reg [2] [⟨(some 25), none, .mv (.t 3)⟩,
          ⟨(some 2), none, .mv (.t 25)⟩])
     .ret)
   .skip))
  (.seq (.reg [6, 7] [⟨(some 27), none, .load (some 6) (.t 1)⟩,
       ⟨(some 28), none, .call (.c (.fn 9)) [(.t 27)]⟩,
       ⟨(some 26), none, .mv (.t 28)⟩,
       ⟨(some 29), none, .extract (.t 26) 0⟩,
       ⟨(some 30), none, .extract (.t 26) 1⟩,
       ⟨(some 6), none, .mv (.t 29)⟩,
       ⟨(some 7), none, .mv (.t 30)⟩])
  (.seq (.seq (.reg [32] [⟨(some 31), none, .mv (.t 7)⟩,
        ⟨(some 32), none, .bin .neq .ifc true (.t 31) (.c .inil)⟩])
   (.cond (.t 32) (.seq (.reg [2] [⟨(some 33), none, .mv (.t 3)⟩,
          ⟨(some 34), none, .mv (.t 33)⟩,
          ⟨(some 35), (some (34, true)), .mv (.t 6)⟩,
          ⟨(some 36), (some (34, true)), .len .sl (.t 35)⟩,
          ⟨(some 37), (some (34, true)), .bin .eql .other true (.t 36) (.c (.int .i64 0))⟩,
          ⟨(some 38), none, .pick (.t 34) (.t 37) (.c (.bool false))⟩,
          ⟨(some 2), none, .mv (.t 38)⟩])
     .ret)
   .skip))
  (.seq (.seq (.reg [8] [⟨(some 8), none, .mv (.c (.int .i64 0))⟩])
   (.block 0 (.loop (.seq (.seq (.reg [42] [⟨(some 39), none, .mv (.t 8)⟩,
           ⟨(some 40), none, .mv (.t 6)⟩,
           ⟨(some 41), none, .len .sl (.t 40)⟩,
           ⟨(some 42), none, .bin .lss .other false (.t 39) (.t 41)⟩])
      (.cond (.t 42) .skip
      (.exit 0)))
     (.seq (.block 1 (.seq (.reg [9] [⟨(some 45), none, .mv (.t 6)⟩,
            ⟨(some 46), none, .mv (.t 8)⟩,
            ⟨(some 47), none, .iaddr (some 9) (.t 45) (.t 46)⟩,
            ⟨(some 48), none, .faddr 3 (.t 47)⟩,
            ⟨(some 49), none, .load (some 6) (.t 48)⟩,
            ⟨(some 50), none, .call (.c (.fn 15)) [(.t 49)]⟩,
            ⟨(some 9), none, .mv (.t 50)⟩])
       (.seq (.seq (.reg [10] [⟨(some 10), none, .mv (.c (.int .i64 0))⟩])
        (.block 2 (.loop (.seq (.seq (.reg [54] [⟨(some 51), none, .mv (.t 10)⟩,
                ⟨(some 52), none, .mv (.t 9)⟩,
                ⟨(some 53), none, .len .sl (.t 52)⟩,
                ⟨(some 54), none, .bin .lss .other false (.t 51) (.t 53)⟩])
           (.cond (.t 54) .skip
           (.exit 2)))
          (.seq (.block 3 (.seq (.any [11] [(⟨(some 57), none, .mv (.t 6)⟩, true),
                 (⟨(some 58), none, .mv (.t 8)⟩, false),
                 (⟨(some 59), none, .iaddr (some 9) (.t 57) (.t 58)⟩, true),
                 (⟨(some 60), none, .faddr 2 (.t 59)⟩, true),
                 (⟨(some 61), none, .load none (.t 60)⟩, true),
                 (⟨(some 62), none, .mv (.t 9)⟩, false),
                 (⟨(some 63), none, .mv (.t 10)⟩, false),
                 (⟨(some 64), none, .iaddr none (.t 62) (.t 63)⟩, false),
                 (⟨(some 65), none, .load none (.t 64)⟩, false),
                 (⟨(some 66), none, .call (.c (.fn 16)) [(.t 61), (.t 65)]⟩, true),
                 (⟨(some 11), none, .mv (.t 66)⟩, true)])
            (.seq (.any [96] [(⟨(some 67), none, .mv (.t 11)⟩, true),
                 (⟨(some 68), none, .un .not (.t 67)⟩, true),
                 (⟨(some 69), none, .mv (.t 68)⟩, true),
                 (⟨(some 70), (some (69, true)), .mv (.t 8)⟩, true),
                 (⟨(some 71), (some (69, true)), .bin .eql .other true (.t 70) (.c (.int .i64 0))⟩, true),
                 (⟨(some 72), (some (69, true)), .mv (.t 71)⟩, true),
                 (⟨(some 73), (some (72, false)), .mv (.t 9)⟩, true),
                 (⟨(some 74), (some (72, false)), .mv (.t 10)⟩, false),
                 (⟨(some 75), (some (72, false)), .iaddr none (.t 73) (.t 74)⟩, true),
                 (⟨(some 76), (some (72, false)), .load none (.t 75)⟩, true),
                 (⟨(some 77), (some (72, false)), .mv (.t 6)⟩, false),
                 (⟨(some 78), (some (72, false)), .mv (.t 8)⟩, false),
                 (⟨(some 79), (some (72, false)), .iaddr (some 9) (.t 77) (.t 78)⟩, false),
                 (⟨(some 80), (some (72, false)), .faddr 0 (.t 79)⟩, false),
                 (⟨(some 81), (some (72, false)), .load none (.t 80)⟩, false),
                 (⟨(some 82), (some (72, false)), .bin .neq .other false (.t 76) (.t 81)⟩, true),
                 (⟨(some 83), (some (72, false)), .mv (.t 82)⟩, true),
                 (⟨(some 84), (some (83, true)), .mv (.t 9)⟩, true),
                 (⟨(some 85), (some (83, true)), .mv (.t 10)⟩, false),
                 (⟨(some 86), (some (83, true)), .iaddr none (.t 84) (.t 85)⟩, true),
                 (⟨(some 87), (some (83, true)), .load none (.t 86)⟩, true),
                 (⟨(some 88), (some (83, true)), .mv (.t 6)⟩, false),
                 (⟨(some 89), (some (83, true)), .mv (.t 8)⟩, false),
                 (⟨(some 90), (some (83, true)), .iaddr (some 9) (.t 88) (.t 89)⟩, false),
                 (⟨(some 91), (some (83, true)), .faddr 1 (.t 90)⟩, false),
                 (⟨(some 92), (some (83, true)), .load none (.t 91)⟩, false),
                 (⟨(some 93), (some (83, true)), .bin .neq .other false (.t 87) (.t 92)⟩, true),
                 (⟨(some 94), (some (72, false)), .pick (.t 83) (.t 93) (.c (.bool false))⟩, true),
                 (⟨(some 95), (some (69, true)), .pick (.t 72) (.c (.bool true)) (.t 94)⟩, true),
                 (⟨(some 96), none, .pick (.t 69) (.t 95) (.c (.bool false))⟩, true)])
            (.cond (.t 96) (.seq (.reg [2] [⟨(some 2), none, .mv (.c (.bool false))⟩])
              .ret)
            .skip))))
          (.reg [10] [⟨(some 55), none, .mv (.t 10)⟩,
              ⟨(some 56), none, .bin .add .other true (.t 55) (.c (.int .i64 1))⟩,
              ⟨(some 10), none, .mv (.t 56)⟩]))))))
       (.seq (.reg [12] [⟨(some 12), none, .mv (.c (.int .i64 0))⟩])
       (.block 4 (.loop (.seq (.seq (.reg [104] [⟨(some 97), none, .mv (.t 12)⟩,
               ⟨(some 98), none, .mv (.t 6)⟩,
               ⟨(some 99), none, .mv (.t 8)⟩,
               ⟨(some 100), none, .iaddr (some 9) (.t 98) (.t 99)⟩,
               ⟨(some 101), none, .faddr 2 (.t 100)⟩,
               ⟨(some 102), none, .load none (.t 101)⟩,
               ⟨(some 103), none, .len .sl (.t 102)⟩,
               ⟨(some 104), none, .bin .lss .other false (.t 97) (.t 103)⟩])
          (.cond (.t 104) .skip
          (.exit 4)))
         (.seq (.block 5 (.seq (.reg [13] [⟨(some 107), none, .mv (.t 9)⟩,
                ⟨(some 108), none, .mv (.t 6)⟩,
                ⟨(some 109), none, .mv (.t 8)⟩,
                ⟨(some 110), none, .iaddr (some 9) (.t 108) (.t 109)⟩,
                ⟨(some 111), none, .faddr 2 (.t 110)⟩,
                ⟨(some 112), none, .load none (.t 111)⟩,
                ⟨(some 113), none, .mv (.t 12)⟩,
                ⟨(some 114), none, .iaddr none (.t 112) (.t 113)⟩,
                ⟨(some 115), none, .load none (.t 114)⟩,
                ⟨(some 116), none, .call (.c (.fn 16)) [(.t 107), (.t 115)]⟩,
                ⟨(some 13), none, .mv (.t 116)⟩])
           (.seq (.reg [118] [⟨(some 117), none, .mv (.t 13)⟩,
                ⟨(some 118), none, .un .not (.t 117)⟩])
           (.cond (.t 118) (.seq (.reg [2] [⟨(some 2), none, .mv (.c (.bool false))⟩])
             .ret)
           .skip))))
         (.reg [12] [⟨(some 105), none, .mv (.t 12)⟩,
             ⟨(some 106), none, .bin .add .other true (.t 105) (.c (.int .i64 1))⟩,
             ⟨(some 12), none, .mv (.t 106)⟩])))))))))
     (.reg [8] [⟨(some 43), none, .mv (.t 8)⟩,
         ⟨(some 44), none, .bin .add .other true (.t 43) (.c (.int .i64 1))⟩,
         ⟨(some 8), none, .mv (.t 44)⟩]))))))
  (.seq (.reg [2] [⟨(some 119), none, .mv (.t 3)⟩,
       ⟨(some 120), none, .mv (.t 119)⟩,
       ⟨(some 121), (some (120, true)), .mv (.t 6)⟩,
       ⟨(some 122), (some (120, true)), .len .sl (.t 121)⟩,
       ⟨(some 123), (some (120, true)), .bin .gtr .other true (.t 122) (.c (.int .i64 0))⟩,
       ⟨(some 124), none, .pick (.t 120) (.t 123) (.c (.bool false))⟩,
       ⟨(some 125), none, .mv (.t 124)⟩,
       ⟨(some 126), (some (125, true)), .mv (.t 6)⟩,
       ⟨(some 127), (some (125, true)), .iaddr (some 9) (.t 126) (.c (.int .i64 0))⟩,
       ⟨(some 128), (some (125, true)), .faddr 2 (.t 127)⟩,
       ⟨(some 129), (some (125, true)), .load none (.t 128)⟩,
       ⟨(some 130), (some (125, true)), .len .sl (.t 129)⟩,
       ⟨(some 131), (some (125, true)), .bin .eql .other true (.t 130) (.c (.int .i64 0))⟩,
       ⟨(some 132), none, .pick (.t 125) (.t 131) (.c (.bool false))⟩,
       ⟨(some 2), none, .mv (.t 132)⟩])
  .ret)))))))))⟩
theorem c4 : compF Try.prog [0, 1, 2, 3, 4, 5, 6, 7, 8, 9, 10, 11, 12, 13, 24, 32, 42, 54, 96, 104, 118] Try.f4 = some a4 := by kernel_rfl

/- bushel/bushellaw18.up -/
def a7 : AFun := ⟨48, [.tmp 0], (.seq (.reg [0] [⟨(some 0), none, .mv (.c (.bool false))⟩])
  (.seq (.reg [1] [⟨(some 6), none, .build [(.int .i64 0), (.int .i64 0), (.str []), (.str []), .snil, .snil] [(0, 1, (.c (.int .i64 3))), (2, 1, (.c (.str [97])))]⟩,
       ⟨(some 1), none, .alloc [(.int .i64 0), (.int .i64 0), (.str []), (.str []), .snil, .snil]⟩,
       ⟨none, none, .store 6 (.t 1) (.t 6)⟩])
  (.seq (.reg [2, 3] [⟨(some 8), none, .load (some 6) (.t 1)⟩,
       ⟨(some 9), none, .mksl (some 6) [(.t 8)]⟩,
       ⟨(some 10), none, .build [(.int .i64 0), (.int .i64 0), (.str []), (.str []), .snil, .snil] [(0, 1, (.c (.int .i64 4))), (2, 1, (.c (.str [98]))), (5, 1, (.t 9))]⟩,
       ⟨(some 11), none, .mksl (some 6) [(.t 10)]⟩,
       ⟨(some 12), none, .build [(.int .i64 0), (.int .i64 0), (.str []), (.str []), .snil, .snil] [(0, 1, (.c (.int .i64 4))), (2, 1, (.c (.str [97]))), (5, 1, (.t 11))]⟩,
       ⟨(some 13), none, .call (.c (.fn 9)) [(.t 12)]⟩,
       ⟨(some 7), none, .mv (.t 13)⟩,
       ⟨(some 14), none, .extract (.t 7) 0⟩,
       ⟨(some 15), none, .extract (.t 7) 1⟩,
       ⟨(some 2), none, .mv (.t 14)⟩,
       ⟨(some 3), none, .mv (.t 15)⟩])
  (.seq (.reg [5] [⟨(some 17), none, .load (some 6) (.t 1)⟩,
       ⟨(some 18), none, .call (.c (.fn 9)) [(.t 17)]⟩,
       ⟨(some 16), none, .mv (.t 18)⟩,
       ⟨(some 19), none, .extract (.t 16) 0⟩,
       ⟨(some 20), none, .extract (.t 16) 1⟩,
       ⟨(some 4), none, .mv (.t 19)⟩,
       ⟨(some 5), none, .mv (.t 20)⟩])
  (.seq (.seq (.reg [27] [⟨(some 21), none, .mv (.t 3)⟩,
        ⟨(some 22), none, .bin .neq .ifc true (.t 21) (.c .inil)⟩,
        ⟨(some 23), none, .mv (.t 22)⟩,
        ⟨(some 24), (some (23, false)), .mv (.t 2)⟩,
        ⟨(some 25), (some (23, false)), .len .sl (.t 24)⟩,
        ⟨(some 26), (some (23, false)), .bin .neq .other true (.t 25) (.c (.int .i64 3))⟩,
        ⟨(some 27), none, .pick (.t 23) (.c (.bool true)) (.t 26)⟩])
   (.cond (.t 27) (.seq (.reg [0] [⟨(some 0), none, .mv (.c (.bool false))⟩])
     .ret)
   .skip))
  (.seq (.reg [0] [⟨(some 28), none, .mv (.t 2)⟩,
       ⟨(some 29), none, .iaddr (some 9) (.t 28) (.c (.int .i64 2))⟩,
       ⟨(some 30), none, .faddr 2 (.t 29)⟩,
       ⟨(some 31), none, .load none (.t 30)⟩,
       ⟨(some 32), none, .len .sl (.t 31)⟩,
       ⟨(some 33), none, .bin .eql .other true (.t 32) (.c (.int .i64 1))⟩,
       ⟨(some 34), none, .mv (.t 33)⟩,
       ⟨(some 35), (some (34, true)), .mv (.t 2)⟩,
       ⟨(some 36), (some (34, true)), .iaddr (some 9) (.t 35) (.c (.int .i64 2))⟩,
       ⟨(some 37), (some (34, true)), .faddr 2 (.t 36)⟩,
       ⟨(some 38), (some (34, true)), .load none (.t 37)⟩,
       ⟨(some 39), (some (34, true)), .iaddr none (.t 38) (.c (.int .i64 0))⟩,
       ⟨(some 40), (some (34, true)), .load none (.t 39)⟩,
       ⟨(some 41), (some (34, true)), .bin .eql .other true (.t 40) (.c (.str [97]))⟩,
       ⟨(some 42), none, .pick (.t 34) (.t 41) (.c (.bool false))⟩,
       ⟨(some 43), none, .mv (.t 42)⟩,
       ⟨(some 44), (some (43, true)), .mv (.t 5)⟩,
       ⟨(some 45), (some (43, true)), .mkif 47 (.c (.int .i64 4))⟩,
       ⟨(some 46), (some (43, true)), .bin .eql .ifc false (.t 44) (.t 45)⟩,
       ⟨(some 47), none, .pick (.t 43) (.t 46) (.c (.bool false))⟩,
       ⟨(some 0), none, .mv (.t 47)⟩])
  .ret))))))⟩
theorem c7 : compF Try.prog [0, 1, 2, 3, 5, 27] Try.f7 = some a7 := by kernel_rfl

/- bushel/bushelref14.Few -/
def a8 : AFun := ⟨6, [.tmp 2], (.seq (.reg [1, 2] [⟨(some 1), none, .box (.t 0)⟩,
       ⟨(some 2), none, .mv (.c (.bool false))⟩])
  (.seq (.reg [2] [⟨(some 3), none, .load (some 6) (.t 1)⟩,
       ⟨(some 4), none, .call (.c (.fn 32)) [(.t 3), (.c (.int .i64 5000))]⟩,
       ⟨(some 5), none, .bin .geq .other true (.t 4) (.c (.int .i64 0))⟩,
       ⟨(some 2), none, .mv (.t 5)⟩])
  .ret))⟩
theorem c8 : compF Try.prog [0, 1, 2] Try.f8 = some a8 := by kernel_rfl

/- bushel/close.Close -/
def a9 : AFun := ⟨40, [.tmp 2, .tmp 3], (.seq (.reg [1, 2, 3] [⟨(some 1), none, .box (.t 0)⟩,
       ⟨(some 2), none, .mv (.c .snil)⟩,
       ⟨(some 3), none, .mv (.c .inil)⟩])
  (.seq (.seq (.reg [9] [⟨(some 6), none, .load (some 6) (.t 1)⟩,
        ⟨(some 7), none, .call (.c (.fn 15)) [(.t 6)]⟩,
        ⟨(some 8), none, .len .sl (.t 7)⟩,
        ⟨(some 9), none, .bin .gtr .other true (.t 8) (.c (.int .i64 0))⟩])
   (.cond (.t 9) (.seq (.reg [2, 3] [⟨(some 10), none, .mkif 47 (.c (.int .i64 4))⟩,
          ⟨(some 2), none, .mv (.c .snil)⟩,
          ⟨(some 3), none, .mv (.t 10)⟩])
     .ret)
   .skip))
  (.seq (.reg [4] [⟨(some 11), none, .ext (.mkvec (some 9) 152 [(.str []), (.str []), .snil, (.int .i64 0), (.int .i64 0), (.str []), (.str []), .snil, .snil]) [(.c (.int .i64 1)), (.c (.int .i64 1))]⟩,
       ⟨(some 12), none, .build [.snil, (.bool false)] [(0, 1, (.t 11))]⟩,
       ⟨(some 13), none, .box (.t 12)⟩,
       ⟨(some 4), none, .mv (.t 13)⟩])
  (.seq (.reg [5] [⟨(some 14), none, .mv (.t 4)⟩,
       ⟨(some 15), none, .load (some 6) (.t 1)⟩,
       ⟨(some 16), none, .call (.c (.fn 33)) [(.t 14), (.t 15)]⟩,
       ⟨(some 5), none, .alloc [(.int .i64 0), (.int .i64 0), (.str []), (.str []), .snil, .snil]⟩,
       ⟨none, none, .store 6 (.t 5) (.t 16)⟩])
  (.seq (.seq (.reg [20] [⟨(some 17), none, .mv (.t 4)⟩,
        ⟨(some 18), none, .nilck (.t 17)⟩,
        ⟨(some 19), none, .faddr 1 (.t 18)⟩,
        ⟨(some 20), none, .load none (.t 19)⟩])
   (.cond (.t 20) (.seq (.reg [2, 3] [⟨(some 21), none, .mkif 47 (.c (.int .i64 4))⟩,
          ⟨(some 2), none, .mv (.c .snil)⟩,
          ⟨(some 3), none, .mv (.t 21)⟩])
     .ret)
   .skip))
  (.seq (.seq (.reg [27] [⟨(some 22), none, .mv (.t 4)⟩,
        ⟨(some 23), none, .nilck (.t 22)⟩,
        ⟨(some 24), none, .faddr 0 (.t 23)⟩,
        ⟨(some 25), none, .load none (.t 24)⟩,
        ⟨(some 26), none, .len .sl (.t 25)⟩,
        ⟨(some 27), none, .bin .gtr .other true (.t 26) (.c (.int .i64 2000))⟩])
   (.cond (.t 27) (.seq (.reg [2, 3] [⟨(some 28), none, .mkif 47 (.c (.int .i64 6))⟩,
          ⟨(some 2), none, .mv (.c .snil)⟩,
          ⟨(some 3), none, .mv (.t 28)⟩])
     .ret)
   .skip))
  (.seq (.any [] [(⟨(some 29), none, .mv (.t 4)⟩, true),
       (⟨(some 30), none, .nilck (.t 29)⟩, true),
       (⟨(some 31), none, .faddr 0 (.t 30)⟩, true),
       (⟨(some 32), none, .load none (.t 31)⟩, true),
       (⟨(some 33), none, .load (some 6) (.t 5)⟩, false),
       (⟨(some 34), none, .iaddr (some 9) (.t 32) (.c (.int .i64 0))⟩, true),
       (⟨(some 35), none, .faddr 3 (.t 34)⟩, true),
       (⟨none, none, .store 6 (.t 35) (.t 33)⟩, true)])
  (.seq (.reg [2, 3] [⟨(some 36), none, .mv (.t 4)⟩,
       ⟨(some 37), none, .nilck (.t 36)⟩,
       ⟨(some 38), none, .faddr 0 (.t 37)⟩,
       ⟨(some 39), none, .load none (.t 38)⟩,
       ⟨(some 2), none, .mv (.t 39)⟩,
       ⟨(some 3), none, .mv (.c .inil)⟩])
  .ret))))))))⟩
theorem c9 : compF Try.prog [0, 1, 2, 3, 4, 5, 9, 20, 27] Try.f9 = some a9 := by kernel_rfl

/- bushel/bushelref16.Close -/
def a10m : AFun := ⟨40, [.tmp 2, .tmp 3], (.seq (.reg [1, 2, 3] [⟨(some 1), none, .box (.t 0)⟩,
       ⟨(some 2), none, .mv (.c .snil)⟩,
       ⟨(some 3), none, .mv (.c (.int .i64 0))⟩])
  (.seq (.reg [4] [⟨(some 7), none, .load (some 6) (.t 1)⟩,
       ⟨(some 8), none, .call (.c (.fn 34)) [(.t 7)]⟩,
       ⟨(some 4), none, .mv (.t 8)⟩])
  (.seq (.seq (.reg [15] [⟨(some 9), none, .load (some 6) (.t 1)⟩,
        ⟨(some 10), none, .call (.c (.fn 35)) [(.t 9)]⟩,
        ⟨(some 11), none, .len .sl (.t 10)⟩,
        ⟨(some 12), none, .bin .gtr .other true (.t 11) (.c (.int .i64 0))⟩,
        ⟨(some 13), none, .mv (.t 12)⟩,
        ⟨(some 14), (some (13, false)), .mv (.t 4)⟩,
        ⟨(some 15), none, .pick (.t 13) (.c (.bool true)) (.t 14)⟩])
   (.cond (.t 15) (.seq (.reg [2, 3] [⟨(some 2), none, .mv (.c .snil)⟩,
          ⟨(some 3), none, .mv (.c (.int .i64 4))⟩])
     .ret)
   .skip))
  (.seq (.reg [5] [⟨(some 16), none, .build [(.str []), (.str []), .snil, (.int .i64 0), (.int .i64 0), (.str []), (.str []), .snil, .snil] []⟩,
       ⟨(some 17), none, .ext (.mkslm (some 9)) [(.t 16)]⟩,
       ⟨(some 18), none, .build [.snil] [(0, 1, (.t 17))]⟩,
       ⟨(some 19), none, .box (.t 18)⟩,
       ⟨(some 5), none, .mv (.t 19)⟩])
  (.seq (.reg [6] [⟨(some 20), none, .mv (.t 5)⟩,
       ⟨(some 21), none, .load (some 6) (.t 1)⟩,
       ⟨(some 22), none, .call (.c (.fn 36)) [(.t 20), (.t 21)]⟩,
       ⟨(some 6), none, .alloc [(.int .i64 0), (.int .i64 0), (.str []), (.str []), .snil, .snil]⟩,
       ⟨none, none, .store 6 (.t 6) (.t 22)⟩])
  (.seq (.seq (.reg [28] [⟨(some 23), none, .mv (.t 5)⟩,
        ⟨(some 24), none, .nilck (.t 23)⟩,
        ⟨(some 25), none, .faddr 0 (.t 24)⟩,
        ⟨(some 26), none, .load none (.t 25)⟩,
        ⟨(some 27), none, .len .sl (.t 26)⟩,
        ⟨(some 28), none, .bin .gtr .other true (.t 27) (.c (.int .i64 2000))⟩])
   (.cond (.t 28) (.seq (.reg [2, 3] [⟨(some 2), none, .mv (.c .snil)⟩,
          ⟨(some 3), none, .mv (.c (.int .i64 6))⟩])
     .ret)
   .skip))
  (.seq (.any [] [(⟨(some 29), none, .mv (.t 5)⟩, true),
       (⟨(some 30), none, .nilck (.t 29)⟩, true),
       (⟨(some 31), none, .faddr 0 (.t 30)⟩, true),
       (⟨(some 32), none, .load none (.t 31)⟩, true),
       (⟨(some 33), none, .load (some 6) (.t 6)⟩, false),
       (⟨(some 34), none, .iaddr (some 9) (.t 32) (.c (.int .i64 0))⟩, true),
       (⟨(some 35), none, .faddr 3 (.t 34)⟩, true),
       (⟨none, none, .store 6 (.t 35) (.t 33)⟩, true)])
  (.seq (.reg [2, 3] [⟨(some 36), none, .mv (.t 5)⟩,
       ⟨(some 37), none, .nilck (.t 36)⟩,
       ⟨(some 38), none, .faddr 0 (.t 37)⟩,
       ⟨(some 39), none, .load none (.t 38)⟩,
       ⟨(some 2), none, .mv (.t 39)⟩,
       ⟨(some 3), none, .mv (.c (.int .i64 0))⟩])
  .ret))))))))⟩
theorem c10m : compF Try.prog [0, 1, 2, 3, 4, 5, 6, 15, 28] Try.f10 [17] = some a10m := by kernel_rfl

/- bushel/bushelref14.Same -/
def a13 : AFun := ⟨72, [.tmp 4], (.seq (.reg [2, 3, 4] [⟨(some 2), none, .box (.t 0)⟩,
       ⟨(some 3), none, .box (.t 1)⟩,
       ⟨(some 4), none, .mv (.c (.bool false))⟩])
  (.seq (.reg [5] [⟨(some 8), none, .faddr 4 (.t 2)⟩,
       ⟨(some 9), none, .load none (.t 8)⟩,
       ⟨(some 10), none, .faddr 4 (.t 3)⟩,
       ⟨(some 11), none, .load none (.t 10)⟩,
       ⟨(some 12), none, .call (.c (.fn 38)) [(.t 9), (.t 11)]⟩,
       ⟨(some 5), none, .mv (.t 12)⟩])
  (.seq (.seq (.reg [51] [⟨(some 13), none, .faddr 0 (.t 2)⟩,
        ⟨(some 14), none, .load none (.t 13)⟩,
        ⟨(some 15), none, .faddr 0 (.t 3)⟩,
        ⟨(some 16), none, .load none (.t 15)⟩,
        ⟨(some 17), none, .bin .neq .other false (.t 14) (.t 16)⟩,
        ⟨(some 18), none, .mv (.t 17)⟩,
        ⟨(some 19), (some (18, false)), .faddr 1 (.t 2)⟩,
        ⟨(some 20), (some (18, false)), .load none (.t 19)⟩,
        ⟨(some 21), (some (18, false)), .faddr 1 (.t 3)⟩,
        ⟨(some 22), (some (18, false)), .load none (.t 21)⟩,
        ⟨(some 23), (some (18, false)), .bin .neq .other false (.t 20) (.t 22)⟩,
        ⟨(some 24), none, .pick (.t 18) (.c (.bool true)) (.t 23)⟩,
        ⟨(some 25), none, .mv (.t 24)⟩,
        ⟨(some 26), (some (25, false)), .faddr 2 (.t 2)⟩,
        ⟨(some 27), (some (25, false)), .load none (.t 26)⟩,
        ⟨(some 28), (some (25, false)), .faddr 2 (.t 3)⟩,
        ⟨(some 29), (some (25, false)), .load none (.t 28)⟩,
        ⟨(some 30), (some (25, false)), .bin .neq .other false (.t 27) (.t 29)⟩,
        ⟨(some 31), none, .pick (.t 25) (.c (.bool true)) (.t 30)⟩,
        ⟨(some 32), none, .mv (.t 31)⟩,
        ⟨(some 33), (some (32, false)), .faddr 3 (.t 2)⟩,
        ⟨(some 34), (some (32, false)), .load none (.t 33)⟩,
        ⟨(some 35), (some (32, false)), .faddr 3 (.t 3)⟩,
        ⟨(some 36), (some (32, false)), .load none (.t 35)⟩,
        ⟨(some 37), (some (32, false)), .bin .neq .other false (.t 34) (.t 36)⟩,
        ⟨(some 38), none, .pick (.t 32) (.c (.bool true)) (.t 37)⟩,
        ⟨(some 39), none, .mv (.t 38)⟩,
        ⟨(some 40), (some (39, false)), .mv (.t 5)⟩,
        ⟨(some 41), (some (39, false)), .un .not (.t 40)⟩,
        ⟨(some 42), none, .pick (.t 39) (.c (.bool true)) (.t 41)⟩,
        ⟨(some 43), none, .mv (.t 42)⟩,
        ⟨(some 44), (some (43, false)), .faddr 5 (.t 2)⟩,
        ⟨(some 45), (some (43, false)), .load none (.t 44)⟩,
        ⟨(some 46), (some (43, false)), .len .sl (.t 45)⟩,
        ⟨(some 47), (some (43, false)), .faddr 5 (.t 3)⟩,
        ⟨(some 48), (some (43, false)), .load none (.t 47)⟩,
        ⟨(some 49), (some (43, false)), .len .sl (.t 48)⟩,
        ⟨(some 50), (some (43, false)), .bin .neq .other false (.t 46) (.t 49)⟩,
        ⟨(some 51), none, .pick (.t 43) (.c (.bool true)) (.t 50)⟩])
   (.cond (.t 51) (.seq (.reg [4] [⟨(some 4), none, .mv (.c (.bool false))⟩])
     .ret)
   .skip))
  (.seq (.seq (.reg [6] [⟨(some 6), none, .mv (.c (.int .i64 0))⟩])
   (.block 0 (.loop (.seq (.seq (.reg [56] [⟨(some 52), none, .mv (.t 6)⟩,
           ⟨(some 53), none, .faddr 5 (.t 2)⟩,
           ⟨(some 54), none, .load none (.t 53)⟩,
           ⟨(some 55), none, .len .sl (.t 54)⟩,
           ⟨(some 56), none, .bin .lss .other false (.t 52) (.t 55)⟩])
      (.cond (.t 56) .skip
      (.exit 0)))
     (.seq (.block 1 (.seq (.any [7] [(⟨(some 59), none, .faddr 5 (.t 2)⟩, true),
            (⟨(some 60), none, .load none (.t 59)⟩, true),
            (⟨(some 61), none, .mv (.t 6)⟩, false),
            (⟨(some 62), none, .iaddr (some 6) (.t 60) (.t 61)⟩, true),
            (⟨(some 63), none, .load (some 6) (.t 62)⟩, true),
            (⟨(some 64), none, .faddr 5 (.t 3)⟩, false),
            (⟨(some 65), none, .load none (.t 64)⟩, false),
            (⟨(some 66), none, .mv (.t 6)⟩, false),
            (⟨(some 67), none, .iaddr (some 6) (.t 65) (.t 66)⟩, false),
            (⟨(some 68), none, .load (some 6) (.t 67)⟩, false),
            (⟨(some 69), none, .call (.c (.fn 13)) [(.t 63), (.t 68)]⟩, true),
            (⟨(some 7), none, .mv (.t 69)⟩, true)])
       (.seq (.reg [71] [⟨(some 70), none, .mv (.t 7)⟩,
            ⟨(some 71), none, .un .not (.t 70)⟩])
       (.cond (.t 71) (.seq (.reg [4] [⟨(some 4), none, .mv (.c (.bool false))⟩])
         .ret)
       .skip))))
     (.reg [6] [⟨(some 57), none, .mv (.t 6)⟩,
         ⟨(some 58), none, .bin .add .other true (.t 57) (.c (.int .i64 1))⟩,
         ⟨(some 6), none, .mv (.t 58)⟩]))))))
  (.seq (.reg [4] [⟨(some 4), none, .mv (.c (.bool true))⟩])
  .ret)))))⟩
theorem c13 : compF Try.prog [0, 1, 2, 3, 4, 5, 6, 7, 51, 56, 71] Try.f13 = some a13 := by kernel_rfl

/- bushel/bushelref14.Whole -/
def a14 : AFun := ⟨72, [.tmp 2], (.seq (.reg [1, 2] [⟨(some 1), none, .box (.t 0)⟩,
       ⟨(some 2), none, .mv (.c (.bool false))⟩])
  (.seq (.seq (.any [34] [(⟨(some 8), none, .load (some 6) (.t 1)⟩, true),
        (⟨(some 10), none, .faddr 5 (.t 1)⟩, false),
        (⟨(some 11), none, .load none (.t 10)⟩, false),
        (⟨(some 12), none, .len .sl (.t 11)⟩, false),
        (⟨(some 9), none, .call (.c (.fn 39)) [(.t 8)]⟩, false),
        (⟨(some 13), none, .bin .neq .other false (.t 9) (.t 12)⟩, true),
        (⟨(some 14), none, .mv (.t 13)⟩, true),
        (⟨(some 15), (some (14, false)), .faddr 0 (.t 1)⟩, true),
        (⟨(some 16), (some (14, false)), .load none (.t 15)⟩, true),
        (⟨(some 17), (some (14, false)), .bin .eql .other true (.t 16) (.c (.int .i64 7))⟩, true),
        (⟨(some 18), (some (14, false)), .mv (.t 17)⟩, true),
        (⟨(some 19), (some (18, true)), .faddr 2 (.t 1)⟩, true),
        (⟨(some 20), (some (18, true)), .load none (.t 19)⟩, true),
        (⟨(some 21), (some (18, true)), .bin .eql .other true (.t 20) (.c (.str []))⟩, true),
        (⟨(some 22), (some (14, false)), .pick (.t 18) (.t 21) (.c (.bool false))⟩, true),
        (⟨(some 23), none, .pick (.t 14) (.c (.bool true)) (.t 22)⟩, true),
        (⟨(some 24), none, .mv (.t 23)⟩, true),
        (⟨(some 25), (some (24, false)), .faddr 0 (.t 1)⟩, true),
        (⟨(some 26), (some (24, false)), .load none (.t 25)⟩, true),
        (⟨(some 27), (some (24, false)), .bin .eql .other true (.t 26) (.c (.int .i64 2))⟩, true),
        (⟨(some 28), (some (24, false)), .mv (.t 27)⟩, true),
        (⟨(some 29), (some (28, true)), .faddr 2 (.t 1)⟩, true),
        (⟨(some 30), (some (28, true)), .load none (.t 29)⟩, true),
        (⟨(some 31), (some (28, true)), .len .str (.t 30)⟩, true),
        (⟨(some 32), (some (28, true)), .bin .gtr .other true (.t 31) (.c (.int .i64 2000))⟩, true),
        (⟨(some 33), (some (24, false)), .pick (.t 28) (.t 32) (.c (.bool false))⟩, true),
        (⟨(some 34), none, .pick (.t 24) (.c (.bool true)) (.t 33)⟩, true)])
   (.cond (.t 34) (.seq (.reg [2] [⟨(some 2), none, .mv (.c (.bool false))⟩])
     .ret)
   .skip))
  (.seq (.seq (.reg [47] [⟨(some 35), none, .faddr 0 (.t 1)⟩,
        ⟨(some 36), none, .load none (.t 35)⟩,
        ⟨(some 37), none, .bin .eql .other true (.t 36) (.c (.int .i64 16))⟩,
        ⟨(some 38), none, .mv (.t 37)⟩,
        ⟨(some 39), (some (38, true)), .faddr 2 (.t 1)⟩,
        ⟨(some 40), (some (38, true)), .load none (.t 39)⟩,
        ⟨(some 41), (some (38, true)), .bin .neq .other true (.t 40) (.c (.str [94]))⟩,
        ⟨(some 42), none, .pick (.t 38) (.t 41) (.c (.bool false))⟩,
        ⟨(some 43), none, .mv (.t 42)⟩,
        ⟨(some 44), (some (43, true)), .faddr 2 (.t 1)⟩,
        ⟨(some 45), (some (43, true)), .load none (.t 44)⟩,
        ⟨(some 46), (some (43, true)), .bin .neq .other true (.t 45) (.c (.str [35]))⟩,
        ⟨(some 47), none, .pick (.t 43) (.t 46) (.c (.bool false))⟩])
   (.cond (.t 47) (.seq (.reg [5] [⟨(some 49), none, .faddr 2 (.t 1)⟩,
          ⟨(some 50), none, .load none (.t 49)⟩,
          ⟨(some 51), none, .call (.c (.fn 40)) [(.t 50), (.c (.int .i64 1)), (.c (.int .i64 1))]⟩,
          ⟨(some 48), none, .mv (.t 51)⟩,
          ⟨(some 52), none, .extract (.t 48) 0⟩,
          ⟨(some 53), none, .extract (.t 48) 1⟩,
          ⟨(some 54), none, .extract (.t 48) 2⟩,
          ⟨(some 3), none, .mv (.t 52)⟩,
          ⟨(some 4), none, .mv (.t 53)⟩,
          ⟨(some 5), none, .mv (.t 54)⟩])
     (.seq (.reg [56] [⟨(some 55), none, .mv (.t 5)⟩,
          ⟨(some 56), none, .un .not (.t 55)⟩])
     (.cond (.t 56) (.seq (.reg [2] [⟨(some 2), none, .mv (.c (.bool false))⟩])
       .ret)
     .skip)))
   .skip))
  (.seq (.seq (.reg [6] [⟨(some 6), none, .mv (.c (.int .i64 0))⟩])
   (.block 0 (.loop (.seq (.seq (.reg [61] [⟨(some 57), none, .mv (.t 6)⟩,
           ⟨(some 58), none, .faddr 5 (.t 1)⟩,
           ⟨(some 59), none, .load none (.t 58)⟩,
           ⟨(some 60), none, .len .sl (.t 59)⟩,
           ⟨(some 61), none, .bin .lss .other false (.t 57) (.t 60)⟩])
      (.cond (.t 61) .skip
      (.exit 0)))
     (.seq (.block 1 (.seq (.reg [7] [⟨(some 64), none, .faddr 5 (.t 1)⟩,
            ⟨(some 65), none, .load none (.t 64)⟩,
            ⟨(some 66), none, .mv (.t 6)⟩,
            ⟨(some 67), none, .iaddr (some 6) (.t 65) (.t 66)⟩,
            ⟨(some 68), none, .load (some 6) (.t 67)⟩,
            ⟨(some 69), none, .call (.c (.fn 14)) [(.t 68)]⟩,
            ⟨(some 7), none, .mv (.t 69)⟩])
       (.seq (.reg [71] [⟨(some 70), none, .mv (.t 7)⟩,
            ⟨(some 71), none, .un .not (.t 70)⟩])
       (.cond (.t 71) (.seq (.reg [2] [⟨(some 2), none, .mv (.c (.bool false))⟩])
         .ret)
       .skip))))
     (.reg [6] [⟨(some 62), none, .mv (.t 6)⟩,
         ⟨(some 63), none, .bin .add .other true (.t 62) (.c (.int .i64 1))⟩,
         ⟨(some 6), none, .mv (.t 63)⟩]))))))
  (.seq (.reg [2] [⟨(some 2), none, .mv (.c (.bool true))⟩])
  .ret)))))⟩
theorem c14 : compF Try.prog [0, 1, 2, 5, 6, 7, 34, 47, 56, 61, 71] Try.f14 = some a14 := by kernel_rfl

/- bushel/core.Free -/
def a15 : AFun := ⟨7, [.tmp 2], (.seq (.reg [1, 2] [⟨(some 1), none, .box (.t 0)⟩,
       ⟨(some 2), none, .mv (.c .snil)⟩])
  (.seq (.reg [2] [⟨(some 3), none, .load (some 6) (.t 1)⟩,
       ⟨(some 4), none, .call (.c (.fn 43)) [(.t 3)]⟩,
       ⟨(some 5), none, .call (.c (.fn 42)) [(.t 4)]⟩,
       ⟨(some 6), none, .call (.c (.fn 41)) [(.t 5)]⟩,
       ⟨(some 2), none, .mv (.t 6)⟩])
  .ret))⟩
theorem c15 : compF Try.prog [0, 1, 2] Try.f15 = some a15 := by kernel_rfl

/- bushel/bushelref14.count -/
def a32 : AFun := ⟨52, [.tmp 4], (.seq (.reg [2, 4] [⟨(some 2), none, .box (.t 0)⟩,
       ⟨(some 4), none, .mv (.c (.int .i64 0))⟩])
  (.seq (.reg [1] [⟨(some 7), none, .mv (.t 1)⟩,
       ⟨(some 8), none, .bin .sub .other true (.t 7) (.c (.int .i64 1))⟩,
       ⟨(some 9), none, .faddr 2 (.t 2)⟩,
       ⟨(some 10), none, .load none (.t 9)⟩,
       ⟨(some 11), none, .len .str (.t 10)⟩,
       ⟨(some 12), none, .bin .sub .other false (.t 8) (.t 11)⟩,
       ⟨(some 13), none, .faddr 3 (.t 2)⟩,
       ⟨(some 14), none, .load none (.t 13)⟩,
       ⟨(some 15), none, .len .str (.t 14)⟩,
       ⟨(some 16), none, .bin .sub .other false (.t 12) (.t 15)⟩,
       ⟨(some 1), none, .mv (.t 16)⟩])
  (.seq (.seq (.reg [5] [⟨(some 5), none, .mv (.c (.int .i64 0))⟩])
   (.block 0 (.loop (.seq (.seq (.reg [21] [⟨(some 17), none, .mv (.t 5)⟩,
           ⟨(some 18), none, .faddr 4 (.t 2)⟩,
           ⟨(some 19), none, .load none (.t 18)⟩,
           ⟨(some 20), none, .len .sl (.t 19)⟩,
           ⟨(some 21), none, .bin .lss .other false (.t 17) (.t 20)⟩])
      (.cond (.t 21) .skip
      (.exit 0)))
     (.seq (.block 1 (.reg [1] [⟨(some 24), none, .mv (.t 1)⟩,
           ⟨(some 25), none, .bin .sub .other true (.t 24) (.c (.int .i64 1))⟩,
           ⟨(some 26), none, .faddr 4 (.t 2)⟩,
           ⟨(some 27), none, .load none (.t 26)⟩,
           ⟨(some 28), none, .mv (.t 5)⟩,
           ⟨(some 29), none, .iaddr none (.t 27) (.t 28)⟩,
           ⟨(some 30), none, .load none (.t 29)⟩,
           ⟨(some 31), none, .len .str (.t 30)⟩,
           ⟨(some 32), none, .bin .sub .other false (.t 25) (.t 31)⟩,
           ⟨(some 1), none, .mv (.t 32)⟩]))
     (.reg [5] [⟨(some 22), none, .mv (.t 5)⟩,
         ⟨(some 23), none, .bin .add .other true (.t 22) (.c (.int .i64 1))⟩,
         ⟨(some 5), none, .mv (.t 23)⟩]))))))
  (.seq (.seq (.reg [6] [⟨(some 6), none, .mv (.c (.int .i64 0))⟩])
   (.block 2 (.loop (.seq (.seq (.reg [41] [⟨(some 33), none, .mv (.t 6)⟩,
           ⟨(some 34), none, .faddr 5 (.t 2)⟩,
           ⟨(some 35), none, .load none (.t 34)⟩,
           ⟨(some 36), none, .len .sl (.t 35)⟩,
           ⟨(some 37), none, .bin .lss .other false (.t 33) (.t 36)⟩,
           ⟨(some 38), none, .mv (.t 37)⟩,
           ⟨(some 39), (some (38, true)), .mv (.t 1)⟩,
           ⟨(some 40), (some (38, true)), .bin .geq .other true (.t 39) (.c (.int .i64 0))⟩,
           ⟨(some 41), none, .pick (.t 38) (.t 40) (.c (.bool false))⟩])
      (.cond (.t 41) .skip
      (.exit 2)))
     (.seq (.block 3 (.reg [1] [⟨(some 44), none, .faddr 5 (.t 2)⟩,
           ⟨(some 45), none, .load none (.t 44)⟩,
           ⟨(some 46), none, .mv (.t 6)⟩,
           ⟨(some 47), none, .iaddr (some 6) (.t 45) (.t 46)⟩,
           ⟨(some 48), none, .load (some 6) (.t 47)⟩,
           ⟨(some 49), none, .mv (.t 1)⟩,
           ⟨(some 50), none, .call (.c (.fn 32)) [(.t 48), (.t 49)]⟩,
           ⟨(some 1), none, .mv (.t 50)⟩]))
     (.reg [6] [⟨(some 42), none, .mv (.t 6)⟩,
         ⟨(some 43), none, .bin .add .other true (.t 42) (.c (.int .i64 1))⟩,
         ⟨(some 6), none, .mv (.t 43)⟩]))))))
  (.seq (.reg [4] [⟨(some 51), none, .mv (.t 1)⟩,
       ⟨(some 4), none, .mv (.t 51)⟩])
  .ret)))))⟩
theorem c32 : compF Try.prog [0, 1, 2, 4, 5, 6, 21, 41] Try.f32 = some a32 := by kernel_rfl

/- (*bushel/close.closer).walk -/
def a33 : AFun := ⟨64, [.cell 4 (some 6)], (.seq (.reg [3, 4] [⟨(some 3), none, .box (.t 1)⟩,
       ⟨(some 4), none, .alloc [(.int .i64 0), (.int .i64 0), (.str []), (.str []), .snil, .snil]⟩])
  (.seq (.reg [5] [⟨(some 9), none, .load (some 6) (.t 3)⟩,
       ⟨(some 5), none, .alloc [(.int .i64 0), (.int .i64 0), (.str []), (.str []), .snil, .snil]⟩,
       ⟨none, none, .store 6 (.t 5) (.t 9)⟩])
  (.seq (.reg [] [⟨(some 10), none, .faddr 4 (.t 3)⟩,
       ⟨(some 11), none, .load none (.t 10)⟩,
       ⟨(some 12), none, .call (.c (.fn 45)) [(.t 11)]⟩,
       ⟨(some 13), none, .faddr 4 (.t 5)⟩,
       ⟨none, none, .store 1 (.t 13) (.t 12)⟩,
       ⟨(some 14), none, .faddr 5 (.t 5)⟩,
       ⟨none, none, .store 1 (.t 14) (.c .snil)⟩])
  (.seq (.reg [6] [⟨(some 15), none, .faddr 0 (.t 3)⟩,
       ⟨(some 16), none, .load none (.t 15)⟩,
       ⟨(some 17), none, .bin .eql .other true (.t 16) (.c (.int .i64 4))⟩,
       ⟨(some 18), none, .mv (.t 17)⟩,
       ⟨(some 19), (some (18, false)), .faddr 0 (.t 3)⟩,
       ⟨(some 20), (some (18, false)), .load none (.t 19)⟩,
       ⟨(some 21), (some (18, false)), .bin .eql .other true (.t 20) (.c (.int .i64 7))⟩,
       ⟨(some 22), none, .pick (.t 18) (.c (.bool true)) (.t 21)⟩,
       ⟨(some 6), none, .mv (.t 22)⟩])
  (.seq (.seq (.reg [23] [⟨(some 23), none, .mv (.t 6)⟩])
   (.cond (.t 23) (.reg [] [⟨(some 24), none, .mv (.t 0)⟩,
         ⟨(some 25), none, .load (some 6) (.t 3)⟩,
         ⟨(some 26), none, .call (.c (.fn 54)) [(.t 24), (.t 25)]⟩,
         ⟨(some 27), none, .faddr 1 (.t 5)⟩,
         ⟨none, none, .store 1 (.t 27) (.t 26)⟩])
   .skip))
  (.seq (.seq (.reg [29, 30, 31] [⟨(some 28), none, .faddr 5 (.t 3)⟩,
        ⟨(some 29), none, .load none (.t 28)⟩,
        ⟨(some 30), none, .len .sl (.t 29)⟩,
        ⟨(some 31), none, .mv (.c (.int .i64 0))⟩])
   (.block 0 (.loop (.seq (.reg [32] [⟨(some 32), none, .bin .lss .other false (.t 31) (.t 30)⟩])
     (.seq (.cond (.t 32) .skip
      (.exit 0))
     (.seq (.block 1 (.seq (.reg [8] [⟨(some 33), none, .iaddr (some 6) (.t 29) (.t 31)⟩,
            ⟨(some 34), none, .load (some 6) (.t 33)⟩,
            ⟨(some 8), none, .alloc [(.int .i64 0), (.int .i64 0), (.str []), (.str []), .snil, .snil]⟩,
            ⟨none, none, .store 6 (.t 8) (.t 34)⟩])
       (.any [] [(⟨(some 35), none, .faddr 5 (.t 5)⟩, true),
           (⟨(some 36), none, .load none (.t 35)⟩, true),
           (⟨(some 37), none, .mv (.t 0)⟩, false),
           (⟨(some 38), none, .load (some 6) (.t 8)⟩, false),
           (⟨(some 39), none, .call (.c (.fn 33)) [(.t 37), (.t 38)]⟩, false),
           (⟨(some 40), none, .mksl (some 6) [(.t 39)]⟩, false),
           (⟨(some 41), none, .append (some 6) 96 (.t 36) (.t 40)⟩, true),
           (⟨(some 42), none, .faddr 5 (.t 5)⟩, true),
           (⟨none, none, .store 1 (.t 42) (.t 41)⟩, true)])))
     (.reg [31] [⟨(some 43), none, .bin .add .other true (.t 31) (.c (.int .i64 1))⟩,
         ⟨(some 31), none, .mv (.t 43)⟩])))))))
  (.seq (.seq (.reg [50] [⟨(some 44), none, .mv (.t 6)⟩,
        ⟨(some 45), none, .mv (.t 44)⟩,
        ⟨(some 46), (some (45, true)), .faddr 5 (.t 5)⟩,
        ⟨(some 47), (some (45, true)), .load none (.t 46)⟩,
        ⟨(some 48), (some (45, true)), .len .sl (.t 47)⟩,
        ⟨(some 49), (some (45, true)), .bin .gtr .other true (.t 48) (.c (.int .i64 0))⟩,
        ⟨(some 50), none, .pick (.t 45) (.t 49) (.c (.bool false))⟩])
   (.cond (.t 50) (.any [] [(⟨(some 51), none, .mv (.t 0)⟩, true),
         (⟨(some 52), none, .nilck (.t 51)⟩, true),
         (⟨(some 53), none, .faddr 0 (.t 52)⟩, true),
         (⟨(some 54), none, .load none (.t 53)⟩, true),
         (⟨(some 55), none, .faddr 1 (.t 5)⟩, false),
         (⟨(some 56), none, .load none (.t 55)⟩, false),
         (⟨(some 57), none, .faddr 5 (.t 5)⟩, false),
         (⟨(some 58), none, .load none (.t 57)⟩, false),
         (⟨(some 59), none, .iaddr (some 6) (.t 58) (.c (.int .i64 0))⟩, false),
         (⟨(some 60), none, .load (some 6) (.t 59)⟩, false),
         (⟨(some 61), none, .iaddr (some 9) (.t 54) (.t 56)⟩, true),
         (⟨(some 62), none, .faddr 3 (.t 61)⟩, true),
         (⟨none, none, .store 6 (.t 62) (.t 60)⟩, true)])
   .skip))
  (.seq (.reg [] [⟨(some 63), none, .load (some 6) (.t 5)⟩,
       ⟨none, none, .store 6 (.t 4) (.t 63)⟩])
  .ret))))))))⟩
theorem c33 : compF Try.prog [0, 1, 3, 4, 5, 6, 8, 23, 29, 30, 31, 32, 50] Try.f33 = some a33 := by kernel_rfl

/- bushel/bushelref16.nameless -/
def a34 : AFun := ⟨27, [.tmp 2], (.seq (.reg [1, 2] [⟨(some 1), none, .box (.t 0)⟩,
       ⟨(some 2), none, .mv (.c (.bool false))⟩])
  (.seq (.seq (.reg [12] [⟨(some 5), none, .faddr 0 (.t 1)⟩,
        ⟨(some 6), none, .load none (.t 5)⟩,
        ⟨(some 7), none, .bin .eql .other true (.t 6) (.c (.int .i64 7))⟩,
        ⟨(some 8), none, .mv (.t 7)⟩,
        ⟨(some 9), (some (8, true)), .faddr 2 (.t 1)⟩,
        ⟨(some 10), (some (8, true)), .load none (.t 9)⟩,
        ⟨(some 11), (some (8, true)), .bin .eql .other true (.t 10) (.c (.str []))⟩,
        ⟨(some 12), none, .pick (.t 8) (.t 11) (.c (.bool false))⟩])
   (.cond (.t 12) (.seq (.reg [2] [⟨(some 2), none, .mv (.c (.bool true))⟩])
     .ret)
   .skip))
  (.seq (.seq (.reg [3] [⟨(some 3), none, .mv (.c (.int .i64 0))⟩])
   (.block 0 (.loop (.seq (.seq (.reg [17] [⟨(some 13), none, .mv (.t 3)⟩,
           ⟨(some 14), none, .faddr 5 (.t 1)⟩,
           ⟨(some 15), none, .load none (.t 14)⟩,
           ⟨(some 16), none, .len .sl (.t 15)⟩,
           ⟨(some 17), none, .bin .lss .other false (.t 13) (.t 16)⟩])
      (.cond (.t 17) .skip
      (.exit 0)))
     (.seq (.block 1 (.seq (.reg [4] [⟨(some 20), none, .faddr 5 (.t 1)⟩,
            ⟨(some 21), none, .load none (.t 20)⟩,
            ⟨(some 22), none, .mv (.t 3)⟩,
            ⟨(some 23), none, .iaddr (some 6) (.t 21) (.t 22)⟩,
            ⟨(some 24), none, .load (some 6) (.t 23)⟩,
            ⟨(some 25), none, .call (.c (.fn 34)) [(.t 24)]⟩,
            ⟨(some 4), none, .mv (.t 25)⟩])
       (.seq (.reg [26] [⟨(some 26), none, .mv (.t 4)⟩])
       (.cond (.t 26) (.seq (.reg [2] [⟨(some 2), none, .mv (.c (.bool true))⟩])
         .ret)
       .skip))))
     (.reg [3] [⟨(some 18), none, .mv (.t 3)⟩,
         ⟨(some 19), none, .bin .add .other true (.t 18) (.c (.int .i64 1))⟩,
         ⟨(some 3), none, .mv (.t 19)⟩]))))))
  (.seq (.reg [2] [⟨(some 2), none, .mv (.c (.bool false))⟩])
  .ret))))⟩
theorem c34 : compF Try.prog [0, 1, 2, 3, 4, 12, 17, 26] Try.f34 = some a34 := by kernel_rfl

/- bushel/bushelref14.Free -/
def a35 : AFun := ⟨6, [.tmp 2], (.seq (.reg [1, 2] [⟨(some 1), none, .box (.t 0)⟩,
       ⟨(some 2), none, .mv (.c .snil)⟩])
  (.seq (.reg [2] [⟨(some 3), none, .load (some 6) (.t 1)⟩,
       ⟨(some 4), none, .call (.c (.fn 55)) [(.t 3)]⟩,
       ⟨(some 5), none, .call (.c (.fn 19)) [(.t 4)]⟩,
       ⟨(some 2), none, .mv (.t 5)⟩])
  .ret))⟩
theorem c35 : compF Try.prog [0, 1, 2] Try.f35 = some a35 := by kernel_rfl

/- (*bushel/bushelref16.C).walk -/
def a36m : AFun := ⟨137, [.cell 4 (some 6)], (.seq (.reg [3, 4] [⟨(some 3), none, .box (.t 1)⟩,
       ⟨(some 4), none, .alloc [(.int .i64 0), (.int .i64 0), (.str []), (.str []), .snil, .snil]⟩])
  (.seq (.reg [5] [⟨(some 13), none, .load (some 6) (.t 3)⟩,
       ⟨(some 5), none, .alloc [(.int .i64 0), (.int .i64 0), (.str []), (.str []), .snil, .snil]⟩,
       ⟨none, none, .store 6 (.t 5) (.t 13)⟩])
  (.seq (.reg [] [⟨(some 14), none, .faddr 5 (.t 5)⟩,
       ⟨none, none, .store 1 (.t 14) (.c .snil)⟩])
  (.seq (.reg [6] [⟨(some 6), none, .mv (.c (.int .i64 (-1)))⟩])
  (.seq (.seq (.reg [22] [⟨(some 15), none, .faddr 0 (.t 3)⟩,
        ⟨(some 16), none, .load none (.t 15)⟩,
        ⟨(some 17), none, .bin .eql .other true (.t 16) (.c (.int .i64 4))⟩,
        ⟨(some 18), none, .mv (.t 17)⟩,
        ⟨(some 19), (some (18, false)), .faddr 0 (.t 3)⟩,
        ⟨(some 20), (some (18, false)), .load none (.t 19)⟩,
        ⟨(some 21), (some (18, false)), .bin .eql .other true (.t 20) (.c (.int .i64 7))⟩,
        ⟨(some 22), none, .pick (.t 18) (.c (.bool true)) (.t 21)⟩])
   (.cond (.t 22) (.seq (.reg [6] [⟨(some 23), none, .mv (.t 0)⟩,
          ⟨(some 24), none, .nilck (.t 23)⟩,
          ⟨(some 25), none, .faddr 0 (.t 24)⟩,
          ⟨(some 26), none, .load none (.t 25)⟩,
          ⟨(some 27), none, .len .sl (.t 26)⟩,
          ⟨(some 6), none, .mv (.t 27)⟩])
     (.seq (.reg [] [⟨(some 28), none, .mv (.t 6)⟩,
          ⟨(some 29), none, .faddr 1 (.t 5)⟩,
          ⟨none, none, .store 1 (.t 29) (.t 28)⟩])
     (.seq (.reg [7] [⟨(some 30), none, .faddr 2 (.t 3)⟩,
          ⟨(some 31), none, .load none (.t 30)⟩,
          ⟨(some 32), none, .build [(.str []), (.str []), .snil, (.int .i64 0), (.int .i64 0), (.str []), (.str []), .snil, .snil] [(1, 1, (.t 31))]⟩,
          ⟨(some 7), none, .alloc [(.str []), (.str []), .snil, (.int .i64 0), (.int .i64 0), (.str []), (.str []), .snil, .snil]⟩,
          ⟨none, none, .store 9 (.t 7) (.t 32)⟩])
     (.seq (.reg [8] [⟨(some 33), none, .faddr 2 (.t 3)⟩,
          ⟨(some 34), none, .load none (.t 33)⟩,
          ⟨(some 35), none, .faddr 5 (.t 3)⟩,
          ⟨(some 36), none, .load none (.t 35)⟩,
          ⟨(some 37), none, .build [(.int .i64 0), (.int .i64 0), (.str []), (.str []), .snil, .snil] [(0, 1, (.c (.int .i64 4))), (2, 1, (.t 34)), (5, 1, (.t 36))]⟩,
          ⟨(some 8), none, .alloc [(.int .i64 0), (.int .i64 0), (.str []), (.str []), .snil, .snil]⟩,
          ⟨none, none, .store 6 (.t 8) (.t 37)⟩])
     (.seq (.seq (.reg [40] [⟨(some 38), none, .faddr 0 (.t 3)⟩,
           ⟨(some 39), none, .load none (.t 38)⟩,
           ⟨(some 40), none, .bin .eql .other true (.t 39) (.c (.int .i64 7))⟩])
      (.cond (.t 40) (.seq (.reg [] [⟨(some 41), none, .faddr 2 (.t 3)⟩,
             ⟨(some 42), none, .load none (.t 41)⟩,
             ⟨(some 43), none, .faddr 0 (.t 7)⟩,
             ⟨none, none, .store 1 (.t 43) (.t 42)⟩])
        (.seq (.reg [] [⟨(some 44), none, .faddr 3 (.t 3)⟩,
             ⟨(some 45), none, .load none (.t 44)⟩,
             ⟨(some 46), none, .faddr 1 (.t 7)⟩,
             ⟨none, none, .store 1 (.t 46) (.t 45)⟩])
        (.seq (.reg [] [⟨(some 47), none, .faddr 3 (.t 3)⟩,
             ⟨(some 48), none, .load none (.t 47)⟩,
             ⟨(some 49), none, .faddr 2 (.t 8)⟩,
             ⟨none, none, .store 1 (.t 49) (.t 48)⟩])
        (.seq (.reg [53] [⟨(some 50), none, .faddr 5 (.t 3)⟩,
             ⟨(some 51), none, .load none (.t 50)⟩,
             ⟨(some 52), none, .len .sl (.t 51)⟩,
             ⟨(some 53), none, .bin .gtr .other true (.t 52) (.c (.int .i64 1))⟩])
        (.cond (.t 53) (.reg [] [⟨(some 54), none, .faddr 5 (.t 3)⟩,
              ⟨(some 55), none, .load none (.t 54)⟩,
              ⟨(some 56), none, .slice (.sl (some 6)) (.t 55) none (some (.c (.int .i64 1))) none⟩,
              ⟨(some 57), none, .faddr 5 (.t 8)⟩,
              ⟨none, none, .store 1 (.t 57) (.t 56)⟩])
        .skip)))))
      .skip))
     (.seq (.reg [9] [⟨(some 58), none, .load (some 6) (.t 8)⟩,
          ⟨(some 59), none, .call (.c (.fn 35)) [(.t 58)]⟩,
          ⟨(some 9), none, .mv (.t 59)⟩])
     (.seq (.seq (.reg [10] [⟨(some 10), none, .mv (.c (.int .i64 0))⟩])
      (.block 0 (.loop (.seq (.seq (.reg [63] [⟨(some 60), none, .mv (.t 10)⟩,
              ⟨(some 61), none, .mv (.t 9)⟩,
              ⟨(some 62), none, .len .sl (.t 61)⟩,
              ⟨(some 63), none, .bin .lss .other false (.t 60) (.t 62)⟩])
         (.cond (.t 63) .skip
         (.exit 0)))
        (.seq (.block 1 (.seq (.any [77] [(⟨(some 66), none, .faddr 0 (.t 3)⟩, true),
               (⟨(some 67), none, .load none (.t 66)⟩, true),
               (⟨(some 68), none, .bin .eql .other true (.t 67) (.c (.int .i64 4))⟩, true),
               (⟨(some 69), none, .mv (.t 68)⟩, true),
               (⟨(some 70), (some (69, false)), .mv (.t 9)⟩, true),
               (⟨(some 71), (some (69, false)), .mv (.t 10)⟩, false),
               (⟨(some 72), (some (69, false)), .iaddr none (.t 70) (.t 71)⟩, true),
               (⟨(some 73), (some (69, false)), .load none (.t 72)⟩, true),
               (⟨(some 74), (some (69, false)), .faddr 2 (.t 3)⟩, false),
               (⟨(some 75), (some (69, false)), .load none (.t 74)⟩, false),
               (⟨(some 76), (some (69, false)), .bin .neq .other false (.t 73) (.t 75)⟩, true),
               (⟨(some 77), none, .pick (.t 69) (.c (.bool true)) (.t 76)⟩, true)])
          (.cond (.t 77) (.any [] [(⟨(some 78), none, .faddr 2 (.t 7)⟩, true),
                (⟨(some 79), none, .load none (.t 78)⟩, true),
                (⟨(some 80), none, .mv (.t 9)⟩, false),
                (⟨(some 81), none, .mv (.t 10)⟩, false),
                (⟨(some 82), none, .iaddr none (.t 80) (.t 81)⟩, false),
                (⟨(some 83), none, .load none (.t 82)⟩, false),
                (⟨(some 84), none, .mksl none [(.t 83)]⟩, false),
                (⟨(some 85), none, .append none 16 (.t 79) (.t 84)⟩, true),
                (⟨(some 86), none, .faddr 2 (.t 7)⟩, true),
                (⟨none, none, .store 1 (.t 86) (.t 85)⟩, true)])
          .skip)))
        (.reg [10] [⟨(some 64), none, .mv (.t 10)⟩,
            ⟨(some 65), none, .bin .add .other true (.t 64) (.c (.int .i64 1))⟩,
            ⟨(some 10), none, .mv (.t 65)⟩]))))))
     (.any [] [(⟨(some 87), none, .mv (.t 0)⟩, true),
         (⟨(some 88), none, .mv (.t 0)⟩, false),
         (⟨(some 89), none, .nilck (.t 88)⟩, false),
         (⟨(some 90), none, .faddr 0 (.t 89)⟩, false),
         (⟨(some 91), none, .load none (.t 90)⟩, false),
         (⟨(some 92), none, .load (some 9) (.t 7)⟩, false),
         (⟨(some 93), none, .mksl (some 9) [(.t 92)]⟩, false),
         (⟨(some 94), none, .ext (.appm (some 9) 152) [(.t 91), (.t 93)]⟩, false),
         (⟨(some 95), none, .nilck (.t 87)⟩, true),
         (⟨(some 96), none, .faddr 0 (.t 95)⟩, true),
         (⟨none, none, .store 1 (.t 96) (.t 94)⟩, true)]))))))))
   .skip))
  (.seq (.seq (.reg [11] [⟨(some 11), none, .mv (.c (.int .i64 0))⟩])
   (.block 2 (.loop (.seq (.seq (.reg [101] [⟨(some 97), none, .mv (.t 11)⟩,
           ⟨(some 98), none, .faddr 5 (.t 3)⟩,
           ⟨(some 99), none, .load none (.t 98)⟩,
           ⟨(some 100), none, .len .sl (.t 99)⟩,
           ⟨(some 101), none, .bin .lss .other false (.t 97) (.t 100)⟩])
      (.cond (.t 101) .skip
      (.exit 2)))
     (.seq (.block 3 (.seq (.reg [12] [⟨(some 104), none, .mv (.t 0)⟩,
            ⟨(some 105), none, .faddr 5 (.t 3)⟩,
            ⟨(some 106), none, .load none (.t 105)⟩,
            ⟨(some 107), none, .mv (.t 11)⟩,
            ⟨(some 108), none, .iaddr (some 6) (.t 106) (.t 107)⟩,
            ⟨(some 109), none, .load (some 6) (.t 108)⟩,
            ⟨(some 110), none, .call (.c (.fn 36)) [(.t 104), (.t 109)]⟩,
            ⟨(some 12), none, .alloc [(.int .i64 0), (.int .i64 0), (.str []), (.str []), .snil, .snil]⟩,
            ⟨none, none, .store 6 (.t 12) (.t 110)⟩])
       (.reg [] [⟨(some 111), none, .faddr 5 (.t 5)⟩,
           ⟨(some 112), none, .load none (.t 111)⟩,
           ⟨(some 113), none, .load (some 6) (.t 12)⟩,
           ⟨(some 114), none, .mksl (some 6) [(.t 113)]⟩,
           ⟨(some 115), none, .append (some 6) 96 (.t 112) (.t 114)⟩,
           ⟨(some 116), none, .faddr 5 (.t 5)⟩,
           ⟨none, none, .store 1 (.t 116) (.t 115)⟩])))
     (.reg [11] [⟨(some 102), none, .mv (.t 11)⟩,
         ⟨(some 103), none, .bin .add .other true (.t 102) (.c (.int .i64 1))⟩,
         ⟨(some 11), none, .mv (.t 103)⟩]))))))
  (.seq (.seq (.reg [124] [⟨(some 117), none, .mv (.t 6)⟩,
        ⟨(some 118), none, .bin .geq .other true (.t 117) (.c (.int .i64 0))⟩,
        ⟨(some 119), none, .mv (.t 118)⟩,
        ⟨(some 120), (some (119, true)), .faddr 5 (.t 5)⟩,
        ⟨(some 121), (some (119, true)), .load none (.t 120)⟩,
        ⟨(some 122), (some (119, true)), .len .sl (.t 121)⟩,
        ⟨(some 123), (some (119, true)), .bin .gtr .other true (.t 122) (.c (.int .i64 0))⟩,
        ⟨(some 124), none, .pick (.t 119) (.t 123) (.c (.bool false))⟩])
   (.cond (.t 124) (.any [] [(⟨(some 125), none, .mv (.t 0)⟩, true),
         (⟨(some 126), none, .nilck (.t 125)⟩, true),
         (⟨(some 127), none, .faddr 0 (.t 126)⟩, true),
         (⟨(some 128), none, .load none (.t 127)⟩, true),
         (⟨(some 129), none, .mv (.t 6)⟩, false),
         (⟨(some 130), none, .faddr 5 (.t 5)⟩, false),
         (⟨(some 131), none, .load none (.t 130)⟩, false),
         (⟨(some 132), none, .iaddr (some 6) (.t 131) (.c (.int .i64 0))⟩, false),
         (⟨(some 133), none, .load (some 6) (.t 132)⟩, false),
         (⟨(some 134), none, .iaddr (some 9) (.t 128) (.t 129)⟩, true),
         (⟨(some 135), none, .faddr 3 (.t 134)⟩, true),
         (⟨none, none, .store 6 (.t 135) (.t 133)⟩, true)])
   .skip))
  (.seq (.reg [] [⟨(some 136), none, .load (some 6) (.t 5)⟩,
       ⟨none, none, .store 6 (.t 4) (.t 136)⟩])
  .ret))))))))⟩
theorem c36m : compF Try.prog [0, 1, 3, 4, 5, 6, 7, 8, 9, 10, 11, 12, 22, 40, 53, 63, 77, 101, 124] Try.f36 [94] = some a36m := by kernel_rfl

/- bushel/bushelref14.texts -/
def a38 : AFun := ⟨26, [.tmp 4], (.seq (.reg [4] [⟨(some 4), none, .mv (.c (.bool false))⟩])
  (.seq (.seq (.reg [10] [⟨(some 6), none, .mv (.t 0)⟩,
        ⟨(some 7), none, .len .sl (.t 6)⟩,
        ⟨(some 8), none, .mv (.t 1)⟩,
        ⟨(some 9), none, .len .sl (.t 8)⟩,
        ⟨(some 10), none, .bin .neq .other false (.t 7) (.t 9)⟩])
   (.cond (.t 10) (.seq (.reg [4] [⟨(some 4), none, .mv (.c (.bool false))⟩])
     .ret)
   .skip))
  (.seq (.seq (.reg [5] [⟨(some 5), none, .mv (.c (.int .i64 0))⟩])
   (.block 0 (.loop (.seq (.seq (.reg [14] [⟨(some 11), none, .mv (.t 5)⟩,
           ⟨(some 12), none, .mv (.t 0)⟩,
           ⟨(some 13), none, .len .sl (.t 12)⟩,
           ⟨(some 14), none, .bin .lss .other false (.t 11) (.t 13)⟩])
      (.cond (.t 14) .skip
      (.exit 0)))
     (.seq (.block 1 (.seq (.any [25] [(⟨(some 17), none, .mv (.t 0)⟩, true),
            (⟨(some 18), none, .mv (.t 5)⟩, false),
            (⟨(some 19), none, .iaddr none (.t 17) (.t 18)⟩, true),
            (⟨(some 20), none, .load none (.t 19)⟩, true),
            (⟨(some 21), none, .mv (.t 1)⟩, false),
            (⟨(some 22), none, .mv (.t 5)⟩, false),
            (⟨(some 23), none, .iaddr none (.t 21) (.t 22)⟩, false),
            (⟨(some 24), none, .load none (.t 23)⟩, false),
            (⟨(some 25), none, .bin .neq .other false (.t 20) (.t 24)⟩, true)])
       (.cond (.t 25) (.seq (.reg [4] [⟨(some 4), none, .mv (.c (.bool false))⟩])
         .ret)
       .skip)))
     (.reg [5] [⟨(some 15), none, .mv (.t 5)⟩,
         ⟨(some 16), none, .bin .add .other true (.t 15) (.c (.int .i64 1))⟩,
         ⟨(some 5), none, .mv (.t 16)⟩]))))))
  (.seq (.reg [4] [⟨(some 4), none, .mv (.c (.bool true))⟩])
  .ret))))⟩
theorem c38 : compF Try.prog [0, 1, 4, 5, 10, 14, 25] Try.f38 = some a38 := by kernel_rfl

/- bushel/bushelref14.Parts -/
def a39 : AFun := ⟨48, [.tmp 2], (.seq (.reg [1, 2] [⟨(some 1), none, .box (.t 0)⟩,
       ⟨(some 2), none, .mv (.c (.int .i64 0))⟩])
  (.seq (.seq (.reg [5] [⟨(some 4), none, .faddr 0 (.t 1)⟩,
        ⟨(some 5), none, .load none (.t 4)⟩])
   (.block 0 (.seq (.seq (.reg [6] [⟨(some 7), none, .bin .eql .other true (.t 5) (.c (.int .i64 1))⟩,
          ⟨(some 6), none, .mv (.t 7)⟩])
     (.cond (.t 6) .skip
     (.seq (.reg [6] [⟨(some 8), none, .bin .eql .other true (.t 5) (.c (.int .i64 2))⟩,
          ⟨(some 6), none, .mv (.t 8)⟩])
     (.cond (.t 6) .skip
     (.seq (.reg [6] [⟨(some 9), none, .bin .eql .other true (.t 5) (.c (.int .i64 3))⟩,
          ⟨(some 6), none, .mv (.t 9)⟩])
     (.cond (.t 6) .skip
     (.reg [6] [⟨(some 10), none, .bin .eql .other true (.t 5) (.c (.int .i64 22))⟩,
         ⟨(some 6), none, .mv (.t 10)⟩])))))))
    (.cond (.t 6) (.seq (.reg [2] [⟨(some 2), none, .mv (.c (.int .i64 0))⟩])
      .ret)
    (.seq (.seq (.reg [11] [⟨(some 12), none, .bin .eql .other true (.t 5) (.c (.int .i64 4))⟩,
          ⟨(some 11), none, .mv (.t 12)⟩])
     (.cond (.t 11) .skip
     (.seq (.reg [11] [⟨(some 13), none, .bin .eql .other true (.t 5) (.c (.int .i64 17))⟩,
          ⟨(some 11), none, .mv (.t 13)⟩])
     (.cond (.t 11) .skip
     (.seq (.reg [11] [⟨(some 14), none, .bin .eql .other true (.t 5) (.c (.int .i64 18))⟩,
          ⟨(some 11), none, .mv (.t 14)⟩])
     (.cond (.t 11) .skip
     (.seq (.reg [11] [⟨(some 15), none, .bin .eql .other true (.t 5) (.c (.int .i64 20))⟩,
          ⟨(some 11), none, .mv (.t 15)⟩])
     (.cond (.t 11) .skip
     (.reg [11] [⟨(some 16), none, .bin .eql .other true (.t 5) (.c (.int .i64 21))⟩,
         ⟨(some 11), none, .mv (.t 16)⟩])))))))))
    (.cond (.t 11) (.seq (.reg [2] [⟨(some 2), none, .mv (.c (.int .i64 1))⟩])
      .ret)
    (.seq (.seq (.reg [17] [⟨(some 18), none, .bin .eql .other true (.t 5) (.c (.int .i64 5))⟩,
          ⟨(some 17), none, .mv (.t 18)⟩])
     (.cond (.t 17) .skip
     (.seq (.reg [17] [⟨(some 19), none, .bin .eql .other true (.t 5) (.c (.int .i64 6))⟩,
          ⟨(some 17), none, .mv (.t 19)⟩])
     (.cond (.t 17) .skip
     (.seq (.reg [17] [⟨(some 20), none, .bin .eql .other true (.t 5) (.c (.int .i64 7))⟩,
          ⟨(some 17), none, .mv (.t 20)⟩])
     (.cond (.t 17) .skip
     (.seq (.reg [17] [⟨(some 21), none, .bin .eql .other true (.t 5) (.c (.int .i64 9))⟩,
          ⟨(some 17), none, .mv (.t 21)⟩])
     (.cond (.t 17) .skip
     (.seq (.reg [17] [⟨(some 22), none, .bin .eql .other true (.t 5) (.c (.int .i64 11))⟩,
          ⟨(some 17), none, .mv (.t 22)⟩])
     (.cond (.t 17) .skip
     (.seq (.reg [17] [⟨(some 23), none, .bin .eql .other true (.t 5) (.c (.int .i64 13))⟩,
          ⟨(some 17), none, .mv (.t 23)⟩])
     (.cond (.t 17) .skip
     (.seq (.reg [17] [⟨(some 24), none, .bin .eql .other true (.t 5) (.c (.int .i64 16))⟩,
          ⟨(some 17), none, .mv (.t 24)⟩])
     (.cond (.t 17) .skip
     (.reg [17] [⟨(some 25), none, .bin .eql .other true (.t 5) (.c (.int .i64 19))⟩,
         ⟨(some 17), none, .mv (.t 25)⟩])))))))))))))))
    (.cond (.t 17) (.seq (.reg [2] [⟨(some 2), none, .mv (.c (.int .i64 2))⟩])
      .ret)
    (.seq (.seq (.reg [26] [⟨(some 27), none, .bin .eql .other true (.t 5) (.c (.int .i64 10))⟩,
          ⟨(some 26), none, .mv (.t 27)⟩])
     (.cond (.t 26) .skip
     (.seq (.reg [26] [⟨(some 28), none, .bin .eql .other true (.t 5) (.c (.int .i64 12))⟩,
          ⟨(some 26), none, .mv (.t 28)⟩])
     (.cond (.t 26) .skip
     (.reg [26] [⟨(some 29), none, .bin .eql .other true (.t 5) (.c (.int .i64 15))⟩,
         ⟨(some 26), none, .mv (.t 29)⟩])))))
    (.cond (.t 26) (.seq (.reg [2] [⟨(some 2), none, .mv (.c (.int .i64 3))⟩])
      .ret)
    (.seq (.reg [30] [⟨(some 31), none, .bin .eql .other true (.t 5) (.c (.int .i64 8))⟩,
         ⟨(some 30), none, .mv (.t 31)⟩])
    (.cond (.t 30) (.seq (.reg [2] [⟨(some 32), none, .faddr 5 (.t 1)⟩,
           ⟨(some 33), none, .load none (.t 32)⟩,
           ⟨(some 34), none, .len .sl (.t 33)⟩,
           ⟨(some 2), none, .mv (.t 34)⟩])
      .ret)
    (.seq (.reg [35] [⟨(some 36), none, .bin .eql .other true (.t 5) (.c (.int .i64 14))⟩,
         ⟨(some 35), none, .mv (.t 36)⟩])
    (.cond (.t 35) (.seq (.reg [3] [⟨(some 37), none, .faddr 4 (.t 1)⟩,
           ⟨(some 38), none, .load none (.t 37)⟩,
           ⟨(some 39), none, .len .sl (.t 38)⟩,
           ⟨(some 40), none, .bin .mul .other true (.c (.int .i64 2)) (.t 39)⟩,
           ⟨(some 41), none, .bin .add .other true (.c (.int .i64 1)) (.t 40)⟩,
           ⟨(some 3), none, .mv (.t 41)⟩])
      (.seq (.seq (.reg [44] [⟨(some 42), none, .faddr 3 (.t 1)⟩,
            ⟨(some 43), none, .load none (.t 42)⟩,
            ⟨(some 44), none, .bin .neq .other true (.t 43) (.c (.str []))⟩])
       (.cond (.t 44) (.reg [3] [⟨(some 45), none, .mv (.t 3)⟩,
             ⟨(some 46), none, .bin .add .other true (.t 45) (.c (.int .i64 1))⟩,
             ⟨(some 3), none, .mv (.t 46)⟩])
       .skip))
      (.seq (.reg [2] [⟨(some 47), none, .mv (.t 3)⟩,
           ⟨(some 2), none, .mv (.t 47)⟩])
      .ret)))
    .skip))))))))))))))
  (.seq (.reg [2] [⟨(some 2), none, .mv (.c (.int .i64 (-1)))⟩])
  .ret)))⟩
theorem c39 : compF Try.prog [0, 1, 2, 3, 5, 6, 11, 17, 26, 30, 35, 44] Try.f39 = some a39 := by kernel_rfl

/- maps.Keys[map[string]bool,string,bool] -/
def a42 : AFun := ⟨4, [.tmp 2], (.seq (.reg [1, 2] [⟨(some 1), none, .box (.t 0)⟩,
       ⟨(some 2), none, .mv (.c .fnil)⟩])
  (.seq (.reg [2] [⟨(some 3), none, .mkfn 57 [(.t 1)]⟩,
       ⟨(some 2), none, .mv (.t 3)⟩])
  .ret))⟩
theorem c42 : compF Try.prog [0, 1, 2] Try.f42 = some a42 := by kernel_rfl

/- bushel/core.free -/
def a43 : AFun := ⟨42, [.tmp 2], (.seq (.reg [1, 2] [⟨(some 1), none, .box (.t 0)⟩,
       ⟨(some 2), none, .mv (.c .mnil)⟩])
  (.seq (.reg [3] [⟨(some 9), none, .ext .mkmap []⟩,
       ⟨(some 3), none, .mv (.t 9)⟩])
  (.seq (.seq (.reg [12] [⟨(some 10), none, .faddr 0 (.t 1)⟩,
        ⟨(some 11), none, .load none (.t 10)⟩,
        ⟨(some 12), none, .bin .eql .other true (.t 11) (.c (.int .i64 3))⟩])
   (.cond (.t 12) (.reg [] [⟨(some 13), none, .mv (.t 3)⟩,
         ⟨(some 14), none, .faddr 2 (.t 1)⟩,
         ⟨(some 15), none, .load none (.t 14)⟩,
         ⟨none, none, .ext (.mput .str) [(.t 13), (.t 15), (.c (.bool true))]⟩])
   .skip))
  (.seq (.seq (.reg [17, 18, 19] [⟨(some 16), none, .faddr 5 (.t 1)⟩,
        ⟨(some 17), none, .load none (.t 16)⟩,
        ⟨(some 18), none, .len .sl (.t 17)⟩,
        ⟨(some 19), none, .mv (.c (.int .i64 0))⟩])
   (.block 0 (.loop (.seq (.reg [20] [⟨(some 20), none, .bin .lss .other false (.t 19) (.t 18)⟩])
     (.seq (.cond (.t 20) .skip
      (.exit 0))
     (.seq (.block 1 (.seq (.reg [5, 4] [⟨(some 21), none, .mv (.t 19)⟩,
            ⟨(some 22), none, .iaddr (some 6) (.t 17) (.t 19)⟩,
            ⟨(some 23), none, .load (some 6) (.t 22)⟩,
            ⟨(some 5), none, .alloc [(.int .i64 0), (.int .i64 0), (.str []), (.str []), .snil, .snil]⟩,
            ⟨(some 4), none, .mv (.t 21)⟩,
            ⟨none, none, .store 6 (.t 5) (.t 23)⟩])
       (.seq (.reg [6] [⟨(some 24), none, .load (some 6) (.t 5)⟩,
            ⟨(some 25), none, .call (.c (.fn 43)) [(.t 24)]⟩,
            ⟨(some 6), none, .mv (.t 25)⟩])
       (.seq (.seq (.reg [28, 29, 30] [⟨(some 26), none, .load (some 6) (.t 1)⟩,
             ⟨(some 27), none, .mv (.t 4)⟩,
             ⟨(some 28), none, .call (.c (.fn 58)) [(.t 26), (.t 27)]⟩,
             ⟨(some 29), none, .len .sl (.t 28)⟩,
             ⟨(some 30), none, .mv (.c (.int .i64 0))⟩])
        (.block 2 (.loop (.seq (.reg [31] [⟨(some 31), none, .bin .lss .other false (.t 30) (.t 29)⟩])
          (.seq (.cond (.t 31) .skip
           (.exit 2))
          (.seq (.block 3 (.seq (.reg [8] [⟨(some 32), none, .iaddr none (.t 28) (.t 30)⟩,
                 ⟨(some 33), none, .load none (.t 32)⟩,
                 ⟨(some 8), none, .mv (.t 33)⟩])
            (.reg [] [⟨(some 34), none, .mv (.t 6)⟩,
                ⟨(some 35), none, .mv (.t 8)⟩,
                ⟨none, none, .ext (.mdel .str) [(.t 34), (.t 35)]⟩])))
          (.reg [30] [⟨(some 36), none, .bin .add .other true (.t 30) (.c (.int .i64 1))⟩,
              ⟨(some 30), none, .mv (.t 36)⟩])))))))
       (.reg [] [⟨(some 37), none, .mv (.t 3)⟩,
           ⟨(some 38), none, .mv (.t 6)⟩,
           ⟨(some 39), none, .call (.c (.fn 59)) [(.t 37), (.t 38)]⟩])))))
     (.reg [19] [⟨(some 40), none, .bin .add .other true (.t 19) (.c (.int .i64 1))⟩,
         ⟨(some 19), none, .mv (.t 40)⟩])))))))
  (.seq (.reg [2] [⟨(some 41), none, .mv (.t 3)⟩,
       ⟨(some 2), none, .mv (.t 41)⟩])
  .ret)))))⟩
theorem c43 : compF Try.prog [0, 1, 2, 3, 4, 5, 6, 8, 12, 17, 18, 19, 20, 28, 29, 30, 31] Try.f43 = some a43 := by kernel_rfl

/- (*bushel/close.closer).function -/
def a54m : AFun := ⟨65, [.tmp 4], (.seq (.reg [3, 4] [⟨(some 3), none, .box (.t 1)⟩,
       ⟨(some 4), none, .mv (.c (.int .i64 0))⟩])
  (.seq (.reg [5] [⟨(some 7), none, .faddr 2 (.t 3)⟩,
       ⟨(some 8), none, .load none (.t 7)⟩,
       ⟨(some 9), none, .build [(.str []), (.str []), .snil, (.int .i64 0), (.int .i64 0), (.str []), (.str []), .snil, .snil] [(1, 1, (.t 8))]⟩,
       ⟨(some 5), none, .alloc [(.str []), (.str []), .snil, (.int .i64 0), (.int .i64 0), (.str []), (.str []), .snil, .snil]⟩,
       ⟨none, none, .store 9 (.t 5) (.t 9)⟩])
  (.seq (.reg [6] [⟨(some 10), none, .load (some 6) (.t 3)⟩,
       ⟨(some 11), none, .call (.c (.fn 15)) [(.t 10)]⟩,
       ⟨(some 6), none, .mv (.t 11)⟩])
  (.seq (.seq (.reg [14] [⟨(some 12), none, .faddr 0 (.t 3)⟩,
        ⟨(some 13), none, .load none (.t 12)⟩,
        ⟨(some 14), none, .bin .eql .other true (.t 13) (.c (.int .i64 7))⟩])
   (.cond (.t 14) (.seq (.any [] [(⟨(some 15), none, .faddr 2 (.t 3)⟩, true),
          (⟨(some 16), none, .load none (.t 15)⟩, true),
          (⟨(some 17), none, .faddr 3 (.t 3)⟩, false),
          (⟨(some 18), none, .load none (.t 17)⟩, false),
          (⟨(some 19), none, .faddr 0 (.t 5)⟩, false),
          (⟨none, none, .store 1 (.t 19) (.t 16)⟩, false),
          (⟨(some 20), none, .faddr 1 (.t 5)⟩, true),
          (⟨none, none, .store 1 (.t 20) (.t 18)⟩, true)])
     (.seq (.reg [] [⟨(some 21), none, .mv (.t 0)⟩,
          ⟨(some 22), none, .mv (.t 0)⟩,
          ⟨(some 23), none, .nilck (.t 22)⟩,
          ⟨(some 24), none, .faddr 1 (.t 23)⟩,
          ⟨(some 25), none, .load none (.t 24)⟩,
          ⟨(some 26), none, .mv (.t 25)⟩,
          ⟨(some 27), (some (26, false)), .faddr 2 (.t 3)⟩,
          ⟨(some 28), (some (26, false)), .load none (.t 27)⟩,
          ⟨(some 29), (some (26, false)), .bin .eql .other true (.t 28) (.c (.str []))⟩,
          ⟨(some 30), none, .pick (.t 26) (.c (.bool true)) (.t 29)⟩,
          ⟨(some 31), none, .nilck (.t 21)⟩,
          ⟨(some 32), none, .faddr 1 (.t 31)⟩,
          ⟨none, none, .store 1 (.t 32) (.t 30)⟩])
     (.seq (.any [6] [(⟨(some 33), none, .faddr 3 (.t 3)⟩, true),
          (⟨(some 34), none, .load none (.t 33)⟩, true),
          (⟨(some 35), none, .faddr 5 (.t 3)⟩, false),
          (⟨(some 36), none, .load none (.t 35)⟩, false),
          (⟨(some 37), none, .faddr 5 (.t 3)⟩, false),
          (⟨(some 38), none, .load none (.t 37)⟩, false),
          (⟨(some 39), none, .len .sl (.t 38)⟩, false),
          (⟨(some 40), none, .min [(.t 39), (.c (.int .i64 1))]⟩, false),
          (⟨(some 41), none, .slice (.sl (some 6)) (.t 36) none (some (.t 40)) none⟩, false),
          (⟨(some 42), none, .build [(.int .i64 0), (.int .i64 0), (.str []), (.str []), .snil, .snil] [(0, 1, (.c (.int .i64 4))), (2, 1, (.t 34)), (5, 1, (.t 41))]⟩, true),
          (⟨(some 43), none, .call (.c (.fn 15)) [(.t 42)]⟩, true),
          (⟨(some 6), none, .mv (.t 43)⟩, true)])
     (.reg [6] [⟨(some 44), none, .mv (.t 6)⟩,
         ⟨(some 45), none, .mkfn 68 [(.t 3)]⟩,
         ⟨(some 46), none, .call (.c (.fn 51)) [(.t 44), (.t 45)]⟩,
         ⟨(some 6), none, .mv (.t 46)⟩]))))
   .skip))
  (.seq (.reg [] [⟨(some 47), none, .mv (.t 6)⟩,
       ⟨(some 48), none, .faddr 2 (.t 5)⟩,
       ⟨none, none, .store 1 (.t 48) (.t 47)⟩])
  (.seq (.any [] [(⟨(some 49), none, .mv (.t 0)⟩, true),
       (⟨(some 50), none, .mv (.t 0)⟩, false),
       (⟨(some 51), none, .nilck (.t 50)⟩, false),
       (⟨(some 52), none, .faddr 0 (.t 51)⟩, false),
       (⟨(some 53), none, .load none (.t 52)⟩, false),
       (⟨(some 54), none, .load (some 9) (.t 5)⟩, false),
       (⟨(some 55), none, .mksl (some 9) [(.t 54)]⟩, false),
       (⟨(some 56), none, .ext (.appm (some 9) 152) [(.t 53), (.t 55)]⟩, false),
       (⟨(some 57), none, .nilck (.t 49)⟩, true),
       (⟨(some 58), none, .faddr 0 (.t 57)⟩, true),
       (⟨none, none, .store 1 (.t 58) (.t 56)⟩, true)])
  (.seq (.reg [4] [⟨(some 59), none, .mv (.t 0)⟩,
       ⟨(some 60), none, .nilck (.t 59)⟩,
       ⟨(some 61), none, .faddr 0 (.t 60)⟩,
       ⟨(some 62), none, .load none (.t 61)⟩,
       ⟨(some 63), none, .len .sl (.t 62)⟩,
       ⟨(some 64), none, .bin .sub .other true (.t 63) (.c (.int .i64 1))⟩,
       ⟨(some 4), none, .mv (.t 64)⟩])
  .ret)))))))⟩
theorem c54m : compF Try.prog [0, 1, 3, 4, 5, 6, 14] Try.f54 [56] = some a54m := by kernel_rfl

/- bushel/bushelref14.free -/
def a55 : AFun := ⟨52, [.tmp 2], (.seq (.reg [1, 2] [⟨(some 1), none, .box (.t 0)⟩,
       ⟨(some 2), none, .mv (.c .snil)⟩])
  (.seq (.reg [3] [⟨(some 3), none, .mv (.c .snil)⟩])
  (.seq (.seq (.reg [10] [⟨(some 8), none, .faddr 0 (.t 1)⟩,
        ⟨(some 9), none, .load none (.t 8)⟩,
        ⟨(some 10), none, .bin .eql .other true (.t 9) (.c (.int .i64 3))⟩])
   (.cond (.t 10) (.reg [3] [⟨(some 11), none, .mv (.t 3)⟩,
         ⟨(some 12), none, .faddr 2 (.t 1)⟩,
         ⟨(some 13), none, .load none (.t 12)⟩,
         ⟨(some 14), none, .mksl none [(.t 13)]⟩,
         ⟨(some 15), none, .append none 16 (.t 11) (.t 14)⟩,
         ⟨(some 3), none, .mv (.t 15)⟩])
   .skip))
  (.seq (.seq (.reg [4] [⟨(some 4), none, .mv (.c (.int .i64 0))⟩])
   (.block 0 (.loop (.seq (.seq (.reg [20] [⟨(some 16), none, .mv (.t 4)⟩,
           ⟨(some 17), none, .faddr 5 (.t 1)⟩,
           ⟨(some 18), none, .load none (.t 17)⟩,
           ⟨(some 19), none, .len .sl (.t 18)⟩,
           ⟨(some 20), none, .bin .lss .other false (.t 16) (.t 19)⟩])
      (.cond (.t 20) .skip
      (.exit 0)))
     (.seq (.block 1 (.seq (.reg [5] [⟨(some 23), none, .faddr 5 (.t 1)⟩,
            ⟨(some 24), none, .load none (.t 23)⟩,
            ⟨(some 25), none, .mv (.t 4)⟩,
            ⟨(some 26), none, .iaddr (some 6) (.t 24) (.t 25)⟩,
            ⟨(some 27), none, .load (some 6) (.t 26)⟩,
            ⟨(some 28), none, .call (.c (.fn 55)) [(.t 27)]⟩,
            ⟨(some 5), none, .mv (.t 28)⟩])
       (.seq (.reg [6] [⟨(some 6), none, .mv (.c (.int .i64 0))⟩])
       (.block 2 (.loop (.seq (.seq (.reg [32] [⟨(some 29), none, .mv (.t 6)⟩,
               ⟨(some 30), none, .mv (.t 5)⟩,
               ⟨(some 31), none, .len .sl (.t 30)⟩,
               ⟨(some 32), none, .bin .lss .other false (.t 29) (.t 31)⟩])
          (.cond (.t 32) .skip
          (.exit 2)))
         (.seq (.block 3 (.seq (.any [7] [(⟨(some 35), none, .load (some 6) (.t 1)⟩, true),
                (⟨(some 36), none, .mv (.t 4)⟩, false),
                (⟨(some 37), none, .mv (.t 5)⟩, false),
                (⟨(some 38), none, .mv (.t 6)⟩, false),
                (⟨(some 39), none, .iaddr none (.t 37) (.t 38)⟩, false),
                (⟨(some 40), none, .load none (.t 39)⟩, false),
                (⟨(some 41), none, .call (.c (.fn 69)) [(.t 35), (.t 36), (.t 40)]⟩, true),
                (⟨(some 7), none, .mv (.t 41)⟩, true)])
           (.seq (.reg [43] [⟨(some 42), none, .mv (.t 7)⟩,
                ⟨(some 43), none, .un .not (.t 42)⟩])
           (.cond (.t 43) (.reg [3] [⟨(some 44), none, .mv (.t 3)⟩,
                 ⟨(some 45), none, .mv (.t 5)⟩,
                 ⟨(some 46), none, .mv (.t 6)⟩,
                 ⟨(some 47), none, .iaddr none (.t 45) (.t 46)⟩,
                 ⟨(some 48), none, .load none (.t 47)⟩,
                 ⟨(some 49), none, .mksl none [(.t 48)]⟩,
                 ⟨(some 50), none, .append none 16 (.t 44) (.t 49)⟩,
                 ⟨(some 3), none, .mv (.t 50)⟩])
           .skip))))
         (.reg [6] [⟨(some 33), none, .mv (.t 6)⟩,
             ⟨(some 34), none, .bin .add .other true (.t 33) (.c (.int .i64 1))⟩,
             ⟨(some 6), none, .mv (.t 34)⟩]))))))))
     (.reg [4] [⟨(some 21), none, .mv (.t 4)⟩,
         ⟨(some 22), none, .bin .add .other true (.t 21) (.c (.int .i64 1))⟩,
         ⟨(some 4), none, .mv (.t 22)⟩]))))))
  (.seq (.reg [2] [⟨(some 51), none, .mv (.t 3)⟩,
       ⟨(some 2), none, .mv (.t 51)⟩])
  .ret)))))⟩
theorem c55 : compF Try.prog [0, 1, 2, 3, 4, 5, 6, 7, 10, 20, 32, 43] Try.f55 = some a55 := by kernel_rfl

/- bushel/core.binds -/
def a58 : AFun := ⟨79, [.tmp 4], (.seq (.reg [2, 4] [⟨(some 2), none, .box (.t 0)⟩,
       ⟨(some 4), none, .mv (.c .snil)⟩])
  (.seq (.block 0 (.seq (.reg [5] [⟨(some 6), none, .faddr 0 (.t 2)⟩,
         ⟨(some 7), none, .load none (.t 6)⟩,
         ⟨(some 8), none, .bin .eql .other true (.t 7) (.c (.int .i64 4))⟩,
         ⟨(some 9), none, .mv (.t 8)⟩,
         ⟨(some 10), (some (9, true)), .mv (.t 1)⟩,
         ⟨(some 11), (some (9, true)), .bin .eql .other true (.t 10) (.c (.int .i64 0))⟩,
         ⟨(some 12), none, .pick (.t 9) (.t 11) (.c (.bool false))⟩,
         ⟨(some 13), none, .mv (.t 12)⟩,
         ⟨(some 14), (some (13, false)), .faddr 0 (.t 2)⟩,
         ⟨(some 15), (some (13, false)), .load none (.t 14)⟩,
         ⟨(some 16), (some (13, false)), .bin .eql .other true (.t 15) (.c (.int .i64 6))⟩,
         ⟨(some 17), (some (13, false)), .mv (.t 16)⟩,
         ⟨(some 18), (some (17, true)), .mv (.t 1)⟩,
         ⟨(some 19), (some (17, true)), .bin .eql .other true (.t 18) (.c (.int .i64 1))⟩,
         ⟨(some 20), (some (13, false)), .pick (.t 17) (.t 19) (.c (.bool false))⟩,
         ⟨(some 21), none, .pick (.t 13) (.c (.bool true)) (.t 20)⟩,
         ⟨(some 22), none, .mv (.t 21)⟩,
         ⟨(some 23), (some (22, false)), .faddr 0 (.t 2)⟩,
         ⟨(some 24), (some (22, false)), .load none (.t 23)⟩,
         ⟨(some 25), (some (22, false)), .bin .eql .other true (.t 24) (.c (.int .i64 7))⟩,
         ⟨(some 26), (some (22, false)), .mv (.t 25)⟩,
         ⟨(some 27), (some (26, true)), .mv (.t 1)⟩,
         ⟨(some 28), (some (26, true)), .bin .eql .other true (.t 27) (.c (.int .i64 1))⟩,
         ⟨(some 29), (some (22, false)), .pick (.t 26) (.t 28) (.c (.bool false))⟩,
         ⟨(some 30), none, .pick (.t 22) (.c (.bool true)) (.t 29)⟩,
         ⟨(some 5), none, .mv (.t 30)⟩])
    (.cond (.t 5) (.seq (.reg [4] [⟨(some 31), none, .faddr 2 (.t 2)⟩,
           ⟨(some 32), none, .load none (.t 31)⟩,
           ⟨(some 33), none, .mksl none [(.t 32)]⟩,
           ⟨(some 4), none, .mv (.t 33)⟩])
      .ret)
    (.seq (.reg [34] [⟨(some 35), none, .faddr 0 (.t 2)⟩,
         ⟨(some 36), none, .load none (.t 35)⟩,
         ⟨(some 37), none, .bin .eql .other true (.t 36) (.c (.int .i64 7))⟩,
         ⟨(some 38), none, .mv (.t 37)⟩,
         ⟨(some 39), (some (38, true)), .mv (.t 1)⟩,
         ⟨(some 40), (some (38, true)), .bin .eql .other true (.t 39) (.c (.int .i64 0))⟩,
         ⟨(some 41), none, .pick (.t 38) (.t 40) (.c (.bool false))⟩,
         ⟨(some 34), none, .mv (.t 41)⟩])
    (.cond (.t 34) (.seq (.reg [4] [⟨(some 42), none, .faddr 2 (.t 2)⟩,
           ⟨(some 43), none, .load none (.t 42)⟩,
           ⟨(some 44), none, .faddr 3 (.t 2)⟩,
           ⟨(some 45), none, .load none (.t 44)⟩,
           ⟨(some 46), none, .mksl none [(.t 43), (.t 45)]⟩,
           ⟨(some 4), none, .mv (.t 46)⟩])
      .ret)
    (.seq (.reg [47] [⟨(some 48), none, .faddr 0 (.t 2)⟩,
         ⟨(some 49), none, .load none (.t 48)⟩,
         ⟨(some 50), none, .bin .neq .other true (.t 49) (.c (.int .i64 14))⟩,
         ⟨(some 51), none, .mv (.t 50)⟩,
         ⟨(some 52), (some (51, false)), .mv (.t 1)⟩,
         ⟨(some 53), (some (51, false)), .bin .eql .other true (.t 52) (.c (.int .i64 0))⟩,
         ⟨(some 54), none, .pick (.t 51) (.c (.bool true)) (.t 53)⟩,
         ⟨(some 47), none, .mv (.t 54)⟩])
    (.cond (.t 47) (.seq (.reg [4] [⟨(some 4), none, .mv (.c .snil)⟩])
      .ret)
    (.seq (.reg [55] [⟨(some 56), none, .mv (.t 1)⟩,
         ⟨(some 57), none, .bin .sub .other true (.t 56) (.c (.int .i64 1))⟩,
         ⟨(some 58), none, .bin .quo .other true (.t 57) (.c (.int .i64 2))⟩,
         ⟨(some 59), none, .faddr 4 (.t 2)⟩,
         ⟨(some 60), none, .load none (.t 59)⟩,
         ⟨(some 61), none, .len .sl (.t 60)⟩,
         ⟨(some 62), none, .bin .lss .other false (.t 58) (.t 61)⟩,
         ⟨(some 55), none, .mv (.t 62)⟩])
    (.cond (.t 55) (.seq (.seq (.reg [65] [⟨(some 63), none, .mv (.t 1)⟩,
            ⟨(some 64), none, .bin .rem .other true (.t 63) (.c (.int .i64 2))⟩,
            ⟨(some 65), none, .bin .eql .other true (.t 64) (.c (.int .i64 0))⟩])
       (.cond (.t 65) (.seq (.reg [4] [⟨(some 66), none, .faddr 4 (.t 2)⟩,
              ⟨(some 67), none, .load none (.t 66)⟩,
              ⟨(some 68), none, .mv (.t 1)⟩,
              ⟨(some 69), none, .bin .sub .other true (.t 68) (.c (.int .i64 1))⟩,
              ⟨(some 70), none, .bin .quo .other true (.t 69) (.c (.int .i64 2))⟩,
              ⟨(some 71), none, .mv (.t 1)⟩,
              ⟨(some 72), none, .bin .sub .other true (.t 71) (.c (.int .i64 1))⟩,
              ⟨(some 73), none, .bin .quo .other true (.t 72) (.c (.int .i64 2))⟩,
              ⟨(some 74), none, .bin .add .other true (.t 73) (.c (.int .i64 1))⟩,
              ⟨(some 75), none, .slice (.sl none) (.t 67) (some (.t 70)) (some (.t 74)) none⟩,
              ⟨(some 4), none, .mv (.t 75)⟩])
         .ret)
       .skip))
      (.seq (.reg [4] [⟨(some 4), none, .mv (.c .snil)⟩])
      .ret))
    .skip)))))))))
  (.seq (.reg [4] [⟨(some 76), none, .faddr 3 (.t 2)⟩,
       ⟨(some 77), none, .load none (.t 76)⟩,
       ⟨(some 78), none, .mksl none [(.t 77)]⟩,
       ⟨(some 4), none, .mv (.t 78)⟩])
  .ret)))⟩
theorem c58 : compF Try.prog [0, 1, 2, 4, 5, 34, 47, 55, 65] Try.f58 = some a58 := by kernel_rfl

/- (*bushel/close.closer).function$1 -/
def a68 : AFun := ⟨8, [.tmp 3], (.seq (.reg [3] [⟨(some 3), none, .mv (.c (.bool false))⟩])
  (.seq (.reg [3] [⟨(some 4), none, .mv (.t 0)⟩,
       ⟨(some 5), none, .faddr 2 (.t 1)⟩,
       ⟨(some 6), none, .load none (.t 5)⟩,
       ⟨(some 7), none, .bin .eql .other false (.t 4) (.t 6)⟩,
       ⟨(some 3), none, .mv (.t 7)⟩])
  .ret))⟩
theorem c68 : compF Try.prog [0, 1, 3] Try.f68 = some a68 := by kernel_rfl

/- bushel/bushelref14.Binds -/
def a69 : AFun := ⟨78, [.tmp 6], (.seq (.reg [3, 6] [⟨(some 3), none, .box (.t 0)⟩,
       ⟨(some 6), none, .mv (.c (.bool false))⟩])
  (.seq (.seq (.reg [9] [⟨(some 8), none, .faddr 0 (.t 3)⟩,
        ⟨(some 9), none, .load none (.t 8)⟩])
   (.block 0 (.seq (.reg [10] [⟨(some 11), none, .bin .eql .other true (.t 9) (.c (.int .i64 4))⟩,
         ⟨(some 10), none, .mv (.t 11)⟩])
    (.cond (.t 10) (.seq (.reg [6] [⟨(some 12), none, .mv (.t 1)⟩,
           ⟨(some 13), none, .bin .eql .other true (.t 12) (.c (.int .i64 0))⟩,
           ⟨(some 14), none, .mv (.t 13)⟩,
           ⟨(some 15), (some (14, true)), .mv (.t 2)⟩,
           ⟨(some 16), (some (14, true)), .faddr 2 (.t 3)⟩,
           ⟨(some 17), (some (14, true)), .load none (.t 16)⟩,
           ⟨(some 18), (some (14, true)), .bin .eql .other false (.t 15) (.t 17)⟩,
           ⟨(some 19), none, .pick (.t 14) (.t 18) (.c (.bool false))⟩,
           ⟨(some 6), none, .mv (.t 19)⟩])
      .ret)
    (.seq (.reg [20] [⟨(some 21), none, .bin .eql .other true (.t 9) (.c (.int .i64 6))⟩,
         ⟨(some 20), none, .mv (.t 21)⟩])
    (.cond (.t 20) (.seq (.reg [6] [⟨(some 22), none, .mv (.t 1)⟩,
           ⟨(some 23), none, .bin .eql .other true (.t 22) (.c (.int .i64 1))⟩,
           ⟨(some 24), none, .mv (.t 23)⟩,
           ⟨(some 25), (some (24, true)), .mv (.t 2)⟩,
           ⟨(some 26), (some (24, true)), .faddr 2 (.t 3)⟩,
           ⟨(some 27), (some (24, true)), .load none (.t 26)⟩,
           ⟨(some 28), (some (24, true)), .bin .eql .other false (.t 25) (.t 27)⟩,
           ⟨(some 29), none, .pick (.t 24) (.t 28) (.c (.bool false))⟩,
           ⟨(some 6), none, .mv (.t 29)⟩])
      .ret)
    (.seq (.reg [30] [⟨(some 31), none, .bin .eql .other true (.t 9) (.c (.int .i64 7))⟩,
         ⟨(some 30), none, .mv (.t 31)⟩])
    (.cond (.t 30) (.seq (.reg [6] [⟨(some 32), none, .mv (.t 1)⟩,
           ⟨(some 33), none, .bin .lss .other true (.t 32) (.c (.int .i64 2))⟩,
           ⟨(some 34), none, .mv (.t 33)⟩,
           ⟨(some 35), (some (34, true)), .mv (.t 2)⟩,
           ⟨(some 36), (some (34, true)), .faddr 2 (.t 3)⟩,
           ⟨(some 37), (some (34, true)), .load none (.t 36)⟩,
           ⟨(some 38), (some (34, true)), .bin .eql .other false (.t 35) (.t 37)⟩,
           ⟨(some 39), none, .pick (.t 34) (.t 38) (.c (.bool false))⟩,
           ⟨(some 40), none, .mv (.t 39)⟩,
           ⟨(some 41), (some (40, false)), .mv (.t 1)⟩,
           ⟨(some 42), (some (40, false)), .bin .eql .other true (.t 41) (.c (.int .i64 0))⟩,
           ⟨(some 43), (some (40, false)), .mv (.t 42)⟩,
           ⟨(some 44), (some (43, true)), .mv (.t 2)⟩,
           ⟨(some 45), (some (43, true)), .faddr 3 (.t 3)⟩,
           ⟨(some 46), (some (43, true)), .load none (.t 45)⟩,
           ⟨(some 47), (some (43, true)), .bin .eql .other false (.t 44) (.t 46)⟩,
           ⟨(some 48), (some (40, false)), .pick (.t 43) (.t 47) (.c (.bool false))⟩,
           ⟨(some 49), none, .pick (.t 40) (.c (.bool true)) (.t 48)⟩,
           ⟨(some 6), none, .mv (.t 49)⟩])
      .ret)
    (.seq (.reg [50] [⟨(some 51), none, .bin .eql .other true (.t 9) (.c (.int .i64 14))⟩,
         ⟨(some 50), none, .mv (.t 51)⟩])
    (.cond (.t 50) (.seq (.seq (.reg [53] [⟨(some 52), none, .mv (.t 1)⟩,
            ⟨(some 53), none, .bin .eql .other true (.t 52) (.c (.int .i64 0))⟩])
       (.cond (.t 53) (.seq (.reg [6] [⟨(some 6), none, .mv (.c (.bool false))⟩])
         .ret)
       .skip))
      (.seq (.reg [7] [⟨(some 54), none, .mv (.t 1)⟩,
           ⟨(some 55), none, .bin .sub .other true (.t 54) (.c (.int .i64 1))⟩,
           ⟨(some 56), none, .bin .quo .other true (.t 55) (.c (.int .i64 2))⟩,
           ⟨(some 7), none, .mv (.t 56)⟩])
      (.seq (.seq (.reg [61] [⟨(some 57), none, .mv (.t 7)⟩,
            ⟨(some 58), none, .faddr 4 (.t 3)⟩,
            ⟨(some 59), none, .load none (.t 58)⟩,
            ⟨(some 60), none, .len .sl (.t 59)⟩,
            ⟨(some 61), none, .bin .lss .other false (.t 57) (.t 60)⟩])
       (.cond (.t 61) (.seq (.reg [6] [⟨(some 62), none, .mv (.t 1)⟩,
              ⟨(some 63), none, .bin .rem .other true (.t 62) (.c (.int .i64 2))⟩,
              ⟨(some 64), none, .bin .eql .other true (.t 63) (.c (.int .i64 0))⟩,
              ⟨(some 65), none, .mv (.t 64)⟩,
              ⟨(some 66), (some (65, true)), .mv (.t 2)⟩,
              ⟨(some 67), (some (65, true)), .faddr 4 (.t 3)⟩,
              ⟨(some 68), (some (65, true)), .load none (.t 67)⟩,
              ⟨(some 69), (some (65, true)), .mv (.t 7)⟩,
              ⟨(some 70), (some (65, true)), .iaddr none (.t 68) (.t 69)⟩,
              ⟨(some 71), (some (65, true)), .load none (.t 70)⟩,
              ⟨(some 72), (some (65, true)), .bin .eql .other false (.t 66) (.t 71)⟩,
              ⟨(some 73), none, .pick (.t 65) (.t 72) (.c (.bool false))⟩,
              ⟨(some 6), none, .mv (.t 73)⟩])
         .ret)
       .skip))
      (.seq (.reg [6] [⟨(some 74), none, .mv (.t 2)⟩,
           ⟨(some 75), none, .faddr 3 (.t 3)⟩,
           ⟨(some 76), none, .load none (.t 75)⟩,
           ⟨(some 77), none, .bin .eql .other false (.t 74) (.t 76)⟩,
           ⟨(some 6), none, .mv (.t 77)⟩])
      .ret))))
    .skip))))))))))
  (.seq (.reg [6] [⟨(some 6), none, .mv (.c (.bool false))⟩])
  .ret)))⟩
theorem c69 : compF Try.prog [0, 1, 2, 3, 6, 7, 9, 10, 20, 30, 50, 53, 61] Try.f69 = some a69 := by kernel_rfl

end Go.Proofs.Ytppdghfpbliaeaa
