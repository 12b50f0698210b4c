/-
  The bodies of functions, in the small language: printed by program, proved by the kernel's computing. (Own work.)
-/
import Derived.Test.YtppdghfpbliaeaaAbsU
import Derived.Test.YtppdghfpbliaeaaChecked
namespace Go.Proofs.Ytppdghfpbliaeaa
open Go Go.Abs

/- bushel/bushellaw09.LabelSets -/
def a5 : AFun := ⟨87, [.tmp 6], (.seq (.reg [6] [⟨(some 6), none, .mv (.c (.bool false))⟩])
  (.seq (.reg [7] [⟨(some 10), none, .call (.c (.fn 17)) []⟩,
       ⟨(some 7), none, .mv (.t 10)⟩])
  (.seq (.seq (.reg [23] [⟨(some 11), none, .mv (.t 0)⟩,
        ⟨(some 12), none, .call (.c (.fn 18)) [(.t 11)]⟩,
        ⟨(some 13), none, .un .not (.t 12)⟩,
        ⟨(some 14), none, .mv (.t 13)⟩,
        ⟨(some 15), (some (14, false)), .mv (.t 1)⟩,
        ⟨(some 16), (some (14, false)), .call (.c (.fn 18)) [(.t 15)]⟩,
        ⟨(some 17), (some (14, false)), .un .not (.t 16)⟩,
        ⟨(some 18), none, .pick (.t 14) (.c (.bool true)) (.t 17)⟩,
        ⟨(some 19), none, .mv (.t 18)⟩,
        ⟨(some 20), (some (19, false)), .mv (.t 2)⟩,
        ⟨(some 21), (some (19, false)), .len .str (.t 20)⟩,
        ⟨(some 22), (some (19, false)), .bin .gtr .other true (.t 21) (.c (.int .i64 100))⟩,
        ⟨(some 23), none, .pick (.t 19) (.c (.bool true)) (.t 22)⟩])
   (.cond (.t 23) (.seq (.reg [6] [⟨(some 24), none, .mv (.t 7)⟩,
          ⟨(some 6), none, .mv (.t 24)⟩])
     .ret)
   .skip))
  (.seq (.reg [8] [⟨(some 25), none, .mv (.t 0)⟩,
       ⟨(some 26), none, .call (.c (.fn 19)) [(.t 25)]⟩,
       ⟨(some 8), none, .mv (.t 26)⟩])
  (.seq (.reg [9] [⟨(some 27), none, .mv (.t 1)⟩,
       ⟨(some 28), none, .call (.c (.fn 19)) [(.t 27)]⟩,
       ⟨(some 9), none, .mv (.t 28)⟩])
  (.seq (.seq (.reg [58] [⟨(some 29), none, .mv (.t 0)⟩,
        ⟨(some 30), none, .call (.c (.fn 20)) [(.t 29)]⟩,
        ⟨(some 31), none, .mv (.t 0)⟩,
        ⟨(some 32), none, .call (.c (.fn 21)) [(.t 31)]⟩,
        ⟨(some 33), none, .bin .neq .bool false (.t 30) (.t 32)⟩,
        ⟨(some 34), none, .mv (.t 33)⟩,
        ⟨(some 35), (some (34, false)), .mv (.t 0)⟩,
        ⟨(some 36), (some (34, false)), .call (.c (.fn 22)) [(.t 35)]⟩,
        ⟨(some 37), (some (34, false)), .mv (.t 8)⟩,
        ⟨(some 38), (some (34, false)), .call (.c (.fn 12)) [(.t 36), (.t 37)]⟩,
        ⟨(some 39), (some (34, false)), .un .not (.t 38)⟩,
        ⟨(some 40), none, .pick (.t 34) (.c (.bool true)) (.t 39)⟩,
        ⟨(some 41), none, .mv (.t 40)⟩,
        ⟨(some 42), (some (41, false)), .mv (.t 8)⟩,
        ⟨(some 43), (some (41, false)), .mv (.t 2)⟩,
        ⟨(some 44), (some (41, false)), .call (.c (.fn 23)) [(.t 42), (.t 43)]⟩,
        ⟨(some 45), (some (41, false)), .mv (.t 8)⟩,
        ⟨(some 46), (some (41, false)), .mv (.t 2)⟩,
        ⟨(some 47), (some (41, false)), .call (.c (.fn 16)) [(.t 45), (.t 46)]⟩,
        ⟨(some 48), (some (41, false)), .bin .neq .bool false (.t 44) (.t 47)⟩,
        ⟨(some 49), none, .pick (.t 41) (.c (.bool true)) (.t 48)⟩,
        ⟨(some 50), none, .mv (.t 49)⟩,
        ⟨(some 51), (some (50, false)), .mv (.t 8)⟩,
        ⟨(some 52), (some (50, false)), .mv (.t 2)⟩,
        ⟨(some 53), (some (50, false)), .call (.c (.fn 24)) [(.t 51), (.t 52)]⟩,
        ⟨(some 54), (some (50, false)), .mv (.t 8)⟩,
        ⟨(some 55), (some (50, false)), .mv (.t 2)⟩,
        ⟨(some 56), (some (50, false)), .call (.c (.fn 25)) [(.t 54), (.t 55)]⟩,
        ⟨(some 57), (some (50, false)), .bin .neq .other false (.t 53) (.t 56)⟩,
        ⟨(some 58), none, .pick (.t 50) (.c (.bool true)) (.t 57)⟩])
   (.cond (.t 58) (.seq (.reg [6] [⟨(some 6), none, .mv (.c (.bool false))⟩])
     .ret)
   .skip))
  (.seq (.reg [6] [⟨(some 59), none, .mv (.t 7)⟩,
       ⟨(some 60), none, .mv (.t 59)⟩,
       ⟨(some 61), (some (60, true)), .mv (.t 8)⟩,
       ⟨(some 62), (some (60, true)), .mv (.t 9)⟩,
       ⟨(some 63), (some (60, true)), .call (.c (.fn 26)) [(.t 61), (.t 62)]⟩,
       ⟨(some 64), (some (60, true)), .mv (.t 8)⟩,
       ⟨(some 65), (some (60, true)), .mv (.t 9)⟩,
       ⟨(some 66), (some (60, true)), .call (.c (.fn 27)) [(.t 64), (.t 65)]⟩,
       ⟨(some 67), (some (60, true)), .call (.c (.fn 12)) [(.t 63), (.t 66)]⟩,
       ⟨(some 68), none, .pick (.t 60) (.t 67) (.c (.bool false))⟩,
       ⟨(some 69), none, .mv (.t 68)⟩,
       ⟨(some 70), (some (69, true)), .mv (.t 8)⟩,
       ⟨(some 71), (some (69, true)), .mv (.t 9)⟩,
       ⟨(some 72), (some (69, true)), .call (.c (.fn 28)) [(.t 70), (.t 71)]⟩,
       ⟨(some 73), (some (69, true)), .mv (.t 8)⟩,
       ⟨(some 74), (some (69, true)), .mv (.t 9)⟩,
       ⟨(some 75), (some (69, true)), .call (.c (.fn 29)) [(.t 73), (.t 74)]⟩,
       ⟨(some 76), (some (69, true)), .call (.c (.fn 12)) [(.t 72), (.t 75)]⟩,
       ⟨(some 77), none, .pick (.t 69) (.t 76) (.c (.bool false))⟩,
       ⟨(some 78), none, .mv (.t 77)⟩,
       ⟨(some 79), (some (78, true)), .mv (.t 8)⟩,
       ⟨(some 80), (some (78, true)), .mv (.t 9)⟩,
       ⟨(some 81), (some (78, true)), .call (.c (.fn 30)) [(.t 79), (.t 80)]⟩,
       ⟨(some 82), (some (78, true)), .mv (.t 8)⟩,
       ⟨(some 83), (some (78, true)), .mv (.t 9)⟩,
       ⟨(some 84), (some (78, true)), .call (.c (.fn 31)) [(.t 82), (.t 83)]⟩,
       ⟨(some 85), (some (78, true)), .call (.c (.fn 12)) [(.t 81), (.t 84)]⟩,
       ⟨(some 86), none, .pick (.t 78) (.t 85) (.c (.bool false))⟩,
       ⟨(some 6), none, .mv (.t 86)⟩])
  .ret)))))))⟩
theorem c5 : compF Try.prog [0, 1, 2, 6, 7, 8, 9, 23, 58] Try.f5 = some a5 := by kernel_rfl

/- bushel/bushellaw09.LabelOffsets -/
def a6 : AFun := ⟨120, [.tmp 6], (.seq (.reg [6] [⟨(some 6), none, .mv (.c (.bool false))⟩])
  (.seq (.reg [7] [⟨(some 13), none, .call (.c (.fn 17)) []⟩,
       ⟨(some 7), none, .mv (.t 13)⟩])
  (.seq (.seq (.reg [26] [⟨(some 14), none, .mv (.t 0)⟩,
        ⟨(some 15), none, .call (.c (.fn 18)) [(.t 14)]⟩,
        ⟨(some 16), none, .un .not (.t 15)⟩,
        ⟨(some 17), none, .mv (.t 16)⟩,
        ⟨(some 18), (some (17, false)), .mv (.t 1)⟩,
        ⟨(some 19), (some (17, false)), .call (.c (.fn 18)) [(.t 18)]⟩,
        ⟨(some 20), (some (17, false)), .un .not (.t 19)⟩,
        ⟨(some 21), none, .pick (.t 17) (.c (.bool true)) (.t 20)⟩,
        ⟨(some 22), none, .mv (.t 21)⟩,
        ⟨(some 23), (some (22, false)), .mv (.t 2)⟩,
        ⟨(some 24), (some (22, false)), .len .str (.t 23)⟩,
        ⟨(some 25), (some (22, false)), .bin .gtr .other true (.t 24) (.c (.int .i64 100))⟩,
        ⟨(some 26), none, .pick (.t 22) (.c (.bool true)) (.t 25)⟩])
   (.cond (.t 26) (.seq (.reg [6] [⟨(some 27), none, .mv (.t 7)⟩,
          ⟨(some 6), none, .mv (.t 27)⟩])
     .ret)
   .skip))
  (.seq (.reg [8] [⟨(some 28), none, .mv (.t 0)⟩,
       ⟨(some 29), none, .call (.c (.fn 22)) [(.t 28)]⟩,
       ⟨(some 8), none, .mv (.t 29)⟩])
  (.seq (.reg [9] [⟨(some 30), none, .mv (.t 1)⟩,
       ⟨(some 31), none, .call (.c (.fn 22)) [(.t 30)]⟩,
       ⟨(some 9), none, .mv (.t 31)⟩])
  (.seq (.reg [10] [⟨(some 32), none, .mv (.t 8)⟩,
       ⟨(some 33), none, .mv (.t 2)⟩,
       ⟨(some 34), none, .call (.c (.fn 24)) [(.t 32), (.t 33)]⟩,
       ⟨(some 10), none, .mv (.t 34)⟩])
  (.seq (.seq (.reg [42] [⟨(some 35), none, .mv (.t 10)⟩,
        ⟨(some 36), none, .bin .lss .other true (.t 35) (.c (.int .i64 0))⟩,
        ⟨(some 37), none, .mv (.t 36)⟩,
        ⟨(some 38), (some (37, false)), .mv (.t 10)⟩,
        ⟨(some 39), (some (37, false)), .mv (.t 8)⟩,
        ⟨(some 40), (some (37, false)), .len .sl (.t 39)⟩,
        ⟨(some 41), (some (37, false)), .bin .gtr .other false (.t 38) (.t 40)⟩,
        ⟨(some 42), none, .pick (.t 37) (.c (.bool true)) (.t 41)⟩])
   (.cond (.t 42) (.seq (.reg [6] [⟨(some 6), none, .mv (.c (.bool false))⟩])
     .ret)
   .skip))
  (.seq (.seq (.reg [45] [⟨(some 43), none, .mv (.t 8)⟩,
        ⟨(some 44), none, .mv (.t 2)⟩,
        ⟨(some 45), none, .call (.c (.fn 23)) [(.t 43), (.t 44)]⟩])
   (.cond (.t 45) (.seq (.seq (.reg [49] [⟨(some 46), none, .mv (.t 10)⟩,
           ⟨(some 47), none, .mv (.t 8)⟩,
           ⟨(some 48), none, .len .sl (.t 47)⟩,
           ⟨(some 49), none, .bin .eql .other false (.t 46) (.t 48)⟩])
      (.cond (.t 49) (.seq (.reg [6] [⟨(some 6), none, .mv (.c (.bool false))⟩])
        .ret)
      .skip))
     (.seq (.reg [55] [⟨(some 50), none, .mv (.t 8)⟩,
          ⟨(some 51), none, .mv (.t 10)⟩,
          ⟨(some 52), none, .iaddr none (.t 50) (.t 51)⟩,
          ⟨(some 53), none, .load none (.t 52)⟩,
          ⟨(some 54), none, .mv (.t 2)⟩,
          ⟨(some 55), none, .bin .neq .other false (.t 53) (.t 54)⟩])
     (.cond (.t 55) (.seq (.reg [6] [⟨(some 6), none, .mv (.c (.bool false))⟩])
       .ret)
     .skip)))
   (.seq (.reg [11] [⟨(some 56), none, .mksl none []⟩,
        ⟨(some 57), none, .mv (.t 8)⟩,
        ⟨(some 58), none, .mv (.t 10)⟩,
        ⟨(some 59), none, .slice (.sl none) (.t 57) none (some (.t 58)) none⟩,
        ⟨(some 60), none, .append none 16 (.t 56) (.t 59)⟩,
        ⟨(some 11), none, .mv (.t 60)⟩])
   (.seq (.any [11] [(⟨(some 61), none, .mv (.t 11)⟩, true),
        (⟨(some 62), none, .mv (.t 2)⟩, false),
        (⟨(some 63), none, .mksl none [(.t 62)]⟩, false),
        (⟨(some 65), none, .mv (.t 8)⟩, false),
        (⟨(some 66), none, .mv (.t 10)⟩, false),
        (⟨(some 67), none, .slice (.sl none) (.t 65) (some (.t 66)) none none⟩, false),
        (⟨(some 64), none, .append none 16 (.t 61) (.t 63)⟩, false),
        (⟨(some 68), none, .append none 16 (.t 64) (.t 67)⟩, true),
        (⟨(some 11), none, .mv (.t 68)⟩, true)])
   (.seq (.reg [71] [⟨(some 69), none, .mv (.t 11)⟩,
        ⟨(some 70), none, .call (.c (.fn 20)) [(.t 69)]⟩,
        ⟨(some 71), none, .un .not (.t 70)⟩])
   (.cond (.t 71) (.seq (.reg [6] [⟨(some 6), none, .mv (.c (.bool false))⟩])
     .ret)
   .skip))))))
  (.seq (.reg [12] [⟨(some 72), none, .mv (.t 8)⟩,
       ⟨(some 73), none, .mv (.t 9)⟩,
       ⟨(some 74), none, .call (.c (.fn 26)) [(.t 72), (.t 73)]⟩,
       ⟨(some 12), none, .mv (.t 74)⟩])
  (.seq (.reg [6] [⟨(some 75), none, .mv (.t 7)⟩,
       ⟨(some 76), none, .mv (.t 75)⟩,
       ⟨(some 77), (some (76, true)), .mv (.t 12)⟩,
       ⟨(some 78), (some (76, true)), .call (.c (.fn 20)) [(.t 77)]⟩,
       ⟨(some 79), none, .pick (.t 76) (.t 78) (.c (.bool false))⟩,
       ⟨(some 80), none, .mv (.t 79)⟩,
       ⟨(some 81), (some (80, true)), .mv (.t 12)⟩,
       ⟨(some 82), (some (80, true)), .mv (.t 2)⟩,
       ⟨(some 83), (some (80, true)), .call (.c (.fn 23)) [(.t 81), (.t 82)]⟩,
       ⟨(some 84), (some (80, true)), .mv (.t 8)⟩,
       ⟨(some 85), (some (80, true)), .mv (.t 2)⟩,
       ⟨(some 86), (some (80, true)), .call (.c (.fn 23)) [(.t 84), (.t 85)]⟩,
       ⟨(some 87), (some (80, true)), .mv (.t 86)⟩,
       ⟨(some 88), (some (87, false)), .mv (.t 9)⟩,
       ⟨(some 89), (some (87, false)), .mv (.t 2)⟩,
       ⟨(some 90), (some (87, false)), .call (.c (.fn 23)) [(.t 88), (.t 89)]⟩,
       ⟨(some 91), (some (80, true)), .pick (.t 87) (.c (.bool true)) (.t 90)⟩,
       ⟨(some 92), (some (80, true)), .bin .eql .bool false (.t 83) (.t 91)⟩,
       ⟨(some 93), none, .pick (.t 80) (.t 92) (.c (.bool false))⟩,
       ⟨(some 94), none, .mv (.t 93)⟩,
       ⟨(some 95), (some (94, true)), .mv (.t 12)⟩,
       ⟨(some 96), (some (94, true)), .len .sl (.t 95)⟩,
       ⟨(some 97), (some (94, true)), .mv (.t 8)⟩,
       ⟨(some 98), (some (94, true)), .len .sl (.t 97)⟩,
       ⟨(some 99), (some (94, true)), .mv (.t 9)⟩,
       ⟨(some 100), (some (94, true)), .mv (.t 8)⟩,
       ⟨(some 101), (some (94, true)), .call (.c (.fn 28)) [(.t 99), (.t 100)]⟩,
       ⟨(some 102), (some (94, true)), .len .sl (.t 101)⟩,
       ⟨(some 103), (some (94, true)), .bin .add .other false (.t 98) (.t 102)⟩,
       ⟨(some 104), (some (94, true)), .bin .eql .other false (.t 96) (.t 103)⟩,
       ⟨(some 105), none, .pick (.t 94) (.t 104) (.c (.bool false))⟩,
       ⟨(some 106), none, .mv (.t 105)⟩,
       ⟨(some 107), (some (106, true)), .mv (.t 8)⟩,
       ⟨(some 108), (some (106, true)), .len .sl (.t 107)⟩,
       ⟨(some 109), (some (106, true)), .mv (.t 8)⟩,
       ⟨(some 110), (some (106, true)), .mv (.t 9)⟩,
       ⟨(some 111), (some (106, true)), .call (.c (.fn 28)) [(.t 109), (.t 110)]⟩,
       ⟨(some 112), (some (106, true)), .len .sl (.t 111)⟩,
       ⟨(some 113), (some (106, true)), .mv (.t 8)⟩,
       ⟨(some 114), (some (106, true)), .mv (.t 9)⟩,
       ⟨(some 115), (some (106, true)), .call (.c (.fn 30)) [(.t 113), (.t 114)]⟩,
       ⟨(some 116), (some (106, true)), .len .sl (.t 115)⟩,
       ⟨(some 117), (some (106, true)), .bin .add .other false (.t 112) (.t 116)⟩,
       ⟨(some 118), (some (106, true)), .bin .eql .other false (.t 108) (.t 117)⟩,
       ⟨(some 119), none, .pick (.t 106) (.t 118) (.c (.bool false))⟩,
       ⟨(some 6), none, .mv (.t 119)⟩])
  .ret))))))))))⟩
theorem c6 : compF Try.prog [0, 1, 2, 6, 7, 8, 9, 10, 11, 12, 26, 42, 45, 49, 55, 71] Try.f6 = some a6 := by kernel_rfl

/- bushel/bushelref05.Texts -/
def a12 : AFun := ⟨8, [.tmp 4], (.seq (.reg [4] [⟨(some 4), none, .mv (.c (.bool false))⟩])
  (.seq (.reg [4] [⟨(some 5), none, .mv (.t 0)⟩,
       ⟨(some 6), none, .mv (.t 1)⟩,
       ⟨(some 7), none, .call (.c (.fn 37)) [(.t 5), (.t 6)]⟩,
       ⟨(some 4), none, .mv (.t 7)⟩])
  .ret))⟩
theorem c12 : compF Try.prog [0, 1, 4] Try.f12 = some a12 := by kernel_rfl

/- bushel/bushelref08.Has -/
def a16 : AFun := ⟨18, [.tmp 4], (.seq (.reg [4] [⟨(some 4), none, .mv (.c (.bool false))⟩])
  (.seq (.seq (.reg [5] [⟨(some 5), none, .mv (.c (.int .i64 0))⟩])
   (.block 0 (.loop (.seq (.seq (.reg [9] [⟨(some 6), none, .mv (.t 5)⟩,
           ⟨(some 7), none, .mv (.t 0)⟩,
           ⟨(some 8), none, .len .sl (.t 7)⟩,
           ⟨(some 9), none, .bin .lss .other false (.t 6) (.t 8)⟩])
      (.cond (.t 9) .skip
      (.exit 0)))
     (.seq (.block 1 (.seq (.reg [17] [⟨(some 12), none, .mv (.t 0)⟩,
            ⟨(some 13), none, .mv (.t 5)⟩,
            ⟨(some 14), none, .iaddr none (.t 12) (.t 13)⟩,
            ⟨(some 15), none, .load none (.t 14)⟩,
            ⟨(some 16), none, .mv (.t 1)⟩,
            ⟨(some 17), none, .bin .eql .other false (.t 15) (.t 16)⟩])
       (.cond (.t 17) (.seq (.reg [4] [⟨(some 4), none, .mv (.c (.bool true))⟩])
         .ret)
       .skip)))
     (.reg [5] [⟨(some 10), none, .mv (.t 5)⟩,
         ⟨(some 11), none, .bin .add .other true (.t 10) (.c (.int .i64 1))⟩,
         ⟨(some 5), none, .mv (.t 11)⟩]))))))
  (.seq (.reg [4] [⟨(some 4), none, .mv (.c (.bool false))⟩])
  .ret)))⟩
theorem c16 : compF Try.prog [0, 1, 4, 5, 9, 17] Try.f16 = some a16 := by kernel_rfl

/- bushel/bushellaw09.up -/
def a17 : AFun := ⟨18, [.tmp 0], (.seq (.reg [0] [⟨(some 0), none, .mv (.c (.bool false))⟩])
  (.seq (.reg [0] [⟨(some 1), none, .mksl none [(.c (.str [97])), (.c (.str [98])), (.c (.str [100]))]⟩,
       ⟨(some 2), none, .call (.c (.fn 24)) [(.t 1), (.c (.str [99]))]⟩,
       ⟨(some 3), none, .bin .eql .other true (.t 2) (.c (.int .i64 2))⟩,
       ⟨(some 4), none, .mv (.t 3)⟩,
       ⟨(some 5), (some (4, true)), .call (.c (.fn 20)) [(.c .snil)]⟩,
       ⟨(some 6), none, .pick (.t 4) (.t 5) (.c (.bool false))⟩,
       ⟨(some 7), none, .mv (.t 6)⟩,
       ⟨(some 8), (some (7, true)), .mksl none [(.c (.str [98])), (.c (.str [97]))]⟩,
       ⟨(some 9), (some (7, true)), .call (.c (.fn 20)) [(.t 8)]⟩,
       ⟨(some 10), (some (7, true)), .un .not (.t 9)⟩,
       ⟨(some 11), none, .pick (.t 7) (.t 10) (.c (.bool false))⟩,
       ⟨(some 12), none, .mv (.t 11)⟩,
       ⟨(some 13), (some (12, true)), .mksl none [(.c (.str [97])), (.c (.str [97]))]⟩,
       ⟨(some 14), (some (12, true)), .call (.c (.fn 22)) [(.t 13)]⟩,
       ⟨(some 15), (some (12, true)), .len .sl (.t 14)⟩,
       ⟨(some 16), (some (12, true)), .bin .eql .other true (.t 15) (.c (.int .i64 1))⟩,
       ⟨(some 17), none, .pick (.t 12) (.t 16) (.c (.bool false))⟩,
       ⟨(some 0), none, .mv (.t 17)⟩])
  .ret))⟩
theorem c17 : compF Try.prog [0] Try.f17 = some a17 := by kernel_rfl

/- bushel/bushellaw09.small -/
def a18 : AFun := ⟨19, [.tmp 2], (.seq (.reg [2] [⟨(some 2), none, .mv (.c (.bool false))⟩])
  (.seq (.seq (.reg [3] [⟨(some 3), none, .mv (.c (.int .i64 0))⟩])
   (.block 0 (.loop (.seq (.seq (.reg [7] [⟨(some 4), none, .mv (.t 3)⟩,
           ⟨(some 5), none, .mv (.t 0)⟩,
           ⟨(some 6), none, .len .sl (.t 5)⟩,
           ⟨(some 7), none, .bin .lss .other false (.t 4) (.t 6)⟩])
      (.cond (.t 7) .skip
      (.exit 0)))
     (.seq (.block 1 (.seq (.reg [15] [⟨(some 10), none, .mv (.t 0)⟩,
            ⟨(some 11), none, .mv (.t 3)⟩,
            ⟨(some 12), none, .iaddr none (.t 10) (.t 11)⟩,
            ⟨(some 13), none, .load none (.t 12)⟩,
            ⟨(some 14), none, .len .str (.t 13)⟩,
            ⟨(some 15), none, .bin .gtr .other true (.t 14) (.c (.int .i64 100))⟩])
       (.cond (.t 15) (.seq (.reg [2] [⟨(some 2), none, .mv (.c (.bool false))⟩])
         .ret)
       .skip)))
     (.reg [3] [⟨(some 8), none, .mv (.t 3)⟩,
         ⟨(some 9), none, .bin .add .other true (.t 8) (.c (.int .i64 1))⟩,
         ⟨(some 3), none, .mv (.t 9)⟩]))))))
  (.seq (.reg [2] [⟨(some 16), none, .mv (.t 0)⟩,
       ⟨(some 17), none, .len .sl (.t 16)⟩,
       ⟨(some 18), none, .bin .leq .other true (.t 17) (.c (.int .i64 200))⟩,
       ⟨(some 2), none, .mv (.t 18)⟩])
  .ret)))⟩
theorem c18 : compF Try.prog [0, 2, 3, 7, 15] Try.f18 = some a18 := by kernel_rfl

/- bushel/bushelref08.Of -/
def a19 : AFun := ⟨18, [.tmp 2], (.seq (.reg [2] [⟨(some 2), none, .mv (.c .snil)⟩])
  (.seq (.reg [3] [⟨(some 3), none, .mv (.c .snil)⟩])
  (.seq (.seq (.reg [4] [⟨(some 4), none, .mv (.c (.int .i64 0))⟩])
   (.block 0 (.loop (.seq (.seq (.reg [8] [⟨(some 5), none, .mv (.t 4)⟩,
           ⟨(some 6), none, .mv (.t 0)⟩,
           ⟨(some 7), none, .len .sl (.t 6)⟩,
           ⟨(some 8), none, .bin .lss .other false (.t 5) (.t 7)⟩])
      (.cond (.t 8) .skip
      (.exit 0)))
     (.seq (.block 1 (.reg [3] [⟨(some 11), none, .mv (.t 3)⟩,
           ⟨(some 12), none, .mv (.t 0)⟩,
           ⟨(some 13), none, .mv (.t 4)⟩,
           ⟨(some 14), none, .iaddr none (.t 12) (.t 13)⟩,
           ⟨(some 15), none, .load none (.t 14)⟩,
           ⟨(some 16), none, .call (.c (.fn 44)) [(.t 11), (.t 15)]⟩,
           ⟨(some 3), none, .mv (.t 16)⟩]))
     (.reg [4] [⟨(some 9), none, .mv (.t 4)⟩,
         ⟨(some 10), none, .bin .add .other true (.t 9) (.c (.int .i64 1))⟩,
         ⟨(some 4), none, .mv (.t 10)⟩]))))))
  (.seq (.reg [2] [⟨(some 17), none, .mv (.t 3)⟩,
       ⟨(some 2), none, .mv (.t 17)⟩])
  .ret))))⟩
theorem c19 : compF Try.prog [0, 2, 3, 4, 8] Try.f19 = some a19 := by kernel_rfl

/- bushel/label.Is -/
def a20 : AFun := ⟨24, [.tmp 2], (.seq (.reg [2] [⟨(some 2), none, .mv (.c (.bool false))⟩])
  (.seq (.seq (.reg [5, 6] [⟨(some 4), none, .mv (.t 0)⟩,
        ⟨(some 5), none, .len .sl (.t 4)⟩,
        ⟨(some 6), none, .mv (.c (.int .i64 0))⟩])
   (.block 0 (.loop (.seq (.reg [7] [⟨(some 7), none, .bin .lss .other false (.t 6) (.t 5)⟩])
     (.seq (.cond (.t 7) .skip
      (.exit 0))
     (.seq (.block 1 (.seq (.reg [3] [⟨(some 8), none, .mv (.t 6)⟩,
            ⟨(some 3), none, .mv (.t 8)⟩])
       (.seq (.any [22] [(⟨(some 9), none, .mv (.t 3)⟩, true),
            (⟨(some 10), none, .bin .gtr .other true (.t 9) (.c (.int .i64 0))⟩, true),
            (⟨(some 11), none, .mv (.t 10)⟩, true),
            (⟨(some 12), (some (11, true)), .mv (.t 0)⟩, true),
            (⟨(some 13), (some (11, true)), .mv (.t 3)⟩, false),
            (⟨(some 14), (some (11, true)), .bin .sub .other true (.t 13) (.c (.int .i64 1))⟩, false),
            (⟨(some 15), (some (11, true)), .iaddr none (.t 12) (.t 14)⟩, true),
            (⟨(some 16), (some (11, true)), .load none (.t 15)⟩, true),
            (⟨(some 17), (some (11, true)), .mv (.t 0)⟩, false),
            (⟨(some 18), (some (11, true)), .mv (.t 3)⟩, false),
            (⟨(some 19), (some (11, true)), .iaddr none (.t 17) (.t 18)⟩, false),
            (⟨(some 20), (some (11, true)), .load none (.t 19)⟩, false),
            (⟨(some 21), (some (11, true)), .bin .geq .other false (.t 16) (.t 20)⟩, true),
            (⟨(some 22), none, .pick (.t 11) (.t 21) (.c (.bool false))⟩, true)])
       (.cond (.t 22) (.seq (.reg [2] [⟨(some 2), none, .mv (.c (.bool false))⟩])
         .ret)
       .skip))))
     (.reg [6] [⟨(some 23), none, .bin .add .other true (.t 6) (.c (.int .i64 1))⟩,
         ⟨(some 6), none, .mv (.t 23)⟩])))))))
  (.seq (.reg [2] [⟨(some 2), none, .mv (.c (.bool true))⟩])
  .ret)))⟩
theorem c20 : compF Try.prog [0, 2, 3, 5, 6, 7, 22] Try.f20 = some a20 := by kernel_rfl

/- bushel/bushelref08.Is -/
def a21 : AFun := ⟨20, [.tmp 2], (.seq (.reg [2] [⟨(some 2), none, .mv (.c (.bool false))⟩])
  (.seq (.seq (.reg [3] [⟨(some 3), none, .mv (.c (.int .i64 1))⟩])
   (.block 0 (.loop (.seq (.seq (.reg [7] [⟨(some 4), none, .mv (.t 3)⟩,
           ⟨(some 5), none, .mv (.t 0)⟩,
           ⟨(some 6), none, .len .sl (.t 5)⟩,
           ⟨(some 7), none, .bin .lss .other false (.t 4) (.t 6)⟩])
      (.cond (.t 7) .skip
      (.exit 0)))
     (.seq (.block 1 (.seq (.any [19] [(⟨(some 10), none, .mv (.t 0)⟩, true),
            (⟨(some 11), none, .mv (.t 3)⟩, false),
            (⟨(some 12), none, .iaddr none (.t 10) (.t 11)⟩, true),
            (⟨(some 13), none, .load none (.t 12)⟩, true),
            (⟨(some 14), none, .mv (.t 0)⟩, false),
            (⟨(some 15), none, .mv (.t 3)⟩, false),
            (⟨(some 16), none, .bin .sub .other true (.t 15) (.c (.int .i64 1))⟩, false),
            (⟨(some 17), none, .iaddr none (.t 14) (.t 16)⟩, false),
            (⟨(some 18), none, .load none (.t 17)⟩, false),
            (⟨(some 19), none, .bin .leq .other false (.t 13) (.t 18)⟩, true)])
       (.cond (.t 19) (.seq (.reg [2] [⟨(some 2), none, .mv (.c (.bool false))⟩])
         .ret)
       .skip)))
     (.reg [3] [⟨(some 8), none, .mv (.t 3)⟩,
         ⟨(some 9), none, .bin .add .other true (.t 8) (.c (.int .i64 1))⟩,
         ⟨(some 3), none, .mv (.t 9)⟩]))))))
  (.seq (.reg [2] [⟨(some 2), none, .mv (.c (.bool true))⟩])
  .ret)))⟩
theorem c21 : compF Try.prog [0, 2, 3, 7, 19] Try.f21 = some a21 := by kernel_rfl

/- bushel/label.Of -/
def a22 : AFun := ⟨10, [.tmp 2], (.seq (.reg [2] [⟨(some 2), none, .mv (.c .snil)⟩])
  (.seq (.reg [3] [⟨(some 4), none, .mv (.t 0)⟩,
       ⟨(some 5), none, .call (.c (.fn 45)) [(.t 4)]⟩,
       ⟨(some 3), none, .mv (.t 5)⟩])
  (.seq (.reg [] [⟨(some 6), none, .mv (.t 3)⟩,
       ⟨(some 7), none, .call (.c (.fn 46)) [(.t 6)]⟩])
  (.seq (.reg [2] [⟨(some 8), none, .mv (.t 3)⟩,
       ⟨(some 9), none, .call (.c (.fn 47)) [(.t 8)]⟩,
       ⟨(some 2), none, .mv (.t 9)⟩])
  .ret))))⟩
theorem c22 : compF Try.prog [0, 2, 3] Try.f22 = some a22 := by kernel_rfl

/- bushel/label.Has -/
def a23 : AFun := ⟨14, [.tmp 4], (.seq (.reg [4] [⟨(some 4), none, .mv (.c (.bool false))⟩])
  (.seq (.reg [6] [⟨(some 8), none, .mv (.t 0)⟩,
       ⟨(some 9), none, .mv (.t 1)⟩,
       ⟨(some 10), none, .call (.c (.fn 48)) [(.t 8), (.t 9)]⟩,
       ⟨(some 7), none, .mv (.t 10)⟩,
       ⟨(some 11), none, .extract (.t 7) 0⟩,
       ⟨(some 12), none, .extract (.t 7) 1⟩,
       ⟨(some 5), none, .mv (.t 11)⟩,
       ⟨(some 6), none, .mv (.t 12)⟩])
  (.seq (.reg [4] [⟨(some 13), none, .mv (.t 6)⟩,
       ⟨(some 4), none, .mv (.t 13)⟩])
  .ret)))⟩
theorem c23 : compF Try.prog [0, 1, 4, 6] Try.f23 = some a23 := by kernel_rfl

/- bushel/label.Offset -/
def a24 : AFun := ⟨8, [.tmp 4], (.seq (.reg [4] [⟨(some 4), none, .mv (.c (.int .i64 0))⟩])
  (.seq (.reg [4] [⟨(some 5), none, .mv (.t 0)⟩,
       ⟨(some 6), none, .mv (.t 1)⟩,
       ⟨(some 7), none, .call (.c (.fn 49)) [(.t 5), (.t 6)]⟩,
       ⟨(some 4), none, .mv (.t 7)⟩])
  .ret))⟩
theorem c24 : compF Try.prog [0, 1, 4] Try.f24 = some a24 := by kernel_rfl

/- bushel/bushelref08.Offset -/
def a25 : AFun := ⟨22, [.tmp 4], (.seq (.reg [4] [⟨(some 4), none, .mv (.c (.int .i64 0))⟩])
  (.seq (.reg [5] [⟨(some 5), none, .mv (.c (.int .i64 0))⟩])
  (.seq (.seq (.reg [6] [⟨(some 6), none, .mv (.c (.int .i64 0))⟩])
   (.block 0 (.loop (.seq (.seq (.reg [10] [⟨(some 7), none, .mv (.t 6)⟩,
           ⟨(some 8), none, .mv (.t 0)⟩,
           ⟨(some 9), none, .len .sl (.t 8)⟩,
           ⟨(some 10), none, .bin .lss .other false (.t 7) (.t 9)⟩])
      (.cond (.t 10) .skip
      (.exit 0)))
     (.seq (.block 1 (.seq (.reg [18] [⟨(some 13), none, .mv (.t 0)⟩,
            ⟨(some 14), none, .mv (.t 6)⟩,
            ⟨(some 15), none, .iaddr none (.t 13) (.t 14)⟩,
            ⟨(some 16), none, .load none (.t 15)⟩,
            ⟨(some 17), none, .mv (.t 1)⟩,
            ⟨(some 18), none, .bin .lss .other false (.t 16) (.t 17)⟩])
       (.cond (.t 18) (.reg [5] [⟨(some 19), none, .mv (.t 5)⟩,
             ⟨(some 20), none, .bin .add .other true (.t 19) (.c (.int .i64 1))⟩,
             ⟨(some 5), none, .mv (.t 20)⟩])
       .skip)))
     (.reg [6] [⟨(some 11), none, .mv (.t 6)⟩,
         ⟨(some 12), none, .bin .add .other true (.t 11) (.c (.int .i64 1))⟩,
         ⟨(some 6), none, .mv (.t 12)⟩]))))))
  (.seq (.reg [4] [⟨(some 21), none, .mv (.t 5)⟩,
       ⟨(some 4), none, .mv (.t 21)⟩])
  .ret))))⟩
theorem c25 : compF Try.prog [0, 1, 4, 5, 6, 10, 18] Try.f25 = some a25 := by kernel_rfl

/- bushel/label.Join -/
def a26 : AFun := ⟨10, [.tmp 4], (.seq (.reg [4] [⟨(some 4), none, .mv (.c .snil)⟩])
  (.seq (.reg [4] [⟨(some 5), none, .mv (.t 0)⟩,
       ⟨(some 6), none, .mv (.t 1)⟩,
       ⟨(some 7), none, .mksl none [(.t 5), (.t 6)]⟩,
       ⟨(some 8), none, .call (.c (.fn 50)) [(.t 7)]⟩,
       ⟨(some 9), none, .call (.c (.fn 22)) [(.t 8)]⟩,
       ⟨(some 4), none, .mv (.t 9)⟩])
  .ret))⟩
theorem c26 : compF Try.prog [0, 1, 4] Try.f26 = some a26 := by kernel_rfl

/- bushel/bushelref08.Join -/
def a27 : AFun := ⟨11, [.tmp 4], (.seq (.reg [4] [⟨(some 4), none, .mv (.c .snil)⟩])
  (.seq (.reg [4] [⟨(some 5), none, .mksl none []⟩,
       ⟨(some 6), none, .mv (.t 0)⟩,
       ⟨(some 7), none, .append none 16 (.t 5) (.t 6)⟩,
       ⟨(some 8), none, .mv (.t 1)⟩,
       ⟨(some 9), none, .append none 16 (.t 7) (.t 8)⟩,
       ⟨(some 10), none, .call (.c (.fn 19)) [(.t 9)]⟩,
       ⟨(some 4), none, .mv (.t 10)⟩])
  .ret))⟩
theorem c27 : compF Try.prog [0, 1, 4] Try.f27 = some a27 := by kernel_rfl

/- bushel/label.Less -/
def a28 : AFun := ⟨9, [.tmp 4], (.seq (.reg [3, 4] [⟨(some 3), none, .box (.t 1)⟩,
       ⟨(some 4), none, .mv (.c .snil)⟩])
  (.seq (.reg [4] [⟨(some 5), none, .mv (.t 0)⟩,
       ⟨(some 6), none, .call (.c (.fn 45)) [(.t 5)]⟩,
       ⟨(some 7), none, .mkfn 52 [(.t 3)]⟩,
       ⟨(some 8), none, .call (.c (.fn 51)) [(.t 6), (.t 7)]⟩,
       ⟨(some 4), none, .mv (.t 8)⟩])
  .ret))⟩
theorem c28 : compF Try.prog [0, 1, 3, 4] Try.f28 = some a28 := by kernel_rfl

/- bushel/bushelref08.Less -/
def a29 : AFun := ⟨30, [.tmp 4], (.seq (.reg [4] [⟨(some 4), none, .mv (.c .snil)⟩])
  (.seq (.reg [5] [⟨(some 5), none, .mv (.c .snil)⟩])
  (.seq (.seq (.reg [6] [⟨(some 6), none, .mv (.c (.int .i64 0))⟩])
   (.block 0 (.loop (.seq (.seq (.reg [11] [⟨(some 8), none, .mv (.t 6)⟩,
           ⟨(some 9), none, .mv (.t 0)⟩,
           ⟨(some 10), none, .len .sl (.t 9)⟩,
           ⟨(some 11), none, .bin .lss .other false (.t 8) (.t 10)⟩])
      (.cond (.t 11) .skip
      (.exit 0)))
     (.seq (.block 1 (.seq (.reg [7] [⟨(some 14), none, .mv (.t 1)⟩,
            ⟨(some 15), none, .mv (.t 0)⟩,
            ⟨(some 16), none, .mv (.t 6)⟩,
            ⟨(some 17), none, .iaddr none (.t 15) (.t 16)⟩,
            ⟨(some 18), none, .load none (.t 17)⟩,
            ⟨(some 19), none, .call (.c (.fn 16)) [(.t 14), (.t 18)]⟩,
            ⟨(some 7), none, .mv (.t 19)⟩])
       (.seq (.reg [21] [⟨(some 20), none, .mv (.t 7)⟩,
            ⟨(some 21), none, .un .not (.t 20)⟩])
       (.cond (.t 21) (.reg [5] [⟨(some 22), none, .mv (.t 5)⟩,
             ⟨(some 23), none, .mv (.t 0)⟩,
             ⟨(some 24), none, .mv (.t 6)⟩,
             ⟨(some 25), none, .iaddr none (.t 23) (.t 24)⟩,
             ⟨(some 26), none, .load none (.t 25)⟩,
             ⟨(some 27), none, .mksl none [(.t 26)]⟩,
             ⟨(some 28), none, .append none 16 (.t 22) (.t 27)⟩,
             ⟨(some 5), none, .mv (.t 28)⟩])
       .skip))))
     (.reg [6] [⟨(some 12), none, .mv (.t 6)⟩,
         ⟨(some 13), none, .bin .add .other true (.t 12) (.c (.int .i64 1))⟩,
         ⟨(some 6), none, .mv (.t 13)⟩]))))))
  (.seq (.reg [4] [⟨(some 29), none, .mv (.t 5)⟩,
       ⟨(some 4), none, .mv (.t 29)⟩])
  .ret))))⟩
theorem c29 : compF Try.prog [0, 1, 4, 5, 6, 7, 11, 21] Try.f29 = some a29 := by kernel_rfl

/- bushel/label.Meet -/
def a30 : AFun := ⟨9, [.tmp 4], (.seq (.reg [3, 4] [⟨(some 3), none, .box (.t 1)⟩,
       ⟨(some 4), none, .mv (.c .snil)⟩])
  (.seq (.reg [4] [⟨(some 5), none, .mv (.t 0)⟩,
       ⟨(some 6), none, .call (.c (.fn 45)) [(.t 5)]⟩,
       ⟨(some 7), none, .mkfn 53 [(.t 3)]⟩,
       ⟨(some 8), none, .call (.c (.fn 51)) [(.t 6), (.t 7)]⟩,
       ⟨(some 4), none, .mv (.t 8)⟩])
  .ret))⟩
theorem c30 : compF Try.prog [0, 1, 3, 4] Try.f30 = some a30 := by kernel_rfl

/- bushel/bushelref08.Meet -/
def a31 : AFun := ⟨10, [.tmp 4], (.seq (.reg [4] [⟨(some 4), none, .mv (.c .snil)⟩])
  (.seq (.reg [4] [⟨(some 5), none, .mv (.t 0)⟩,
       ⟨(some 6), none, .mv (.t 0)⟩,
       ⟨(some 7), none, .mv (.t 1)⟩,
       ⟨(some 8), none, .call (.c (.fn 29)) [(.t 6), (.t 7)]⟩,
       ⟨(some 9), none, .call (.c (.fn 29)) [(.t 5), (.t 8)]⟩,
       ⟨(some 4), none, .mv (.t 9)⟩])
  .ret))⟩
theorem c31 : compF Try.prog [0, 1, 4] Try.f31 = some a31 := by kernel_rfl

/- bushel/bushelref05.texts -/
def a37 : AFun := ⟨26, [.tmp 4], (.seq (.reg [4] [⟨(some 4), none, .mv (.c (.bool false))⟩])
  (.seq (.seq (.reg [10] [⟨(some 6), none, .mv (.t 0)⟩,
        ⟨(some 7), none, .len .sl (.t 6)⟩,
        ⟨(some 8), none, .mv (.t 1)⟩,
        ⟨(some 9), none, .len .sl (.t 8)⟩,
        ⟨(some 10), none, .bin .neq .other false (.t 7) (.t 9)⟩])
   (.cond (.t 10) (.seq (.reg [4] [⟨(some 4), none, .mv (.c (.bool false))⟩])
     .ret)
   .skip))
  (.seq (.seq (.reg [5] [⟨(some 5), none, .mv (.c (.int .i64 0))⟩])
   (.block 0 (.loop (.seq (.seq (.reg [14] [⟨(some 11), none, .mv (.t 5)⟩,
           ⟨(some 12), none, .mv (.t 0)⟩,
           ⟨(some 13), none, .len .sl (.t 12)⟩,
           ⟨(some 14), none, .bin .lss .other false (.t 11) (.t 13)⟩])
      (.cond (.t 14) .skip
      (.exit 0)))
     (.seq (.block 1 (.seq (.any [25] [(⟨(some 17), none, .mv (.t 0)⟩, true),
            (⟨(some 18), none, .mv (.t 5)⟩, false),
            (⟨(some 19), none, .iaddr none (.t 17) (.t 18)⟩, true),
            (⟨(some 20), none, .load none (.t 19)⟩, true),
            (⟨(some 21), none, .mv (.t 1)⟩, false),
            (⟨(some 22), none, .mv (.t 5)⟩, false),
            (⟨(some 23), none, .iaddr none (.t 21) (.t 22)⟩, false),
            (⟨(some 24), none, .load none (.t 23)⟩, false),
            (⟨(some 25), none, .bin .neq .other false (.t 20) (.t 24)⟩, true)])
       (.cond (.t 25) (.seq (.reg [4] [⟨(some 4), none, .mv (.c (.bool false))⟩])
         .ret)
       .skip)))
     (.reg [5] [⟨(some 15), none, .mv (.t 5)⟩,
         ⟨(some 16), none, .bin .add .other true (.t 15) (.c (.int .i64 1))⟩,
         ⟨(some 5), none, .mv (.t 16)⟩]))))))
  (.seq (.reg [4] [⟨(some 4), none, .mv (.c (.bool true))⟩])
  .ret))))⟩
theorem c37 : compF Try.prog [0, 1, 4, 5, 10, 14, 25] Try.f37 = some a37 := by kernel_rfl

/- bushel/bushelref08.Add -/
def a44 : AFun := ⟨30, [.tmp 4], (.seq (.reg [4] [⟨(some 4), none, .mv (.c .snil)⟩])
  (.seq (.reg [5] [⟨(some 8), none, .mv (.t 0)⟩,
       ⟨(some 9), none, .mv (.t 1)⟩,
       ⟨(some 10), none, .call (.c (.fn 16)) [(.t 8), (.t 9)]⟩,
       ⟨(some 5), none, .mv (.t 10)⟩])
  (.seq (.seq (.reg [11] [⟨(some 11), none, .mv (.t 5)⟩])
   (.cond (.t 11) (.seq (.reg [4] [⟨(some 12), none, .mv (.t 0)⟩,
          ⟨(some 4), none, .mv (.t 12)⟩])
     .ret)
   .skip))
  (.seq (.reg [6] [⟨(some 13), none, .mv (.t 0)⟩,
       ⟨(some 14), none, .mv (.t 1)⟩,
       ⟨(some 15), none, .call (.c (.fn 25)) [(.t 13), (.t 14)]⟩,
       ⟨(some 6), none, .mv (.t 15)⟩])
  (.seq (.reg [7] [⟨(some 16), none, .mksl none []⟩,
       ⟨(some 17), none, .mv (.t 0)⟩,
       ⟨(some 18), none, .mv (.t 6)⟩,
       ⟨(some 19), none, .slice (.sl none) (.t 17) none (some (.t 18)) none⟩,
       ⟨(some 20), none, .append none 16 (.t 16) (.t 19)⟩,
       ⟨(some 7), none, .mv (.t 20)⟩])
  (.seq (.reg [7] [⟨(some 21), none, .mv (.t 7)⟩,
       ⟨(some 22), none, .mv (.t 1)⟩,
       ⟨(some 23), none, .mksl none [(.t 22)]⟩,
       ⟨(some 24), none, .append none 16 (.t 21) (.t 23)⟩,
       ⟨(some 7), none, .mv (.t 24)⟩])
  (.seq (.reg [4] [⟨(some 25), none, .mv (.t 7)⟩,
       ⟨(some 26), none, .mv (.t 0)⟩,
       ⟨(some 27), none, .mv (.t 6)⟩,
       ⟨(some 28), none, .slice (.sl none) (.t 26) (some (.t 27)) none none⟩,
       ⟨(some 29), none, .append none 16 (.t 25) (.t 28)⟩,
       ⟨(some 4), none, .mv (.t 29)⟩])
  .ret)))))))⟩
theorem c44 : compF Try.prog [0, 1, 4, 5, 6, 7, 11] Try.f44 = some a44 := by kernel_rfl

/- slices.Clone[[]string,string] -/
def a45 : AFun := ⟨8, [.tmp 2], (.seq (.reg [2] [⟨(some 2), none, .mv (.c .snil)⟩])
  (.seq (.seq (.reg [4] [⟨(some 3), none, .mv (.t 0)⟩,
        ⟨(some 4), none, .bin .eql .sl true (.t 3) (.c .snil)⟩])
   (.cond (.t 4) (.seq (.reg [2] [⟨(some 2), none, .mv (.c .snil)⟩])
     .ret)
   .skip))
  (.seq (.reg [2] [⟨(some 5), none, .mksl none []⟩,
       ⟨(some 6), none, .mv (.t 0)⟩,
       ⟨(some 7), none, .append none 16 (.t 5) (.t 6)⟩,
       ⟨(some 2), none, .mv (.t 7)⟩])
  .ret)))⟩
theorem c45 : compF Try.prog [0, 2, 4] Try.f45 = some a45 := by kernel_rfl

/- slices.Clone[[]string,string] -/
def a45m : AFun := ⟨8, [.tmp 2], (.seq (.reg [2] [⟨(some 2), none, .mv (.c .snil)⟩])
  (.seq (.seq (.reg [4] [⟨(some 3), none, .mv (.t 0)⟩,
        ⟨(some 4), none, .bin .eql .sl true (.t 3) (.c .snil)⟩])
   (.cond (.t 4) (.seq (.reg [2] [⟨(some 2), none, .mv (.c .snil)⟩])
     .ret)
   .skip))
  (.seq (.reg [2] [⟨(some 5), none, .mksl none []⟩,
       ⟨(some 6), none, .mv (.t 0)⟩,
       ⟨(some 7), none, .ext (.appm none 16) [(.t 5), (.t 6)]⟩,
       ⟨(some 2), none, .mv (.t 7)⟩])
  .ret)))⟩
theorem c45m : compF Try.prog [0, 2, 4] Try.f45 [7] = some a45m := by kernel_rfl

/- slices.Sort[[]string,string] -/
def a46 : AFun := ⟨11, [], (.seq (.reg [2] [⟨(some 3), none, .mv (.t 0)⟩,
       ⟨(some 4), none, .len .sl (.t 3)⟩,
       ⟨(some 2), none, .mv (.t 4)⟩])
  (.reg [] [⟨(some 5), none, .mv (.t 0)⟩,
      ⟨(some 6), none, .mv (.t 2)⟩,
      ⟨(some 7), none, .mv (.t 2)⟩,
      ⟨(some 8), none, .conv (.toInt .u64) (.t 7)⟩,
      ⟨(some 9), none, .call (.c (.fn 61)) [(.t 8)]⟩,
      ⟨(some 10), none, .call (.c (.fn 60)) [(.t 5), (.c (.int .i64 0)), (.t 6), (.t 9)]⟩]))⟩
theorem c46 : compF Try.prog [0, 2] Try.f46 = some a46 := by kernel_rfl

/- slices.Compact[[]string,string] -/
def a47 : AFun := ⟨61, [.tmp 2], (.seq (.reg [2] [⟨(some 2), none, .mv (.c .snil)⟩])
  (.seq (.seq (.reg [8] [⟨(some 6), none, .mv (.t 0)⟩,
        ⟨(some 7), none, .len .sl (.t 6)⟩,
        ⟨(some 8), none, .bin .lss .other true (.t 7) (.c (.int .i64 2))⟩])
   (.cond (.t 8) (.seq (.reg [2] [⟨(some 9), none, .mv (.t 0)⟩,
          ⟨(some 2), none, .mv (.t 9)⟩])
     .ret)
   .skip))
  (.seq (.seq (.reg [3] [⟨(some 3), none, .mv (.c (.int .i64 1))⟩])
   (.block 0 (.loop (.seq (.seq (.reg [13] [⟨(some 10), none, .mv (.t 3)⟩,
           ⟨(some 11), none, .mv (.t 0)⟩,
           ⟨(some 12), none, .len .sl (.t 11)⟩,
           ⟨(some 13), none, .bin .lss .other false (.t 10) (.t 12)⟩])
      (.cond (.t 13) .skip
      (.exit 0)))
     (.seq (.block 1 (.seq (.any [25] [(⟨(some 16), none, .mv (.t 0)⟩, true),
            (⟨(some 17), none, .mv (.t 3)⟩, false),
            (⟨(some 18), none, .iaddr none (.t 16) (.t 17)⟩, true),
            (⟨(some 19), none, .load none (.t 18)⟩, true),
            (⟨(some 20), none, .mv (.t 0)⟩, false),
            (⟨(some 21), none, .mv (.t 3)⟩, false),
            (⟨(some 22), none, .bin .sub .other true (.t 21) (.c (.int .i64 1))⟩, false),
            (⟨(some 23), none, .iaddr none (.t 20) (.t 22)⟩, false),
            (⟨(some 24), none, .load none (.t 23)⟩, false),
            (⟨(some 25), none, .bin .eql .other false (.t 19) (.t 24)⟩, true)])
       (.cond (.t 25) (.seq (.reg [4] [⟨(some 26), none, .mv (.t 0)⟩,
              ⟨(some 27), none, .mv (.t 3)⟩,
              ⟨(some 28), none, .slice (.sl none) (.t 26) (some (.t 27)) none none⟩,
              ⟨(some 4), none, .mv (.t 28)⟩])
         (.seq (.seq (.reg [5] [⟨(some 5), none, .mv (.c (.int .i64 1))⟩])
          (.block 2 (.loop (.seq (.seq (.reg [32] [⟨(some 29), none, .mv (.t 5)⟩,
                  ⟨(some 30), none, .mv (.t 4)⟩,
                  ⟨(some 31), none, .len .sl (.t 30)⟩,
                  ⟨(some 32), none, .bin .lss .other false (.t 29) (.t 31)⟩])
             (.cond (.t 32) .skip
             (.exit 2)))
            (.seq (.block 3 (.seq (.any [44] [(⟨(some 35), none, .mv (.t 4)⟩, true),
                   (⟨(some 36), none, .mv (.t 5)⟩, false),
                   (⟨(some 37), none, .iaddr none (.t 35) (.t 36)⟩, true),
                   (⟨(some 38), none, .load none (.t 37)⟩, true),
                   (⟨(some 39), none, .mv (.t 4)⟩, false),
                   (⟨(some 40), none, .mv (.t 5)⟩, false),
                   (⟨(some 41), none, .bin .sub .other true (.t 40) (.c (.int .i64 1))⟩, false),
                   (⟨(some 42), none, .iaddr none (.t 39) (.t 41)⟩, false),
                   (⟨(some 43), none, .load none (.t 42)⟩, false),
                   (⟨(some 44), none, .bin .neq .other false (.t 38) (.t 43)⟩, true)])
              (.cond (.t 44) (.seq (.reg [] [⟨(some 45), none, .mv (.t 0)⟩,
                     ⟨(some 46), none, .mv (.t 3)⟩,
                     ⟨(some 47), none, .mv (.t 4)⟩,
                     ⟨(some 48), none, .mv (.t 5)⟩,
                     ⟨(some 49), none, .iaddr none (.t 47) (.t 48)⟩,
                     ⟨(some 50), none, .load none (.t 49)⟩,
                     ⟨(some 51), none, .iaddr none (.t 45) (.t 46)⟩,
                     ⟨none, none, .store 1 (.t 51) (.t 50)⟩])
                (.reg [3] [⟨(some 52), none, .mv (.t 3)⟩,
                    ⟨(some 53), none, .bin .add .other true (.t 52) (.c (.int .i64 1))⟩,
                    ⟨(some 3), none, .mv (.t 53)⟩]))
              .skip)))
            (.reg [5] [⟨(some 33), none, .mv (.t 5)⟩,
                ⟨(some 34), none, .bin .add .other true (.t 33) (.c (.int .i64 1))⟩,
                ⟨(some 5), none, .mv (.t 34)⟩]))))))
         (.seq (.reg [] [⟨(some 54), none, .mv (.t 0)⟩,
              ⟨(some 55), none, .mv (.t 3)⟩,
              ⟨(some 56), none, .slice (.sl none) (.t 54) (some (.t 55)) none none⟩,
              ⟨none, none, .ext (.clear [(.str [])]) [(.t 56)]⟩])
         (.seq (.reg [2] [⟨(some 57), none, .mv (.t 0)⟩,
              ⟨(some 58), none, .mv (.t 3)⟩,
              ⟨(some 59), none, .slice (.sl none) (.t 57) none (some (.t 58)) none⟩,
              ⟨(some 2), none, .mv (.t 59)⟩])
         .ret))))
       .skip)))
     (.reg [3] [⟨(some 14), none, .mv (.t 3)⟩,
         ⟨(some 15), none, .bin .add .other true (.t 14) (.c (.int .i64 1))⟩,
         ⟨(some 3), none, .mv (.t 15)⟩]))))))
  (.seq (.reg [2] [⟨(some 60), none, .mv (.t 0)⟩,
       ⟨(some 2), none, .mv (.t 60)⟩])
  .ret))))⟩
theorem c47 : compF Try.prog [0, 2, 3, 4, 5, 8, 13, 25, 32, 44] Try.f47 = some a47 := by kernel_rfl

/- slices.BinarySearch[[]string,string] -/
def a48 : AFun := ⟨54, [.tmp 4, .tmp 5], (.seq (.reg [4, 5] [⟨(some 4), none, .mv (.c (.int .i64 0))⟩,
       ⟨(some 5), none, .mv (.c (.bool false))⟩])
  (.seq (.reg [6] [⟨(some 10), none, .mv (.t 0)⟩,
       ⟨(some 11), none, .len .sl (.t 10)⟩,
       ⟨(some 6), none, .mv (.t 11)⟩])
  (.seq (.reg [7, 8] [⟨(some 12), none, .mv (.t 6)⟩,
       ⟨(some 7), none, .mv (.c (.int .i64 0))⟩,
       ⟨(some 8), none, .mv (.t 12)⟩])
  (.seq (.block 0 (.loop (.seq (.seq (.reg [15] [⟨(some 13), none, .mv (.t 7)⟩,
           ⟨(some 14), none, .mv (.t 8)⟩,
           ⟨(some 15), none, .bin .lss .other false (.t 13) (.t 14)⟩])
      (.cond (.t 15) .skip
      (.exit 0)))
     (.block 1 (.seq (.reg [9] [⟨(some 16), none, .mv (.t 7)⟩,
           ⟨(some 17), none, .mv (.t 8)⟩,
           ⟨(some 18), none, .bin .add .other false (.t 16) (.t 17)⟩,
           ⟨(some 19), none, .conv (.toInt .u64) (.t 18)⟩,
           ⟨(some 20), none, .bin .shr .other true (.t 19) (.c (.int .u64 1))⟩,
           ⟨(some 21), none, .conv (.toInt .i64) (.t 20)⟩,
           ⟨(some 9), none, .mv (.t 21)⟩])
      (.seq (.reg [27] [⟨(some 22), none, .mv (.t 0)⟩,
           ⟨(some 23), none, .mv (.t 9)⟩,
           ⟨(some 24), none, .iaddr none (.t 22) (.t 23)⟩,
           ⟨(some 25), none, .load none (.t 24)⟩,
           ⟨(some 26), none, .mv (.t 1)⟩,
           ⟨(some 27), none, .call (.c (.fn 62)) [(.t 25), (.t 26)]⟩])
      (.cond (.t 27) (.reg [7] [⟨(some 28), none, .mv (.t 9)⟩,
            ⟨(some 29), none, .bin .add .other true (.t 28) (.c (.int .i64 1))⟩,
            ⟨(some 7), none, .mv (.t 29)⟩])
      (.reg [8] [⟨(some 30), none, .mv (.t 9)⟩,
          ⟨(some 8), none, .mv (.t 30)⟩]))))))))
  (.seq (.reg [4, 5] [⟨(some 31), none, .mv (.t 7)⟩,
       ⟨(some 32), none, .mv (.t 7)⟩,
       ⟨(some 33), none, .mv (.t 6)⟩,
       ⟨(some 34), none, .bin .lss .other false (.t 32) (.t 33)⟩,
       ⟨(some 35), none, .mv (.t 34)⟩,
       ⟨(some 36), (some (35, true)), .mv (.t 0)⟩,
       ⟨(some 37), (some (35, true)), .mv (.t 7)⟩,
       ⟨(some 38), (some (35, true)), .iaddr none (.t 36) (.t 37)⟩,
       ⟨(some 39), (some (35, true)), .load none (.t 38)⟩,
       ⟨(some 40), (some (35, true)), .mv (.t 1)⟩,
       ⟨(some 41), (some (35, true)), .bin .eql .other false (.t 39) (.t 40)⟩,
       ⟨(some 42), (some (35, true)), .mv (.t 41)⟩,
       ⟨(some 43), (some (42, false)), .mv (.t 0)⟩,
       ⟨(some 44), (some (42, false)), .mv (.t 7)⟩,
       ⟨(some 45), (some (42, false)), .iaddr none (.t 43) (.t 44)⟩,
       ⟨(some 46), (some (42, false)), .load none (.t 45)⟩,
       ⟨(some 47), (some (42, false)), .call (.c (.fn 63)) [(.t 46)]⟩,
       ⟨(some 48), (some (42, false)), .mv (.t 47)⟩,
       ⟨(some 49), (some (48, true)), .mv (.t 1)⟩,
       ⟨(some 50), (some (48, true)), .call (.c (.fn 63)) [(.t 49)]⟩,
       ⟨(some 51), (some (42, false)), .pick (.t 48) (.t 50) (.c (.bool false))⟩,
       ⟨(some 52), (some (35, true)), .pick (.t 42) (.c (.bool true)) (.t 51)⟩,
       ⟨(some 53), none, .pick (.t 35) (.t 52) (.c (.bool false))⟩,
       ⟨(some 4), none, .mv (.t 31)⟩,
       ⟨(some 5), none, .mv (.t 53)⟩])
  .ret)))))⟩
theorem c48 : compF Try.prog [0, 1, 4, 5, 6, 7, 8, 9, 15, 27] Try.f48 = some a48 := by kernel_rfl

/- sort.SearchStrings -/
def a49 : AFun := ⟨9, [.tmp 4], (.seq (.reg [2, 3, 4] [⟨(some 2), none, .box (.t 0)⟩,
       ⟨(some 3), none, .box (.t 1)⟩,
       ⟨(some 4), none, .mv (.c (.int .i64 0))⟩])
  (.seq (.reg [4] [⟨(some 5), none, .load none (.t 2)⟩,
       ⟨(some 6), none, .len .sl (.t 5)⟩,
       ⟨(some 7), none, .mkfn 65 [(.t 2), (.t 3)]⟩,
       ⟨(some 8), none, .call (.c (.fn 64)) [(.t 6), (.t 7)]⟩,
       ⟨(some 4), none, .mv (.t 8)⟩])
  .ret))⟩
theorem c49 : compF Try.prog [0, 1, 2, 3, 4] Try.f49 = some a49 := by kernel_rfl

/- slices.Concat[[]string,string] -/
def a50 : AFun := ⟨36, [.tmp 2], (.seq (.reg [2] [⟨(some 2), none, .mv (.c .snil)⟩])
  (.seq (.reg [3] [⟨(some 3), none, .mv (.c (.int .i64 0))⟩])
  (.seq (.seq (.reg [9, 10, 11] [⟨(some 9), none, .mv (.t 0)⟩,
        ⟨(some 10), none, .len .sl (.t 9)⟩,
        ⟨(some 11), none, .mv (.c (.int .i64 0))⟩])
   (.block 0 (.loop (.seq (.reg [12] [⟨(some 12), none, .bin .lss .other false (.t 11) (.t 10)⟩])
     (.seq (.cond (.t 12) .skip
      (.exit 0))
     (.seq (.block 1 (.seq (.reg [5] [⟨(some 13), none, .iaddr none (.t 9) (.t 11)⟩,
            ⟨(some 14), none, .load none (.t 13)⟩,
            ⟨(some 5), none, .mv (.t 14)⟩])
       (.seq (.reg [3] [⟨(some 15), none, .mv (.t 3)⟩,
            ⟨(some 16), none, .mv (.t 5)⟩,
            ⟨(some 17), none, .len .sl (.t 16)⟩,
            ⟨(some 18), none, .bin .add .other false (.t 15) (.t 17)⟩,
            ⟨(some 3), none, .mv (.t 18)⟩])
       (.seq (.reg [20] [⟨(some 19), none, .mv (.t 3)⟩,
            ⟨(some 20), none, .bin .lss .other true (.t 19) (.c (.int .i64 0))⟩])
       (.cond (.t 20) (.reg [] [⟨(some 21), none, .mkif 9 (.c (.str [108, 101, 110, 32, 111, 117, 116, 32, 111, 102, 32, 114, 97, 110, 103, 101]))⟩,
             ⟨none, none, .ext .stop []⟩])
       .skip)))))
     (.reg [11] [⟨(some 22), none, .bin .add .other true (.t 11) (.c (.int .i64 1))⟩,
         ⟨(some 11), none, .mv (.t 22)⟩])))))))
  (.seq (.reg [6] [⟨(some 23), none, .mv (.t 3)⟩,
       ⟨(some 24), none, .call (.c (.fn 66)) [(.c .snil), (.t 23)]⟩,
       ⟨(some 6), none, .mv (.t 24)⟩])
  (.seq (.seq (.reg [25, 26, 27] [⟨(some 25), none, .mv (.t 0)⟩,
        ⟨(some 26), none, .len .sl (.t 25)⟩,
        ⟨(some 27), none, .mv (.c (.int .i64 0))⟩])
   (.block 2 (.loop (.seq (.reg [28] [⟨(some 28), none, .bin .lss .other false (.t 27) (.t 26)⟩])
     (.seq (.cond (.t 28) .skip
      (.exit 2))
     (.seq (.block 3 (.seq (.reg [8] [⟨(some 29), none, .iaddr none (.t 25) (.t 27)⟩,
            ⟨(some 30), none, .load none (.t 29)⟩,
            ⟨(some 8), none, .mv (.t 30)⟩])
       (.reg [6] [⟨(some 31), none, .mv (.t 6)⟩,
           ⟨(some 32), none, .mv (.t 8)⟩,
           ⟨(some 33), none, .append none 16 (.t 31) (.t 32)⟩,
           ⟨(some 6), none, .mv (.t 33)⟩])))
     (.reg [27] [⟨(some 34), none, .bin .add .other true (.t 27) (.c (.int .i64 1))⟩,
         ⟨(some 27), none, .mv (.t 34)⟩])))))))
  (.seq (.reg [2] [⟨(some 35), none, .mv (.t 6)⟩,
       ⟨(some 2), none, .mv (.t 35)⟩])
  .ret))))))⟩
theorem c50 : compF Try.prog [0, 2, 3, 5, 6, 8, 9, 10, 11, 12, 20, 25, 26, 27, 28] Try.f50 = some a50 := by kernel_rfl

/- slices.Concat[[]string,string] -/
def a50m : AFun := ⟨36, [.tmp 2], (.seq (.reg [2] [⟨(some 2), none, .mv (.c .snil)⟩])
  (.seq (.reg [3] [⟨(some 3), none, .mv (.c (.int .i64 0))⟩])
  (.seq (.seq (.reg [9, 10, 11] [⟨(some 9), none, .mv (.t 0)⟩,
        ⟨(some 10), none, .len .sl (.t 9)⟩,
        ⟨(some 11), none, .mv (.c (.int .i64 0))⟩])
   (.block 0 (.loop (.seq (.reg [12] [⟨(some 12), none, .bin .lss .other false (.t 11) (.t 10)⟩])
     (.seq (.cond (.t 12) .skip
      (.exit 0))
     (.seq (.block 1 (.seq (.reg [5] [⟨(some 13), none, .iaddr none (.t 9) (.t 11)⟩,
            ⟨(some 14), none, .load none (.t 13)⟩,
            ⟨(some 5), none, .mv (.t 14)⟩])
       (.seq (.reg [3] [⟨(some 15), none, .mv (.t 3)⟩,
            ⟨(some 16), none, .mv (.t 5)⟩,
            ⟨(some 17), none, .len .sl (.t 16)⟩,
            ⟨(some 18), none, .bin .add .other false (.t 15) (.t 17)⟩,
            ⟨(some 3), none, .mv (.t 18)⟩])
       (.seq (.reg [20] [⟨(some 19), none, .mv (.t 3)⟩,
            ⟨(some 20), none, .bin .lss .other true (.t 19) (.c (.int .i64 0))⟩])
       (.cond (.t 20) (.reg [] [⟨(some 21), none, .mkif 9 (.c (.str [108, 101, 110, 32, 111, 117, 116, 32, 111, 102, 32, 114, 97, 110, 103, 101]))⟩,
             ⟨none, none, .ext .stop []⟩])
       .skip)))))
     (.reg [11] [⟨(some 22), none, .bin .add .other true (.t 11) (.c (.int .i64 1))⟩,
         ⟨(some 11), none, .mv (.t 22)⟩])))))))
  (.seq (.reg [6] [⟨(some 23), none, .mv (.t 3)⟩,
       ⟨(some 24), none, .call (.c (.fn 66)) [(.c .snil), (.t 23)]⟩,
       ⟨(some 6), none, .mv (.t 24)⟩])
  (.seq (.seq (.reg [25, 26, 27] [⟨(some 25), none, .mv (.t 0)⟩,
        ⟨(some 26), none, .len .sl (.t 25)⟩,
        ⟨(some 27), none, .mv (.c (.int .i64 0))⟩])
   (.block 2 (.loop (.seq (.reg [28] [⟨(some 28), none, .bin .lss .other false (.t 27) (.t 26)⟩])
     (.seq (.cond (.t 28) .skip
      (.exit 2))
     (.seq (.block 3 (.seq (.reg [8] [⟨(some 29), none, .iaddr none (.t 25) (.t 27)⟩,
            ⟨(some 30), none, .load none (.t 29)⟩,
            ⟨(some 8), none, .mv (.t 30)⟩])
       (.reg [6] [⟨(some 31), none, .mv (.t 6)⟩,
           ⟨(some 32), none, .mv (.t 8)⟩,
           ⟨(some 33), none, .ext (.appm none 16) [(.t 31), (.t 32)]⟩,
           ⟨(some 6), none, .mv (.t 33)⟩])))
     (.reg [27] [⟨(some 34), none, .bin .add .other true (.t 27) (.c (.int .i64 1))⟩,
         ⟨(some 27), none, .mv (.t 34)⟩])))))))
  (.seq (.reg [2] [⟨(some 35), none, .mv (.t 6)⟩,
       ⟨(some 2), none, .mv (.t 35)⟩])
  .ret))))))⟩
theorem c50m : compF Try.prog [0, 2, 3, 5, 6, 8, 9, 10, 11, 12, 20, 25, 26, 27, 28] Try.f50 [33] = some a50m := by kernel_rfl

/- slices.DeleteFunc[[]string,string] -/
def a51 : AFun := ⟨42, [.tmp 4], (.seq (.reg [4] [⟨(some 4), none, .mv (.c .snil)⟩])
  (.seq (.reg [5] [⟨(some 8), none, .mv (.t 0)⟩,
       ⟨(some 9), none, .mv (.t 1)⟩,
       ⟨(some 10), none, .call (.c (.fn 67)) [(.t 8), (.t 9)]⟩,
       ⟨(some 5), none, .mv (.t 10)⟩])
  (.seq (.seq (.reg [12] [⟨(some 11), none, .mv (.t 5)⟩,
        ⟨(some 12), none, .bin .eql .other true (.t 11) (.c (.int .i64 (-1)))⟩])
   (.cond (.t 12) (.seq (.reg [4] [⟨(some 13), none, .mv (.t 0)⟩,
          ⟨(some 4), none, .mv (.t 13)⟩])
     .ret)
   .skip))
  (.seq (.seq (.reg [6] [⟨(some 14), none, .mv (.t 5)⟩,
        ⟨(some 15), none, .bin .add .other true (.t 14) (.c (.int .i64 1))⟩,
        ⟨(some 6), none, .mv (.t 15)⟩])
   (.block 0 (.loop (.seq (.seq (.reg [19] [⟨(some 16), none, .mv (.t 6)⟩,
           ⟨(some 17), none, .mv (.t 0)⟩,
           ⟨(some 18), none, .len .sl (.t 17)⟩,
           ⟨(some 19), none, .bin .lss .other false (.t 16) (.t 18)⟩])
      (.cond (.t 19) .skip
      (.exit 0)))
     (.seq (.block 1 (.seq (.reg [7] [⟨(some 22), none, .mv (.t 0)⟩,
            ⟨(some 23), none, .mv (.t 6)⟩,
            ⟨(some 24), none, .iaddr none (.t 22) (.t 23)⟩,
            ⟨(some 25), none, .load none (.t 24)⟩,
            ⟨(some 7), none, .mv (.t 25)⟩])
       (.seq (.reg [29] [⟨(some 26), none, .mv (.t 1)⟩,
            ⟨(some 27), none, .mv (.t 7)⟩,
            ⟨(some 28), none, .call (.t 26) [(.t 27)]⟩,
            ⟨(some 29), none, .un .not (.t 28)⟩])
       (.cond (.t 29) (.seq (.reg [] [⟨(some 30), none, .mv (.t 0)⟩,
              ⟨(some 31), none, .mv (.t 5)⟩,
              ⟨(some 32), none, .mv (.t 7)⟩,
              ⟨(some 33), none, .iaddr none (.t 30) (.t 31)⟩,
              ⟨none, none, .store 1 (.t 33) (.t 32)⟩])
         (.reg [5] [⟨(some 34), none, .mv (.t 5)⟩,
             ⟨(some 35), none, .bin .add .other true (.t 34) (.c (.int .i64 1))⟩,
             ⟨(some 5), none, .mv (.t 35)⟩]))
       .skip))))
     (.reg [6] [⟨(some 20), none, .mv (.t 6)⟩,
         ⟨(some 21), none, .bin .add .other true (.t 20) (.c (.int .i64 1))⟩,
         ⟨(some 6), none, .mv (.t 21)⟩]))))))
  (.seq (.reg [] [⟨(some 36), none, .mv (.t 0)⟩,
       ⟨(some 37), none, .mv (.t 5)⟩,
       ⟨(some 38), none, .slice (.sl none) (.t 36) (some (.t 37)) none none⟩,
       ⟨none, none, .ext (.clear [(.str [])]) [(.t 38)]⟩])
  (.seq (.reg [4] [⟨(some 39), none, .mv (.t 0)⟩,
       ⟨(some 40), none, .mv (.t 5)⟩,
       ⟨(some 41), none, .slice (.sl none) (.t 39) none (some (.t 40)) none⟩,
       ⟨(some 4), none, .mv (.t 41)⟩])
  .ret))))))⟩
theorem c51 : compF Try.prog [0, 1, 4, 5, 6, 7, 12, 19, 29] Try.f51 = some a51 := by kernel_rfl

/- bushel/label.Less$1 -/
def a52 : AFun := ⟨7, [.tmp 3], (.seq (.reg [3] [⟨(some 3), none, .mv (.c (.bool false))⟩])
  (.seq (.reg [3] [⟨(some 4), none, .load none (.t 1)⟩,
       ⟨(some 5), none, .mv (.t 0)⟩,
       ⟨(some 6), none, .call (.c (.fn 23)) [(.t 4), (.t 5)]⟩,
       ⟨(some 3), none, .mv (.t 6)⟩])
  .ret))⟩
theorem c52 : compF Try.prog [0, 1, 3] Try.f52 = some a52 := by kernel_rfl

/- bushel/label.Meet$1 -/
def a53 : AFun := ⟨8, [.tmp 3], (.seq (.reg [3] [⟨(some 3), none, .mv (.c (.bool false))⟩])
  (.seq (.reg [3] [⟨(some 4), none, .load none (.t 1)⟩,
       ⟨(some 5), none, .mv (.t 0)⟩,
       ⟨(some 6), none, .call (.c (.fn 23)) [(.t 4), (.t 5)]⟩,
       ⟨(some 7), none, .un .not (.t 6)⟩,
       ⟨(some 3), none, .mv (.t 7)⟩])
  .ret))⟩
theorem c53 : compF Try.prog [0, 1, 3] Try.f53 = some a53 := by kernel_rfl

/- math/bits.Len -/
def a61 : AFun := ⟨8, [.tmp 2], (.seq (.reg [2] [⟨(some 2), none, .mv (.c (.int .i64 0))⟩])
  (.seq (.cond (.c (.bool false)) (.seq (.reg [2] [⟨(some 3), none, .mv (.t 0)⟩,
          ⟨(some 4), none, .conv (.toInt .u32) (.t 3)⟩,
          ⟨(some 5), none, .call (.c (.fn 79)) [(.t 4)]⟩,
          ⟨(some 2), none, .mv (.t 5)⟩])
     .ret)
   .skip)
  (.seq (.reg [2] [⟨(some 6), none, .mv (.t 0)⟩,
       ⟨(some 7), none, .call (.c (.fn 80)) [(.t 6)]⟩,
       ⟨(some 2), none, .mv (.t 7)⟩])
  .ret)))⟩
theorem c61 : compF Try.prog [0, 2] Try.f61 = some a61 := by kernel_rfl

/- cmp.Less[string] -/
def a62 : AFun := ⟨17, [.tmp 4], (.seq (.reg [4] [⟨(some 4), none, .mv (.c (.bool false))⟩])
  (.seq (.reg [4] [⟨(some 5), none, .mv (.t 0)⟩,
       ⟨(some 6), none, .call (.c (.fn 81)) [(.t 5)]⟩,
       ⟨(some 7), none, .mv (.t 6)⟩,
       ⟨(some 8), (some (7, true)), .mv (.t 1)⟩,
       ⟨(some 9), (some (7, true)), .call (.c (.fn 81)) [(.t 8)]⟩,
       ⟨(some 10), (some (7, true)), .un .not (.t 9)⟩,
       ⟨(some 11), none, .pick (.t 7) (.t 10) (.c (.bool false))⟩,
       ⟨(some 12), none, .mv (.t 11)⟩,
       ⟨(some 13), (some (12, false)), .mv (.t 0)⟩,
       ⟨(some 14), (some (12, false)), .mv (.t 1)⟩,
       ⟨(some 15), (some (12, false)), .bin .lss .other false (.t 13) (.t 14)⟩,
       ⟨(some 16), none, .pick (.t 12) (.c (.bool true)) (.t 15)⟩,
       ⟨(some 4), none, .mv (.t 16)⟩])
  .ret))⟩
theorem c62 : compF Try.prog [0, 1, 4] Try.f62 = some a62 := by kernel_rfl

/- slices.isNaN[string] -/
def a63 : AFun := ⟨6, [.tmp 2], (.seq (.reg [2] [⟨(some 2), none, .mv (.c (.bool false))⟩])
  (.seq (.reg [2] [⟨(some 3), none, .mv (.t 0)⟩,
       ⟨(some 4), none, .mv (.t 0)⟩,
       ⟨(some 5), none, .bin .neq .other false (.t 3) (.t 4)⟩,
       ⟨(some 2), none, .mv (.t 5)⟩])
  .ret))⟩
theorem c63 : compF Try.prog [0, 2] Try.f63 = some a63 := by kernel_rfl

/- sort.Search -/
def a64 : AFun := ⟨26, [.tmp 4], (.seq (.reg [4] [⟨(some 4), none, .mv (.c (.int .i64 0))⟩])
  (.seq (.reg [5, 6] [⟨(some 8), none, .mv (.t 0)⟩,
       ⟨(some 5), none, .mv (.c (.int .i64 0))⟩,
       ⟨(some 6), none, .mv (.t 8)⟩])
  (.seq (.block 0 (.loop (.seq (.seq (.reg [11] [⟨(some 9), none, .mv (.t 5)⟩,
           ⟨(some 10), none, .mv (.t 6)⟩,
           ⟨(some 11), none, .bin .lss .other false (.t 9) (.t 10)⟩])
      (.cond (.t 11) .skip
      (.exit 0)))
     (.block 1 (.seq (.reg [7] [⟨(some 12), none, .mv (.t 5)⟩,
           ⟨(some 13), none, .mv (.t 6)⟩,
           ⟨(some 14), none, .bin .add .other false (.t 12) (.t 13)⟩,
           ⟨(some 15), none, .conv (.toInt .u64) (.t 14)⟩,
           ⟨(some 16), none, .bin .shr .other true (.t 15) (.c (.int .u64 1))⟩,
           ⟨(some 17), none, .conv (.toInt .i64) (.t 16)⟩,
           ⟨(some 7), none, .mv (.t 17)⟩])
      (.seq (.reg [21] [⟨(some 18), none, .mv (.t 1)⟩,
           ⟨(some 19), none, .mv (.t 7)⟩,
           ⟨(some 20), none, .call (.t 18) [(.t 19)]⟩,
           ⟨(some 21), none, .un .not (.t 20)⟩])
      (.cond (.t 21) (.reg [5] [⟨(some 22), none, .mv (.t 7)⟩,
            ⟨(some 23), none, .bin .add .other true (.t 22) (.c (.int .i64 1))⟩,
            ⟨(some 5), none, .mv (.t 23)⟩])
      (.reg [6] [⟨(some 24), none, .mv (.t 7)⟩,
          ⟨(some 6), none, .mv (.t 24)⟩]))))))))
  (.seq (.reg [4] [⟨(some 25), none, .mv (.t 5)⟩,
       ⟨(some 4), none, .mv (.t 25)⟩])
  .ret))))⟩
theorem c64 : compF Try.prog [0, 1, 4, 5, 6, 7, 11, 21] Try.f64 = some a64 := by kernel_rfl

/- sort.SearchStrings$1 -/
def a65 : AFun := ⟨11, [.tmp 4], (.seq (.reg [4] [⟨(some 4), none, .mv (.c (.bool false))⟩])
  (.seq (.any [4] [(⟨(some 5), none, .load none (.t 1)⟩, true),
       (⟨(some 6), none, .mv (.t 0)⟩, false),
       (⟨(some 7), none, .iaddr none (.t 5) (.t 6)⟩, true),
       (⟨(some 8), none, .load none (.t 7)⟩, true),
       (⟨(some 9), none, .load none (.t 2)⟩, false),
       (⟨(some 10), none, .bin .geq .other false (.t 8) (.t 9)⟩, true),
       (⟨(some 4), none, .mv (.t 10)⟩, true)])
  .ret))⟩
theorem c65 : compF Try.prog [0, 1, 2, 4] Try.f65 = some a65 := by kernel_rfl

/- slices.Grow[[]string,string] -/
def a66 : AFun := ⟨27, [.tmp 4], (.seq (.reg [4] [⟨(some 4), none, .mv (.c .snil)⟩])
  (.seq (.seq (.reg [6] [⟨(some 5), none, .mv (.t 1)⟩,
        ⟨(some 6), none, .bin .lss .other true (.t 5) (.c (.int .i64 0))⟩])
   (.cond (.t 6) (.reg [] [⟨(some 7), none, .mkif 9 (.c (.str [99, 97, 110, 110, 111, 116, 32, 98, 101, 32, 110, 101, 103, 97, 116, 105, 118, 101]))⟩,
         ⟨none, none, .ext .stop []⟩])
   .skip))
  (.seq (.seq (.reg [1] [⟨(some 8), none, .mv (.t 1)⟩,
        ⟨(some 9), none, .mv (.t 0)⟩,
        ⟨(some 10), none, .ext .cap [(.t 9)]⟩,
        ⟨(some 11), none, .mv (.t 0)⟩,
        ⟨(some 12), none, .len .sl (.t 11)⟩,
        ⟨(some 13), none, .bin .sub .other false (.t 10) (.t 12)⟩,
        ⟨(some 14), none, .bin .sub .other false (.t 8) (.t 13)⟩,
        ⟨(some 1), none, .mv (.t 14)⟩])
   (.seq (.reg [16] [⟨(some 15), none, .mv (.t 1)⟩,
        ⟨(some 16), none, .bin .gtr .other true (.t 15) (.c (.int .i64 0))⟩])
   (.cond (.t 16) (.reg [0] [⟨(some 17), none, .mv (.t 0)⟩,
         ⟨(some 18), none, .mv (.t 0)⟩,
         ⟨(some 19), none, .ext .cap [(.t 18)]⟩,
         ⟨(some 20), none, .slice (.sl none) (.t 17) none (some (.t 19)) none⟩,
         ⟨(some 21), none, .mv (.t 1)⟩,
         ⟨(some 22), none, .ext (.appz none 16 [(.str [])]) [(.t 20), (.t 21)]⟩,
         ⟨(some 23), none, .mv (.t 0)⟩,
         ⟨(some 24), none, .len .sl (.t 23)⟩,
         ⟨(some 25), none, .slice (.sl none) (.t 22) none (some (.t 24)) none⟩,
         ⟨(some 0), none, .mv (.t 25)⟩])
   .skip)))
  (.seq (.reg [4] [⟨(some 26), none, .mv (.t 0)⟩,
       ⟨(some 4), none, .mv (.t 26)⟩])
  .ret))))⟩
theorem c66 : compF Try.prog [0, 1, 4, 6, 16] Try.f66 = some a66 := by kernel_rfl

/- slices.IndexFunc[[]string,string] -/
def a67 : AFun := ⟨19, [.tmp 4], (.seq (.reg [4] [⟨(some 4), none, .mv (.c (.int .i64 0))⟩])
  (.seq (.seq (.reg [7, 8] [⟨(some 6), none, .mv (.t 0)⟩,
        ⟨(some 7), none, .len .sl (.t 6)⟩,
        ⟨(some 8), none, .mv (.c (.int .i64 0))⟩])
   (.block 0 (.loop (.seq (.reg [9] [⟨(some 9), none, .bin .lss .other false (.t 8) (.t 7)⟩])
     (.seq (.cond (.t 9) .skip
      (.exit 0))
     (.seq (.block 1 (.seq (.reg [5] [⟨(some 10), none, .mv (.t 8)⟩,
            ⟨(some 5), none, .mv (.t 10)⟩])
       (.seq (.reg [16] [⟨(some 11), none, .mv (.t 1)⟩,
            ⟨(some 12), none, .mv (.t 0)⟩,
            ⟨(some 13), none, .mv (.t 5)⟩,
            ⟨(some 14), none, .iaddr none (.t 12) (.t 13)⟩,
            ⟨(some 15), none, .load none (.t 14)⟩,
            ⟨(some 16), none, .call (.t 11) [(.t 15)]⟩])
       (.cond (.t 16) (.seq (.reg [4] [⟨(some 17), none, .mv (.t 5)⟩,
              ⟨(some 4), none, .mv (.t 17)⟩])
         .ret)
       .skip))))
     (.reg [8] [⟨(some 18), none, .bin .add .other true (.t 8) (.c (.int .i64 1))⟩,
         ⟨(some 8), none, .mv (.t 18)⟩])))))))
  (.seq (.reg [4] [⟨(some 4), none, .mv (.c (.int .i64 (-1)))⟩])
  .ret)))⟩
theorem c67 : compF Try.prog [0, 1, 4, 5, 7, 8, 9, 16] Try.f67 = some a67 := by kernel_rfl

/- slices.pdqsortOrdered[string] -/
def a60 : AFun := ⟨134, [], (.seq (.reg [8] [⟨(some 8), none, .mv (.c (.bool true))⟩])
  (.seq (.reg [9] [⟨(some 9), none, .mv (.c (.bool true))⟩])
  (.block 0 (.loop (.block 1 (.seq (.reg [10] [⟨(some 19), none, .mv (.t 2)⟩,
          ⟨(some 20), none, .mv (.t 1)⟩,
          ⟨(some 21), none, .bin .sub .other false (.t 19) (.t 20)⟩,
          ⟨(some 10), none, .mv (.t 21)⟩])
     (.seq (.seq (.reg [23] [⟨(some 22), none, .mv (.t 10)⟩,
           ⟨(some 23), none, .bin .leq .other true (.t 22) (.c (.int .i64 12))⟩])
      (.cond (.t 23) (.seq (.reg [] [⟨(some 24), none, .mv (.t 0)⟩,
             ⟨(some 25), none, .mv (.t 1)⟩,
             ⟨(some 26), none, .mv (.t 2)⟩,
             ⟨(some 27), none, .call (.c (.fn 71)) [(.t 24), (.t 25), (.t 26)]⟩])
        .ret)
      .skip))
     (.seq (.seq (.reg [29] [⟨(some 28), none, .mv (.t 3)⟩,
           ⟨(some 29), none, .bin .eql .other true (.t 28) (.c (.int .i64 0))⟩])
      (.cond (.t 29) (.seq (.reg [] [⟨(some 30), none, .mv (.t 0)⟩,
             ⟨(some 31), none, .mv (.t 1)⟩,
             ⟨(some 32), none, .mv (.t 2)⟩,
             ⟨(some 33), none, .call (.c (.fn 72)) [(.t 30), (.t 31), (.t 32)]⟩])
        .ret)
      .skip))
     (.seq (.seq (.reg [35] [⟨(some 34), none, .mv (.t 8)⟩,
           ⟨(some 35), none, .un .not (.t 34)⟩])
      (.cond (.t 35) (.seq (.reg [] [⟨(some 36), none, .mv (.t 0)⟩,
             ⟨(some 37), none, .mv (.t 1)⟩,
             ⟨(some 38), none, .mv (.t 2)⟩,
             ⟨(some 39), none, .call (.c (.fn 73)) [(.t 36), (.t 37), (.t 38)]⟩])
        (.reg [3] [⟨(some 40), none, .mv (.t 3)⟩,
            ⟨(some 41), none, .bin .sub .other true (.t 40) (.c (.int .i64 1))⟩,
            ⟨(some 3), none, .mv (.t 41)⟩]))
      .skip))
     (.seq (.reg [11, 12] [⟨(some 43), none, .mv (.t 0)⟩,
          ⟨(some 44), none, .mv (.t 1)⟩,
          ⟨(some 45), none, .mv (.t 2)⟩,
          ⟨(some 46), none, .call (.c (.fn 74)) [(.t 43), (.t 44), (.t 45)]⟩,
          ⟨(some 42), none, .mv (.t 46)⟩,
          ⟨(some 47), none, .extract (.t 42) 0⟩,
          ⟨(some 48), none, .extract (.t 42) 1⟩,
          ⟨(some 11), none, .mv (.t 47)⟩,
          ⟨(some 12), none, .mv (.t 48)⟩])
     (.seq (.seq (.reg [50] [⟨(some 49), none, .mv (.t 12)⟩,
           ⟨(some 50), none, .bin .eql .other true (.t 49) (.c (.int .i64 2))⟩])
      (.cond (.t 50) (.seq (.reg [] [⟨(some 51), none, .mv (.t 0)⟩,
             ⟨(some 52), none, .mv (.t 1)⟩,
             ⟨(some 53), none, .mv (.t 2)⟩,
             ⟨(some 54), none, .call (.c (.fn 75)) [(.t 51), (.t 52), (.t 53)]⟩])
        (.seq (.reg [11] [⟨(some 55), none, .mv (.t 2)⟩,
             ⟨(some 56), none, .bin .sub .other true (.t 55) (.c (.int .i64 1))⟩,
             ⟨(some 57), none, .mv (.t 11)⟩,
             ⟨(some 58), none, .mv (.t 1)⟩,
             ⟨(some 59), none, .bin .sub .other false (.t 57) (.t 58)⟩,
             ⟨(some 60), none, .bin .sub .other false (.t 56) (.t 59)⟩,
             ⟨(some 11), none, .mv (.t 60)⟩])
        (.reg [12] [⟨(some 12), none, .mv (.c (.int .i64 1))⟩])))
      .skip))
     (.seq (.seq (.reg [68] [⟨(some 61), none, .mv (.t 8)⟩,
           ⟨(some 62), none, .mv (.t 61)⟩,
           ⟨(some 63), (some (62, true)), .mv (.t 9)⟩,
           ⟨(some 64), none, .pick (.t 62) (.t 63) (.c (.bool false))⟩,
           ⟨(some 65), none, .mv (.t 64)⟩,
           ⟨(some 66), (some (65, true)), .mv (.t 12)⟩,
           ⟨(some 67), (some (65, true)), .bin .eql .other true (.t 66) (.c (.int .i64 1))⟩,
           ⟨(some 68), none, .pick (.t 65) (.t 67) (.c (.bool false))⟩])
      (.cond (.t 68) (.seq (.reg [72] [⟨(some 69), none, .mv (.t 0)⟩,
             ⟨(some 70), none, .mv (.t 1)⟩,
             ⟨(some 71), none, .mv (.t 2)⟩,
             ⟨(some 72), none, .call (.c (.fn 76)) [(.t 69), (.t 70), (.t 71)]⟩])
        (.cond (.t 72) .ret
        .skip))
      .skip))
     (.seq (.seq (.any [87] [(⟨(some 73), none, .mv (.t 1)⟩, true),
           (⟨(some 74), none, .bin .gtr .other true (.t 73) (.c (.int .i64 0))⟩, true),
           (⟨(some 75), none, .mv (.t 74)⟩, true),
           (⟨(some 76), (some (75, true)), .mv (.t 0)⟩, true),
           (⟨(some 77), (some (75, true)), .mv (.t 1)⟩, false),
           (⟨(some 78), (some (75, true)), .bin .sub .other true (.t 77) (.c (.int .i64 1))⟩, false),
           (⟨(some 79), (some (75, true)), .iaddr none (.t 76) (.t 78)⟩, true),
           (⟨(some 80), (some (75, true)), .load none (.t 79)⟩, true),
           (⟨(some 81), (some (75, true)), .mv (.t 0)⟩, false),
           (⟨(some 82), (some (75, true)), .mv (.t 11)⟩, false),
           (⟨(some 83), (some (75, true)), .iaddr none (.t 81) (.t 82)⟩, false),
           (⟨(some 84), (some (75, true)), .load none (.t 83)⟩, false),
           (⟨(some 85), (some (75, true)), .call (.c (.fn 62)) [(.t 80), (.t 84)]⟩, true),
           (⟨(some 86), (some (75, true)), .un .not (.t 85)⟩, true),
           (⟨(some 87), none, .pick (.t 75) (.t 86) (.c (.bool false))⟩, true)])
      (.cond (.t 87) (.seq (.reg [13] [⟨(some 88), none, .mv (.t 0)⟩,
             ⟨(some 89), none, .mv (.t 1)⟩,
             ⟨(some 90), none, .mv (.t 2)⟩,
             ⟨(some 91), none, .mv (.t 11)⟩,
             ⟨(some 92), none, .call (.c (.fn 77)) [(.t 88), (.t 89), (.t 90), (.t 91)]⟩,
             ⟨(some 13), none, .mv (.t 92)⟩])
        (.seq (.reg [1] [⟨(some 93), none, .mv (.t 13)⟩,
             ⟨(some 1), none, .mv (.t 93)⟩])
        (.exit 1)))
      .skip))
     (.seq (.reg [14, 15] [⟨(some 95), none, .mv (.t 0)⟩,
          ⟨(some 96), none, .mv (.t 1)⟩,
          ⟨(some 97), none, .mv (.t 2)⟩,
          ⟨(some 98), none, .mv (.t 11)⟩,
          ⟨(some 99), none, .call (.c (.fn 78)) [(.t 95), (.t 96), (.t 97), (.t 98)]⟩,
          ⟨(some 94), none, .mv (.t 99)⟩,
          ⟨(some 100), none, .extract (.t 94) 0⟩,
          ⟨(some 101), none, .extract (.t 94) 1⟩,
          ⟨(some 14), none, .mv (.t 100)⟩,
          ⟨(some 15), none, .mv (.t 101)⟩])
     (.seq (.reg [9] [⟨(some 102), none, .mv (.t 15)⟩,
          ⟨(some 9), none, .mv (.t 102)⟩])
     (.seq (.reg [16, 17] [⟨(some 103), none, .mv (.t 14)⟩,
          ⟨(some 104), none, .mv (.t 1)⟩,
          ⟨(some 105), none, .bin .sub .other false (.t 103) (.t 104)⟩,
          ⟨(some 106), none, .mv (.t 2)⟩,
          ⟨(some 107), none, .mv (.t 14)⟩,
          ⟨(some 108), none, .bin .sub .other false (.t 106) (.t 107)⟩,
          ⟨(some 16), none, .mv (.t 105)⟩,
          ⟨(some 17), none, .mv (.t 108)⟩])
     (.seq (.reg [18] [⟨(some 109), none, .mv (.t 10)⟩,
          ⟨(some 110), none, .bin .quo .other true (.t 109) (.c (.int .i64 8))⟩,
          ⟨(some 18), none, .mv (.t 110)⟩])
     (.seq (.reg [113] [⟨(some 111), none, .mv (.t 16)⟩,
          ⟨(some 112), none, .mv (.t 17)⟩,
          ⟨(some 113), none, .bin .lss .other false (.t 111) (.t 112)⟩])
     (.cond (.t 113) (.seq (.reg [8] [⟨(some 114), none, .mv (.t 16)⟩,
            ⟨(some 115), none, .mv (.t 18)⟩,
            ⟨(some 116), none, .bin .geq .other false (.t 114) (.t 115)⟩,
            ⟨(some 8), none, .mv (.t 116)⟩])
       (.seq (.reg [] [⟨(some 117), none, .mv (.t 0)⟩,
            ⟨(some 118), none, .mv (.t 1)⟩,
            ⟨(some 119), none, .mv (.t 14)⟩,
            ⟨(some 120), none, .mv (.t 3)⟩,
            ⟨(some 121), none, .call (.c (.fn 60)) [(.t 117), (.t 118), (.t 119), (.t 120)]⟩])
       (.reg [1] [⟨(some 122), none, .mv (.t 14)⟩,
           ⟨(some 123), none, .bin .add .other true (.t 122) (.c (.int .i64 1))⟩,
           ⟨(some 1), none, .mv (.t 123)⟩])))
     (.seq (.reg [8] [⟨(some 124), none, .mv (.t 17)⟩,
          ⟨(some 125), none, .mv (.t 18)⟩,
          ⟨(some 126), none, .bin .geq .other false (.t 124) (.t 125)⟩,
          ⟨(some 8), none, .mv (.t 126)⟩])
     (.seq (.reg [] [⟨(some 127), none, .mv (.t 0)⟩,
          ⟨(some 128), none, .mv (.t 14)⟩,
          ⟨(some 129), none, .bin .add .other true (.t 128) (.c (.int .i64 1))⟩,
          ⟨(some 130), none, .mv (.t 2)⟩,
          ⟨(some 131), none, .mv (.t 3)⟩,
          ⟨(some 132), none, .call (.c (.fn 60)) [(.t 127), (.t 129), (.t 130), (.t 131)]⟩])
     (.reg [2] [⟨(some 133), none, .mv (.t 14)⟩,
         ⟨(some 2), none, .mv (.t 133)⟩]))))))))))))))))))))))⟩
theorem c60 : compF Try.prog [0, 1, 2, 3, 8, 9, 10, 11, 12, 13, 14, 15, 16, 17, 18, 23, 29, 35, 50, 68, 72, 87, 113] Try.f60 = some a60 := by kernel_rfl

/- cmp.isNaN[string] -/
def a81 : AFun := ⟨6, [.tmp 2], (.seq (.reg [2] [⟨(some 2), none, .mv (.c (.bool false))⟩])
  (.seq (.reg [2] [⟨(some 3), none, .mv (.t 0)⟩,
       ⟨(some 4), none, .mv (.t 0)⟩,
       ⟨(some 5), none, .bin .neq .other false (.t 3) (.t 4)⟩,
       ⟨(some 2), none, .mv (.t 5)⟩])
  .ret))⟩
theorem c81 : compF Try.prog [0, 2] Try.f81 = some a81 := by kernel_rfl

end Go.Proofs.Ytppdghfpbliaeaa
