/-
  The bodies of functions, in the small language: printed by program, proved by the kernel's computing. (Own work.)
-/
import Derived.Test.YtkfkifgfnlaceaaDoorAbsU
import Derived.Test.YtkfkifgfnlaceaaDoorChecked
namespace Go.Proofs.YtkfkifgfnlaceaaDoor
open Go Go.Abs

/- bushel/bushellaw03.SpotWheres -/
def a3 : AFun := ⟨38, [.tmp 4], (.seq (.reg [4] [⟨(some 4), none, .mv (.c (.bool false))⟩])
  (.seq (.reg [5] [⟨(some 10), none, .call (.c (.fn 9)) []⟩,
       ⟨(some 5), none, .mv (.t 10)⟩])
  (.seq (.seq (.reg [13] [⟨(some 11), none, .mv (.t 0)⟩,
        ⟨(some 12), none, .len .sl (.t 11)⟩,
        ⟨(some 13), none, .bin .gtr .other true (.t 12) (.c (.int .i64 5000))⟩])
   (.cond (.t 13) (.seq (.reg [4] [⟨(some 14), none, .mv (.t 5)⟩,
          ⟨(some 4), none, .mv (.t 14)⟩])
     .ret)
   .skip))
  (.seq (.reg [6, 7] [⟨(some 16), none, .mv (.t 0)⟩,
       ⟨(some 17), none, .mv (.t 1)⟩,
       ⟨(some 18), none, .call (.c (.fn 10)) [(.t 16), (.t 17)]⟩,
       ⟨(some 15), none, .mv (.t 18)⟩,
       ⟨(some 19), none, .extract (.t 15) 0⟩,
       ⟨(some 20), none, .extract (.t 15) 1⟩,
       ⟨(some 6), none, .mv (.t 19)⟩,
       ⟨(some 7), none, .mv (.t 20)⟩])
  (.seq (.reg [8, 9] [⟨(some 22), none, .mv (.t 0)⟩,
       ⟨(some 23), none, .mv (.t 1)⟩,
       ⟨(some 24), none, .call (.c (.fn 11)) [(.t 22), (.t 23)]⟩,
       ⟨(some 21), none, .mv (.t 24)⟩,
       ⟨(some 25), none, .extract (.t 21) 0⟩,
       ⟨(some 26), none, .extract (.t 21) 1⟩,
       ⟨(some 8), none, .mv (.t 25)⟩,
       ⟨(some 9), none, .mv (.t 26)⟩])
  (.seq (.reg [4] [⟨(some 27), none, .mv (.t 5)⟩,
       ⟨(some 28), none, .mv (.t 27)⟩,
       ⟨(some 29), (some (28, true)), .mv (.t 6)⟩,
       ⟨(some 30), (some (28, true)), .mv (.t 8)⟩,
       ⟨(some 31), (some (28, true)), .bin .eql .other false (.t 29) (.t 30)⟩,
       ⟨(some 32), none, .pick (.t 28) (.t 31) (.c (.bool false))⟩,
       ⟨(some 33), none, .mv (.t 32)⟩,
       ⟨(some 34), (some (33, true)), .mv (.t 7)⟩,
       ⟨(some 35), (some (33, true)), .mv (.t 9)⟩,
       ⟨(some 36), (some (33, true)), .bin .eql .other false (.t 34) (.t 35)⟩,
       ⟨(some 37), none, .pick (.t 33) (.t 36) (.c (.bool false))⟩,
       ⟨(some 4), none, .mv (.t 37)⟩])
  .ret))))))⟩
theorem c3 : compF Tryd.prog [0, 1, 4, 5, 6, 7, 8, 9, 13] Tryd.f3 = some a3 := by kernel_rfl

/- bushel/bushellaw03.SpotRenders -/
def a4 : AFun := ⟨96, [.tmp 10], (.seq (.reg [10] [⟨(some 10), none, .mv (.c (.bool false))⟩])
  (.seq (.reg [11] [⟨(some 17), none, .call (.c (.fn 9)) []⟩,
       ⟨(some 11), none, .mv (.t 17)⟩])
  (.seq (.seq (.reg [25] [⟨(some 18), none, .mv (.t 0)⟩,
        ⟨(some 19), none, .len .sl (.t 18)⟩,
        ⟨(some 20), none, .bin .gtr .other true (.t 19) (.c (.int .i64 5000))⟩,
        ⟨(some 21), none, .mv (.t 20)⟩,
        ⟨(some 22), (some (21, false)), .mv (.t 3)⟩,
        ⟨(some 23), (some (21, false)), .len .sl (.t 22)⟩,
        ⟨(some 24), (some (21, false)), .bin .gtr .other true (.t 23) (.c (.int .i64 20))⟩,
        ⟨(some 25), none, .pick (.t 21) (.c (.bool true)) (.t 24)⟩])
   (.cond (.t 25) (.seq (.reg [10] [⟨(some 26), none, .mv (.t 11)⟩,
          ⟨(some 10), none, .mv (.t 26)⟩])
     .ret)
   .skip))
  (.seq (.reg [12] [⟨(some 27), none, .mv (.t 2)⟩,
       ⟨(some 28), none, .mkif 28 (.t 27)⟩,
       ⟨(some 12), none, .mv (.t 28)⟩])
  (.seq (.reg [13] [⟨(some 29), none, .mv (.t 2)⟩,
       ⟨(some 30), none, .call (.c (.fn 12)) [(.t 29)]⟩,
       ⟨(some 13), none, .mv (.t 30)⟩])
  (.seq (.seq (.reg [31] [⟨(some 31), none, .mv (.t 4)⟩])
   (.cond (.t 31) (.seq (.reg [12] [⟨(some 32), none, .mv (.t 1)⟩,
          ⟨(some 33), none, .mv (.t 2)⟩,
          ⟨(some 34), none, .call (.c (.fn 13)) [(.t 32), (.t 33)]⟩,
          ⟨(some 12), none, .mv (.t 34)⟩])
     (.reg [13] [⟨(some 35), none, .mv (.t 1)⟩,
         ⟨(some 36), none, .call (.c (.fn 14)) [(.t 35)]⟩,
         ⟨(some 37), none, .bin .add .other true (.t 36) (.c (.str [58, 32]))⟩,
         ⟨(some 38), none, .mv (.t 13)⟩,
         ⟨(some 39), none, .bin .add .other false (.t 37) (.t 38)⟩,
         ⟨(some 13), none, .mv (.t 39)⟩]))
   .skip))
  (.seq (.seq (.reg [14] [⟨(some 14), none, .mv (.c (.int .i64 0))⟩])
   (.block 0 (.loop (.seq (.seq (.reg [43] [⟨(some 40), none, .mv (.t 14)⟩,
           ⟨(some 41), none, .mv (.t 3)⟩,
           ⟨(some 42), none, .len .sl (.t 41)⟩,
           ⟨(some 43), none, .bin .lss .other false (.t 40) (.t 42)⟩])
      (.cond (.t 43) .skip
      (.exit 0)))
     (.seq (.block 1 (.seq (.seq (.reg [51] [⟨(some 46), none, .mv (.t 3)⟩,
             ⟨(some 47), none, .mv (.t 14)⟩,
             ⟨(some 48), none, .iaddr none (.t 46) (.t 47)⟩,
             ⟨(some 49), none, .load none (.t 48)⟩,
             ⟨(some 50), none, .len .str (.t 49)⟩,
             ⟨(some 51), none, .bin .gtr .other true (.t 50) (.c (.int .i64 100))⟩])
        (.cond (.t 51) (.seq (.reg [10] [⟨(some 52), none, .mv (.t 11)⟩,
               ⟨(some 10), none, .mv (.t 52)⟩])
          .ret)
        .skip))
       (.seq (.reg [12] [⟨(some 53), none, .mv (.t 3)⟩,
            ⟨(some 54), none, .mv (.t 14)⟩,
            ⟨(some 55), none, .iaddr none (.t 53) (.t 54)⟩,
            ⟨(some 56), none, .load none (.t 55)⟩,
            ⟨(some 57), none, .mv (.t 12)⟩,
            ⟨(some 58), none, .call (.c (.fn 15)) [(.t 56), (.t 57)]⟩,
            ⟨(some 12), none, .mv (.t 58)⟩])
       (.reg [13] [⟨(some 59), none, .mv (.t 3)⟩,
           ⟨(some 60), none, .mv (.t 14)⟩,
           ⟨(some 61), none, .iaddr none (.t 59) (.t 60)⟩,
           ⟨(some 62), none, .load none (.t 61)⟩,
           ⟨(some 63), none, .bin .add .other true (.t 62) (.c (.str [58, 32]))⟩,
           ⟨(some 64), none, .mv (.t 13)⟩,
           ⟨(some 65), none, .bin .add .other false (.t 63) (.t 64)⟩,
           ⟨(some 13), none, .mv (.t 65)⟩]))))
     (.reg [14] [⟨(some 44), none, .mv (.t 14)⟩,
         ⟨(some 45), none, .bin .add .other true (.t 44) (.c (.int .i64 1))⟩,
         ⟨(some 14), none, .mv (.t 45)⟩]))))))
  (.seq (.seq (.reg [67] [⟨(some 66), none, .mv (.t 12)⟩,
        ⟨(some 67), none, .bin .eql .ifc true (.t 66) (.c .inil)⟩])
   (.cond (.t 67) (.seq (.reg [10] [⟨(some 10), none, .mv (.c (.bool false))⟩])
     .ret)
   .skip))
  (.seq (.seq (.reg [71] [⟨(some 68), none, .mv (.t 12)⟩,
        ⟨(some 69), none, .inv "Error" (.t 68) []⟩,
        ⟨(some 70), none, .mv (.t 13)⟩,
        ⟨(some 71), none, .bin .neq .other false (.t 69) (.t 70)⟩])
   (.cond (.t 71) (.seq (.reg [10] [⟨(some 10), none, .mv (.c (.bool false))⟩])
     .ret)
   .skip))
  (.seq (.seq (.reg [72] [⟨(some 72), none, .mv (.t 4)⟩])
   (.cond (.t 72) (.seq (.reg [15, 16] [⟨(some 74), none, .mv (.t 0)⟩,
          ⟨(some 75), none, .mv (.t 1)⟩,
          ⟨(some 76), none, .call (.c (.fn 11)) [(.t 74), (.t 75)]⟩,
          ⟨(some 73), none, .mv (.t 76)⟩,
          ⟨(some 77), none, .extract (.t 73) 0⟩,
          ⟨(some 78), none, .extract (.t 73) 1⟩,
          ⟨(some 15), none, .mv (.t 77)⟩,
          ⟨(some 16), none, .mv (.t 78)⟩])
     (.reg [13] [⟨(some 79), none, .mv (.t 15)⟩,
         ⟨(some 80), none, .call (.c (.fn 14)) [(.t 79)]⟩,
         ⟨(some 81), none, .bin .add .other true (.t 80) (.c (.str [58]))⟩,
         ⟨(some 82), none, .mv (.t 16)⟩,
         ⟨(some 83), none, .call (.c (.fn 14)) [(.t 82)]⟩,
         ⟨(some 84), none, .bin .add .other false (.t 81) (.t 83)⟩,
         ⟨(some 85), none, .bin .add .other true (.t 84) (.c (.str [58, 32]))⟩,
         ⟨(some 86), none, .mv (.t 13)⟩,
         ⟨(some 87), none, .bin .add .other false (.t 85) (.t 86)⟩,
         ⟨(some 13), none, .mv (.t 87)⟩]))
   .skip))
  (.seq (.reg [10] [⟨(some 88), none, .mv (.t 11)⟩,
       ⟨(some 89), none, .mv (.t 88)⟩,
       ⟨(some 90), (some (89, true)), .mv (.t 0)⟩,
       ⟨(some 91), (some (89, true)), .mv (.t 12)⟩,
       ⟨(some 92), (some (89, true)), .call (.c (.fn 16)) [(.t 90), (.t 91)]⟩,
       ⟨(some 93), (some (89, true)), .mv (.t 13)⟩,
       ⟨(some 94), (some (89, true)), .bin .eql .other false (.t 92) (.t 93)⟩,
       ⟨(some 95), none, .pick (.t 89) (.t 94) (.c (.bool false))⟩,
       ⟨(some 10), none, .mv (.t 95)⟩])
  .ret)))))))))))⟩
theorem c4 : compF Tryd.prog [0, 1, 2, 3, 4, 10, 11, 12, 13, 14, 15, 16, 25, 31, 43, 51, 67, 71, 72] Tryd.f4 = some a4 := by kernel_rfl

/- bushel/bushellaw03.SpotStays -/
def a5 : AFun := ⟨122, [.tmp 6], (.seq (.reg [6] [⟨(some 6), none, .mv (.c (.bool false))⟩])
  (.seq (.reg [7] [⟨(some 18), none, .call (.c (.fn 9)) []⟩,
       ⟨(some 7), none, .mv (.t 18)⟩])
  (.seq (.seq (.reg [21] [⟨(some 19), none, .mv (.t 2)⟩,
        ⟨(some 20), none, .len .sl (.t 19)⟩,
        ⟨(some 21), none, .bin .gtr .other true (.t 20) (.c (.int .i64 100))⟩])
   (.cond (.t 21) (.seq (.reg [6] [⟨(some 22), none, .mv (.t 7)⟩,
          ⟨(some 6), none, .mv (.t 22)⟩])
     .ret)
   .skip))
  (.seq (.reg [8] [⟨(some 23), none, .mv (.t 0)⟩,
       ⟨(some 24), none, .mv (.t 1)⟩,
       ⟨(some 25), none, .call (.c (.fn 13)) [(.t 23), (.t 24)]⟩,
       ⟨(some 8), none, .mv (.t 25)⟩])
  (.seq (.reg [9] [⟨(some 26), none, .mv (.t 1)⟩,
       ⟨(some 27), none, .mkif 28 (.t 26)⟩,
       ⟨(some 28), none, .call (.c (.fn 15)) [(.c (.str [97])), (.t 27)]⟩,
       ⟨(some 9), none, .mv (.t 28)⟩])
  (.seq (.seq (.reg [10] [⟨(some 10), none, .mv (.c (.int .i64 0))⟩])
   (.block 0 (.loop (.seq (.seq (.reg [32] [⟨(some 29), none, .mv (.t 10)⟩,
           ⟨(some 30), none, .mv (.t 2)⟩,
           ⟨(some 31), none, .len .sl (.t 30)⟩,
           ⟨(some 32), none, .bin .lss .other false (.t 29) (.t 31)⟩])
      (.cond (.t 32) .skip
      (.exit 0)))
     (.seq (.block 1 (.seq (.reg [8] [⟨(some 35), none, .mv (.t 2)⟩,
            ⟨(some 36), none, .mv (.t 10)⟩,
            ⟨(some 37), none, .iaddr none (.t 35) (.t 36)⟩,
            ⟨(some 38), none, .load none (.t 37)⟩,
            ⟨(some 39), none, .mv (.t 8)⟩,
            ⟨(some 40), none, .call (.c (.fn 15)) [(.t 38), (.t 39)]⟩,
            ⟨(some 8), none, .mv (.t 40)⟩])
       (.reg [9] [⟨(some 41), none, .mv (.t 2)⟩,
           ⟨(some 42), none, .mv (.t 10)⟩,
           ⟨(some 43), none, .iaddr none (.t 41) (.t 42)⟩,
           ⟨(some 44), none, .load none (.t 43)⟩,
           ⟨(some 45), none, .mv (.t 9)⟩,
           ⟨(some 46), none, .call (.c (.fn 15)) [(.t 44), (.t 45)]⟩,
           ⟨(some 9), none, .mv (.t 46)⟩])))
     (.reg [10] [⟨(some 33), none, .mv (.t 10)⟩,
         ⟨(some 34), none, .bin .add .other true (.t 33) (.c (.int .i64 1))⟩,
         ⟨(some 10), none, .mv (.t 34)⟩]))))))
  (.seq (.reg [11, 12] [⟨(some 48), none, .mv (.t 8)⟩,
       ⟨(some 49), none, .call (.c (.fn 17)) [(.t 48)]⟩,
       ⟨(some 47), none, .mv (.t 49)⟩,
       ⟨(some 50), none, .extract (.t 47) 0⟩,
       ⟨(some 51), none, .extract (.t 47) 1⟩,
       ⟨(some 11), none, .mv (.t 50)⟩,
       ⟨(some 12), none, .mv (.t 51)⟩])
  (.seq (.reg [13, 14] [⟨(some 53), none, .mv (.t 9)⟩,
       ⟨(some 54), none, .call (.c (.fn 17)) [(.t 53)]⟩,
       ⟨(some 52), none, .mv (.t 54)⟩,
       ⟨(some 55), none, .extract (.t 52) 0⟩,
       ⟨(some 56), none, .extract (.t 52) 1⟩,
       ⟨(some 13), none, .mv (.t 55)⟩,
       ⟨(some 14), none, .mv (.t 56)⟩])
  (.seq (.reg [16] [⟨(some 58), none, .call (.c (.fn 17)) [(.c .inil)]⟩,
       ⟨(some 57), none, .mv (.t 58)⟩,
       ⟨(some 59), none, .extract (.t 57) 0⟩,
       ⟨(some 60), none, .extract (.t 57) 1⟩,
       ⟨(some 15), none, .mv (.t 59)⟩,
       ⟨(some 16), none, .mv (.t 60)⟩])
  (.seq (.reg [17] [⟨(some 17), none, .alloc [.pnil]⟩])
  (.seq (.seq (.reg [64] [⟨(some 61), none, .mv (.t 8)⟩,
        ⟨(some 62), none, .mkif 41 (.t 17)⟩,
        ⟨(some 63), none, .call (.c (.fn 18)) [(.t 61), (.t 62)]⟩,
        ⟨(some 64), none, .un .not (.t 63)⟩])
   (.cond (.t 64) (.seq (.reg [6] [⟨(some 6), none, .mv (.c (.bool false))⟩])
     .ret)
   .skip))
  (.seq (.reg [6] [⟨(some 65), none, .mv (.t 7)⟩,
       ⟨(some 66), none, .mv (.t 65)⟩,
       ⟨(some 67), (some (66, true)), .mv (.t 11)⟩,
       ⟨(some 68), (some (66, true)), .mv (.t 0)⟩,
       ⟨(some 69), (some (66, true)), .bin .eql .other false (.t 67) (.t 68)⟩,
       ⟨(some 70), none, .pick (.t 66) (.t 69) (.c (.bool false))⟩,
       ⟨(some 71), none, .mv (.t 70)⟩,
       ⟨(some 72), (some (71, true)), .mv (.t 12)⟩,
       ⟨(some 73), none, .pick (.t 71) (.t 72) (.c (.bool false))⟩,
       ⟨(some 74), none, .mv (.t 73)⟩,
       ⟨(some 75), (some (74, true)), .mv (.t 13)⟩,
       ⟨(some 76), (some (74, true)), .bin .eql .other true (.t 75) (.c (.int .i64 0))⟩,
       ⟨(some 77), none, .pick (.t 74) (.t 76) (.c (.bool false))⟩,
       ⟨(some 78), none, .mv (.t 77)⟩,
       ⟨(some 79), (some (78, true)), .mv (.t 14)⟩,
       ⟨(some 80), (some (78, true)), .un .not (.t 79)⟩,
       ⟨(some 81), none, .pick (.t 78) (.t 80) (.c (.bool false))⟩,
       ⟨(some 82), none, .mv (.t 81)⟩,
       ⟨(some 83), (some (82, true)), .mv (.t 16)⟩,
       ⟨(some 84), (some (82, true)), .un .not (.t 83)⟩,
       ⟨(some 85), none, .pick (.t 82) (.t 84) (.c (.bool false))⟩,
       ⟨(some 86), none, .mv (.t 85)⟩,
       ⟨(some 87), (some (86, true)), .load none (.t 17)⟩,
       ⟨(some 88), (some (86, true)), .nilck (.t 87)⟩,
       ⟨(some 89), (some (86, true)), .faddr 0 (.t 88)⟩,
       ⟨(some 90), (some (86, true)), .load none (.t 89)⟩,
       ⟨(some 91), (some (86, true)), .mv (.t 0)⟩,
       ⟨(some 92), (some (86, true)), .bin .eql .other false (.t 90) (.t 91)⟩,
       ⟨(some 93), none, .pick (.t 86) (.t 92) (.c (.bool false))⟩,
       ⟨(some 94), none, .mv (.t 93)⟩,
       ⟨(some 95), (some (94, true)), .mv (.t 8)⟩,
       ⟨(some 96), (some (94, true)), .mv (.t 1)⟩,
       ⟨(some 97), (some (94, true)), .mkif 28 (.t 96)⟩,
       ⟨(some 98), (some (94, true)), .call (.c (.fn 19)) [(.t 95), (.t 97)]⟩,
       ⟨(some 99), none, .pick (.t 94) (.t 98) (.c (.bool false))⟩,
       ⟨(some 100), none, .mv (.t 99)⟩,
       ⟨(some 101), (some (100, true)), .mv (.t 9)⟩,
       ⟨(some 102), (some (100, true)), .mv (.t 1)⟩,
       ⟨(some 103), (some (100, true)), .mkif 28 (.t 102)⟩,
       ⟨(some 104), (some (100, true)), .call (.c (.fn 19)) [(.t 101), (.t 103)]⟩,
       ⟨(some 105), none, .pick (.t 100) (.t 104) (.c (.bool false))⟩,
       ⟨(some 106), none, .mv (.t 105)⟩,
       ⟨(some 107), (some (106, true)), .mv (.t 8)⟩,
       ⟨(some 108), (some (106, true)), .call (.c (.fn 20)) [(.t 107)]⟩,
       ⟨(some 109), (some (106, true)), .mv (.t 1)⟩,
       ⟨(some 110), (some (106, true)), .bin .eql .other false (.t 108) (.t 109)⟩,
       ⟨(some 111), none, .pick (.t 106) (.t 110) (.c (.bool false))⟩,
       ⟨(some 112), none, .mv (.t 111)⟩,
       ⟨(some 113), (some (112, true)), .mv (.t 9)⟩,
       ⟨(some 114), (some (112, true)), .call (.c (.fn 20)) [(.t 113)]⟩,
       ⟨(some 115), (some (112, true)), .mv (.t 1)⟩,
       ⟨(some 116), (some (112, true)), .bin .eql .other false (.t 114) (.t 115)⟩,
       ⟨(some 117), none, .pick (.t 112) (.t 116) (.c (.bool false))⟩,
       ⟨(some 118), none, .mv (.t 117)⟩,
       ⟨(some 119), (some (118, true)), .call (.c (.fn 20)) [(.c .inil)]⟩,
       ⟨(some 120), (some (118, true)), .bin .eql .other true (.t 119) (.c (.int .i64 0))⟩,
       ⟨(some 121), none, .pick (.t 118) (.t 120) (.c (.bool false))⟩,
       ⟨(some 6), none, .mv (.t 121)⟩])
  .ret))))))))))))⟩
theorem c5 : compF Tryd.prog [0, 1, 2, 6, 7, 8, 9, 10, 11, 12, 13, 14, 16, 17, 21, 32, 64] Tryd.f5 = some a5 := by kernel_rfl

/- bushel/bushellaw03.up -/
def a9 : AFun := ⟨28, [.tmp 0], (.seq (.reg [0] [⟨(some 0), none, .mv (.c (.bool false))⟩])
  (.seq (.reg [1, 2] [⟨(some 4), none, .mksl none [(.c (.int .u8 97)), (.c (.int .u8 10)), (.c (.int .u8 98))]⟩,
       ⟨(some 5), none, .mv (.t 4)⟩,
       ⟨(some 6), none, .call (.c (.fn 10)) [(.t 5), (.c (.int .i64 2))]⟩,
       ⟨(some 3), none, .mv (.t 6)⟩,
       ⟨(some 7), none, .extract (.t 3) 0⟩,
       ⟨(some 8), none, .extract (.t 3) 1⟩,
       ⟨(some 1), none, .mv (.t 7)⟩,
       ⟨(some 2), none, .mv (.t 8)⟩])
  (.seq (.reg [0] [⟨(some 9), none, .mv (.t 1)⟩,
       ⟨(some 10), none, .bin .eql .other true (.t 9) (.c (.int .i64 2))⟩,
       ⟨(some 11), none, .mv (.t 10)⟩,
       ⟨(some 12), (some (11, true)), .mv (.t 2)⟩,
       ⟨(some 13), (some (11, true)), .bin .eql .other true (.t 12) (.c (.int .i64 1))⟩,
       ⟨(some 14), none, .pick (.t 11) (.t 13) (.c (.bool false))⟩,
       ⟨(some 15), none, .mv (.t 14)⟩,
       ⟨(some 16), (some (15, true)), .call (.c (.fn 15)) [(.c (.str [120])), (.c .inil)]⟩,
       ⟨(some 17), (some (15, true)), .bin .eql .ifc true (.t 16) (.c .inil)⟩,
       ⟨(some 18), none, .pick (.t 15) (.t 17) (.c (.bool false))⟩,
       ⟨(some 19), none, .mv (.t 18)⟩,
       ⟨(some 20), (some (19, true)), .call (.c (.fn 16)) [(.c .snil), (.c .inil)]⟩,
       ⟨(some 21), (some (19, true)), .bin .eql .other true (.t 20) (.c (.str []))⟩,
       ⟨(some 22), none, .pick (.t 19) (.t 21) (.c (.bool false))⟩,
       ⟨(some 23), none, .mv (.t 22)⟩,
       ⟨(some 24), (some (23, true)), .call (.c (.fn 13)) [(.c (.int .i64 3)), (.c (.int .i64 2))]⟩,
       ⟨(some 25), (some (23, true)), .call (.c (.fn 20)) [(.t 24)]⟩,
       ⟨(some 26), (some (23, true)), .bin .eql .other true (.t 25) (.c (.int .i64 2))⟩,
       ⟨(some 27), none, .pick (.t 23) (.t 26) (.c (.bool false))⟩,
       ⟨(some 0), none, .mv (.t 27)⟩])
  .ret)))⟩
theorem c9 : compF Tryd.prog [0, 1, 2] Tryd.f9 = some a9 := by kernel_rfl

/- bushel/spot.Where -/
def a10 : AFun := ⟨23, [.tmp 4, .tmp 5], (.seq (.reg [4, 5] [⟨(some 4), none, .mv (.c (.int .i64 0))⟩,
       ⟨(some 5), none, .mv (.c (.int .i64 0))⟩])
  (.seq (.reg [6] [⟨(some 7), none, .mv (.t 0)⟩,
       ⟨(some 8), none, .mv (.t 1)⟩,
       ⟨(some 9), none, .mv (.t 0)⟩,
       ⟨(some 10), none, .len .sl (.t 9)⟩,
       ⟨(some 11), none, .min [(.t 8), (.t 10)]⟩,
       ⟨(some 12), none, .ext .max [(.c (.int .i64 0)), (.t 11)]⟩,
       ⟨(some 13), none, .slice (.sl none) (.t 7) none (some (.t 12)) none⟩,
       ⟨(some 6), none, .mv (.t 13)⟩])
  (.seq (.reg [4, 5] [⟨(some 14), none, .mv (.t 6)⟩,
       ⟨(some 15), none, .mksl none [(.c (.int .u8 10))]⟩,
       ⟨(some 16), none, .call (.c (.fn 29)) [(.t 14), (.t 15)]⟩,
       ⟨(some 17), none, .bin .add .other true (.c (.int .i64 1)) (.t 16)⟩,
       ⟨(some 18), none, .mv (.t 6)⟩,
       ⟨(some 19), none, .len .sl (.t 18)⟩,
       ⟨(some 20), none, .mv (.t 6)⟩,
       ⟨(some 21), none, .call (.c (.fn 30)) [(.t 20), (.c (.int .u8 10))]⟩,
       ⟨(some 22), none, .bin .sub .other false (.t 19) (.t 21)⟩,
       ⟨(some 4), none, .mv (.t 17)⟩,
       ⟨(some 5), none, .mv (.t 22)⟩])
  .ret)))⟩
theorem c10 : compF Tryd.prog [0, 1, 4, 5, 6] Tryd.f10 = some a10 := by kernel_rfl

/- (bushel/api.Code).Error -/
def a12 : AFun := ⟨6, [.tmp 2], (.seq (.reg [2] [⟨(some 2), none, .mv (.c (.str []))⟩])
  (.seq (.reg [2] [⟨(some 3), none, .mv (.t 0)⟩,
       ⟨(some 4), none, .call (.c (.fn 14)) [(.t 3)]⟩,
       ⟨(some 5), none, .bin .add .other true (.c (.str [101, 114, 114, 111, 114, 32])) (.t 4)⟩,
       ⟨(some 2), none, .mv (.t 5)⟩])
  .ret))⟩
theorem c12 : compF Tryd.prog [0, 2] Tryd.f12 = some a12 := by kernel_rfl

/- bushel/spot.Wrap -/
def a15 : AFun := ⟨12, [.tmp 4], (.seq (.reg [4] [⟨(some 4), none, .mv (.c .inil)⟩])
  (.seq (.seq (.reg [6] [⟨(some 5), none, .mv (.t 1)⟩,
        ⟨(some 6), none, .bin .eql .ifc true (.t 5) (.c .inil)⟩])
   (.cond (.t 6) (.seq (.reg [4] [⟨(some 4), none, .mv (.c .inil)⟩])
     .ret)
   .skip))
  (.seq (.reg [4] [⟨(some 7), none, .mv (.t 0)⟩,
       ⟨(some 8), none, .mv (.t 1)⟩,
       ⟨(some 9), none, .build [(.str []), .inil] [(0, 1, (.t 7)), (1, 1, (.t 8))]⟩,
       ⟨(some 10), none, .box (.t 9)⟩,
       ⟨(some 11), none, .mkif 67 (.t 10)⟩,
       ⟨(some 4), none, .mv (.t 11)⟩])
  .ret)))⟩
theorem c15 : compF Tryd.prog [0, 1, 4, 6] Tryd.f15 = some a15 := by kernel_rfl

/- bushel/spot.Render -/
def a16 : AFun := ⟨36, [.tmp 4], (.seq (.reg [4] [⟨(some 4), none, .mv (.c (.str []))⟩])
  (.seq (.seq (.reg [10] [⟨(some 9), none, .mv (.t 1)⟩,
        ⟨(some 10), none, .bin .eql .ifc true (.t 9) (.c .inil)⟩])
   (.cond (.t 10) (.seq (.reg [4] [⟨(some 4), none, .mv (.c (.str []))⟩])
     .ret)
   .skip))
  (.seq (.reg [5, 6] [⟨(some 12), none, .mv (.t 1)⟩,
       ⟨(some 13), none, .call (.c (.fn 17)) [(.t 12)]⟩,
       ⟨(some 11), none, .mv (.t 13)⟩,
       ⟨(some 14), none, .extract (.t 11) 0⟩,
       ⟨(some 15), none, .extract (.t 11) 1⟩,
       ⟨(some 5), none, .mv (.t 14)⟩,
       ⟨(some 6), none, .mv (.t 15)⟩])
  (.seq (.seq (.reg [17] [⟨(some 16), none, .mv (.t 6)⟩,
        ⟨(some 17), none, .un .not (.t 16)⟩])
   (.cond (.t 17) (.seq (.reg [4] [⟨(some 18), none, .mv (.t 1)⟩,
          ⟨(some 19), none, .inv "Error" (.t 18) []⟩,
          ⟨(some 4), none, .mv (.t 19)⟩])
     .ret)
   .skip))
  (.seq (.reg [7, 8] [⟨(some 21), none, .mv (.t 0)⟩,
       ⟨(some 22), none, .mv (.t 5)⟩,
       ⟨(some 23), none, .call (.c (.fn 10)) [(.t 21), (.t 22)]⟩,
       ⟨(some 20), none, .mv (.t 23)⟩,
       ⟨(some 24), none, .extract (.t 20) 0⟩,
       ⟨(some 25), none, .extract (.t 20) 1⟩,
       ⟨(some 7), none, .mv (.t 24)⟩,
       ⟨(some 8), none, .mv (.t 25)⟩])
  (.seq (.reg [4] [⟨(some 26), none, .mv (.t 7)⟩,
       ⟨(some 27), none, .call (.c (.fn 14)) [(.t 26)]⟩,
       ⟨(some 28), none, .bin .add .other true (.t 27) (.c (.str [58]))⟩,
       ⟨(some 29), none, .mv (.t 8)⟩,
       ⟨(some 30), none, .call (.c (.fn 14)) [(.t 29)]⟩,
       ⟨(some 31), none, .bin .add .other false (.t 28) (.t 30)⟩,
       ⟨(some 32), none, .bin .add .other true (.t 31) (.c (.str [58, 32]))⟩,
       ⟨(some 33), none, .mv (.t 1)⟩,
       ⟨(some 34), none, .inv "Error" (.t 33) []⟩,
       ⟨(some 35), none, .bin .add .other false (.t 32) (.t 34)⟩,
       ⟨(some 4), none, .mv (.t 35)⟩])
  .ret))))))⟩
theorem c16 : compF Tryd.prog [0, 1, 4, 5, 6, 7, 8, 10, 17] Tryd.f16 = some a16 := by kernel_rfl

/- bushel/spot.Place -/
def a17 : AFun := ⟨13, [.tmp 2, .tmp 3], (.seq (.reg [2, 3] [⟨(some 2), none, .mv (.c (.int .i64 0))⟩,
       ⟨(some 3), none, .mv (.c (.bool false))⟩])
  (.seq (.reg [4] [⟨(some 4), none, .alloc [.pnil]⟩])
  (.seq (.seq (.reg [8] [⟨(some 5), none, .mv (.t 0)⟩,
        ⟨(some 6), none, .mkif 41 (.t 4)⟩,
        ⟨(some 7), none, .call (.c (.fn 18)) [(.t 5), (.t 6)]⟩,
        ⟨(some 8), none, .un .not (.t 7)⟩])
   (.cond (.t 8) (.seq (.reg [2, 3] [⟨(some 2), none, .mv (.c (.int .i64 0))⟩,
          ⟨(some 3), none, .mv (.c (.bool false))⟩])
     .ret)
   .skip))
  (.seq (.reg [2, 3] [⟨(some 9), none, .load none (.t 4)⟩,
       ⟨(some 10), none, .nilck (.t 9)⟩,
       ⟨(some 11), none, .faddr 0 (.t 10)⟩,
       ⟨(some 12), none, .load none (.t 11)⟩,
       ⟨(some 2), none, .mv (.t 12)⟩,
       ⟨(some 3), none, .mv (.c (.bool true))⟩])
  .ret))))⟩
theorem c17 : compF Tryd.prog [0, 2, 3, 4, 8] Tryd.f17 = some a17 := by kernel_rfl

/- bushel/spot.Number -/
def a20 : AFun := ⟨9, [.tmp 2], (.seq (.reg [2] [⟨(some 2), none, .mv (.c (.int .i64 0))⟩])
  (.seq (.reg [3] [⟨(some 3), none, .alloc [(.int .i64 0)]⟩])
  (.seq (.seq (.reg [7] [⟨(some 4), none, .mv (.t 0)⟩,
        ⟨(some 5), none, .mkif 84 (.t 3)⟩,
        ⟨(some 6), none, .call (.c (.fn 18)) [(.t 4), (.t 5)]⟩,
        ⟨(some 7), none, .un .not (.t 6)⟩])
   (.cond (.t 7) (.seq (.reg [2] [⟨(some 2), none, .mv (.c (.int .i64 0))⟩])
     .ret)
   .skip))
  (.seq (.reg [2] [⟨(some 8), none, .load none (.t 3)⟩,
       ⟨(some 2), none, .mv (.t 8)⟩])
  .ret))))⟩
theorem c20 : compF Tryd.prog [0, 2, 3, 7] Tryd.f20 = some a20 := by kernel_rfl

/- bytes.LastIndexByte -/
def a30 : AFun := ⟨8, [.tmp 4], (.seq (.reg [4] [⟨(some 4), none, .mv (.c (.int .i64 0))⟩])
  (.seq (.reg [4] [⟨(some 5), none, .mv (.t 0)⟩,
       ⟨(some 6), none, .mv (.t 1)⟩,
       ⟨(some 7), none, .call (.c (.fn 47)) [(.t 5), (.t 6)]⟩,
       ⟨(some 4), none, .mv (.t 7)⟩])
  .ret))⟩
theorem c30 : compF Tryd.prog [0, 1, 4] Tryd.f30 = some a30 := by kernel_rfl

/- internal/bytealg.LastIndexByte -/
def a47 : AFun := ⟨20, [.tmp 4], (.seq (.reg [4] [⟨(some 4), none, .mv (.c (.int .i64 0))⟩])
  (.seq (.seq (.reg [5] [⟨(some 6), none, .mv (.t 0)⟩,
        ⟨(some 7), none, .len .sl (.t 6)⟩,
        ⟨(some 8), none, .bin .sub .other true (.t 7) (.c (.int .i64 1))⟩,
        ⟨(some 5), none, .mv (.t 8)⟩])
   (.block 0 (.loop (.seq (.seq (.reg [10] [⟨(some 9), none, .mv (.t 5)⟩,
           ⟨(some 10), none, .bin .geq .other true (.t 9) (.c (.int .i64 0))⟩])
      (.cond (.t 10) .skip
      (.exit 0)))
     (.seq (.block 1 (.seq (.reg [18] [⟨(some 13), none, .mv (.t 0)⟩,
            ⟨(some 14), none, .mv (.t 5)⟩,
            ⟨(some 15), none, .iaddr none (.t 13) (.t 14)⟩,
            ⟨(some 16), none, .load none (.t 15)⟩,
            ⟨(some 17), none, .mv (.t 1)⟩,
            ⟨(some 18), none, .bin .eql .other false (.t 16) (.t 17)⟩])
       (.cond (.t 18) (.seq (.reg [4] [⟨(some 19), none, .mv (.t 5)⟩,
              ⟨(some 4), none, .mv (.t 19)⟩])
         .ret)
       .skip)))
     (.reg [5] [⟨(some 11), none, .mv (.t 5)⟩,
         ⟨(some 12), none, .bin .sub .other true (.t 11) (.c (.int .i64 1))⟩,
         ⟨(some 5), none, .mv (.t 12)⟩]))))))
  (.seq (.reg [4] [⟨(some 4), none, .mv (.c (.int .i64 (-1)))⟩])
  .ret)))⟩
theorem c47 : compF Tryd.prog [0, 1, 4, 5, 10, 18] Tryd.f47 = some a47 := by kernel_rfl

/- (*bushel/api.Spot).Error -/
def a118 : AFun := ⟨15, [.tmp 2], (.seq (.reg [2] [⟨(some 2), none, .mv (.c (.str []))⟩])
  (.seq (.any [2] [(⟨(some 3), none, .mv (.t 0)⟩, true),
       (⟨(some 4), none, .nilck (.t 3)⟩, true),
       (⟨(some 5), none, .faddr 0 (.t 4)⟩, true),
       (⟨(some 6), none, .load none (.t 5)⟩, true),
       (⟨(some 9), none, .mv (.t 0)⟩, false),
       (⟨(some 10), none, .nilck (.t 9)⟩, false),
       (⟨(some 11), none, .faddr 1 (.t 10)⟩, false),
       (⟨(some 12), none, .load none (.t 11)⟩, false),
       (⟨(some 7), none, .call (.c (.fn 14)) [(.t 6)]⟩, false),
       (⟨(some 8), none, .bin .add .other true (.t 7) (.c (.str [58, 32]))⟩, false),
       (⟨(some 13), none, .call (.c (.fn 12)) [(.t 12)]⟩, false),
       (⟨(some 14), none, .bin .add .other false (.t 8) (.t 13)⟩, true),
       (⟨(some 2), none, .mv (.t 14)⟩, true)])
  .ret))⟩
theorem c118 : compF Tryd.prog [0, 2] Tryd.f118 = some a118 := by kernel_rfl

/- (*bushel/api.Spot).Unwrap -/
def a119 : AFun := ⟨8, [.tmp 2], (.seq (.reg [2] [⟨(some 2), none, .mv (.c .inil)⟩])
  (.seq (.reg [2] [⟨(some 3), none, .mv (.t 0)⟩,
       ⟨(some 4), none, .nilck (.t 3)⟩,
       ⟨(some 5), none, .faddr 1 (.t 4)⟩,
       ⟨(some 6), none, .load none (.t 5)⟩,
       ⟨(some 7), none, .mkif 28 (.t 6)⟩,
       ⟨(some 2), none, .mv (.t 7)⟩])
  .ret))⟩
theorem c119 : compF Tryd.prog [0, 2] Tryd.f119 = some a119 := by kernel_rfl

/- (*bushel/spot.wrapped).Error -/
def a120 : AFun := ⟨14, [.tmp 2], (.seq (.reg [2] [⟨(some 2), none, .mv (.c (.str []))⟩])
  (.seq (.any [2] [(⟨(some 3), none, .mv (.t 0)⟩, true),
       (⟨(some 4), none, .nilck (.t 3)⟩, true),
       (⟨(some 5), none, .faddr 0 (.t 4)⟩, true),
       (⟨(some 6), none, .load none (.t 5)⟩, true),
       (⟨(some 7), none, .bin .add .other true (.t 6) (.c (.str [58, 32]))⟩, true),
       (⟨(some 8), none, .mv (.t 0)⟩, false),
       (⟨(some 9), none, .nilck (.t 8)⟩, false),
       (⟨(some 10), none, .faddr 1 (.t 9)⟩, false),
       (⟨(some 11), none, .load none (.t 10)⟩, false),
       (⟨(some 12), none, .inv "Error" (.t 11) []⟩, false),
       (⟨(some 13), none, .bin .add .other false (.t 7) (.t 12)⟩, true),
       (⟨(some 2), none, .mv (.t 13)⟩, true)])
  .ret))⟩
theorem c120 : compF Tryd.prog [0, 2] Tryd.f120 = some a120 := by kernel_rfl

/- (*bushel/spot.wrapped).Unwrap -/
def a121 : AFun := ⟨7, [.tmp 2], (.seq (.reg [2] [⟨(some 2), none, .mv (.c .inil)⟩])
  (.seq (.reg [2] [⟨(some 3), none, .mv (.t 0)⟩,
       ⟨(some 4), none, .nilck (.t 3)⟩,
       ⟨(some 5), none, .faddr 1 (.t 4)⟩,
       ⟨(some 6), none, .load none (.t 5)⟩,
       ⟨(some 2), none, .mv (.t 6)⟩])
  .ret))⟩
theorem c121 : compF Tryd.prog [0, 2] Tryd.f121 = some a121 := by kernel_rfl

end Go.Proofs.YtkfkifgfnlaceaaDoor
