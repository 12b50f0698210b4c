/-
  The bodies of functions, in the small language: printed by program, proved by the kernel's computing. (Own work.)
-/
import Derived.Test.YtcbdnndgnbgnaaaAbsU
import Derived.Test.YtcbdnndgnbgnaaaChecked
namespace Go.Proofs.Ytcbdnndgnbgnaaa
open Go Go.Abs

/- bushel/bushellaw01.WordTells -/
def a3 : AFun := ⟨122, [.tmp 10], (.seq (.reg [7, 10] [⟨(some 7), none, .box (.t 2)⟩,
       ⟨(some 10), none, .mv (.c (.bool false))⟩])
  (.seq (.reg [11] [⟨(some 24), none, .call (.c (.fn 10)) []⟩,
       ⟨(some 11), none, .mv (.t 24)⟩])
  (.seq (.reg [12, 13] [⟨(some 26), none, .mv (.t 0)⟩,
       ⟨(some 27), none, .mv (.t 1)⟩,
       ⟨(some 28), none, .call (.c (.fn 11)) [(.t 26), (.t 27)]⟩,
       ⟨(some 25), none, .mv (.t 28)⟩,
       ⟨(some 29), none, .extract (.t 25) 0⟩,
       ⟨(some 30), none, .extract (.t 25) 1⟩,
       ⟨(some 12), none, .alloc [(.bool false), (.int .i64 0)]⟩,
       ⟨none, none, .store 2 (.t 12) (.t 29)⟩,
       ⟨(some 13), none, .mv (.t 30)⟩])
  (.seq (.reg [14, 15] [⟨(some 32), none, .mv (.t 0)⟩,
       ⟨(some 33), none, .mv (.t 1)⟩,
       ⟨(some 34), none, .call (.c (.fn 12)) [(.t 32), (.t 33)]⟩,
       ⟨(some 31), none, .mv (.t 34)⟩,
       ⟨(some 35), none, .extract (.t 31) 0⟩,
       ⟨(some 36), none, .extract (.t 31) 1⟩,
       ⟨(some 14), none, .alloc [(.bool false), (.int .i64 0)]⟩,
       ⟨none, none, .store 2 (.t 14) (.t 35)⟩,
       ⟨(some 15), none, .mv (.t 36)⟩])
  (.seq (.seq (.reg [38] [⟨(some 37), none, .mv (.t 15)⟩,
        ⟨(some 38), none, .un .not (.t 37)⟩])
   (.cond (.t 38) (.seq (.reg [46] [⟨(some 39), none, .mv (.t 13)⟩,
          ⟨(some 40), none, .mkif 32 (.c (.int .i64 1))⟩,
          ⟨(some 41), none, .bin .neq .ifc false (.t 39) (.t 40)⟩,
          ⟨(some 42), none, .mv (.t 41)⟩,
          ⟨(some 43), (some (42, false)), .load (some 2) (.t 12)⟩,
          ⟨(some 44), (some (42, false)), .build [(.bool false), (.int .i64 0)] []⟩,
          ⟨(some 45), (some (42, false)), .bin .neq (.struct [.bool, .int]) false (.t 43) (.t 44)⟩,
          ⟨(some 46), none, .pick (.t 42) (.c (.bool true)) (.t 45)⟩])
     (.cond (.t 46) (.seq (.reg [10] [⟨(some 10), none, .mv (.c (.bool false))⟩])
       .ret)
     .skip))
   (.seq (.any [54] [(⟨(some 47), none, .mv (.t 13)⟩, true),
        (⟨(some 48), none, .bin .neq .ifc true (.t 47) (.c .inil)⟩, true),
        (⟨(some 49), none, .mv (.t 48)⟩, true),
        (⟨(some 50), (some (49, false)), .load (some 2) (.t 12)⟩, true),
        (⟨(some 52), (some (49, false)), .load (some 2) (.t 14)⟩, false),
        (⟨(some 51), (some (49, false)), .call (.c (.fn 13)) [(.t 50)]⟩, false),
        (⟨(some 53), (some (49, false)), .bin .neq (.struct [.bool, .int]) false (.t 51) (.t 52)⟩, true),
        (⟨(some 54), none, .pick (.t 49) (.c (.bool true)) (.t 53)⟩, true)])
   (.cond (.t 54) (.seq (.reg [10] [⟨(some 10), none, .mv (.c (.bool false))⟩])
     .ret)
   .skip))))
  (.seq (.reg [16, 17, 18] [⟨(some 56), none, .load (some 2) (.t 7)⟩,
       ⟨(some 57), none, .call (.c (.fn 14)) [(.t 56)]⟩,
       ⟨(some 55), none, .mv (.t 57)⟩,
       ⟨(some 58), none, .extract (.t 55) 0⟩,
       ⟨(some 59), none, .extract (.t 55) 1⟩,
       ⟨(some 60), none, .extract (.t 55) 2⟩,
       ⟨(some 16), none, .mv (.t 58)⟩,
       ⟨(some 17), none, .mv (.t 59)⟩,
       ⟨(some 18), none, .mv (.t 60)⟩])
  (.seq (.reg [19, 20, 21] [⟨(some 62), none, .load (some 2) (.t 7)⟩,
       ⟨(some 63), none, .call (.c (.fn 13)) [(.t 62)]⟩,
       ⟨(some 64), none, .call (.c (.fn 15)) [(.t 63)]⟩,
       ⟨(some 61), none, .mv (.t 64)⟩,
       ⟨(some 65), none, .extract (.t 61) 0⟩,
       ⟨(some 66), none, .extract (.t 61) 1⟩,
       ⟨(some 67), none, .extract (.t 61) 2⟩,
       ⟨(some 19), none, .mv (.t 65)⟩,
       ⟨(some 20), none, .mv (.t 66)⟩,
       ⟨(some 21), none, .mv (.t 67)⟩])
  (.seq (.reg [22, 23] [⟨(some 69), none, .load (some 2) (.t 7)⟩,
       ⟨(some 70), none, .call (.c (.fn 16)) [(.t 69)]⟩,
       ⟨(some 68), none, .mv (.t 70)⟩,
       ⟨(some 71), none, .extract (.t 68) 0⟩,
       ⟨(some 72), none, .extract (.t 68) 1⟩,
       ⟨(some 22), none, .mv (.t 71)⟩,
       ⟨(some 23), none, .mv (.t 72)⟩])
  (.seq (.seq (.reg [91] [⟨(some 73), none, .mv (.t 16)⟩,
        ⟨(some 74), none, .mv (.t 19)⟩,
        ⟨(some 75), none, .bin .neq .other false (.t 73) (.t 74)⟩,
        ⟨(some 76), none, .mv (.t 75)⟩,
        ⟨(some 77), (some (76, false)), .mv (.t 17)⟩,
        ⟨(some 78), (some (76, false)), .mv (.t 20)⟩,
        ⟨(some 79), (some (76, false)), .bin .neq .other false (.t 77) (.t 78)⟩,
        ⟨(some 80), none, .pick (.t 76) (.c (.bool true)) (.t 79)⟩,
        ⟨(some 81), none, .mv (.t 80)⟩,
        ⟨(some 82), (some (81, false)), .mv (.t 18)⟩,
        ⟨(some 83), (some (81, false)), .mv (.t 21)⟩,
        ⟨(some 84), (some (81, false)), .bin .neq .bool false (.t 82) (.t 83)⟩,
        ⟨(some 85), none, .pick (.t 81) (.c (.bool true)) (.t 84)⟩,
        ⟨(some 86), none, .mv (.t 85)⟩,
        ⟨(some 87), (some (86, false)), .mv (.t 23)⟩,
        ⟨(some 88), (some (86, false)), .faddr 0 (.t 7)⟩,
        ⟨(some 89), (some (86, false)), .load none (.t 88)⟩,
        ⟨(some 90), (some (86, false)), .bin .neq .bool false (.t 87) (.t 89)⟩,
        ⟨(some 91), none, .pick (.t 86) (.c (.bool true)) (.t 90)⟩])
   (.cond (.t 91) (.seq (.reg [10] [⟨(some 10), none, .mv (.c (.bool false))⟩])
     .ret)
   .skip))
  (.seq (.seq (.reg [106] [⟨(some 92), none, .mv (.t 23)⟩,
        ⟨(some 93), none, .mv (.t 92)⟩,
        ⟨(some 94), (some (93, true)), .mv (.t 22)⟩,
        ⟨(some 95), (some (93, true)), .faddr 1 (.t 7)⟩,
        ⟨(some 96), (some (93, true)), .load none (.t 95)⟩,
        ⟨(some 97), (some (93, true)), .bin .neq .other false (.t 94) (.t 96)⟩,
        ⟨(some 98), none, .pick (.t 93) (.t 97) (.c (.bool false))⟩,
        ⟨(some 99), none, .mv (.t 98)⟩,
        ⟨(some 100), (some (99, false)), .mv (.t 23)⟩,
        ⟨(some 101), (some (99, false)), .un .not (.t 100)⟩,
        ⟨(some 102), (some (99, false)), .mv (.t 101)⟩,
        ⟨(some 103), (some (102, true)), .mv (.t 22)⟩,
        ⟨(some 104), (some (102, true)), .bin .neq .other true (.t 103) (.c (.int .i64 0))⟩,
        ⟨(some 105), (some (99, false)), .pick (.t 102) (.t 104) (.c (.bool false))⟩,
        ⟨(some 106), none, .pick (.t 99) (.c (.bool true)) (.t 105)⟩])
   (.cond (.t 106) (.seq (.reg [10] [⟨(some 10), none, .mv (.c (.bool false))⟩])
     .ret)
   .skip))
  (.seq (.reg [10] [⟨(some 107), none, .mv (.t 11)⟩,
       ⟨(some 108), none, .mv (.t 107)⟩,
       ⟨(some 109), (some (108, true)), .mv (.t 3)⟩,
       ⟨(some 110), (some (108, true)), .call (.c (.fn 17)) [(.t 109)]⟩,
       ⟨(some 111), (some (108, true)), .mv (.t 3)⟩,
       ⟨(some 112), (some (108, true)), .build [(.bool false), (.int .i64 0)] [(1, 1, (.t 111))]⟩,
       ⟨(some 113), (some (108, true)), .bin .eql (.struct [.bool, .int]) false (.t 110) (.t 112)⟩,
       ⟨(some 114), none, .pick (.t 108) (.t 113) (.c (.bool false))⟩,
       ⟨(some 115), none, .mv (.t 114)⟩,
       ⟨(some 116), (some (115, true)), .mv (.t 4)⟩,
       ⟨(some 117), (some (115, true)), .call (.c (.fn 18)) [(.t 116)]⟩,
       ⟨(some 118), (some (115, true)), .mv (.t 4)⟩,
       ⟨(some 119), (some (115, true)), .build [(.bool false), (.int .i64 0)] [(0, 1, (.c (.bool true))), (1, 1, (.t 118))]⟩,
       ⟨(some 120), (some (115, true)), .bin .eql (.struct [.bool, .int]) false (.t 117) (.t 119)⟩,
       ⟨(some 121), none, .pick (.t 115) (.t 120) (.c (.bool false))⟩,
       ⟨(some 10), none, .mv (.t 121)⟩])
  .ret)))))))))))⟩
theorem c3 : compF Try.prog [0, 1, 2, 3, 4, 7, 10, 11, 12, 13, 14, 15, 16, 17, 18, 19, 20, 21, 22, 23, 38, 46, 54, 91, 106] Try.f3 = some a3 := by kernel_rfl

/- bushel/bushellaw01.WordPacks -/
def a4 : AFun := ⟨59, [.tmp 4], (.seq (.reg [4] [⟨(some 4), none, .mv (.c (.bool false))⟩])
  (.seq (.reg [5] [⟨(some 10), none, .call (.c (.fn 10)) []⟩,
       ⟨(some 5), none, .mv (.t 10)⟩])
  (.seq (.seq (.reg [18] [⟨(some 11), none, .mv (.t 0)⟩,
        ⟨(some 12), none, .len .sl (.t 11)⟩,
        ⟨(some 13), none, .bin .gtr .other true (.t 12) (.c (.int .i64 2000))⟩,
        ⟨(some 14), none, .mv (.t 13)⟩,
        ⟨(some 15), (some (14, false)), .mv (.t 1)⟩,
        ⟨(some 16), (some (14, false)), .len .sl (.t 15)⟩,
        ⟨(some 17), (some (14, false)), .bin .gtr .other true (.t 16) (.c (.int .i64 300))⟩,
        ⟨(some 18), none, .pick (.t 14) (.c (.bool true)) (.t 17)⟩])
   (.cond (.t 18) (.seq (.reg [4] [⟨(some 19), none, .mv (.t 5)⟩,
          ⟨(some 4), none, .mv (.t 19)⟩])
     .ret)
   .skip))
  (.seq (.reg [6, 7] [⟨(some 21), none, .mv (.t 1)⟩,
       ⟨(some 22), none, .call (.c (.fn 19)) [(.t 21)]⟩,
       ⟨(some 20), none, .mv (.t 22)⟩,
       ⟨(some 23), none, .extract (.t 20) 0⟩,
       ⟨(some 24), none, .extract (.t 20) 1⟩,
       ⟨(some 6), none, .mv (.t 23)⟩,
       ⟨(some 7), none, .mv (.t 24)⟩])
  (.seq (.reg [8, 9] [⟨(some 26), none, .mv (.t 1)⟩,
       ⟨(some 27), none, .call (.c (.fn 21)) [(.t 26)]⟩,
       ⟨(some 28), none, .call (.c (.fn 20)) [(.t 27)]⟩,
       ⟨(some 25), none, .mv (.t 28)⟩,
       ⟨(some 29), none, .extract (.t 25) 0⟩,
       ⟨(some 30), none, .extract (.t 25) 1⟩,
       ⟨(some 8), none, .mv (.t 29)⟩,
       ⟨(some 9), none, .mv (.t 30)⟩])
  (.seq (.seq (.reg [32] [⟨(some 31), none, .mv (.t 9)⟩,
        ⟨(some 32), none, .un .not (.t 31)⟩])
   (.cond (.t 32) (.seq (.reg [40] [⟨(some 33), none, .mv (.t 7)⟩,
          ⟨(some 34), none, .mkif 32 (.c (.int .i64 1))⟩,
          ⟨(some 35), none, .bin .neq .ifc false (.t 33) (.t 34)⟩,
          ⟨(some 36), none, .mv (.t 35)⟩,
          ⟨(some 37), (some (36, false)), .mv (.t 6)⟩,
          ⟨(some 38), (some (36, false)), .len .sl (.t 37)⟩,
          ⟨(some 39), (some (36, false)), .bin .neq .other true (.t 38) (.c (.int .i64 0))⟩,
          ⟨(some 40), none, .pick (.t 36) (.c (.bool true)) (.t 39)⟩])
     (.cond (.t 40) (.seq (.reg [4] [⟨(some 4), none, .mv (.c (.bool false))⟩])
       .ret)
     .skip))
   (.seq (.reg [49] [⟨(some 41), none, .mv (.t 7)⟩,
        ⟨(some 42), none, .bin .neq .ifc true (.t 41) (.c .inil)⟩,
        ⟨(some 43), none, .mv (.t 42)⟩,
        ⟨(some 44), (some (43, false)), .mv (.t 6)⟩,
        ⟨(some 45), (some (43, false)), .conv .ofBytes (.t 44)⟩,
        ⟨(some 46), (some (43, false)), .mv (.t 8)⟩,
        ⟨(some 47), (some (43, false)), .conv .ofBytes (.t 46)⟩,
        ⟨(some 48), (some (43, false)), .bin .neq .other false (.t 45) (.t 47)⟩,
        ⟨(some 49), none, .pick (.t 43) (.c (.bool true)) (.t 48)⟩])
   (.cond (.t 49) (.seq (.reg [4] [⟨(some 4), none, .mv (.c (.bool false))⟩])
     .ret)
   .skip))))
  (.seq (.reg [4] [⟨(some 50), none, .mv (.t 5)⟩,
       ⟨(some 51), none, .mv (.t 50)⟩,
       ⟨(some 52), (some (51, true)), .mv (.t 0)⟩,
       ⟨(some 53), (some (51, true)), .call (.c (.fn 23)) [(.t 52)]⟩,
       ⟨(some 54), (some (51, true)), .call (.c (.fn 21)) [(.t 53)]⟩,
       ⟨(some 55), (some (51, true)), .mv (.t 0)⟩,
       ⟨(some 56), (some (51, true)), .call (.c (.fn 24)) [(.t 55)]⟩,
       ⟨(some 57), (some (51, true)), .call (.c (.fn 22)) [(.t 54), (.t 56)]⟩,
       ⟨(some 58), none, .pick (.t 51) (.t 57) (.c (.bool false))⟩,
       ⟨(some 4), none, .mv (.t 58)⟩])
  .ret)))))))⟩
theorem c4 : compF Try.prog [0, 1, 4, 5, 6, 7, 8, 9, 18, 32, 40, 49] Try.f4 = some a4 := by kernel_rfl

/- bushel/bushellaw01.WordBack -/
def a5 : AFun := ⟨113, [.tmp 8], (.seq (.reg [7, 8] [⟨(some 7), none, .box (.t 3)⟩,
       ⟨(some 8), none, .mv (.c (.bool false))⟩])
  (.seq (.reg [9] [⟨(some 24), none, .call (.c (.fn 10)) []⟩,
       ⟨(some 9), none, .mv (.t 24)⟩])
  (.seq (.seq (.reg [27] [⟨(some 25), none, .mv (.t 0)⟩,
        ⟨(some 26), none, .len .sl (.t 25)⟩,
        ⟨(some 27), none, .bin .gtr .other true (.t 26) (.c (.int .i64 2000))⟩])
   (.cond (.t 27) (.seq (.reg [8] [⟨(some 28), none, .mv (.t 9)⟩,
          ⟨(some 8), none, .mv (.t 28)⟩])
     .ret)
   .skip))
  (.seq (.reg [10] [⟨(some 29), none, .mv (.t 0)⟩,
       ⟨(some 30), none, .call (.c (.fn 23)) [(.t 29)]⟩,
       ⟨(some 10), none, .mv (.t 30)⟩])
  (.seq (.reg [11, 12] [⟨(some 32), none, .mv (.t 10)⟩,
       ⟨(some 33), none, .call (.c (.fn 19)) [(.t 32)]⟩,
       ⟨(some 31), none, .mv (.t 33)⟩,
       ⟨(some 34), none, .extract (.t 31) 0⟩,
       ⟨(some 35), none, .extract (.t 31) 1⟩,
       ⟨(some 11), none, .mv (.t 34)⟩,
       ⟨(some 12), none, .mv (.t 35)⟩])
  (.seq (.any [14] [(⟨(some 37), none, .mksl (some 2) []⟩, true),
       (⟨(some 38), none, .mv (.t 10)⟩, false),
       (⟨(some 40), none, .load (some 2) (.t 7)⟩, false),
       (⟨(some 41), none, .mksl (some 2) [(.t 40)]⟩, false),
       (⟨(some 39), none, .append (some 2) 16 (.t 37) (.t 38)⟩, false),
       (⟨(some 42), none, .append (some 2) 16 (.t 39) (.t 41)⟩, true),
       (⟨(some 43), none, .call (.c (.fn 19)) [(.t 42)]⟩, true),
       (⟨(some 36), none, .mv (.t 43)⟩, true),
       (⟨(some 44), none, .extract (.t 36) 0⟩, true),
       (⟨(some 45), none, .extract (.t 36) 1⟩, false),
       (⟨(some 13), none, .mv (.t 44)⟩, false),
       (⟨(some 14), none, .mv (.t 45)⟩, true)])
  (.seq (.seq (.reg [63] [⟨(some 46), none, .mv (.t 12)⟩,
        ⟨(some 47), none, .bin .neq .ifc true (.t 46) (.c .inil)⟩,
        ⟨(some 48), none, .mv (.t 47)⟩,
        ⟨(some 49), (some (48, false)), .mv (.t 11)⟩,
        ⟨(some 50), (some (48, false)), .conv .ofBytes (.t 49)⟩,
        ⟨(some 51), (some (48, false)), .mv (.t 0)⟩,
        ⟨(some 52), (some (48, false)), .conv .ofBytes (.t 51)⟩,
        ⟨(some 53), (some (48, false)), .bin .neq .other false (.t 50) (.t 52)⟩,
        ⟨(some 54), none, .pick (.t 48) (.c (.bool true)) (.t 53)⟩,
        ⟨(some 55), none, .mv (.t 54)⟩,
        ⟨(some 56), (some (55, false)), .mv (.t 14)⟩,
        ⟨(some 57), (some (55, false)), .bin .eql .ifc true (.t 56) (.c .inil)⟩,
        ⟨(some 58), none, .pick (.t 55) (.c (.bool true)) (.t 57)⟩,
        ⟨(some 59), none, .mv (.t 58)⟩,
        ⟨(some 60), (some (59, false)), .mv (.t 10)⟩,
        ⟨(some 61), (some (59, false)), .len .sl (.t 60)⟩,
        ⟨(some 62), (some (59, false)), .bin .eql .other true (.t 61) (.c (.int .i64 0))⟩,
        ⟨(some 63), none, .pick (.t 59) (.c (.bool true)) (.t 62)⟩])
   (.cond (.t 63) (.seq (.reg [8] [⟨(some 8), none, .mv (.c (.bool false))⟩])
     .ret)
   .skip))
  (.seq (.reg [16] [⟨(some 65), none, .mv (.t 10)⟩,
       ⟨(some 66), none, .mv (.t 10)⟩,
       ⟨(some 67), none, .len .sl (.t 66)⟩,
       ⟨(some 68), none, .bin .sub .other true (.t 67) (.c (.int .i64 1))⟩,
       ⟨(some 69), none, .slice (.sl (some 2)) (.t 65) none (some (.t 68)) none⟩,
       ⟨(some 70), none, .call (.c (.fn 19)) [(.t 69)]⟩,
       ⟨(some 64), none, .mv (.t 70)⟩,
       ⟨(some 71), none, .extract (.t 64) 0⟩,
       ⟨(some 72), none, .extract (.t 64) 1⟩,
       ⟨(some 15), none, .mv (.t 71)⟩,
       ⟨(some 16), none, .mv (.t 72)⟩])
  (.seq (.seq (.reg [74] [⟨(some 73), none, .mv (.t 16)⟩,
        ⟨(some 74), none, .bin .eql .ifc true (.t 73) (.c .inil)⟩])
   (.cond (.t 74) (.seq (.reg [8] [⟨(some 8), none, .mv (.c (.bool false))⟩])
     .ret)
   .skip))
  (.seq (.reg [17, 18] [⟨(some 76), none, .mv (.t 1)⟩,
       ⟨(some 77), none, .mv (.t 2)⟩,
       ⟨(some 78), none, .call (.c (.fn 11)) [(.t 76), (.t 77)]⟩,
       ⟨(some 75), none, .mv (.t 78)⟩,
       ⟨(some 79), none, .extract (.t 75) 0⟩,
       ⟨(some 80), none, .extract (.t 75) 1⟩,
       ⟨(some 17), none, .alloc [(.bool false), (.int .i64 0)]⟩,
       ⟨none, none, .store 2 (.t 17) (.t 79)⟩,
       ⟨(some 18), none, .mv (.t 80)⟩])
  (.seq (.seq (.reg [82] [⟨(some 81), none, .mv (.t 18)⟩,
        ⟨(some 82), none, .bin .neq .ifc true (.t 81) (.c .inil)⟩])
   (.cond (.t 82) (.seq (.reg [8] [⟨(some 83), none, .mv (.t 9)⟩,
          ⟨(some 8), none, .mv (.t 83)⟩])
     .ret)
   .skip))
  (.seq (.reg [19, 20, 21] [⟨(some 85), none, .load (some 2) (.t 17)⟩,
       ⟨(some 86), none, .call (.c (.fn 14)) [(.t 85)]⟩,
       ⟨(some 84), none, .mv (.t 86)⟩,
       ⟨(some 87), none, .extract (.t 84) 0⟩,
       ⟨(some 88), none, .extract (.t 84) 1⟩,
       ⟨(some 89), none, .extract (.t 84) 2⟩,
       ⟨(some 19), none, .mv (.t 87)⟩,
       ⟨(some 20), none, .mv (.t 88)⟩,
       ⟨(some 21), none, .mv (.t 89)⟩])
  (.seq (.reg [23] [⟨(some 91), none, .load (some 2) (.t 17)⟩,
       ⟨(some 92), none, .call (.c (.fn 16)) [(.t 91)]⟩,
       ⟨(some 90), none, .mv (.t 92)⟩,
       ⟨(some 93), none, .extract (.t 90) 0⟩,
       ⟨(some 94), none, .extract (.t 90) 1⟩,
       ⟨(some 22), none, .mv (.t 93)⟩,
       ⟨(some 23), none, .mv (.t 94)⟩])
  (.seq (.reg [8] [⟨(some 95), none, .mv (.t 9)⟩,
       ⟨(some 96), none, .mv (.t 95)⟩,
       ⟨(some 97), (some (96, true)), .mv (.t 19)⟩,
       ⟨(some 98), (some (96, true)), .mv (.t 1)⟩,
       ⟨(some 99), (some (96, true)), .bin .eql .other false (.t 97) (.t 98)⟩,
       ⟨(some 100), none, .pick (.t 96) (.t 99) (.c (.bool false))⟩,
       ⟨(some 101), none, .mv (.t 100)⟩,
       ⟨(some 102), (some (101, true)), .mv (.t 20)⟩,
       ⟨(some 103), (some (101, true)), .mv (.t 2)⟩,
       ⟨(some 104), (some (101, true)), .bin .eql .other false (.t 102) (.t 103)⟩,
       ⟨(some 105), none, .pick (.t 101) (.t 104) (.c (.bool false))⟩,
       ⟨(some 106), none, .mv (.t 105)⟩,
       ⟨(some 107), (some (106, true)), .mv (.t 21)⟩,
       ⟨(some 108), none, .pick (.t 106) (.t 107) (.c (.bool false))⟩,
       ⟨(some 109), none, .mv (.t 108)⟩,
       ⟨(some 110), (some (109, true)), .mv (.t 23)⟩,
       ⟨(some 111), (some (109, true)), .un .not (.t 110)⟩,
       ⟨(some 112), none, .pick (.t 109) (.t 111) (.c (.bool false))⟩,
       ⟨(some 8), none, .mv (.t 112)⟩])
  .ret))))))))))))))⟩
theorem c5 : compF Try.prog [0, 1, 2, 3, 7, 8, 9, 10, 11, 12, 14, 16, 17, 18, 19, 20, 21, 23, 27, 63, 74, 82] Try.f5 = some a5 := by kernel_rfl

/- bushel/bushellaw01.up -/
def a10 : AFun := ⟨41, [.tmp 0], (.seq (.reg [0] [⟨(some 0), none, .mv (.c (.bool false))⟩])
  (.seq (.reg [1, 2] [⟨(some 7), none, .call (.c (.fn 11)) [(.c (.int .i64 3)), (.c (.int .i64 2))]⟩,
       ⟨(some 6), none, .mv (.t 7)⟩,
       ⟨(some 8), none, .extract (.t 6) 0⟩,
       ⟨(some 9), none, .extract (.t 6) 1⟩,
       ⟨(some 1), none, .alloc [(.bool false), (.int .i64 0)]⟩,
       ⟨none, none, .store 2 (.t 1) (.t 8)⟩,
       ⟨(some 2), none, .mv (.t 9)⟩])
  (.seq (.reg [4] [⟨(some 11), none, .call (.c (.fn 11)) [(.c (.int .i64 16)), (.c (.int .i64 0))]⟩,
       ⟨(some 10), none, .mv (.t 11)⟩,
       ⟨(some 12), none, .extract (.t 10) 0⟩,
       ⟨(some 13), none, .extract (.t 10) 1⟩,
       ⟨(some 3), none, .alloc [(.bool false), (.int .i64 0)]⟩,
       ⟨none, none, .store 2 (.t 3) (.t 12)⟩,
       ⟨(some 4), none, .mv (.t 13)⟩])
  (.seq (.reg [5] [⟨(some 14), none, .mksl none [(.c (.int .u8 97))]⟩,
       ⟨(some 15), none, .mv (.t 14)⟩,
       ⟨(some 16), none, .call (.c (.fn 23)) [(.t 15)]⟩,
       ⟨(some 5), none, .mv (.t 16)⟩])
  (.seq (.reg [0] [⟨(some 17), none, .mv (.t 2)⟩,
       ⟨(some 18), none, .bin .eql .ifc true (.t 17) (.c .inil)⟩,
       ⟨(some 19), none, .mv (.t 18)⟩,
       ⟨(some 20), (some (19, true)), .faddr 1 (.t 1)⟩,
       ⟨(some 21), (some (19, true)), .load none (.t 20)⟩,
       ⟨(some 22), (some (19, true)), .bin .eql .other true (.t 21) (.c (.int .i64 35))⟩,
       ⟨(some 23), none, .pick (.t 19) (.t 22) (.c (.bool false))⟩,
       ⟨(some 24), none, .mv (.t 23)⟩,
       ⟨(some 25), (some (24, true)), .mv (.t 4)⟩,
       ⟨(some 26), (some (24, true)), .mkif 32 (.c (.int .i64 1))⟩,
       ⟨(some 27), (some (24, true)), .bin .eql .ifc false (.t 25) (.t 26)⟩,
       ⟨(some 28), none, .pick (.t 24) (.t 27) (.c (.bool false))⟩,
       ⟨(some 29), none, .mv (.t 28)⟩,
       ⟨(some 30), (some (29, true)), .mv (.t 5)⟩,
       ⟨(some 31), (some (29, true)), .len .sl (.t 30)⟩,
       ⟨(some 32), (some (29, true)), .bin .eql .other true (.t 31) (.c (.int .i64 2))⟩,
       ⟨(some 33), none, .pick (.t 29) (.t 32) (.c (.bool false))⟩,
       ⟨(some 34), none, .mv (.t 33)⟩,
       ⟨(some 35), (some (34, true)), .mv (.t 5)⟩,
       ⟨(some 36), (some (34, true)), .iaddr (some 2) (.t 35) (.c (.int .i64 1))⟩,
       ⟨(some 37), (some (34, true)), .faddr 1 (.t 36)⟩,
       ⟨(some 38), (some (34, true)), .load none (.t 37)⟩,
       ⟨(some 39), (some (34, true)), .bin .eql .other true (.t 38) (.c (.int .i64 97))⟩,
       ⟨(some 40), none, .pick (.t 34) (.t 39) (.c (.bool false))⟩,
       ⟨(some 0), none, .mv (.t 40)⟩])
  .ret)))))⟩
theorem c10 : compF Try.prog [0, 1, 2, 4, 5] Try.f10 = some a10 := by kernel_rfl

/- bushel/word.Head -/
def a11 : AFun := ⟨27, [.cell 4 (some 2), .tmp 5], (.seq (.reg [4, 5] [⟨(some 4), none, .alloc [(.bool false), (.int .i64 0)]⟩,
       ⟨(some 5), none, .mv (.c .inil)⟩])
  (.seq (.seq (.reg [19] [⟨(some 6), none, .mv (.t 0)⟩,
        ⟨(some 7), none, .bin .lss .other true (.t 6) (.c (.int .i64 0))⟩,
        ⟨(some 8), none, .mv (.t 7)⟩,
        ⟨(some 9), (some (8, false)), .mv (.t 0)⟩,
        ⟨(some 10), (some (8, false)), .bin .geq .other true (.t 9) (.c (.int .i64 16))⟩,
        ⟨(some 11), none, .pick (.t 8) (.c (.bool true)) (.t 10)⟩,
        ⟨(some 12), none, .mv (.t 11)⟩,
        ⟨(some 13), (some (12, false)), .mv (.t 1)⟩,
        ⟨(some 14), (some (12, false)), .bin .lss .other true (.t 13) (.c (.int .i64 0))⟩,
        ⟨(some 15), none, .pick (.t 12) (.c (.bool true)) (.t 14)⟩,
        ⟨(some 16), none, .mv (.t 15)⟩,
        ⟨(some 17), (some (16, false)), .mv (.t 1)⟩,
        ⟨(some 18), (some (16, false)), .bin .gtr .other true (.t 17) (.c (.int .i64 4000))⟩,
        ⟨(some 19), none, .pick (.t 16) (.c (.bool true)) (.t 18)⟩])
   (.cond (.t 19) (.seq (.reg [5] [⟨(some 20), none, .build [(.bool false), (.int .i64 0)] []⟩,
          ⟨(some 21), none, .mkif 32 (.c (.int .i64 1))⟩,
          ⟨none, none, .store 2 (.t 4) (.t 20)⟩,
          ⟨(some 5), none, .mv (.t 21)⟩])
     .ret)
   .skip))
  (.seq (.reg [5] [⟨(some 22), none, .mv (.t 1)⟩,
       ⟨(some 23), none, .bin .mul .other true (.t 22) (.c (.int .i64 16))⟩,
       ⟨(some 24), none, .mv (.t 0)⟩,
       ⟨(some 25), none, .bin .add .other false (.t 23) (.t 24)⟩,
       ⟨(some 26), none, .call (.c (.fn 17)) [(.t 25)]⟩,
       ⟨none, none, .store 2 (.t 4) (.t 26)⟩,
       ⟨(some 5), none, .mv (.c .inil)⟩])
  .ret)))⟩
theorem c11 : compF Try.prog [0, 1, 4, 5, 19] Try.f11 = some a11 := by kernel_rfl

/- bushel/bushelref01.Head -/
def a12 : AFun := ⟨26, [.cell 4 (some 2), .tmp 5], (.seq (.reg [4, 5] [⟨(some 4), none, .alloc [(.bool false), (.int .i64 0)]⟩,
       ⟨(some 5), none, .mv (.c (.bool false))⟩])
  (.seq (.seq (.reg [19] [⟨(some 6), none, .mv (.t 0)⟩,
        ⟨(some 7), none, .bin .lss .other true (.t 6) (.c (.int .i64 0))⟩,
        ⟨(some 8), none, .mv (.t 7)⟩,
        ⟨(some 9), (some (8, false)), .mv (.t 0)⟩,
        ⟨(some 10), (some (8, false)), .bin .gtr .other true (.t 9) (.c (.int .i64 15))⟩,
        ⟨(some 11), none, .pick (.t 8) (.c (.bool true)) (.t 10)⟩,
        ⟨(some 12), none, .mv (.t 11)⟩,
        ⟨(some 13), (some (12, false)), .mv (.t 1)⟩,
        ⟨(some 14), (some (12, false)), .bin .lss .other true (.t 13) (.c (.int .i64 0))⟩,
        ⟨(some 15), none, .pick (.t 12) (.c (.bool true)) (.t 14)⟩,
        ⟨(some 16), none, .mv (.t 15)⟩,
        ⟨(some 17), (some (16, false)), .mv (.t 1)⟩,
        ⟨(some 18), (some (16, false)), .bin .gtr .other true (.t 17) (.c (.int .i64 4000))⟩,
        ⟨(some 19), none, .pick (.t 16) (.c (.bool true)) (.t 18)⟩])
   (.cond (.t 19) (.seq (.reg [5] [⟨(some 20), none, .build [(.bool false), (.int .i64 0)] []⟩,
          ⟨none, none, .store 2 (.t 4) (.t 20)⟩,
          ⟨(some 5), none, .mv (.c (.bool false))⟩])
     .ret)
   .skip))
  (.seq (.reg [5] [⟨(some 21), none, .mv (.t 1)⟩,
       ⟨(some 22), none, .bin .mul .other true (.c (.int .i64 16)) (.t 21)⟩,
       ⟨(some 23), none, .mv (.t 0)⟩,
       ⟨(some 24), none, .bin .add .other false (.t 22) (.t 23)⟩,
       ⟨(some 25), none, .build [(.bool false), (.int .i64 0)] [(1, 1, (.t 24))]⟩,
       ⟨none, none, .store 2 (.t 4) (.t 25)⟩,
       ⟨(some 5), none, .mv (.c (.bool true))⟩])
  .ret)))⟩
theorem c12 : compF Try.prog [0, 1, 4, 5, 19] Try.f12 = some a12 := by kernel_rfl

/- bushel/bushellaw01.As -/
def a13 : AFun := ⟨8, [.cell 2 (some 2)], (.seq (.reg [1, 2] [⟨(some 1), none, .box (.t 0)⟩,
       ⟨(some 2), none, .alloc [(.bool false), (.int .i64 0)]⟩])
  (.seq (.reg [] [⟨(some 3), none, .faddr 0 (.t 1)⟩,
       ⟨(some 4), none, .load none (.t 3)⟩,
       ⟨(some 5), none, .faddr 1 (.t 1)⟩,
       ⟨(some 6), none, .load none (.t 5)⟩,
       ⟨(some 7), none, .build [(.bool false), (.int .i64 0)] [(0, 1, (.t 4)), (1, 1, (.t 6))]⟩,
       ⟨none, none, .store 2 (.t 2) (.t 7)⟩])
  .ret))⟩
theorem c13 : compF Try.prog [0, 1, 2] Try.f13 = some a13 := by kernel_rfl

/- bushel/word.Parts -/
def a14 : AFun := ⟨23, [.tmp 2, .tmp 3, .tmp 4], (.seq (.reg [1, 2, 3, 4] [⟨(some 1), none, .box (.t 0)⟩,
       ⟨(some 2), none, .mv (.c (.int .i64 0))⟩,
       ⟨(some 3), none, .mv (.c (.int .i64 0))⟩,
       ⟨(some 4), none, .mv (.c (.bool false))⟩])
  (.seq (.seq (.reg [16] [⟨(some 5), none, .faddr 0 (.t 1)⟩,
        ⟨(some 6), none, .load none (.t 5)⟩,
        ⟨(some 7), none, .mv (.t 6)⟩,
        ⟨(some 8), (some (7, false)), .faddr 1 (.t 1)⟩,
        ⟨(some 9), (some (7, false)), .load none (.t 8)⟩,
        ⟨(some 10), (some (7, false)), .bin .lss .other true (.t 9) (.c (.int .i64 0))⟩,
        ⟨(some 11), none, .pick (.t 7) (.c (.bool true)) (.t 10)⟩,
        ⟨(some 12), none, .mv (.t 11)⟩,
        ⟨(some 13), (some (12, false)), .faddr 1 (.t 1)⟩,
        ⟨(some 14), (some (12, false)), .load none (.t 13)⟩,
        ⟨(some 15), (some (12, false)), .bin .geq .other true (.t 14) (.c (.int .i64 64016))⟩,
        ⟨(some 16), none, .pick (.t 12) (.c (.bool true)) (.t 15)⟩])
   (.cond (.t 16) (.seq (.reg [2, 3, 4] [⟨(some 2), none, .mv (.c (.int .i64 0))⟩,
          ⟨(some 3), none, .mv (.c (.int .i64 0))⟩,
          ⟨(some 4), none, .mv (.c (.bool false))⟩])
     .ret)
   .skip))
  (.seq (.any [2, 3, 4] [(⟨(some 17), none, .faddr 1 (.t 1)⟩, true),
       (⟨(some 18), none, .load none (.t 17)⟩, true),
       (⟨(some 19), none, .bin .rem .other true (.t 18) (.c (.int .i64 16))⟩, true),
       (⟨(some 20), none, .faddr 1 (.t 1)⟩, false),
       (⟨(some 21), none, .load none (.t 20)⟩, false),
       (⟨(some 22), none, .bin .quo .other true (.t 21) (.c (.int .i64 16))⟩, false),
       (⟨(some 2), none, .mv (.t 19)⟩, false),
       (⟨(some 3), none, .mv (.t 22)⟩, true),
       (⟨(some 4), none, .mv (.c (.bool true))⟩, true)])
  .ret)))⟩
theorem c14 : compF Try.prog [0, 1, 2, 3, 4, 16] Try.f14 = some a14 := by kernel_rfl

/- bushel/bushelref01.Parts -/
def a15 : AFun := ⟨23, [.tmp 2, .tmp 3, .tmp 4], (.seq (.reg [1, 2, 3, 4] [⟨(some 1), none, .box (.t 0)⟩,
       ⟨(some 2), none, .mv (.c (.int .i64 0))⟩,
       ⟨(some 3), none, .mv (.c (.int .i64 0))⟩,
       ⟨(some 4), none, .mv (.c (.bool false))⟩])
  (.seq (.seq (.reg [16] [⟨(some 5), none, .faddr 0 (.t 1)⟩,
        ⟨(some 6), none, .load none (.t 5)⟩,
        ⟨(some 7), none, .mv (.t 6)⟩,
        ⟨(some 8), (some (7, false)), .faddr 1 (.t 1)⟩,
        ⟨(some 9), (some (7, false)), .load none (.t 8)⟩,
        ⟨(some 10), (some (7, false)), .bin .lss .other true (.t 9) (.c (.int .i64 0))⟩,
        ⟨(some 11), none, .pick (.t 7) (.c (.bool true)) (.t 10)⟩,
        ⟨(some 12), none, .mv (.t 11)⟩,
        ⟨(some 13), (some (12, false)), .faddr 1 (.t 1)⟩,
        ⟨(some 14), (some (12, false)), .load none (.t 13)⟩,
        ⟨(some 15), (some (12, false)), .bin .gtr .other true (.t 14) (.c (.int .i64 64015))⟩,
        ⟨(some 16), none, .pick (.t 12) (.c (.bool true)) (.t 15)⟩])
   (.cond (.t 16) (.seq (.reg [2, 3, 4] [⟨(some 2), none, .mv (.c (.int .i64 0))⟩,
          ⟨(some 3), none, .mv (.c (.int .i64 0))⟩,
          ⟨(some 4), none, .mv (.c (.bool false))⟩])
     .ret)
   .skip))
  (.seq (.any [2, 3, 4] [(⟨(some 17), none, .faddr 1 (.t 1)⟩, true),
       (⟨(some 18), none, .load none (.t 17)⟩, true),
       (⟨(some 19), none, .bin .rem .other true (.t 18) (.c (.int .i64 16))⟩, true),
       (⟨(some 20), none, .faddr 1 (.t 1)⟩, false),
       (⟨(some 21), none, .load none (.t 20)⟩, false),
       (⟨(some 22), none, .bin .quo .other true (.t 21) (.c (.int .i64 16))⟩, false),
       (⟨(some 2), none, .mv (.t 19)⟩, false),
       (⟨(some 3), none, .mv (.t 22)⟩, true),
       (⟨(some 4), none, .mv (.c (.bool true))⟩, true)])
  .ret)))⟩
theorem c15 : compF Try.prog [0, 1, 2, 3, 4, 16] Try.f15 = some a15 := by kernel_rfl

/- bushel/word.Moved -/
def a16 : AFun := ⟨9, [.tmp 2, .tmp 3], (.seq (.reg [1, 2, 3] [⟨(some 1), none, .box (.t 0)⟩,
       ⟨(some 2), none, .mv (.c (.int .i64 0))⟩,
       ⟨(some 3), none, .mv (.c (.bool false))⟩])
  (.seq (.seq (.reg [6] [⟨(some 4), none, .faddr 0 (.t 1)⟩,
        ⟨(some 5), none, .load none (.t 4)⟩,
        ⟨(some 6), none, .un .not (.t 5)⟩])
   (.cond (.t 6) (.seq (.reg [2, 3] [⟨(some 2), none, .mv (.c (.int .i64 0))⟩,
          ⟨(some 3), none, .mv (.c (.bool false))⟩])
     .ret)
   .skip))
  (.seq (.reg [2, 3] [⟨(some 7), none, .faddr 1 (.t 1)⟩,
       ⟨(some 8), none, .load none (.t 7)⟩,
       ⟨(some 2), none, .mv (.t 8)⟩,
       ⟨(some 3), none, .mv (.c (.bool true))⟩])
  .ret)))⟩
theorem c16 : compF Try.prog [0, 1, 2, 3, 6] Try.f16 = some a16 := by kernel_rfl

/- bushel/word.Int -/
def a17 : AFun := ⟨5, [.cell 2 (some 2)], (.seq (.reg [2] [⟨(some 2), none, .alloc [(.bool false), (.int .i64 0)]⟩])
  (.seq (.reg [] [⟨(some 3), none, .mv (.t 0)⟩,
       ⟨(some 4), none, .build [(.bool false), (.int .i64 0)] [(1, 1, (.t 3))]⟩,
       ⟨none, none, .store 2 (.t 2) (.t 4)⟩])
  .ret))⟩
theorem c17 : compF Try.prog [0, 2] Try.f17 = some a17 := by kernel_rfl

/- bushel/word.At -/
def a18 : AFun := ⟨5, [.cell 2 (some 2)], (.seq (.reg [2] [⟨(some 2), none, .alloc [(.bool false), (.int .i64 0)]⟩])
  (.seq (.reg [] [⟨(some 3), none, .mv (.t 0)⟩,
       ⟨(some 4), none, .build [(.bool false), (.int .i64 0)] [(0, 1, (.c (.bool true))), (1, 1, (.t 3))]⟩,
       ⟨none, none, .store 2 (.t 2) (.t 4)⟩])
  .ret))⟩
theorem c18 : compF Try.prog [0, 2] Try.f18 = some a18 := by kernel_rfl

/- bushel/word.Unpack -/
def a19 : AFun := ⟨91, [.tmp 2, .tmp 3], (.seq (.reg [2, 3] [⟨(some 2), none, .mv (.c .snil)⟩,
       ⟨(some 3), none, .mv (.c .inil)⟩])
  (.seq (.seq (.reg [37] [⟨(some 11), none, .mv (.t 0)⟩,
        ⟨(some 12), none, .len .sl (.t 11)⟩,
        ⟨(some 13), none, .bin .eql .other true (.t 12) (.c (.int .i64 0))⟩,
        ⟨(some 14), none, .mv (.t 13)⟩,
        ⟨(some 15), (some (14, false)), .mv (.t 0)⟩,
        ⟨(some 16), (some (14, false)), .iaddr (some 2) (.t 15) (.c (.int .i64 0))⟩,
        ⟨(some 17), (some (14, false)), .faddr 0 (.t 16)⟩,
        ⟨(some 18), (some (14, false)), .load none (.t 17)⟩,
        ⟨(some 19), none, .pick (.t 14) (.c (.bool true)) (.t 18)⟩,
        ⟨(some 20), none, .mv (.t 19)⟩,
        ⟨(some 21), (some (20, false)), .mv (.t 0)⟩,
        ⟨(some 22), (some (20, false)), .iaddr (some 2) (.t 21) (.c (.int .i64 0))⟩,
        ⟨(some 23), (some (20, false)), .faddr 1 (.t 22)⟩,
        ⟨(some 24), (some (20, false)), .load none (.t 23)⟩,
        ⟨(some 25), (some (20, false)), .bin .lss .other true (.t 24) (.c (.int .i64 0))⟩,
        ⟨(some 26), none, .pick (.t 20) (.c (.bool true)) (.t 25)⟩,
        ⟨(some 27), none, .mv (.t 26)⟩,
        ⟨(some 28), (some (27, false)), .mv (.t 0)⟩,
        ⟨(some 29), (some (27, false)), .iaddr (some 2) (.t 28) (.c (.int .i64 0))⟩,
        ⟨(some 30), (some (27, false)), .faddr 1 (.t 29)⟩,
        ⟨(some 31), (some (27, false)), .load none (.t 30)⟩,
        ⟨(some 32), (some (27, false)), .mv (.t 0)⟩,
        ⟨(some 33), (some (27, false)), .len .sl (.t 32)⟩,
        ⟨(some 34), (some (27, false)), .bin .sub .other true (.t 33) (.c (.int .i64 1))⟩,
        ⟨(some 35), (some (27, false)), .bin .mul .other true (.t 34) (.c (.int .i64 8))⟩,
        ⟨(some 36), (some (27, false)), .bin .gtr .other false (.t 31) (.t 35)⟩,
        ⟨(some 37), none, .pick (.t 27) (.c (.bool true)) (.t 36)⟩])
   (.cond (.t 37) (.seq (.reg [2, 3] [⟨(some 38), none, .mkif 32 (.c (.int .i64 1))⟩,
          ⟨(some 2), none, .mv (.c .snil)⟩,
          ⟨(some 3), none, .mv (.t 38)⟩])
     .ret)
   .skip))
  (.seq (.reg [4] [⟨(some 39), none, .mksl none []⟩,
       ⟨(some 4), none, .mv (.t 39)⟩])
  (.seq (.seq (.reg [41, 42, 43] [⟨(some 40), none, .mv (.t 0)⟩,
        ⟨(some 41), none, .slice (.sl (some 2)) (.t 40) (some (.c (.int .i64 1))) none none⟩,
        ⟨(some 42), none, .len .sl (.t 41)⟩,
        ⟨(some 43), none, .mv (.c (.int .i64 0))⟩])
   (.block 0 (.loop (.seq (.reg [44] [⟨(some 44), none, .bin .lss .other false (.t 43) (.t 42)⟩])
     (.seq (.cond (.t 44) .skip
      (.exit 0))
     (.seq (.block 1 (.seq (.reg [6] [⟨(some 45), none, .iaddr (some 2) (.t 41) (.t 43)⟩,
            ⟨(some 46), none, .load (some 2) (.t 45)⟩,
            ⟨(some 6), none, .alloc [(.bool false), (.int .i64 0)]⟩,
            ⟨none, none, .store 2 (.t 6) (.t 46)⟩])
       (.seq (.seq (.reg [48] [⟨(some 47), none, .faddr 0 (.t 6)⟩,
             ⟨(some 48), none, .load none (.t 47)⟩])
        (.cond (.t 48) (.seq (.reg [2, 3] [⟨(some 49), none, .mkif 32 (.c (.int .i64 1))⟩,
               ⟨(some 2), none, .mv (.c .snil)⟩,
               ⟨(some 3), none, .mv (.t 49)⟩])
          .ret)
        .skip))
       (.seq (.reg [50] [⟨(some 50), none, .mv (.c (.int .i64 0))⟩])
       (.block 2 (.loop (.seq (.reg [51] [⟨(some 51), none, .bin .lss .other true (.t 50) (.c (.int .i64 8))⟩])
         (.seq (.cond (.t 51) .skip
          (.exit 2))
         (.seq (.block 3 (.seq (.reg [7] [⟨(some 52), none, .mv (.t 50)⟩,
                ⟨(some 7), none, .mv (.t 52)⟩])
           (.reg [4] [⟨(some 53), none, .mv (.t 4)⟩,
               ⟨(some 54), none, .faddr 1 (.t 6)⟩,
               ⟨(some 55), none, .load none (.t 54)⟩,
               ⟨(some 56), none, .conv (.toInt .u64) (.t 55)⟩,
               ⟨(some 57), none, .mv (.t 7)⟩,
               ⟨(some 58), none, .bin .mul .other true (.c (.int .i64 8)) (.t 57)⟩,
               ⟨(some 59), none, .bin .shr .other false (.t 56) (.t 58)⟩,
               ⟨(some 60), none, .conv (.toInt .u8) (.t 59)⟩,
               ⟨(some 61), none, .mksl none [(.t 60)]⟩,
               ⟨(some 62), none, .append none 1 (.t 53) (.t 61)⟩,
               ⟨(some 4), none, .mv (.t 62)⟩])))
         (.reg [50] [⟨(some 63), none, .bin .add .other true (.t 50) (.c (.int .i64 1))⟩,
             ⟨(some 50), none, .mv (.t 63)⟩]))))))))))
     (.reg [43] [⟨(some 64), none, .bin .add .other true (.t 43) (.c (.int .i64 1))⟩,
         ⟨(some 43), none, .mv (.t 64)⟩])))))))
  (.seq (.reg [8] [⟨(some 65), none, .mv (.t 0)⟩,
       ⟨(some 66), none, .iaddr (some 2) (.t 65) (.c (.int .i64 0))⟩,
       ⟨(some 67), none, .faddr 1 (.t 66)⟩,
       ⟨(some 68), none, .load none (.t 67)⟩,
       ⟨(some 8), none, .mv (.t 68)⟩])
  (.seq (.seq (.reg [71, 72, 73] [⟨(some 69), none, .mv (.t 4)⟩,
        ⟨(some 70), none, .mv (.t 8)⟩,
        ⟨(some 71), none, .slice (.sl none) (.t 69) (some (.t 70)) none none⟩,
        ⟨(some 72), none, .len .sl (.t 71)⟩,
        ⟨(some 73), none, .mv (.c (.int .i64 0))⟩])
   (.block 4 (.loop (.seq (.reg [74] [⟨(some 74), none, .bin .lss .other false (.t 73) (.t 72)⟩])
     (.seq (.cond (.t 74) .skip
      (.exit 4))
     (.seq (.block 5 (.seq (.reg [10] [⟨(some 75), none, .iaddr none (.t 71) (.t 73)⟩,
            ⟨(some 76), none, .load none (.t 75)⟩,
            ⟨(some 10), none, .mv (.t 76)⟩])
       (.seq (.reg [85] [⟨(some 77), none, .mv (.t 10)⟩,
            ⟨(some 78), none, .bin .neq .other true (.t 77) (.c (.int .u8 0))⟩,
            ⟨(some 79), none, .mv (.t 78)⟩,
            ⟨(some 80), (some (79, false)), .mv (.t 4)⟩,
            ⟨(some 81), (some (79, false)), .len .sl (.t 80)⟩,
            ⟨(some 82), (some (79, false)), .mv (.t 8)⟩,
            ⟨(some 83), (some (79, false)), .bin .sub .other false (.t 81) (.t 82)⟩,
            ⟨(some 84), (some (79, false)), .bin .geq .other true (.t 83) (.c (.int .i64 8))⟩,
            ⟨(some 85), none, .pick (.t 79) (.c (.bool true)) (.t 84)⟩])
       (.cond (.t 85) (.seq (.reg [2, 3] [⟨(some 86), none, .mkif 32 (.c (.int .i64 1))⟩,
              ⟨(some 2), none, .mv (.c .snil)⟩,
              ⟨(some 3), none, .mv (.t 86)⟩])
         .ret)
       .skip))))
     (.reg [73] [⟨(some 87), none, .bin .add .other true (.t 73) (.c (.int .i64 1))⟩,
         ⟨(some 73), none, .mv (.t 87)⟩])))))))
  (.seq (.reg [2, 3] [⟨(some 88), none, .mv (.t 4)⟩,
       ⟨(some 89), none, .mv (.t 8)⟩,
       ⟨(some 90), none, .slice (.sl none) (.t 88) none (some (.t 89)) none⟩,
       ⟨(some 2), none, .mv (.t 90)⟩,
       ⟨(some 3), none, .mv (.c .inil)⟩])
  .ret)))))))⟩
theorem c19 : compF Try.prog [0, 2, 3, 4, 6, 7, 8, 10, 37, 41, 42, 43, 44, 48, 50, 51, 71, 72, 73, 74, 85] Try.f19 = some a19 := by kernel_rfl

/- bushel/bushelref01.Unpack -/
def a20 : AFun := ⟨76, [.tmp 2, .tmp 3], (.seq (.reg [2, 3] [⟨(some 2), none, .mv (.c .snil)⟩,
       ⟨(some 3), none, .mv (.c (.bool false))⟩])
  (.seq (.seq (.reg [11] [⟨(some 9), none, .mv (.t 0)⟩,
        ⟨(some 10), none, .len .sl (.t 9)⟩,
        ⟨(some 11), none, .bin .eql .other true (.t 10) (.c (.int .i64 0))⟩])
   (.cond (.t 11) (.seq (.reg [2, 3] [⟨(some 2), none, .mv (.c .snil)⟩,
          ⟨(some 3), none, .mv (.c (.bool false))⟩])
     .ret)
   .skip))
  (.seq (.seq (.reg [32] [⟨(some 12), none, .mv (.t 0)⟩,
        ⟨(some 13), none, .iaddr (some 2) (.t 12) (.c (.int .i64 0))⟩,
        ⟨(some 14), none, .faddr 0 (.t 13)⟩,
        ⟨(some 15), none, .load none (.t 14)⟩,
        ⟨(some 16), none, .mv (.t 15)⟩,
        ⟨(some 17), (some (16, false)), .mv (.t 0)⟩,
        ⟨(some 18), (some (16, false)), .iaddr (some 2) (.t 17) (.c (.int .i64 0))⟩,
        ⟨(some 19), (some (16, false)), .faddr 1 (.t 18)⟩,
        ⟨(some 20), (some (16, false)), .load none (.t 19)⟩,
        ⟨(some 21), (some (16, false)), .bin .lss .other true (.t 20) (.c (.int .i64 0))⟩,
        ⟨(some 22), none, .pick (.t 16) (.c (.bool true)) (.t 21)⟩,
        ⟨(some 23), none, .mv (.t 22)⟩,
        ⟨(some 24), (some (23, false)), .mv (.t 0)⟩,
        ⟨(some 25), (some (23, false)), .iaddr (some 2) (.t 24) (.c (.int .i64 0))⟩,
        ⟨(some 26), (some (23, false)), .faddr 1 (.t 25)⟩,
        ⟨(some 27), (some (23, false)), .load none (.t 26)⟩,
        ⟨(some 28), (some (23, false)), .mv (.t 0)⟩,
        ⟨(some 29), (some (23, false)), .len .sl (.t 28)⟩,
        ⟨(some 30), (some (23, false)), .bin .mul .other true (.c (.int .i64 8)) (.t 29)⟩,
        ⟨(some 31), (some (23, false)), .bin .gtr .other false (.t 27) (.t 30)⟩,
        ⟨(some 32), none, .pick (.t 23) (.c (.bool true)) (.t 31)⟩])
   (.cond (.t 32) (.seq (.reg [2, 3] [⟨(some 2), none, .mv (.c .snil)⟩,
          ⟨(some 3), none, .mv (.c (.bool false))⟩])
     .ret)
   .skip))
  (.seq (.reg [4] [⟨(some 4), none, .mv (.c .snil)⟩])
  (.seq (.seq (.reg [5] [⟨(some 5), none, .mv (.c (.int .i64 1))⟩])
   (.block 0 (.loop (.seq (.seq (.reg [36] [⟨(some 33), none, .mv (.t 5)⟩,
           ⟨(some 34), none, .mv (.t 0)⟩,
           ⟨(some 35), none, .len .sl (.t 34)⟩,
           ⟨(some 36), none, .bin .lss .other false (.t 33) (.t 35)⟩])
      (.cond (.t 36) .skip
      (.exit 0)))
     (.seq (.block 1 (.seq (.reg [6] [⟨(some 39), none, .mv (.t 0)⟩,
            ⟨(some 40), none, .mv (.t 5)⟩,
            ⟨(some 41), none, .iaddr (some 2) (.t 39) (.t 40)⟩,
            ⟨(some 42), none, .faddr 1 (.t 41)⟩,
            ⟨(some 43), none, .load none (.t 42)⟩,
            ⟨(some 44), none, .conv (.toInt .u64) (.t 43)⟩,
            ⟨(some 6), none, .mv (.t 44)⟩])
       (.seq (.reg [7] [⟨(some 7), none, .mv (.c (.int .i64 0))⟩])
       (.block 2 (.loop (.seq (.seq (.reg [46] [⟨(some 45), none, .mv (.t 7)⟩,
               ⟨(some 46), none, .bin .lss .other true (.t 45) (.c (.int .i64 8))⟩])
          (.cond (.t 46) .skip
          (.exit 2)))
         (.seq (.block 3 (.seq (.reg [4] [⟨(some 49), none, .mv (.t 4)⟩,
                ⟨(some 50), none, .mv (.t 6)⟩,
                ⟨(some 51), none, .bin .rem .other true (.t 50) (.c (.int .u64 256))⟩,
                ⟨(some 52), none, .conv (.toInt .u8) (.t 51)⟩,
                ⟨(some 53), none, .mksl none [(.t 52)]⟩,
                ⟨(some 54), none, .append none 1 (.t 49) (.t 53)⟩,
                ⟨(some 4), none, .mv (.t 54)⟩])
           (.reg [6] [⟨(some 55), none, .mv (.t 6)⟩,
               ⟨(some 56), none, .bin .quo .other true (.t 55) (.c (.int .u64 256))⟩,
               ⟨(some 6), none, .mv (.t 56)⟩])))
         (.reg [7] [⟨(some 47), none, .mv (.t 7)⟩,
             ⟨(some 48), none, .bin .add .other true (.t 47) (.c (.int .i64 1))⟩,
             ⟨(some 7), none, .mv (.t 48)⟩]))))))))
     (.reg [5] [⟨(some 37), none, .mv (.t 5)⟩,
         ⟨(some 38), none, .bin .add .other true (.t 37) (.c (.int .i64 1))⟩,
         ⟨(some 5), none, .mv (.t 38)⟩]))))))
  (.seq (.seq (.reg [63] [⟨(some 57), none, .mv (.t 4)⟩,
        ⟨(some 58), none, .len .sl (.t 57)⟩,
        ⟨(some 59), none, .mv (.t 0)⟩,
        ⟨(some 60), none, .iaddr (some 2) (.t 59) (.c (.int .i64 0))⟩,
        ⟨(some 61), none, .faddr 1 (.t 60)⟩,
        ⟨(some 62), none, .load none (.t 61)⟩,
        ⟨(some 63), none, .bin .lss .other false (.t 58) (.t 62)⟩])
   (.cond (.t 63) (.seq (.reg [2, 3] [⟨(some 2), none, .mv (.c .snil)⟩,
          ⟨(some 3), none, .mv (.c (.bool false))⟩])
     .ret)
   .skip))
  (.seq (.reg [4] [⟨(some 64), none, .mv (.t 4)⟩,
       ⟨(some 65), none, .mv (.t 0)⟩,
       ⟨(some 66), none, .iaddr (some 2) (.t 65) (.c (.int .i64 0))⟩,
       ⟨(some 67), none, .faddr 1 (.t 66)⟩,
       ⟨(some 68), none, .load none (.t 67)⟩,
       ⟨(some 69), none, .slice (.sl none) (.t 64) none (some (.t 68)) none⟩,
       ⟨(some 4), none, .mv (.t 69)⟩])
  (.seq (.reg [8] [⟨(some 70), none, .mv (.t 4)⟩,
       ⟨(some 71), none, .call (.c (.fn 24)) [(.t 70)]⟩,
       ⟨(some 72), none, .mv (.t 0)⟩,
       ⟨(some 73), none, .call (.c (.fn 22)) [(.t 71), (.t 72)]⟩,
       ⟨(some 8), none, .mv (.t 73)⟩])
  (.seq (.reg [2, 3] [⟨(some 74), none, .mv (.t 4)⟩,
       ⟨(some 75), none, .mv (.t 8)⟩,
       ⟨(some 2), none, .mv (.t 74)⟩,
       ⟨(some 3), none, .mv (.t 75)⟩])
  .ret)))))))))⟩
theorem c20 : compF Try.prog [0, 2, 3, 4, 5, 6, 7, 8, 11, 32, 36, 46, 63] Try.f20 = some a20 := by kernel_rfl

/- bushel/bushellaw01.All -/
def a21 : AFun := ⟨20, [.tmp 2], (.seq (.reg [2] [⟨(some 2), none, .mv (.c .snil)⟩])
  (.seq (.reg [3] [⟨(some 3), none, .mv (.c .snil)⟩])
  (.seq (.seq (.reg [4] [⟨(some 4), none, .mv (.c (.int .i64 0))⟩])
   (.block 0 (.loop (.seq (.seq (.reg [8] [⟨(some 5), none, .mv (.t 4)⟩,
           ⟨(some 6), none, .mv (.t 0)⟩,
           ⟨(some 7), none, .len .sl (.t 6)⟩,
           ⟨(some 8), none, .bin .lss .other false (.t 5) (.t 7)⟩])
      (.cond (.t 8) .skip
      (.exit 0)))
     (.seq (.block 1 (.reg [3] [⟨(some 11), none, .mv (.t 3)⟩,
           ⟨(some 12), none, .mv (.t 0)⟩,
           ⟨(some 13), none, .mv (.t 4)⟩,
           ⟨(some 14), none, .iaddr (some 2) (.t 12) (.t 13)⟩,
           ⟨(some 15), none, .load (some 2) (.t 14)⟩,
           ⟨(some 16), none, .call (.c (.fn 13)) [(.t 15)]⟩,
           ⟨(some 17), none, .mksl (some 2) [(.t 16)]⟩,
           ⟨(some 18), none, .append (some 2) 16 (.t 11) (.t 17)⟩,
           ⟨(some 3), none, .mv (.t 18)⟩]))
     (.reg [4] [⟨(some 9), none, .mv (.t 4)⟩,
         ⟨(some 10), none, .bin .add .other true (.t 9) (.c (.int .i64 1))⟩,
         ⟨(some 4), none, .mv (.t 10)⟩]))))))
  (.seq (.reg [2] [⟨(some 19), none, .mv (.t 3)⟩,
       ⟨(some 2), none, .mv (.t 19)⟩])
  .ret))))⟩
theorem c21 : compF Try.prog [0, 2, 3, 4, 8] Try.f21 = some a21 := by kernel_rfl

/- bushel/bushelref01.Same -/
def a22 : AFun := ⟨26, [.tmp 4], (.seq (.reg [4] [⟨(some 4), none, .mv (.c (.bool false))⟩])
  (.seq (.seq (.reg [10] [⟨(some 6), none, .mv (.t 0)⟩,
        ⟨(some 7), none, .len .sl (.t 6)⟩,
        ⟨(some 8), none, .mv (.t 1)⟩,
        ⟨(some 9), none, .len .sl (.t 8)⟩,
        ⟨(some 10), none, .bin .neq .other false (.t 7) (.t 9)⟩])
   (.cond (.t 10) (.seq (.reg [4] [⟨(some 4), none, .mv (.c (.bool false))⟩])
     .ret)
   .skip))
  (.seq (.seq (.reg [5] [⟨(some 5), none, .mv (.c (.int .i64 0))⟩])
   (.block 0 (.loop (.seq (.seq (.reg [14] [⟨(some 11), none, .mv (.t 5)⟩,
           ⟨(some 12), none, .mv (.t 0)⟩,
           ⟨(some 13), none, .len .sl (.t 12)⟩,
           ⟨(some 14), none, .bin .lss .other false (.t 11) (.t 13)⟩])
      (.cond (.t 14) .skip
      (.exit 0)))
     (.seq (.block 1 (.seq (.any [25] [(⟨(some 17), none, .mv (.t 0)⟩, true),
            (⟨(some 18), none, .mv (.t 5)⟩, false),
            (⟨(some 19), none, .iaddr (some 2) (.t 17) (.t 18)⟩, true),
            (⟨(some 20), none, .load (some 2) (.t 19)⟩, true),
            (⟨(some 21), none, .mv (.t 1)⟩, false),
            (⟨(some 22), none, .mv (.t 5)⟩, false),
            (⟨(some 23), none, .iaddr (some 2) (.t 21) (.t 22)⟩, false),
            (⟨(some 24), none, .load (some 2) (.t 23)⟩, false),
            (⟨(some 25), none, .bin .neq (.struct [.bool, .int]) false (.t 20) (.t 24)⟩, true)])
       (.cond (.t 25) (.seq (.reg [4] [⟨(some 4), none, .mv (.c (.bool false))⟩])
         .ret)
       .skip)))
     (.reg [5] [⟨(some 15), none, .mv (.t 5)⟩,
         ⟨(some 16), none, .bin .add .other true (.t 15) (.c (.int .i64 1))⟩,
         ⟨(some 5), none, .mv (.t 16)⟩]))))))
  (.seq (.reg [4] [⟨(some 4), none, .mv (.c (.bool true))⟩])
  .ret))))⟩
theorem c22 : compF Try.prog [0, 1, 4, 5, 10, 14, 25] Try.f22 = some a22 := by kernel_rfl

/- bushel/word.Pack -/
def a23 : AFun := ⟨47, [.tmp 2], (.seq (.reg [2] [⟨(some 2), none, .mv (.c .snil)⟩])
  (.seq (.reg [3] [⟨(some 8), none, .mv (.t 0)⟩,
       ⟨(some 9), none, .len .sl (.t 8)⟩,
       ⟨(some 10), none, .call (.c (.fn 17)) [(.t 9)]⟩,
       ⟨(some 11), none, .mksl (some 2) [(.t 10)]⟩,
       ⟨(some 3), none, .mv (.t 11)⟩])
  (.seq (.seq (.reg [4] [⟨(some 4), none, .mv (.c (.int .i64 0))⟩])
   (.block 0 (.loop (.seq (.seq (.reg [15] [⟨(some 12), none, .mv (.t 4)⟩,
           ⟨(some 13), none, .mv (.t 0)⟩,
           ⟨(some 14), none, .len .sl (.t 13)⟩,
           ⟨(some 15), none, .bin .lss .other false (.t 12) (.t 14)⟩])
      (.cond (.t 15) .skip
      (.exit 0)))
     (.seq (.block 1 (.seq (.reg [5] [⟨(some 5), none, .mv (.c (.int .u64 0))⟩])
       (.seq (.seq (.reg [25, 26, 27] [⟨(some 18), none, .mv (.t 0)⟩,
             ⟨(some 19), none, .mv (.t 4)⟩,
             ⟨(some 20), none, .mv (.t 4)⟩,
             ⟨(some 21), none, .bin .add .other true (.t 20) (.c (.int .i64 8))⟩,
             ⟨(some 22), none, .mv (.t 0)⟩,
             ⟨(some 23), none, .len .sl (.t 22)⟩,
             ⟨(some 24), none, .min [(.t 21), (.t 23)]⟩,
             ⟨(some 25), none, .slice (.sl none) (.t 18) (some (.t 19)) (some (.t 24)) none⟩,
             ⟨(some 26), none, .len .sl (.t 25)⟩,
             ⟨(some 27), none, .mv (.c (.int .i64 0))⟩])
        (.block 2 (.loop (.seq (.reg [28] [⟨(some 28), none, .bin .lss .other false (.t 27) (.t 26)⟩])
          (.seq (.cond (.t 28) .skip
           (.exit 2))
          (.seq (.block 3 (.seq (.reg [6, 7] [⟨(some 29), none, .mv (.t 27)⟩,
                 ⟨(some 30), none, .iaddr none (.t 25) (.t 27)⟩,
                 ⟨(some 31), none, .load none (.t 30)⟩,
                 ⟨(some 6), none, .mv (.t 29)⟩,
                 ⟨(some 7), none, .mv (.t 31)⟩])
            (.reg [5] [⟨(some 32), none, .mv (.t 5)⟩,
                ⟨(some 33), none, .mv (.t 7)⟩,
                ⟨(some 34), none, .conv (.toInt .u64) (.t 33)⟩,
                ⟨(some 35), none, .mv (.t 6)⟩,
                ⟨(some 36), none, .bin .mul .other true (.c (.int .i64 8)) (.t 35)⟩,
                ⟨(some 37), none, .bin .shl .other false (.t 34) (.t 36)⟩,
                ⟨(some 38), none, .bin .or .other false (.t 32) (.t 37)⟩,
                ⟨(some 5), none, .mv (.t 38)⟩])))
          (.reg [27] [⟨(some 39), none, .bin .add .other true (.t 27) (.c (.int .i64 1))⟩,
              ⟨(some 27), none, .mv (.t 39)⟩])))))))
       (.reg [3] [⟨(some 40), none, .mv (.t 3)⟩,
           ⟨(some 41), none, .mv (.t 5)⟩,
           ⟨(some 42), none, .conv (.toInt .i64) (.t 41)⟩,
           ⟨(some 43), none, .call (.c (.fn 17)) [(.t 42)]⟩,
           ⟨(some 44), none, .mksl (some 2) [(.t 43)]⟩,
           ⟨(some 45), none, .append (some 2) 16 (.t 40) (.t 44)⟩,
           ⟨(some 3), none, .mv (.t 45)⟩]))))
     (.reg [4] [⟨(some 16), none, .mv (.t 4)⟩,
         ⟨(some 17), none, .bin .add .other true (.t 16) (.c (.int .i64 8))⟩,
         ⟨(some 4), none, .mv (.t 17)⟩]))))))
  (.seq (.reg [2] [⟨(some 46), none, .mv (.t 3)⟩,
       ⟨(some 2), none, .mv (.t 46)⟩])
  .ret))))⟩
theorem c23 : compF Try.prog [0, 2, 3, 4, 5, 6, 7, 15, 25, 26, 27, 28] Try.f23 = some a23 := by kernel_rfl

/- bushel/bushelref01.Pack -/
def a24 : AFun := ⟨24, [.tmp 2], (.seq (.reg [2] [⟨(some 2), none, .mv (.c .snil)⟩])
  (.seq (.reg [3] [⟨(some 4), none, .mv (.t 0)⟩,
       ⟨(some 5), none, .len .sl (.t 4)⟩,
       ⟨(some 6), none, .build [(.bool false), (.int .i64 0)] [(1, 1, (.t 5))]⟩,
       ⟨(some 7), none, .mksl (some 2) [(.t 6)]⟩,
       ⟨(some 3), none, .mv (.t 7)⟩])
  (.seq (.block 0 (.loop (.seq (.seq (.reg [10] [⟨(some 8), none, .mv (.t 0)⟩,
           ⟨(some 9), none, .len .sl (.t 8)⟩,
           ⟨(some 10), none, .bin .gtr .other true (.t 9) (.c (.int .i64 0))⟩])
      (.cond (.t 10) .skip
      (.exit 0)))
     (.block 1 (.seq (.reg [3] [⟨(some 11), none, .mv (.t 3)⟩,
           ⟨(some 12), none, .mv (.t 0)⟩,
           ⟨(some 13), none, .call (.c (.fn 51)) [(.t 12)]⟩,
           ⟨(some 14), none, .build [(.bool false), (.int .i64 0)] [(1, 1, (.t 13))]⟩,
           ⟨(some 15), none, .mksl (some 2) [(.t 14)]⟩,
           ⟨(some 16), none, .append (some 2) 16 (.t 11) (.t 15)⟩,
           ⟨(some 3), none, .mv (.t 16)⟩])
      (.seq (.seq (.reg [19] [⟨(some 17), none, .mv (.t 0)⟩,
            ⟨(some 18), none, .len .sl (.t 17)⟩,
            ⟨(some 19), none, .bin .lss .other true (.t 18) (.c (.int .i64 8))⟩])
       (.cond (.t 19) (.seq (.reg [2] [⟨(some 20), none, .mv (.t 3)⟩,
              ⟨(some 2), none, .mv (.t 20)⟩])
         .ret)
       .skip))
      (.reg [0] [⟨(some 21), none, .mv (.t 0)⟩,
          ⟨(some 22), none, .slice (.sl none) (.t 21) (some (.c (.int .i64 8))) none none⟩,
          ⟨(some 0), none, .mv (.t 22)⟩])))))))
  (.seq (.reg [2] [⟨(some 23), none, .mv (.t 3)⟩,
       ⟨(some 2), none, .mv (.t 23)⟩])
  .ret))))⟩
theorem c24 : compF Try.prog [0, 2, 3, 10, 19] Try.f24 = some a24 := by kernel_rfl

/- bushel/bushelref01.eight -/
def a51 : AFun := ⟨24, [.tmp 2], (.seq (.reg [2] [⟨(some 2), none, .mv (.c (.int .i64 0))⟩])
  (.seq (.reg [3] [⟨(some 3), none, .mv (.c (.int .u64 0))⟩])
  (.seq (.seq (.reg [4] [⟨(some 4), none, .mv (.c (.int .i64 7))⟩])
   (.block 0 (.loop (.seq (.seq (.reg [6] [⟨(some 5), none, .mv (.t 4)⟩,
           ⟨(some 6), none, .bin .geq .other true (.t 5) (.c (.int .i64 0))⟩])
      (.cond (.t 6) .skip
      (.exit 0)))
     (.seq (.block 1 (.seq (.reg [3] [⟨(some 9), none, .mv (.t 3)⟩,
            ⟨(some 10), none, .bin .mul .other true (.t 9) (.c (.int .u64 256))⟩,
            ⟨(some 3), none, .mv (.t 10)⟩])
       (.seq (.reg [14] [⟨(some 11), none, .mv (.t 4)⟩,
            ⟨(some 12), none, .mv (.t 0)⟩,
            ⟨(some 13), none, .len .sl (.t 12)⟩,
            ⟨(some 14), none, .bin .lss .other false (.t 11) (.t 13)⟩])
       (.cond (.t 14) (.reg [3] [⟨(some 15), none, .mv (.t 3)⟩,
             ⟨(some 16), none, .mv (.t 0)⟩,
             ⟨(some 17), none, .mv (.t 4)⟩,
             ⟨(some 18), none, .iaddr none (.t 16) (.t 17)⟩,
             ⟨(some 19), none, .load none (.t 18)⟩,
             ⟨(some 20), none, .conv (.toInt .u64) (.t 19)⟩,
             ⟨(some 21), none, .bin .add .other false (.t 15) (.t 20)⟩,
             ⟨(some 3), none, .mv (.t 21)⟩])
       .skip))))
     (.reg [4] [⟨(some 7), none, .mv (.t 4)⟩,
         ⟨(some 8), none, .bin .sub .other true (.t 7) (.c (.int .i64 1))⟩,
         ⟨(some 4), none, .mv (.t 8)⟩]))))))
  (.seq (.reg [2] [⟨(some 22), none, .mv (.t 3)⟩,
       ⟨(some 23), none, .conv (.toInt .i64) (.t 22)⟩,
       ⟨(some 2), none, .mv (.t 23)⟩])
  .ret))))⟩
theorem c51 : compF Try.prog [0, 2, 3, 4, 6, 14] Try.f51 = some a51 := by kernel_rfl

end Go.Proofs.Ytcbdnndgnbgnaaa
