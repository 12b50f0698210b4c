/-
  The bodies of functions, in the small language: printed by program, proved by the kernel's computing. (Own work.)
-/
import Derived.Test.YtkpnhcccocaakaaDoorAbsU
import Derived.Test.YtkpnhcccocaakaaDoorChecked
namespace Go.Proofs.YtkpnhcccocaakaaDoor
open Go Go.Abs

/- bushel/bushellaw10.TypTells -/
def a3 : AFun := ⟨106, [.tmp 4], (.seq (.reg [2, 3, 4] [⟨(some 2), none, .box (.t 0)⟩,
       ⟨(some 3), none, .box (.t 1)⟩,
       ⟨(some 4), none, .mv (.c (.bool false))⟩])
  (.seq (.reg [5] [⟨(some 10), none, .call (.c (.fn 5)) []⟩,
       ⟨(some 5), none, .mv (.t 10)⟩])
  (.seq (.seq (.reg [18] [⟨(some 11), none, .load (some 5) (.t 2)⟩,
        ⟨(some 12), none, .call (.c (.fn 6)) [(.t 11)]⟩,
        ⟨(some 13), none, .bin .lss .other true (.t 12) (.c (.int .i64 0))⟩,
        ⟨(some 14), none, .mv (.t 13)⟩,
        ⟨(some 15), (some (14, false)), .load (some 5) (.t 3)⟩,
        ⟨(some 16), (some (14, false)), .call (.c (.fn 6)) [(.t 15)]⟩,
        ⟨(some 17), (some (14, false)), .bin .lss .other true (.t 16) (.c (.int .i64 0))⟩,
        ⟨(some 18), none, .pick (.t 14) (.c (.bool true)) (.t 17)⟩])
   (.cond (.t 18) (.seq (.reg [4] [⟨(some 19), none, .mv (.t 5)⟩,
          ⟨(some 4), none, .mv (.t 19)⟩])
     .ret)
   .skip))
  (.seq (.reg [6] [⟨(some 20), none, .build [.snil, .snil] []⟩,
       ⟨(some 21), none, .box (.t 20)⟩,
       ⟨(some 6), none, .mv (.t 21)⟩])
  (.seq (.reg [] [⟨(some 22), none, .mv (.t 6)⟩,
       ⟨(some 23), none, .load (some 5) (.t 2)⟩,
       ⟨(some 24), none, .call (.c (.fn 7)) [(.t 22), (.t 23)]⟩])
  (.seq (.reg [7, 8] [⟨(some 26), none, .load (some 5) (.t 2)⟩,
       ⟨(some 27), none, .call (.c (.fn 8)) [(.t 26)]⟩,
       ⟨(some 25), none, .mv (.t 27)⟩,
       ⟨(some 28), none, .extract (.t 25) 0⟩,
       ⟨(some 29), none, .extract (.t 25) 1⟩,
       ⟨(some 7), none, .mv (.t 28)⟩,
       ⟨(some 8), none, .mv (.t 29)⟩])
  (.seq (.seq (.any [56] [(⟨(some 30), none, .load (some 5) (.t 2)⟩, true),
        (⟨(some 32), none, .load (some 5) (.t 2)⟩, false),
        (⟨(some 31), none, .call (.c (.fn 9)) [(.t 30)]⟩, false),
        (⟨(some 33), none, .call (.c (.fn 10)) [(.t 32)]⟩, true),
        (⟨(some 34), none, .bin .neq .bool false (.t 31) (.t 33)⟩, true),
        (⟨(some 35), none, .mv (.t 34)⟩, true),
        (⟨(some 36), (some (35, false)), .load (some 5) (.t 2)⟩, true),
        (⟨(some 37), (some (35, false)), .load (some 5) (.t 3)⟩, false),
        (⟨(some 39), (some (35, false)), .load (some 5) (.t 2)⟩, false),
        (⟨(some 40), (some (35, false)), .load (some 5) (.t 3)⟩, false),
        (⟨(some 38), (some (35, false)), .call (.c (.fn 11)) [(.t 36), (.t 37)]⟩, false),
        (⟨(some 41), (some (35, false)), .call (.c (.fn 12)) [(.t 39), (.t 40)]⟩, true),
        (⟨(some 42), (some (35, false)), .bin .neq .bool false (.t 38) (.t 41)⟩, true),
        (⟨(some 43), none, .pick (.t 35) (.c (.bool true)) (.t 42)⟩, true),
        (⟨(some 44), none, .mv (.t 43)⟩, true),
        (⟨(some 45), (some (44, false)), .load (some 5) (.t 2)⟩, true),
        (⟨(some 46), (some (44, false)), .load (some 5) (.t 2)⟩, false),
        (⟨(some 47), (some (44, false)), .call (.c (.fn 11)) [(.t 45), (.t 46)]⟩, true),
        (⟨(some 48), (some (44, false)), .un .not (.t 47)⟩, true),
        (⟨(some 49), none, .pick (.t 44) (.c (.bool true)) (.t 48)⟩, true),
        (⟨(some 50), none, .mv (.t 49)⟩, true),
        (⟨(some 51), (some (50, false)), .load (some 5) (.t 2)⟩, true),
        (⟨(some 53), (some (50, false)), .load (some 5) (.t 2)⟩, false),
        (⟨(some 52), (some (50, false)), .call (.c (.fn 13)) [(.t 51)]⟩, false),
        (⟨(some 54), (some (50, false)), .call (.c (.fn 14)) [(.t 53)]⟩, true),
        (⟨(some 55), (some (50, false)), .bin .neq .other false (.t 52) (.t 54)⟩, true),
        (⟨(some 56), none, .pick (.t 50) (.c (.bool true)) (.t 55)⟩, true)])
   (.cond (.t 56) (.seq (.reg [4] [⟨(some 4), none, .mv (.c (.bool false))⟩])
     .ret)
   .skip))
  (.seq (.reg [9] [⟨(some 57), none, .faddr 0 (.t 2)⟩,
       ⟨(some 58), none, .load none (.t 57)⟩,
       ⟨(some 59), none, .faddr 3 (.t 2)⟩,
       ⟨(some 60), none, .load none (.t 59)⟩,
       ⟨(some 61), none, .faddr 2 (.t 2)⟩,
       ⟨(some 62), none, .load none (.t 61)⟩,
       ⟨(some 63), none, .faddr 4 (.t 2)⟩,
       ⟨(some 64), none, .load none (.t 63)⟩,
       ⟨(some 65), none, .call (.c (.fn 15)) [(.t 58), (.t 60), (.t 62), (.t 64)]⟩,
       ⟨(some 9), none, .alloc [(.int .i64 0), (.int .i64 0), .snil, .snil, (.int .i64 0)]⟩,
       ⟨none, none, .store 5 (.t 9) (.t 65)⟩])
  (.seq (.any [4] [(⟨(some 66), none, .mv (.t 5)⟩, true),
       (⟨(some 67), none, .mv (.t 66)⟩, true),
       (⟨(some 68), (some (67, true)), .mv (.t 7)⟩, true),
       (⟨(some 69), (some (67, true)), .mv (.t 6)⟩, false),
       (⟨(some 70), (some (67, true)), .nilck (.t 69)⟩, false),
       (⟨(some 71), (some (67, true)), .faddr 0 (.t 70)⟩, false),
       (⟨(some 72), (some (67, true)), .load none (.t 71)⟩, false),
       (⟨(some 73), (some (67, true)), .call (.c (.fn 16)) [(.t 68), (.t 72)]⟩, true),
       (⟨(some 74), none, .pick (.t 67) (.t 73) (.c (.bool false))⟩, true),
       (⟨(some 75), none, .mv (.t 74)⟩, true),
       (⟨(some 76), (some (75, true)), .mv (.t 8)⟩, true),
       (⟨(some 77), (some (75, true)), .mv (.t 6)⟩, false),
       (⟨(some 78), (some (75, true)), .nilck (.t 77)⟩, false),
       (⟨(some 79), (some (75, true)), .faddr 1 (.t 78)⟩, false),
       (⟨(some 80), (some (75, true)), .load none (.t 79)⟩, false),
       (⟨(some 81), (some (75, true)), .call (.c (.fn 16)) [(.t 76), (.t 80)]⟩, true),
       (⟨(some 82), none, .pick (.t 75) (.t 81) (.c (.bool false))⟩, true),
       (⟨(some 83), none, .mv (.t 82)⟩, true),
       (⟨(some 84), (some (83, true)), .load (some 5) (.t 9)⟩, true),
       (⟨(some 85), (some (83, true)), .faddr 0 (.t 2)⟩, false),
       (⟨(some 86), (some (83, true)), .load none (.t 85)⟩, false),
       (⟨(some 87), (some (83, true)), .faddr 3 (.t 2)⟩, false),
       (⟨(some 88), (some (83, true)), .load none (.t 87)⟩, false),
       (⟨(some 89), (some (83, true)), .faddr 2 (.t 2)⟩, false),
       (⟨(some 90), (some (83, true)), .load none (.t 89)⟩, false),
       (⟨(some 91), (some (83, true)), .faddr 4 (.t 2)⟩, false),
       (⟨(some 92), (some (83, true)), .load none (.t 91)⟩, false),
       (⟨(some 93), (some (83, true)), .build [(.int .i64 0), (.int .i64 0), .snil, .snil, (.int .i64 0)] [(0, 1, (.t 86)), (3, 1, (.t 88)), (2, 1, (.t 90)), (4, 1, (.t 92))]⟩, false),
       (⟨(some 94), (some (83, true)), .call (.c (.fn 11)) [(.t 84), (.t 93)]⟩, true),
       (⟨(some 95), none, .pick (.t 83) (.t 94) (.c (.bool false))⟩, true),
       (⟨(some 96), none, .mv (.t 95)⟩, true),
       (⟨(some 97), (some (96, true)), .load (some 5) (.t 2)⟩, true),
       (⟨(some 98), (some (96, true)), .load (some 5) (.t 3)⟩, false),
       (⟨(some 100), (some (96, true)), .load (some 5) (.t 2)⟩, false),
       (⟨(some 101), (some (96, true)), .load (some 5) (.t 3)⟩, false),
       (⟨(some 102), (some (96, true)), .mksl (some 5) [(.t 100), (.t 101)]⟩, false),
       (⟨(some 103), (some (96, true)), .build [(.int .i64 0), (.int .i64 0), .snil, .snil, (.int .i64 0)] [(0, 1, (.c (.int .i64 3))), (2, 1, (.t 102)), (4, 1, (.c (.int .i64 (-1))))]⟩, false),
       (⟨(some 99), (some (96, true)), .call (.c (.fn 17)) [(.t 97), (.t 98)]⟩, false),
       (⟨(some 104), (some (96, true)), .call (.c (.fn 11)) [(.t 99), (.t 103)]⟩, true),
       (⟨(some 105), none, .pick (.t 96) (.t 104) (.c (.bool false))⟩, true),
       (⟨(some 4), none, .mv (.t 105)⟩, true)])
  .ret)))))))))⟩
theorem c3 : compF Tryd.prog [0, 1, 2, 3, 4, 5, 6, 7, 8, 9, 18, 56] Tryd.f3 = some a3 := by kernel_rfl

/- bushel/bushellaw10.TypNames -/
def a4 : AFun := ⟨120, [.tmp 4], (.seq (.reg [2, 4] [⟨(some 2), none, .box (.t 0)⟩,
       ⟨(some 4), none, .mv (.c (.bool false))⟩])
  (.seq (.reg [5] [⟨(some 16), none, .call (.c (.fn 5)) []⟩,
       ⟨(some 5), none, .mv (.t 16)⟩])
  (.seq (.seq (.reg [32] [⟨(some 17), none, .load (some 5) (.t 2)⟩,
        ⟨(some 18), none, .call (.c (.fn 6)) [(.t 17)]⟩,
        ⟨(some 19), none, .bin .lss .other true (.t 18) (.c (.int .i64 0))⟩,
        ⟨(some 20), none, .mv (.t 19)⟩,
        ⟨(some 21), (some (20, false)), .load (some 5) (.t 2)⟩,
        ⟨(some 22), (some (20, false)), .call (.c (.fn 9)) [(.t 21)]⟩,
        ⟨(some 23), (some (20, false)), .un .not (.t 22)⟩,
        ⟨(some 24), none, .pick (.t 20) (.c (.bool true)) (.t 23)⟩,
        ⟨(some 25), none, .mv (.t 24)⟩,
        ⟨(some 26), (some (25, false)), .mv (.t 1)⟩,
        ⟨(some 27), (some (25, false)), .bin .lss .other true (.t 26) (.c (.int .i64 1))⟩,
        ⟨(some 28), none, .pick (.t 25) (.c (.bool true)) (.t 27)⟩,
        ⟨(some 29), none, .mv (.t 28)⟩,
        ⟨(some 30), (some (29, false)), .mv (.t 1)⟩,
        ⟨(some 31), (some (29, false)), .bin .gtr .other true (.t 30) (.c (.int .i64 1000000))⟩,
        ⟨(some 32), none, .pick (.t 29) (.c (.bool true)) (.t 31)⟩])
   (.cond (.t 32) (.seq (.reg [4] [⟨(some 33), none, .mv (.t 5)⟩,
          ⟨(some 4), none, .mv (.t 33)⟩])
     .ret)
   .skip))
  (.seq (.reg [6, 7] [⟨(some 35), none, .load (some 5) (.t 2)⟩,
       ⟨(some 36), none, .call (.c (.fn 18)) [(.t 35), (.c .mnil), (.c .mnil)]⟩,
       ⟨(some 34), none, .mv (.t 36)⟩,
       ⟨(some 37), none, .extract (.t 34) 0⟩,
       ⟨(some 38), none, .extract (.t 34) 1⟩,
       ⟨(some 6), none, .alloc [(.int .i64 0), (.int .i64 0), .snil, .snil, (.int .i64 0)]⟩,
       ⟨none, none, .store 5 (.t 6) (.t 37)⟩,
       ⟨(some 7), none, .mv (.t 38)⟩])
  (.seq (.seq (.reg [40] [⟨(some 39), none, .mv (.t 7)⟩,
        ⟨(some 40), none, .bin .neq .ifc true (.t 39) (.c .inil)⟩])
   (.cond (.t 40) (.seq (.reg [4] [⟨(some 4), none, .mv (.c (.bool false))⟩])
     .ret)
   .skip))
  (.seq (.reg [8, 9] [⟨(some 42), none, .load (some 5) (.t 2)⟩,
       ⟨(some 43), none, .call (.c (.fn 8)) [(.t 42)]⟩,
       ⟨(some 41), none, .mv (.t 43)⟩,
       ⟨(some 44), none, .extract (.t 41) 0⟩,
       ⟨(some 45), none, .extract (.t 41) 1⟩,
       ⟨(some 8), none, .mv (.t 44)⟩,
       ⟨(some 9), none, .mv (.t 45)⟩])
  (.seq (.reg [10] [⟨(some 46), none, .ext .mkmap []⟩,
       ⟨(some 10), none, .mv (.t 46)⟩])
  (.seq (.reg [11] [⟨(some 47), none, .ext .mkmap []⟩,
       ⟨(some 11), none, .mv (.t 47)⟩])
  (.seq (.seq (.reg [12] [⟨(some 12), none, .mv (.c (.int .i64 0))⟩])
   (.block 0 (.loop (.seq (.seq (.reg [51] [⟨(some 48), none, .mv (.t 12)⟩,
           ⟨(some 49), none, .mv (.t 8)⟩,
           ⟨(some 50), none, .len .sl (.t 49)⟩,
           ⟨(some 51), none, .bin .lss .other false (.t 48) (.t 50)⟩])
      (.cond (.t 51) .skip
      (.exit 0)))
     (.seq (.block 1 (.seq (.seq (.reg [58] [⟨(some 54), none, .mv (.t 8)⟩,
             ⟨(some 55), none, .mv (.t 12)⟩,
             ⟨(some 56), none, .iaddr none (.t 54) (.t 55)⟩,
             ⟨(some 57), none, .load none (.t 56)⟩,
             ⟨(some 58), none, .bin .gtr .other true (.t 57) (.c (.int .i64 1000000))⟩])
        (.cond (.t 58) (.seq (.reg [4] [⟨(some 59), none, .mv (.t 5)⟩,
               ⟨(some 4), none, .mv (.t 59)⟩])
          .ret)
        .skip))
       (.any [] [(⟨(some 60), none, .mv (.t 10)⟩, true),
           (⟨(some 61), none, .mv (.t 8)⟩, false),
           (⟨(some 62), none, .mv (.t 12)⟩, false),
           (⟨(some 63), none, .iaddr none (.t 61) (.t 62)⟩, false),
           (⟨(some 64), none, .load none (.t 63)⟩, false),
           (⟨(some 65), none, .mv (.t 8)⟩, false),
           (⟨(some 66), none, .mv (.t 12)⟩, false),
           (⟨(some 67), none, .iaddr none (.t 65) (.t 66)⟩, false),
           (⟨(some 68), none, .load none (.t 67)⟩, false),
           (⟨(some 69), none, .mv (.t 1)⟩, false),
           (⟨(some 70), none, .bin .add .other false (.t 68) (.t 69)⟩, false),
           (⟨(some 71), none, .call (.c (.fn 19)) [(.t 70)]⟩, false),
           (⟨none, none, .ext (.mput (.int .i64)) [(.t 60), (.t 64), (.t 71)]⟩, true)])))
     (.reg [12] [⟨(some 52), none, .mv (.t 12)⟩,
         ⟨(some 53), none, .bin .add .other true (.t 52) (.c (.int .i64 1))⟩,
         ⟨(some 12), none, .mv (.t 53)⟩]))))))
  (.seq (.seq (.reg [13] [⟨(some 13), none, .mv (.c (.int .i64 0))⟩])
   (.block 2 (.loop (.seq (.seq (.reg [75] [⟨(some 72), none, .mv (.t 13)⟩,
           ⟨(some 73), none, .mv (.t 9)⟩,
           ⟨(some 74), none, .len .sl (.t 73)⟩,
           ⟨(some 75), none, .bin .lss .other false (.t 72) (.t 74)⟩])
      (.cond (.t 75) .skip
      (.exit 2)))
     (.seq (.block 3 (.seq (.seq (.reg [82] [⟨(some 78), none, .mv (.t 9)⟩,
             ⟨(some 79), none, .mv (.t 13)⟩,
             ⟨(some 80), none, .iaddr none (.t 78) (.t 79)⟩,
             ⟨(some 81), none, .load none (.t 80)⟩,
             ⟨(some 82), none, .bin .gtr .other true (.t 81) (.c (.int .i64 1000000))⟩])
        (.cond (.t 82) (.seq (.reg [4] [⟨(some 83), none, .mv (.t 5)⟩,
               ⟨(some 4), none, .mv (.t 83)⟩])
          .ret)
        .skip))
       (.any [] [(⟨(some 84), none, .mv (.t 11)⟩, true),
           (⟨(some 85), none, .mv (.t 9)⟩, false),
           (⟨(some 86), none, .mv (.t 13)⟩, false),
           (⟨(some 87), none, .iaddr none (.t 85) (.t 86)⟩, false),
           (⟨(some 88), none, .load none (.t 87)⟩, false),
           (⟨(some 89), none, .mv (.t 9)⟩, false),
           (⟨(some 90), none, .mv (.t 13)⟩, false),
           (⟨(some 91), none, .iaddr none (.t 89) (.t 90)⟩, false),
           (⟨(some 92), none, .load none (.t 91)⟩, false),
           (⟨(some 93), none, .mv (.t 1)⟩, false),
           (⟨(some 94), none, .bin .add .other false (.t 92) (.t 93)⟩, false),
           (⟨(some 95), none, .call (.c (.fn 15)) [(.c (.int .i64 4)), (.c .snil), (.c .snil), (.t 94)]⟩, false),
           (⟨none, none, .ext (.mput (.int .i64)) [(.t 84), (.t 88), (.t 95)]⟩, true)])))
     (.reg [13] [⟨(some 76), none, .mv (.t 13)⟩,
         ⟨(some 77), none, .bin .add .other true (.t 76) (.c (.int .i64 1))⟩,
         ⟨(some 13), none, .mv (.t 77)⟩]))))))
  (.seq (.reg [14, 15] [⟨(some 97), none, .load (some 5) (.t 2)⟩,
       ⟨(some 98), none, .mv (.t 10)⟩,
       ⟨(some 99), none, .mv (.t 11)⟩,
       ⟨(some 100), none, .call (.c (.fn 18)) [(.t 97), (.t 98), (.t 99)]⟩,
       ⟨(some 96), none, .mv (.t 100)⟩,
       ⟨(some 101), none, .extract (.t 96) 0⟩,
       ⟨(some 102), none, .extract (.t 96) 1⟩,
       ⟨(some 14), none, .alloc [(.int .i64 0), (.int .i64 0), .snil, .snil, (.int .i64 0)]⟩,
       ⟨none, none, .store 5 (.t 14) (.t 101)⟩,
       ⟨(some 15), none, .mv (.t 102)⟩])
  (.seq (.any [4] [(⟨(some 103), none, .mv (.t 5)⟩, true),
       (⟨(some 104), none, .mv (.t 103)⟩, true),
       (⟨(some 105), (some (104, true)), .mv (.t 15)⟩, true),
       (⟨(some 106), (some (104, true)), .bin .eql .ifc true (.t 105) (.c .inil)⟩, true),
       (⟨(some 107), none, .pick (.t 104) (.t 106) (.c (.bool false))⟩, true),
       (⟨(some 108), none, .mv (.t 107)⟩, true),
       (⟨(some 109), (some (108, true)), .load (some 5) (.t 6)⟩, true),
       (⟨(some 110), (some (108, true)), .load (some 5) (.t 2)⟩, false),
       (⟨(some 111), (some (108, true)), .call (.c (.fn 11)) [(.t 109), (.t 110)]⟩, true),
       (⟨(some 112), none, .pick (.t 108) (.t 111) (.c (.bool false))⟩, true),
       (⟨(some 113), none, .mv (.t 112)⟩, true),
       (⟨(some 114), (some (113, true)), .load (some 5) (.t 14)⟩, true),
       (⟨(some 116), (some (113, true)), .load (some 5) (.t 2)⟩, false),
       (⟨(some 115), (some (113, true)), .call (.c (.fn 13)) [(.t 114)]⟩, false),
       (⟨(some 117), (some (113, true)), .call (.c (.fn 13)) [(.t 116)]⟩, true),
       (⟨(some 118), (some (113, true)), .bin .eql .other false (.t 115) (.t 117)⟩, true),
       (⟨(some 119), none, .pick (.t 113) (.t 118) (.c (.bool false))⟩, true),
       (⟨(some 4), none, .mv (.t 119)⟩, true)])
  .ret))))))))))))⟩
theorem c4 : compF Tryd.prog [0, 1, 2, 4, 5, 6, 7, 8, 9, 10, 11, 12, 13, 14, 15, 32, 40, 51, 58, 75, 82] Tryd.f4 = some a4 := by kernel_rfl

/- bushel/bushellaw10.up -/
def a5 : AFun := ⟨36, [.tmp 0], (.seq (.reg [0] [⟨(some 0), none, .mv (.c (.bool false))⟩])
  (.seq (.reg [1] [⟨(some 4), none, .call (.c (.fn 19)) [(.c (.int .i64 7))]⟩,
       ⟨(some 5), none, .call (.c (.fn 19)) [(.c (.int .i64 7))]⟩,
       ⟨(some 6), none, .call (.c (.fn 17)) [(.t 4), (.t 5)]⟩,
       ⟨(some 1), none, .alloc [(.int .i64 0), (.int .i64 0), .snil, .snil, (.int .i64 0)]⟩,
       ⟨none, none, .store 5 (.t 1) (.t 6)⟩])
  (.seq (.reg [2, 3] [⟨(some 8), none, .load (some 5) (.t 1)⟩,
       ⟨(some 9), none, .ext .mkmap []⟩,
       ⟨(some 10), none, .build [(.int .i64 0), (.int .i64 0), .snil, .snil, (.int .i64 0)] [(0, 1, (.c (.int .i64 1))), (4, 1, (.c (.int .i64 (-1))))]⟩,
       ⟨none, none, .ext (.mput (.int .i64)) [(.t 9), (.c (.int .i64 7)), (.t 10)]⟩,
       ⟨(some 11), none, .mv (.t 9)⟩,
       ⟨(some 12), none, .call (.c (.fn 18)) [(.t 8), (.t 11), (.c .mnil)]⟩,
       ⟨(some 7), none, .mv (.t 12)⟩,
       ⟨(some 13), none, .extract (.t 7) 0⟩,
       ⟨(some 14), none, .extract (.t 7) 1⟩,
       ⟨(some 2), none, .alloc [(.int .i64 0), (.int .i64 0), .snil, .snil, (.int .i64 0)]⟩,
       ⟨none, none, .store 5 (.t 2) (.t 13)⟩,
       ⟨(some 3), none, .mv (.t 14)⟩])
  (.seq (.reg [0] [⟨(some 15), none, .load (some 5) (.t 1)⟩,
       ⟨(some 16), none, .call (.c (.fn 13)) [(.t 15)]⟩,
       ⟨(some 17), none, .bin .eql .other true (.t 16) (.c (.str [39, 48, 32, 45, 62, 32, 39, 48]))⟩,
       ⟨(some 18), none, .mv (.t 17)⟩,
       ⟨(some 19), (some (18, true)), .load (some 5) (.t 1)⟩,
       ⟨(some 20), (some (18, true)), .call (.c (.fn 9)) [(.t 19)]⟩,
       ⟨(some 21), none, .pick (.t 18) (.t 20) (.c (.bool false))⟩,
       ⟨(some 22), none, .mv (.t 21)⟩,
       ⟨(some 23), (some (22, true)), .build [(.int .i64 0), (.int .i64 0), .snil, .snil, (.int .i64 0)] []⟩,
       ⟨(some 24), (some (22, true)), .call (.c (.fn 9)) [(.t 23)]⟩,
       ⟨(some 25), (some (22, true)), .un .not (.t 24)⟩,
       ⟨(some 26), none, .pick (.t 22) (.t 25) (.c (.bool false))⟩,
       ⟨(some 27), none, .mv (.t 26)⟩,
       ⟨(some 28), (some (27, true)), .mv (.t 3)⟩,
       ⟨(some 29), (some (27, true)), .bin .eql .ifc true (.t 28) (.c .inil)⟩,
       ⟨(some 30), none, .pick (.t 27) (.t 29) (.c (.bool false))⟩,
       ⟨(some 31), none, .mv (.t 30)⟩,
       ⟨(some 32), (some (31, true)), .load (some 5) (.t 2)⟩,
       ⟨(some 33), (some (31, true)), .call (.c (.fn 13)) [(.t 32)]⟩,
       ⟨(some 34), (some (31, true)), .bin .eql .other true (.t 33) (.c (.str [105, 110, 116, 32, 45, 62, 32, 105, 110, 116]))⟩,
       ⟨(some 35), none, .pick (.t 31) (.t 34) (.c (.bool false))⟩,
       ⟨(some 0), none, .mv (.t 35)⟩])
  .ret))))⟩
theorem c5 : compF Tryd.prog [0, 1, 2, 3] Tryd.f5 = some a5 := by kernel_rfl

/- bushel/bushellaw10.Few -/
def a6 : AFun := ⟨5, [.tmp 2], (.seq (.reg [1, 2] [⟨(some 1), none, .box (.t 0)⟩,
       ⟨(some 2), none, .mv (.c (.int .i64 0))⟩])
  (.seq (.reg [2] [⟨(some 3), none, .load (some 5) (.t 1)⟩,
       ⟨(some 4), none, .call (.c (.fn 20)) [(.t 3), (.c (.int .i64 5000))]⟩,
       ⟨(some 2), none, .mv (.t 4)⟩])
  .ret))⟩
theorem c6 : compF Tryd.prog [0, 1, 2] Tryd.f6 = some a6 := by kernel_rfl

/- (*bushel/bushelref10.Names).Meet -/
def a7 : AFun := ⟨77, [], (.seq (.reg [3] [⟨(some 3), none, .box (.t 1)⟩])
  (.seq (.seq (.any [17] [(⟨(some 5), none, .faddr 0 (.t 3)⟩, true),
        (⟨(some 6), none, .load none (.t 5)⟩, true),
        (⟨(some 7), none, .bin .eql .other true (.t 6) (.c (.int .i64 7))⟩, true),
        (⟨(some 8), none, .mv (.t 7)⟩, true),
        (⟨(some 9), (some (8, true)), .mv (.t 0)⟩, true),
        (⟨(some 10), (some (8, true)), .nilck (.t 9)⟩, true),
        (⟨(some 11), (some (8, true)), .faddr 0 (.t 10)⟩, true),
        (⟨(some 12), (some (8, true)), .load none (.t 11)⟩, true),
        (⟨(some 13), (some (8, true)), .faddr 1 (.t 3)⟩, false),
        (⟨(some 14), (some (8, true)), .load none (.t 13)⟩, false),
        (⟨(some 15), (some (8, true)), .call (.c (.fn 21)) [(.t 12), (.t 14)]⟩, true),
        (⟨(some 16), (some (8, true)), .bin .lss .other true (.t 15) (.c (.int .i64 0))⟩, true),
        (⟨(some 17), none, .pick (.t 8) (.t 16) (.c (.bool false))⟩, true)])
   (.cond (.t 17) (.any [] [(⟨(some 18), none, .mv (.t 0)⟩, true),
         (⟨(some 19), none, .mv (.t 0)⟩, false),
         (⟨(some 20), none, .nilck (.t 19)⟩, false),
         (⟨(some 21), none, .faddr 0 (.t 20)⟩, false),
         (⟨(some 22), none, .load none (.t 21)⟩, false),
         (⟨(some 23), none, .faddr 1 (.t 3)⟩, false),
         (⟨(some 24), none, .load none (.t 23)⟩, false),
         (⟨(some 25), none, .mksl none [(.t 24)]⟩, false),
         (⟨(some 26), none, .append none 8 (.t 22) (.t 25)⟩, false),
         (⟨(some 27), none, .nilck (.t 18)⟩, true),
         (⟨(some 28), none, .faddr 0 (.t 27)⟩, true),
         (⟨none, none, .store 1 (.t 28) (.t 26)⟩, true)])
   .skip))
  (.seq (.seq (.reg [4] [⟨(some 4), none, .mv (.c (.int .i64 0))⟩])
   (.block 0 (.loop (.seq (.seq (.reg [33] [⟨(some 29), none, .mv (.t 4)⟩,
           ⟨(some 30), none, .faddr 2 (.t 3)⟩,
           ⟨(some 31), none, .load none (.t 30)⟩,
           ⟨(some 32), none, .len .sl (.t 31)⟩,
           ⟨(some 33), none, .bin .lss .other false (.t 29) (.t 32)⟩])
      (.cond (.t 33) .skip
      (.exit 0)))
     (.seq (.block 1 (.reg [] [⟨(some 36), none, .mv (.t 0)⟩,
           ⟨(some 37), none, .faddr 2 (.t 3)⟩,
           ⟨(some 38), none, .load none (.t 37)⟩,
           ⟨(some 39), none, .mv (.t 4)⟩,
           ⟨(some 40), none, .iaddr (some 5) (.t 38) (.t 39)⟩,
           ⟨(some 41), none, .load (some 5) (.t 40)⟩,
           ⟨(some 42), none, .call (.c (.fn 7)) [(.t 36), (.t 41)]⟩]))
     (.reg [4] [⟨(some 34), none, .mv (.t 4)⟩,
         ⟨(some 35), none, .bin .add .other true (.t 34) (.c (.int .i64 1))⟩,
         ⟨(some 4), none, .mv (.t 35)⟩]))))))
  (.seq (.any [65] [(⟨(some 43), none, .faddr 0 (.t 3)⟩, true),
       (⟨(some 44), none, .load none (.t 43)⟩, true),
       (⟨(some 45), none, .bin .eql .other true (.t 44) (.c (.int .i64 4))⟩, true),
       (⟨(some 46), none, .mv (.t 45)⟩, true),
       (⟨(some 47), (some (46, false)), .faddr 0 (.t 3)⟩, true),
       (⟨(some 48), (some (46, false)), .load none (.t 47)⟩, true),
       (⟨(some 49), (some (46, false)), .bin .eql .other true (.t 48) (.c (.int .i64 5))⟩, true),
       (⟨(some 50), none, .pick (.t 46) (.c (.bool true)) (.t 49)⟩, true),
       (⟨(some 51), none, .mv (.t 50)⟩, true),
       (⟨(some 52), (some (51, true)), .faddr 4 (.t 3)⟩, true),
       (⟨(some 53), (some (51, true)), .load none (.t 52)⟩, true),
       (⟨(some 54), (some (51, true)), .bin .geq .other true (.t 53) (.c (.int .i64 0))⟩, true),
       (⟨(some 55), none, .pick (.t 51) (.t 54) (.c (.bool false))⟩, true),
       (⟨(some 56), none, .mv (.t 55)⟩, true),
       (⟨(some 57), (some (56, true)), .mv (.t 0)⟩, true),
       (⟨(some 58), (some (56, true)), .nilck (.t 57)⟩, true),
       (⟨(some 59), (some (56, true)), .faddr 1 (.t 58)⟩, true),
       (⟨(some 60), (some (56, true)), .load none (.t 59)⟩, true),
       (⟨(some 61), (some (56, true)), .faddr 4 (.t 3)⟩, false),
       (⟨(some 62), (some (56, true)), .load none (.t 61)⟩, false),
       (⟨(some 63), (some (56, true)), .call (.c (.fn 21)) [(.t 60), (.t 62)]⟩, true),
       (⟨(some 64), (some (56, true)), .bin .lss .other true (.t 63) (.c (.int .i64 0))⟩, true),
       (⟨(some 65), none, .pick (.t 56) (.t 64) (.c (.bool false))⟩, true)])
  (.cond (.t 65) (.any [] [(⟨(some 66), none, .mv (.t 0)⟩, true),
        (⟨(some 67), none, .mv (.t 0)⟩, false),
        (⟨(some 68), none, .nilck (.t 67)⟩, false),
        (⟨(some 69), none, .faddr 1 (.t 68)⟩, false),
        (⟨(some 70), none, .load none (.t 69)⟩, false),
        (⟨(some 71), none, .faddr 4 (.t 3)⟩, false),
        (⟨(some 72), none, .load none (.t 71)⟩, false),
        (⟨(some 73), none, .mksl none [(.t 72)]⟩, false),
        (⟨(some 74), none, .append none 8 (.t 70) (.t 73)⟩, false),
        (⟨(some 75), none, .nilck (.t 66)⟩, true),
        (⟨(some 76), none, .faddr 1 (.t 75)⟩, true),
        (⟨none, none, .store 1 (.t 76) (.t 74)⟩, true)])
  .skip)))))⟩
theorem c7 : compF Tryd.prog [0, 1, 3, 4, 17, 33, 65] Tryd.f7 = some a7 := by kernel_rfl

/- bushel/typ.Vars -/
def a8 : AFun := ⟨15, [.tmp 2, .tmp 3], (.seq (.reg [1, 2, 3] [⟨(some 1), none, .box (.t 0)⟩,
       ⟨(some 2), none, .mv (.c .snil)⟩,
       ⟨(some 3), none, .mv (.c .snil)⟩])
  (.seq (.reg [4, 5] [⟨(some 4), none, .alloc [.snil]⟩,
       ⟨(some 5), none, .alloc [.snil]⟩])
  (.seq (.reg [6] [⟨(some 6), none, .mv (.c (.fn 22))⟩])
  (.seq (.any [] [(⟨(some 7), none, .load (some 5) (.t 1)⟩, true),
       (⟨(some 8), none, .mv (.t 6)⟩, false),
       (⟨(some 10), none, .mv (.t 6)⟩, false),
       (⟨(some 9), none, .call (.t 8) [(.t 4)]⟩, false),
       (⟨(some 11), none, .call (.t 10) [(.t 5)]⟩, false),
       (⟨(some 12), none, .call (.c (.fn 25)) [(.t 7), (.t 9), (.t 11)]⟩, true)])
  (.seq (.any [2, 3] [(⟨(some 13), none, .load none (.t 4)⟩, true),
       (⟨(some 14), none, .load none (.t 5)⟩, false),
       (⟨(some 2), none, .mv (.t 13)⟩, false),
       (⟨(some 3), none, .mv (.t 14)⟩, true)])
  .ret)))))⟩
theorem c8 : compF Tryd.prog [0, 1, 2, 3, 4, 5, 6] Tryd.f8 = some a8 := by kernel_rfl

/- bushel/typ.May -/
def a9 : AFun := ⟨6, [.tmp 2], (.seq (.reg [1, 2] [⟨(some 1), none, .box (.t 0)⟩,
       ⟨(some 2), none, .mv (.c (.bool false))⟩])
  (.seq (.reg [3] [⟨(some 3), none, .alloc [(.int .i64 0)]⟩,
       ⟨none, none, .store 1 (.t 3) (.c (.int .i64 0))⟩])
  (.seq (.reg [2] [⟨(some 4), none, .load (some 5) (.t 1)⟩,
       ⟨(some 5), none, .call (.c (.fn 26)) [(.t 4), (.t 3)]⟩,
       ⟨(some 2), none, .mv (.t 5)⟩])
  .ret)))⟩
theorem c9 : compF Tryd.prog [0, 1, 2, 3] Tryd.f9 = some a9 := by kernel_rfl

/- bushel/bushelref10.May -/
def a10 : AFun := ⟨10, [.tmp 2], (.seq (.reg [1, 2] [⟨(some 1), none, .box (.t 0)⟩,
       ⟨(some 2), none, .mv (.c (.bool false))⟩])
  (.seq (.reg [2] [⟨(some 3), none, .load (some 5) (.t 1)⟩,
       ⟨(some 4), none, .call (.c (.fn 27)) [(.t 3)]⟩,
       ⟨(some 5), none, .mv (.t 4)⟩,
       ⟨(some 6), (some (5, true)), .load (some 5) (.t 1)⟩,
       ⟨(some 7), (some (5, true)), .call (.c (.fn 28)) [(.t 6)]⟩,
       ⟨(some 8), (some (5, true)), .bin .leq .other true (.t 7) (.c (.int .i64 4000))⟩,
       ⟨(some 9), none, .pick (.t 5) (.t 8) (.c (.bool false))⟩,
       ⟨(some 2), none, .mv (.t 9)⟩])
  .ret))⟩
theorem c10 : compF Tryd.prog [0, 1, 2] Tryd.f10 = some a10 := by kernel_rfl

/- bushel/typ.Same -/
def a11 : AFun := ⟨38, [.tmp 4], (.seq (.reg [2, 3, 4] [⟨(some 2), none, .box (.t 0)⟩,
       ⟨(some 3), none, .box (.t 1)⟩,
       ⟨(some 4), none, .mv (.c (.bool false))⟩])
  (.seq (.reg [4] [⟨(some 5), none, .faddr 0 (.t 2)⟩,
       ⟨(some 6), none, .load none (.t 5)⟩,
       ⟨(some 7), none, .faddr 0 (.t 3)⟩,
       ⟨(some 8), none, .load none (.t 7)⟩,
       ⟨(some 9), none, .bin .eql .other false (.t 6) (.t 8)⟩,
       ⟨(some 10), none, .mv (.t 9)⟩,
       ⟨(some 11), (some (10, true)), .faddr 1 (.t 2)⟩,
       ⟨(some 12), (some (10, true)), .load none (.t 11)⟩,
       ⟨(some 13), (some (10, true)), .faddr 1 (.t 3)⟩,
       ⟨(some 14), (some (10, true)), .load none (.t 13)⟩,
       ⟨(some 15), (some (10, true)), .bin .eql .other false (.t 12) (.t 14)⟩,
       ⟨(some 16), none, .pick (.t 10) (.t 15) (.c (.bool false))⟩,
       ⟨(some 17), none, .mv (.t 16)⟩,
       ⟨(some 18), (some (17, true)), .faddr 4 (.t 2)⟩,
       ⟨(some 19), (some (17, true)), .load none (.t 18)⟩,
       ⟨(some 20), (some (17, true)), .faddr 4 (.t 3)⟩,
       ⟨(some 21), (some (17, true)), .load none (.t 20)⟩,
       ⟨(some 22), (some (17, true)), .bin .eql .other false (.t 19) (.t 21)⟩,
       ⟨(some 23), none, .pick (.t 17) (.t 22) (.c (.bool false))⟩,
       ⟨(some 24), none, .mv (.t 23)⟩,
       ⟨(some 25), (some (24, true)), .faddr 3 (.t 2)⟩,
       ⟨(some 26), (some (24, true)), .load none (.t 25)⟩,
       ⟨(some 27), (some (24, true)), .faddr 3 (.t 3)⟩,
       ⟨(some 28), (some (24, true)), .load none (.t 27)⟩,
       ⟨(some 29), (some (24, true)), .call (.c (.fn 29)) [(.t 26), (.t 28)]⟩,
       ⟨(some 30), none, .pick (.t 24) (.t 29) (.c (.bool false))⟩,
       ⟨(some 31), none, .mv (.t 30)⟩,
       ⟨(some 32), (some (31, true)), .faddr 2 (.t 2)⟩,
       ⟨(some 33), (some (31, true)), .load none (.t 32)⟩,
       ⟨(some 34), (some (31, true)), .faddr 2 (.t 3)⟩,
       ⟨(some 35), (some (31, true)), .load none (.t 34)⟩,
       ⟨(some 36), (some (31, true)), .call (.c (.fn 30)) [(.t 33), (.t 35), (.c (.fn 11))]⟩,
       ⟨(some 37), none, .pick (.t 31) (.t 36) (.c (.bool false))⟩,
       ⟨(some 4), none, .mv (.t 37)⟩])
  .ret))⟩
theorem c11 : compF Tryd.prog [0, 1, 2, 3, 4] Tryd.f11 = some a11 := by kernel_rfl

/- bushel/bushelref10.Same -/
def a12 : AFun := ⟨65, [.tmp 4], (.seq (.reg [2, 3, 4] [⟨(some 2), none, .box (.t 0)⟩,
       ⟨(some 3), none, .box (.t 1)⟩,
       ⟨(some 4), none, .mv (.c (.bool false))⟩])
  (.seq (.reg [5] [⟨(some 8), none, .faddr 3 (.t 2)⟩,
       ⟨(some 9), none, .load none (.t 8)⟩,
       ⟨(some 10), none, .faddr 3 (.t 3)⟩,
       ⟨(some 11), none, .load none (.t 10)⟩,
       ⟨(some 12), none, .call (.c (.fn 31)) [(.t 9), (.t 11)]⟩,
       ⟨(some 5), none, .mv (.t 12)⟩])
  (.seq (.seq (.reg [44] [⟨(some 13), none, .faddr 0 (.t 2)⟩,
        ⟨(some 14), none, .load none (.t 13)⟩,
        ⟨(some 15), none, .faddr 0 (.t 3)⟩,
        ⟨(some 16), none, .load none (.t 15)⟩,
        ⟨(some 17), none, .bin .neq .other false (.t 14) (.t 16)⟩,
        ⟨(some 18), none, .mv (.t 17)⟩,
        ⟨(some 19), (some (18, false)), .faddr 1 (.t 2)⟩,
        ⟨(some 20), (some (18, false)), .load none (.t 19)⟩,
        ⟨(some 21), (some (18, false)), .faddr 1 (.t 3)⟩,
        ⟨(some 22), (some (18, false)), .load none (.t 21)⟩,
        ⟨(some 23), (some (18, false)), .bin .neq .other false (.t 20) (.t 22)⟩,
        ⟨(some 24), none, .pick (.t 18) (.c (.bool true)) (.t 23)⟩,
        ⟨(some 25), none, .mv (.t 24)⟩,
        ⟨(some 26), (some (25, false)), .faddr 4 (.t 2)⟩,
        ⟨(some 27), (some (25, false)), .load none (.t 26)⟩,
        ⟨(some 28), (some (25, false)), .faddr 4 (.t 3)⟩,
        ⟨(some 29), (some (25, false)), .load none (.t 28)⟩,
        ⟨(some 30), (some (25, false)), .bin .neq .other false (.t 27) (.t 29)⟩,
        ⟨(some 31), none, .pick (.t 25) (.c (.bool true)) (.t 30)⟩,
        ⟨(some 32), none, .mv (.t 31)⟩,
        ⟨(some 33), (some (32, false)), .mv (.t 5)⟩,
        ⟨(some 34), (some (32, false)), .un .not (.t 33)⟩,
        ⟨(some 35), none, .pick (.t 32) (.c (.bool true)) (.t 34)⟩,
        ⟨(some 36), none, .mv (.t 35)⟩,
        ⟨(some 37), (some (36, false)), .faddr 2 (.t 2)⟩,
        ⟨(some 38), (some (36, false)), .load none (.t 37)⟩,
        ⟨(some 39), (some (36, false)), .len .sl (.t 38)⟩,
        ⟨(some 40), (some (36, false)), .faddr 2 (.t 3)⟩,
        ⟨(some 41), (some (36, false)), .load none (.t 40)⟩,
        ⟨(some 42), (some (36, false)), .len .sl (.t 41)⟩,
        ⟨(some 43), (some (36, false)), .bin .neq .other false (.t 39) (.t 42)⟩,
        ⟨(some 44), none, .pick (.t 36) (.c (.bool true)) (.t 43)⟩])
   (.cond (.t 44) (.seq (.reg [4] [⟨(some 4), none, .mv (.c (.bool false))⟩])
     .ret)
   .skip))
  (.seq (.seq (.reg [6] [⟨(some 6), none, .mv (.c (.int .i64 0))⟩])
   (.block 0 (.loop (.seq (.seq (.reg [49] [⟨(some 45), none, .mv (.t 6)⟩,
           ⟨(some 46), none, .faddr 2 (.t 2)⟩,
           ⟨(some 47), none, .load none (.t 46)⟩,
           ⟨(some 48), none, .len .sl (.t 47)⟩,
           ⟨(some 49), none, .bin .lss .other false (.t 45) (.t 48)⟩])
      (.cond (.t 49) .skip
      (.exit 0)))
     (.seq (.block 1 (.seq (.any [7] [(⟨(some 52), none, .faddr 2 (.t 2)⟩, true),
            (⟨(some 53), none, .load none (.t 52)⟩, true),
            (⟨(some 54), none, .mv (.t 6)⟩, false),
            (⟨(some 55), none, .iaddr (some 5) (.t 53) (.t 54)⟩, true),
            (⟨(some 56), none, .load (some 5) (.t 55)⟩, true),
            (⟨(some 57), none, .faddr 2 (.t 3)⟩, false),
            (⟨(some 58), none, .load none (.t 57)⟩, false),
            (⟨(some 59), none, .mv (.t 6)⟩, false),
            (⟨(some 60), none, .iaddr (some 5) (.t 58) (.t 59)⟩, false),
            (⟨(some 61), none, .load (some 5) (.t 60)⟩, false),
            (⟨(some 62), none, .call (.c (.fn 12)) [(.t 56), (.t 61)]⟩, true),
            (⟨(some 7), none, .mv (.t 62)⟩, true)])
       (.seq (.reg [64] [⟨(some 63), none, .mv (.t 7)⟩,
            ⟨(some 64), none, .un .not (.t 63)⟩])
       (.cond (.t 64) (.seq (.reg [4] [⟨(some 4), none, .mv (.c (.bool false))⟩])
         .ret)
       .skip))))
     (.reg [6] [⟨(some 50), none, .mv (.t 6)⟩,
         ⟨(some 51), none, .bin .add .other true (.t 50) (.c (.int .i64 1))⟩,
         ⟨(some 6), none, .mv (.t 51)⟩]))))))
  (.seq (.reg [4] [⟨(some 4), none, .mv (.c (.bool true))⟩])
  .ret)))))⟩
theorem c12 : compF Tryd.prog [0, 1, 2, 3, 4, 5, 6, 7, 44, 49, 64] Tryd.f12 = some a12 := by kernel_rfl

/- bushel/typ.Text -/
def a13 : AFun := ⟨18, [.tmp 2], (.seq (.reg [1, 2] [⟨(some 1), none, .box (.t 0)⟩,
       ⟨(some 2), none, .mv (.c (.str []))⟩])
  (.seq (.seq (.reg [7] [⟨(some 5), none, .load (some 5) (.t 1)⟩,
        ⟨(some 6), none, .call (.c (.fn 9)) [(.t 5)]⟩,
        ⟨(some 7), none, .un .not (.t 6)⟩])
   (.cond (.t 7) (.seq (.reg [2] [⟨(some 2), none, .mv (.c (.str []))⟩])
     .ret)
   .skip))
  (.seq (.reg [3, 4] [⟨(some 9), none, .load (some 5) (.t 1)⟩,
       ⟨(some 10), none, .call (.c (.fn 8)) [(.t 9)]⟩,
       ⟨(some 8), none, .mv (.t 10)⟩,
       ⟨(some 11), none, .extract (.t 8) 0⟩,
       ⟨(some 12), none, .extract (.t 8) 1⟩,
       ⟨(some 3), none, .mv (.t 11)⟩,
       ⟨(some 4), none, .mv (.t 12)⟩])
  (.seq (.reg [2] [⟨(some 13), none, .mv (.t 3)⟩,
       ⟨(some 14), none, .mv (.t 4)⟩,
       ⟨(some 15), none, .build [.snil, .snil] [(0, 1, (.t 13)), (1, 1, (.t 14))]⟩,
       ⟨(some 16), none, .load (some 5) (.t 1)⟩,
       ⟨(some 17), none, .call (.c (.fn 32)) [(.t 15), (.t 16)]⟩,
       ⟨(some 2), none, .mv (.t 17)⟩])
  .ret))))⟩
theorem c13 : compF Tryd.prog [0, 1, 2, 3, 4, 7] Tryd.f13 = some a13 := by kernel_rfl

/- bushel/bushelref10.Text -/
def a14 : AFun := ⟨17, [.tmp 2], (.seq (.reg [1, 2] [⟨(some 1), none, .box (.t 0)⟩,
       ⟨(some 2), none, .mv (.c (.str []))⟩])
  (.seq (.reg [3] [⟨(some 5), none, .load (some 5) (.t 1)⟩,
       ⟨(some 6), none, .call (.c (.fn 10)) [(.t 5)]⟩,
       ⟨(some 3), none, .mv (.t 6)⟩])
  (.seq (.seq (.reg [8] [⟨(some 7), none, .mv (.t 3)⟩,
        ⟨(some 8), none, .un .not (.t 7)⟩])
   (.cond (.t 8) (.seq (.reg [2] [⟨(some 2), none, .mv (.c (.str []))⟩])
     .ret)
   .skip))
  (.seq (.reg [4] [⟨(some 9), none, .build [.snil, .snil] []⟩,
       ⟨(some 10), none, .box (.t 9)⟩,
       ⟨(some 4), none, .mv (.t 10)⟩])
  (.seq (.reg [] [⟨(some 11), none, .mv (.t 4)⟩,
       ⟨(some 12), none, .load (some 5) (.t 1)⟩,
       ⟨(some 13), none, .call (.c (.fn 7)) [(.t 11), (.t 12)]⟩])
  (.seq (.reg [2] [⟨(some 14), none, .mv (.t 4)⟩,
       ⟨(some 15), none, .load (some 5) (.t 1)⟩,
       ⟨(some 16), none, .call (.c (.fn 33)) [(.t 14), (.t 15)]⟩,
       ⟨(some 2), none, .mv (.t 16)⟩])
  .ret))))))⟩
theorem c14 : compF Tryd.prog [0, 1, 2, 3, 4, 8] Tryd.f14 = some a14 := by kernel_rfl

/- bushel/typ.Row -/
def a15 : AFun := ⟨16, [.cell 8 (some 5)], (.seq (.reg [8] [⟨(some 8), none, .alloc [(.int .i64 0), (.int .i64 0), .snil, .snil, (.int .i64 0)]⟩])
  (.seq (.reg [] [⟨(some 9), none, .mv (.t 0)⟩,
       ⟨(some 10), none, .mv (.t 1)⟩,
       ⟨(some 11), none, .call (.c (.fn 34)) [(.t 10)]⟩,
       ⟨(some 12), none, .mv (.t 2)⟩,
       ⟨(some 13), none, .call (.c (.fn 35)) [(.t 12)]⟩,
       ⟨(some 14), none, .mv (.t 3)⟩,
       ⟨(some 15), none, .build [(.int .i64 0), (.int .i64 0), .snil, .snil, (.int .i64 0)] [(0, 1, (.t 9)), (3, 1, (.t 11)), (2, 1, (.t 13)), (4, 1, (.t 14))]⟩,
       ⟨none, none, .store 5 (.t 8) (.t 15)⟩])
  .ret))⟩
theorem c15 : compF Tryd.prog [0, 1, 2, 3, 8] Tryd.f15 = some a15 := by kernel_rfl

/- bushel/bushellaw10.same -/
def a16 : AFun := ⟨26, [.tmp 4], (.seq (.reg [4] [⟨(some 4), none, .mv (.c (.bool false))⟩])
  (.seq (.seq (.reg [10] [⟨(some 6), none, .mv (.t 0)⟩,
        ⟨(some 7), none, .len .sl (.t 6)⟩,
        ⟨(some 8), none, .mv (.t 1)⟩,
        ⟨(some 9), none, .len .sl (.t 8)⟩,
        ⟨(some 10), none, .bin .neq .other false (.t 7) (.t 9)⟩])
   (.cond (.t 10) (.seq (.reg [4] [⟨(some 4), none, .mv (.c (.bool false))⟩])
     .ret)
   .skip))
  (.seq (.seq (.reg [5] [⟨(some 5), none, .mv (.c (.int .i64 0))⟩])
   (.block 0 (.loop (.seq (.seq (.reg [14] [⟨(some 11), none, .mv (.t 5)⟩,
           ⟨(some 12), none, .mv (.t 0)⟩,
           ⟨(some 13), none, .len .sl (.t 12)⟩,
           ⟨(some 14), none, .bin .lss .other false (.t 11) (.t 13)⟩])
      (.cond (.t 14) .skip
      (.exit 0)))
     (.seq (.block 1 (.seq (.any [25] [(⟨(some 17), none, .mv (.t 0)⟩, true),
            (⟨(some 18), none, .mv (.t 5)⟩, false),
            (⟨(some 19), none, .iaddr none (.t 17) (.t 18)⟩, true),
            (⟨(some 20), none, .load none (.t 19)⟩, true),
            (⟨(some 21), none, .mv (.t 1)⟩, false),
            (⟨(some 22), none, .mv (.t 5)⟩, false),
            (⟨(some 23), none, .iaddr none (.t 21) (.t 22)⟩, false),
            (⟨(some 24), none, .load none (.t 23)⟩, false),
            (⟨(some 25), none, .bin .neq .other false (.t 20) (.t 24)⟩, true)])
       (.cond (.t 25) (.seq (.reg [4] [⟨(some 4), none, .mv (.c (.bool false))⟩])
         .ret)
       .skip)))
     (.reg [5] [⟨(some 15), none, .mv (.t 5)⟩,
         ⟨(some 16), none, .bin .add .other true (.t 15) (.c (.int .i64 1))⟩,
         ⟨(some 5), none, .mv (.t 16)⟩]))))))
  (.seq (.reg [4] [⟨(some 4), none, .mv (.c (.bool true))⟩])
  .ret))))⟩
theorem c16 : compF Tryd.prog [0, 1, 4, 5, 10, 14, 25] Tryd.f16 = some a16 := by kernel_rfl

/- bushel/typ.Fn -/
def a17 : AFun := ⟨9, [.cell 4 (some 5)], (.seq (.reg [2, 3, 4] [⟨(some 2), none, .box (.t 0)⟩,
       ⟨(some 3), none, .box (.t 1)⟩,
       ⟨(some 4), none, .alloc [(.int .i64 0), (.int .i64 0), .snil, .snil, (.int .i64 0)]⟩])
  (.seq (.reg [] [⟨(some 5), none, .load (some 5) (.t 2)⟩,
       ⟨(some 6), none, .load (some 5) (.t 3)⟩,
       ⟨(some 7), none, .mksl (some 5) [(.t 5), (.t 6)]⟩,
       ⟨(some 8), none, .build [(.int .i64 0), (.int .i64 0), .snil, .snil, (.int .i64 0)] [(0, 1, (.c (.int .i64 3))), (2, 1, (.t 7)), (4, 1, (.c (.int .i64 (-1))))]⟩,
       ⟨none, none, .store 5 (.t 4) (.t 8)⟩])
  .ret))⟩
theorem c17 : compF Tryd.prog [0, 1, 2, 3, 4] Tryd.f17 = some a17 := by kernel_rfl

/- bushel/typ.Put -/
def a18 : AFun := ⟨66, [.cell 6 (some 5), .tmp 7], (.seq (.reg [3, 6, 7] [⟨(some 3), none, .box (.t 0)⟩,
       ⟨(some 6), none, .alloc [(.int .i64 0), (.int .i64 0), .snil, .snil, (.int .i64 0)]⟩,
       ⟨(some 7), none, .mv (.c .inil)⟩])
  (.seq (.seq (.reg [16] [⟨(some 14), none, .load (some 5) (.t 3)⟩,
        ⟨(some 15), none, .call (.c (.fn 9)) [(.t 14)]⟩,
        ⟨(some 16), none, .un .not (.t 15)⟩])
   (.cond (.t 16) (.seq (.reg [7] [⟨(some 17), none, .build [(.int .i64 0), (.int .i64 0), .snil, .snil, (.int .i64 0)] []⟩,
          ⟨(some 18), none, .mkif 63 (.c (.int .i64 1))⟩,
          ⟨none, none, .store 5 (.t 6) (.t 17)⟩,
          ⟨(some 7), none, .mv (.t 18)⟩])
     .ret)
   .skip))
  (.seq (.seq (.reg [20] [⟨(some 19), none, .mv (.t 1)⟩,
        ⟨(some 20), none, .ext .mrange [(.t 19)]⟩])
   (.block 0 (.loop (.seq (.reg [22] [⟨(some 21), none, .ext .mnext [(.t 20)]⟩,
          ⟨(some 22), none, .extract (.t 21) 0⟩])
     (.seq (.cond (.t 22) .skip
      (.exit 0))
     (.block 1 (.seq (.reg [9] [⟨(some 23), none, .ext .mentry [(.t 20)]⟩,
           ⟨(some 24), none, .extract (.t 23) 1⟩,
           ⟨(some 9), none, .alloc [(.int .i64 0), (.int .i64 0), .snil, .snil, (.int .i64 0)]⟩,
           ⟨none, none, .store 5 (.t 9) (.t 24)⟩])
      (.seq (.reg [27] [⟨(some 25), none, .load (some 5) (.t 9)⟩,
           ⟨(some 26), none, .call (.c (.fn 9)) [(.t 25)]⟩,
           ⟨(some 27), none, .un .not (.t 26)⟩])
      (.cond (.t 27) (.seq (.reg [7] [⟨(some 28), none, .build [(.int .i64 0), (.int .i64 0), .snil, .snil, (.int .i64 0)] []⟩,
             ⟨(some 29), none, .mkif 63 (.c (.int .i64 1))⟩,
             ⟨none, none, .store 5 (.t 6) (.t 28)⟩,
             ⟨(some 7), none, .mv (.t 29)⟩])
        .ret)
      .skip)))))))))
  (.seq (.seq (.reg [31] [⟨(some 30), none, .mv (.t 2)⟩,
        ⟨(some 31), none, .ext .mrange [(.t 30)]⟩])
   (.block 2 (.loop (.seq (.reg [33] [⟨(some 32), none, .ext .mnext [(.t 31)]⟩,
          ⟨(some 33), none, .extract (.t 32) 0⟩])
     (.seq (.cond (.t 33) .skip
      (.exit 2))
     (.block 3 (.seq (.reg [11] [⟨(some 34), none, .ext .mentry [(.t 31)]⟩,
           ⟨(some 35), none, .extract (.t 34) 1⟩,
           ⟨(some 11), none, .alloc [(.int .i64 0), (.int .i64 0), .snil, .snil, (.int .i64 0)]⟩,
           ⟨none, none, .store 5 (.t 11) (.t 35)⟩])
      (.seq (.reg [43] [⟨(some 36), none, .load (some 5) (.t 11)⟩,
           ⟨(some 37), none, .call (.c (.fn 9)) [(.t 36)]⟩,
           ⟨(some 38), none, .un .not (.t 37)⟩,
           ⟨(some 39), none, .mv (.t 38)⟩,
           ⟨(some 40), (some (39, false)), .faddr 0 (.t 11)⟩,
           ⟨(some 41), (some (39, false)), .load none (.t 40)⟩,
           ⟨(some 42), (some (39, false)), .bin .neq .other true (.t 41) (.c (.int .i64 4))⟩,
           ⟨(some 43), none, .pick (.t 39) (.c (.bool true)) (.t 42)⟩])
      (.cond (.t 43) (.seq (.reg [7] [⟨(some 44), none, .build [(.int .i64 0), (.int .i64 0), .snil, .snil, (.int .i64 0)] []⟩,
             ⟨(some 45), none, .mkif 63 (.c (.int .i64 1))⟩,
             ⟨none, none, .store 5 (.t 6) (.t 44)⟩,
             ⟨(some 7), none, .mv (.t 45)⟩])
        .ret)
      .skip)))))))))
  (.seq (.reg [12] [⟨(some 46), none, .mv (.t 1)⟩,
       ⟨(some 47), none, .mv (.t 2)⟩,
       ⟨(some 48), none, .build [.mnil, .mnil, (.bool false)] [(0, 1, (.t 46)), (1, 1, (.t 47))]⟩,
       ⟨(some 49), none, .box (.t 48)⟩,
       ⟨(some 12), none, .mv (.t 49)⟩])
  (.seq (.seq (.reg [53] [⟨(some 50), none, .mv (.t 12)⟩,
        ⟨(some 51), none, .load (some 5) (.t 3)⟩,
        ⟨(some 52), none, .call (.c (.fn 36)) [(.t 50), (.t 51)]⟩,
        ⟨(some 53), none, .bin .gtr .other true (.t 52) (.c (.int .i64 4000))⟩])
   (.cond (.t 53) (.seq (.reg [7] [⟨(some 54), none, .build [(.int .i64 0), (.int .i64 0), .snil, .snil, (.int .i64 0)] []⟩,
          ⟨(some 55), none, .mkif 63 (.c (.int .i64 6))⟩,
          ⟨none, none, .store 5 (.t 6) (.t 54)⟩,
          ⟨(some 7), none, .mv (.t 55)⟩])
     .ret)
   .skip))
  (.seq (.reg [13] [⟨(some 56), none, .mv (.t 12)⟩,
       ⟨(some 57), none, .load (some 5) (.t 3)⟩,
       ⟨(some 58), none, .call (.c (.fn 37)) [(.t 56), (.t 57)]⟩,
       ⟨(some 13), none, .alloc [(.int .i64 0), (.int .i64 0), .snil, .snil, (.int .i64 0)]⟩,
       ⟨none, none, .store 5 (.t 13) (.t 58)⟩])
  (.seq (.seq (.reg [62] [⟨(some 59), none, .mv (.t 12)⟩,
        ⟨(some 60), none, .nilck (.t 59)⟩,
        ⟨(some 61), none, .faddr 2 (.t 60)⟩,
        ⟨(some 62), none, .load none (.t 61)⟩])
   (.cond (.t 62) (.seq (.reg [7] [⟨(some 63), none, .build [(.int .i64 0), (.int .i64 0), .snil, .snil, (.int .i64 0)] []⟩,
          ⟨(some 64), none, .mkif 63 (.c (.int .i64 5))⟩,
          ⟨none, none, .store 5 (.t 6) (.t 63)⟩,
          ⟨(some 7), none, .mv (.t 64)⟩])
     .ret)
   .skip))
  (.seq (.reg [7] [⟨(some 65), none, .load (some 5) (.t 13)⟩,
       ⟨none, none, .store 5 (.t 6) (.t 65)⟩,
       ⟨(some 7), none, .mv (.c .inil)⟩])
  .ret)))))))))⟩
theorem c18 : compF Tryd.prog [0, 1, 2, 3, 6, 7, 9, 11, 12, 13, 16, 20, 22, 27, 31, 33, 43, 53, 62] Tryd.f18 = some a18 := by kernel_rfl

/- bushel/typ.Var -/
def a19 : AFun := ⟨5, [.cell 2 (some 5)], (.seq (.reg [2] [⟨(some 2), none, .alloc [(.int .i64 0), (.int .i64 0), .snil, .snil, (.int .i64 0)]⟩])
  (.seq (.reg [] [⟨(some 3), none, .mv (.t 0)⟩,
       ⟨(some 4), none, .build [(.int .i64 0), (.int .i64 0), .snil, .snil, (.int .i64 0)] [(0, 1, (.c (.int .i64 7))), (1, 1, (.t 3)), (4, 1, (.c (.int .i64 (-1))))]⟩,
       ⟨none, none, .store 5 (.t 2) (.t 4)⟩])
  .ret))⟩
theorem c19 : compF Tryd.prog [0, 2] Tryd.f19 = some a19 := by kernel_rfl

/- bushel/bushellaw10.count -/
def a20 : AFun := ⟨44, [.tmp 4], (.seq (.reg [2, 4] [⟨(some 2), none, .box (.t 0)⟩,
       ⟨(some 4), none, .mv (.c (.int .i64 0))⟩])
  (.seq (.reg [1] [⟨(some 7), none, .mv (.t 1)⟩,
       ⟨(some 8), none, .bin .sub .other true (.t 7) (.c (.int .i64 1))⟩,
       ⟨(some 1), none, .mv (.t 8)⟩])
  (.seq (.seq (.reg [5] [⟨(some 5), none, .mv (.c (.int .i64 0))⟩])
   (.block 0 (.loop (.seq (.seq (.reg [13] [⟨(some 9), none, .mv (.t 5)⟩,
           ⟨(some 10), none, .faddr 3 (.t 2)⟩,
           ⟨(some 11), none, .load none (.t 10)⟩,
           ⟨(some 12), none, .len .sl (.t 11)⟩,
           ⟨(some 13), none, .bin .lss .other false (.t 9) (.t 12)⟩])
      (.cond (.t 13) .skip
      (.exit 0)))
     (.seq (.block 1 (.reg [1] [⟨(some 16), none, .mv (.t 1)⟩,
           ⟨(some 17), none, .bin .sub .other true (.t 16) (.c (.int .i64 1))⟩,
           ⟨(some 18), none, .faddr 3 (.t 2)⟩,
           ⟨(some 19), none, .load none (.t 18)⟩,
           ⟨(some 20), none, .mv (.t 5)⟩,
           ⟨(some 21), none, .iaddr none (.t 19) (.t 20)⟩,
           ⟨(some 22), none, .load none (.t 21)⟩,
           ⟨(some 23), none, .len .str (.t 22)⟩,
           ⟨(some 24), none, .bin .sub .other false (.t 17) (.t 23)⟩,
           ⟨(some 1), none, .mv (.t 24)⟩]))
     (.reg [5] [⟨(some 14), none, .mv (.t 5)⟩,
         ⟨(some 15), none, .bin .add .other true (.t 14) (.c (.int .i64 1))⟩,
         ⟨(some 5), none, .mv (.t 15)⟩]))))))
  (.seq (.seq (.reg [6] [⟨(some 6), none, .mv (.c (.int .i64 0))⟩])
   (.block 2 (.loop (.seq (.seq (.reg [33] [⟨(some 25), none, .mv (.t 6)⟩,
           ⟨(some 26), none, .faddr 2 (.t 2)⟩,
           ⟨(some 27), none, .load none (.t 26)⟩,
           ⟨(some 28), none, .len .sl (.t 27)⟩,
           ⟨(some 29), none, .bin .lss .other false (.t 25) (.t 28)⟩,
           ⟨(some 30), none, .mv (.t 29)⟩,
           ⟨(some 31), (some (30, true)), .mv (.t 1)⟩,
           ⟨(some 32), (some (30, true)), .bin .geq .other true (.t 31) (.c (.int .i64 0))⟩,
           ⟨(some 33), none, .pick (.t 30) (.t 32) (.c (.bool false))⟩])
      (.cond (.t 33) .skip
      (.exit 2)))
     (.seq (.block 3 (.reg [1] [⟨(some 36), none, .faddr 2 (.t 2)⟩,
           ⟨(some 37), none, .load none (.t 36)⟩,
           ⟨(some 38), none, .mv (.t 6)⟩,
           ⟨(some 39), none, .iaddr (some 5) (.t 37) (.t 38)⟩,
           ⟨(some 40), none, .load (some 5) (.t 39)⟩,
           ⟨(some 41), none, .mv (.t 1)⟩,
           ⟨(some 42), none, .call (.c (.fn 20)) [(.t 40), (.t 41)]⟩,
           ⟨(some 1), none, .mv (.t 42)⟩]))
     (.reg [6] [⟨(some 34), none, .mv (.t 6)⟩,
         ⟨(some 35), none, .bin .add .other true (.t 34) (.c (.int .i64 1))⟩,
         ⟨(some 6), none, .mv (.t 35)⟩]))))))
  (.seq (.reg [4] [⟨(some 43), none, .mv (.t 1)⟩,
       ⟨(some 4), none, .mv (.t 43)⟩])
  .ret)))))⟩
theorem c20 : compF Tryd.prog [0, 1, 2, 4, 5, 6, 13, 33] Tryd.f20 = some a20 := by kernel_rfl

/- bushel/bushelref10.At -/
def a21 : AFun := ⟨19, [.tmp 4], (.seq (.reg [4] [⟨(some 4), none, .mv (.c (.int .i64 0))⟩])
  (.seq (.seq (.reg [5] [⟨(some 5), none, .mv (.c (.int .i64 0))⟩])
   (.block 0 (.loop (.seq (.seq (.reg [9] [⟨(some 6), none, .mv (.t 5)⟩,
           ⟨(some 7), none, .mv (.t 0)⟩,
           ⟨(some 8), none, .len .sl (.t 7)⟩,
           ⟨(some 9), none, .bin .lss .other false (.t 6) (.t 8)⟩])
      (.cond (.t 9) .skip
      (.exit 0)))
     (.seq (.block 1 (.seq (.reg [17] [⟨(some 12), none, .mv (.t 0)⟩,
            ⟨(some 13), none, .mv (.t 5)⟩,
            ⟨(some 14), none, .iaddr none (.t 12) (.t 13)⟩,
            ⟨(some 15), none, .load none (.t 14)⟩,
            ⟨(some 16), none, .mv (.t 1)⟩,
            ⟨(some 17), none, .bin .eql .other false (.t 15) (.t 16)⟩])
       (.cond (.t 17) (.seq (.reg [4] [⟨(some 18), none, .mv (.t 5)⟩,
              ⟨(some 4), none, .mv (.t 18)⟩])
         .ret)
       .skip)))
     (.reg [5] [⟨(some 10), none, .mv (.t 5)⟩,
         ⟨(some 11), none, .bin .add .other true (.t 10) (.c (.int .i64 1))⟩,
         ⟨(some 5), none, .mv (.t 11)⟩]))))))
  (.seq (.reg [4] [⟨(some 4), none, .mv (.c (.int .i64 (-1)))⟩])
  .ret)))⟩
theorem c21 : compF Tryd.prog [0, 1, 4, 5, 9, 17] Tryd.f21 = some a21 := by kernel_rfl

/- bushel/typ.Vars$1 -/
def a22 : AFun := ⟨4, [.tmp 2], (.seq (.reg [1, 2] [⟨(some 1), none, .box (.t 0)⟩,
       ⟨(some 2), none, .mv (.c .fnil)⟩])
  (.seq (.reg [2] [⟨(some 3), none, .mkfn 23 [(.t 1)]⟩,
       ⟨(some 2), none, .mv (.t 3)⟩])
  .ret))⟩
theorem c22 : compF Tryd.prog [0, 1, 2] Tryd.f22 = some a22 := by kernel_rfl

/- bushel/typ.Vars$1$1 -/
def a23 : AFun := ⟨17, [], (.seq (.reg [8] [⟨(some 3), none, .load none (.t 1)⟩,
       ⟨(some 4), none, .nilck (.t 3)⟩,
       ⟨(some 5), none, .load none (.t 4)⟩,
       ⟨(some 6), none, .mv (.t 0)⟩,
       ⟨(some 7), none, .call (.c (.fn 24)) [(.t 5), (.t 6)]⟩,
       ⟨(some 8), none, .un .not (.t 7)⟩])
  (.cond (.t 8) (.any [] [(⟨(some 9), none, .load none (.t 1)⟩, true),
        (⟨(some 10), none, .load none (.t 1)⟩, false),
        (⟨(some 11), none, .nilck (.t 10)⟩, false),
        (⟨(some 12), none, .load none (.t 11)⟩, false),
        (⟨(some 13), none, .mv (.t 0)⟩, false),
        (⟨(some 14), none, .mksl none [(.t 13)]⟩, false),
        (⟨(some 15), none, .append none 8 (.t 12) (.t 14)⟩, false),
        (⟨(some 16), none, .nilck (.t 9)⟩, true),
        (⟨none, none, .store 1 (.t 16) (.t 15)⟩, true)])
  .skip))⟩
theorem c23 : compF Tryd.prog [0, 1, 8] Tryd.f23 = some a23 := by kernel_rfl

/- slices.Contains[[]int,int] -/
def a24 : AFun := ⟨9, [.tmp 4], (.seq (.reg [4] [⟨(some 4), none, .mv (.c (.bool false))⟩])
  (.seq (.reg [4] [⟨(some 5), none, .mv (.t 0)⟩,
       ⟨(some 6), none, .mv (.t 1)⟩,
       ⟨(some 7), none, .call (.c (.fn 38)) [(.t 5), (.t 6)]⟩,
       ⟨(some 8), none, .bin .geq .other true (.t 7) (.c (.int .i64 0))⟩,
       ⟨(some 4), none, .mv (.t 8)⟩])
  .ret))⟩
theorem c24 : compF Tryd.prog [0, 1, 4] Tryd.f24 = some a24 := by kernel_rfl

/- bushel/typ.each -/
def a25 : AFun := ⟨38, [], (.seq (.reg [3] [⟨(some 3), none, .box (.t 0)⟩])
  (.seq (.seq (.reg [10] [⟨(some 8), none, .faddr 0 (.t 3)⟩,
        ⟨(some 9), none, .load none (.t 8)⟩,
        ⟨(some 10), none, .bin .eql .other true (.t 9) (.c (.int .i64 7))⟩])
   (.cond (.t 10) (.reg [] [⟨(some 11), none, .mv (.t 1)⟩,
         ⟨(some 12), none, .faddr 1 (.t 3)⟩,
         ⟨(some 13), none, .load none (.t 12)⟩,
         ⟨(some 14), none, .call (.t 11) [(.t 13)]⟩])
   .skip))
  (.seq (.seq (.reg [16, 17, 18] [⟨(some 15), none, .faddr 2 (.t 3)⟩,
        ⟨(some 16), none, .load none (.t 15)⟩,
        ⟨(some 17), none, .len .sl (.t 16)⟩,
        ⟨(some 18), none, .mv (.c (.int .i64 0))⟩])
   (.block 0 (.loop (.seq (.reg [19] [⟨(some 19), none, .bin .lss .other false (.t 18) (.t 17)⟩])
     (.seq (.cond (.t 19) .skip
      (.exit 0))
     (.seq (.block 1 (.seq (.reg [7] [⟨(some 20), none, .iaddr (some 5) (.t 16) (.t 18)⟩,
            ⟨(some 21), none, .load (some 5) (.t 20)⟩,
            ⟨(some 7), none, .alloc [(.int .i64 0), (.int .i64 0), .snil, .snil, (.int .i64 0)]⟩,
            ⟨none, none, .store 5 (.t 7) (.t 21)⟩])
       (.reg [] [⟨(some 22), none, .load (some 5) (.t 7)⟩,
           ⟨(some 23), none, .mv (.t 1)⟩,
           ⟨(some 24), none, .mv (.t 2)⟩,
           ⟨(some 25), none, .call (.c (.fn 25)) [(.t 22), (.t 23), (.t 24)]⟩])))
     (.reg [18] [⟨(some 26), none, .bin .add .other true (.t 18) (.c (.int .i64 1))⟩,
         ⟨(some 18), none, .mv (.t 26)⟩])))))))
  (.seq (.reg [33] [⟨(some 27), none, .load (some 5) (.t 3)⟩,
       ⟨(some 28), none, .call (.c (.fn 39)) [(.t 27)]⟩,
       ⟨(some 29), none, .mv (.t 28)⟩,
       ⟨(some 30), (some (29, true)), .faddr 4 (.t 3)⟩,
       ⟨(some 31), (some (29, true)), .load none (.t 30)⟩,
       ⟨(some 32), (some (29, true)), .bin .geq .other true (.t 31) (.c (.int .i64 0))⟩,
       ⟨(some 33), none, .pick (.t 29) (.t 32) (.c (.bool false))⟩])
  (.cond (.t 33) (.reg [] [⟨(some 34), none, .mv (.t 2)⟩,
        ⟨(some 35), none, .faddr 4 (.t 3)⟩,
        ⟨(some 36), none, .load none (.t 35)⟩,
        ⟨(some 37), none, .call (.t 34) [(.t 36)]⟩])
  .skip)))))⟩
theorem c25 : compF Tryd.prog [0, 1, 2, 3, 7, 10, 16, 17, 18, 19, 33] Tryd.f25 = some a25 := by kernel_rfl

/- bushel/typ.fine -/
def a26 : AFun := ⟨70, [.tmp 4], (.seq (.reg [2, 3, 4] [⟨(some 2), none, .box (.t 0)⟩,
       ⟨(some 3), none, .box (.t 1)⟩,
       ⟨(some 4), none, .mv (.c (.bool false))⟩])
  (.seq (.reg [] [⟨(some 5), none, .load none (.t 3)⟩,
       ⟨(some 6), none, .nilck (.t 5)⟩,
       ⟨(some 7), none, .load none (.t 6)⟩,
       ⟨(some 8), none, .bin .add .other true (.t 7) (.c (.int .i64 1))⟩,
       ⟨(some 9), none, .nilck (.t 5)⟩,
       ⟨none, none, .store 1 (.t 9) (.t 8)⟩])
  (.seq (.block 0 (.seq (.any [10] [(⟨(some 11), none, .load none (.t 3)⟩, true),
         (⟨(some 12), none, .nilck (.t 11)⟩, true),
         (⟨(some 13), none, .load none (.t 12)⟩, true),
         (⟨(some 14), none, .bin .gtr .other true (.t 13) (.c (.int .i64 4000))⟩, true),
         (⟨(some 15), none, .mv (.t 14)⟩, true),
         (⟨(some 16), (some (15, false)), .load (some 5) (.t 2)⟩, true),
         (⟨(some 18), (some (15, false)), .faddr 2 (.t 2)⟩, false),
         (⟨(some 19), (some (15, false)), .load none (.t 18)⟩, false),
         (⟨(some 20), (some (15, false)), .len .sl (.t 19)⟩, false),
         (⟨(some 17), (some (15, false)), .call (.c (.fn 40)) [(.t 16)]⟩, false),
         (⟨(some 21), (some (15, false)), .bin .neq .other false (.t 17) (.t 20)⟩, true),
         (⟨(some 22), none, .pick (.t 15) (.c (.bool true)) (.t 21)⟩, true),
         (⟨(some 23), none, .mv (.t 22)⟩, true),
         (⟨(some 24), (some (23, false)), .faddr 1 (.t 2)⟩, true),
         (⟨(some 25), (some (23, false)), .load none (.t 24)⟩, true),
         (⟨(some 26), (some (23, false)), .bin .lss .other true (.t 25) (.c (.int .i64 0))⟩, true),
         (⟨(some 27), none, .pick (.t 23) (.c (.bool true)) (.t 26)⟩, true),
         (⟨(some 28), none, .mv (.t 27)⟩, true),
         (⟨(some 29), (some (28, false)), .faddr 1 (.t 2)⟩, true),
         (⟨(some 30), (some (28, false)), .load none (.t 29)⟩, true),
         (⟨(some 31), (some (28, false)), .bin .gtr .other true (.t 30) (.c (.int .i64 0))⟩, true),
         (⟨(some 32), (some (28, false)), .mv (.t 31)⟩, true),
         (⟨(some 33), (some (32, true)), .faddr 0 (.t 2)⟩, true),
         (⟨(some 34), (some (32, true)), .load none (.t 33)⟩, true),
         (⟨(some 35), (some (32, true)), .bin .neq .other true (.t 34) (.c (.int .i64 7))⟩, true),
         (⟨(some 36), (some (28, false)), .pick (.t 32) (.t 35) (.c (.bool false))⟩, true),
         (⟨(some 37), none, .pick (.t 28) (.c (.bool true)) (.t 36)⟩, true),
         (⟨(some 10), none, .mv (.t 37)⟩, true)])
    (.cond (.t 10) (.seq (.reg [4] [⟨(some 4), none, .mv (.c (.bool false))⟩])
      .ret)
    (.seq (.reg [38] [⟨(some 39), none, .load (some 5) (.t 2)⟩,
         ⟨(some 40), none, .call (.c (.fn 39)) [(.t 39)]⟩,
         ⟨(some 38), none, .mv (.t 40)⟩])
    (.cond (.t 38) (.seq (.reg [54] [⟨(some 41), none, .faddr 4 (.t 2)⟩,
           ⟨(some 42), none, .load none (.t 41)⟩,
           ⟨(some 43), none, .bin .lss .other true (.t 42) (.c (.int .i64 (-1)))⟩,
           ⟨(some 44), none, .mv (.t 43)⟩,
           ⟨(some 45), (some (44, false)), .faddr 3 (.t 2)⟩,
           ⟨(some 46), (some (44, false)), .load none (.t 45)⟩,
           ⟨(some 47), (some (44, false)), .call (.c (.fn 41)) [(.t 46)]⟩,
           ⟨(some 48), (some (44, false)), .un .not (.t 47)⟩,
           ⟨(some 49), none, .pick (.t 44) (.c (.bool true)) (.t 48)⟩,
           ⟨(some 50), none, .mv (.t 49)⟩,
           ⟨(some 51), (some (50, false)), .faddr 3 (.t 2)⟩,
           ⟨(some 52), (some (50, false)), .load none (.t 51)⟩,
           ⟨(some 53), (some (50, false)), .call (.c (.fn 42)) [(.t 52), (.c (.str []))]⟩,
           ⟨(some 54), none, .pick (.t 50) (.c (.bool true)) (.t 53)⟩])
      (.cond (.t 54) (.seq (.reg [4] [⟨(some 4), none, .mv (.c (.bool false))⟩])
        .ret)
      .skip))
    (.seq (.reg [55] [⟨(some 56), none, .faddr 4 (.t 2)⟩,
         ⟨(some 57), none, .load none (.t 56)⟩,
         ⟨(some 58), none, .bin .neq .other true (.t 57) (.c (.int .i64 (-1)))⟩,
         ⟨(some 59), none, .mv (.t 58)⟩,
         ⟨(some 60), (some (59, false)), .faddr 3 (.t 2)⟩,
         ⟨(some 61), (some (59, false)), .load none (.t 60)⟩,
         ⟨(some 62), (some (59, false)), .len .sl (.t 61)⟩,
         ⟨(some 63), (some (59, false)), .bin .gtr .other true (.t 62) (.c (.int .i64 0))⟩,
         ⟨(some 64), none, .pick (.t 59) (.c (.bool true)) (.t 63)⟩,
         ⟨(some 55), none, .mv (.t 64)⟩])
    (.cond (.t 55) (.seq (.reg [4] [⟨(some 4), none, .mv (.c (.bool false))⟩])
      .ret)
    .skip)))))))
  (.seq (.reg [4] [⟨(some 65), none, .faddr 2 (.t 2)⟩,
       ⟨(some 66), none, .load none (.t 65)⟩,
       ⟨(some 67), none, .mkfn 44 [(.t 3)]⟩,
       ⟨(some 68), none, .call (.c (.fn 43)) [(.t 66), (.t 67)]⟩,
       ⟨(some 69), none, .un .not (.t 68)⟩,
       ⟨(some 4), none, .mv (.t 69)⟩])
  .ret))))⟩
theorem c26 : compF Tryd.prog [0, 1, 2, 3, 4, 10, 38, 54, 55] Tryd.f26 = some a26 := by kernel_rfl

/- bushel/bushelref10.fine -/
def a27 : AFun := ⟨97, [.tmp 2], (.seq (.reg [1, 2] [⟨(some 1), none, .box (.t 0)⟩,
       ⟨(some 2), none, .mv (.c (.bool false))⟩])
  (.seq (.reg [3] [⟨(some 9), none, .faddr 0 (.t 1)⟩,
       ⟨(some 10), none, .load none (.t 9)⟩,
       ⟨(some 11), none, .bin .eql .other true (.t 10) (.c (.int .i64 4))⟩,
       ⟨(some 12), none, .mv (.t 11)⟩,
       ⟨(some 13), (some (12, false)), .faddr 0 (.t 1)⟩,
       ⟨(some 14), (some (12, false)), .load none (.t 13)⟩,
       ⟨(some 15), (some (12, false)), .bin .eql .other true (.t 14) (.c (.int .i64 5))⟩,
       ⟨(some 16), none, .pick (.t 12) (.c (.bool true)) (.t 15)⟩,
       ⟨(some 3), none, .mv (.t 16)⟩])
  (.seq (.seq (.reg [44] [⟨(some 17), none, .faddr 1 (.t 1)⟩,
        ⟨(some 18), none, .load none (.t 17)⟩,
        ⟨(some 19), none, .bin .lss .other true (.t 18) (.c (.int .i64 0))⟩,
        ⟨(some 20), none, .mv (.t 19)⟩,
        ⟨(some 21), (some (20, false)), .faddr 1 (.t 1)⟩,
        ⟨(some 22), (some (20, false)), .load none (.t 21)⟩,
        ⟨(some 23), (some (20, false)), .bin .neq .other true (.t 22) (.c (.int .i64 0))⟩,
        ⟨(some 24), (some (20, false)), .mv (.t 23)⟩,
        ⟨(some 25), (some (24, true)), .faddr 0 (.t 1)⟩,
        ⟨(some 26), (some (24, true)), .load none (.t 25)⟩,
        ⟨(some 27), (some (24, true)), .bin .neq .other true (.t 26) (.c (.int .i64 7))⟩,
        ⟨(some 28), (some (20, false)), .pick (.t 24) (.t 27) (.c (.bool false))⟩,
        ⟨(some 29), none, .pick (.t 20) (.c (.bool true)) (.t 28)⟩,
        ⟨(some 30), none, .mv (.t 29)⟩,
        ⟨(some 31), (some (30, false)), .mv (.t 3)⟩,
        ⟨(some 32), (some (30, false)), .un .not (.t 31)⟩,
        ⟨(some 33), (some (30, false)), .mv (.t 32)⟩,
        ⟨(some 34), (some (33, true)), .faddr 4 (.t 1)⟩,
        ⟨(some 35), (some (33, true)), .load none (.t 34)⟩,
        ⟨(some 36), (some (33, true)), .bin .neq .other true (.t 35) (.c (.int .i64 (-1)))⟩,
        ⟨(some 37), (some (33, true)), .mv (.t 36)⟩,
        ⟨(some 38), (some (37, false)), .faddr 3 (.t 1)⟩,
        ⟨(some 39), (some (37, false)), .load none (.t 38)⟩,
        ⟨(some 40), (some (37, false)), .len .sl (.t 39)⟩,
        ⟨(some 41), (some (37, false)), .bin .gtr .other true (.t 40) (.c (.int .i64 0))⟩,
        ⟨(some 42), (some (33, true)), .pick (.t 37) (.c (.bool true)) (.t 41)⟩,
        ⟨(some 43), (some (30, false)), .pick (.t 33) (.t 42) (.c (.bool false))⟩,
        ⟨(some 44), none, .pick (.t 30) (.c (.bool true)) (.t 43)⟩])
   (.cond (.t 44) (.seq (.reg [2] [⟨(some 2), none, .mv (.c (.bool false))⟩])
     .ret)
   .skip))
  (.seq (.reg [4] [⟨(some 4), none, .mv (.c (.int .i64 0))⟩])
  (.seq (.seq (.reg [46] [⟨(some 45), none, .faddr 0 (.t 1)⟩,
        ⟨(some 46), none, .load none (.t 45)⟩])
   (.block 0 (.seq (.seq (.reg [47] [⟨(some 48), none, .bin .eql .other true (.t 46) (.c (.int .i64 1))⟩,
          ⟨(some 47), none, .mv (.t 48)⟩])
     (.cond (.t 47) .skip
     (.seq (.reg [47] [⟨(some 49), none, .bin .eql .other true (.t 46) (.c (.int .i64 2))⟩,
          ⟨(some 47), none, .mv (.t 49)⟩])
     (.cond (.t 47) .skip
     (.reg [47] [⟨(some 50), none, .bin .eql .other true (.t 46) (.c (.int .i64 7))⟩,
         ⟨(some 47), none, .mv (.t 50)⟩])))))
    (.cond (.t 47) (.reg [4] [⟨(some 4), none, .mv (.c (.int .i64 0))⟩])
    (.seq (.reg [51] [⟨(some 52), none, .bin .eql .other true (.t 46) (.c (.int .i64 6))⟩,
         ⟨(some 51), none, .mv (.t 52)⟩])
    (.cond (.t 51) (.reg [4] [⟨(some 4), none, .mv (.c (.int .i64 1))⟩])
    (.seq (.reg [53] [⟨(some 54), none, .bin .eql .other true (.t 46) (.c (.int .i64 3))⟩,
         ⟨(some 53), none, .mv (.t 54)⟩])
    (.cond (.t 53) (.reg [4] [⟨(some 4), none, .mv (.c (.int .i64 2))⟩])
    (.seq (.seq (.reg [55] [⟨(some 56), none, .bin .eql .other true (.t 46) (.c (.int .i64 4))⟩,
          ⟨(some 55), none, .mv (.t 56)⟩])
     (.cond (.t 55) .skip
     (.reg [55] [⟨(some 57), none, .bin .eql .other true (.t 46) (.c (.int .i64 5))⟩,
         ⟨(some 55), none, .mv (.t 57)⟩])))
    (.cond (.t 55) (.seq (.reg [4] [⟨(some 58), none, .faddr 3 (.t 1)⟩,
           ⟨(some 59), none, .load none (.t 58)⟩,
           ⟨(some 60), none, .len .sl (.t 59)⟩,
           ⟨(some 4), none, .mv (.t 60)⟩])
      (.seq (.reg [5] [⟨(some 61), none, .faddr 3 (.t 1)⟩,
           ⟨(some 62), none, .load none (.t 61)⟩,
           ⟨(some 63), none, .call (.c (.fn 45)) [(.t 62)]⟩,
           ⟨(some 5), none, .mv (.t 63)⟩])
      (.seq (.reg [6] [⟨(some 64), none, .faddr 3 (.t 1)⟩,
           ⟨(some 65), none, .load none (.t 64)⟩,
           ⟨(some 66), none, .call (.c (.fn 46)) [(.t 65), (.c (.str []))]⟩,
           ⟨(some 6), none, .mv (.t 66)⟩])
      (.seq (.reg [76] [⟨(some 67), none, .faddr 4 (.t 1)⟩,
           ⟨(some 68), none, .load none (.t 67)⟩,
           ⟨(some 69), none, .bin .lss .other true (.t 68) (.c (.int .i64 (-1)))⟩,
           ⟨(some 70), none, .mv (.t 69)⟩,
           ⟨(some 71), (some (70, false)), .mv (.t 5)⟩,
           ⟨(some 72), (some (70, false)), .un .not (.t 71)⟩,
           ⟨(some 73), none, .pick (.t 70) (.c (.bool true)) (.t 72)⟩,
           ⟨(some 74), none, .mv (.t 73)⟩,
           ⟨(some 75), (some (74, false)), .mv (.t 6)⟩,
           ⟨(some 76), none, .pick (.t 74) (.c (.bool true)) (.t 75)⟩])
      (.cond (.t 76) (.seq (.reg [2] [⟨(some 2), none, .mv (.c (.bool false))⟩])
        .ret)
      .skip)))))
    (.seq (.reg [2] [⟨(some 2), none, .mv (.c (.bool false))⟩])
    .ret)))))))))))
  (.seq (.seq (.reg [81] [⟨(some 77), none, .faddr 2 (.t 1)⟩,
        ⟨(some 78), none, .load none (.t 77)⟩,
        ⟨(some 79), none, .len .sl (.t 78)⟩,
        ⟨(some 80), none, .mv (.t 4)⟩,
        ⟨(some 81), none, .bin .neq .other false (.t 79) (.t 80)⟩])
   (.cond (.t 81) (.seq (.reg [2] [⟨(some 2), none, .mv (.c (.bool false))⟩])
     .ret)
   .skip))
  (.seq (.seq (.reg [7] [⟨(some 7), none, .mv (.c (.int .i64 0))⟩])
   (.block 1 (.loop (.seq (.seq (.reg [86] [⟨(some 82), none, .mv (.t 7)⟩,
           ⟨(some 83), none, .faddr 2 (.t 1)⟩,
           ⟨(some 84), none, .load none (.t 83)⟩,
           ⟨(some 85), none, .len .sl (.t 84)⟩,
           ⟨(some 86), none, .bin .lss .other false (.t 82) (.t 85)⟩])
      (.cond (.t 86) .skip
      (.exit 1)))
     (.seq (.block 2 (.seq (.reg [8] [⟨(some 89), none, .faddr 2 (.t 1)⟩,
            ⟨(some 90), none, .load none (.t 89)⟩,
            ⟨(some 91), none, .mv (.t 7)⟩,
            ⟨(some 92), none, .iaddr (some 5) (.t 90) (.t 91)⟩,
            ⟨(some 93), none, .load (some 5) (.t 92)⟩,
            ⟨(some 94), none, .call (.c (.fn 27)) [(.t 93)]⟩,
            ⟨(some 8), none, .mv (.t 94)⟩])
       (.seq (.reg [96] [⟨(some 95), none, .mv (.t 8)⟩,
            ⟨(some 96), none, .un .not (.t 95)⟩])
       (.cond (.t 96) (.seq (.reg [2] [⟨(some 2), none, .mv (.c (.bool false))⟩])
         .ret)
       .skip))))
     (.reg [7] [⟨(some 87), none, .mv (.t 7)⟩,
         ⟨(some 88), none, .bin .add .other true (.t 87) (.c (.int .i64 1))⟩,
         ⟨(some 7), none, .mv (.t 88)⟩]))))))
  (.seq (.reg [2] [⟨(some 2), none, .mv (.c (.bool true))⟩])
  .ret))))))))⟩
theorem c27 : compF Tryd.prog [0, 1, 2, 3, 4, 5, 6, 7, 8, 44, 46, 47, 51, 53, 55, 76, 81, 86, 96] Tryd.f27 = some a27 := by kernel_rfl

/- bushel/bushelref10.Nodes -/
def a28 : AFun := ⟨21, [.tmp 2], (.seq (.reg [1, 2] [⟨(some 1), none, .box (.t 0)⟩,
       ⟨(some 2), none, .mv (.c (.int .i64 0))⟩])
  (.seq (.reg [3] [⟨(some 3), none, .mv (.c (.int .i64 1))⟩])
  (.seq (.seq (.reg [4] [⟨(some 4), none, .mv (.c (.int .i64 0))⟩])
   (.block 0 (.loop (.seq (.seq (.reg [9] [⟨(some 5), none, .mv (.t 4)⟩,
           ⟨(some 6), none, .faddr 2 (.t 1)⟩,
           ⟨(some 7), none, .load none (.t 6)⟩,
           ⟨(some 8), none, .len .sl (.t 7)⟩,
           ⟨(some 9), none, .bin .lss .other false (.t 5) (.t 8)⟩])
      (.cond (.t 9) .skip
      (.exit 0)))
     (.seq (.block 1 (.reg [3] [⟨(some 12), none, .mv (.t 3)⟩,
           ⟨(some 13), none, .faddr 2 (.t 1)⟩,
           ⟨(some 14), none, .load none (.t 13)⟩,
           ⟨(some 15), none, .mv (.t 4)⟩,
           ⟨(some 16), none, .iaddr (some 5) (.t 14) (.t 15)⟩,
           ⟨(some 17), none, .load (some 5) (.t 16)⟩,
           ⟨(some 18), none, .call (.c (.fn 28)) [(.t 17)]⟩,
           ⟨(some 19), none, .bin .add .other false (.t 12) (.t 18)⟩,
           ⟨(some 3), none, .mv (.t 19)⟩]))
     (.reg [4] [⟨(some 10), none, .mv (.t 4)⟩,
         ⟨(some 11), none, .bin .add .other true (.t 10) (.c (.int .i64 1))⟩,
         ⟨(some 4), none, .mv (.t 11)⟩]))))))
  (.seq (.reg [2] [⟨(some 20), none, .mv (.t 3)⟩,
       ⟨(some 2), none, .mv (.t 20)⟩])
  .ret))))⟩
theorem c28 : compF Tryd.prog [0, 1, 2, 3, 4, 9] Tryd.f28 = some a28 := by kernel_rfl

/- slices.Equal[[]string,string] -/
def a29 : AFun := ⟨26, [.tmp 4], (.seq (.reg [4] [⟨(some 4), none, .mv (.c (.bool false))⟩])
  (.seq (.seq (.reg [10] [⟨(some 6), none, .mv (.t 0)⟩,
        ⟨(some 7), none, .len .sl (.t 6)⟩,
        ⟨(some 8), none, .mv (.t 1)⟩,
        ⟨(some 9), none, .len .sl (.t 8)⟩,
        ⟨(some 10), none, .bin .neq .other false (.t 7) (.t 9)⟩])
   (.cond (.t 10) (.seq (.reg [4] [⟨(some 4), none, .mv (.c (.bool false))⟩])
     .ret)
   .skip))
  (.seq (.seq (.reg [12, 13] [⟨(some 11), none, .mv (.t 0)⟩,
        ⟨(some 12), none, .len .sl (.t 11)⟩,
        ⟨(some 13), none, .mv (.c (.int .i64 0))⟩])
   (.block 0 (.loop (.seq (.reg [14] [⟨(some 14), none, .bin .lss .other false (.t 13) (.t 12)⟩])
     (.seq (.cond (.t 14) .skip
      (.exit 0))
     (.seq (.block 1 (.seq (.reg [5] [⟨(some 15), none, .mv (.t 13)⟩,
            ⟨(some 5), none, .mv (.t 15)⟩])
       (.seq (.any [24] [(⟨(some 16), none, .mv (.t 0)⟩, true),
            (⟨(some 17), none, .mv (.t 5)⟩, false),
            (⟨(some 18), none, .iaddr none (.t 16) (.t 17)⟩, true),
            (⟨(some 19), none, .load none (.t 18)⟩, true),
            (⟨(some 20), none, .mv (.t 1)⟩, false),
            (⟨(some 21), none, .mv (.t 5)⟩, false),
            (⟨(some 22), none, .iaddr none (.t 20) (.t 21)⟩, false),
            (⟨(some 23), none, .load none (.t 22)⟩, false),
            (⟨(some 24), none, .bin .neq .other false (.t 19) (.t 23)⟩, true)])
       (.cond (.t 24) (.seq (.reg [4] [⟨(some 4), none, .mv (.c (.bool false))⟩])
         .ret)
       .skip))))
     (.reg [13] [⟨(some 25), none, .bin .add .other true (.t 13) (.c (.int .i64 1))⟩,
         ⟨(some 13), none, .mv (.t 25)⟩])))))))
  (.seq (.reg [4] [⟨(some 4), none, .mv (.c (.bool true))⟩])
  .ret))))⟩
theorem c29 : compF Tryd.prog [0, 1, 4, 5, 10, 12, 13, 14, 24] Tryd.f29 = some a29 := by kernel_rfl

/- slices.EqualFunc[[]bushel/api.Type,[]bushel/api.Type,bushel/api.Type,bushel/api.Type] -/
def a30 : AFun := ⟨32, [.tmp 6], (.seq (.reg [6] [⟨(some 6), none, .mv (.c (.bool false))⟩])
  (.seq (.seq (.reg [14] [⟨(some 10), none, .mv (.t 0)⟩,
        ⟨(some 11), none, .len .sl (.t 10)⟩,
        ⟨(some 12), none, .mv (.t 1)⟩,
        ⟨(some 13), none, .len .sl (.t 12)⟩,
        ⟨(some 14), none, .bin .neq .other false (.t 11) (.t 13)⟩])
   (.cond (.t 14) (.seq (.reg [6] [⟨(some 6), none, .mv (.c (.bool false))⟩])
     .ret)
   .skip))
  (.seq (.seq (.reg [15, 16, 17] [⟨(some 15), none, .mv (.t 0)⟩,
        ⟨(some 16), none, .len .sl (.t 15)⟩,
        ⟨(some 17), none, .mv (.c (.int .i64 0))⟩])
   (.block 0 (.loop (.seq (.reg [18] [⟨(some 18), none, .bin .lss .other false (.t 17) (.t 16)⟩])
     (.seq (.cond (.t 18) .skip
      (.exit 0))
     (.seq (.block 1 (.seq (.reg [8, 7] [⟨(some 19), none, .mv (.t 17)⟩,
            ⟨(some 20), none, .iaddr (some 5) (.t 15) (.t 17)⟩,
            ⟨(some 21), none, .load (some 5) (.t 20)⟩,
            ⟨(some 8), none, .alloc [(.int .i64 0), (.int .i64 0), .snil, .snil, (.int .i64 0)]⟩,
            ⟨(some 7), none, .mv (.t 19)⟩,
            ⟨none, none, .store 5 (.t 8) (.t 21)⟩])
       (.seq (.reg [9] [⟨(some 22), none, .mv (.t 1)⟩,
            ⟨(some 23), none, .mv (.t 7)⟩,
            ⟨(some 24), none, .iaddr (some 5) (.t 22) (.t 23)⟩,
            ⟨(some 25), none, .load (some 5) (.t 24)⟩,
            ⟨(some 9), none, .alloc [(.int .i64 0), (.int .i64 0), .snil, .snil, (.int .i64 0)]⟩,
            ⟨none, none, .store 5 (.t 9) (.t 25)⟩])
       (.seq (.reg [30] [⟨(some 26), none, .mv (.t 2)⟩,
            ⟨(some 27), none, .load (some 5) (.t 8)⟩,
            ⟨(some 28), none, .load (some 5) (.t 9)⟩,
            ⟨(some 29), none, .call (.t 26) [(.t 27), (.t 28)]⟩,
            ⟨(some 30), none, .un .not (.t 29)⟩])
       (.cond (.t 30) (.seq (.reg [6] [⟨(some 6), none, .mv (.c (.bool false))⟩])
         .ret)
       .skip)))))
     (.reg [17] [⟨(some 31), none, .bin .add .other true (.t 17) (.c (.int .i64 1))⟩,
         ⟨(some 17), none, .mv (.t 31)⟩])))))))
  (.seq (.reg [6] [⟨(some 6), none, .mv (.c (.bool true))⟩])
  .ret))))⟩
theorem c30 : compF Tryd.prog [0, 1, 2, 6, 7, 8, 9, 14, 15, 16, 17, 18, 30] Tryd.f30 = some a30 := by kernel_rfl

/- bushel/bushelref05.Texts -/
def a31 : AFun := ⟨8, [.tmp 4], (.seq (.reg [4] [⟨(some 4), none, .mv (.c (.bool false))⟩])
  (.seq (.reg [4] [⟨(some 5), none, .mv (.t 0)⟩,
       ⟨(some 6), none, .mv (.t 1)⟩,
       ⟨(some 7), none, .call (.c (.fn 47)) [(.t 5), (.t 6)]⟩,
       ⟨(some 4), none, .mv (.t 7)⟩])
  .ret))⟩
theorem c31 : compF Tryd.prog [0, 1, 4] Tryd.f31 = some a31 := by kernel_rfl

/- (bushel/typ.teller).text -/
def a32 : AFun := ⟨75, [.tmp 4], (.seq (.reg [2, 3, 4] [⟨(some 2), none, .box (.t 0)⟩,
       ⟨(some 3), none, .box (.t 1)⟩,
       ⟨(some 4), none, .mv (.c (.str []))⟩])
  (.seq (.seq (.reg [6] [⟨(some 5), none, .faddr 0 (.t 3)⟩,
        ⟨(some 6), none, .load none (.t 5)⟩])
   (.block 0 (.seq (.reg [7] [⟨(some 8), none, .bin .eql .other true (.t 6) (.c (.int .i64 1))⟩,
         ⟨(some 7), none, .mv (.t 8)⟩])
    (.cond (.t 7) (.seq (.reg [4] [⟨(some 4), none, .mv (.c (.str [105, 110, 116]))⟩])
      .ret)
    (.seq (.reg [9] [⟨(some 10), none, .bin .eql .other true (.t 6) (.c (.int .i64 2))⟩,
         ⟨(some 9), none, .mv (.t 10)⟩])
    (.cond (.t 9) (.seq (.reg [4] [⟨(some 4), none, .mv (.c (.str [116, 101, 120, 116]))⟩])
      .ret)
    (.seq (.reg [11] [⟨(some 12), none, .bin .eql .other true (.t 6) (.c (.int .i64 3))⟩,
         ⟨(some 11), none, .mv (.t 12)⟩])
    (.cond (.t 11) (.seq (.any [4] [(⟨(some 13), none, .load (some 2) (.t 2)⟩, true),
           (⟨(some 14), none, .faddr 2 (.t 3)⟩, false),
           (⟨(some 15), none, .load none (.t 14)⟩, false),
           (⟨(some 16), none, .iaddr (some 5) (.t 15) (.c (.int .i64 0))⟩, false),
           (⟨(some 17), none, .load (some 5) (.t 16)⟩, false),
           (⟨(some 19), none, .faddr 2 (.t 3)⟩, false),
           (⟨(some 20), none, .load none (.t 19)⟩, false),
           (⟨(some 21), none, .iaddr (some 5) (.t 20) (.c (.int .i64 0))⟩, false),
           (⟨(some 22), none, .faddr 0 (.t 21)⟩, false),
           (⟨(some 23), none, .load none (.t 22)⟩, false),
           (⟨(some 24), none, .bin .eql .other true (.t 23) (.c (.int .i64 3))⟩, false),
           (⟨(some 27), none, .load (some 2) (.t 2)⟩, false),
           (⟨(some 28), none, .faddr 2 (.t 3)⟩, false),
           (⟨(some 29), none, .load none (.t 28)⟩, false),
           (⟨(some 30), none, .iaddr (some 5) (.t 29) (.c (.int .i64 1))⟩, false),
           (⟨(some 31), none, .load (some 5) (.t 30)⟩, false),
           (⟨(some 18), none, .call (.c (.fn 32)) [(.t 13), (.t 17)]⟩, false),
           (⟨(some 25), none, .call (.c (.fn 48)) [(.t 18), (.t 24)]⟩, false),
           (⟨(some 26), none, .bin .add .other true (.t 25) (.c (.str [32, 45, 62, 32]))⟩, false),
           (⟨(some 32), none, .call (.c (.fn 32)) [(.t 27), (.t 31)]⟩, false),
           (⟨(some 33), none, .bin .add .other false (.t 26) (.t 32)⟩, true),
           (⟨(some 4), none, .mv (.t 33)⟩, true)])
      .ret)
    (.seq (.reg [34] [⟨(some 35), none, .bin .eql .other true (.t 6) (.c (.int .i64 4))⟩,
         ⟨(some 34), none, .mv (.t 35)⟩])
    (.cond (.t 34) (.seq (.reg [4] [⟨(some 36), none, .load (some 2) (.t 2)⟩,
           ⟨(some 37), none, .load (some 5) (.t 3)⟩,
           ⟨(some 38), none, .call (.c (.fn 49)) [(.t 36), (.t 37), (.c (.str [123])), (.c (.str [125]))]⟩,
           ⟨(some 4), none, .mv (.t 38)⟩])
      .ret)
    (.seq (.reg [39] [⟨(some 40), none, .bin .eql .other true (.t 6) (.c (.int .i64 5))⟩,
         ⟨(some 39), none, .mv (.t 40)⟩])
    (.cond (.t 39) (.seq (.reg [4] [⟨(some 41), none, .load (some 2) (.t 2)⟩,
           ⟨(some 42), none, .load (some 5) (.t 3)⟩,
           ⟨(some 43), none, .call (.c (.fn 49)) [(.t 41), (.t 42), (.c (.str [60])), (.c (.str [62]))]⟩,
           ⟨(some 4), none, .mv (.t 43)⟩])
      .ret)
    (.seq (.reg [44] [⟨(some 45), none, .bin .eql .other true (.t 6) (.c (.int .i64 6))⟩,
         ⟨(some 44), none, .mv (.t 45)⟩])
    (.cond (.t 44) (.seq (.any [4] [(⟨(some 46), none, .load (some 2) (.t 2)⟩, true),
           (⟨(some 47), none, .faddr 2 (.t 3)⟩, false),
           (⟨(some 48), none, .load none (.t 47)⟩, false),
           (⟨(some 49), none, .iaddr (some 5) (.t 48) (.c (.int .i64 0))⟩, false),
           (⟨(some 50), none, .load (some 5) (.t 49)⟩, false),
           (⟨(some 52), none, .faddr 2 (.t 3)⟩, false),
           (⟨(some 53), none, .load none (.t 52)⟩, false),
           (⟨(some 54), none, .iaddr (some 5) (.t 53) (.c (.int .i64 0))⟩, false),
           (⟨(some 55), none, .faddr 0 (.t 54)⟩, false),
           (⟨(some 56), none, .load none (.t 55)⟩, false),
           (⟨(some 57), none, .bin .eql .other true (.t 56) (.c (.int .i64 3))⟩, false),
           (⟨(some 51), none, .call (.c (.fn 32)) [(.t 46), (.t 50)]⟩, false),
           (⟨(some 58), none, .mv (.t 57)⟩, true),
           (⟨(some 59), (some (58, false)), .faddr 2 (.t 3)⟩, true),
           (⟨(some 60), (some (58, false)), .load none (.t 59)⟩, true),
           (⟨(some 61), (some (58, false)), .iaddr (some 5) (.t 60) (.c (.int .i64 0))⟩, true),
           (⟨(some 62), (some (58, false)), .faddr 0 (.t 61)⟩, true),
           (⟨(some 63), (some (58, false)), .load none (.t 62)⟩, true),
           (⟨(some 64), (some (58, false)), .bin .eql .other true (.t 63) (.c (.int .i64 6))⟩, true),
           (⟨(some 65), none, .pick (.t 58) (.c (.bool true)) (.t 64)⟩, true),
           (⟨(some 66), none, .call (.c (.fn 48)) [(.t 51), (.t 65)]⟩, true),
           (⟨(some 67), none, .bin .add .other true (.c (.str [114, 101, 102, 32])) (.t 66)⟩, true),
           (⟨(some 4), none, .mv (.t 67)⟩, true)])
      .ret)
    .skip))))))))))))))
  (.seq (.reg [4] [⟨(some 68), none, .faddr 0 (.t 2)⟩,
       ⟨(some 69), none, .load none (.t 68)⟩,
       ⟨(some 70), none, .faddr 1 (.t 3)⟩,
       ⟨(some 71), none, .load none (.t 70)⟩,
       ⟨(some 72), none, .call (.c (.fn 38)) [(.t 69), (.t 71)]⟩,
       ⟨(some 73), none, .call (.c (.fn 50)) [(.t 72)]⟩,
       ⟨(some 74), none, .bin .add .other true (.c (.str [39])) (.t 73)⟩,
       ⟨(some 4), none, .mv (.t 74)⟩])
  .ret)))⟩
theorem c32 : compF Tryd.prog [0, 1, 2, 3, 4, 6, 7, 9, 11, 34, 39, 44] Tryd.f32 = some a32 := by kernel_rfl

/- (*bushel/bushelref10.Names).text -/
def a33 : AFun := ⟨135, [.tmp 4], (.seq (.reg [3, 4] [⟨(some 3), none, .box (.t 1)⟩,
       ⟨(some 4), none, .mv (.c (.str []))⟩])
  (.seq (.seq (.reg [10] [⟨(some 9), none, .faddr 0 (.t 3)⟩,
        ⟨(some 10), none, .load none (.t 9)⟩])
   (.block 0 (.seq (.reg [11] [⟨(some 12), none, .bin .eql .other true (.t 10) (.c (.int .i64 1))⟩,
         ⟨(some 11), none, .mv (.t 12)⟩])
    (.cond (.t 11) (.seq (.reg [4] [⟨(some 4), none, .mv (.c (.str [105, 110, 116]))⟩])
      .ret)
    (.seq (.reg [13] [⟨(some 14), none, .bin .eql .other true (.t 10) (.c (.int .i64 2))⟩,
         ⟨(some 13), none, .mv (.t 14)⟩])
    (.cond (.t 13) (.seq (.reg [4] [⟨(some 4), none, .mv (.c (.str [116, 101, 120, 116]))⟩])
      .ret)
    (.seq (.reg [15] [⟨(some 16), none, .bin .eql .other true (.t 10) (.c (.int .i64 3))⟩,
         ⟨(some 15), none, .mv (.t 16)⟩])
    (.cond (.t 15) (.seq (.reg [5] [⟨(some 17), none, .mv (.t 0)⟩,
           ⟨(some 18), none, .faddr 2 (.t 3)⟩,
           ⟨(some 19), none, .load none (.t 18)⟩,
           ⟨(some 20), none, .iaddr (some 5) (.t 19) (.c (.int .i64 0))⟩,
           ⟨(some 21), none, .load (some 5) (.t 20)⟩,
           ⟨(some 22), none, .call (.c (.fn 33)) [(.t 17), (.t 21)]⟩,
           ⟨(some 5), none, .mv (.t 22)⟩])
      (.seq (.seq (.reg [28] [⟨(some 23), none, .faddr 2 (.t 3)⟩,
            ⟨(some 24), none, .load none (.t 23)⟩,
            ⟨(some 25), none, .iaddr (some 5) (.t 24) (.c (.int .i64 0))⟩,
            ⟨(some 26), none, .faddr 0 (.t 25)⟩,
            ⟨(some 27), none, .load none (.t 26)⟩,
            ⟨(some 28), none, .bin .eql .other true (.t 27) (.c (.int .i64 3))⟩])
       (.cond (.t 28) (.reg [5] [⟨(some 29), none, .mv (.t 5)⟩,
             ⟨(some 30), none, .bin .add .other true (.c (.str [40])) (.t 29)⟩,
             ⟨(some 31), none, .bin .add .other true (.t 30) (.c (.str [41]))⟩,
             ⟨(some 5), none, .mv (.t 31)⟩])
       .skip))
      (.seq (.reg [4] [⟨(some 32), none, .mv (.t 5)⟩,
           ⟨(some 33), none, .bin .add .other true (.t 32) (.c (.str [32, 45, 62, 32]))⟩,
           ⟨(some 34), none, .mv (.t 0)⟩,
           ⟨(some 35), none, .faddr 2 (.t 3)⟩,
           ⟨(some 36), none, .load none (.t 35)⟩,
           ⟨(some 37), none, .iaddr (some 5) (.t 36) (.c (.int .i64 1))⟩,
           ⟨(some 38), none, .load (some 5) (.t 37)⟩,
           ⟨(some 39), none, .call (.c (.fn 33)) [(.t 34), (.t 38)]⟩,
           ⟨(some 40), none, .bin .add .other false (.t 33) (.t 39)⟩,
           ⟨(some 4), none, .mv (.t 40)⟩])
      .ret)))
    (.seq (.reg [41] [⟨(some 42), none, .bin .eql .other true (.t 10) (.c (.int .i64 6))⟩,
         ⟨(some 41), none, .mv (.t 42)⟩])
    (.cond (.t 41) (.seq (.reg [6] [⟨(some 43), none, .mv (.t 0)⟩,
           ⟨(some 44), none, .faddr 2 (.t 3)⟩,
           ⟨(some 45), none, .load none (.t 44)⟩,
           ⟨(some 46), none, .iaddr (some 5) (.t 45) (.c (.int .i64 0))⟩,
           ⟨(some 47), none, .load (some 5) (.t 46)⟩,
           ⟨(some 48), none, .call (.c (.fn 33)) [(.t 43), (.t 47)]⟩,
           ⟨(some 6), none, .mv (.t 48)⟩])
      (.seq (.seq (.reg [62] [⟨(some 49), none, .faddr 2 (.t 3)⟩,
            ⟨(some 50), none, .load none (.t 49)⟩,
            ⟨(some 51), none, .iaddr (some 5) (.t 50) (.c (.int .i64 0))⟩,
            ⟨(some 52), none, .faddr 0 (.t 51)⟩,
            ⟨(some 53), none, .load none (.t 52)⟩,
            ⟨(some 54), none, .bin .eql .other true (.t 53) (.c (.int .i64 3))⟩,
            ⟨(some 55), none, .mv (.t 54)⟩,
            ⟨(some 56), (some (55, false)), .faddr 2 (.t 3)⟩,
            ⟨(some 57), (some (55, false)), .load none (.t 56)⟩,
            ⟨(some 58), (some (55, false)), .iaddr (some 5) (.t 57) (.c (.int .i64 0))⟩,
            ⟨(some 59), (some (55, false)), .faddr 0 (.t 58)⟩,
            ⟨(some 60), (some (55, false)), .load none (.t 59)⟩,
            ⟨(some 61), (some (55, false)), .bin .eql .other true (.t 60) (.c (.int .i64 6))⟩,
            ⟨(some 62), none, .pick (.t 55) (.c (.bool true)) (.t 61)⟩])
       (.cond (.t 62) (.reg [6] [⟨(some 63), none, .mv (.t 6)⟩,
             ⟨(some 64), none, .bin .add .other true (.c (.str [40])) (.t 63)⟩,
             ⟨(some 65), none, .bin .add .other true (.t 64) (.c (.str [41]))⟩,
             ⟨(some 6), none, .mv (.t 65)⟩])
       .skip))
      (.seq (.reg [4] [⟨(some 66), none, .mv (.t 6)⟩,
           ⟨(some 67), none, .bin .add .other true (.c (.str [114, 101, 102, 32])) (.t 66)⟩,
           ⟨(some 4), none, .mv (.t 67)⟩])
      .ret)))
    (.seq (.reg [68] [⟨(some 69), none, .bin .eql .other true (.t 10) (.c (.int .i64 7))⟩,
         ⟨(some 68), none, .mv (.t 69)⟩])
    (.cond (.t 68) (.seq (.any [4] [(⟨(some 70), none, .mv (.t 0)⟩, true),
           (⟨(some 71), none, .nilck (.t 70)⟩, true),
           (⟨(some 72), none, .faddr 0 (.t 71)⟩, true),
           (⟨(some 73), none, .load none (.t 72)⟩, true),
           (⟨(some 74), none, .faddr 1 (.t 3)⟩, false),
           (⟨(some 75), none, .load none (.t 74)⟩, false),
           (⟨(some 76), none, .call (.c (.fn 21)) [(.t 73), (.t 75)]⟩, true),
           (⟨(some 77), none, .call (.c (.fn 50)) [(.t 76)]⟩, true),
           (⟨(some 78), none, .bin .add .other true (.c (.str [39])) (.t 77)⟩, true),
           (⟨(some 4), none, .mv (.t 78)⟩, true)])
      .ret)
    .skip))))))))))))
  (.seq (.reg [7] [⟨(some 7), none, .mv (.c (.str []))⟩])
  (.seq (.seq (.reg [8] [⟨(some 8), none, .mv (.c (.int .i64 0))⟩])
   (.block 1 (.loop (.seq (.seq (.reg [83] [⟨(some 79), none, .mv (.t 8)⟩,
           ⟨(some 80), none, .faddr 2 (.t 3)⟩,
           ⟨(some 81), none, .load none (.t 80)⟩,
           ⟨(some 82), none, .len .sl (.t 81)⟩,
           ⟨(some 83), none, .bin .lss .other false (.t 79) (.t 82)⟩])
      (.cond (.t 83) .skip
      (.exit 1)))
     (.seq (.block 2 (.seq (.seq (.reg [87] [⟨(some 86), none, .mv (.t 8)⟩,
             ⟨(some 87), none, .bin .gtr .other true (.t 86) (.c (.int .i64 0))⟩])
        (.cond (.t 87) (.reg [7] [⟨(some 88), none, .mv (.t 7)⟩,
              ⟨(some 89), none, .bin .add .other true (.t 88) (.c (.str [44, 32]))⟩,
              ⟨(some 7), none, .mv (.t 89)⟩])
        .skip))
       (.any [7] [(⟨(some 90), none, .mv (.t 7)⟩, true),
           (⟨(some 91), none, .faddr 3 (.t 3)⟩, false),
           (⟨(some 92), none, .load none (.t 91)⟩, false),
           (⟨(some 93), none, .mv (.t 8)⟩, false),
           (⟨(some 94), none, .iaddr none (.t 92) (.t 93)⟩, false),
           (⟨(some 95), none, .load none (.t 94)⟩, false),
           (⟨(some 96), none, .bin .add .other false (.t 90) (.t 95)⟩, true),
           (⟨(some 97), none, .bin .add .other true (.t 96) (.c (.str [32, 58, 32]))⟩, true),
           (⟨(some 98), none, .mv (.t 0)⟩, false),
           (⟨(some 99), none, .faddr 2 (.t 3)⟩, false),
           (⟨(some 100), none, .load none (.t 99)⟩, false),
           (⟨(some 101), none, .mv (.t 8)⟩, false),
           (⟨(some 102), none, .iaddr (some 5) (.t 100) (.t 101)⟩, false),
           (⟨(some 103), none, .load (some 5) (.t 102)⟩, false),
           (⟨(some 104), none, .call (.c (.fn 33)) [(.t 98), (.t 103)]⟩, false),
           (⟨(some 105), none, .bin .add .other false (.t 97) (.t 104)⟩, true),
           (⟨(some 7), none, .mv (.t 105)⟩, true)])))
     (.reg [8] [⟨(some 84), none, .mv (.t 8)⟩,
         ⟨(some 85), none, .bin .add .other true (.t 84) (.c (.int .i64 1))⟩,
         ⟨(some 8), none, .mv (.t 85)⟩]))))))
  (.seq (.seq (.reg [108] [⟨(some 106), none, .faddr 4 (.t 3)⟩,
        ⟨(some 107), none, .load none (.t 106)⟩,
        ⟨(some 108), none, .bin .geq .other true (.t 107) (.c (.int .i64 0))⟩])
   (.cond (.t 108) (.seq (.seq (.reg [112] [⟨(some 109), none, .faddr 2 (.t 3)⟩,
           ⟨(some 110), none, .load none (.t 109)⟩,
           ⟨(some 111), none, .len .sl (.t 110)⟩,
           ⟨(some 112), none, .bin .gtr .other true (.t 111) (.c (.int .i64 0))⟩])
      (.cond (.t 112) (.reg [7] [⟨(some 113), none, .mv (.t 7)⟩,
            ⟨(some 114), none, .bin .add .other true (.t 113) (.c (.str [32, 124, 32]))⟩,
            ⟨(some 7), none, .mv (.t 114)⟩])
      .skip))
     (.any [7] [(⟨(some 115), none, .mv (.t 7)⟩, true),
         (⟨(some 116), none, .bin .add .other true (.t 115) (.c (.str [46, 46]))⟩, true),
         (⟨(some 117), none, .mv (.t 0)⟩, false),
         (⟨(some 118), none, .nilck (.t 117)⟩, false),
         (⟨(some 119), none, .faddr 1 (.t 118)⟩, false),
         (⟨(some 120), none, .load none (.t 119)⟩, false),
         (⟨(some 121), none, .faddr 4 (.t 3)⟩, false),
         (⟨(some 122), none, .load none (.t 121)⟩, false),
         (⟨(some 123), none, .call (.c (.fn 21)) [(.t 120), (.t 122)]⟩, false),
         (⟨(some 124), none, .call (.c (.fn 50)) [(.t 123)]⟩, false),
         (⟨(some 125), none, .bin .add .other false (.t 116) (.t 124)⟩, true),
         (⟨(some 7), none, .mv (.t 125)⟩, true)]))
   .skip))
  (.seq (.seq (.reg [128] [⟨(some 126), none, .faddr 0 (.t 3)⟩,
        ⟨(some 127), none, .load none (.t 126)⟩,
        ⟨(some 128), none, .bin .eql .other true (.t 127) (.c (.int .i64 4))⟩])
   (.cond (.t 128) (.seq (.reg [4] [⟨(some 129), none, .mv (.t 7)⟩,
          ⟨(some 130), none, .bin .add .other true (.c (.str [123])) (.t 129)⟩,
          ⟨(some 131), none, .bin .add .other true (.t 130) (.c (.str [125]))⟩,
          ⟨(some 4), none, .mv (.t 131)⟩])
     .ret)
   .skip))
  (.seq (.reg [4] [⟨(some 132), none, .mv (.t 7)⟩,
       ⟨(some 133), none, .bin .add .other true (.c (.str [60])) (.t 132)⟩,
       ⟨(some 134), none, .bin .add .other true (.t 133) (.c (.str [62]))⟩,
       ⟨(some 4), none, .mv (.t 134)⟩])
  .ret)))))))⟩
theorem c33 : compF Tryd.prog [0, 1, 3, 4, 5, 6, 7, 8, 10, 11, 13, 15, 28, 41, 62, 68, 83, 87, 108, 112, 128] Tryd.f33 = some a33 := by kernel_rfl

/- slices.Clone[[]string,string] -/
def a34 : AFun := ⟨8, [.tmp 2], (.seq (.reg [2] [⟨(some 2), none, .mv (.c .snil)⟩])
  (.seq (.seq (.reg [4] [⟨(some 3), none, .mv (.t 0)⟩,
        ⟨(some 4), none, .bin .eql .sl true (.t 3) (.c .snil)⟩])
   (.cond (.t 4) (.seq (.reg [2] [⟨(some 2), none, .mv (.c .snil)⟩])
     .ret)
   .skip))
  (.seq (.reg [2] [⟨(some 5), none, .mksl none []⟩,
       ⟨(some 6), none, .mv (.t 0)⟩,
       ⟨(some 7), none, .append none 16 (.t 5) (.t 6)⟩,
       ⟨(some 2), none, .mv (.t 7)⟩])
  .ret)))⟩
theorem c34 : compF Tryd.prog [0, 2, 4] Tryd.f34 = some a34 := by kernel_rfl

/- slices.Clone[[]bushel/api.Type,bushel/api.Type] -/
def a35 : AFun := ⟨8, [.tmp 2], (.seq (.reg [2] [⟨(some 2), none, .mv (.c .snil)⟩])
  (.seq (.seq (.reg [4] [⟨(some 3), none, .mv (.t 0)⟩,
        ⟨(some 4), none, .bin .eql .sl true (.t 3) (.c .snil)⟩])
   (.cond (.t 4) (.seq (.reg [2] [⟨(some 2), none, .mv (.c .snil)⟩])
     .ret)
   .skip))
  (.seq (.reg [2] [⟨(some 5), none, .mksl (some 5) []⟩,
       ⟨(some 6), none, .mv (.t 0)⟩,
       ⟨(some 7), none, .append (some 5) 72 (.t 5) (.t 6)⟩,
       ⟨(some 2), none, .mv (.t 7)⟩])
  .ret)))⟩
theorem c35 : compF Tryd.prog [0, 2, 4] Tryd.f35 = some a35 := by kernel_rfl

/- (*bushel/typ.putter).count -/
def a36 : AFun := ⟨69, [.tmp 4], (.seq (.reg [3, 4] [⟨(some 3), none, .box (.t 1)⟩,
       ⟨(some 4), none, .mv (.c (.int .i64 0))⟩])
  (.seq (.seq (.any [5, 6] [(⟨(some 13), none, .mv (.t 0)⟩, true),
        (⟨(some 14), none, .nilck (.t 13)⟩, true),
        (⟨(some 15), none, .faddr 0 (.t 14)⟩, true),
        (⟨(some 16), none, .load none (.t 15)⟩, true),
        (⟨(some 17), none, .faddr 1 (.t 3)⟩, false),
        (⟨(some 18), none, .load none (.t 17)⟩, false),
        (⟨(some 19), none, .ext (.mget (.int .i64) true (.agg [(.int .i64 0), (.int .i64 0), .snil, .snil, (.int .i64 0)])) [(.t 16), (.t 18)]⟩, true),
        (⟨(some 12), none, .mv (.t 19)⟩, true),
        (⟨(some 20), none, .extract (.t 12) 0⟩, true),
        (⟨(some 21), none, .extract (.t 12) 1⟩, false),
        (⟨(some 5), none, .alloc [(.int .i64 0), (.int .i64 0), .snil, .snil, (.int .i64 0)]⟩, false),
        (⟨none, none, .store 5 (.t 5) (.t 20)⟩, false),
        (⟨(some 6), none, .mv (.t 21)⟩, true)])
   (.seq (.reg [27] [⟨(some 22), none, .mv (.t 6)⟩,
        ⟨(some 23), none, .mv (.t 22)⟩,
        ⟨(some 24), (some (23, true)), .faddr 0 (.t 3)⟩,
        ⟨(some 25), (some (23, true)), .load none (.t 24)⟩,
        ⟨(some 26), (some (23, true)), .bin .eql .other true (.t 25) (.c (.int .i64 7))⟩,
        ⟨(some 27), none, .pick (.t 23) (.t 26) (.c (.bool false))⟩])
   (.cond (.t 27) (.seq (.reg [4] [⟨(some 28), none, .load (some 5) (.t 5)⟩,
          ⟨(some 29), none, .call (.c (.fn 51)) [(.t 28)]⟩,
          ⟨(some 4), none, .mv (.t 29)⟩])
     .ret)
   .skip)))
  (.seq (.reg [7] [⟨(some 7), none, .mv (.c (.int .i64 1))⟩])
  (.seq (.seq (.reg [31, 32, 33] [⟨(some 30), none, .faddr 2 (.t 3)⟩,
        ⟨(some 31), none, .load none (.t 30)⟩,
        ⟨(some 32), none, .len .sl (.t 31)⟩,
        ⟨(some 33), none, .mv (.c (.int .i64 0))⟩])
   (.block 0 (.loop (.seq (.reg [34] [⟨(some 34), none, .bin .lss .other false (.t 33) (.t 32)⟩])
     (.seq (.cond (.t 34) .skip
      (.exit 0))
     (.seq (.block 1 (.seq (.reg [9] [⟨(some 35), none, .iaddr (some 5) (.t 31) (.t 33)⟩,
            ⟨(some 36), none, .load (some 5) (.t 35)⟩,
            ⟨(some 9), none, .alloc [(.int .i64 0), (.int .i64 0), .snil, .snil, (.int .i64 0)]⟩,
            ⟨none, none, .store 5 (.t 9) (.t 36)⟩])
       (.reg [7] [⟨(some 37), none, .mv (.t 7)⟩,
           ⟨(some 38), none, .mv (.t 0)⟩,
           ⟨(some 39), none, .load (some 5) (.t 9)⟩,
           ⟨(some 40), none, .call (.c (.fn 36)) [(.t 38), (.t 39)]⟩,
           ⟨(some 41), none, .bin .add .other false (.t 37) (.t 40)⟩,
           ⟨(some 7), none, .mv (.t 41)⟩])))
     (.reg [33] [⟨(some 42), none, .bin .add .other true (.t 33) (.c (.int .i64 1))⟩,
         ⟨(some 33), none, .mv (.t 42)⟩])))))))
  (.seq (.seq (.any [10, 11] [(⟨(some 44), none, .mv (.t 0)⟩, true),
        (⟨(some 45), none, .nilck (.t 44)⟩, true),
        (⟨(some 46), none, .faddr 1 (.t 45)⟩, true),
        (⟨(some 47), none, .load none (.t 46)⟩, true),
        (⟨(some 48), none, .faddr 4 (.t 3)⟩, false),
        (⟨(some 49), none, .load none (.t 48)⟩, false),
        (⟨(some 50), none, .ext (.mget (.int .i64) true (.agg [(.int .i64 0), (.int .i64 0), .snil, .snil, (.int .i64 0)])) [(.t 47), (.t 49)]⟩, true),
        (⟨(some 43), none, .mv (.t 50)⟩, true),
        (⟨(some 51), none, .extract (.t 43) 0⟩, true),
        (⟨(some 52), none, .extract (.t 43) 1⟩, false),
        (⟨(some 10), none, .alloc [(.int .i64 0), (.int .i64 0), .snil, .snil, (.int .i64 0)]⟩, false),
        (⟨none, none, .store 5 (.t 10) (.t 51)⟩, false),
        (⟨(some 11), none, .mv (.t 52)⟩, true)])
   (.seq (.reg [62] [⟨(some 53), none, .mv (.t 11)⟩,
        ⟨(some 54), none, .mv (.t 53)⟩,
        ⟨(some 55), (some (54, true)), .load (some 5) (.t 3)⟩,
        ⟨(some 56), (some (54, true)), .call (.c (.fn 39)) [(.t 55)]⟩,
        ⟨(some 57), none, .pick (.t 54) (.t 56) (.c (.bool false))⟩,
        ⟨(some 58), none, .mv (.t 57)⟩,
        ⟨(some 59), (some (58, true)), .faddr 4 (.t 3)⟩,
        ⟨(some 60), (some (58, true)), .load none (.t 59)⟩,
        ⟨(some 61), (some (58, true)), .bin .geq .other true (.t 60) (.c (.int .i64 0))⟩,
        ⟨(some 62), none, .pick (.t 58) (.t 61) (.c (.bool false))⟩])
   (.cond (.t 62) (.reg [7] [⟨(some 63), none, .mv (.t 7)⟩,
         ⟨(some 64), none, .load (some 5) (.t 10)⟩,
         ⟨(some 65), none, .call (.c (.fn 51)) [(.t 64)]⟩,
         ⟨(some 66), none, .bin .sub .other true (.t 65) (.c (.int .i64 1))⟩,
         ⟨(some 67), none, .bin .add .other false (.t 63) (.t 66)⟩,
         ⟨(some 7), none, .mv (.t 67)⟩])
   .skip)))
  (.seq (.reg [4] [⟨(some 68), none, .mv (.t 7)⟩,
       ⟨(some 4), none, .mv (.t 68)⟩])
  .ret))))))⟩
theorem c36 : compF Tryd.prog [0, 1, 3, 4, 5, 6, 7, 9, 10, 11, 27, 31, 32, 33, 34, 62] Tryd.f36 = some a36 := by kernel_rfl

/- (*bushel/typ.putter).put -/
def a37 : AFun := ⟨117, [.cell 4 (some 5)], (.seq (.reg [3, 4] [⟨(some 3), none, .box (.t 1)⟩,
       ⟨(some 4), none, .alloc [(.int .i64 0), (.int .i64 0), .snil, .snil, (.int .i64 0)]⟩])
  (.seq (.seq (.any [5, 6] [(⟨(some 15), none, .mv (.t 0)⟩, true),
        (⟨(some 16), none, .nilck (.t 15)⟩, true),
        (⟨(some 17), none, .faddr 0 (.t 16)⟩, true),
        (⟨(some 18), none, .load none (.t 17)⟩, true),
        (⟨(some 19), none, .faddr 1 (.t 3)⟩, false),
        (⟨(some 20), none, .load none (.t 19)⟩, false),
        (⟨(some 21), none, .ext (.mget (.int .i64) true (.agg [(.int .i64 0), (.int .i64 0), .snil, .snil, (.int .i64 0)])) [(.t 18), (.t 20)]⟩, true),
        (⟨(some 14), none, .mv (.t 21)⟩, true),
        (⟨(some 22), none, .extract (.t 14) 0⟩, true),
        (⟨(some 23), none, .extract (.t 14) 1⟩, false),
        (⟨(some 5), none, .alloc [(.int .i64 0), (.int .i64 0), .snil, .snil, (.int .i64 0)]⟩, false),
        (⟨none, none, .store 5 (.t 5) (.t 22)⟩, false),
        (⟨(some 6), none, .mv (.t 23)⟩, true)])
   (.seq (.reg [29] [⟨(some 24), none, .mv (.t 6)⟩,
        ⟨(some 25), none, .mv (.t 24)⟩,
        ⟨(some 26), (some (25, true)), .faddr 0 (.t 3)⟩,
        ⟨(some 27), (some (25, true)), .load none (.t 26)⟩,
        ⟨(some 28), (some (25, true)), .bin .eql .other true (.t 27) (.c (.int .i64 7))⟩,
        ⟨(some 29), none, .pick (.t 25) (.t 28) (.c (.bool false))⟩])
   (.cond (.t 29) (.seq (.reg [] [⟨(some 30), none, .load (some 5) (.t 5)⟩,
          ⟨(some 31), none, .call (.c (.fn 52)) [(.t 30)]⟩,
          ⟨none, none, .store 5 (.t 4) (.t 31)⟩])
     .ret)
   .skip)))
  (.seq (.reg [7] [⟨(some 32), none, .load (some 5) (.t 3)⟩,
       ⟨(some 7), none, .alloc [(.int .i64 0), (.int .i64 0), .snil, .snil, (.int .i64 0)]⟩,
       ⟨none, none, .store 5 (.t 7) (.t 32)⟩])
  (.seq (.reg [] [⟨(some 33), none, .faddr 3 (.t 3)⟩,
       ⟨(some 34), none, .load none (.t 33)⟩,
       ⟨(some 35), none, .call (.c (.fn 34)) [(.t 34)]⟩,
       ⟨(some 36), none, .faddr 3 (.t 7)⟩,
       ⟨none, none, .store 1 (.t 36) (.t 35)⟩,
       ⟨(some 37), none, .faddr 2 (.t 7)⟩,
       ⟨none, none, .store 1 (.t 37) (.c .snil)⟩])
  (.seq (.seq (.reg [39, 40, 41] [⟨(some 38), none, .faddr 2 (.t 3)⟩,
        ⟨(some 39), none, .load none (.t 38)⟩,
        ⟨(some 40), none, .len .sl (.t 39)⟩,
        ⟨(some 41), none, .mv (.c (.int .i64 0))⟩])
   (.block 0 (.loop (.seq (.reg [42] [⟨(some 42), none, .bin .lss .other false (.t 41) (.t 40)⟩])
     (.seq (.cond (.t 42) .skip
      (.exit 0))
     (.seq (.block 1 (.seq (.reg [9] [⟨(some 43), none, .iaddr (some 5) (.t 39) (.t 41)⟩,
            ⟨(some 44), none, .load (some 5) (.t 43)⟩,
            ⟨(some 9), none, .alloc [(.int .i64 0), (.int .i64 0), .snil, .snil, (.int .i64 0)]⟩,
            ⟨none, none, .store 5 (.t 9) (.t 44)⟩])
       (.alt [] [(⟨(some 45), none, .faddr 2 (.t 7)⟩, true),
           (⟨(some 46), none, .load none (.t 45)⟩, true),
           (⟨(some 47), none, .mv (.t 0)⟩, false),
           (⟨(some 48), none, .load (some 5) (.t 9)⟩, false),
           (⟨(some 50), none, .len .sl (.t 46)⟩, false),
           (⟨(some 51), none, .mksl (some 5) [(.c (.agg [(.int .i64 0), (.int .i64 0), .snil, .snil, (.int .i64 0)]))]⟩, false),
           (⟨(some 49), none, .call (.c (.fn 37)) [(.t 47), (.t 48)]⟩, false),
           (⟨(some 52), none, .append (some 5) 72 (.t 46) (.t 51)⟩, true),
           (⟨(some 53), none, .iaddr (some 5) (.t 52) (.t 50)⟩, true),
           (⟨(some 54), none, .faddr 2 (.t 7)⟩, false)] (⟨none, none, .store 5 (.t 53) (.t 49)⟩, true) (⟨none, none, .store 1 (.t 54) (.t 52)⟩, true) [] [])))
     (.reg [41] [⟨(some 55), none, .bin .add .other true (.t 41) (.c (.int .i64 1))⟩,
         ⟨(some 41), none, .mv (.t 55)⟩])))))))
  (.seq (.seq (.any [10, 11] [(⟨(some 57), none, .mv (.t 0)⟩, true),
        (⟨(some 58), none, .nilck (.t 57)⟩, true),
        (⟨(some 59), none, .faddr 1 (.t 58)⟩, true),
        (⟨(some 60), none, .load none (.t 59)⟩, true),
        (⟨(some 61), none, .faddr 4 (.t 3)⟩, false),
        (⟨(some 62), none, .load none (.t 61)⟩, false),
        (⟨(some 63), none, .ext (.mget (.int .i64) true (.agg [(.int .i64 0), (.int .i64 0), .snil, .snil, (.int .i64 0)])) [(.t 60), (.t 62)]⟩, true),
        (⟨(some 56), none, .mv (.t 63)⟩, true),
        (⟨(some 64), none, .extract (.t 56) 0⟩, true),
        (⟨(some 65), none, .extract (.t 56) 1⟩, false),
        (⟨(some 10), none, .alloc [(.int .i64 0), (.int .i64 0), .snil, .snil, (.int .i64 0)]⟩, false),
        (⟨none, none, .store 5 (.t 10) (.t 64)⟩, false),
        (⟨(some 11), none, .mv (.t 65)⟩, true)])
   (.seq (.reg [75] [⟨(some 66), none, .mv (.t 11)⟩,
        ⟨(some 67), none, .mv (.t 66)⟩,
        ⟨(some 68), (some (67, true)), .load (some 5) (.t 3)⟩,
        ⟨(some 69), (some (67, true)), .call (.c (.fn 39)) [(.t 68)]⟩,
        ⟨(some 70), none, .pick (.t 67) (.t 69) (.c (.bool false))⟩,
        ⟨(some 71), none, .mv (.t 70)⟩,
        ⟨(some 72), (some (71, true)), .faddr 4 (.t 3)⟩,
        ⟨(some 73), (some (71, true)), .load none (.t 72)⟩,
        ⟨(some 74), (some (71, true)), .bin .geq .other true (.t 73) (.c (.int .i64 0))⟩,
        ⟨(some 75), none, .pick (.t 71) (.t 74) (.c (.bool false))⟩])
   (.cond (.t 75) (.seq (.seq (.reg [77, 78, 79] [⟨(some 76), none, .faddr 3 (.t 10)⟩,
           ⟨(some 77), none, .load none (.t 76)⟩,
           ⟨(some 78), none, .len .sl (.t 77)⟩,
           ⟨(some 79), none, .mv (.c (.int .i64 0))⟩])
      (.block 2 (.loop (.seq (.reg [80] [⟨(some 80), none, .bin .lss .other false (.t 79) (.t 78)⟩])
        (.seq (.cond (.t 80) .skip
         (.exit 2))
        (.seq (.block 3 (.seq (.reg [12, 13] [⟨(some 81), none, .mv (.t 79)⟩,
               ⟨(some 82), none, .iaddr none (.t 77) (.t 79)⟩,
               ⟨(some 83), none, .load none (.t 82)⟩,
               ⟨(some 12), none, .mv (.t 81)⟩,
               ⟨(some 13), none, .mv (.t 83)⟩])
          (.any [] [(⟨(some 84), none, .faddr 3 (.t 7)⟩, true),
              (⟨(some 85), none, .load none (.t 84)⟩, true),
              (⟨(some 86), none, .mv (.t 13)⟩, false),
              (⟨(some 87), none, .mksl none [(.t 86)]⟩, false),
              (⟨(some 89), none, .faddr 2 (.t 7)⟩, false),
              (⟨(some 90), none, .load none (.t 89)⟩, false),
              (⟨(some 91), none, .faddr 2 (.t 10)⟩, false),
              (⟨(some 92), none, .load none (.t 91)⟩, false),
              (⟨(some 93), none, .mv (.t 12)⟩, false),
              (⟨(some 94), none, .iaddr (some 5) (.t 92) (.t 93)⟩, false),
              (⟨(some 95), none, .load (some 5) (.t 94)⟩, false),
              (⟨(some 88), none, .append none 16 (.t 85) (.t 87)⟩, false),
              (⟨(some 96), none, .call (.c (.fn 52)) [(.t 95)]⟩, false),
              (⟨(some 97), none, .mksl (some 5) [(.t 96)]⟩, false),
              (⟨(some 98), none, .append (some 5) 72 (.t 90) (.t 97)⟩, true),
              (⟨(some 99), none, .faddr 3 (.t 7)⟩, true),
              (⟨none, none, .store 1 (.t 99) (.t 88)⟩, true),
              (⟨(some 100), none, .faddr 2 (.t 7)⟩, true),
              (⟨none, none, .store 1 (.t 100) (.t 98)⟩, true)])))
        (.reg [79] [⟨(some 101), none, .bin .add .other true (.t 79) (.c (.int .i64 1))⟩,
            ⟨(some 79), none, .mv (.t 101)⟩])))))))
     (.seq (.reg [] [⟨(some 102), none, .faddr 4 (.t 10)⟩,
          ⟨(some 103), none, .load none (.t 102)⟩,
          ⟨(some 104), none, .faddr 4 (.t 7)⟩,
          ⟨none, none, .store 1 (.t 104) (.t 103)⟩])
     (.reg [] [⟨(some 105), none, .mv (.t 0)⟩,
         ⟨(some 106), none, .call (.c (.fn 53)) [(.t 7)]⟩,
         ⟨(some 107), none, .un .not (.t 106)⟩,
         ⟨(some 108), none, .mv (.t 107)⟩,
         ⟨(some 109), (some (108, false)), .mv (.t 0)⟩,
         ⟨(some 110), (some (108, false)), .nilck (.t 109)⟩,
         ⟨(some 111), (some (108, false)), .faddr 2 (.t 110)⟩,
         ⟨(some 112), (some (108, false)), .load none (.t 111)⟩,
         ⟨(some 113), none, .pick (.t 108) (.c (.bool true)) (.t 112)⟩,
         ⟨(some 114), none, .nilck (.t 105)⟩,
         ⟨(some 115), none, .faddr 2 (.t 114)⟩,
         ⟨none, none, .store 1 (.t 115) (.t 113)⟩])))
   .skip)))
  (.seq (.reg [] [⟨(some 116), none, .load (some 5) (.t 7)⟩,
       ⟨none, none, .store 5 (.t 4) (.t 116)⟩])
  .ret)))))))⟩
theorem c37 : compF Tryd.prog [0, 1, 3, 4, 5, 6, 7, 9, 10, 11, 12, 13, 29, 39, 40, 41, 42, 75, 77, 78, 79, 80] Tryd.f37 = some a37 := by kernel_rfl

/- slices.Index[[]int,int] -/
def a38 : AFun := ⟨19, [.tmp 4], (.seq (.reg [4] [⟨(some 4), none, .mv (.c (.int .i64 0))⟩])
  (.seq (.seq (.reg [7, 8] [⟨(some 6), none, .mv (.t 0)⟩,
        ⟨(some 7), none, .len .sl (.t 6)⟩,
        ⟨(some 8), none, .mv (.c (.int .i64 0))⟩])
   (.block 0 (.loop (.seq (.reg [9] [⟨(some 9), none, .bin .lss .other false (.t 8) (.t 7)⟩])
     (.seq (.cond (.t 9) .skip
      (.exit 0))
     (.seq (.block 1 (.seq (.reg [5] [⟨(some 10), none, .mv (.t 8)⟩,
            ⟨(some 5), none, .mv (.t 10)⟩])
       (.seq (.reg [16] [⟨(some 11), none, .mv (.t 1)⟩,
            ⟨(some 12), none, .mv (.t 0)⟩,
            ⟨(some 13), none, .mv (.t 5)⟩,
            ⟨(some 14), none, .iaddr none (.t 12) (.t 13)⟩,
            ⟨(some 15), none, .load none (.t 14)⟩,
            ⟨(some 16), none, .bin .eql .other false (.t 11) (.t 15)⟩])
       (.cond (.t 16) (.seq (.reg [4] [⟨(some 17), none, .mv (.t 5)⟩,
              ⟨(some 4), none, .mv (.t 17)⟩])
         .ret)
       .skip))))
     (.reg [8] [⟨(some 18), none, .bin .add .other true (.t 8) (.c (.int .i64 1))⟩,
         ⟨(some 8), none, .mv (.t 18)⟩])))))))
  (.seq (.reg [4] [⟨(some 4), none, .mv (.c (.int .i64 (-1)))⟩])
  .ret)))⟩
theorem c38 : compF Tryd.prog [0, 1, 4, 5, 7, 8, 9, 16] Tryd.f38 = some a38 := by kernel_rfl

/- bushel/typ.isRow -/
def a39 : AFun := ⟨11, [.tmp 2], (.seq (.reg [1, 2] [⟨(some 1), none, .box (.t 0)⟩,
       ⟨(some 2), none, .mv (.c (.bool false))⟩])
  (.seq (.reg [2] [⟨(some 3), none, .faddr 0 (.t 1)⟩,
       ⟨(some 4), none, .load none (.t 3)⟩,
       ⟨(some 5), none, .bin .eql .other true (.t 4) (.c (.int .i64 4))⟩,
       ⟨(some 6), none, .mv (.t 5)⟩,
       ⟨(some 7), (some (6, false)), .faddr 0 (.t 1)⟩,
       ⟨(some 8), (some (6, false)), .load none (.t 7)⟩,
       ⟨(some 9), (some (6, false)), .bin .eql .other true (.t 8) (.c (.int .i64 5))⟩,
       ⟨(some 10), none, .pick (.t 6) (.c (.bool true)) (.t 9)⟩,
       ⟨(some 2), none, .mv (.t 10)⟩])
  .ret))⟩
theorem c39 : compF Tryd.prog [0, 1, 2] Tryd.f39 = some a39 := by kernel_rfl

/- bushel/typ.parts -/
def a40 : AFun := ⟨19, [.tmp 2], (.seq (.reg [1, 2] [⟨(some 1), none, .box (.t 0)⟩,
       ⟨(some 2), none, .mv (.c (.int .i64 0))⟩])
  (.seq (.seq (.reg [4] [⟨(some 3), none, .faddr 0 (.t 1)⟩,
        ⟨(some 4), none, .load none (.t 3)⟩])
   (.block 0 (.seq (.seq (.reg [5] [⟨(some 6), none, .bin .eql .other true (.t 4) (.c (.int .i64 1))⟩,
          ⟨(some 5), none, .mv (.t 6)⟩])
     (.cond (.t 5) .skip
     (.seq (.reg [5] [⟨(some 7), none, .bin .eql .other true (.t 4) (.c (.int .i64 2))⟩,
          ⟨(some 5), none, .mv (.t 7)⟩])
     (.cond (.t 5) .skip
     (.reg [5] [⟨(some 8), none, .bin .eql .other true (.t 4) (.c (.int .i64 7))⟩,
         ⟨(some 5), none, .mv (.t 8)⟩])))))
    (.cond (.t 5) (.seq (.reg [2] [⟨(some 2), none, .mv (.c (.int .i64 0))⟩])
      .ret)
    (.seq (.reg [9] [⟨(some 10), none, .bin .eql .other true (.t 4) (.c (.int .i64 6))⟩,
         ⟨(some 9), none, .mv (.t 10)⟩])
    (.cond (.t 9) (.seq (.reg [2] [⟨(some 2), none, .mv (.c (.int .i64 1))⟩])
      .ret)
    (.seq (.reg [11] [⟨(some 12), none, .bin .eql .other true (.t 4) (.c (.int .i64 3))⟩,
         ⟨(some 11), none, .mv (.t 12)⟩])
    (.cond (.t 11) (.seq (.reg [2] [⟨(some 2), none, .mv (.c (.int .i64 2))⟩])
      .ret)
    (.seq (.seq (.reg [13] [⟨(some 14), none, .bin .eql .other true (.t 4) (.c (.int .i64 4))⟩,
          ⟨(some 13), none, .mv (.t 14)⟩])
     (.cond (.t 13) .skip
     (.reg [13] [⟨(some 15), none, .bin .eql .other true (.t 4) (.c (.int .i64 5))⟩,
         ⟨(some 13), none, .mv (.t 15)⟩])))
    (.cond (.t 13) (.seq (.reg [2] [⟨(some 16), none, .faddr 3 (.t 1)⟩,
           ⟨(some 17), none, .load none (.t 16)⟩,
           ⟨(some 18), none, .len .sl (.t 17)⟩,
           ⟨(some 2), none, .mv (.t 18)⟩])
      .ret)
    .skip))))))))))
  (.seq (.reg [2] [⟨(some 2), none, .mv (.c (.int .i64 (-1)))⟩])
  .ret)))⟩
theorem c40 : compF Tryd.prog [0, 1, 2, 4, 5, 9, 11, 13] Tryd.f40 = some a40 := by kernel_rfl

/- bushel/label.Is -/
def a41 : AFun := ⟨24, [.tmp 2], (.seq (.reg [2] [⟨(some 2), none, .mv (.c (.bool false))⟩])
  (.seq (.seq (.reg [5, 6] [⟨(some 4), none, .mv (.t 0)⟩,
        ⟨(some 5), none, .len .sl (.t 4)⟩,
        ⟨(some 6), none, .mv (.c (.int .i64 0))⟩])
   (.block 0 (.loop (.seq (.reg [7] [⟨(some 7), none, .bin .lss .other false (.t 6) (.t 5)⟩])
     (.seq (.cond (.t 7) .skip
      (.exit 0))
     (.seq (.block 1 (.seq (.reg [3] [⟨(some 8), none, .mv (.t 6)⟩,
            ⟨(some 3), none, .mv (.t 8)⟩])
       (.seq (.any [22] [(⟨(some 9), none, .mv (.t 3)⟩, true),
            (⟨(some 10), none, .bin .gtr .other true (.t 9) (.c (.int .i64 0))⟩, true),
            (⟨(some 11), none, .mv (.t 10)⟩, true),
            (⟨(some 12), (some (11, true)), .mv (.t 0)⟩, true),
            (⟨(some 13), (some (11, true)), .mv (.t 3)⟩, false),
            (⟨(some 14), (some (11, true)), .bin .sub .other true (.t 13) (.c (.int .i64 1))⟩, false),
            (⟨(some 15), (some (11, true)), .iaddr none (.t 12) (.t 14)⟩, true),
            (⟨(some 16), (some (11, true)), .load none (.t 15)⟩, true),
            (⟨(some 17), (some (11, true)), .mv (.t 0)⟩, false),
            (⟨(some 18), (some (11, true)), .mv (.t 3)⟩, false),
            (⟨(some 19), (some (11, true)), .iaddr none (.t 17) (.t 18)⟩, false),
            (⟨(some 20), (some (11, true)), .load none (.t 19)⟩, false),
            (⟨(some 21), (some (11, true)), .bin .geq .other false (.t 16) (.t 20)⟩, true),
            (⟨(some 22), none, .pick (.t 11) (.t 21) (.c (.bool false))⟩, true)])
       (.cond (.t 22) (.seq (.reg [2] [⟨(some 2), none, .mv (.c (.bool false))⟩])
         .ret)
       .skip))))
     (.reg [6] [⟨(some 23), none, .bin .add .other true (.t 6) (.c (.int .i64 1))⟩,
         ⟨(some 6), none, .mv (.t 23)⟩])))))))
  (.seq (.reg [2] [⟨(some 2), none, .mv (.c (.bool true))⟩])
  .ret)))⟩
theorem c41 : compF Tryd.prog [0, 2, 3, 5, 6, 7, 22] Tryd.f41 = some a41 := by kernel_rfl

/- slices.Contains[[]string,string] -/
def a42 : AFun := ⟨9, [.tmp 4], (.seq (.reg [4] [⟨(some 4), none, .mv (.c (.bool false))⟩])
  (.seq (.reg [4] [⟨(some 5), none, .mv (.t 0)⟩,
       ⟨(some 6), none, .mv (.t 1)⟩,
       ⟨(some 7), none, .call (.c (.fn 54)) [(.t 5), (.t 6)]⟩,
       ⟨(some 8), none, .bin .geq .other true (.t 7) (.c (.int .i64 0))⟩,
       ⟨(some 4), none, .mv (.t 8)⟩])
  .ret))⟩
theorem c42 : compF Tryd.prog [0, 1, 4] Tryd.f42 = some a42 := by kernel_rfl

/- slices.ContainsFunc[[]bushel/api.Type,bushel/api.Type] -/
def a43 : AFun := ⟨9, [.tmp 4], (.seq (.reg [4] [⟨(some 4), none, .mv (.c (.bool false))⟩])
  (.seq (.reg [4] [⟨(some 5), none, .mv (.t 0)⟩,
       ⟨(some 6), none, .mv (.t 1)⟩,
       ⟨(some 7), none, .call (.c (.fn 55)) [(.t 5), (.t 6)]⟩,
       ⟨(some 8), none, .bin .geq .other true (.t 7) (.c (.int .i64 0))⟩,
       ⟨(some 4), none, .mv (.t 8)⟩])
  .ret))⟩
theorem c43 : compF Tryd.prog [0, 1, 4] Tryd.f43 = some a43 := by kernel_rfl

/- bushel/typ.fine$1 -/
def a44 : AFun := ⟨8, [.tmp 3], (.seq (.reg [2, 3] [⟨(some 2), none, .box (.t 0)⟩,
       ⟨(some 3), none, .mv (.c (.bool false))⟩])
  (.seq (.reg [3] [⟨(some 4), none, .load (some 5) (.t 2)⟩,
       ⟨(some 5), none, .load none (.t 1)⟩,
       ⟨(some 6), none, .call (.c (.fn 26)) [(.t 4), (.t 5)]⟩,
       ⟨(some 7), none, .un .not (.t 6)⟩,
       ⟨(some 3), none, .mv (.t 7)⟩])
  .ret))⟩
theorem c44 : compF Tryd.prog [0, 1, 2, 3] Tryd.f44 = some a44 := by kernel_rfl

/- bushel/bushelref08.Is -/
def a45 : AFun := ⟨20, [.tmp 2], (.seq (.reg [2] [⟨(some 2), none, .mv (.c (.bool false))⟩])
  (.seq (.seq (.reg [3] [⟨(some 3), none, .mv (.c (.int .i64 1))⟩])
   (.block 0 (.loop (.seq (.seq (.reg [7] [⟨(some 4), none, .mv (.t 3)⟩,
           ⟨(some 5), none, .mv (.t 0)⟩,
           ⟨(some 6), none, .len .sl (.t 5)⟩,
           ⟨(some 7), none, .bin .lss .other false (.t 4) (.t 6)⟩])
      (.cond (.t 7) .skip
      (.exit 0)))
     (.seq (.block 1 (.seq (.any [19] [(⟨(some 10), none, .mv (.t 0)⟩, true),
            (⟨(some 11), none, .mv (.t 3)⟩, false),
            (⟨(some 12), none, .iaddr none (.t 10) (.t 11)⟩, true),
            (⟨(some 13), none, .load none (.t 12)⟩, true),
            (⟨(some 14), none, .mv (.t 0)⟩, false),
            (⟨(some 15), none, .mv (.t 3)⟩, false),
            (⟨(some 16), none, .bin .sub .other true (.t 15) (.c (.int .i64 1))⟩, false),
            (⟨(some 17), none, .iaddr none (.t 14) (.t 16)⟩, false),
            (⟨(some 18), none, .load none (.t 17)⟩, false),
            (⟨(some 19), none, .bin .leq .other false (.t 13) (.t 18)⟩, true)])
       (.cond (.t 19) (.seq (.reg [2] [⟨(some 2), none, .mv (.c (.bool false))⟩])
         .ret)
       .skip)))
     (.reg [3] [⟨(some 8), none, .mv (.t 3)⟩,
         ⟨(some 9), none, .bin .add .other true (.t 8) (.c (.int .i64 1))⟩,
         ⟨(some 3), none, .mv (.t 9)⟩]))))))
  (.seq (.reg [2] [⟨(some 2), none, .mv (.c (.bool true))⟩])
  .ret)))⟩
theorem c45 : compF Tryd.prog [0, 2, 3, 7, 19] Tryd.f45 = some a45 := by kernel_rfl

/- bushel/bushelref08.Has -/
def a46 : AFun := ⟨18, [.tmp 4], (.seq (.reg [4] [⟨(some 4), none, .mv (.c (.bool false))⟩])
  (.seq (.seq (.reg [5] [⟨(some 5), none, .mv (.c (.int .i64 0))⟩])
   (.block 0 (.loop (.seq (.seq (.reg [9] [⟨(some 6), none, .mv (.t 5)⟩,
           ⟨(some 7), none, .mv (.t 0)⟩,
           ⟨(some 8), none, .len .sl (.t 7)⟩,
           ⟨(some 9), none, .bin .lss .other false (.t 6) (.t 8)⟩])
      (.cond (.t 9) .skip
      (.exit 0)))
     (.seq (.block 1 (.seq (.reg [17] [⟨(some 12), none, .mv (.t 0)⟩,
            ⟨(some 13), none, .mv (.t 5)⟩,
            ⟨(some 14), none, .iaddr none (.t 12) (.t 13)⟩,
            ⟨(some 15), none, .load none (.t 14)⟩,
            ⟨(some 16), none, .mv (.t 1)⟩,
            ⟨(some 17), none, .bin .eql .other false (.t 15) (.t 16)⟩])
       (.cond (.t 17) (.seq (.reg [4] [⟨(some 4), none, .mv (.c (.bool true))⟩])
         .ret)
       .skip)))
     (.reg [5] [⟨(some 10), none, .mv (.t 5)⟩,
         ⟨(some 11), none, .bin .add .other true (.t 10) (.c (.int .i64 1))⟩,
         ⟨(some 5), none, .mv (.t 11)⟩]))))))
  (.seq (.reg [4] [⟨(some 4), none, .mv (.c (.bool false))⟩])
  .ret)))⟩
theorem c46 : compF Tryd.prog [0, 1, 4, 5, 9, 17] Tryd.f46 = some a46 := by kernel_rfl

/- bushel/bushelref05.texts -/
def a47 : AFun := ⟨26, [.tmp 4], (.seq (.reg [4] [⟨(some 4), none, .mv (.c (.bool false))⟩])
  (.seq (.seq (.reg [10] [⟨(some 6), none, .mv (.t 0)⟩,
        ⟨(some 7), none, .len .sl (.t 6)⟩,
        ⟨(some 8), none, .mv (.t 1)⟩,
        ⟨(some 9), none, .len .sl (.t 8)⟩,
        ⟨(some 10), none, .bin .neq .other false (.t 7) (.t 9)⟩])
   (.cond (.t 10) (.seq (.reg [4] [⟨(some 4), none, .mv (.c (.bool false))⟩])
     .ret)
   .skip))
  (.seq (.seq (.reg [5] [⟨(some 5), none, .mv (.c (.int .i64 0))⟩])
   (.block 0 (.loop (.seq (.seq (.reg [14] [⟨(some 11), none, .mv (.t 5)⟩,
           ⟨(some 12), none, .mv (.t 0)⟩,
           ⟨(some 13), none, .len .sl (.t 12)⟩,
           ⟨(some 14), none, .bin .lss .other false (.t 11) (.t 13)⟩])
      (.cond (.t 14) .skip
      (.exit 0)))
     (.seq (.block 1 (.seq (.any [25] [(⟨(some 17), none, .mv (.t 0)⟩, true),
            (⟨(some 18), none, .mv (.t 5)⟩, false),
            (⟨(some 19), none, .iaddr none (.t 17) (.t 18)⟩, true),
            (⟨(some 20), none, .load none (.t 19)⟩, true),
            (⟨(some 21), none, .mv (.t 1)⟩, false),
            (⟨(some 22), none, .mv (.t 5)⟩, false),
            (⟨(some 23), none, .iaddr none (.t 21) (.t 22)⟩, false),
            (⟨(some 24), none, .load none (.t 23)⟩, false),
            (⟨(some 25), none, .bin .neq .other false (.t 20) (.t 24)⟩, true)])
       (.cond (.t 25) (.seq (.reg [4] [⟨(some 4), none, .mv (.c (.bool false))⟩])
         .ret)
       .skip)))
     (.reg [5] [⟨(some 15), none, .mv (.t 5)⟩,
         ⟨(some 16), none, .bin .add .other true (.t 15) (.c (.int .i64 1))⟩,
         ⟨(some 5), none, .mv (.t 16)⟩]))))))
  (.seq (.reg [4] [⟨(some 4), none, .mv (.c (.bool true))⟩])
  .ret))))⟩
theorem c47 : compF Tryd.prog [0, 1, 4, 5, 10, 14, 25] Tryd.f47 = some a47 := by kernel_rfl

/- bushel/typ.within -/
def a48 : AFun := ⟨10, [.tmp 4], (.seq (.reg [4] [⟨(some 4), none, .mv (.c (.str []))⟩])
  (.seq (.seq (.reg [5] [⟨(some 5), none, .mv (.t 1)⟩])
   (.cond (.t 5) (.seq (.reg [4] [⟨(some 6), none, .mv (.t 0)⟩,
          ⟨(some 7), none, .bin .add .other true (.c (.str [40])) (.t 6)⟩,
          ⟨(some 8), none, .bin .add .other true (.t 7) (.c (.str [41]))⟩,
          ⟨(some 4), none, .mv (.t 8)⟩])
     .ret)
   .skip))
  (.seq (.reg [4] [⟨(some 9), none, .mv (.t 0)⟩,
       ⟨(some 4), none, .mv (.t 9)⟩])
  .ret)))⟩
theorem c48 : compF Tryd.prog [0, 1, 4, 5] Tryd.f48 = some a48 := by kernel_rfl

/- (bushel/typ.teller).row -/
def a49 : AFun := ⟨59, [.tmp 8], (.seq (.reg [4, 5, 8] [⟨(some 4), none, .box (.t 0)⟩,
       ⟨(some 5), none, .box (.t 1)⟩,
       ⟨(some 8), none, .mv (.c (.str []))⟩])
  (.seq (.reg [9] [⟨(some 9), none, .mv (.c .snil)⟩])
  (.seq (.seq (.reg [14, 15, 16] [⟨(some 13), none, .faddr 3 (.t 5)⟩,
        ⟨(some 14), none, .load none (.t 13)⟩,
        ⟨(some 15), none, .len .sl (.t 14)⟩,
        ⟨(some 16), none, .mv (.c (.int .i64 0))⟩])
   (.block 0 (.loop (.seq (.reg [17] [⟨(some 17), none, .bin .lss .other false (.t 16) (.t 15)⟩])
     (.seq (.cond (.t 17) .skip
      (.exit 0))
     (.seq (.block 1 (.seq (.reg [10, 11] [⟨(some 18), none, .mv (.t 16)⟩,
            ⟨(some 19), none, .iaddr none (.t 14) (.t 16)⟩,
            ⟨(some 20), none, .load none (.t 19)⟩,
            ⟨(some 10), none, .mv (.t 18)⟩,
            ⟨(some 11), none, .mv (.t 20)⟩])
       (.any [9] [(⟨(some 21), none, .mv (.t 9)⟩, true),
           (⟨(some 22), none, .mv (.t 11)⟩, false),
           (⟨(some 23), none, .bin .add .other true (.t 22) (.c (.str [32, 58, 32]))⟩, false),
           (⟨(some 24), none, .load (some 2) (.t 4)⟩, false),
           (⟨(some 25), none, .faddr 2 (.t 5)⟩, false),
           (⟨(some 26), none, .load none (.t 25)⟩, false),
           (⟨(some 27), none, .mv (.t 10)⟩, false),
           (⟨(some 28), none, .iaddr (some 5) (.t 26) (.t 27)⟩, false),
           (⟨(some 29), none, .load (some 5) (.t 28)⟩, false),
           (⟨(some 30), none, .call (.c (.fn 32)) [(.t 24), (.t 29)]⟩, false),
           (⟨(some 31), none, .bin .add .other false (.t 23) (.t 30)⟩, false),
           (⟨(some 32), none, .mksl none [(.t 31)]⟩, false),
           (⟨(some 33), none, .append none 16 (.t 21) (.t 32)⟩, true),
           (⟨(some 9), none, .mv (.t 33)⟩, true)])))
     (.reg [16] [⟨(some 34), none, .bin .add .other true (.t 16) (.c (.int .i64 1))⟩,
         ⟨(some 16), none, .mv (.t 34)⟩])))))))
  (.seq (.reg [12] [⟨(some 35), none, .mv (.t 9)⟩,
       ⟨(some 36), none, .call (.c (.fn 56)) [(.t 35), (.c (.str [44, 32]))]⟩,
       ⟨(some 12), none, .mv (.t 36)⟩])
  (.seq (.seq (.reg [39] [⟨(some 37), none, .faddr 4 (.t 5)⟩,
        ⟨(some 38), none, .load none (.t 37)⟩,
        ⟨(some 39), none, .bin .geq .other true (.t 38) (.c (.int .i64 0))⟩])
   (.cond (.t 39) (.seq (.seq (.reg [42] [⟨(some 40), none, .mv (.t 9)⟩,
           ⟨(some 41), none, .len .sl (.t 40)⟩,
           ⟨(some 42), none, .bin .gtr .other true (.t 41) (.c (.int .i64 0))⟩])
      (.cond (.t 42) (.reg [12] [⟨(some 43), none, .mv (.t 12)⟩,
            ⟨(some 44), none, .bin .add .other true (.t 43) (.c (.str [32, 124, 32]))⟩,
            ⟨(some 12), none, .mv (.t 44)⟩])
      .skip))
     (.reg [12] [⟨(some 45), none, .mv (.t 12)⟩,
         ⟨(some 46), none, .faddr 1 (.t 4)⟩,
         ⟨(some 47), none, .load none (.t 46)⟩,
         ⟨(some 48), none, .faddr 4 (.t 5)⟩,
         ⟨(some 49), none, .load none (.t 48)⟩,
         ⟨(some 50), none, .call (.c (.fn 38)) [(.t 47), (.t 49)]⟩,
         ⟨(some 51), none, .call (.c (.fn 50)) [(.t 50)]⟩,
         ⟨(some 52), none, .bin .add .other true (.c (.str [46, 46])) (.t 51)⟩,
         ⟨(some 53), none, .bin .add .other false (.t 45) (.t 52)⟩,
         ⟨(some 12), none, .mv (.t 53)⟩]))
   .skip))
  (.seq (.reg [8] [⟨(some 54), none, .mv (.t 2)⟩,
       ⟨(some 55), none, .mv (.t 12)⟩,
       ⟨(some 56), none, .bin .add .other false (.t 54) (.t 55)⟩,
       ⟨(some 57), none, .mv (.t 3)⟩,
       ⟨(some 58), none, .bin .add .other false (.t 56) (.t 57)⟩,
       ⟨(some 8), none, .mv (.t 58)⟩])
  .ret))))))⟩
theorem c49 : compF Tryd.prog [0, 1, 2, 3, 4, 5, 8, 9, 10, 11, 12, 14, 15, 16, 17, 39, 42] Tryd.f49 = some a49 := by kernel_rfl

/- bushel/typ.nodes -/
def a51 : AFun := ⟨19, [.tmp 2], (.seq (.reg [1, 2] [⟨(some 1), none, .box (.t 0)⟩,
       ⟨(some 2), none, .mv (.c (.int .i64 0))⟩])
  (.seq (.reg [3] [⟨(some 3), none, .mv (.c (.int .i64 1))⟩])
  (.seq (.seq (.reg [7, 8, 9] [⟨(some 6), none, .faddr 2 (.t 1)⟩,
        ⟨(some 7), none, .load none (.t 6)⟩,
        ⟨(some 8), none, .len .sl (.t 7)⟩,
        ⟨(some 9), none, .mv (.c (.int .i64 0))⟩])
   (.block 0 (.loop (.seq (.reg [10] [⟨(some 10), none, .bin .lss .other false (.t 9) (.t 8)⟩])
     (.seq (.cond (.t 10) .skip
      (.exit 0))
     (.seq (.block 1 (.seq (.reg [5] [⟨(some 11), none, .iaddr (some 5) (.t 7) (.t 9)⟩,
            ⟨(some 12), none, .load (some 5) (.t 11)⟩,
            ⟨(some 5), none, .alloc [(.int .i64 0), (.int .i64 0), .snil, .snil, (.int .i64 0)]⟩,
            ⟨none, none, .store 5 (.t 5) (.t 12)⟩])
       (.reg [3] [⟨(some 13), none, .mv (.t 3)⟩,
           ⟨(some 14), none, .load (some 5) (.t 5)⟩,
           ⟨(some 15), none, .call (.c (.fn 51)) [(.t 14)]⟩,
           ⟨(some 16), none, .bin .add .other false (.t 13) (.t 15)⟩,
           ⟨(some 3), none, .mv (.t 16)⟩])))
     (.reg [9] [⟨(some 17), none, .bin .add .other true (.t 9) (.c (.int .i64 1))⟩,
         ⟨(some 9), none, .mv (.t 17)⟩])))))))
  (.seq (.reg [2] [⟨(some 18), none, .mv (.t 3)⟩,
       ⟨(some 2), none, .mv (.t 18)⟩])
  .ret))))⟩
theorem c51 : compF Tryd.prog [0, 1, 2, 3, 5, 7, 8, 9, 10] Tryd.f51 = some a51 := by kernel_rfl

/- bushel/typ.copied -/
def a52 : AFun := ⟨28, [.cell 2 (some 5)], (.seq (.reg [1, 2] [⟨(some 1), none, .box (.t 0)⟩,
       ⟨(some 2), none, .alloc [(.int .i64 0), (.int .i64 0), .snil, .snil, (.int .i64 0)]⟩])
  (.seq (.reg [3] [⟨(some 6), none, .load (some 5) (.t 1)⟩,
       ⟨(some 3), none, .alloc [(.int .i64 0), (.int .i64 0), .snil, .snil, (.int .i64 0)]⟩,
       ⟨none, none, .store 5 (.t 3) (.t 6)⟩])
  (.seq (.reg [] [⟨(some 7), none, .faddr 3 (.t 1)⟩,
       ⟨(some 8), none, .load none (.t 7)⟩,
       ⟨(some 9), none, .call (.c (.fn 34)) [(.t 8)]⟩,
       ⟨(some 10), none, .faddr 3 (.t 3)⟩,
       ⟨none, none, .store 1 (.t 10) (.t 9)⟩,
       ⟨(some 11), none, .faddr 2 (.t 3)⟩,
       ⟨none, none, .store 1 (.t 11) (.c .snil)⟩])
  (.seq (.seq (.reg [13, 14, 15] [⟨(some 12), none, .faddr 2 (.t 1)⟩,
        ⟨(some 13), none, .load none (.t 12)⟩,
        ⟨(some 14), none, .len .sl (.t 13)⟩,
        ⟨(some 15), none, .mv (.c (.int .i64 0))⟩])
   (.block 0 (.loop (.seq (.reg [16] [⟨(some 16), none, .bin .lss .other false (.t 15) (.t 14)⟩])
     (.seq (.cond (.t 16) .skip
      (.exit 0))
     (.seq (.block 1 (.seq (.reg [5] [⟨(some 17), none, .iaddr (some 5) (.t 13) (.t 15)⟩,
            ⟨(some 18), none, .load (some 5) (.t 17)⟩,
            ⟨(some 5), none, .alloc [(.int .i64 0), (.int .i64 0), .snil, .snil, (.int .i64 0)]⟩,
            ⟨none, none, .store 5 (.t 5) (.t 18)⟩])
       (.any [] [(⟨(some 19), none, .faddr 2 (.t 3)⟩, true),
           (⟨(some 20), none, .load none (.t 19)⟩, true),
           (⟨(some 21), none, .load (some 5) (.t 5)⟩, false),
           (⟨(some 22), none, .call (.c (.fn 52)) [(.t 21)]⟩, false),
           (⟨(some 23), none, .mksl (some 5) [(.t 22)]⟩, false),
           (⟨(some 24), none, .append (some 5) 72 (.t 20) (.t 23)⟩, true),
           (⟨(some 25), none, .faddr 2 (.t 3)⟩, true),
           (⟨none, none, .store 1 (.t 25) (.t 24)⟩, true)])))
     (.reg [15] [⟨(some 26), none, .bin .add .other true (.t 15) (.c (.int .i64 1))⟩,
         ⟨(some 15), none, .mv (.t 26)⟩])))))))
  (.seq (.reg [] [⟨(some 27), none, .load (some 5) (.t 3)⟩,
       ⟨none, none, .store 5 (.t 2) (.t 27)⟩])
  .ret)))))⟩
theorem c52 : compF Tryd.prog [0, 1, 2, 3, 5, 13, 14, 15, 16] Tryd.f52 = some a52 := by kernel_rfl

/- bushel/typ.sorted -/
def a53 : AFun := ⟨76, [.tmp 2], (.seq (.reg [1, 2] [⟨(some 1), none, .box (.t 0)⟩,
       ⟨(some 2), none, .mv (.c (.bool false))⟩])
  (.seq (.reg [3] [⟨(some 8), none, .load none (.t 1)⟩,
       ⟨(some 9), none, .nilck (.t 8)⟩,
       ⟨(some 10), none, .faddr 3 (.t 9)⟩,
       ⟨(some 11), none, .load none (.t 10)⟩,
       ⟨(some 12), none, .len .sl (.t 11)⟩,
       ⟨(some 13), none, .ext (.mkvec none 8 [(.int .i64 0)]) [(.t 12), (.t 12)]⟩,
       ⟨(some 3), none, .mv (.t 13)⟩])
  (.seq (.seq (.reg [15, 16] [⟨(some 14), none, .mv (.t 3)⟩,
        ⟨(some 15), none, .len .sl (.t 14)⟩,
        ⟨(some 16), none, .mv (.c (.int .i64 0))⟩])
   (.block 0 (.loop (.seq (.reg [17] [⟨(some 17), none, .bin .lss .other false (.t 16) (.t 15)⟩])
     (.seq (.cond (.t 17) .skip
      (.exit 0))
     (.seq (.block 1 (.seq (.reg [4] [⟨(some 18), none, .mv (.t 16)⟩,
            ⟨(some 4), none, .mv (.t 18)⟩])
       (.reg [] [⟨(some 19), none, .mv (.t 3)⟩,
           ⟨(some 20), none, .mv (.t 4)⟩,
           ⟨(some 21), none, .mv (.t 4)⟩,
           ⟨(some 22), none, .iaddr none (.t 19) (.t 20)⟩,
           ⟨none, none, .store 1 (.t 22) (.t 21)⟩])))
     (.reg [16] [⟨(some 23), none, .bin .add .other true (.t 16) (.c (.int .i64 1))⟩,
         ⟨(some 16), none, .mv (.t 23)⟩])))))))
  (.seq (.reg [] [⟨(some 24), none, .mv (.t 3)⟩,
       ⟨(some 25), none, .mkfn 59 [(.t 1)]⟩,
       ⟨(some 26), none, .call (.c (.fn 58)) [(.t 24), (.t 25)]⟩])
  (.seq (.reg [5] [⟨(some 27), none, .load none (.t 1)⟩,
       ⟨(some 28), none, .nilck (.t 27)⟩,
       ⟨(some 29), none, .load (some 5) (.t 28)⟩,
       ⟨(some 5), none, .alloc [(.int .i64 0), (.int .i64 0), .snil, .snil, (.int .i64 0)]⟩,
       ⟨none, none, .store 5 (.t 5) (.t 29)⟩])
  (.seq (.any [] [(⟨(some 30), none, .load none (.t 1)⟩, true),
       (⟨(some 31), none, .load none (.t 1)⟩, false),
       (⟨(some 32), none, .nilck (.t 30)⟩, false),
       (⟨(some 33), none, .faddr 3 (.t 32)⟩, false),
       (⟨none, none, .store 1 (.t 33) (.c .snil)⟩, false),
       (⟨(some 34), none, .nilck (.t 31)⟩, true),
       (⟨(some 35), none, .faddr 2 (.t 34)⟩, true),
       (⟨none, none, .store 1 (.t 35) (.c .snil)⟩, true)])
  (.seq (.seq (.reg [36, 37, 38] [⟨(some 36), none, .mv (.t 3)⟩,
        ⟨(some 37), none, .len .sl (.t 36)⟩,
        ⟨(some 38), none, .mv (.c (.int .i64 0))⟩])
   (.block 2 (.loop (.seq (.reg [39] [⟨(some 39), none, .bin .lss .other false (.t 38) (.t 37)⟩])
     (.seq (.cond (.t 39) .skip
      (.exit 2))
     (.seq (.block 3 (.seq (.reg [7] [⟨(some 40), none, .iaddr none (.t 36) (.t 38)⟩,
            ⟨(some 41), none, .load none (.t 40)⟩,
            ⟨(some 7), none, .mv (.t 41)⟩])
       (.any [] [(⟨(some 42), none, .load none (.t 1)⟩, true),
           (⟨(some 43), none, .load none (.t 1)⟩, false),
           (⟨(some 44), none, .load none (.t 1)⟩, false),
           (⟨(some 45), none, .nilck (.t 44)⟩, false),
           (⟨(some 46), none, .faddr 3 (.t 45)⟩, false),
           (⟨(some 47), none, .load none (.t 46)⟩, false),
           (⟨(some 48), none, .faddr 3 (.t 5)⟩, false),
           (⟨(some 49), none, .load none (.t 48)⟩, false),
           (⟨(some 50), none, .mv (.t 7)⟩, false),
           (⟨(some 51), none, .iaddr none (.t 49) (.t 50)⟩, false),
           (⟨(some 52), none, .load none (.t 51)⟩, false),
           (⟨(some 53), none, .mksl none [(.t 52)]⟩, false),
           (⟨(some 55), none, .load none (.t 1)⟩, false),
           (⟨(some 56), none, .nilck (.t 55)⟩, false),
           (⟨(some 57), none, .faddr 2 (.t 56)⟩, false),
           (⟨(some 58), none, .load none (.t 57)⟩, false),
           (⟨(some 59), none, .faddr 2 (.t 5)⟩, false),
           (⟨(some 60), none, .load none (.t 59)⟩, false),
           (⟨(some 61), none, .mv (.t 7)⟩, false),
           (⟨(some 62), none, .iaddr (some 5) (.t 60) (.t 61)⟩, false),
           (⟨(some 63), none, .load (some 5) (.t 62)⟩, false),
           (⟨(some 64), none, .mksl (some 5) [(.t 63)]⟩, false),
           (⟨(some 54), none, .append none 16 (.t 47) (.t 53)⟩, false),
           (⟨(some 65), none, .append (some 5) 72 (.t 58) (.t 64)⟩, false),
           (⟨(some 66), none, .nilck (.t 42)⟩, false),
           (⟨(some 67), none, .faddr 3 (.t 66)⟩, false),
           (⟨none, none, .store 1 (.t 67) (.t 54)⟩, false),
           (⟨(some 68), none, .nilck (.t 43)⟩, true),
           (⟨(some 69), none, .faddr 2 (.t 68)⟩, true),
           (⟨none, none, .store 1 (.t 69) (.t 65)⟩, true)])))
     (.reg [38] [⟨(some 70), none, .bin .add .other true (.t 38) (.c (.int .i64 1))⟩,
         ⟨(some 38), none, .mv (.t 70)⟩])))))))
  (.seq (.reg [2] [⟨(some 71), none, .load none (.t 1)⟩,
       ⟨(some 72), none, .nilck (.t 71)⟩,
       ⟨(some 73), none, .faddr 3 (.t 72)⟩,
       ⟨(some 74), none, .load none (.t 73)⟩,
       ⟨(some 75), none, .call (.c (.fn 41)) [(.t 74)]⟩,
       ⟨(some 2), none, .mv (.t 75)⟩])
  .ret))))))))⟩
theorem c53 : compF Tryd.prog [0, 1, 2, 3, 4, 5, 7, 15, 16, 17, 36, 37, 38, 39] Tryd.f53 = some a53 := by kernel_rfl

/- slices.Index[[]string,string] -/
def a54 : AFun := ⟨19, [.tmp 4], (.seq (.reg [4] [⟨(some 4), none, .mv (.c (.int .i64 0))⟩])
  (.seq (.seq (.reg [7, 8] [⟨(some 6), none, .mv (.t 0)⟩,
        ⟨(some 7), none, .len .sl (.t 6)⟩,
        ⟨(some 8), none, .mv (.c (.int .i64 0))⟩])
   (.block 0 (.loop (.seq (.reg [9] [⟨(some 9), none, .bin .lss .other false (.t 8) (.t 7)⟩])
     (.seq (.cond (.t 9) .skip
      (.exit 0))
     (.seq (.block 1 (.seq (.reg [5] [⟨(some 10), none, .mv (.t 8)⟩,
            ⟨(some 5), none, .mv (.t 10)⟩])
       (.seq (.reg [16] [⟨(some 11), none, .mv (.t 1)⟩,
            ⟨(some 12), none, .mv (.t 0)⟩,
            ⟨(some 13), none, .mv (.t 5)⟩,
            ⟨(some 14), none, .iaddr none (.t 12) (.t 13)⟩,
            ⟨(some 15), none, .load none (.t 14)⟩,
            ⟨(some 16), none, .bin .eql .other false (.t 11) (.t 15)⟩])
       (.cond (.t 16) (.seq (.reg [4] [⟨(some 17), none, .mv (.t 5)⟩,
              ⟨(some 4), none, .mv (.t 17)⟩])
         .ret)
       .skip))))
     (.reg [8] [⟨(some 18), none, .bin .add .other true (.t 8) (.c (.int .i64 1))⟩,
         ⟨(some 8), none, .mv (.t 18)⟩])))))))
  (.seq (.reg [4] [⟨(some 4), none, .mv (.c (.int .i64 (-1)))⟩])
  .ret)))⟩
theorem c54 : compF Tryd.prog [0, 1, 4, 5, 7, 8, 9, 16] Tryd.f54 = some a54 := by kernel_rfl

/- slices.IndexFunc[[]bushel/api.Type,bushel/api.Type] -/
def a55 : AFun := ⟨19, [.tmp 4], (.seq (.reg [4] [⟨(some 4), none, .mv (.c (.int .i64 0))⟩])
  (.seq (.seq (.reg [7, 8] [⟨(some 6), none, .mv (.t 0)⟩,
        ⟨(some 7), none, .len .sl (.t 6)⟩,
        ⟨(some 8), none, .mv (.c (.int .i64 0))⟩])
   (.block 0 (.loop (.seq (.reg [9] [⟨(some 9), none, .bin .lss .other false (.t 8) (.t 7)⟩])
     (.seq (.cond (.t 9) .skip
      (.exit 0))
     (.seq (.block 1 (.seq (.reg [5] [⟨(some 10), none, .mv (.t 8)⟩,
            ⟨(some 5), none, .mv (.t 10)⟩])
       (.seq (.reg [16] [⟨(some 11), none, .mv (.t 1)⟩,
            ⟨(some 12), none, .mv (.t 0)⟩,
            ⟨(some 13), none, .mv (.t 5)⟩,
            ⟨(some 14), none, .iaddr (some 5) (.t 12) (.t 13)⟩,
            ⟨(some 15), none, .load (some 5) (.t 14)⟩,
            ⟨(some 16), none, .call (.t 11) [(.t 15)]⟩])
       (.cond (.t 16) (.seq (.reg [4] [⟨(some 17), none, .mv (.t 5)⟩,
              ⟨(some 4), none, .mv (.t 17)⟩])
         .ret)
       .skip))))
     (.reg [8] [⟨(some 18), none, .bin .add .other true (.t 8) (.c (.int .i64 1))⟩,
         ⟨(some 8), none, .mv (.t 18)⟩])))))))
  (.seq (.reg [4] [⟨(some 4), none, .mv (.c (.int .i64 (-1)))⟩])
  .ret)))⟩
theorem c55 : compF Tryd.prog [0, 1, 4, 5, 7, 8, 9, 16] Tryd.f55 = some a55 := by kernel_rfl

/- bushel/typ.sorted$1 -/
def a59 : AFun := ⟨21, [.tmp 5], (.seq (.reg [5] [⟨(some 5), none, .mv (.c (.int .i64 0))⟩])
  (.seq (.any [5] [(⟨(some 6), none, .load none (.t 2)⟩, true),
       (⟨(some 7), none, .nilck (.t 6)⟩, true),
       (⟨(some 8), none, .faddr 3 (.t 7)⟩, true),
       (⟨(some 9), none, .load none (.t 8)⟩, true),
       (⟨(some 10), none, .mv (.t 0)⟩, false),
       (⟨(some 11), none, .iaddr none (.t 9) (.t 10)⟩, true),
       (⟨(some 12), none, .load none (.t 11)⟩, true),
       (⟨(some 13), none, .load none (.t 2)⟩, false),
       (⟨(some 14), none, .nilck (.t 13)⟩, false),
       (⟨(some 15), none, .faddr 3 (.t 14)⟩, false),
       (⟨(some 16), none, .load none (.t 15)⟩, false),
       (⟨(some 17), none, .mv (.t 1)⟩, false),
       (⟨(some 18), none, .iaddr none (.t 16) (.t 17)⟩, false),
       (⟨(some 19), none, .load none (.t 18)⟩, false),
       (⟨(some 20), none, .call (.c (.fn 60)) [(.t 12), (.t 19)]⟩, true),
       (⟨(some 5), none, .mv (.t 20)⟩, true)])
  .ret))⟩
theorem c59 : compF Tryd.prog [0, 1, 2, 5] Tryd.f59 = some a59 := by kernel_rfl

/- (*bushel/typ.putter).put -/
def a37m : AFun := ⟨117, [.cell 4 (some 5)], (.seq (.reg [3, 4] [⟨(some 3), none, .box (.t 1)⟩,
       ⟨(some 4), none, .alloc [(.int .i64 0), (.int .i64 0), .snil, .snil, (.int .i64 0)]⟩])
  (.seq (.seq (.any [5, 6] [(⟨(some 15), none, .mv (.t 0)⟩, true),
        (⟨(some 16), none, .nilck (.t 15)⟩, true),
        (⟨(some 17), none, .faddr 0 (.t 16)⟩, true),
        (⟨(some 18), none, .load none (.t 17)⟩, true),
        (⟨(some 19), none, .faddr 1 (.t 3)⟩, false),
        (⟨(some 20), none, .load none (.t 19)⟩, false),
        (⟨(some 21), none, .ext (.mget (.int .i64) true (.agg [(.int .i64 0), (.int .i64 0), .snil, .snil, (.int .i64 0)])) [(.t 18), (.t 20)]⟩, true),
        (⟨(some 14), none, .mv (.t 21)⟩, true),
        (⟨(some 22), none, .extract (.t 14) 0⟩, true),
        (⟨(some 23), none, .extract (.t 14) 1⟩, false),
        (⟨(some 5), none, .alloc [(.int .i64 0), (.int .i64 0), .snil, .snil, (.int .i64 0)]⟩, false),
        (⟨none, none, .store 5 (.t 5) (.t 22)⟩, false),
        (⟨(some 6), none, .mv (.t 23)⟩, true)])
   (.seq (.reg [29] [⟨(some 24), none, .mv (.t 6)⟩,
        ⟨(some 25), none, .mv (.t 24)⟩,
        ⟨(some 26), (some (25, true)), .faddr 0 (.t 3)⟩,
        ⟨(some 27), (some (25, true)), .load none (.t 26)⟩,
        ⟨(some 28), (some (25, true)), .bin .eql .other true (.t 27) (.c (.int .i64 7))⟩,
        ⟨(some 29), none, .pick (.t 25) (.t 28) (.c (.bool false))⟩])
   (.cond (.t 29) (.seq (.reg [] [⟨(some 30), none, .load (some 5) (.t 5)⟩,
          ⟨(some 31), none, .call (.c (.fn 52)) [(.t 30)]⟩,
          ⟨none, none, .store 5 (.t 4) (.t 31)⟩])
     .ret)
   .skip)))
  (.seq (.reg [7] [⟨(some 32), none, .load (some 5) (.t 3)⟩,
       ⟨(some 7), none, .alloc [(.int .i64 0), (.int .i64 0), .snil, .snil, (.int .i64 0)]⟩,
       ⟨none, none, .store 5 (.t 7) (.t 32)⟩])
  (.seq (.reg [] [⟨(some 33), none, .faddr 3 (.t 3)⟩,
       ⟨(some 34), none, .load none (.t 33)⟩,
       ⟨(some 35), none, .call (.c (.fn 34)) [(.t 34)]⟩,
       ⟨(some 36), none, .faddr 3 (.t 7)⟩,
       ⟨none, none, .store 1 (.t 36) (.t 35)⟩,
       ⟨(some 37), none, .faddr 2 (.t 7)⟩,
       ⟨none, none, .store 1 (.t 37) (.c .snil)⟩])
  (.seq (.seq (.reg [39, 40, 41] [⟨(some 38), none, .faddr 2 (.t 3)⟩,
        ⟨(some 39), none, .load none (.t 38)⟩,
        ⟨(some 40), none, .len .sl (.t 39)⟩,
        ⟨(some 41), none, .mv (.c (.int .i64 0))⟩])
   (.block 0 (.loop (.seq (.reg [42] [⟨(some 42), none, .bin .lss .other false (.t 41) (.t 40)⟩])
     (.seq (.cond (.t 42) .skip
      (.exit 0))
     (.seq (.block 1 (.seq (.reg [9] [⟨(some 43), none, .iaddr (some 5) (.t 39) (.t 41)⟩,
            ⟨(some 44), none, .load (some 5) (.t 43)⟩,
            ⟨(some 9), none, .alloc [(.int .i64 0), (.int .i64 0), .snil, .snil, (.int .i64 0)]⟩,
            ⟨none, none, .store 5 (.t 9) (.t 44)⟩])
       (.alt [] [(⟨(some 45), none, .faddr 2 (.t 7)⟩, true),
           (⟨(some 46), none, .load none (.t 45)⟩, true),
           (⟨(some 47), none, .mv (.t 0)⟩, false),
           (⟨(some 48), none, .load (some 5) (.t 9)⟩, false),
           (⟨(some 50), none, .len .sl (.t 46)⟩, false),
           (⟨(some 51), none, .mksl (some 5) [(.c (.agg [(.int .i64 0), (.int .i64 0), .snil, .snil, (.int .i64 0)]))]⟩, false),
           (⟨(some 49), none, .call (.c (.fn 37)) [(.t 47), (.t 48)]⟩, false),
           (⟨(some 52), none, .ext (.appm (some 5) 72) [(.t 46), (.t 51)]⟩, true),
           (⟨(some 53), none, .iaddr (some 5) (.t 52) (.t 50)⟩, true),
           (⟨(some 54), none, .faddr 2 (.t 7)⟩, false)] (⟨none, none, .store 5 (.t 53) (.t 49)⟩, true) (⟨none, none, .store 1 (.t 54) (.t 52)⟩, true) [] [])))
     (.reg [41] [⟨(some 55), none, .bin .add .other true (.t 41) (.c (.int .i64 1))⟩,
         ⟨(some 41), none, .mv (.t 55)⟩])))))))
  (.seq (.seq (.any [10, 11] [(⟨(some 57), none, .mv (.t 0)⟩, true),
        (⟨(some 58), none, .nilck (.t 57)⟩, true),
        (⟨(some 59), none, .faddr 1 (.t 58)⟩, true),
        (⟨(some 60), none, .load none (.t 59)⟩, true),
        (⟨(some 61), none, .faddr 4 (.t 3)⟩, false),
        (⟨(some 62), none, .load none (.t 61)⟩, false),
        (⟨(some 63), none, .ext (.mget (.int .i64) true (.agg [(.int .i64 0), (.int .i64 0), .snil, .snil, (.int .i64 0)])) [(.t 60), (.t 62)]⟩, true),
        (⟨(some 56), none, .mv (.t 63)⟩, true),
        (⟨(some 64), none, .extract (.t 56) 0⟩, true),
        (⟨(some 65), none, .extract (.t 56) 1⟩, false),
        (⟨(some 10), none, .alloc [(.int .i64 0), (.int .i64 0), .snil, .snil, (.int .i64 0)]⟩, false),
        (⟨none, none, .store 5 (.t 10) (.t 64)⟩, false),
        (⟨(some 11), none, .mv (.t 65)⟩, true)])
   (.seq (.reg [75] [⟨(some 66), none, .mv (.t 11)⟩,
        ⟨(some 67), none, .mv (.t 66)⟩,
        ⟨(some 68), (some (67, true)), .load (some 5) (.t 3)⟩,
        ⟨(some 69), (some (67, true)), .call (.c (.fn 39)) [(.t 68)]⟩,
        ⟨(some 70), none, .pick (.t 67) (.t 69) (.c (.bool false))⟩,
        ⟨(some 71), none, .mv (.t 70)⟩,
        ⟨(some 72), (some (71, true)), .faddr 4 (.t 3)⟩,
        ⟨(some 73), (some (71, true)), .load none (.t 72)⟩,
        ⟨(some 74), (some (71, true)), .bin .geq .other true (.t 73) (.c (.int .i64 0))⟩,
        ⟨(some 75), none, .pick (.t 71) (.t 74) (.c (.bool false))⟩])
   (.cond (.t 75) (.seq (.seq (.reg [77, 78, 79] [⟨(some 76), none, .faddr 3 (.t 10)⟩,
           ⟨(some 77), none, .load none (.t 76)⟩,
           ⟨(some 78), none, .len .sl (.t 77)⟩,
           ⟨(some 79), none, .mv (.c (.int .i64 0))⟩])
      (.block 2 (.loop (.seq (.reg [80] [⟨(some 80), none, .bin .lss .other false (.t 79) (.t 78)⟩])
        (.seq (.cond (.t 80) .skip
         (.exit 2))
        (.seq (.block 3 (.seq (.reg [12, 13] [⟨(some 81), none, .mv (.t 79)⟩,
               ⟨(some 82), none, .iaddr none (.t 77) (.t 79)⟩,
               ⟨(some 83), none, .load none (.t 82)⟩,
               ⟨(some 12), none, .mv (.t 81)⟩,
               ⟨(some 13), none, .mv (.t 83)⟩])
          (.any [] [(⟨(some 84), none, .faddr 3 (.t 7)⟩, true),
              (⟨(some 85), none, .load none (.t 84)⟩, true),
              (⟨(some 86), none, .mv (.t 13)⟩, false),
              (⟨(some 87), none, .mksl none [(.t 86)]⟩, false),
              (⟨(some 89), none, .faddr 2 (.t 7)⟩, false),
              (⟨(some 90), none, .load none (.t 89)⟩, false),
              (⟨(some 91), none, .faddr 2 (.t 10)⟩, false),
              (⟨(some 92), none, .load none (.t 91)⟩, false),
              (⟨(some 93), none, .mv (.t 12)⟩, false),
              (⟨(some 94), none, .iaddr (some 5) (.t 92) (.t 93)⟩, false),
              (⟨(some 95), none, .load (some 5) (.t 94)⟩, false),
              (⟨(some 88), none, .append none 16 (.t 85) (.t 87)⟩, false),
              (⟨(some 96), none, .call (.c (.fn 52)) [(.t 95)]⟩, false),
              (⟨(some 97), none, .mksl (some 5) [(.t 96)]⟩, false),
              (⟨(some 98), none, .append (some 5) 72 (.t 90) (.t 97)⟩, true),
              (⟨(some 99), none, .faddr 3 (.t 7)⟩, true),
              (⟨none, none, .store 1 (.t 99) (.t 88)⟩, true),
              (⟨(some 100), none, .faddr 2 (.t 7)⟩, true),
              (⟨none, none, .store 1 (.t 100) (.t 98)⟩, true)])))
        (.reg [79] [⟨(some 101), none, .bin .add .other true (.t 79) (.c (.int .i64 1))⟩,
            ⟨(some 79), none, .mv (.t 101)⟩])))))))
     (.seq (.reg [] [⟨(some 102), none, .faddr 4 (.t 10)⟩,
          ⟨(some 103), none, .load none (.t 102)⟩,
          ⟨(some 104), none, .faddr 4 (.t 7)⟩,
          ⟨none, none, .store 1 (.t 104) (.t 103)⟩])
     (.reg [] [⟨(some 105), none, .mv (.t 0)⟩,
         ⟨(some 106), none, .call (.c (.fn 53)) [(.t 7)]⟩,
         ⟨(some 107), none, .un .not (.t 106)⟩,
         ⟨(some 108), none, .mv (.t 107)⟩,
         ⟨(some 109), (some (108, false)), .mv (.t 0)⟩,
         ⟨(some 110), (some (108, false)), .nilck (.t 109)⟩,
         ⟨(some 111), (some (108, false)), .faddr 2 (.t 110)⟩,
         ⟨(some 112), (some (108, false)), .load none (.t 111)⟩,
         ⟨(some 113), none, .pick (.t 108) (.c (.bool true)) (.t 112)⟩,
         ⟨(some 114), none, .nilck (.t 105)⟩,
         ⟨(some 115), none, .faddr 2 (.t 114)⟩,
         ⟨none, none, .store 1 (.t 115) (.t 113)⟩])))
   .skip)))
  (.seq (.reg [] [⟨(some 116), none, .load (some 5) (.t 7)⟩,
       ⟨none, none, .store 5 (.t 4) (.t 116)⟩])
  .ret)))))))⟩
theorem c37m : compF Tryd.prog [0, 1, 3, 4, 5, 6, 7, 9, 10, 11, 12, 13, 29, 39, 40, 41, 42, 75, 77, 78, 79, 80] Tryd.f37 [52] = some a37m := by kernel_rfl

end Go.Proofs.YtkpnhcccocaakaaDoor
