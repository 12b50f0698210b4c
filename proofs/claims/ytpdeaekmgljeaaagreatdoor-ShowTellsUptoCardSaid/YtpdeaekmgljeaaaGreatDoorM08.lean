/-
  The bodies of functions, in the small language: printed by program, proved by the kernel's computing. (Own work.)
-/
import Derived.Test.YtpdeaekmgljeaaaGreatDoorM07
import Derived.Test.YtpdeaekmgljeaaaGreatDoorChecked
namespace Go.Proofs.YtpdeaekmgljeaaaGreatDoor
open Go Go.Abs

/- bushel/bushellaw05.SynParts -/
def a5 : AFun := ⟨130, [.tmp 2], (.seq (.reg [1, 2] [⟨(some 1), none, .box (.t 0)⟩,
       ⟨(some 2), none, .mv (.c (.bool false))⟩])
  (.seq (.reg [3] [⟨(some 12), none, .call (.c (.fn 22)) []⟩,
       ⟨(some 3), none, .mv (.t 12)⟩])
  (.seq (.reg [4] [⟨(some 13), none, .load (some 8) (.t 1)⟩,
       ⟨(some 14), none, .call (.c (.fn 9)) [(.t 13)]⟩,
       ⟨(some 4), none, .mv (.t 14)⟩])
  (.seq (.seq (.reg [21] [⟨(some 15), none, .mv (.t 4)⟩,
        ⟨(some 16), none, .un .not (.t 15)⟩,
        ⟨(some 17), none, .mv (.t 16)⟩,
        ⟨(some 18), (some (17, false)), .load (some 8) (.t 1)⟩,
        ⟨(some 19), (some (17, false)), .call (.c (.fn 23)) [(.t 18)]⟩,
        ⟨(some 20), (some (17, false)), .un .not (.t 19)⟩,
        ⟨(some 21), none, .pick (.t 17) (.c (.bool true)) (.t 20)⟩])
   (.cond (.t 21) (.seq (.reg [2] [⟨(some 22), none, .mv (.t 3)⟩,
          ⟨(some 2), none, .mv (.t 22)⟩])
     .ret)
   .skip))
  (.seq (.reg [5] [⟨(some 23), none, .load (some 8) (.t 1)⟩,
       ⟨(some 24), none, .call (.c (.fn 24)) [(.t 23)]⟩,
       ⟨(some 5), none, .mv (.t 24)⟩])
  (.seq (.seq (.reg [6] [⟨(some 6), none, .mv (.c (.int .i64 0))⟩])
   (.block 0 (.loop (.seq (.seq (.reg [29] [⟨(some 25), none, .mv (.t 6)⟩,
           ⟨(some 26), none, .faddr 7 (.t 1)⟩,
           ⟨(some 27), none, .load none (.t 26)⟩,
           ⟨(some 28), none, .len .sl (.t 27)⟩,
           ⟨(some 29), none, .bin .lss .other false (.t 25) (.t 28)⟩])
      (.cond (.t 29) .skip
      (.exit 0)))
     (.seq (.block 1 (.seq (.seq (.any [60] [(⟨(some 32), none, .faddr 7 (.t 1)⟩, true),
             (⟨(some 33), none, .load none (.t 32)⟩, true),
             (⟨(some 34), none, .mv (.t 6)⟩, false),
             (⟨(some 35), none, .iaddr (some 8) (.t 33) (.t 34)⟩, true),
             (⟨(some 36), none, .load (some 8) (.t 35)⟩, true),
             (⟨(some 37), none, .call (.c (.fn 23)) [(.t 36)]⟩, true),
             (⟨(some 38), none, .un .not (.t 37)⟩, true),
             (⟨(some 39), none, .mv (.t 38)⟩, true),
             (⟨(some 40), (some (39, false)), .faddr 7 (.t 1)⟩, true),
             (⟨(some 41), (some (39, false)), .load none (.t 40)⟩, true),
             (⟨(some 42), (some (39, false)), .mv (.t 6)⟩, false),
             (⟨(some 43), (some (39, false)), .iaddr (some 8) (.t 41) (.t 42)⟩, true),
             (⟨(some 44), (some (39, false)), .load (some 8) (.t 43)⟩, true),
             (⟨(some 46), (some (39, false)), .load (some 8) (.t 1)⟩, false),
             (⟨(some 45), (some (39, false)), .call (.c (.fn 25)) [(.t 44)]⟩, false),
             (⟨(some 47), (some (39, false)), .call (.c (.fn 25)) [(.t 46)]⟩, true),
             (⟨(some 48), (some (39, false)), .bin .geq .other false (.t 45) (.t 47)⟩, true),
             (⟨(some 49), none, .pick (.t 39) (.c (.bool true)) (.t 48)⟩, true),
             (⟨(some 50), none, .mv (.t 49)⟩, true),
             (⟨(some 51), (some (50, false)), .faddr 7 (.t 1)⟩, true),
             (⟨(some 52), (some (50, false)), .load none (.t 51)⟩, true),
             (⟨(some 53), (some (50, false)), .mv (.t 6)⟩, false),
             (⟨(some 54), (some (50, false)), .iaddr (some 8) (.t 52) (.t 53)⟩, true),
             (⟨(some 55), (some (50, false)), .load (some 8) (.t 54)⟩, true),
             (⟨(some 57), (some (50, false)), .load (some 8) (.t 1)⟩, false),
             (⟨(some 56), (some (50, false)), .call (.c (.fn 26)) [(.t 55)]⟩, false),
             (⟨(some 58), (some (50, false)), .call (.c (.fn 26)) [(.t 57)]⟩, true),
             (⟨(some 59), (some (50, false)), .bin .geq .other false (.t 56) (.t 58)⟩, true),
             (⟨(some 60), none, .pick (.t 50) (.c (.bool true)) (.t 59)⟩, true)])
        (.cond (.t 60) (.seq (.reg [2] [⟨(some 2), none, .mv (.c (.bool false))⟩])
          .ret)
        .skip))
       (.seq (.reg [7] [⟨(some 61), none, .faddr 7 (.t 1)⟩,
            ⟨(some 62), none, .load none (.t 61)⟩,
            ⟨(some 63), none, .mv (.t 6)⟩,
            ⟨(some 64), none, .iaddr (some 8) (.t 62) (.t 63)⟩,
            ⟨(some 65), none, .load (some 8) (.t 64)⟩,
            ⟨(some 66), none, .call (.c (.fn 24)) [(.t 65)]⟩,
            ⟨(some 7), none, .mv (.t 66)⟩])
       (.seq (.reg [8] [⟨(some 8), none, .mv (.c (.int .i64 0))⟩])
       (.block 2 (.loop (.seq (.seq (.reg [70] [⟨(some 67), none, .mv (.t 8)⟩,
               ⟨(some 68), none, .mv (.t 7)⟩,
               ⟨(some 69), none, .len .sl (.t 68)⟩,
               ⟨(some 70), none, .bin .lss .other false (.t 67) (.t 69)⟩])
          (.cond (.t 70) .skip
          (.exit 2)))
         (.seq (.block 3 (.seq (.any [9] [(⟨(some 73), none, .mv (.t 7)⟩, true),
                (⟨(some 74), none, .mv (.t 8)⟩, false),
                (⟨(some 75), none, .iaddr none (.t 73) (.t 74)⟩, true),
                (⟨(some 76), none, .load none (.t 75)⟩, true),
                (⟨(some 77), none, .faddr 3 (.t 1)⟩, false),
                (⟨(some 78), none, .load none (.t 77)⟩, false),
                (⟨(some 79), none, .bin .eql .other false (.t 76) (.t 78)⟩, true),
                (⟨(some 80), none, .mv (.t 79)⟩, true),
                (⟨(some 81), (some (80, false)), .mv (.t 7)⟩, true),
                (⟨(some 82), (some (80, false)), .mv (.t 8)⟩, false),
                (⟨(some 83), (some (80, false)), .iaddr none (.t 81) (.t 82)⟩, true),
                (⟨(some 84), (some (80, false)), .load none (.t 83)⟩, true),
                (⟨(some 85), (some (80, false)), .faddr 4 (.t 1)⟩, false),
                (⟨(some 86), (some (80, false)), .load none (.t 85)⟩, false),
                (⟨(some 87), (some (80, false)), .bin .eql .other false (.t 84) (.t 86)⟩, true),
                (⟨(some 88), none, .pick (.t 80) (.c (.bool true)) (.t 87)⟩, true),
                (⟨(some 9), none, .mv (.t 88)⟩, true)])
           (.seq (.seq (.reg [10] [⟨(some 10), none, .mv (.c (.int .i64 0))⟩])
            (.block 4 (.loop (.seq (.seq (.reg [92] [⟨(some 89), none, .mv (.t 10)⟩,
                    ⟨(some 90), none, .mv (.t 5)⟩,
                    ⟨(some 91), none, .len .sl (.t 90)⟩,
                    ⟨(some 92), none, .bin .lss .other false (.t 89) (.t 91)⟩])
               (.cond (.t 92) .skip
               (.exit 4)))
              (.seq (.block 5 (.any [9] [(⟨(some 95), none, .mv (.t 9)⟩, true),
                    (⟨(some 96), none, .mv (.t 95)⟩, true),
                    (⟨(some 97), (some (96, false)), .mv (.t 5)⟩, true),
                    (⟨(some 98), (some (96, false)), .mv (.t 10)⟩, false),
                    (⟨(some 99), (some (96, false)), .iaddr none (.t 97) (.t 98)⟩, true),
                    (⟨(some 100), (some (96, false)), .load none (.t 99)⟩, true),
                    (⟨(some 101), (some (96, false)), .mv (.t 7)⟩, false),
                    (⟨(some 102), (some (96, false)), .mv (.t 8)⟩, false),
                    (⟨(some 103), (some (96, false)), .iaddr none (.t 101) (.t 102)⟩, false),
                    (⟨(some 104), (some (96, false)), .load none (.t 103)⟩, false),
                    (⟨(some 105), (some (96, false)), .bin .eql .other false (.t 100) (.t 104)⟩, true),
                    (⟨(some 106), none, .pick (.t 96) (.c (.bool true)) (.t 105)⟩, true),
                    (⟨(some 9), none, .mv (.t 106)⟩, true)]))
              (.reg [10] [⟨(some 93), none, .mv (.t 10)⟩,
                  ⟨(some 94), none, .bin .add .other true (.t 93) (.c (.int .i64 1))⟩,
                  ⟨(some 10), none, .mv (.t 94)⟩]))))))
           (.seq (.seq (.reg [11] [⟨(some 11), none, .mv (.c (.int .i64 0))⟩])
            (.block 6 (.loop (.seq (.seq (.reg [111] [⟨(some 107), none, .mv (.t 11)⟩,
                    ⟨(some 108), none, .faddr 6 (.t 1)⟩,
                    ⟨(some 109), none, .load none (.t 108)⟩,
                    ⟨(some 110), none, .len .sl (.t 109)⟩,
                    ⟨(some 111), none, .bin .lss .other false (.t 107) (.t 110)⟩])
               (.cond (.t 111) .skip
               (.exit 6)))
              (.seq (.block 7 (.any [9] [(⟨(some 114), none, .mv (.t 9)⟩, true),
                    (⟨(some 115), none, .mv (.t 114)⟩, true),
                    (⟨(some 116), (some (115, false)), .faddr 6 (.t 1)⟩, true),
                    (⟨(some 117), (some (115, false)), .load none (.t 116)⟩, true),
                    (⟨(some 118), (some (115, false)), .mv (.t 11)⟩, false),
                    (⟨(some 119), (some (115, false)), .iaddr none (.t 117) (.t 118)⟩, true),
                    (⟨(some 120), (some (115, false)), .load none (.t 119)⟩, true),
                    (⟨(some 121), (some (115, false)), .mv (.t 7)⟩, false),
                    (⟨(some 122), (some (115, false)), .mv (.t 8)⟩, false),
                    (⟨(some 123), (some (115, false)), .iaddr none (.t 121) (.t 122)⟩, false),
                    (⟨(some 124), (some (115, false)), .load none (.t 123)⟩, false),
                    (⟨(some 125), (some (115, false)), .bin .eql .other false (.t 120) (.t 124)⟩, true),
                    (⟨(some 126), none, .pick (.t 115) (.c (.bool true)) (.t 125)⟩, true),
                    (⟨(some 9), none, .mv (.t 126)⟩, true)]))
              (.reg [11] [⟨(some 112), none, .mv (.t 11)⟩,
                  ⟨(some 113), none, .bin .add .other true (.t 112) (.c (.int .i64 1))⟩,
                  ⟨(some 11), none, .mv (.t 113)⟩]))))))
           (.seq (.reg [128] [⟨(some 127), none, .mv (.t 9)⟩,
                ⟨(some 128), none, .un .not (.t 127)⟩])
           (.cond (.t 128) (.seq (.reg [2] [⟨(some 2), none, .mv (.c (.bool false))⟩])
             .ret)
           .skip))))))
         (.reg [8] [⟨(some 71), none, .mv (.t 8)⟩,
             ⟨(some 72), none, .bin .add .other true (.t 71) (.c (.int .i64 1))⟩,
             ⟨(some 8), none, .mv (.t 72)⟩])))))))))
     (.reg [6] [⟨(some 30), none, .mv (.t 6)⟩,
         ⟨(some 31), none, .bin .add .other true (.t 30) (.c (.int .i64 1))⟩,
         ⟨(some 6), none, .mv (.t 31)⟩]))))))
  (.seq (.reg [2] [⟨(some 129), none, .mv (.t 3)⟩,
       ⟨(some 2), none, .mv (.t 129)⟩])
  .ret)))))))⟩
theorem c5 : compF Tryz.prog [0, 1, 2, 3, 4, 5, 6, 7, 8, 9, 10, 11, 21, 29, 60, 70, 92, 111, 128] Tryz.f5 = some a5 := by kernel_rfl

/- bushel/bushelref05.Few -/
def a9 : AFun := ⟨6, [.tmp 2], (.seq (.reg [1, 2] [⟨(some 1), none, .box (.t 0)⟩,
       ⟨(some 2), none, .mv (.c (.bool false))⟩])
  (.seq (.reg [2] [⟨(some 3), none, .load (some 8) (.t 1)⟩,
       ⟨(some 4), none, .call (.c (.fn 30)) [(.t 3), (.c (.int .i64 20000))]⟩,
       ⟨(some 5), none, .bin .geq .other true (.t 4) (.c (.int .i64 0))⟩,
       ⟨(some 2), none, .mv (.t 5)⟩])
  .ret))⟩
theorem c9 : compF Tryz.prog [0, 1, 2] Tryz.f9 = some a9 := by kernel_rfl

/- bushel/bushelref05.May -/
def a11 : AFun := ⟨15, [.tmp 2], (.seq (.reg [1, 2] [⟨(some 1), none, .box (.t 0)⟩,
       ⟨(some 2), none, .mv (.c (.bool false))⟩])
  (.seq (.reg [2] [⟨(some 3), none, .load (some 8) (.t 1)⟩,
       ⟨(some 4), none, .call (.c (.fn 32)) [(.t 3)]⟩,
       ⟨(some 5), none, .bin .leq .other true (.t 4) (.c (.int .i64 60))⟩,
       ⟨(some 6), none, .mv (.t 5)⟩,
       ⟨(some 7), (some (6, true)), .load (some 8) (.t 1)⟩,
       ⟨(some 8), (some (6, true)), .call (.c (.fn 33)) [(.t 7)]⟩,
       ⟨(some 9), (some (6, true)), .bin .leq .other true (.t 8) (.c (.int .i64 1500))⟩,
       ⟨(some 10), none, .pick (.t 6) (.t 9) (.c (.bool false))⟩,
       ⟨(some 11), none, .mv (.t 10)⟩,
       ⟨(some 12), (some (11, true)), .load (some 8) (.t 1)⟩,
       ⟨(some 13), (some (11, true)), .call (.c (.fn 34)) [(.t 12)]⟩,
       ⟨(some 14), none, .pick (.t 11) (.t 13) (.c (.bool false))⟩,
       ⟨(some 2), none, .mv (.t 14)⟩])
  .ret))⟩
theorem c11 : compF Tryz.prog [0, 1, 2] Tryz.f11 = some a11 := by kernel_rfl

/- bushel/bushelref05.Show -/
def a12 : AFun := ⟨271, [.tmp 2], (.seq (.reg [1, 2] [⟨(some 1), none, .box (.t 0)⟩,
       ⟨(some 2), none, .mv (.c (.str []))⟩])
  (.seq (.seq (.reg [6] [⟨(some 5), none, .faddr 0 (.t 1)⟩,
        ⟨(some 6), none, .load none (.t 5)⟩])
   (.block 0 (.seq (.reg [7] [⟨(some 8), none, .bin .eql .other true (.t 6) (.c (.int .i64 1))⟩,
         ⟨(some 7), none, .mv (.t 8)⟩])
    (.cond (.t 7) (.seq (.reg [2] [⟨(some 9), none, .faddr 2 (.t 1)⟩,
           ⟨(some 10), none, .load none (.t 9)⟩,
           ⟨(some 11), none, .call (.c (.fn 35)) [(.t 10), (.c (.int .i64 10))]⟩,
           ⟨(some 2), none, .mv (.t 11)⟩])
      .ret)
    (.seq (.reg [12] [⟨(some 13), none, .bin .eql .other true (.t 6) (.c (.int .i64 2))⟩,
         ⟨(some 12), none, .mv (.t 13)⟩])
    (.cond (.t 12) (.seq (.reg [3] [⟨(some 15), none, .faddr 3 (.t 1)⟩,
           ⟨(some 16), none, .load none (.t 15)⟩,
           ⟨(some 17), none, .call (.c (.fn 36)) [(.t 16)]⟩,
           ⟨(some 14), none, .mv (.t 17)⟩,
           ⟨(some 18), none, .extract (.t 14) 0⟩,
           ⟨(some 19), none, .extract (.t 14) 1⟩,
           ⟨(some 3), none, .mv (.t 18)⟩,
           ⟨(some 4), none, .mv (.t 19)⟩])
      (.seq (.reg [2] [⟨(some 20), none, .mv (.t 3)⟩,
           ⟨(some 2), none, .mv (.t 20)⟩])
      .ret))
    (.seq (.reg [21] [⟨(some 22), none, .bin .eql .other true (.t 6) (.c (.int .i64 3))⟩,
         ⟨(some 21), none, .mv (.t 22)⟩])
    (.cond (.t 21) (.seq (.reg [2] [⟨(some 23), none, .faddr 3 (.t 1)⟩,
           ⟨(some 24), none, .load none (.t 23)⟩,
           ⟨(some 2), none, .mv (.t 24)⟩])
      .ret)
    (.seq (.reg [25] [⟨(some 26), none, .bin .eql .other true (.t 6) (.c (.int .i64 4))⟩,
         ⟨(some 25), none, .mv (.t 26)⟩])
    (.cond (.t 25) (.seq (.any [2] [(⟨(some 27), none, .faddr 3 (.t 1)⟩, true),
           (⟨(some 28), none, .load none (.t 27)⟩, true),
           (⟨(some 29), none, .bin .add .other true (.c (.str [102, 110, 32])) (.t 28)⟩, true),
           (⟨(some 30), none, .bin .add .other true (.t 29) (.c (.str [32, 45, 62, 32]))⟩, true),
           (⟨(some 31), none, .faddr 7 (.t 1)⟩, false),
           (⟨(some 32), none, .load none (.t 31)⟩, false),
           (⟨(some 33), none, .iaddr (some 8) (.t 32) (.c (.int .i64 0))⟩, false),
           (⟨(some 34), none, .load (some 8) (.t 33)⟩, false),
           (⟨(some 35), none, .call (.c (.fn 12)) [(.t 34)]⟩, false),
           (⟨(some 36), none, .bin .add .other false (.t 30) (.t 35)⟩, true),
           (⟨(some 2), none, .mv (.t 36)⟩, true)])
      .ret)
    (.seq (.reg [37] [⟨(some 38), none, .bin .eql .other true (.t 6) (.c (.int .i64 5))⟩,
         ⟨(some 37), none, .mv (.t 38)⟩])
    (.cond (.t 37) (.seq (.any [2] [(⟨(some 39), none, .faddr 7 (.t 1)⟩, true),
           (⟨(some 40), none, .load none (.t 39)⟩, true),
           (⟨(some 41), none, .iaddr (some 8) (.t 40) (.c (.int .i64 0))⟩, true),
           (⟨(some 42), none, .load (some 8) (.t 41)⟩, true),
           (⟨(some 45), none, .faddr 7 (.t 1)⟩, false),
           (⟨(some 46), none, .load none (.t 45)⟩, false),
           (⟨(some 47), none, .iaddr (some 8) (.t 46) (.c (.int .i64 1))⟩, false),
           (⟨(some 48), none, .load (some 8) (.t 47)⟩, false),
           (⟨(some 43), none, .call (.c (.fn 37)) [(.t 42)]⟩, false),
           (⟨(some 44), none, .bin .add .other true (.t 43) (.c (.str [32]))⟩, false),
           (⟨(some 49), none, .call (.c (.fn 37)) [(.t 48)]⟩, false),
           (⟨(some 50), none, .bin .add .other false (.t 44) (.t 49)⟩, true),
           (⟨(some 2), none, .mv (.t 50)⟩, true)])
      .ret)
    (.seq (.reg [51] [⟨(some 52), none, .bin .eql .other true (.t 6) (.c (.int .i64 6))⟩,
         ⟨(some 51), none, .mv (.t 52)⟩])
    (.cond (.t 51) (.seq (.any [2] [(⟨(some 53), none, .faddr 3 (.t 1)⟩, true),
           (⟨(some 54), none, .load none (.t 53)⟩, true),
           (⟨(some 55), none, .bin .add .other true (.c (.str [108, 101, 116, 32])) (.t 54)⟩, true),
           (⟨(some 56), none, .bin .add .other true (.t 55) (.c (.str [32, 61, 32]))⟩, true),
           (⟨(some 57), none, .faddr 7 (.t 1)⟩, false),
           (⟨(some 58), none, .load none (.t 57)⟩, false),
           (⟨(some 59), none, .iaddr (some 8) (.t 58) (.c (.int .i64 0))⟩, false),
           (⟨(some 60), none, .load (some 8) (.t 59)⟩, false),
           (⟨(some 64), none, .faddr 7 (.t 1)⟩, false),
           (⟨(some 65), none, .load none (.t 64)⟩, false),
           (⟨(some 66), none, .iaddr (some 8) (.t 65) (.c (.int .i64 1))⟩, false),
           (⟨(some 67), none, .load (some 8) (.t 66)⟩, false),
           (⟨(some 61), none, .call (.c (.fn 12)) [(.t 60)]⟩, false),
           (⟨(some 62), none, .bin .add .other false (.t 56) (.t 61)⟩, false),
           (⟨(some 63), none, .bin .add .other true (.t 62) (.c (.str [32, 105, 110, 32]))⟩, false),
           (⟨(some 68), none, .call (.c (.fn 12)) [(.t 67)]⟩, false),
           (⟨(some 69), none, .bin .add .other false (.t 63) (.t 68)⟩, true),
           (⟨(some 2), none, .mv (.t 69)⟩, true)])
      .ret)
    (.seq (.reg [70] [⟨(some 71), none, .bin .eql .other true (.t 6) (.c (.int .i64 7))⟩,
         ⟨(some 70), none, .mv (.t 71)⟩])
    (.cond (.t 70) (.seq (.any [2] [(⟨(some 72), none, .faddr 3 (.t 1)⟩, true),
           (⟨(some 73), none, .load none (.t 72)⟩, true),
           (⟨(some 74), none, .bin .add .other true (.c (.str [108, 101, 116, 32, 114, 101, 99, 32])) (.t 73)⟩, true),
           (⟨(some 75), none, .bin .add .other true (.t 74) (.c (.str [32]))⟩, true),
           (⟨(some 76), none, .faddr 4 (.t 1)⟩, false),
           (⟨(some 77), none, .load none (.t 76)⟩, false),
           (⟨(some 78), none, .bin .add .other false (.t 75) (.t 77)⟩, true),
           (⟨(some 79), none, .bin .add .other true (.t 78) (.c (.str [32, 61, 32]))⟩, true),
           (⟨(some 80), none, .faddr 7 (.t 1)⟩, false),
           (⟨(some 81), none, .load none (.t 80)⟩, false),
           (⟨(some 82), none, .iaddr (some 8) (.t 81) (.c (.int .i64 0))⟩, false),
           (⟨(some 83), none, .load (some 8) (.t 82)⟩, false),
           (⟨(some 87), none, .faddr 7 (.t 1)⟩, false),
           (⟨(some 88), none, .load none (.t 87)⟩, false),
           (⟨(some 89), none, .iaddr (some 8) (.t 88) (.c (.int .i64 1))⟩, false),
           (⟨(some 90), none, .load (some 8) (.t 89)⟩, false),
           (⟨(some 84), none, .call (.c (.fn 12)) [(.t 83)]⟩, false),
           (⟨(some 85), none, .bin .add .other false (.t 79) (.t 84)⟩, false),
           (⟨(some 86), none, .bin .add .other true (.t 85) (.c (.str [32, 105, 110, 32]))⟩, false),
           (⟨(some 91), none, .call (.c (.fn 12)) [(.t 90)]⟩, false),
           (⟨(some 92), none, .bin .add .other false (.t 86) (.t 91)⟩, true),
           (⟨(some 2), none, .mv (.t 92)⟩, true)])
      .ret)
    (.seq (.reg [93] [⟨(some 94), none, .bin .eql .other true (.t 6) (.c (.int .i64 8))⟩,
         ⟨(some 93), none, .mv (.t 94)⟩])
    (.cond (.t 93) (.seq (.reg [2] [⟨(some 95), none, .load (some 8) (.t 1)⟩,
           ⟨(some 96), none, .call (.c (.fn 38)) [(.t 95)]⟩,
           ⟨(some 97), none, .bin .add .other true (.c (.str [123])) (.t 96)⟩,
           ⟨(some 98), none, .bin .add .other true (.t 97) (.c (.str [125]))⟩,
           ⟨(some 2), none, .mv (.t 98)⟩])
      .ret)
    (.seq (.reg [99] [⟨(some 100), none, .bin .eql .other true (.t 6) (.c (.int .i64 9))⟩,
         ⟨(some 99), none, .mv (.t 100)⟩])
    (.cond (.t 99) (.seq (.any [2] [(⟨(some 101), none, .faddr 7 (.t 1)⟩, true),
           (⟨(some 102), none, .load none (.t 101)⟩, true),
           (⟨(some 103), none, .iaddr (some 8) (.t 102) (.c (.int .i64 0))⟩, true),
           (⟨(some 104), none, .load (some 8) (.t 103)⟩, true),
           (⟨(some 107), none, .faddr 3 (.t 1)⟩, false),
           (⟨(some 108), none, .load none (.t 107)⟩, false),
           (⟨(some 105), none, .call (.c (.fn 37)) [(.t 104)]⟩, false),
           (⟨(some 106), none, .bin .add .other true (.t 105) (.c (.str [46]))⟩, false),
           (⟨(some 109), none, .bin .add .other false (.t 106) (.t 108)⟩, true),
           (⟨(some 2), none, .mv (.t 109)⟩, true)])
      .ret)
    (.seq (.reg [110] [⟨(some 111), none, .bin .eql .other true (.t 6) (.c (.int .i64 10))⟩,
         ⟨(some 110), none, .mv (.t 111)⟩])
    (.cond (.t 110) (.seq (.any [2] [(⟨(some 112), none, .faddr 3 (.t 1)⟩, true),
           (⟨(some 113), none, .load none (.t 112)⟩, true),
           (⟨(some 114), none, .bin .add .other true (.c (.str [123])) (.t 113)⟩, true),
           (⟨(some 115), none, .bin .add .other true (.t 114) (.c (.str [32, 61, 32]))⟩, true),
           (⟨(some 116), none, .faddr 7 (.t 1)⟩, false),
           (⟨(some 117), none, .load none (.t 116)⟩, false),
           (⟨(some 118), none, .iaddr (some 8) (.t 117) (.c (.int .i64 0))⟩, false),
           (⟨(some 119), none, .load (some 8) (.t 118)⟩, false),
           (⟨(some 123), none, .faddr 7 (.t 1)⟩, false),
           (⟨(some 124), none, .load none (.t 123)⟩, false),
           (⟨(some 125), none, .iaddr (some 8) (.t 124) (.c (.int .i64 1))⟩, false),
           (⟨(some 126), none, .load (some 8) (.t 125)⟩, false),
           (⟨(some 120), none, .call (.c (.fn 12)) [(.t 119)]⟩, false),
           (⟨(some 121), none, .bin .add .other false (.t 115) (.t 120)⟩, false),
           (⟨(some 122), none, .bin .add .other true (.t 121) (.c (.str [32, 124, 32]))⟩, false),
           (⟨(some 127), none, .call (.c (.fn 12)) [(.t 126)]⟩, false),
           (⟨(some 128), none, .bin .add .other false (.t 122) (.t 127)⟩, true),
           (⟨(some 129), none, .bin .add .other true (.t 128) (.c (.str [125]))⟩, true),
           (⟨(some 2), none, .mv (.t 129)⟩, true)])
      .ret)
    (.seq (.reg [130] [⟨(some 131), none, .bin .eql .other true (.t 6) (.c (.int .i64 11))⟩,
         ⟨(some 130), none, .mv (.t 131)⟩])
    (.cond (.t 130) (.seq (.any [2] [(⟨(some 132), none, .faddr 7 (.t 1)⟩, true),
           (⟨(some 133), none, .load none (.t 132)⟩, true),
           (⟨(some 134), none, .iaddr (some 8) (.t 133) (.c (.int .i64 0))⟩, true),
           (⟨(some 135), none, .load (some 8) (.t 134)⟩, true),
           (⟨(some 138), none, .faddr 3 (.t 1)⟩, false),
           (⟨(some 139), none, .load none (.t 138)⟩, false),
           (⟨(some 136), none, .call (.c (.fn 37)) [(.t 135)]⟩, false),
           (⟨(some 137), none, .bin .add .other true (.t 136) (.c (.str [92]))⟩, false),
           (⟨(some 140), none, .bin .add .other false (.t 137) (.t 139)⟩, true),
           (⟨(some 2), none, .mv (.t 140)⟩, true)])
      .ret)
    (.seq (.reg [141] [⟨(some 142), none, .bin .eql .other true (.t 6) (.c (.int .i64 12))⟩,
         ⟨(some 141), none, .mv (.t 142)⟩])
    (.cond (.t 141) (.seq (.any [2] [(⟨(some 143), none, .faddr 7 (.t 1)⟩, true),
           (⟨(some 144), none, .load none (.t 143)⟩, true),
           (⟨(some 145), none, .iaddr (some 8) (.t 144) (.c (.int .i64 1))⟩, true),
           (⟨(some 146), none, .load (some 8) (.t 145)⟩, true),
           (⟨(some 150), none, .faddr 3 (.t 1)⟩, false),
           (⟨(some 151), none, .load none (.t 150)⟩, false),
           (⟨(some 154), none, .faddr 7 (.t 1)⟩, false),
           (⟨(some 155), none, .load none (.t 154)⟩, false),
           (⟨(some 156), none, .iaddr (some 8) (.t 155) (.c (.int .i64 0))⟩, false),
           (⟨(some 157), none, .load (some 8) (.t 156)⟩, false),
           (⟨(some 147), none, .call (.c (.fn 37)) [(.t 146)]⟩, false),
           (⟨(some 148), none, .bin .add .other true (.c (.str [123])) (.t 147)⟩, false),
           (⟨(some 149), none, .bin .add .other true (.t 148) (.c (.str [32, 119, 105, 116, 104, 32]))⟩, false),
           (⟨(some 152), none, .bin .add .other false (.t 149) (.t 151)⟩, false),
           (⟨(some 153), none, .bin .add .other true (.t 152) (.c (.str [32, 61, 32]))⟩, false),
           (⟨(some 158), none, .call (.c (.fn 12)) [(.t 157)]⟩, false),
           (⟨(some 159), none, .bin .add .other false (.t 153) (.t 158)⟩, true),
           (⟨(some 160), none, .bin .add .other true (.t 159) (.c (.str [125]))⟩, true),
           (⟨(some 2), none, .mv (.t 160)⟩, true)])
      .ret)
    (.seq (.reg [161] [⟨(some 162), none, .bin .eql .other true (.t 6) (.c (.int .i64 13))⟩,
         ⟨(some 161), none, .mv (.t 162)⟩])
    (.cond (.t 161) (.seq (.any [2] [(⟨(some 163), none, .faddr 3 (.t 1)⟩, true),
           (⟨(some 164), none, .load none (.t 163)⟩, true),
           (⟨(some 165), none, .bin .add .other true (.t 164) (.c (.str [32]))⟩, true),
           (⟨(some 166), none, .faddr 7 (.t 1)⟩, false),
           (⟨(some 167), none, .load none (.t 166)⟩, false),
           (⟨(some 168), none, .iaddr (some 8) (.t 167) (.c (.int .i64 0))⟩, false),
           (⟨(some 169), none, .load (some 8) (.t 168)⟩, false),
           (⟨(some 170), none, .call (.c (.fn 37)) [(.t 169)]⟩, false),
           (⟨(some 171), none, .bin .add .other false (.t 165) (.t 170)⟩, true),
           (⟨(some 2), none, .mv (.t 171)⟩, true)])
      .ret)
    (.seq (.reg [172] [⟨(some 173), none, .bin .eql .other true (.t 6) (.c (.int .i64 14))⟩,
         ⟨(some 172), none, .mv (.t 173)⟩])
    (.cond (.t 172) (.seq (.any [2] [(⟨(some 174), none, .faddr 7 (.t 1)⟩, true),
           (⟨(some 175), none, .load none (.t 174)⟩, true),
           (⟨(some 176), none, .iaddr (some 8) (.t 175) (.c (.int .i64 0))⟩, true),
           (⟨(some 177), none, .load (some 8) (.t 176)⟩, true),
           (⟨(some 181), none, .load (some 8) (.t 1)⟩, false),
           (⟨(some 178), none, .call (.c (.fn 12)) [(.t 177)]⟩, false),
           (⟨(some 179), none, .bin .add .other true (.c (.str [109, 97, 116, 99, 104, 32])) (.t 178)⟩, false),
           (⟨(some 180), none, .bin .add .other true (.t 179) (.c (.str [32, 119, 105, 116, 104]))⟩, false),
           (⟨(some 182), none, .call (.c (.fn 39)) [(.t 181)]⟩, false),
           (⟨(some 183), none, .bin .add .other false (.t 180) (.t 182)⟩, true),
           (⟨(some 184), none, .bin .add .other true (.t 183) (.c (.str [32, 101, 110, 100]))⟩, true),
           (⟨(some 2), none, .mv (.t 184)⟩, true)])
      .ret)
    (.seq (.reg [185] [⟨(some 186), none, .bin .eql .other true (.t 6) (.c (.int .i64 15))⟩,
         ⟨(some 185), none, .mv (.t 186)⟩])
    (.cond (.t 185) (.seq (.any [2] [(⟨(some 187), none, .faddr 7 (.t 1)⟩, true),
           (⟨(some 188), none, .load none (.t 187)⟩, true),
           (⟨(some 189), none, .iaddr (some 8) (.t 188) (.c (.int .i64 0))⟩, true),
           (⟨(some 190), none, .load (some 8) (.t 189)⟩, true),
           (⟨(some 194), none, .faddr 7 (.t 1)⟩, false),
           (⟨(some 195), none, .load none (.t 194)⟩, false),
           (⟨(some 196), none, .iaddr (some 8) (.t 195) (.c (.int .i64 1))⟩, false),
           (⟨(some 197), none, .load (some 8) (.t 196)⟩, false),
           (⟨(some 201), none, .faddr 7 (.t 1)⟩, false),
           (⟨(some 202), none, .load none (.t 201)⟩, false),
           (⟨(some 203), none, .iaddr (some 8) (.t 202) (.c (.int .i64 2))⟩, false),
           (⟨(some 204), none, .load (some 8) (.t 203)⟩, false),
           (⟨(some 191), none, .call (.c (.fn 12)) [(.t 190)]⟩, false),
           (⟨(some 192), none, .bin .add .other true (.c (.str [105, 102, 32])) (.t 191)⟩, false),
           (⟨(some 193), none, .bin .add .other true (.t 192) (.c (.str [32, 116, 104, 101, 110, 32]))⟩, false),
           (⟨(some 198), none, .call (.c (.fn 12)) [(.t 197)]⟩, false),
           (⟨(some 199), none, .bin .add .other false (.t 193) (.t 198)⟩, false),
           (⟨(some 200), none, .bin .add .other true (.t 199) (.c (.str [32, 101, 108, 115, 101, 32]))⟩, false),
           (⟨(some 205), none, .call (.c (.fn 12)) [(.t 204)]⟩, false),
           (⟨(some 206), none, .bin .add .other false (.t 200) (.t 205)⟩, true),
           (⟨(some 2), none, .mv (.t 206)⟩, true)])
      .ret)
    (.seq (.reg [207] [⟨(some 208), none, .bin .eql .other true (.t 6) (.c (.int .i64 16))⟩,
         ⟨(some 207), none, .mv (.t 208)⟩])
    (.cond (.t 207) (.seq (.any [2] [(⟨(some 209), none, .faddr 7 (.t 1)⟩, true),
           (⟨(some 210), none, .load none (.t 209)⟩, true),
           (⟨(some 211), none, .iaddr (some 8) (.t 210) (.c (.int .i64 0))⟩, true),
           (⟨(some 212), none, .load (some 8) (.t 211)⟩, true),
           (⟨(some 215), none, .faddr 3 (.t 1)⟩, false),
           (⟨(some 216), none, .load none (.t 215)⟩, false),
           (⟨(some 219), none, .faddr 7 (.t 1)⟩, false),
           (⟨(some 220), none, .load none (.t 219)⟩, false),
           (⟨(some 221), none, .iaddr (some 8) (.t 220) (.c (.int .i64 1))⟩, false),
           (⟨(some 222), none, .load (some 8) (.t 221)⟩, false),
           (⟨(some 213), none, .call (.c (.fn 37)) [(.t 212)]⟩, false),
           (⟨(some 214), none, .bin .add .other true (.t 213) (.c (.str [32]))⟩, false),
           (⟨(some 217), none, .bin .add .other false (.t 214) (.t 216)⟩, false),
           (⟨(some 218), none, .bin .add .other true (.t 217) (.c (.str [32]))⟩, false),
           (⟨(some 223), none, .call (.c (.fn 37)) [(.t 222)]⟩, false),
           (⟨(some 224), none, .bin .add .other false (.t 218) (.t 223)⟩, true),
           (⟨(some 2), none, .mv (.t 224)⟩, true)])
      .ret)
    (.seq (.reg [225] [⟨(some 226), none, .bin .eql .other true (.t 6) (.c (.int .i64 17))⟩,
         ⟨(some 225), none, .mv (.t 226)⟩])
    (.cond (.t 225) (.seq (.reg [2] [⟨(some 227), none, .faddr 7 (.t 1)⟩,
           ⟨(some 228), none, .load none (.t 227)⟩,
           ⟨(some 229), none, .iaddr (some 8) (.t 228) (.c (.int .i64 0))⟩,
           ⟨(some 230), none, .load (some 8) (.t 229)⟩,
           ⟨(some 231), none, .call (.c (.fn 37)) [(.t 230)]⟩,
           ⟨(some 232), none, .bin .add .other true (.c (.str [114, 101, 102, 32])) (.t 231)⟩,
           ⟨(some 2), none, .mv (.t 232)⟩])
      .ret)
    (.seq (.reg [233] [⟨(some 234), none, .bin .eql .other true (.t 6) (.c (.int .i64 18))⟩,
         ⟨(some 233), none, .mv (.t 234)⟩])
    (.cond (.t 233) (.seq (.reg [2] [⟨(some 235), none, .faddr 7 (.t 1)⟩,
           ⟨(some 236), none, .load none (.t 235)⟩,
           ⟨(some 237), none, .iaddr (some 8) (.t 236) (.c (.int .i64 0))⟩,
           ⟨(some 238), none, .load (some 8) (.t 237)⟩,
           ⟨(some 239), none, .call (.c (.fn 37)) [(.t 238)]⟩,
           ⟨(some 240), none, .bin .add .other true (.c (.str [33])) (.t 239)⟩,
           ⟨(some 2), none, .mv (.t 240)⟩])
      .ret)
    (.seq (.reg [241] [⟨(some 242), none, .bin .eql .other true (.t 6) (.c (.int .i64 19))⟩,
         ⟨(some 241), none, .mv (.t 242)⟩])
    (.cond (.t 241) (.seq (.any [2] [(⟨(some 243), none, .faddr 7 (.t 1)⟩, true),
           (⟨(some 244), none, .load none (.t 243)⟩, true),
           (⟨(some 245), none, .iaddr (some 8) (.t 244) (.c (.int .i64 0))⟩, true),
           (⟨(some 246), none, .load (some 8) (.t 245)⟩, true),
           (⟨(some 249), none, .faddr 7 (.t 1)⟩, false),
           (⟨(some 250), none, .load none (.t 249)⟩, false),
           (⟨(some 251), none, .iaddr (some 8) (.t 250) (.c (.int .i64 1))⟩, false),
           (⟨(some 252), none, .load (some 8) (.t 251)⟩, false),
           (⟨(some 247), none, .call (.c (.fn 37)) [(.t 246)]⟩, false),
           (⟨(some 248), none, .bin .add .other true (.t 247) (.c (.str [32, 58, 61, 32]))⟩, false),
           (⟨(some 253), none, .call (.c (.fn 37)) [(.t 252)]⟩, false),
           (⟨(some 254), none, .bin .add .other false (.t 248) (.t 253)⟩, true),
           (⟨(some 2), none, .mv (.t 254)⟩, true)])
      .ret)
    (.seq (.reg [255] [⟨(some 256), none, .bin .eql .other true (.t 6) (.c (.int .i64 20))⟩,
         ⟨(some 255), none, .mv (.t 256)⟩])
    (.cond (.t 255) (.seq (.reg [2] [⟨(some 257), none, .faddr 7 (.t 1)⟩,
           ⟨(some 258), none, .load none (.t 257)⟩,
           ⟨(some 259), none, .iaddr (some 8) (.t 258) (.c (.int .i64 0))⟩,
           ⟨(some 260), none, .load (some 8) (.t 259)⟩,
           ⟨(some 261), none, .call (.c (.fn 37)) [(.t 260)]⟩,
           ⟨(some 262), none, .bin .add .other true (.c (.str [112, 114, 105, 110, 116, 32])) (.t 261)⟩,
           ⟨(some 2), none, .mv (.t 262)⟩])
      .ret)
    (.seq (.reg [263] [⟨(some 264), none, .bin .eql .other true (.t 6) (.c (.int .i64 21))⟩,
         ⟨(some 263), none, .mv (.t 264)⟩])
    (.cond (.t 263) (.seq (.reg [2] [⟨(some 265), none, .faddr 7 (.t 1)⟩,
           ⟨(some 266), none, .load none (.t 265)⟩,
           ⟨(some 267), none, .iaddr (some 8) (.t 266) (.c (.int .i64 0))⟩,
           ⟨(some 268), none, .load (some 8) (.t 267)⟩,
           ⟨(some 269), none, .call (.c (.fn 37)) [(.t 268)]⟩,
           ⟨(some 270), none, .bin .add .other true (.c (.str [115, 104, 111, 119, 32])) (.t 269)⟩,
           ⟨(some 2), none, .mv (.t 270)⟩])
      .ret)
    .skip))))))))))))))))))))))))))))))))))))))))))))
  (.seq (.reg [2] [⟨(some 2), none, .mv (.c (.str [114, 101, 97, 100]))⟩])
  .ret)))⟩
theorem c12 : compF Tryz.prog [0, 1, 2, 3, 6, 7, 12, 21, 25, 37, 51, 70, 93, 99, 110, 130, 141, 161, 172, 185, 207, 225, 233, 241, 255, 263] Tryz.f12 = some a12 := by kernel_rfl

/- bushel/bushelref05.Same -/
def a19 : AFun := ⟨82, [.tmp 4], (.seq (.reg [2, 3, 4] [⟨(some 2), none, .box (.t 0)⟩,
       ⟨(some 3), none, .box (.t 1)⟩,
       ⟨(some 4), none, .mv (.c (.bool false))⟩])
  (.seq (.reg [5] [⟨(some 9), none, .faddr 5 (.t 2)⟩,
       ⟨(some 10), none, .load none (.t 9)⟩,
       ⟨(some 11), none, .faddr 5 (.t 3)⟩,
       ⟨(some 12), none, .load none (.t 11)⟩,
       ⟨(some 13), none, .call (.c (.fn 46)) [(.t 10), (.t 12)]⟩,
       ⟨(some 5), none, .mv (.t 13)⟩])
  (.seq (.reg [6] [⟨(some 14), none, .faddr 6 (.t 2)⟩,
       ⟨(some 15), none, .load none (.t 14)⟩,
       ⟨(some 16), none, .faddr 6 (.t 3)⟩,
       ⟨(some 17), none, .load none (.t 16)⟩,
       ⟨(some 18), none, .call (.c (.fn 46)) [(.t 15), (.t 17)]⟩,
       ⟨(some 6), none, .mv (.t 18)⟩])
  (.seq (.seq (.reg [61] [⟨(some 19), none, .faddr 0 (.t 2)⟩,
        ⟨(some 20), none, .load none (.t 19)⟩,
        ⟨(some 21), none, .faddr 0 (.t 3)⟩,
        ⟨(some 22), none, .load none (.t 21)⟩,
        ⟨(some 23), none, .bin .neq .other false (.t 20) (.t 22)⟩,
        ⟨(some 24), none, .mv (.t 23)⟩,
        ⟨(some 25), (some (24, false)), .faddr 2 (.t 2)⟩,
        ⟨(some 26), (some (24, false)), .load none (.t 25)⟩,
        ⟨(some 27), (some (24, false)), .faddr 2 (.t 3)⟩,
        ⟨(some 28), (some (24, false)), .load none (.t 27)⟩,
        ⟨(some 29), (some (24, false)), .bin .neq .other false (.t 26) (.t 28)⟩,
        ⟨(some 30), none, .pick (.t 24) (.c (.bool true)) (.t 29)⟩,
        ⟨(some 31), none, .mv (.t 30)⟩,
        ⟨(some 32), (some (31, false)), .faddr 3 (.t 2)⟩,
        ⟨(some 33), (some (31, false)), .load none (.t 32)⟩,
        ⟨(some 34), (some (31, false)), .faddr 3 (.t 3)⟩,
        ⟨(some 35), (some (31, false)), .load none (.t 34)⟩,
        ⟨(some 36), (some (31, false)), .bin .neq .other false (.t 33) (.t 35)⟩,
        ⟨(some 37), none, .pick (.t 31) (.c (.bool true)) (.t 36)⟩,
        ⟨(some 38), none, .mv (.t 37)⟩,
        ⟨(some 39), (some (38, false)), .faddr 4 (.t 2)⟩,
        ⟨(some 40), (some (38, false)), .load none (.t 39)⟩,
        ⟨(some 41), (some (38, false)), .faddr 4 (.t 3)⟩,
        ⟨(some 42), (some (38, false)), .load none (.t 41)⟩,
        ⟨(some 43), (some (38, false)), .bin .neq .other false (.t 40) (.t 42)⟩,
        ⟨(some 44), none, .pick (.t 38) (.c (.bool true)) (.t 43)⟩,
        ⟨(some 45), none, .mv (.t 44)⟩,
        ⟨(some 46), (some (45, false)), .mv (.t 5)⟩,
        ⟨(some 47), (some (45, false)), .un .not (.t 46)⟩,
        ⟨(some 48), none, .pick (.t 45) (.c (.bool true)) (.t 47)⟩,
        ⟨(some 49), none, .mv (.t 48)⟩,
        ⟨(some 50), (some (49, false)), .mv (.t 6)⟩,
        ⟨(some 51), (some (49, false)), .un .not (.t 50)⟩,
        ⟨(some 52), none, .pick (.t 49) (.c (.bool true)) (.t 51)⟩,
        ⟨(some 53), none, .mv (.t 52)⟩,
        ⟨(some 54), (some (53, false)), .faddr 7 (.t 2)⟩,
        ⟨(some 55), (some (53, false)), .load none (.t 54)⟩,
        ⟨(some 56), (some (53, false)), .len .sl (.t 55)⟩,
        ⟨(some 57), (some (53, false)), .faddr 7 (.t 3)⟩,
        ⟨(some 58), (some (53, false)), .load none (.t 57)⟩,
        ⟨(some 59), (some (53, false)), .len .sl (.t 58)⟩,
        ⟨(some 60), (some (53, false)), .bin .neq .other false (.t 56) (.t 59)⟩,
        ⟨(some 61), none, .pick (.t 53) (.c (.bool true)) (.t 60)⟩])
   (.cond (.t 61) (.seq (.reg [4] [⟨(some 4), none, .mv (.c (.bool false))⟩])
     .ret)
   .skip))
  (.seq (.seq (.reg [7] [⟨(some 7), none, .mv (.c (.int .i64 0))⟩])
   (.block 0 (.loop (.seq (.seq (.reg [66] [⟨(some 62), none, .mv (.t 7)⟩,
           ⟨(some 63), none, .faddr 7 (.t 2)⟩,
           ⟨(some 64), none, .load none (.t 63)⟩,
           ⟨(some 65), none, .len .sl (.t 64)⟩,
           ⟨(some 66), none, .bin .lss .other false (.t 62) (.t 65)⟩])
      (.cond (.t 66) .skip
      (.exit 0)))
     (.seq (.block 1 (.seq (.any [8] [(⟨(some 69), none, .faddr 7 (.t 2)⟩, true),
            (⟨(some 70), none, .load none (.t 69)⟩, true),
            (⟨(some 71), none, .mv (.t 7)⟩, false),
            (⟨(some 72), none, .iaddr (some 8) (.t 70) (.t 71)⟩, true),
            (⟨(some 73), none, .load (some 8) (.t 72)⟩, true),
            (⟨(some 74), none, .faddr 7 (.t 3)⟩, false),
            (⟨(some 75), none, .load none (.t 74)⟩, false),
            (⟨(some 76), none, .mv (.t 7)⟩, false),
            (⟨(some 77), none, .iaddr (some 8) (.t 75) (.t 76)⟩, false),
            (⟨(some 78), none, .load (some 8) (.t 77)⟩, false),
            (⟨(some 79), none, .call (.c (.fn 19)) [(.t 73), (.t 78)]⟩, true),
            (⟨(some 8), none, .mv (.t 79)⟩, true)])
       (.seq (.reg [81] [⟨(some 80), none, .mv (.t 8)⟩,
            ⟨(some 81), none, .un .not (.t 80)⟩])
       (.cond (.t 81) (.seq (.reg [4] [⟨(some 4), none, .mv (.c (.bool false))⟩])
         .ret)
       .skip))))
     (.reg [7] [⟨(some 67), none, .mv (.t 7)⟩,
         ⟨(some 68), none, .bin .add .other true (.t 67) (.c (.int .i64 1))⟩,
         ⟨(some 7), none, .mv (.t 68)⟩]))))))
  (.seq (.reg [4] [⟨(some 4), none, .mv (.c (.bool true))⟩])
  .ret))))))⟩
theorem c19 : compF Tryz.prog [0, 1, 2, 3, 4, 5, 6, 7, 8, 61, 66, 81] Tryz.f19 = some a19 := by kernel_rfl

/- bushel/bushelref05.Places -/
def a20 : AFun := ⟨41, [.tmp 4], (.seq (.reg [2, 3, 4] [⟨(some 2), none, .box (.t 0)⟩,
       ⟨(some 3), none, .box (.t 1)⟩,
       ⟨(some 4), none, .mv (.c (.bool false))⟩])
  (.seq (.seq (.reg [20] [⟨(some 7), none, .faddr 1 (.t 2)⟩,
        ⟨(some 8), none, .load none (.t 7)⟩,
        ⟨(some 9), none, .faddr 1 (.t 3)⟩,
        ⟨(some 10), none, .load none (.t 9)⟩,
        ⟨(some 11), none, .bin .neq .other false (.t 8) (.t 10)⟩,
        ⟨(some 12), none, .mv (.t 11)⟩,
        ⟨(some 13), (some (12, false)), .faddr 7 (.t 2)⟩,
        ⟨(some 14), (some (12, false)), .load none (.t 13)⟩,
        ⟨(some 15), (some (12, false)), .len .sl (.t 14)⟩,
        ⟨(some 16), (some (12, false)), .faddr 7 (.t 3)⟩,
        ⟨(some 17), (some (12, false)), .load none (.t 16)⟩,
        ⟨(some 18), (some (12, false)), .len .sl (.t 17)⟩,
        ⟨(some 19), (some (12, false)), .bin .neq .other false (.t 15) (.t 18)⟩,
        ⟨(some 20), none, .pick (.t 12) (.c (.bool true)) (.t 19)⟩])
   (.cond (.t 20) (.seq (.reg [4] [⟨(some 4), none, .mv (.c (.bool false))⟩])
     .ret)
   .skip))
  (.seq (.seq (.reg [5] [⟨(some 5), none, .mv (.c (.int .i64 0))⟩])
   (.block 0 (.loop (.seq (.seq (.reg [25] [⟨(some 21), none, .mv (.t 5)⟩,
           ⟨(some 22), none, .faddr 7 (.t 2)⟩,
           ⟨(some 23), none, .load none (.t 22)⟩,
           ⟨(some 24), none, .len .sl (.t 23)⟩,
           ⟨(some 25), none, .bin .lss .other false (.t 21) (.t 24)⟩])
      (.cond (.t 25) .skip
      (.exit 0)))
     (.seq (.block 1 (.seq (.any [6] [(⟨(some 28), none, .faddr 7 (.t 2)⟩, true),
            (⟨(some 29), none, .load none (.t 28)⟩, true),
            (⟨(some 30), none, .mv (.t 5)⟩, false),
            (⟨(some 31), none, .iaddr (some 8) (.t 29) (.t 30)⟩, true),
            (⟨(some 32), none, .load (some 8) (.t 31)⟩, true),
            (⟨(some 33), none, .faddr 7 (.t 3)⟩, false),
            (⟨(some 34), none, .load none (.t 33)⟩, false),
            (⟨(some 35), none, .mv (.t 5)⟩, false),
            (⟨(some 36), none, .iaddr (some 8) (.t 34) (.t 35)⟩, false),
            (⟨(some 37), none, .load (some 8) (.t 36)⟩, false),
            (⟨(some 38), none, .call (.c (.fn 20)) [(.t 32), (.t 37)]⟩, true),
            (⟨(some 6), none, .mv (.t 38)⟩, true)])
       (.seq (.reg [40] [⟨(some 39), none, .mv (.t 6)⟩,
            ⟨(some 40), none, .un .not (.t 39)⟩])
       (.cond (.t 40) (.seq (.reg [4] [⟨(some 4), none, .mv (.c (.bool false))⟩])
         .ret)
       .skip))))
     (.reg [5] [⟨(some 26), none, .mv (.t 5)⟩,
         ⟨(some 27), none, .bin .add .other true (.t 26) (.c (.int .i64 1))⟩,
         ⟨(some 5), none, .mv (.t 27)⟩]))))))
  (.seq (.reg [4] [⟨(some 4), none, .mv (.c (.bool true))⟩])
  .ret))))⟩
theorem c20 : compF Tryz.prog [0, 1, 2, 3, 4, 5, 6, 20, 25, 40] Tryz.f20 = some a20 := by kernel_rfl

/- bushel/bushelref05.Texts -/
def a21 : AFun := ⟨8, [.tmp 4], (.seq (.reg [4] [⟨(some 4), none, .mv (.c (.bool false))⟩])
  (.seq (.reg [4] [⟨(some 5), none, .mv (.t 0)⟩,
       ⟨(some 6), none, .mv (.t 1)⟩,
       ⟨(some 7), none, .call (.c (.fn 46)) [(.t 5), (.t 6)]⟩,
       ⟨(some 4), none, .mv (.t 7)⟩])
  .ret))⟩
theorem c21 : compF Tryz.prog [0, 1, 4] Tryz.f21 = some a21 := by kernel_rfl

/- bushel/bushellaw05.up -/
def a22 : AFun := ⟨34, [.tmp 0], (.seq (.reg [0] [⟨(some 0), none, .mv (.c (.bool false))⟩])
  (.seq (.reg [1] [⟨(some 3), none, .build [(.int .i64 0), (.int .i64 0), (.int .i64 0), (.str []), (.str []), .snil, .snil, .snil] [(0, 1, (.c (.int .i64 3))), (3, 1, (.c (.str [97])))]⟩,
       ⟨(some 4), none, .build [(.int .i64 0), (.int .i64 0), (.int .i64 0), (.str []), (.str []), .snil, .snil, .snil] [(0, 1, (.c (.int .i64 3))), (3, 1, (.c (.str [98])))]⟩,
       ⟨(some 5), none, .mksl (some 8) [(.t 3), (.t 4)]⟩,
       ⟨(some 6), none, .build [(.int .i64 0), (.int .i64 0), (.int .i64 0), (.str []), (.str []), .snil, .snil, .snil] [(0, 1, (.c (.int .i64 5))), (7, 1, (.t 5))]⟩,
       ⟨(some 7), none, .mksl (some 8) [(.t 6)]⟩,
       ⟨(some 8), none, .build [(.int .i64 0), (.int .i64 0), (.int .i64 0), (.str []), (.str []), .snil, .snil, .snil] [(0, 1, (.c (.int .i64 4))), (3, 1, (.c (.str [97]))), (7, 1, (.t 7))]⟩,
       ⟨(some 1), none, .alloc [(.int .i64 0), (.int .i64 0), (.int .i64 0), (.str []), (.str []), .snil, .snil, .snil]⟩,
       ⟨none, none, .store 8 (.t 1) (.t 8)⟩])
  (.seq (.reg [2] [⟨(some 9), none, .load (some 8) (.t 1)⟩,
       ⟨(some 10), none, .call (.c (.fn 24)) [(.t 9)]⟩,
       ⟨(some 2), none, .mv (.t 10)⟩])
  (.seq (.reg [0] [⟨(some 11), none, .mv (.t 2)⟩,
       ⟨(some 12), none, .len .sl (.t 11)⟩,
       ⟨(some 13), none, .bin .eql .other true (.t 12) (.c (.int .i64 1))⟩,
       ⟨(some 14), none, .mv (.t 13)⟩,
       ⟨(some 15), (some (14, true)), .mv (.t 2)⟩,
       ⟨(some 16), (some (14, true)), .iaddr none (.t 15) (.c (.int .i64 0))⟩,
       ⟨(some 17), (some (14, true)), .load none (.t 16)⟩,
       ⟨(some 18), (some (14, true)), .bin .eql .other true (.t 17) (.c (.str [98]))⟩,
       ⟨(some 19), none, .pick (.t 14) (.t 18) (.c (.bool false))⟩,
       ⟨(some 20), none, .mv (.t 19)⟩,
       ⟨(some 21), (some (20, true)), .load (some 8) (.t 1)⟩,
       ⟨(some 22), (some (20, true)), .call (.c (.fn 23)) [(.t 21)]⟩,
       ⟨(some 23), none, .pick (.t 20) (.t 22) (.c (.bool false))⟩,
       ⟨(some 24), none, .mv (.t 23)⟩,
       ⟨(some 25), (some (24, true)), .build [(.int .i64 0), (.int .i64 0), (.int .i64 0), (.str []), (.str []), .snil, .snil, .snil] []⟩,
       ⟨(some 26), (some (24, true)), .call (.c (.fn 23)) [(.t 25)]⟩,
       ⟨(some 27), (some (24, true)), .un .not (.t 26)⟩,
       ⟨(some 28), none, .pick (.t 24) (.t 27) (.c (.bool false))⟩,
       ⟨(some 29), none, .mv (.t 28)⟩,
       ⟨(some 30), (some (29, true)), .load (some 8) (.t 1)⟩,
       ⟨(some 31), (some (29, true)), .call (.c (.fn 25)) [(.t 30)]⟩,
       ⟨(some 32), (some (29, true)), .bin .eql .other true (.t 31) (.c (.int .i64 3))⟩,
       ⟨(some 33), none, .pick (.t 29) (.t 32) (.c (.bool false))⟩,
       ⟨(some 0), none, .mv (.t 33)⟩])
  .ret))))⟩
theorem c22 : compF Tryz.prog [0, 1, 2] Tryz.f22 = some a22 := by kernel_rfl

/- bushel/syn.May -/
def a23 : AFun := ⟨15, [.tmp 2], (.seq (.reg [1, 2] [⟨(some 1), none, .box (.t 0)⟩,
       ⟨(some 2), none, .mv (.c (.bool false))⟩])
  (.seq (.reg [2] [⟨(some 3), none, .load (some 8) (.t 1)⟩,
       ⟨(some 4), none, .call (.c (.fn 25)) [(.t 3)]⟩,
       ⟨(some 5), none, .bin .leq .other true (.t 4) (.c (.int .i64 60))⟩,
       ⟨(some 6), none, .mv (.t 5)⟩,
       ⟨(some 7), (some (6, true)), .load (some 8) (.t 1)⟩,
       ⟨(some 8), (some (6, true)), .call (.c (.fn 26)) [(.t 7)]⟩,
       ⟨(some 9), (some (6, true)), .bin .leq .other true (.t 8) (.c (.int .i64 1500))⟩,
       ⟨(some 10), none, .pick (.t 6) (.t 9) (.c (.bool false))⟩,
       ⟨(some 11), none, .mv (.t 10)⟩,
       ⟨(some 12), (some (11, true)), .load (some 8) (.t 1)⟩,
       ⟨(some 13), (some (11, true)), .call (.c (.fn 47)) [(.t 12)]⟩,
       ⟨(some 14), none, .pick (.t 11) (.t 13) (.c (.bool false))⟩,
       ⟨(some 2), none, .mv (.t 14)⟩])
  .ret))⟩
theorem c23 : compF Tryz.prog [0, 1, 2] Tryz.f23 = some a23 := by kernel_rfl

/- bushel/syn.Free -/
def a24 : AFun := ⟨7, [.tmp 2], (.seq (.reg [1, 2] [⟨(some 1), none, .box (.t 0)⟩,
       ⟨(some 2), none, .mv (.c .snil)⟩])
  (.seq (.reg [2] [⟨(some 3), none, .load (some 8) (.t 1)⟩,
       ⟨(some 4), none, .call (.c (.fn 50)) [(.t 3)]⟩,
       ⟨(some 5), none, .call (.c (.fn 49)) [(.t 4)]⟩,
       ⟨(some 6), none, .call (.c (.fn 48)) [(.t 5)]⟩,
       ⟨(some 2), none, .mv (.t 6)⟩])
  .ret))⟩
theorem c24 : compF Tryz.prog [0, 1, 2] Tryz.f24 = some a24 := by kernel_rfl

/- bushel/syn.Depth -/
def a25 : AFun := ⟨20, [.tmp 2], (.seq (.reg [1, 2] [⟨(some 1), none, .box (.t 0)⟩,
       ⟨(some 2), none, .mv (.c (.int .i64 0))⟩])
  (.seq (.reg [3] [⟨(some 3), none, .mv (.c (.int .i64 0))⟩])
  (.seq (.seq (.reg [7, 8, 9] [⟨(some 6), none, .faddr 7 (.t 1)⟩,
        ⟨(some 7), none, .load none (.t 6)⟩,
        ⟨(some 8), none, .len .sl (.t 7)⟩,
        ⟨(some 9), none, .mv (.c (.int .i64 0))⟩])
   (.block 0 (.loop (.seq (.reg [10] [⟨(some 10), none, .bin .lss .other false (.t 9) (.t 8)⟩])
     (.seq (.cond (.t 10) .skip
      (.exit 0))
     (.seq (.block 1 (.seq (.reg [5] [⟨(some 11), none, .iaddr (some 8) (.t 7) (.t 9)⟩,
            ⟨(some 12), none, .load (some 8) (.t 11)⟩,
            ⟨(some 5), none, .alloc [(.int .i64 0), (.int .i64 0), (.int .i64 0), (.str []), (.str []), .snil, .snil, .snil]⟩,
            ⟨none, none, .store 8 (.t 5) (.t 12)⟩])
       (.reg [3] [⟨(some 13), none, .mv (.t 3)⟩,
           ⟨(some 14), none, .load (some 8) (.t 5)⟩,
           ⟨(some 15), none, .call (.c (.fn 25)) [(.t 14)]⟩,
           ⟨(some 16), none, .ext .max [(.t 13), (.t 15)]⟩,
           ⟨(some 3), none, .mv (.t 16)⟩])))
     (.reg [9] [⟨(some 17), none, .bin .add .other true (.t 9) (.c (.int .i64 1))⟩,
         ⟨(some 9), none, .mv (.t 17)⟩])))))))
  (.seq (.reg [2] [⟨(some 18), none, .mv (.t 3)⟩,
       ⟨(some 19), none, .bin .add .other true (.t 18) (.c (.int .i64 1))⟩,
       ⟨(some 2), none, .mv (.t 19)⟩])
  .ret))))⟩
theorem c25 : compF Tryz.prog [0, 1, 2, 3, 5, 7, 8, 9, 10] Tryz.f25 = some a25 := by kernel_rfl

/- bushel/syn.Nodes -/
def a26 : AFun := ⟨19, [.tmp 2], (.seq (.reg [1, 2] [⟨(some 1), none, .box (.t 0)⟩,
       ⟨(some 2), none, .mv (.c (.int .i64 0))⟩])
  (.seq (.reg [3] [⟨(some 3), none, .mv (.c (.int .i64 1))⟩])
  (.seq (.seq (.reg [7, 8, 9] [⟨(some 6), none, .faddr 7 (.t 1)⟩,
        ⟨(some 7), none, .load none (.t 6)⟩,
        ⟨(some 8), none, .len .sl (.t 7)⟩,
        ⟨(some 9), none, .mv (.c (.int .i64 0))⟩])
   (.block 0 (.loop (.seq (.reg [10] [⟨(some 10), none, .bin .lss .other false (.t 9) (.t 8)⟩])
     (.seq (.cond (.t 10) .skip
      (.exit 0))
     (.seq (.block 1 (.seq (.reg [5] [⟨(some 11), none, .iaddr (some 8) (.t 7) (.t 9)⟩,
            ⟨(some 12), none, .load (some 8) (.t 11)⟩,
            ⟨(some 5), none, .alloc [(.int .i64 0), (.int .i64 0), (.int .i64 0), (.str []), (.str []), .snil, .snil, .snil]⟩,
            ⟨none, none, .store 8 (.t 5) (.t 12)⟩])
       (.reg [3] [⟨(some 13), none, .mv (.t 3)⟩,
           ⟨(some 14), none, .load (some 8) (.t 5)⟩,
           ⟨(some 15), none, .call (.c (.fn 26)) [(.t 14)]⟩,
           ⟨(some 16), none, .bin .add .other false (.t 13) (.t 15)⟩,
           ⟨(some 3), none, .mv (.t 16)⟩])))
     (.reg [9] [⟨(some 17), none, .bin .add .other true (.t 9) (.c (.int .i64 1))⟩,
         ⟨(some 9), none, .mv (.t 17)⟩])))))))
  (.seq (.reg [2] [⟨(some 18), none, .mv (.t 3)⟩,
       ⟨(some 2), none, .mv (.t 18)⟩])
  .ret))))⟩
theorem c26 : compF Tryz.prog [0, 1, 2, 3, 5, 7, 8, 9, 10] Tryz.f26 = some a26 := by kernel_rfl

/- bushel/bushelref05.count -/
def a30 : AFun := ⟨69, [.tmp 4], (.seq (.reg [2, 4] [⟨(some 2), none, .box (.t 0)⟩,
       ⟨(some 4), none, .mv (.c (.int .i64 0))⟩])
  (.seq (.reg [1] [⟨(some 8), none, .mv (.t 1)⟩,
       ⟨(some 9), none, .bin .sub .other true (.t 8) (.c (.int .i64 1))⟩,
       ⟨(some 10), none, .faddr 3 (.t 2)⟩,
       ⟨(some 11), none, .load none (.t 10)⟩,
       ⟨(some 12), none, .len .str (.t 11)⟩,
       ⟨(some 13), none, .bin .sub .other false (.t 9) (.t 12)⟩,
       ⟨(some 14), none, .faddr 4 (.t 2)⟩,
       ⟨(some 15), none, .load none (.t 14)⟩,
       ⟨(some 16), none, .len .str (.t 15)⟩,
       ⟨(some 17), none, .bin .sub .other false (.t 13) (.t 16)⟩,
       ⟨(some 1), none, .mv (.t 17)⟩])
  (.seq (.seq (.reg [5] [⟨(some 5), none, .mv (.c (.int .i64 0))⟩])
   (.block 0 (.loop (.seq (.seq (.reg [22] [⟨(some 18), none, .mv (.t 5)⟩,
           ⟨(some 19), none, .faddr 5 (.t 2)⟩,
           ⟨(some 20), none, .load none (.t 19)⟩,
           ⟨(some 21), none, .len .sl (.t 20)⟩,
           ⟨(some 22), none, .bin .lss .other false (.t 18) (.t 21)⟩])
      (.cond (.t 22) .skip
      (.exit 0)))
     (.seq (.block 1 (.reg [1] [⟨(some 25), none, .mv (.t 1)⟩,
           ⟨(some 26), none, .bin .sub .other true (.t 25) (.c (.int .i64 1))⟩,
           ⟨(some 27), none, .faddr 5 (.t 2)⟩,
           ⟨(some 28), none, .load none (.t 27)⟩,
           ⟨(some 29), none, .mv (.t 5)⟩,
           ⟨(some 30), none, .iaddr none (.t 28) (.t 29)⟩,
           ⟨(some 31), none, .load none (.t 30)⟩,
           ⟨(some 32), none, .len .str (.t 31)⟩,
           ⟨(some 33), none, .bin .sub .other false (.t 26) (.t 32)⟩,
           ⟨(some 1), none, .mv (.t 33)⟩]))
     (.reg [5] [⟨(some 23), none, .mv (.t 5)⟩,
         ⟨(some 24), none, .bin .add .other true (.t 23) (.c (.int .i64 1))⟩,
         ⟨(some 5), none, .mv (.t 24)⟩]))))))
  (.seq (.seq (.reg [6] [⟨(some 6), none, .mv (.c (.int .i64 0))⟩])
   (.block 2 (.loop (.seq (.seq (.reg [38] [⟨(some 34), none, .mv (.t 6)⟩,
           ⟨(some 35), none, .faddr 6 (.t 2)⟩,
           ⟨(some 36), none, .load none (.t 35)⟩,
           ⟨(some 37), none, .len .sl (.t 36)⟩,
           ⟨(some 38), none, .bin .lss .other false (.t 34) (.t 37)⟩])
      (.cond (.t 38) .skip
      (.exit 2)))
     (.seq (.block 3 (.reg [1] [⟨(some 41), none, .mv (.t 1)⟩,
           ⟨(some 42), none, .bin .sub .other true (.t 41) (.c (.int .i64 1))⟩,
           ⟨(some 43), none, .faddr 6 (.t 2)⟩,
           ⟨(some 44), none, .load none (.t 43)⟩,
           ⟨(some 45), none, .mv (.t 6)⟩,
           ⟨(some 46), none, .iaddr none (.t 44) (.t 45)⟩,
           ⟨(some 47), none, .load none (.t 46)⟩,
           ⟨(some 48), none, .len .str (.t 47)⟩,
           ⟨(some 49), none, .bin .sub .other false (.t 42) (.t 48)⟩,
           ⟨(some 1), none, .mv (.t 49)⟩]))
     (.reg [6] [⟨(some 39), none, .mv (.t 6)⟩,
         ⟨(some 40), none, .bin .add .other true (.t 39) (.c (.int .i64 1))⟩,
         ⟨(some 6), none, .mv (.t 40)⟩]))))))
  (.seq (.seq (.reg [7] [⟨(some 7), none, .mv (.c (.int .i64 0))⟩])
   (.block 4 (.loop (.seq (.seq (.reg [58] [⟨(some 50), none, .mv (.t 7)⟩,
           ⟨(some 51), none, .faddr 7 (.t 2)⟩,
           ⟨(some 52), none, .load none (.t 51)⟩,
           ⟨(some 53), none, .len .sl (.t 52)⟩,
           ⟨(some 54), none, .bin .lss .other false (.t 50) (.t 53)⟩,
           ⟨(some 55), none, .mv (.t 54)⟩,
           ⟨(some 56), (some (55, true)), .mv (.t 1)⟩,
           ⟨(some 57), (some (55, true)), .bin .geq .other true (.t 56) (.c (.int .i64 0))⟩,
           ⟨(some 58), none, .pick (.t 55) (.t 57) (.c (.bool false))⟩])
      (.cond (.t 58) .skip
      (.exit 4)))
     (.seq (.block 5 (.reg [1] [⟨(some 61), none, .faddr 7 (.t 2)⟩,
           ⟨(some 62), none, .load none (.t 61)⟩,
           ⟨(some 63), none, .mv (.t 7)⟩,
           ⟨(some 64), none, .iaddr (some 8) (.t 62) (.t 63)⟩,
           ⟨(some 65), none, .load (some 8) (.t 64)⟩,
           ⟨(some 66), none, .mv (.t 1)⟩,
           ⟨(some 67), none, .call (.c (.fn 30)) [(.t 65), (.t 66)]⟩,
           ⟨(some 1), none, .mv (.t 67)⟩]))
     (.reg [7] [⟨(some 59), none, .mv (.t 7)⟩,
         ⟨(some 60), none, .bin .add .other true (.t 59) (.c (.int .i64 1))⟩,
         ⟨(some 7), none, .mv (.t 60)⟩]))))))
  (.seq (.reg [4] [⟨(some 68), none, .mv (.t 1)⟩,
       ⟨(some 4), none, .mv (.t 68)⟩])
  .ret))))))⟩
theorem c30 : compF Tryz.prog [0, 1, 2, 4, 5, 6, 7, 22, 38, 58] Tryz.f30 = some a30 := by kernel_rfl

/- bushel/bushelref05.Depth -/
def a32 : AFun := ⟨25, [.tmp 2], (.seq (.reg [1, 2] [⟨(some 1), none, .box (.t 0)⟩,
       ⟨(some 2), none, .mv (.c (.int .i64 0))⟩])
  (.seq (.reg [3] [⟨(some 3), none, .mv (.c (.int .i64 0))⟩])
  (.seq (.seq (.reg [4] [⟨(some 4), none, .mv (.c (.int .i64 0))⟩])
   (.block 0 (.loop (.seq (.seq (.reg [10] [⟨(some 6), none, .mv (.t 4)⟩,
           ⟨(some 7), none, .faddr 7 (.t 1)⟩,
           ⟨(some 8), none, .load none (.t 7)⟩,
           ⟨(some 9), none, .len .sl (.t 8)⟩,
           ⟨(some 10), none, .bin .lss .other false (.t 6) (.t 9)⟩])
      (.cond (.t 10) .skip
      (.exit 0)))
     (.seq (.block 1 (.seq (.reg [5] [⟨(some 13), none, .faddr 7 (.t 1)⟩,
            ⟨(some 14), none, .load none (.t 13)⟩,
            ⟨(some 15), none, .mv (.t 4)⟩,
            ⟨(some 16), none, .iaddr (some 8) (.t 14) (.t 15)⟩,
            ⟨(some 17), none, .load (some 8) (.t 16)⟩,
            ⟨(some 18), none, .call (.c (.fn 32)) [(.t 17)]⟩,
            ⟨(some 5), none, .mv (.t 18)⟩])
       (.seq (.reg [21] [⟨(some 19), none, .mv (.t 5)⟩,
            ⟨(some 20), none, .mv (.t 3)⟩,
            ⟨(some 21), none, .bin .gtr .other false (.t 19) (.t 20)⟩])
       (.cond (.t 21) (.reg [3] [⟨(some 22), none, .mv (.t 5)⟩,
             ⟨(some 3), none, .mv (.t 22)⟩])
       .skip))))
     (.reg [4] [⟨(some 11), none, .mv (.t 4)⟩,
         ⟨(some 12), none, .bin .add .other true (.t 11) (.c (.int .i64 1))⟩,
         ⟨(some 4), none, .mv (.t 12)⟩]))))))
  (.seq (.reg [2] [⟨(some 23), none, .mv (.t 3)⟩,
       ⟨(some 24), none, .bin .add .other true (.t 23) (.c (.int .i64 1))⟩,
       ⟨(some 2), none, .mv (.t 24)⟩])
  .ret))))⟩
theorem c32 : compF Tryz.prog [0, 1, 2, 3, 4, 5, 10, 21] Tryz.f32 = some a32 := by kernel_rfl

/- bushel/bushelref05.Nodes -/
def a33 : AFun := ⟨21, [.tmp 2], (.seq (.reg [1, 2] [⟨(some 1), none, .box (.t 0)⟩,
       ⟨(some 2), none, .mv (.c (.int .i64 0))⟩])
  (.seq (.reg [3] [⟨(some 3), none, .mv (.c (.int .i64 1))⟩])
  (.seq (.seq (.reg [4] [⟨(some 4), none, .mv (.c (.int .i64 0))⟩])
   (.block 0 (.loop (.seq (.seq (.reg [9] [⟨(some 5), none, .mv (.t 4)⟩,
           ⟨(some 6), none, .faddr 7 (.t 1)⟩,
           ⟨(some 7), none, .load none (.t 6)⟩,
           ⟨(some 8), none, .len .sl (.t 7)⟩,
           ⟨(some 9), none, .bin .lss .other false (.t 5) (.t 8)⟩])
      (.cond (.t 9) .skip
      (.exit 0)))
     (.seq (.block 1 (.reg [3] [⟨(some 12), none, .mv (.t 3)⟩,
           ⟨(some 13), none, .faddr 7 (.t 1)⟩,
           ⟨(some 14), none, .load none (.t 13)⟩,
           ⟨(some 15), none, .mv (.t 4)⟩,
           ⟨(some 16), none, .iaddr (some 8) (.t 14) (.t 15)⟩,
           ⟨(some 17), none, .load (some 8) (.t 16)⟩,
           ⟨(some 18), none, .call (.c (.fn 33)) [(.t 17)]⟩,
           ⟨(some 19), none, .bin .add .other false (.t 12) (.t 18)⟩,
           ⟨(some 3), none, .mv (.t 19)⟩]))
     (.reg [4] [⟨(some 10), none, .mv (.t 4)⟩,
         ⟨(some 11), none, .bin .add .other true (.t 10) (.c (.int .i64 1))⟩,
         ⟨(some 4), none, .mv (.t 11)⟩]))))))
  (.seq (.reg [2] [⟨(some 20), none, .mv (.t 3)⟩,
       ⟨(some 2), none, .mv (.t 20)⟩])
  .ret))))⟩
theorem c33 : compF Tryz.prog [0, 1, 2, 3, 4, 9] Tryz.f33 = some a33 := by kernel_rfl

/- bushel/bushelref05.fine -/
def a34 : AFun := ⟨24, [.tmp 2], (.seq (.reg [1, 2] [⟨(some 1), none, .box (.t 0)⟩,
       ⟨(some 2), none, .mv (.c (.bool false))⟩])
  (.seq (.reg [3] [⟨(some 5), none, .load (some 8) (.t 1)⟩,
       ⟨(some 6), none, .call (.c (.fn 60)) [(.t 5)]⟩,
       ⟨(some 3), none, .mv (.t 6)⟩])
  (.seq (.seq (.reg [4] [⟨(some 4), none, .mv (.c (.int .i64 0))⟩])
   (.block 0 (.loop (.seq (.seq (.reg [14] [⟨(some 7), none, .mv (.t 4)⟩,
           ⟨(some 8), none, .faddr 7 (.t 1)⟩,
           ⟨(some 9), none, .load none (.t 8)⟩,
           ⟨(some 10), none, .len .sl (.t 9)⟩,
           ⟨(some 11), none, .bin .lss .other false (.t 7) (.t 10)⟩,
           ⟨(some 12), none, .mv (.t 11)⟩,
           ⟨(some 13), (some (12, true)), .mv (.t 3)⟩,
           ⟨(some 14), none, .pick (.t 12) (.t 13) (.c (.bool false))⟩])
      (.cond (.t 14) .skip
      (.exit 0)))
     (.seq (.block 1 (.reg [3] [⟨(some 17), none, .faddr 7 (.t 1)⟩,
           ⟨(some 18), none, .load none (.t 17)⟩,
           ⟨(some 19), none, .mv (.t 4)⟩,
           ⟨(some 20), none, .iaddr (some 8) (.t 18) (.t 19)⟩,
           ⟨(some 21), none, .load (some 8) (.t 20)⟩,
           ⟨(some 22), none, .call (.c (.fn 34)) [(.t 21)]⟩,
           ⟨(some 3), none, .mv (.t 22)⟩]))
     (.reg [4] [⟨(some 15), none, .mv (.t 4)⟩,
         ⟨(some 16), none, .bin .add .other true (.t 15) (.c (.int .i64 1))⟩,
         ⟨(some 4), none, .mv (.t 16)⟩]))))))
  (.seq (.reg [2] [⟨(some 23), none, .mv (.t 3)⟩,
       ⟨(some 2), none, .mv (.t 23)⟩])
  .ret))))⟩
theorem c34 : compF Tryz.prog [0, 1, 2, 3, 4, 14] Tryz.f34 = some a34 := by kernel_rfl

/- bushel/bushelref05.p -/
def a37 : AFun := ⟨19, [.tmp 2], (.seq (.reg [1, 2] [⟨(some 1), none, .box (.t 0)⟩,
       ⟨(some 2), none, .mv (.c (.str []))⟩])
  (.seq (.seq (.reg [4] [⟨(some 3), none, .faddr 0 (.t 1)⟩,
        ⟨(some 4), none, .load none (.t 3)⟩])
   (.block 0 (.seq (.seq (.reg [5] [⟨(some 6), none, .bin .eql .other true (.t 4) (.c (.int .i64 1))⟩,
          ⟨(some 5), none, .mv (.t 6)⟩])
     (.cond (.t 5) .skip
     (.seq (.reg [5] [⟨(some 7), none, .bin .eql .other true (.t 4) (.c (.int .i64 2))⟩,
          ⟨(some 5), none, .mv (.t 7)⟩])
     (.cond (.t 5) .skip
     (.seq (.reg [5] [⟨(some 8), none, .bin .eql .other true (.t 4) (.c (.int .i64 3))⟩,
          ⟨(some 5), none, .mv (.t 8)⟩])
     (.cond (.t 5) .skip
     (.seq (.reg [5] [⟨(some 9), none, .bin .eql .other true (.t 4) (.c (.int .i64 8))⟩,
          ⟨(some 5), none, .mv (.t 9)⟩])
     (.cond (.t 5) .skip
     (.seq (.reg [5] [⟨(some 10), none, .bin .eql .other true (.t 4) (.c (.int .i64 10))⟩,
          ⟨(some 5), none, .mv (.t 10)⟩])
     (.cond (.t 5) .skip
     (.seq (.reg [5] [⟨(some 11), none, .bin .eql .other true (.t 4) (.c (.int .i64 12))⟩,
          ⟨(some 5), none, .mv (.t 11)⟩])
     (.cond (.t 5) .skip
     (.reg [5] [⟨(some 12), none, .bin .eql .other true (.t 4) (.c (.int .i64 22))⟩,
         ⟨(some 5), none, .mv (.t 12)⟩])))))))))))))
    (.cond (.t 5) (.seq (.reg [2] [⟨(some 13), none, .load (some 8) (.t 1)⟩,
           ⟨(some 14), none, .call (.c (.fn 12)) [(.t 13)]⟩,
           ⟨(some 2), none, .mv (.t 14)⟩])
      .ret)
    .skip))))
  (.seq (.reg [2] [⟨(some 15), none, .load (some 8) (.t 1)⟩,
       ⟨(some 16), none, .call (.c (.fn 12)) [(.t 15)]⟩,
       ⟨(some 17), none, .bin .add .other true (.c (.str [40])) (.t 16)⟩,
       ⟨(some 18), none, .bin .add .other true (.t 17) (.c (.str [41]))⟩,
       ⟨(some 2), none, .mv (.t 18)⟩])
  .ret)))⟩
theorem c37 : compF Tryz.prog [0, 1, 2, 4, 5] Tryz.f37 = some a37 := by kernel_rfl

/- bushel/bushelref05.fields -/
def a38 : AFun := ⟨32, [.tmp 2], (.seq (.reg [1, 2] [⟨(some 1), none, .box (.t 0)⟩,
       ⟨(some 2), none, .mv (.c (.str []))⟩])
  (.seq (.reg [3] [⟨(some 3), none, .mv (.c (.str []))⟩])
  (.seq (.seq (.reg [4] [⟨(some 4), none, .mv (.c (.int .i64 0))⟩])
   (.block 0 (.loop (.seq (.seq (.reg [9] [⟨(some 5), none, .mv (.t 4)⟩,
           ⟨(some 6), none, .faddr 5 (.t 1)⟩,
           ⟨(some 7), none, .load none (.t 6)⟩,
           ⟨(some 8), none, .len .sl (.t 7)⟩,
           ⟨(some 9), none, .bin .lss .other false (.t 5) (.t 8)⟩])
      (.cond (.t 9) .skip
      (.exit 0)))
     (.seq (.block 1 (.seq (.seq (.reg [13] [⟨(some 12), none, .mv (.t 4)⟩,
             ⟨(some 13), none, .bin .gtr .other true (.t 12) (.c (.int .i64 0))⟩])
        (.cond (.t 13) (.reg [3] [⟨(some 14), none, .mv (.t 3)⟩,
              ⟨(some 15), none, .bin .add .other true (.t 14) (.c (.str [44, 32]))⟩,
              ⟨(some 3), none, .mv (.t 15)⟩])
        .skip))
       (.any [3] [(⟨(some 16), none, .mv (.t 3)⟩, true),
           (⟨(some 17), none, .faddr 5 (.t 1)⟩, false),
           (⟨(some 18), none, .load none (.t 17)⟩, false),
           (⟨(some 19), none, .mv (.t 4)⟩, false),
           (⟨(some 20), none, .iaddr none (.t 18) (.t 19)⟩, false),
           (⟨(some 21), none, .load none (.t 20)⟩, false),
           (⟨(some 22), none, .bin .add .other false (.t 16) (.t 21)⟩, true),
           (⟨(some 23), none, .bin .add .other true (.t 22) (.c (.str [32, 61, 32]))⟩, true),
           (⟨(some 24), none, .faddr 7 (.t 1)⟩, false),
           (⟨(some 25), none, .load none (.t 24)⟩, false),
           (⟨(some 26), none, .mv (.t 4)⟩, false),
           (⟨(some 27), none, .iaddr (some 8) (.t 25) (.t 26)⟩, false),
           (⟨(some 28), none, .load (some 8) (.t 27)⟩, false),
           (⟨(some 29), none, .call (.c (.fn 12)) [(.t 28)]⟩, false),
           (⟨(some 30), none, .bin .add .other false (.t 23) (.t 29)⟩, true),
           (⟨(some 3), none, .mv (.t 30)⟩, true)])))
     (.reg [4] [⟨(some 10), none, .mv (.t 4)⟩,
         ⟨(some 11), none, .bin .add .other true (.t 10) (.c (.int .i64 1))⟩,
         ⟨(some 4), none, .mv (.t 11)⟩]))))))
  (.seq (.reg [2] [⟨(some 31), none, .mv (.t 3)⟩,
       ⟨(some 2), none, .mv (.t 31)⟩])
  .ret))))⟩
theorem c38 : compF Tryz.prog [0, 1, 2, 3, 4, 9, 13] Tryz.f38 = some a38 := by kernel_rfl

/- bushel/bushelref05.arms -/
def a39 : AFun := ⟨56, [.tmp 2], (.seq (.reg [1, 2] [⟨(some 1), none, .box (.t 0)⟩,
       ⟨(some 2), none, .mv (.c (.str []))⟩])
  (.seq (.reg [3] [⟨(some 3), none, .mv (.c (.str []))⟩])
  (.seq (.seq (.reg [4] [⟨(some 4), none, .mv (.c (.int .i64 0))⟩])
   (.block 0 (.loop (.seq (.seq (.reg [9] [⟨(some 5), none, .mv (.t 4)⟩,
           ⟨(some 6), none, .faddr 5 (.t 1)⟩,
           ⟨(some 7), none, .load none (.t 6)⟩,
           ⟨(some 8), none, .len .sl (.t 7)⟩,
           ⟨(some 9), none, .bin .lss .other false (.t 5) (.t 8)⟩])
      (.cond (.t 9) .skip
      (.exit 0)))
     (.seq (.block 1 (.any [3] [(⟨(some 12), none, .mv (.t 3)⟩, true),
           (⟨(some 13), none, .bin .add .other true (.t 12) (.c (.str [32, 124, 32]))⟩, true),
           (⟨(some 14), none, .faddr 5 (.t 1)⟩, false),
           (⟨(some 15), none, .load none (.t 14)⟩, false),
           (⟨(some 16), none, .mv (.t 4)⟩, false),
           (⟨(some 17), none, .iaddr none (.t 15) (.t 16)⟩, false),
           (⟨(some 18), none, .load none (.t 17)⟩, false),
           (⟨(some 19), none, .bin .add .other false (.t 13) (.t 18)⟩, true),
           (⟨(some 20), none, .bin .add .other true (.t 19) (.c (.str [32]))⟩, true),
           (⟨(some 21), none, .faddr 6 (.t 1)⟩, false),
           (⟨(some 22), none, .load none (.t 21)⟩, false),
           (⟨(some 23), none, .mv (.t 4)⟩, false),
           (⟨(some 24), none, .iaddr none (.t 22) (.t 23)⟩, false),
           (⟨(some 25), none, .load none (.t 24)⟩, false),
           (⟨(some 26), none, .bin .add .other false (.t 20) (.t 25)⟩, true),
           (⟨(some 27), none, .bin .add .other true (.t 26) (.c (.str [32, 45, 62, 32]))⟩, true),
           (⟨(some 28), none, .faddr 7 (.t 1)⟩, false),
           (⟨(some 29), none, .load none (.t 28)⟩, false),
           (⟨(some 30), none, .mv (.t 4)⟩, false),
           (⟨(some 31), none, .bin .add .other true (.t 30) (.c (.int .i64 1))⟩, false),
           (⟨(some 32), none, .iaddr (some 8) (.t 29) (.t 31)⟩, false),
           (⟨(some 33), none, .load (some 8) (.t 32)⟩, false),
           (⟨(some 34), none, .call (.c (.fn 12)) [(.t 33)]⟩, false),
           (⟨(some 35), none, .bin .add .other false (.t 27) (.t 34)⟩, true),
           (⟨(some 3), none, .mv (.t 35)⟩, true)]))
     (.reg [4] [⟨(some 10), none, .mv (.t 4)⟩,
         ⟨(some 11), none, .bin .add .other true (.t 10) (.c (.int .i64 1))⟩,
         ⟨(some 4), none, .mv (.t 11)⟩]))))))
  (.seq (.seq (.reg [38] [⟨(some 36), none, .faddr 4 (.t 1)⟩,
        ⟨(some 37), none, .load none (.t 36)⟩,
        ⟨(some 38), none, .bin .neq .other true (.t 37) (.c (.str []))⟩])
   (.cond (.t 38) (.any [3] [(⟨(some 39), none, .mv (.t 3)⟩, true),
         (⟨(some 40), none, .bin .add .other true (.t 39) (.c (.str [32, 124, 32]))⟩, true),
         (⟨(some 41), none, .faddr 4 (.t 1)⟩, false),
         (⟨(some 42), none, .load none (.t 41)⟩, false),
         (⟨(some 43), none, .bin .add .other false (.t 40) (.t 42)⟩, true),
         (⟨(some 44), none, .bin .add .other true (.t 43) (.c (.str [32, 45, 62, 32]))⟩, true),
         (⟨(some 45), none, .faddr 7 (.t 1)⟩, false),
         (⟨(some 46), none, .load none (.t 45)⟩, false),
         (⟨(some 47), none, .faddr 7 (.t 1)⟩, false),
         (⟨(some 48), none, .load none (.t 47)⟩, false),
         (⟨(some 49), none, .len .sl (.t 48)⟩, false),
         (⟨(some 50), none, .bin .sub .other true (.t 49) (.c (.int .i64 1))⟩, false),
         (⟨(some 51), none, .iaddr (some 8) (.t 46) (.t 50)⟩, false),
         (⟨(some 52), none, .load (some 8) (.t 51)⟩, false),
         (⟨(some 53), none, .call (.c (.fn 12)) [(.t 52)]⟩, false),
         (⟨(some 54), none, .bin .add .other false (.t 44) (.t 53)⟩, true),
         (⟨(some 3), none, .mv (.t 54)⟩, true)])
   .skip))
  (.seq (.reg [2] [⟨(some 55), none, .mv (.t 3)⟩,
       ⟨(some 2), none, .mv (.t 55)⟩])
  .ret)))))⟩
theorem c39 : compF Tryz.prog [0, 1, 2, 3, 4, 9, 38] Tryz.f39 = some a39 := by kernel_rfl

/- bushel/bushelref05.texts -/
def a46 : AFun := ⟨26, [.tmp 4], (.seq (.reg [4] [⟨(some 4), none, .mv (.c (.bool false))⟩])
  (.seq (.seq (.reg [10] [⟨(some 6), none, .mv (.t 0)⟩,
        ⟨(some 7), none, .len .sl (.t 6)⟩,
        ⟨(some 8), none, .mv (.t 1)⟩,
        ⟨(some 9), none, .len .sl (.t 8)⟩,
        ⟨(some 10), none, .bin .neq .other false (.t 7) (.t 9)⟩])
   (.cond (.t 10) (.seq (.reg [4] [⟨(some 4), none, .mv (.c (.bool false))⟩])
     .ret)
   .skip))
  (.seq (.seq (.reg [5] [⟨(some 5), none, .mv (.c (.int .i64 0))⟩])
   (.block 0 (.loop (.seq (.seq (.reg [14] [⟨(some 11), none, .mv (.t 5)⟩,
           ⟨(some 12), none, .mv (.t 0)⟩,
           ⟨(some 13), none, .len .sl (.t 12)⟩,
           ⟨(some 14), none, .bin .lss .other false (.t 11) (.t 13)⟩])
      (.cond (.t 14) .skip
      (.exit 0)))
     (.seq (.block 1 (.seq (.any [25] [(⟨(some 17), none, .mv (.t 0)⟩, true),
            (⟨(some 18), none, .mv (.t 5)⟩, false),
            (⟨(some 19), none, .iaddr none (.t 17) (.t 18)⟩, true),
            (⟨(some 20), none, .load none (.t 19)⟩, true),
            (⟨(some 21), none, .mv (.t 1)⟩, false),
            (⟨(some 22), none, .mv (.t 5)⟩, false),
            (⟨(some 23), none, .iaddr none (.t 21) (.t 22)⟩, false),
            (⟨(some 24), none, .load none (.t 23)⟩, false),
            (⟨(some 25), none, .bin .neq .other false (.t 20) (.t 24)⟩, true)])
       (.cond (.t 25) (.seq (.reg [4] [⟨(some 4), none, .mv (.c (.bool false))⟩])
         .ret)
       .skip)))
     (.reg [5] [⟨(some 15), none, .mv (.t 5)⟩,
         ⟨(some 16), none, .bin .add .other true (.t 15) (.c (.int .i64 1))⟩,
         ⟨(some 5), none, .mv (.t 16)⟩]))))))
  (.seq (.reg [4] [⟨(some 4), none, .mv (.c (.bool true))⟩])
  .ret))))⟩
theorem c46 : compF Tryz.prog [0, 1, 4, 5, 10, 14, 25] Tryz.f46 = some a46 := by kernel_rfl

/- bushel/syn.fine -/
def a47 : AFun := ⟨11, [.tmp 2], (.seq (.reg [1, 2] [⟨(some 1), none, .box (.t 0)⟩,
       ⟨(some 2), none, .mv (.c (.bool false))⟩])
  (.seq (.reg [2] [⟨(some 3), none, .load (some 8) (.t 1)⟩,
       ⟨(some 4), none, .call (.c (.fn 72)) [(.t 3)]⟩,
       ⟨(some 5), none, .mv (.t 4)⟩,
       ⟨(some 6), (some (5, true)), .faddr 7 (.t 1)⟩,
       ⟨(some 7), (some (5, true)), .load none (.t 6)⟩,
       ⟨(some 8), (some (5, true)), .call (.c (.fn 73)) [(.t 7), (.c (.fn 74))]⟩,
       ⟨(some 9), (some (5, true)), .un .not (.t 8)⟩,
       ⟨(some 10), none, .pick (.t 5) (.t 9) (.c (.bool false))⟩,
       ⟨(some 2), none, .mv (.t 10)⟩])
  .ret))⟩
theorem c47 : compF Tryz.prog [0, 1, 2] Tryz.f47 = some a47 := by kernel_rfl

/- slices.Sorted[string] -/
def a48 : AFun := ⟨9, [.tmp 2], (.seq (.reg [2] [⟨(some 2), none, .mv (.c .snil)⟩])
  (.seq (.reg [3] [⟨(some 4), none, .mv (.t 0)⟩,
       ⟨(some 5), none, .call (.c (.fn 75)) [(.t 4)]⟩,
       ⟨(some 3), none, .mv (.t 5)⟩])
  (.seq (.reg [] [⟨(some 6), none, .mv (.t 3)⟩,
       ⟨(some 7), none, .call (.c (.fn 76)) [(.t 6)]⟩])
  (.seq (.reg [2] [⟨(some 8), none, .mv (.t 3)⟩,
       ⟨(some 2), none, .mv (.t 8)⟩])
  .ret))))⟩
theorem c48 : compF Tryz.prog [0, 2, 3] Tryz.f48 = some a48 := by kernel_rfl

/- maps.Keys[map[string]bool,string,bool] -/
def a49 : AFun := ⟨4, [.tmp 2], (.seq (.reg [1, 2] [⟨(some 1), none, .box (.t 0)⟩,
       ⟨(some 2), none, .mv (.c .fnil)⟩])
  (.seq (.reg [2] [⟨(some 3), none, .mkfn 77 [(.t 1)]⟩,
       ⟨(some 2), none, .mv (.t 3)⟩])
  .ret))⟩
theorem c49 : compF Tryz.prog [0, 1, 2] Tryz.f49 = some a49 := by kernel_rfl

/- bushel/syn.free -/
def a50 : AFun := ⟨42, [.tmp 2], (.seq (.reg [1, 2] [⟨(some 1), none, .box (.t 0)⟩,
       ⟨(some 2), none, .mv (.c .mnil)⟩])
  (.seq (.reg [3] [⟨(some 9), none, .ext .mkmap []⟩,
       ⟨(some 3), none, .mv (.t 9)⟩])
  (.seq (.seq (.reg [12] [⟨(some 10), none, .faddr 0 (.t 1)⟩,
        ⟨(some 11), none, .load none (.t 10)⟩,
        ⟨(some 12), none, .bin .eql .other true (.t 11) (.c (.int .i64 3))⟩])
   (.cond (.t 12) (.reg [] [⟨(some 13), none, .mv (.t 3)⟩,
         ⟨(some 14), none, .faddr 3 (.t 1)⟩,
         ⟨(some 15), none, .load none (.t 14)⟩,
         ⟨none, none, .ext (.mput .str) [(.t 13), (.t 15), (.c (.bool true))]⟩])
   .skip))
  (.seq (.seq (.reg [17, 18, 19] [⟨(some 16), none, .faddr 7 (.t 1)⟩,
        ⟨(some 17), none, .load none (.t 16)⟩,
        ⟨(some 18), none, .len .sl (.t 17)⟩,
        ⟨(some 19), none, .mv (.c (.int .i64 0))⟩])
   (.block 0 (.loop (.seq (.reg [20] [⟨(some 20), none, .bin .lss .other false (.t 19) (.t 18)⟩])
     (.seq (.cond (.t 20) .skip
      (.exit 0))
     (.seq (.block 1 (.seq (.reg [5, 4] [⟨(some 21), none, .mv (.t 19)⟩,
            ⟨(some 22), none, .iaddr (some 8) (.t 17) (.t 19)⟩,
            ⟨(some 23), none, .load (some 8) (.t 22)⟩,
            ⟨(some 5), none, .alloc [(.int .i64 0), (.int .i64 0), (.int .i64 0), (.str []), (.str []), .snil, .snil, .snil]⟩,
            ⟨(some 4), none, .mv (.t 21)⟩,
            ⟨none, none, .store 8 (.t 5) (.t 23)⟩])
       (.seq (.reg [6] [⟨(some 24), none, .load (some 8) (.t 5)⟩,
            ⟨(some 25), none, .call (.c (.fn 50)) [(.t 24)]⟩,
            ⟨(some 6), none, .mv (.t 25)⟩])
       (.seq (.seq (.reg [28, 29, 30] [⟨(some 26), none, .load (some 8) (.t 1)⟩,
             ⟨(some 27), none, .mv (.t 4)⟩,
             ⟨(some 28), none, .call (.c (.fn 78)) [(.t 26), (.t 27)]⟩,
             ⟨(some 29), none, .len .sl (.t 28)⟩,
             ⟨(some 30), none, .mv (.c (.int .i64 0))⟩])
        (.block 2 (.loop (.seq (.reg [31] [⟨(some 31), none, .bin .lss .other false (.t 30) (.t 29)⟩])
          (.seq (.cond (.t 31) .skip
           (.exit 2))
          (.seq (.block 3 (.seq (.reg [8] [⟨(some 32), none, .iaddr none (.t 28) (.t 30)⟩,
                 ⟨(some 33), none, .load none (.t 32)⟩,
                 ⟨(some 8), none, .mv (.t 33)⟩])
            (.reg [] [⟨(some 34), none, .mv (.t 6)⟩,
                ⟨(some 35), none, .mv (.t 8)⟩,
                ⟨none, none, .ext (.mdel .str) [(.t 34), (.t 35)]⟩])))
          (.reg [30] [⟨(some 36), none, .bin .add .other true (.t 30) (.c (.int .i64 1))⟩,
              ⟨(some 30), none, .mv (.t 36)⟩])))))))
       (.reg [] [⟨(some 37), none, .mv (.t 3)⟩,
           ⟨(some 38), none, .mv (.t 6)⟩,
           ⟨(some 39), none, .call (.c (.fn 79)) [(.t 37), (.t 38)]⟩])))))
     (.reg [19] [⟨(some 40), none, .bin .add .other true (.t 19) (.c (.int .i64 1))⟩,
         ⟨(some 19), none, .mv (.t 40)⟩])))))))
  (.seq (.reg [2] [⟨(some 41), none, .mv (.t 3)⟩,
       ⟨(some 2), none, .mv (.t 41)⟩])
  .ret)))))⟩
theorem c50 : compF Tryz.prog [0, 1, 2, 3, 4, 5, 6, 8, 12, 17, 18, 19, 20, 28, 29, 30, 31] Tryz.f50 = some a50 := by kernel_rfl

/- bushel/bushelref05.own -/
def a60 : AFun := ⟨122, [.tmp 2], (.seq (.reg [1, 2] [⟨(some 1), none, .box (.t 0)⟩,
       ⟨(some 2), none, .mv (.c (.bool false))⟩])
  (.seq (.reg [3] [⟨(some 6), none, .load (some 8) (.t 1)⟩,
       ⟨(some 7), none, .call (.c (.fn 93)) [(.t 6)]⟩,
       ⟨(some 3), none, .mv (.t 7)⟩])
  (.seq (.seq (.any [39] [(⟨(some 8), none, .faddr 7 (.t 1)⟩, true),
        (⟨(some 9), none, .load none (.t 8)⟩, true),
        (⟨(some 10), none, .len .sl (.t 9)⟩, true),
        (⟨(some 11), none, .faddr 0 (.t 1)⟩, false),
        (⟨(some 12), none, .load none (.t 11)⟩, false),
        (⟨(some 13), none, .faddr 5 (.t 1)⟩, false),
        (⟨(some 14), none, .load none (.t 13)⟩, false),
        (⟨(some 15), none, .len .sl (.t 14)⟩, false),
        (⟨(some 16), none, .faddr 4 (.t 1)⟩, false),
        (⟨(some 17), none, .load none (.t 16)⟩, false),
        (⟨(some 18), none, .bin .neq .other true (.t 17) (.c (.str []))⟩, false),
        (⟨(some 19), none, .call (.c (.fn 94)) [(.t 12), (.t 15), (.t 18)]⟩, false),
        (⟨(some 20), none, .bin .neq .other false (.t 10) (.t 19)⟩, true),
        (⟨(some 21), none, .mv (.t 20)⟩, true),
        (⟨(some 22), (some (21, false)), .faddr 2 (.t 1)⟩, true),
        (⟨(some 23), (some (21, false)), .load none (.t 22)⟩, true),
        (⟨(some 24), (some (21, false)), .bin .lss .other true (.t 23) (.c (.int .i64 0))⟩, true),
        (⟨(some 25), none, .pick (.t 21) (.c (.bool true)) (.t 24)⟩, true),
        (⟨(some 26), none, .mv (.t 25)⟩, true),
        (⟨(some 27), (some (26, false)), .faddr 2 (.t 1)⟩, true),
        (⟨(some 28), (some (26, false)), .load none (.t 27)⟩, true),
        (⟨(some 29), (some (26, false)), .bin .neq .other true (.t 28) (.c (.int .i64 0))⟩, true),
        (⟨(some 30), (some (26, false)), .mv (.t 29)⟩, true),
        (⟨(some 31), (some (30, true)), .faddr 0 (.t 1)⟩, true),
        (⟨(some 32), (some (30, true)), .load none (.t 31)⟩, true),
        (⟨(some 33), (some (30, true)), .bin .neq .other true (.t 32) (.c (.int .i64 1))⟩, true),
        (⟨(some 34), (some (26, false)), .pick (.t 30) (.t 33) (.c (.bool false))⟩, true),
        (⟨(some 35), none, .pick (.t 26) (.c (.bool true)) (.t 34)⟩, true),
        (⟨(some 36), none, .mv (.t 35)⟩, true),
        (⟨(some 37), (some (36, false)), .mv (.t 3)⟩, true),
        (⟨(some 38), (some (36, false)), .un .not (.t 37)⟩, true),
        (⟨(some 39), none, .pick (.t 36) (.c (.bool true)) (.t 38)⟩, true)])
   (.cond (.t 39) (.seq (.reg [2] [⟨(some 2), none, .mv (.c (.bool false))⟩])
     .ret)
   .skip))
  (.seq (.seq (.reg [42] [⟨(some 40), none, .faddr 0 (.t 1)⟩,
        ⟨(some 41), none, .load none (.t 40)⟩,
        ⟨(some 42), none, .bin .eql .other true (.t 41) (.c (.int .i64 8))⟩])
   (.cond (.t 42) (.seq (.reg [2] [⟨(some 43), none, .faddr 5 (.t 1)⟩,
          ⟨(some 44), none, .load none (.t 43)⟩,
          ⟨(some 45), none, .call (.c (.fn 95)) [(.t 44), (.c (.int .i64 1))]⟩,
          ⟨(some 46), none, .mv (.t 45)⟩,
          ⟨(some 47), (some (46, true)), .faddr 6 (.t 1)⟩,
          ⟨(some 48), (some (46, true)), .load none (.t 47)⟩,
          ⟨(some 49), (some (46, true)), .len .sl (.t 48)⟩,
          ⟨(some 50), (some (46, true)), .bin .eql .other true (.t 49) (.c (.int .i64 0))⟩,
          ⟨(some 51), none, .pick (.t 46) (.t 50) (.c (.bool false))⟩,
          ⟨(some 52), none, .mv (.t 51)⟩,
          ⟨(some 53), (some (52, true)), .faddr 4 (.t 1)⟩,
          ⟨(some 54), (some (52, true)), .load none (.t 53)⟩,
          ⟨(some 55), (some (52, true)), .bin .eql .other true (.t 54) (.c (.str []))⟩,
          ⟨(some 56), none, .pick (.t 52) (.t 55) (.c (.bool false))⟩,
          ⟨(some 2), none, .mv (.t 56)⟩])
     .ret)
   .skip))
  (.seq (.seq (.reg [59] [⟨(some 57), none, .faddr 0 (.t 1)⟩,
        ⟨(some 58), none, .load none (.t 57)⟩,
        ⟨(some 59), none, .bin .eql .other true (.t 58) (.c (.int .i64 14))⟩])
   (.cond (.t 59) (.seq (.seq (.reg [4] [⟨(some 4), none, .mv (.c (.int .i64 0))⟩])
      (.block 0 (.loop (.seq (.seq (.reg [64] [⟨(some 60), none, .mv (.t 4)⟩,
              ⟨(some 61), none, .faddr 6 (.t 1)⟩,
              ⟨(some 62), none, .load none (.t 61)⟩,
              ⟨(some 63), none, .len .sl (.t 62)⟩,
              ⟨(some 64), none, .bin .lss .other false (.t 60) (.t 63)⟩])
         (.cond (.t 64) .skip
         (.exit 0)))
        (.seq (.block 1 (.seq (.reg [5] [⟨(some 67), none, .faddr 6 (.t 1)⟩,
               ⟨(some 68), none, .load none (.t 67)⟩,
               ⟨(some 69), none, .mv (.t 4)⟩,
               ⟨(some 70), none, .iaddr none (.t 68) (.t 69)⟩,
               ⟨(some 71), none, .load none (.t 70)⟩,
               ⟨(some 72), none, .call (.c (.fn 96)) [(.t 71), (.c (.int .i64 1))]⟩,
               ⟨(some 5), none, .mv (.t 72)⟩])
          (.seq (.reg [74] [⟨(some 73), none, .mv (.t 5)⟩,
               ⟨(some 74), none, .un .not (.t 73)⟩])
          (.cond (.t 74) (.seq (.reg [2] [⟨(some 2), none, .mv (.c (.bool false))⟩])
            .ret)
          .skip))))
        (.reg [4] [⟨(some 65), none, .mv (.t 4)⟩,
            ⟨(some 66), none, .bin .add .other true (.t 65) (.c (.int .i64 1))⟩,
            ⟨(some 4), none, .mv (.t 66)⟩]))))))
     (.seq (.reg [2] [⟨(some 75), none, .faddr 5 (.t 1)⟩,
          ⟨(some 76), none, .load none (.t 75)⟩,
          ⟨(some 77), none, .call (.c (.fn 95)) [(.t 76), (.c (.int .i64 3))]⟩,
          ⟨(some 78), none, .mv (.t 77)⟩,
          ⟨(some 79), (some (78, true)), .faddr 6 (.t 1)⟩,
          ⟨(some 80), (some (78, true)), .load none (.t 79)⟩,
          ⟨(some 81), (some (78, true)), .len .sl (.t 80)⟩,
          ⟨(some 82), (some (78, true)), .faddr 5 (.t 1)⟩,
          ⟨(some 83), (some (78, true)), .load none (.t 82)⟩,
          ⟨(some 84), (some (78, true)), .len .sl (.t 83)⟩,
          ⟨(some 85), (some (78, true)), .bin .eql .other false (.t 81) (.t 84)⟩,
          ⟨(some 86), none, .pick (.t 78) (.t 85) (.c (.bool false))⟩,
          ⟨(some 87), none, .mv (.t 86)⟩,
          ⟨(some 88), (some (87, true)), .faddr 7 (.t 1)⟩,
          ⟨(some 89), (some (87, true)), .load none (.t 88)⟩,
          ⟨(some 90), (some (87, true)), .len .sl (.t 89)⟩,
          ⟨(some 91), (some (87, true)), .bin .gtr .other true (.t 90) (.c (.int .i64 1))⟩,
          ⟨(some 92), none, .pick (.t 87) (.t 91) (.c (.bool false))⟩,
          ⟨(some 93), none, .mv (.t 92)⟩,
          ⟨(some 94), (some (93, true)), .faddr 4 (.t 1)⟩,
          ⟨(some 95), (some (93, true)), .load none (.t 94)⟩,
          ⟨(some 96), (some (93, true)), .bin .eql .other true (.t 95) (.c (.str []))⟩,
          ⟨(some 97), (some (93, true)), .mv (.t 96)⟩,
          ⟨(some 98), (some (97, false)), .faddr 4 (.t 1)⟩,
          ⟨(some 99), (some (97, false)), .load none (.t 98)⟩,
          ⟨(some 100), (some (97, false)), .call (.c (.fn 96)) [(.t 99), (.c (.int .i64 1))]⟩,
          ⟨(some 101), (some (93, true)), .pick (.t 97) (.c (.bool true)) (.t 100)⟩,
          ⟨(some 102), none, .pick (.t 93) (.t 101) (.c (.bool false))⟩,
          ⟨(some 2), none, .mv (.t 102)⟩])
     .ret))
   .skip))
  (.seq (.seq (.reg [112] [⟨(some 103), none, .faddr 5 (.t 1)⟩,
        ⟨(some 104), none, .load none (.t 103)⟩,
        ⟨(some 105), none, .len .sl (.t 104)⟩,
        ⟨(some 106), none, .bin .gtr .other true (.t 105) (.c (.int .i64 0))⟩,
        ⟨(some 107), none, .mv (.t 106)⟩,
        ⟨(some 108), (some (107, false)), .faddr 6 (.t 1)⟩,
        ⟨(some 109), (some (107, false)), .load none (.t 108)⟩,
        ⟨(some 110), (some (107, false)), .len .sl (.t 109)⟩,
        ⟨(some 111), (some (107, false)), .bin .gtr .other true (.t 110) (.c (.int .i64 0))⟩,
        ⟨(some 112), none, .pick (.t 107) (.c (.bool true)) (.t 111)⟩])
   (.cond (.t 112) (.seq (.reg [2] [⟨(some 2), none, .mv (.c (.bool false))⟩])
     .ret)
   .skip))
  (.seq (.seq (.reg [115] [⟨(some 113), none, .faddr 0 (.t 1)⟩,
        ⟨(some 114), none, .load none (.t 113)⟩,
        ⟨(some 115), none, .bin .eql .other true (.t 114) (.c (.int .i64 7))⟩])
   (.cond (.t 115) (.seq (.reg [2] [⟨(some 116), none, .faddr 4 (.t 1)⟩,
          ⟨(some 117), none, .load none (.t 116)⟩,
          ⟨(some 118), none, .call (.c (.fn 96)) [(.t 117), (.c (.int .i64 1))]⟩,
          ⟨(some 2), none, .mv (.t 118)⟩])
     .ret)
   .skip))
  (.seq (.reg [2] [⟨(some 119), none, .faddr 4 (.t 1)⟩,
       ⟨(some 120), none, .load none (.t 119)⟩,
       ⟨(some 121), none, .bin .eql .other true (.t 120) (.c (.str []))⟩,
       ⟨(some 2), none, .mv (.t 121)⟩])
  .ret))))))))⟩
theorem c60 : compF Tryz.prog [0, 1, 2, 3, 4, 5, 39, 42, 59, 64, 74, 112, 115] Tryz.f60 = some a60 := by kernel_rfl

/- bushel/syn.own -/
def a72 : AFun := ⟨134, [.tmp 2], (.seq (.reg [1, 2] [⟨(some 1), none, .box (.t 0)⟩,
       ⟨(some 2), none, .mv (.c (.bool false))⟩])
  (.seq (.reg [3] [⟨(some 4), none, .faddr 0 (.t 1)⟩,
       ⟨(some 5), none, .load none (.t 4)⟩,
       ⟨(some 6), none, .bin .eql .other true (.t 5) (.c (.int .i64 14))⟩,
       ⟨(some 3), none, .mv (.t 6)⟩])
  (.seq (.block 0 (.seq (.any [7] [(⟨(some 8), none, .faddr 7 (.t 1)⟩, true),
         (⟨(some 9), none, .load none (.t 8)⟩, true),
         (⟨(some 10), none, .len .sl (.t 9)⟩, true),
         (⟨(some 11), none, .faddr 0 (.t 1)⟩, false),
         (⟨(some 12), none, .load none (.t 11)⟩, false),
         (⟨(some 13), none, .faddr 5 (.t 1)⟩, false),
         (⟨(some 14), none, .load none (.t 13)⟩, false),
         (⟨(some 15), none, .len .sl (.t 14)⟩, false),
         (⟨(some 16), none, .faddr 4 (.t 1)⟩, false),
         (⟨(some 17), none, .load none (.t 16)⟩, false),
         (⟨(some 18), none, .bin .neq .other true (.t 17) (.c (.str []))⟩, false),
         (⟨(some 19), none, .call (.c (.fn 106)) [(.t 12), (.t 15), (.t 18)]⟩, false),
         (⟨(some 20), none, .bin .neq .other false (.t 10) (.t 19)⟩, true),
         (⟨(some 21), none, .mv (.t 20)⟩, true),
         (⟨(some 22), (some (21, false)), .faddr 2 (.t 1)⟩, true),
         (⟨(some 23), (some (21, false)), .load none (.t 22)⟩, true),
         (⟨(some 24), (some (21, false)), .bin .lss .other true (.t 23) (.c (.int .i64 0))⟩, true),
         (⟨(some 25), none, .pick (.t 21) (.c (.bool true)) (.t 24)⟩, true),
         (⟨(some 26), none, .mv (.t 25)⟩, true),
         (⟨(some 27), (some (26, false)), .faddr 2 (.t 1)⟩, true),
         (⟨(some 28), (some (26, false)), .load none (.t 27)⟩, true),
         (⟨(some 29), (some (26, false)), .bin .gtr .other true (.t 28) (.c (.int .i64 0))⟩, true),
         (⟨(some 30), (some (26, false)), .mv (.t 29)⟩, true),
         (⟨(some 31), (some (30, true)), .faddr 0 (.t 1)⟩, true),
         (⟨(some 32), (some (30, true)), .load none (.t 31)⟩, true),
         (⟨(some 33), (some (30, true)), .bin .neq .other true (.t 32) (.c (.int .i64 1))⟩, true),
         (⟨(some 34), (some (26, false)), .pick (.t 30) (.t 33) (.c (.bool false))⟩, true),
         (⟨(some 35), none, .pick (.t 26) (.c (.bool true)) (.t 34)⟩, true),
         (⟨(some 36), none, .mv (.t 35)⟩, true),
         (⟨(some 37), (some (36, false)), .load (some 8) (.t 1)⟩, true),
         (⟨(some 38), (some (36, false)), .call (.c (.fn 107)) [(.t 37)]⟩, true),
         (⟨(some 39), (some (36, false)), .un .not (.t 38)⟩, true),
         (⟨(some 40), none, .pick (.t 36) (.c (.bool true)) (.t 39)⟩, true),
         (⟨(some 7), none, .mv (.t 40)⟩, true)])
    (.cond (.t 7) (.seq (.reg [2] [⟨(some 2), none, .mv (.c (.bool false))⟩])
      .ret)
    (.seq (.reg [41] [⟨(some 42), none, .faddr 0 (.t 1)⟩,
         ⟨(some 43), none, .load none (.t 42)⟩,
         ⟨(some 44), none, .bin .eql .other true (.t 43) (.c (.int .i64 8))⟩,
         ⟨(some 41), none, .mv (.t 44)⟩])
    (.cond (.t 41) (.seq (.reg [2] [⟨(some 45), none, .faddr 5 (.t 1)⟩,
           ⟨(some 46), none, .load none (.t 45)⟩,
           ⟨(some 47), none, .call (.c (.fn 108)) [(.t 46), (.c (.int .i64 1))]⟩,
           ⟨(some 48), none, .mv (.t 47)⟩,
           ⟨(some 49), (some (48, true)), .faddr 5 (.t 1)⟩,
           ⟨(some 50), (some (48, true)), .load none (.t 49)⟩,
           ⟨(some 51), (some (48, true)), .call (.c (.fn 109)) [(.t 50)]⟩,
           ⟨(some 52), none, .pick (.t 48) (.t 51) (.c (.bool false))⟩,
           ⟨(some 53), none, .mv (.t 52)⟩,
           ⟨(some 54), (some (53, true)), .faddr 6 (.t 1)⟩,
           ⟨(some 55), (some (53, true)), .load none (.t 54)⟩,
           ⟨(some 56), (some (53, true)), .len .sl (.t 55)⟩,
           ⟨(some 57), (some (53, true)), .bin .eql .other true (.t 56) (.c (.int .i64 0))⟩,
           ⟨(some 58), none, .pick (.t 53) (.t 57) (.c (.bool false))⟩,
           ⟨(some 59), none, .mv (.t 58)⟩,
           ⟨(some 60), (some (59, true)), .faddr 4 (.t 1)⟩,
           ⟨(some 61), (some (59, true)), .load none (.t 60)⟩,
           ⟨(some 62), (some (59, true)), .bin .eql .other true (.t 61) (.c (.str []))⟩,
           ⟨(some 63), none, .pick (.t 59) (.t 62) (.c (.bool false))⟩,
           ⟨(some 2), none, .mv (.t 63)⟩])
      .ret)
    (.seq (.reg [64] [⟨(some 65), none, .mv (.t 3)⟩,
         ⟨(some 64), none, .mv (.t 65)⟩])
    (.cond (.t 64) (.seq (.reg [2] [⟨(some 66), none, .faddr 5 (.t 1)⟩,
           ⟨(some 67), none, .load none (.t 66)⟩,
           ⟨(some 68), none, .call (.c (.fn 108)) [(.t 67), (.c (.int .i64 3))]⟩,
           ⟨(some 69), none, .mv (.t 68)⟩,
           ⟨(some 70), (some (69, true)), .faddr 5 (.t 1)⟩,
           ⟨(some 71), (some (69, true)), .load none (.t 70)⟩,
           ⟨(some 72), (some (69, true)), .call (.c (.fn 109)) [(.t 71)]⟩,
           ⟨(some 73), none, .pick (.t 69) (.t 72) (.c (.bool false))⟩,
           ⟨(some 74), none, .mv (.t 73)⟩,
           ⟨(some 75), (some (74, true)), .faddr 6 (.t 1)⟩,
           ⟨(some 76), (some (74, true)), .load none (.t 75)⟩,
           ⟨(some 77), (some (74, true)), .len .sl (.t 76)⟩,
           ⟨(some 78), (some (74, true)), .faddr 5 (.t 1)⟩,
           ⟨(some 79), (some (74, true)), .load none (.t 78)⟩,
           ⟨(some 80), (some (74, true)), .len .sl (.t 79)⟩,
           ⟨(some 81), (some (74, true)), .bin .eql .other false (.t 77) (.t 80)⟩,
           ⟨(some 82), none, .pick (.t 74) (.t 81) (.c (.bool false))⟩,
           ⟨(some 83), none, .mv (.t 82)⟩,
           ⟨(some 84), (some (83, true)), .faddr 6 (.t 1)⟩,
           ⟨(some 85), (some (83, true)), .load none (.t 84)⟩,
           ⟨(some 86), (some (83, true)), .call (.c (.fn 108)) [(.t 85), (.c (.int .i64 1))]⟩,
           ⟨(some 87), none, .pick (.t 83) (.t 86) (.c (.bool false))⟩,
           ⟨(some 88), none, .mv (.t 87)⟩,
           ⟨(some 89), (some (88, true)), .faddr 4 (.t 1)⟩,
           ⟨(some 90), (some (88, true)), .load none (.t 89)⟩,
           ⟨(some 91), (some (88, true)), .bin .eql .other true (.t 90) (.c (.str []))⟩,
           ⟨(some 92), (some (88, true)), .mv (.t 91)⟩,
           ⟨(some 93), (some (92, false)), .faddr 4 (.t 1)⟩,
           ⟨(some 94), (some (92, false)), .load none (.t 93)⟩,
           ⟨(some 95), (some (92, false)), .call (.c (.fn 110)) [(.t 94), (.c (.int .i64 1))]⟩,
           ⟨(some 96), (some (88, true)), .pick (.t 92) (.c (.bool true)) (.t 95)⟩,
           ⟨(some 97), none, .pick (.t 88) (.t 96) (.c (.bool false))⟩,
           ⟨(some 98), none, .mv (.t 97)⟩,
           ⟨(some 99), (some (98, true)), .faddr 7 (.t 1)⟩,
           ⟨(some 100), (some (98, true)), .load none (.t 99)⟩,
           ⟨(some 101), (some (98, true)), .len .sl (.t 100)⟩,
           ⟨(some 102), (some (98, true)), .bin .gtr .other true (.t 101) (.c (.int .i64 1))⟩,
           ⟨(some 103), none, .pick (.t 98) (.t 102) (.c (.bool false))⟩,
           ⟨(some 2), none, .mv (.t 103)⟩])
      .ret)
    (.seq (.reg [104] [⟨(some 105), none, .faddr 0 (.t 1)⟩,
         ⟨(some 106), none, .load none (.t 105)⟩,
         ⟨(some 107), none, .bin .eql .other true (.t 106) (.c (.int .i64 7))⟩,
         ⟨(some 104), none, .mv (.t 107)⟩])
    (.cond (.t 104) (.seq (.reg [2] [⟨(some 108), none, .faddr 4 (.t 1)⟩,
           ⟨(some 109), none, .load none (.t 108)⟩,
           ⟨(some 110), none, .call (.c (.fn 110)) [(.t 109), (.c (.int .i64 1))]⟩,
           ⟨(some 111), none, .mv (.t 110)⟩,
           ⟨(some 112), (some (111, true)), .faddr 5 (.t 1)⟩,
           ⟨(some 113), (some (111, true)), .load none (.t 112)⟩,
           ⟨(some 114), (some (111, true)), .len .sl (.t 113)⟩,
           ⟨(some 115), (some (111, true)), .faddr 6 (.t 1)⟩,
           ⟨(some 116), (some (111, true)), .load none (.t 115)⟩,
           ⟨(some 117), (some (111, true)), .len .sl (.t 116)⟩,
           ⟨(some 118), (some (111, true)), .bin .add .other false (.t 114) (.t 117)⟩,
           ⟨(some 119), (some (111, true)), .bin .eql .other true (.t 118) (.c (.int .i64 0))⟩,
           ⟨(some 120), none, .pick (.t 111) (.t 119) (.c (.bool false))⟩,
           ⟨(some 2), none, .mv (.t 120)⟩])
      .ret)
    .skip)))))))))
  (.seq (.reg [2] [⟨(some 121), none, .faddr 4 (.t 1)⟩,
       ⟨(some 122), none, .load none (.t 121)⟩,
       ⟨(some 123), none, .bin .eql .other true (.t 122) (.c (.str []))⟩,
       ⟨(some 124), none, .mv (.t 123)⟩,
       ⟨(some 125), (some (124, true)), .faddr 5 (.t 1)⟩,
       ⟨(some 126), (some (124, true)), .load none (.t 125)⟩,
       ⟨(some 127), (some (124, true)), .len .sl (.t 126)⟩,
       ⟨(some 128), (some (124, true)), .faddr 6 (.t 1)⟩,
       ⟨(some 129), (some (124, true)), .load none (.t 128)⟩,
       ⟨(some 130), (some (124, true)), .len .sl (.t 129)⟩,
       ⟨(some 131), (some (124, true)), .bin .add .other false (.t 127) (.t 130)⟩,
       ⟨(some 132), (some (124, true)), .bin .eql .other true (.t 131) (.c (.int .i64 0))⟩,
       ⟨(some 133), none, .pick (.t 124) (.t 132) (.c (.bool false))⟩,
       ⟨(some 2), none, .mv (.t 133)⟩])
  .ret))))⟩
theorem c72 : compF Tryz.prog [0, 1, 2, 3, 7, 41, 64, 104] Tryz.f72 = some a72 := by kernel_rfl

/- slices.ContainsFunc[[]bushel/api.Expr,bushel/api.Expr] -/
def a73 : AFun := ⟨9, [.tmp 4], (.seq (.reg [4] [⟨(some 4), none, .mv (.c (.bool false))⟩])
  (.seq (.reg [4] [⟨(some 5), none, .mv (.t 0)⟩,
       ⟨(some 6), none, .mv (.t 1)⟩,
       ⟨(some 7), none, .call (.c (.fn 111)) [(.t 5), (.t 6)]⟩,
       ⟨(some 8), none, .bin .geq .other true (.t 7) (.c (.int .i64 0))⟩,
       ⟨(some 4), none, .mv (.t 8)⟩])
  .ret))⟩
theorem c73 : compF Tryz.prog [0, 1, 4] Tryz.f73 = some a73 := by kernel_rfl

/- bushel/syn.fine$1 -/
def a74 : AFun := ⟨6, [.tmp 2], (.seq (.reg [1, 2] [⟨(some 1), none, .box (.t 0)⟩,
       ⟨(some 2), none, .mv (.c (.bool false))⟩])
  (.seq (.reg [2] [⟨(some 3), none, .load (some 8) (.t 1)⟩,
       ⟨(some 4), none, .call (.c (.fn 47)) [(.t 3)]⟩,
       ⟨(some 5), none, .un .not (.t 4)⟩,
       ⟨(some 2), none, .mv (.t 5)⟩])
  .ret))⟩
theorem c74 : compF Tryz.prog [0, 1, 2] Tryz.f74 = some a74 := by kernel_rfl

/- slices.Collect[string] -/
def a75 : AFun := ⟨5, [.tmp 2], (.seq (.reg [2] [⟨(some 2), none, .mv (.c .snil)⟩])
  (.seq (.reg [2] [⟨(some 3), none, .mv (.t 0)⟩,
       ⟨(some 4), none, .call (.c (.fn 112)) [(.c .snil), (.t 3)]⟩,
       ⟨(some 2), none, .mv (.t 4)⟩])
  .ret))⟩
theorem c75 : compF Tryz.prog [0, 2] Tryz.f75 = some a75 := by kernel_rfl

/- slices.Sort[[]string,string] -/
def a76 : AFun := ⟨11, [], (.seq (.reg [2] [⟨(some 3), none, .mv (.t 0)⟩,
       ⟨(some 4), none, .len .sl (.t 3)⟩,
       ⟨(some 2), none, .mv (.t 4)⟩])
  (.reg [] [⟨(some 5), none, .mv (.t 0)⟩,
      ⟨(some 6), none, .mv (.t 2)⟩,
      ⟨(some 7), none, .mv (.t 2)⟩,
      ⟨(some 8), none, .conv (.toInt .u64) (.t 7)⟩,
      ⟨(some 9), none, .call (.c (.fn 114)) [(.t 8)]⟩,
      ⟨(some 10), none, .call (.c (.fn 113)) [(.t 5), (.c (.int .i64 0)), (.t 6), (.t 9)]⟩]))⟩
theorem c76 : compF Tryz.prog [0, 2] Tryz.f76 = some a76 := by kernel_rfl

/- maps.Keys[map[string]bool,string,bool]$1 -/
def a77 : AFun := ⟨14, [], (.seq (.reg [5] [⟨(some 4), none, .load none (.t 1)⟩,
       ⟨(some 5), none, .ext .mrange [(.t 4)]⟩])
  (.block 0 (.loop (.seq (.reg [7] [⟨(some 6), none, .ext .mnext [(.t 5)]⟩,
         ⟨(some 7), none, .extract (.t 6) 0⟩])
    (.seq (.cond (.t 7) .skip
     (.exit 0))
    (.block 1 (.seq (.reg [3] [⟨(some 8), none, .ext .mentry [(.t 5)]⟩,
          ⟨(some 9), none, .extract (.t 8) 0⟩,
          ⟨(some 3), none, .mv (.t 9)⟩])
     (.seq (.reg [13] [⟨(some 10), none, .mv (.t 0)⟩,
          ⟨(some 11), none, .mv (.t 3)⟩,
          ⟨(some 12), none, .call (.t 10) [(.t 11)]⟩,
          ⟨(some 13), none, .un .not (.t 12)⟩])
     (.cond (.t 13) .ret
     .skip)))))))))⟩
theorem c77 : compF Tryz.prog [0, 1, 3, 5, 7, 13] Tryz.f77 = some a77 := by kernel_rfl

/- bushel/syn.binds -/
def a78 : AFun := ⟨77, [.tmp 4], (.seq (.reg [2, 4] [⟨(some 2), none, .box (.t 0)⟩,
       ⟨(some 4), none, .mv (.c .snil)⟩])
  (.seq (.block 0 (.seq (.reg [5] [⟨(some 6), none, .faddr 0 (.t 2)⟩,
         ⟨(some 7), none, .load none (.t 6)⟩,
         ⟨(some 8), none, .bin .eql .other true (.t 7) (.c (.int .i64 4))⟩,
         ⟨(some 9), none, .mv (.t 8)⟩,
         ⟨(some 10), (some (9, true)), .mv (.t 1)⟩,
         ⟨(some 11), (some (9, true)), .bin .eql .other true (.t 10) (.c (.int .i64 0))⟩,
         ⟨(some 12), none, .pick (.t 9) (.t 11) (.c (.bool false))⟩,
         ⟨(some 13), none, .mv (.t 12)⟩,
         ⟨(some 14), (some (13, false)), .faddr 0 (.t 2)⟩,
         ⟨(some 15), (some (13, false)), .load none (.t 14)⟩,
         ⟨(some 16), (some (13, false)), .bin .eql .other true (.t 15) (.c (.int .i64 6))⟩,
         ⟨(some 17), (some (13, false)), .mv (.t 16)⟩,
         ⟨(some 18), (some (17, true)), .mv (.t 1)⟩,
         ⟨(some 19), (some (17, true)), .bin .eql .other true (.t 18) (.c (.int .i64 1))⟩,
         ⟨(some 20), (some (13, false)), .pick (.t 17) (.t 19) (.c (.bool false))⟩,
         ⟨(some 21), none, .pick (.t 13) (.c (.bool true)) (.t 20)⟩,
         ⟨(some 22), none, .mv (.t 21)⟩,
         ⟨(some 23), (some (22, false)), .faddr 0 (.t 2)⟩,
         ⟨(some 24), (some (22, false)), .load none (.t 23)⟩,
         ⟨(some 25), (some (22, false)), .bin .eql .other true (.t 24) (.c (.int .i64 7))⟩,
         ⟨(some 26), (some (22, false)), .mv (.t 25)⟩,
         ⟨(some 27), (some (26, true)), .mv (.t 1)⟩,
         ⟨(some 28), (some (26, true)), .bin .eql .other true (.t 27) (.c (.int .i64 1))⟩,
         ⟨(some 29), (some (22, false)), .pick (.t 26) (.t 28) (.c (.bool false))⟩,
         ⟨(some 30), none, .pick (.t 22) (.c (.bool true)) (.t 29)⟩,
         ⟨(some 5), none, .mv (.t 30)⟩])
    (.cond (.t 5) (.seq (.reg [4] [⟨(some 31), none, .faddr 3 (.t 2)⟩,
           ⟨(some 32), none, .load none (.t 31)⟩,
           ⟨(some 33), none, .mksl none [(.t 32)]⟩,
           ⟨(some 4), none, .mv (.t 33)⟩])
      .ret)
    (.seq (.reg [34] [⟨(some 35), none, .faddr 0 (.t 2)⟩,
         ⟨(some 36), none, .load none (.t 35)⟩,
         ⟨(some 37), none, .bin .eql .other true (.t 36) (.c (.int .i64 7))⟩,
         ⟨(some 38), none, .mv (.t 37)⟩,
         ⟨(some 39), (some (38, true)), .mv (.t 1)⟩,
         ⟨(some 40), (some (38, true)), .bin .eql .other true (.t 39) (.c (.int .i64 0))⟩,
         ⟨(some 41), none, .pick (.t 38) (.t 40) (.c (.bool false))⟩,
         ⟨(some 34), none, .mv (.t 41)⟩])
    (.cond (.t 34) (.seq (.reg [4] [⟨(some 42), none, .faddr 3 (.t 2)⟩,
           ⟨(some 43), none, .load none (.t 42)⟩,
           ⟨(some 44), none, .faddr 4 (.t 2)⟩,
           ⟨(some 45), none, .load none (.t 44)⟩,
           ⟨(some 46), none, .mksl none [(.t 43), (.t 45)]⟩,
           ⟨(some 4), none, .mv (.t 46)⟩])
      .ret)
    (.seq (.reg [47] [⟨(some 48), none, .faddr 0 (.t 2)⟩,
         ⟨(some 49), none, .load none (.t 48)⟩,
         ⟨(some 50), none, .bin .neq .other true (.t 49) (.c (.int .i64 14))⟩,
         ⟨(some 51), none, .mv (.t 50)⟩,
         ⟨(some 52), (some (51, false)), .mv (.t 1)⟩,
         ⟨(some 53), (some (51, false)), .bin .eql .other true (.t 52) (.c (.int .i64 0))⟩,
         ⟨(some 54), none, .pick (.t 51) (.c (.bool true)) (.t 53)⟩,
         ⟨(some 47), none, .mv (.t 54)⟩])
    (.cond (.t 47) (.seq (.reg [4] [⟨(some 4), none, .mv (.c .snil)⟩])
      .ret)
    (.seq (.reg [55] [⟨(some 56), none, .mv (.t 1)⟩,
         ⟨(some 57), none, .faddr 6 (.t 2)⟩,
         ⟨(some 58), none, .load none (.t 57)⟩,
         ⟨(some 59), none, .len .sl (.t 58)⟩,
         ⟨(some 60), none, .bin .leq .other false (.t 56) (.t 59)⟩,
         ⟨(some 61), none, .mv (.t 60)⟩,
         ⟨(some 62), (some (61, true)), .mv (.t 1)⟩,
         ⟨(some 63), (some (61, true)), .faddr 5 (.t 2)⟩,
         ⟨(some 64), (some (61, true)), .load none (.t 63)⟩,
         ⟨(some 65), (some (61, true)), .len .sl (.t 64)⟩,
         ⟨(some 66), (some (61, true)), .bin .leq .other false (.t 62) (.t 65)⟩,
         ⟨(some 67), none, .pick (.t 61) (.t 66) (.c (.bool false))⟩,
         ⟨(some 55), none, .mv (.t 67)⟩])
    (.cond (.t 55) (.seq (.reg [4] [⟨(some 68), none, .faddr 6 (.t 2)⟩,
           ⟨(some 69), none, .load none (.t 68)⟩,
           ⟨(some 70), none, .mv (.t 1)⟩,
           ⟨(some 71), none, .bin .sub .other true (.t 70) (.c (.int .i64 1))⟩,
           ⟨(some 72), none, .mv (.t 1)⟩,
           ⟨(some 73), none, .slice (.sl none) (.t 69) (some (.t 71)) (some (.t 72)) none⟩,
           ⟨(some 4), none, .mv (.t 73)⟩])
      .ret)
    .skip)))))))))
  (.seq (.reg [4] [⟨(some 74), none, .faddr 4 (.t 2)⟩,
       ⟨(some 75), none, .load none (.t 74)⟩,
       ⟨(some 76), none, .mksl none [(.t 75)]⟩,
       ⟨(some 4), none, .mv (.t 76)⟩])
  .ret)))⟩
theorem c78 : compF Tryz.prog [0, 1, 2, 4, 5, 34, 47, 55] Tryz.f78 = some a78 := by kernel_rfl

/- maps.Copy[map[string]bool,map[string]bool,string,bool] -/
def a79 : AFun := ⟨16, [], (.seq (.reg [7] [⟨(some 6), none, .mv (.t 1)⟩,
       ⟨(some 7), none, .ext .mrange [(.t 6)]⟩])
  (.block 0 (.loop (.seq (.reg [9] [⟨(some 8), none, .ext .mnext [(.t 7)]⟩,
         ⟨(some 9), none, .extract (.t 8) 0⟩])
    (.seq (.cond (.t 9) .skip
     (.exit 0))
    (.block 1 (.seq (.reg [4, 5] [⟨(some 10), none, .ext .mentry [(.t 7)]⟩,
          ⟨(some 11), none, .extract (.t 10) 0⟩,
          ⟨(some 12), none, .extract (.t 10) 1⟩,
          ⟨(some 4), none, .mv (.t 11)⟩,
          ⟨(some 5), none, .mv (.t 12)⟩])
     (.reg [] [⟨(some 13), none, .mv (.t 0)⟩,
         ⟨(some 14), none, .mv (.t 4)⟩,
         ⟨(some 15), none, .mv (.t 5)⟩,
         ⟨none, none, .ext (.mput .str) [(.t 13), (.t 14), (.t 15)]⟩]))))))))⟩
theorem c79 : compF Tryz.prog [0, 1, 4, 5, 7, 9] Tryz.f79 = some a79 := by kernel_rfl

/- bushel/bushelref05.text -/
def a93 : AFun := ⟨41, [.tmp 2], (.seq (.reg [1, 2] [⟨(some 1), none, .box (.t 0)⟩,
       ⟨(some 2), none, .mv (.c (.bool false))⟩])
  (.seq (.seq (.reg [6] [⟨(some 5), none, .faddr 0 (.t 1)⟩,
        ⟨(some 6), none, .load none (.t 5)⟩])
   (.block 0 (.seq (.reg [7] [⟨(some 8), none, .bin .eql .other true (.t 6) (.c (.int .i64 2))⟩,
         ⟨(some 7), none, .mv (.t 8)⟩])
    (.cond (.t 7) (.seq (.reg [4] [⟨(some 10), none, .faddr 3 (.t 1)⟩,
           ⟨(some 11), none, .load none (.t 10)⟩,
           ⟨(some 12), none, .call (.c (.fn 36)) [(.t 11)]⟩,
           ⟨(some 9), none, .mv (.t 12)⟩,
           ⟨(some 13), none, .extract (.t 9) 0⟩,
           ⟨(some 14), none, .extract (.t 9) 1⟩,
           ⟨(some 3), none, .mv (.t 13)⟩,
           ⟨(some 4), none, .mv (.t 14)⟩])
      (.seq (.reg [2] [⟨(some 15), none, .mv (.t 4)⟩,
           ⟨(some 2), none, .mv (.t 15)⟩])
      .ret))
    (.seq (.seq (.reg [16] [⟨(some 17), none, .bin .eql .other true (.t 6) (.c (.int .i64 3))⟩,
          ⟨(some 16), none, .mv (.t 17)⟩])
     (.cond (.t 16) .skip
     (.seq (.reg [16] [⟨(some 18), none, .bin .eql .other true (.t 6) (.c (.int .i64 4))⟩,
          ⟨(some 16), none, .mv (.t 18)⟩])
     (.cond (.t 16) .skip
     (.seq (.reg [16] [⟨(some 19), none, .bin .eql .other true (.t 6) (.c (.int .i64 6))⟩,
          ⟨(some 16), none, .mv (.t 19)⟩])
     (.cond (.t 16) .skip
     (.seq (.reg [16] [⟨(some 20), none, .bin .eql .other true (.t 6) (.c (.int .i64 7))⟩,
          ⟨(some 16), none, .mv (.t 20)⟩])
     (.cond (.t 16) .skip
     (.seq (.reg [16] [⟨(some 21), none, .bin .eql .other true (.t 6) (.c (.int .i64 9))⟩,
          ⟨(some 16), none, .mv (.t 21)⟩])
     (.cond (.t 16) .skip
     (.seq (.reg [16] [⟨(some 22), none, .bin .eql .other true (.t 6) (.c (.int .i64 10))⟩,
          ⟨(some 16), none, .mv (.t 22)⟩])
     (.cond (.t 16) .skip
     (.seq (.reg [16] [⟨(some 23), none, .bin .eql .other true (.t 6) (.c (.int .i64 11))⟩,
          ⟨(some 16), none, .mv (.t 23)⟩])
     (.cond (.t 16) .skip
     (.reg [16] [⟨(some 24), none, .bin .eql .other true (.t 6) (.c (.int .i64 12))⟩,
         ⟨(some 16), none, .mv (.t 24)⟩])))))))))))))))
    (.cond (.t 16) (.seq (.reg [2] [⟨(some 25), none, .faddr 3 (.t 1)⟩,
           ⟨(some 26), none, .load none (.t 25)⟩,
           ⟨(some 27), none, .call (.c (.fn 96)) [(.t 26), (.c (.int .i64 1))]⟩,
           ⟨(some 2), none, .mv (.t 27)⟩])
      .ret)
    (.seq (.reg [28] [⟨(some 29), none, .bin .eql .other true (.t 6) (.c (.int .i64 13))⟩,
         ⟨(some 28), none, .mv (.t 29)⟩])
    (.cond (.t 28) (.seq (.reg [2] [⟨(some 30), none, .faddr 3 (.t 1)⟩,
           ⟨(some 31), none, .load none (.t 30)⟩,
           ⟨(some 32), none, .call (.c (.fn 96)) [(.t 31), (.c (.int .i64 3))]⟩,
           ⟨(some 2), none, .mv (.t 32)⟩])
      .ret)
    (.seq (.reg [33] [⟨(some 34), none, .bin .eql .other true (.t 6) (.c (.int .i64 16))⟩,
         ⟨(some 33), none, .mv (.t 34)⟩])
    (.cond (.t 33) (.seq (.reg [2] [⟨(some 35), none, .faddr 3 (.t 1)⟩,
           ⟨(some 36), none, .load none (.t 35)⟩,
           ⟨(some 37), none, .call (.c (.fn 134)) [(.t 36)]⟩,
           ⟨(some 2), none, .mv (.t 37)⟩])
      .ret)
    .skip))))))))))
  (.seq (.reg [2] [⟨(some 38), none, .faddr 3 (.t 1)⟩,
       ⟨(some 39), none, .load none (.t 38)⟩,
       ⟨(some 40), none, .bin .eql .other true (.t 39) (.c (.str []))⟩,
       ⟨(some 2), none, .mv (.t 40)⟩])
  .ret)))⟩
theorem c93 : compF Tryz.prog [0, 1, 2, 4, 6, 7, 16, 28, 33] Tryz.f93 = some a93 := by kernel_rfl

/- bushel/bushelref05.Parts -/
def a94 : AFun := ⟨42, [.tmp 6], (.seq (.reg [6] [⟨(some 6), none, .mv (.c (.int .i64 0))⟩])
  (.seq (.seq (.reg [7] [⟨(some 7), none, .mv (.t 0)⟩])
   (.block 0 (.seq (.seq (.reg [8] [⟨(some 9), none, .bin .eql .other true (.t 7) (.c (.int .i64 1))⟩,
          ⟨(some 8), none, .mv (.t 9)⟩])
     (.cond (.t 8) .skip
     (.seq (.reg [8] [⟨(some 10), none, .bin .eql .other true (.t 7) (.c (.int .i64 2))⟩,
          ⟨(some 8), none, .mv (.t 10)⟩])
     (.cond (.t 8) .skip
     (.seq (.reg [8] [⟨(some 11), none, .bin .eql .other true (.t 7) (.c (.int .i64 3))⟩,
          ⟨(some 8), none, .mv (.t 11)⟩])
     (.cond (.t 8) .skip
     (.reg [8] [⟨(some 12), none, .bin .eql .other true (.t 7) (.c (.int .i64 22))⟩,
         ⟨(some 8), none, .mv (.t 12)⟩])))))))
    (.cond (.t 8) (.seq (.reg [6] [⟨(some 6), none, .mv (.c (.int .i64 0))⟩])
      .ret)
    (.seq (.seq (.reg [13] [⟨(some 14), none, .bin .eql .other true (.t 7) (.c (.int .i64 4))⟩,
          ⟨(some 13), none, .mv (.t 14)⟩])
     (.cond (.t 13) .skip
     (.seq (.reg [13] [⟨(some 15), none, .bin .eql .other true (.t 7) (.c (.int .i64 9))⟩,
          ⟨(some 13), none, .mv (.t 15)⟩])
     (.cond (.t 13) .skip
     (.seq (.reg [13] [⟨(some 16), none, .bin .eql .other true (.t 7) (.c (.int .i64 11))⟩,
          ⟨(some 13), none, .mv (.t 16)⟩])
     (.cond (.t 13) .skip
     (.seq (.reg [13] [⟨(some 17), none, .bin .eql .other true (.t 7) (.c (.int .i64 13))⟩,
          ⟨(some 13), none, .mv (.t 17)⟩])
     (.cond (.t 13) .skip
     (.seq (.reg [13] [⟨(some 18), none, .bin .eql .other true (.t 7) (.c (.int .i64 17))⟩,
          ⟨(some 13), none, .mv (.t 18)⟩])
     (.cond (.t 13) .skip
     (.seq (.reg [13] [⟨(some 19), none, .bin .eql .other true (.t 7) (.c (.int .i64 18))⟩,
          ⟨(some 13), none, .mv (.t 19)⟩])
     (.cond (.t 13) .skip
     (.seq (.reg [13] [⟨(some 20), none, .bin .eql .other true (.t 7) (.c (.int .i64 20))⟩,
          ⟨(some 13), none, .mv (.t 20)⟩])
     (.cond (.t 13) .skip
     (.reg [13] [⟨(some 21), none, .bin .eql .other true (.t 7) (.c (.int .i64 21))⟩,
         ⟨(some 13), none, .mv (.t 21)⟩])))))))))))))))
    (.cond (.t 13) (.seq (.reg [6] [⟨(some 6), none, .mv (.c (.int .i64 1))⟩])
      .ret)
    (.seq (.seq (.reg [22] [⟨(some 23), none, .bin .eql .other true (.t 7) (.c (.int .i64 5))⟩,
          ⟨(some 22), none, .mv (.t 23)⟩])
     (.cond (.t 22) .skip
     (.seq (.reg [22] [⟨(some 24), none, .bin .eql .other true (.t 7) (.c (.int .i64 6))⟩,
          ⟨(some 22), none, .mv (.t 24)⟩])
     (.cond (.t 22) .skip
     (.seq (.reg [22] [⟨(some 25), none, .bin .eql .other true (.t 7) (.c (.int .i64 7))⟩,
          ⟨(some 22), none, .mv (.t 25)⟩])
     (.cond (.t 22) .skip
     (.seq (.reg [22] [⟨(some 26), none, .bin .eql .other true (.t 7) (.c (.int .i64 10))⟩,
          ⟨(some 22), none, .mv (.t 26)⟩])
     (.cond (.t 22) .skip
     (.seq (.reg [22] [⟨(some 27), none, .bin .eql .other true (.t 7) (.c (.int .i64 12))⟩,
          ⟨(some 22), none, .mv (.t 27)⟩])
     (.cond (.t 22) .skip
     (.seq (.reg [22] [⟨(some 28), none, .bin .eql .other true (.t 7) (.c (.int .i64 16))⟩,
          ⟨(some 22), none, .mv (.t 28)⟩])
     (.cond (.t 22) .skip
     (.reg [22] [⟨(some 29), none, .bin .eql .other true (.t 7) (.c (.int .i64 19))⟩,
         ⟨(some 22), none, .mv (.t 29)⟩])))))))))))))
    (.cond (.t 22) (.seq (.reg [6] [⟨(some 6), none, .mv (.c (.int .i64 2))⟩])
      .ret)
    (.seq (.reg [30] [⟨(some 31), none, .bin .eql .other true (.t 7) (.c (.int .i64 15))⟩,
         ⟨(some 30), none, .mv (.t 31)⟩])
    (.cond (.t 30) (.seq (.reg [6] [⟨(some 6), none, .mv (.c (.int .i64 3))⟩])
      .ret)
    (.seq (.reg [32] [⟨(some 33), none, .bin .eql .other true (.t 7) (.c (.int .i64 8))⟩,
         ⟨(some 32), none, .mv (.t 33)⟩])
    (.cond (.t 32) (.seq (.reg [6] [⟨(some 34), none, .mv (.t 1)⟩,
           ⟨(some 6), none, .mv (.t 34)⟩])
      .ret)
    (.seq (.reg [35] [⟨(some 36), none, .bin .eql .other true (.t 7) (.c (.int .i64 14))⟩,
         ⟨(some 35), none, .mv (.t 36)⟩])
    (.cond (.t 35) (.seq (.seq (.reg [37] [⟨(some 37), none, .mv (.t 2)⟩])
       (.cond (.t 37) (.seq (.reg [6] [⟨(some 38), none, .mv (.t 1)⟩,
              ⟨(some 39), none, .bin .add .other true (.t 38) (.c (.int .i64 2))⟩,
              ⟨(some 6), none, .mv (.t 39)⟩])
         .ret)
       .skip))
      (.seq (.reg [6] [⟨(some 40), none, .mv (.t 1)⟩,
           ⟨(some 41), none, .bin .add .other true (.t 40) (.c (.int .i64 1))⟩,
           ⟨(some 6), none, .mv (.t 41)⟩])
      .ret))
    .skip))))))))))))))
  (.seq (.reg [6] [⟨(some 6), none, .mv (.c (.int .i64 (-1)))⟩])
  .ret)))⟩
theorem c94 : compF Tryz.prog [0, 1, 2, 6, 7, 8, 13, 22, 30, 32, 35, 37] Tryz.f94 = some a94 := by kernel_rfl

/- bushel/bushelref05.all -/
def a95 : AFun := ⟨40, [.tmp 4], (.seq (.reg [4] [⟨(some 4), none, .mv (.c (.bool false))⟩])
  (.seq (.seq (.reg [5] [⟨(some 5), none, .mv (.c (.int .i64 0))⟩])
   (.block 0 (.loop (.seq (.seq (.reg [10] [⟨(some 7), none, .mv (.t 5)⟩,
           ⟨(some 8), none, .mv (.t 0)⟩,
           ⟨(some 9), none, .len .sl (.t 8)⟩,
           ⟨(some 10), none, .bin .lss .other false (.t 7) (.t 9)⟩])
      (.cond (.t 10) .skip
      (.exit 0)))
     (.seq (.block 1 (.seq (.reg [6] [⟨(some 13), none, .mv (.t 0)⟩,
            ⟨(some 14), none, .mv (.t 5)⟩,
            ⟨(some 15), none, .iaddr none (.t 13) (.t 14)⟩,
            ⟨(some 16), none, .load none (.t 15)⟩,
            ⟨(some 17), none, .mv (.t 1)⟩,
            ⟨(some 18), none, .call (.c (.fn 96)) [(.t 16), (.t 17)]⟩,
            ⟨(some 6), none, .mv (.t 18)⟩])
       (.seq (.any [36] [(⟨(some 19), none, .mv (.t 6)⟩, true),
            (⟨(some 20), none, .un .not (.t 19)⟩, true),
            (⟨(some 21), none, .mv (.t 20)⟩, true),
            (⟨(some 22), (some (21, false)), .mv (.t 5)⟩, true),
            (⟨(some 23), (some (21, false)), .bin .gtr .other true (.t 22) (.c (.int .i64 0))⟩, true),
            (⟨(some 24), (some (21, false)), .mv (.t 23)⟩, true),
            (⟨(some 25), (some (24, true)), .mv (.t 0)⟩, true),
            (⟨(some 26), (some (24, true)), .mv (.t 5)⟩, false),
            (⟨(some 27), (some (24, true)), .bin .sub .other true (.t 26) (.c (.int .i64 1))⟩, false),
            (⟨(some 28), (some (24, true)), .iaddr none (.t 25) (.t 27)⟩, true),
            (⟨(some 29), (some (24, true)), .load none (.t 28)⟩, true),
            (⟨(some 30), (some (24, true)), .mv (.t 0)⟩, false),
            (⟨(some 31), (some (24, true)), .mv (.t 5)⟩, false),
            (⟨(some 32), (some (24, true)), .iaddr none (.t 30) (.t 31)⟩, false),
            (⟨(some 33), (some (24, true)), .load none (.t 32)⟩, false),
            (⟨(some 34), (some (24, true)), .bin .geq .other false (.t 29) (.t 33)⟩, true),
            (⟨(some 35), (some (21, false)), .pick (.t 24) (.t 34) (.c (.bool false))⟩, true),
            (⟨(some 36), none, .pick (.t 21) (.c (.bool true)) (.t 35)⟩, true)])
       (.cond (.t 36) (.seq (.reg [4] [⟨(some 4), none, .mv (.c (.bool false))⟩])
         .ret)
       .skip))))
     (.reg [5] [⟨(some 11), none, .mv (.t 5)⟩,
         ⟨(some 12), none, .bin .add .other true (.t 11) (.c (.int .i64 1))⟩,
         ⟨(some 5), none, .mv (.t 12)⟩]))))))
  (.seq (.reg [4] [⟨(some 37), none, .mv (.t 0)⟩,
       ⟨(some 38), none, .len .sl (.t 37)⟩,
       ⟨(some 39), none, .bin .leq .other true (.t 38) (.c (.int .i64 30))⟩,
       ⟨(some 4), none, .mv (.t 39)⟩])
  .ret)))⟩
theorem c95 : compF Tryz.prog [0, 1, 4, 5, 6, 10, 36] Tryz.f95 = some a95 := by kernel_rfl

/- bushel/bushelref05.is -/
def a96 : AFun := ⟨37, [.tmp 4], (.seq (.reg [4] [⟨(some 4), none, .mv (.c (.bool false))⟩])
  (.seq (.seq (.reg [15] [⟨(some 8), none, .mv (.t 0)⟩,
        ⟨(some 9), none, .len .str (.t 8)⟩,
        ⟨(some 10), none, .bin .eql .other true (.t 9) (.c (.int .i64 0))⟩,
        ⟨(some 11), none, .mv (.t 10)⟩,
        ⟨(some 12), (some (11, false)), .mv (.t 0)⟩,
        ⟨(some 13), (some (11, false)), .len .str (.t 12)⟩,
        ⟨(some 14), (some (11, false)), .bin .gtr .other true (.t 13) (.c (.int .i64 20))⟩,
        ⟨(some 15), none, .pick (.t 11) (.c (.bool true)) (.t 14)⟩])
   (.cond (.t 15) (.seq (.reg [4] [⟨(some 4), none, .mv (.c (.bool false))⟩])
     .ret)
   .skip))
  (.seq (.reg [5, 6, 7] [⟨(some 17), none, .mv (.t 0)⟩,
       ⟨(some 18), none, .conv .toBytes (.t 17)⟩,
       ⟨(some 19), none, .call (.c (.fn 135)) [(.t 18), (.c (.int .i64 0))]⟩,
       ⟨(some 16), none, .mv (.t 19)⟩,
       ⟨(some 20), none, .extract (.t 16) 0⟩,
       ⟨(some 21), none, .extract (.t 16) 1⟩,
       ⟨(some 22), none, .extract (.t 16) 2⟩,
       ⟨(some 5), none, .alloc [(.int .i64 0), (.int .i64 0), (.int .i64 0), (.str [])]⟩,
       ⟨none, none, .store 4 (.t 5) (.t 20)⟩,
       ⟨(some 6), none, .mv (.t 21)⟩,
       ⟨(some 7), none, .mv (.t 22)⟩])
  (.seq (.reg [4] [⟨(some 23), none, .mv (.t 7)⟩,
       ⟨(some 24), none, .bin .lss .other true (.t 23) (.c (.int .i64 0))⟩,
       ⟨(some 25), none, .mv (.t 24)⟩,
       ⟨(some 26), (some (25, true)), .mv (.t 6)⟩,
       ⟨(some 27), (some (25, true)), .mv (.t 0)⟩,
       ⟨(some 28), (some (25, true)), .len .str (.t 27)⟩,
       ⟨(some 29), (some (25, true)), .bin .eql .other false (.t 26) (.t 28)⟩,
       ⟨(some 30), none, .pick (.t 25) (.t 29) (.c (.bool false))⟩,
       ⟨(some 31), none, .mv (.t 30)⟩,
       ⟨(some 32), (some (31, true)), .faddr 0 (.t 5)⟩,
       ⟨(some 33), (some (31, true)), .load none (.t 32)⟩,
       ⟨(some 34), (some (31, true)), .mv (.t 1)⟩,
       ⟨(some 35), (some (31, true)), .bin .eql .other false (.t 33) (.t 34)⟩,
       ⟨(some 36), none, .pick (.t 31) (.t 35) (.c (.bool false))⟩,
       ⟨(some 4), none, .mv (.t 36)⟩])
  .ret))))⟩
theorem c96 : compF Tryz.prog [0, 1, 4, 5, 6, 7, 15] Tryz.f96 = some a96 := by kernel_rfl

/- bushel/syn.Parts -/
def a106 : AFun := ⟨30, [.tmp 6], (.seq (.reg [6] [⟨(some 6), none, .mv (.c (.int .i64 0))⟩])
  (.seq (.seq (.reg [9] [⟨(some 9), none, .mv (.t 0)⟩])
   (.block 0 (.seq (.reg [10] [⟨(some 11), none, .bin .eql .other true (.t 9) (.c (.int .i64 8))⟩,
         ⟨(some 10), none, .mv (.t 11)⟩])
    (.cond (.t 10) (.seq (.reg [6] [⟨(some 12), none, .mv (.t 1)⟩,
           ⟨(some 6), none, .mv (.t 12)⟩])
      .ret)
    (.seq (.reg [13] [⟨(some 14), none, .bin .eql .other true (.t 9) (.c (.int .i64 14))⟩,
         ⟨(some 13), none, .mv (.t 14)⟩])
    (.cond (.t 13) (.seq (.seq (.reg [15] [⟨(some 15), none, .mv (.t 2)⟩])
       (.cond (.t 15) (.reg [1] [⟨(some 16), none, .mv (.t 1)⟩,
             ⟨(some 17), none, .bin .add .other true (.t 16) (.c (.int .i64 1))⟩,
             ⟨(some 1), none, .mv (.t 17)⟩])
       .skip))
      (.seq (.reg [6] [⟨(some 18), none, .mv (.t 1)⟩,
           ⟨(some 19), none, .bin .add .other true (.t 18) (.c (.int .i64 1))⟩,
           ⟨(some 6), none, .mv (.t 19)⟩])
      .ret))
    .skip))))))
  (.seq (.reg [7, 8] [⟨(some 21), none, .call (.c (.fn 142)) []⟩,
       ⟨(some 22), none, .mv (.t 0)⟩,
       ⟨(some 23), none, .ext (.mget (.int .i64) true (.agg [(.int .i64 0), (.bool false), (.bool false), (.bool false), (.bool false)])) [(.t 21), (.t 22)]⟩,
       ⟨(some 20), none, .mv (.t 23)⟩,
       ⟨(some 24), none, .extract (.t 20) 0⟩,
       ⟨(some 25), none, .extract (.t 20) 1⟩,
       ⟨(some 7), none, .alloc [(.int .i64 0), (.bool false), (.bool false), (.bool false), (.bool false)]⟩,
       ⟨none, none, .store 5 (.t 7) (.t 24)⟩,
       ⟨(some 8), none, .mv (.t 25)⟩])
  (.seq (.seq (.reg [27] [⟨(some 26), none, .mv (.t 8)⟩,
        ⟨(some 27), none, .un .not (.t 26)⟩])
   (.cond (.t 27) (.seq (.reg [6] [⟨(some 6), none, .mv (.c (.int .i64 (-1)))⟩])
     .ret)
   .skip))
  (.seq (.reg [6] [⟨(some 28), none, .faddr 0 (.t 7)⟩,
       ⟨(some 29), none, .load none (.t 28)⟩,
       ⟨(some 6), none, .mv (.t 29)⟩])
  .ret)))))⟩
theorem c106 : compF Tryz.prog [0, 1, 2, 6, 7, 8, 9, 10, 13, 15, 27] Tryz.f106 = some a106 := by kernel_rfl

/- bushel/syn.text -/
def a107 : AFun := ⟨48, [.tmp 2], (.seq (.reg [1, 2] [⟨(some 1), none, .box (.t 0)⟩,
       ⟨(some 2), none, .mv (.c (.bool false))⟩])
  (.seq (.alt [3] [(⟨(some 7), none, .faddr 0 (.t 1)⟩, true),
       (⟨(some 8), none, .load none (.t 7)⟩, true)] (⟨(some 6), none, .call (.c (.fn 142)) []⟩, false) (⟨(some 3), none, .alloc [(.int .i64 0), (.bool false), (.bool false), (.bool false), (.bool false)]⟩, false) [(⟨(some 9), none, .ext (.mget (.int .i64) false (.agg [(.int .i64 0), (.bool false), (.bool false), (.bool false), (.bool false)])) [(.t 6), (.t 8)]⟩, true)] [(⟨none, none, .store 5 (.t 3) (.t 9)⟩, true)])
  (.seq (.block 0 (.seq (.reg [10] [⟨(some 11), none, .faddr 0 (.t 1)⟩,
         ⟨(some 12), none, .load none (.t 11)⟩,
         ⟨(some 13), none, .bin .eql .other true (.t 12) (.c (.int .i64 2))⟩,
         ⟨(some 10), none, .mv (.t 13)⟩])
    (.cond (.t 10) (.seq (.reg [5] [⟨(some 15), none, .faddr 3 (.t 1)⟩,
           ⟨(some 16), none, .load none (.t 15)⟩,
           ⟨(some 17), none, .call (.c (.fn 55)) [(.t 16)]⟩,
           ⟨(some 14), none, .mv (.t 17)⟩,
           ⟨(some 18), none, .extract (.t 14) 0⟩,
           ⟨(some 19), none, .extract (.t 14) 1⟩,
           ⟨(some 4), none, .mv (.t 18)⟩,
           ⟨(some 5), none, .mv (.t 19)⟩])
      (.seq (.reg [2] [⟨(some 20), none, .mv (.t 5)⟩,
           ⟨(some 21), none, .bin .eql .ifc true (.t 20) (.c .inil)⟩,
           ⟨(some 2), none, .mv (.t 21)⟩])
      .ret))
    (.seq (.reg [22] [⟨(some 23), none, .faddr 1 (.t 3)⟩,
         ⟨(some 24), none, .load none (.t 23)⟩,
         ⟨(some 25), none, .mv (.t 24)⟩,
         ⟨(some 26), (some (25, false)), .faddr 2 (.t 3)⟩,
         ⟨(some 27), (some (25, false)), .load none (.t 26)⟩,
         ⟨(some 28), none, .pick (.t 25) (.c (.bool true)) (.t 27)⟩,
         ⟨(some 22), none, .mv (.t 28)⟩])
    (.cond (.t 22) (.seq (.reg [2] [⟨(some 29), none, .faddr 3 (.t 1)⟩,
           ⟨(some 30), none, .load none (.t 29)⟩,
           ⟨(some 31), none, .call (.c (.fn 110)) [(.t 30), (.c (.int .i64 1))]⟩,
           ⟨(some 2), none, .mv (.t 31)⟩])
      .ret)
    (.seq (.reg [32] [⟨(some 33), none, .faddr 3 (.t 3)⟩,
         ⟨(some 34), none, .load none (.t 33)⟩,
         ⟨(some 32), none, .mv (.t 34)⟩])
    (.cond (.t 32) (.seq (.reg [2] [⟨(some 35), none, .faddr 3 (.t 1)⟩,
           ⟨(some 36), none, .load none (.t 35)⟩,
           ⟨(some 37), none, .call (.c (.fn 110)) [(.t 36), (.c (.int .i64 3))]⟩,
           ⟨(some 2), none, .mv (.t 37)⟩])
      .ret)
    (.seq (.reg [38] [⟨(some 39), none, .faddr 4 (.t 3)⟩,
         ⟨(some 40), none, .load none (.t 39)⟩,
         ⟨(some 38), none, .mv (.t 40)⟩])
    (.cond (.t 38) (.seq (.reg [2] [⟨(some 41), none, .mksl none [(.c (.str [43])), (.c (.str [45])), (.c (.str [42])), (.c (.str [47])), (.c (.str [60])), (.c (.str [61, 61])), (.c (.str [94])), (.c (.str [35]))]⟩,
           ⟨(some 42), none, .faddr 3 (.t 1)⟩,
           ⟨(some 43), none, .load none (.t 42)⟩,
           ⟨(some 44), none, .call (.c (.fn 118)) [(.t 41), (.t 43)]⟩,
           ⟨(some 2), none, .mv (.t 44)⟩])
      .ret)
    .skip)))))))))
  (.seq (.reg [2] [⟨(some 45), none, .faddr 3 (.t 1)⟩,
       ⟨(some 46), none, .load none (.t 45)⟩,
       ⟨(some 47), none, .bin .eql .other true (.t 46) (.c (.str []))⟩,
       ⟨(some 2), none, .mv (.t 47)⟩])
  .ret))))⟩
theorem c107 : compF Tryz.prog [0, 1, 2, 3, 5, 10, 22, 32, 38] Tryz.f107 = some a107 := by kernel_rfl

/- bushel/syn.all -/
def a108 : AFun := ⟨9, [.tmp 4], (.seq (.reg [3, 4] [⟨(some 3), none, .box (.t 1)⟩,
       ⟨(some 4), none, .mv (.c (.bool false))⟩])
  (.seq (.reg [4] [⟨(some 5), none, .mv (.t 0)⟩,
       ⟨(some 6), none, .mkfn 144 [(.t 3)]⟩,
       ⟨(some 7), none, .call (.c (.fn 143)) [(.t 5), (.t 6)]⟩,
       ⟨(some 8), none, .un .not (.t 7)⟩,
       ⟨(some 4), none, .mv (.t 8)⟩])
  .ret))⟩
theorem c108 : compF Tryz.prog [0, 1, 3, 4] Tryz.f108 = some a108 := by kernel_rfl

/- bushel/syn.rises -/
def a109 : AFun := ⟨27, [.tmp 2], (.seq (.reg [2] [⟨(some 2), none, .mv (.c (.bool false))⟩])
  (.seq (.seq (.reg [5, 6] [⟨(some 4), none, .mv (.t 0)⟩,
        ⟨(some 5), none, .len .sl (.t 4)⟩,
        ⟨(some 6), none, .mv (.c (.int .i64 0))⟩])
   (.block 0 (.loop (.seq (.reg [7] [⟨(some 7), none, .bin .lss .other false (.t 6) (.t 5)⟩])
     (.seq (.cond (.t 7) .skip
      (.exit 0))
     (.seq (.block 1 (.seq (.reg [3] [⟨(some 8), none, .mv (.t 6)⟩,
            ⟨(some 3), none, .mv (.t 8)⟩])
       (.seq (.any [22] [(⟨(some 9), none, .mv (.t 3)⟩, true),
            (⟨(some 10), none, .bin .gtr .other true (.t 9) (.c (.int .i64 0))⟩, true),
            (⟨(some 11), none, .mv (.t 10)⟩, true),
            (⟨(some 12), (some (11, true)), .mv (.t 0)⟩, true),
            (⟨(some 13), (some (11, true)), .mv (.t 3)⟩, false),
            (⟨(some 14), (some (11, true)), .bin .sub .other true (.t 13) (.c (.int .i64 1))⟩, false),
            (⟨(some 15), (some (11, true)), .iaddr none (.t 12) (.t 14)⟩, true),
            (⟨(some 16), (some (11, true)), .load none (.t 15)⟩, true),
            (⟨(some 17), (some (11, true)), .mv (.t 0)⟩, false),
            (⟨(some 18), (some (11, true)), .mv (.t 3)⟩, false),
            (⟨(some 19), (some (11, true)), .iaddr none (.t 17) (.t 18)⟩, false),
            (⟨(some 20), (some (11, true)), .load none (.t 19)⟩, false),
            (⟨(some 21), (some (11, true)), .bin .geq .other false (.t 16) (.t 20)⟩, true),
            (⟨(some 22), none, .pick (.t 11) (.t 21) (.c (.bool false))⟩, true)])
       (.cond (.t 22) (.seq (.reg [2] [⟨(some 2), none, .mv (.c (.bool false))⟩])
         .ret)
       .skip))))
     (.reg [6] [⟨(some 23), none, .bin .add .other true (.t 6) (.c (.int .i64 1))⟩,
         ⟨(some 6), none, .mv (.t 23)⟩])))))))
  (.seq (.reg [2] [⟨(some 24), none, .mv (.t 0)⟩,
       ⟨(some 25), none, .len .sl (.t 24)⟩,
       ⟨(some 26), none, .bin .leq .other true (.t 25) (.c (.int .i64 30))⟩,
       ⟨(some 2), none, .mv (.t 26)⟩])
  .ret)))⟩
theorem c109 : compF Tryz.prog [0, 2, 3, 5, 6, 7, 22] Tryz.f109 = some a109 := by kernel_rfl

/- bushel/syn.is -/
def a110 : AFun := ⟨39, [.tmp 4], (.seq (.reg [4] [⟨(some 4), none, .mv (.c (.bool false))⟩])
  (.seq (.seq (.reg [9] [⟨(some 7), none, .mv (.t 0)⟩,
        ⟨(some 8), none, .len .str (.t 7)⟩,
        ⟨(some 9), none, .bin .gtr .other true (.t 8) (.c (.int .i64 20))⟩])
   (.cond (.t 9) (.seq (.reg [4] [⟨(some 4), none, .mv (.c (.bool false))⟩])
     .ret)
   .skip))
  (.seq (.reg [5, 6] [⟨(some 11), none, .mv (.t 0)⟩,
       ⟨(some 12), none, .conv .toBytes (.t 11)⟩,
       ⟨(some 13), none, .call (.c (.fn 51)) [(.t 12)]⟩,
       ⟨(some 10), none, .mv (.t 13)⟩,
       ⟨(some 14), none, .extract (.t 10) 0⟩,
       ⟨(some 15), none, .extract (.t 10) 1⟩,
       ⟨(some 5), none, .mv (.t 14)⟩,
       ⟨(some 6), none, .mv (.t 15)⟩])
  (.seq (.reg [4] [⟨(some 16), none, .mv (.t 6)⟩,
       ⟨(some 17), none, .bin .eql .ifc true (.t 16) (.c .inil)⟩,
       ⟨(some 18), none, .mv (.t 17)⟩,
       ⟨(some 19), (some (18, true)), .mv (.t 5)⟩,
       ⟨(some 20), (some (18, true)), .len .sl (.t 19)⟩,
       ⟨(some 21), (some (18, true)), .bin .eql .other true (.t 20) (.c (.int .i64 1))⟩,
       ⟨(some 22), none, .pick (.t 18) (.t 21) (.c (.bool false))⟩,
       ⟨(some 23), none, .mv (.t 22)⟩,
       ⟨(some 24), (some (23, true)), .mv (.t 5)⟩,
       ⟨(some 25), (some (23, true)), .iaddr (some 4) (.t 24) (.c (.int .i64 0))⟩,
       ⟨(some 26), (some (23, true)), .faddr 0 (.t 25)⟩,
       ⟨(some 27), (some (23, true)), .load none (.t 26)⟩,
       ⟨(some 28), (some (23, true)), .mv (.t 1)⟩,
       ⟨(some 29), (some (23, true)), .bin .eql .other false (.t 27) (.t 28)⟩,
       ⟨(some 30), none, .pick (.t 23) (.t 29) (.c (.bool false))⟩,
       ⟨(some 31), none, .mv (.t 30)⟩,
       ⟨(some 32), (some (31, true)), .mv (.t 5)⟩,
       ⟨(some 33), (some (31, true)), .iaddr (some 4) (.t 32) (.c (.int .i64 0))⟩,
       ⟨(some 34), (some (31, true)), .faddr 3 (.t 33)⟩,
       ⟨(some 35), (some (31, true)), .load none (.t 34)⟩,
       ⟨(some 36), (some (31, true)), .mv (.t 0)⟩,
       ⟨(some 37), (some (31, true)), .bin .eql .other false (.t 35) (.t 36)⟩,
       ⟨(some 38), none, .pick (.t 31) (.t 37) (.c (.bool false))⟩,
       ⟨(some 4), none, .mv (.t 38)⟩])
  .ret))))⟩
theorem c110 : compF Tryz.prog [0, 1, 4, 5, 6, 9] Tryz.f110 = some a110 := by kernel_rfl

/- slices.IndexFunc[[]bushel/api.Expr,bushel/api.Expr] -/
def a111 : AFun := ⟨19, [.tmp 4], (.seq (.reg [4] [⟨(some 4), none, .mv (.c (.int .i64 0))⟩])
  (.seq (.seq (.reg [7, 8] [⟨(some 6), none, .mv (.t 0)⟩,
        ⟨(some 7), none, .len .sl (.t 6)⟩,
        ⟨(some 8), none, .mv (.c (.int .i64 0))⟩])
   (.block 0 (.loop (.seq (.reg [9] [⟨(some 9), none, .bin .lss .other false (.t 8) (.t 7)⟩])
     (.seq (.cond (.t 9) .skip
      (.exit 0))
     (.seq (.block 1 (.seq (.reg [5] [⟨(some 10), none, .mv (.t 8)⟩,
            ⟨(some 5), none, .mv (.t 10)⟩])
       (.seq (.reg [16] [⟨(some 11), none, .mv (.t 1)⟩,
            ⟨(some 12), none, .mv (.t 0)⟩,
            ⟨(some 13), none, .mv (.t 5)⟩,
            ⟨(some 14), none, .iaddr (some 8) (.t 12) (.t 13)⟩,
            ⟨(some 15), none, .load (some 8) (.t 14)⟩,
            ⟨(some 16), none, .call (.t 11) [(.t 15)]⟩])
       (.cond (.t 16) (.seq (.reg [4] [⟨(some 17), none, .mv (.t 5)⟩,
              ⟨(some 4), none, .mv (.t 17)⟩])
         .ret)
       .skip))))
     (.reg [8] [⟨(some 18), none, .bin .add .other true (.t 8) (.c (.int .i64 1))⟩,
         ⟨(some 8), none, .mv (.t 18)⟩])))))))
  (.seq (.reg [4] [⟨(some 4), none, .mv (.c (.int .i64 (-1)))⟩])
  .ret)))⟩
theorem c111 : compF Tryz.prog [0, 1, 4, 5, 7, 8, 9, 16] Tryz.f111 = some a111 := by kernel_rfl

/- bushel/bushelref05.Oper -/
def a134 : AFun := ⟨33, [.tmp 2], (.seq (.reg [2] [⟨(some 2), none, .mv (.c (.bool false))⟩])
  (.seq (.reg [2] [⟨(some 3), none, .mv (.t 0)⟩,
       ⟨(some 4), none, .bin .eql .other true (.t 3) (.c (.str [43]))⟩,
       ⟨(some 5), none, .mv (.t 4)⟩,
       ⟨(some 6), (some (5, false)), .mv (.t 0)⟩,
       ⟨(some 7), (some (5, false)), .bin .eql .other true (.t 6) (.c (.str [45]))⟩,
       ⟨(some 8), none, .pick (.t 5) (.c (.bool true)) (.t 7)⟩,
       ⟨(some 9), none, .mv (.t 8)⟩,
       ⟨(some 10), (some (9, false)), .mv (.t 0)⟩,
       ⟨(some 11), (some (9, false)), .bin .eql .other true (.t 10) (.c (.str [42]))⟩,
       ⟨(some 12), none, .pick (.t 9) (.c (.bool true)) (.t 11)⟩,
       ⟨(some 13), none, .mv (.t 12)⟩,
       ⟨(some 14), (some (13, false)), .mv (.t 0)⟩,
       ⟨(some 15), (some (13, false)), .bin .eql .other true (.t 14) (.c (.str [47]))⟩,
       ⟨(some 16), none, .pick (.t 13) (.c (.bool true)) (.t 15)⟩,
       ⟨(some 17), none, .mv (.t 16)⟩,
       ⟨(some 18), (some (17, false)), .mv (.t 0)⟩,
       ⟨(some 19), (some (17, false)), .bin .eql .other true (.t 18) (.c (.str [60]))⟩,
       ⟨(some 20), none, .pick (.t 17) (.c (.bool true)) (.t 19)⟩,
       ⟨(some 21), none, .mv (.t 20)⟩,
       ⟨(some 22), (some (21, false)), .mv (.t 0)⟩,
       ⟨(some 23), (some (21, false)), .bin .eql .other true (.t 22) (.c (.str [61, 61]))⟩,
       ⟨(some 24), none, .pick (.t 21) (.c (.bool true)) (.t 23)⟩,
       ⟨(some 25), none, .mv (.t 24)⟩,
       ⟨(some 26), (some (25, false)), .mv (.t 0)⟩,
       ⟨(some 27), (some (25, false)), .bin .eql .other true (.t 26) (.c (.str [94]))⟩,
       ⟨(some 28), none, .pick (.t 25) (.c (.bool true)) (.t 27)⟩,
       ⟨(some 29), none, .mv (.t 28)⟩,
       ⟨(some 30), (some (29, false)), .mv (.t 0)⟩,
       ⟨(some 31), (some (29, false)), .bin .eql .other true (.t 30) (.c (.str [35]))⟩,
       ⟨(some 32), none, .pick (.t 29) (.c (.bool true)) (.t 31)⟩,
       ⟨(some 2), none, .mv (.t 32)⟩])
  .ret))⟩
theorem c134 : compF Tryz.prog [0, 2] Tryz.f134 = some a134 := by kernel_rfl

/- bushel/syn.forms -/
def a142 : AFun := ⟨23, [.tmp 0], (.seq (.reg [0] [⟨(some 0), none, .mv (.c .mnil)⟩])
  (.seq (.reg [0] [⟨(some 1), none, .ext .mkmap []⟩,
       ⟨(some 2), none, .build [(.int .i64 0), (.bool false), (.bool false), (.bool false), (.bool false)] []⟩,
       ⟨none, none, .ext (.mput (.int .i64)) [(.t 1), (.c (.int .i64 1)), (.t 2)]⟩,
       ⟨(some 3), none, .build [(.int .i64 0), (.bool false), (.bool false), (.bool false), (.bool false)] []⟩,
       ⟨none, none, .ext (.mput (.int .i64)) [(.t 1), (.c (.int .i64 2)), (.t 3)]⟩,
       ⟨(some 4), none, .build [(.int .i64 0), (.bool false), (.bool false), (.bool false), (.bool false)] [(1, 1, (.c (.bool true)))]⟩,
       ⟨none, none, .ext (.mput (.int .i64)) [(.t 1), (.c (.int .i64 3)), (.t 4)]⟩,
       ⟨(some 5), none, .build [(.int .i64 0), (.bool false), (.bool false), (.bool false), (.bool false)] []⟩,
       ⟨none, none, .ext (.mput (.int .i64)) [(.t 1), (.c (.int .i64 22)), (.t 5)]⟩,
       ⟨(some 6), none, .build [(.int .i64 0), (.bool false), (.bool false), (.bool false), (.bool false)] [(0, 1, (.c (.int .i64 1))), (1, 1, (.c (.bool true)))]⟩,
       ⟨none, none, .ext (.mput (.int .i64)) [(.t 1), (.c (.int .i64 4)), (.t 6)]⟩,
       ⟨(some 7), none, .build [(.int .i64 0), (.bool false), (.bool false), (.bool false), (.bool false)] [(0, 1, (.c (.int .i64 2)))]⟩,
       ⟨none, none, .ext (.mput (.int .i64)) [(.t 1), (.c (.int .i64 5)), (.t 7)]⟩,
       ⟨(some 8), none, .build [(.int .i64 0), (.bool false), (.bool false), (.bool false), (.bool false)] [(0, 1, (.c (.int .i64 2))), (1, 1, (.c (.bool true)))]⟩,
       ⟨none, none, .ext (.mput (.int .i64)) [(.t 1), (.c (.int .i64 6)), (.t 8)]⟩,
       ⟨(some 9), none, .build [(.int .i64 0), (.bool false), (.bool false), (.bool false), (.bool false)] [(0, 1, (.c (.int .i64 2))), (1, 1, (.c (.bool true)))]⟩,
       ⟨none, none, .ext (.mput (.int .i64)) [(.t 1), (.c (.int .i64 7)), (.t 9)]⟩,
       ⟨(some 10), none, .build [(.int .i64 0), (.bool false), (.bool false), (.bool false), (.bool false)] [(0, 1, (.c (.int .i64 1))), (2, 1, (.c (.bool true)))]⟩,
       ⟨none, none, .ext (.mput (.int .i64)) [(.t 1), (.c (.int .i64 9)), (.t 10)]⟩,
       ⟨(some 11), none, .build [(.int .i64 0), (.bool false), (.bool false), (.bool false), (.bool false)] [(0, 1, (.c (.int .i64 2))), (2, 1, (.c (.bool true)))]⟩,
       ⟨none, none, .ext (.mput (.int .i64)) [(.t 1), (.c (.int .i64 10)), (.t 11)]⟩,
       ⟨(some 12), none, .build [(.int .i64 0), (.bool false), (.bool false), (.bool false), (.bool false)] [(0, 1, (.c (.int .i64 1))), (2, 1, (.c (.bool true)))]⟩,
       ⟨none, none, .ext (.mput (.int .i64)) [(.t 1), (.c (.int .i64 11)), (.t 12)]⟩,
       ⟨(some 13), none, .build [(.int .i64 0), (.bool false), (.bool false), (.bool false), (.bool false)] [(0, 1, (.c (.int .i64 2))), (2, 1, (.c (.bool true)))]⟩,
       ⟨none, none, .ext (.mput (.int .i64)) [(.t 1), (.c (.int .i64 12)), (.t 13)]⟩,
       ⟨(some 14), none, .build [(.int .i64 0), (.bool false), (.bool false), (.bool false), (.bool false)] [(0, 1, (.c (.int .i64 1))), (3, 1, (.c (.bool true)))]⟩,
       ⟨none, none, .ext (.mput (.int .i64)) [(.t 1), (.c (.int .i64 13)), (.t 14)]⟩,
       ⟨(some 15), none, .build [(.int .i64 0), (.bool false), (.bool false), (.bool false), (.bool false)] [(0, 1, (.c (.int .i64 3)))]⟩,
       ⟨none, none, .ext (.mput (.int .i64)) [(.t 1), (.c (.int .i64 15)), (.t 15)]⟩,
       ⟨(some 16), none, .build [(.int .i64 0), (.bool false), (.bool false), (.bool false), (.bool false)] [(0, 1, (.c (.int .i64 2))), (4, 1, (.c (.bool true)))]⟩,
       ⟨none, none, .ext (.mput (.int .i64)) [(.t 1), (.c (.int .i64 16)), (.t 16)]⟩,
       ⟨(some 17), none, .build [(.int .i64 0), (.bool false), (.bool false), (.bool false), (.bool false)] [(0, 1, (.c (.int .i64 1)))]⟩,
       ⟨none, none, .ext (.mput (.int .i64)) [(.t 1), (.c (.int .i64 17)), (.t 17)]⟩,
       ⟨(some 18), none, .build [(.int .i64 0), (.bool false), (.bool false), (.bool false), (.bool false)] [(0, 1, (.c (.int .i64 1)))]⟩,
       ⟨none, none, .ext (.mput (.int .i64)) [(.t 1), (.c (.int .i64 18)), (.t 18)]⟩,
       ⟨(some 19), none, .build [(.int .i64 0), (.bool false), (.bool false), (.bool false), (.bool false)] [(0, 1, (.c (.int .i64 2)))]⟩,
       ⟨none, none, .ext (.mput (.int .i64)) [(.t 1), (.c (.int .i64 19)), (.t 19)]⟩,
       ⟨(some 20), none, .build [(.int .i64 0), (.bool false), (.bool false), (.bool false), (.bool false)] [(0, 1, (.c (.int .i64 1)))]⟩,
       ⟨none, none, .ext (.mput (.int .i64)) [(.t 1), (.c (.int .i64 20)), (.t 20)]⟩,
       ⟨(some 21), none, .build [(.int .i64 0), (.bool false), (.bool false), (.bool false), (.bool false)] [(0, 1, (.c (.int .i64 1)))]⟩,
       ⟨none, none, .ext (.mput (.int .i64)) [(.t 1), (.c (.int .i64 21)), (.t 21)]⟩,
       ⟨(some 22), none, .mv (.t 1)⟩,
       ⟨(some 0), none, .mv (.t 22)⟩])
  .ret))⟩
theorem c142 : compF Tryz.prog [0] Tryz.f142 = some a142 := by kernel_rfl

/- slices.ContainsFunc[[]string,string] -/
def a143 : AFun := ⟨9, [.tmp 4], (.seq (.reg [4] [⟨(some 4), none, .mv (.c (.bool false))⟩])
  (.seq (.reg [4] [⟨(some 5), none, .mv (.t 0)⟩,
       ⟨(some 6), none, .mv (.t 1)⟩,
       ⟨(some 7), none, .call (.c (.fn 177)) [(.t 5), (.t 6)]⟩,
       ⟨(some 8), none, .bin .geq .other true (.t 7) (.c (.int .i64 0))⟩,
       ⟨(some 4), none, .mv (.t 8)⟩])
  .ret))⟩
theorem c143 : compF Tryz.prog [0, 1, 4] Tryz.f143 = some a143 := by kernel_rfl

/- bushel/syn.all$1 -/
def a144 : AFun := ⟨8, [.tmp 3], (.seq (.reg [3] [⟨(some 3), none, .mv (.c (.bool false))⟩])
  (.seq (.reg [3] [⟨(some 4), none, .mv (.t 0)⟩,
       ⟨(some 5), none, .load none (.t 1)⟩,
       ⟨(some 6), none, .call (.c (.fn 110)) [(.t 4), (.t 5)]⟩,
       ⟨(some 7), none, .un .not (.t 6)⟩,
       ⟨(some 3), none, .mv (.t 7)⟩])
  .ret))⟩
theorem c144 : compF Tryz.prog [0, 1, 3] Tryz.f144 = some a144 := by kernel_rfl

/- slices.IndexFunc[[]string,string] -/
def a177 : AFun := ⟨19, [.tmp 4], (.seq (.reg [4] [⟨(some 4), none, .mv (.c (.int .i64 0))⟩])
  (.seq (.seq (.reg [7, 8] [⟨(some 6), none, .mv (.t 0)⟩,
        ⟨(some 7), none, .len .sl (.t 6)⟩,
        ⟨(some 8), none, .mv (.c (.int .i64 0))⟩])
   (.block 0 (.loop (.seq (.reg [9] [⟨(some 9), none, .bin .lss .other false (.t 8) (.t 7)⟩])
     (.seq (.cond (.t 9) .skip
      (.exit 0))
     (.seq (.block 1 (.seq (.reg [5] [⟨(some 10), none, .mv (.t 8)⟩,
            ⟨(some 5), none, .mv (.t 10)⟩])
       (.seq (.reg [16] [⟨(some 11), none, .mv (.t 1)⟩,
            ⟨(some 12), none, .mv (.t 0)⟩,
            ⟨(some 13), none, .mv (.t 5)⟩,
            ⟨(some 14), none, .iaddr none (.t 12) (.t 13)⟩,
            ⟨(some 15), none, .load none (.t 14)⟩,
            ⟨(some 16), none, .call (.t 11) [(.t 15)]⟩])
       (.cond (.t 16) (.seq (.reg [4] [⟨(some 17), none, .mv (.t 5)⟩,
              ⟨(some 4), none, .mv (.t 17)⟩])
         .ret)
       .skip))))
     (.reg [8] [⟨(some 18), none, .bin .add .other true (.t 8) (.c (.int .i64 1))⟩,
         ⟨(some 8), none, .mv (.t 18)⟩])))))))
  (.seq (.reg [4] [⟨(some 4), none, .mv (.c (.int .i64 (-1)))⟩])
  .ret)))⟩
theorem c177 : compF Tryz.prog [0, 1, 4, 5, 7, 8, 9, 16] Tryz.f177 = some a177 := by kernel_rfl

end Go.Proofs.YtpdeaekmgljeaaaGreatDoor
