/-
  The bodies of functions, in the small language: printed by program, proved by the kernel's computing. (Own work.)
-/
import Derived.Test.YtpdeaekmgljeaaaDoorM06
import Derived.Test.YtpdeaekmgljeaaaDoorChecked
namespace Go.Proofs.YtpdeaekmgljeaaaDoor
open Go Go.Abs

/- bushel/spot.At -/
def a60 : AFun := ⟨10, [.tmp 4], (.seq (.reg [4] [⟨(some 4), none, .mv (.c .inil)⟩])
  (.seq (.reg [4] [⟨(some 5), none, .mv (.t 0)⟩,
       ⟨(some 6), none, .mv (.t 1)⟩,
       ⟨(some 7), none, .build [(.int .i64 0), (.int .i64 0)] [(0, 1, (.t 5)), (1, 1, (.t 6))]⟩,
       ⟨(some 8), none, .box (.t 7)⟩,
       ⟨(some 9), none, .mkif 104 (.t 8)⟩,
       ⟨(some 4), none, .mv (.t 9)⟩])
  .ret))⟩
theorem c60 : compF Tryd.prog [0, 1, 4] Tryd.f60 = some a60 := by kernel_rfl

/- bushel/lex.Cut -/
def a45 : AFun := ⟨37, [.tmp 2, .tmp 3], (.seq (.reg [2, 3] [⟨(some 2), none, .mv (.c .snil)⟩,
       ⟨(some 3), none, .mv (.c .inil)⟩])
  (.seq (.seq (.reg [10] [⟨(some 8), none, .mv (.t 0)⟩,
        ⟨(some 9), none, .len .sl (.t 8)⟩,
        ⟨(some 10), none, .bin .gtr .other true (.t 9) (.c (.int .i64 4000))⟩])
   (.cond (.t 10) (.seq (.reg [2, 3] [⟨(some 11), none, .mkif 33 (.c (.int .i64 6))⟩,
          ⟨(some 2), none, .mv (.c .snil)⟩,
          ⟨(some 3), none, .mv (.t 11)⟩])
     .ret)
   .skip))
  (.seq (.reg [4] [⟨(some 12), none, .mv (.t 0)⟩,
       ⟨(some 13), none, .build [.snil, (.int .i64 0)] [(0, 1, (.t 12))]⟩,
       ⟨(some 14), none, .box (.t 13)⟩,
       ⟨(some 4), none, .mv (.t 14)⟩])
  (.seq (.reg [5] [⟨(some 5), none, .mv (.c .snil)⟩])
  (.block 0 (.loop (.block 1 (.seq (.reg [] [⟨(some 15), none, .mv (.t 4)⟩,
          ⟨(some 16), none, .call (.c (.fn 55)) [(.t 15), (.c (.fn 56))]⟩])
     (.seq (.seq (.reg [23] [⟨(some 17), none, .mv (.t 4)⟩,
           ⟨(some 18), none, .nilck (.t 17)⟩,
           ⟨(some 19), none, .faddr 1 (.t 18)⟩,
           ⟨(some 20), none, .load none (.t 19)⟩,
           ⟨(some 21), none, .mv (.t 0)⟩,
           ⟨(some 22), none, .len .sl (.t 21)⟩,
           ⟨(some 23), none, .bin .eql .other false (.t 20) (.t 22)⟩])
      (.cond (.t 23) (.seq (.reg [2, 3] [⟨(some 24), none, .mv (.t 5)⟩,
             ⟨(some 2), none, .mv (.t 24)⟩,
             ⟨(some 3), none, .mv (.c .inil)⟩])
        .ret)
      .skip))
     (.seq (.reg [6, 7] [⟨(some 26), none, .mv (.t 4)⟩,
          ⟨(some 27), none, .call (.c (.fn 57)) [(.t 26)]⟩,
          ⟨(some 25), none, .mv (.t 27)⟩,
          ⟨(some 28), none, .extract (.t 25) 0⟩,
          ⟨(some 29), none, .extract (.t 25) 1⟩,
          ⟨(some 6), none, .alloc [(.int .i64 0), (.int .i64 0), (.int .i64 0), (.str [])]⟩,
          ⟨none, none, .store 4 (.t 6) (.t 28)⟩,
          ⟨(some 7), none, .mv (.t 29)⟩])
     (.seq (.seq (.reg [31] [⟨(some 30), none, .mv (.t 7)⟩,
           ⟨(some 31), none, .bin .neq .ifc true (.t 30) (.c .inil)⟩])
      (.cond (.t 31) (.seq (.reg [2, 3] [⟨(some 32), none, .mv (.t 7)⟩,
             ⟨(some 2), none, .mv (.c .snil)⟩,
             ⟨(some 3), none, .mv (.t 32)⟩])
        .ret)
      .skip))
     (.reg [5] [⟨(some 33), none, .mv (.t 5)⟩,
         ⟨(some 34), none, .load (some 4) (.t 6)⟩,
         ⟨(some 35), none, .mksl (some 4) [(.t 34)]⟩,
         ⟨(some 36), none, .append (some 4) 40 (.t 33) (.t 35)⟩,
         ⟨(some 5), none, .mv (.t 36)⟩]))))))))))))⟩
theorem c45 : compF Tryd.prog [0, 2, 3, 4, 5, 6, 7, 10, 23, 31] Tryd.f45 = some a45 := by kernel_rfl

/- bushel/lex.Quote -/
def a16 : AFun := ⟨49, [.tmp 2, .tmp 3], (.seq (.reg [2, 3] [⟨(some 2), none, .mv (.c (.str []))⟩,
       ⟨(some 3), none, .mv (.c .inil)⟩])
  (.seq (.seq (.reg [9] [⟨(some 7), none, .mv (.t 0)⟩,
        ⟨(some 8), none, .len .str (.t 7)⟩,
        ⟨(some 9), none, .bin .gtr .other true (.t 8) (.c (.int .i64 2000))⟩])
   (.cond (.t 9) (.seq (.reg [2, 3] [⟨(some 10), none, .mkif 33 (.c (.int .i64 1))⟩,
          ⟨(some 2), none, .mv (.c (.str []))⟩,
          ⟨(some 3), none, .mv (.t 10)⟩])
     .ret)
   .skip))
  (.seq (.reg [4] [⟨(some 11), none, .mksl none [(.c (.int .u8 34))]⟩,
       ⟨(some 4), none, .mv (.t 11)⟩])
  (.seq (.seq (.reg [13, 14, 15] [⟨(some 12), none, .mv (.t 0)⟩,
        ⟨(some 13), none, .conv .toBytes (.t 12)⟩,
        ⟨(some 14), none, .len .sl (.t 13)⟩,
        ⟨(some 15), none, .mv (.c (.int .i64 0))⟩])
   (.block 0 (.loop (.seq (.reg [16] [⟨(some 16), none, .bin .lss .other false (.t 15) (.t 14)⟩])
     (.seq (.cond (.t 16) .skip
      (.exit 0))
     (.seq (.block 1 (.seq (.reg [6] [⟨(some 17), none, .iaddr none (.t 13) (.t 15)⟩,
            ⟨(some 18), none, .load none (.t 17)⟩,
            ⟨(some 6), none, .mv (.t 18)⟩])
       (.block 2 (.seq (.block 6 (.seq (.block 5 (.seq (.block 4 (.seq (.block 3 (.seq (.seq (.seq (.reg [19] [⟨(some 20), none, .mv (.t 6)⟩,
                       ⟨(some 21), none, .bin .eql .other true (.t 20) (.c (.int .u8 10))⟩,
                       ⟨(some 19), none, .mv (.t 21)⟩])
                  (.cond (.t 19) (.exit 3)
                  .skip))
                 (.seq (.seq (.reg [22] [⟨(some 23), none, .mv (.t 6)⟩,
                       ⟨(some 24), none, .call (.c (.fn 25)) [(.t 23)]⟩,
                       ⟨(some 25), none, .un .not (.t 24)⟩,
                       ⟨(some 22), none, .mv (.t 25)⟩])
                  (.cond (.t 22) (.exit 4)
                  .skip))
                 (.seq (.reg [26] [⟨(some 27), none, .mv (.t 6)⟩,
                      ⟨(some 28), none, .bin .eql .other true (.t 27) (.c (.int .u8 34))⟩,
                      ⟨(some 29), none, .mv (.t 28)⟩,
                      ⟨(some 30), (some (29, false)), .mv (.t 6)⟩,
                      ⟨(some 31), (some (29, false)), .bin .eql .other true (.t 30) (.c (.int .u8 92))⟩,
                      ⟨(some 32), none, .pick (.t 29) (.c (.bool true)) (.t 31)⟩,
                      ⟨(some 26), none, .mv (.t 32)⟩])
                 (.cond (.t 26) (.exit 5)
                 .skip))))
                (.exit 6)))
              (.seq (.reg [4] [⟨(some 33), none, .mv (.t 4)⟩,
                   ⟨(some 34), none, .mksl none [(.c (.int .u8 92)), (.c (.int .u8 110))]⟩,
                   ⟨(some 35), none, .append none 1 (.t 33) (.t 34)⟩,
                   ⟨(some 4), none, .mv (.t 35)⟩])
              (.exit 2))))
            (.seq (.seq (.reg [2, 3] [⟨(some 36), none, .mkif 33 (.c (.int .i64 1))⟩,
                  ⟨(some 2), none, .mv (.c (.str []))⟩,
                  ⟨(some 3), none, .mv (.t 36)⟩])
             .ret)
            (.exit 2))))
          (.reg [4] [⟨(some 37), none, .mv (.t 4)⟩,
              ⟨(some 38), none, .mksl none [(.c (.int .u8 92))]⟩,
              ⟨(some 39), none, .append none 1 (.t 37) (.t 38)⟩,
              ⟨(some 4), none, .mv (.t 39)⟩])))
        (.seq (.reg [4] [⟨(some 40), none, .mv (.t 4)⟩,
             ⟨(some 41), none, .mv (.t 6)⟩,
             ⟨(some 42), none, .mksl none [(.t 41)]⟩,
             ⟨(some 43), none, .append none 1 (.t 40) (.t 42)⟩,
             ⟨(some 4), none, .mv (.t 43)⟩])
        (.exit 2))))))
     (.reg [15] [⟨(some 44), none, .bin .add .other true (.t 15) (.c (.int .i64 1))⟩,
         ⟨(some 15), none, .mv (.t 44)⟩])))))))
  (.seq (.reg [2, 3] [⟨(some 45), none, .mv (.t 4)⟩,
       ⟨(some 46), none, .mksl none [(.c (.int .u8 34))]⟩,
       ⟨(some 47), none, .append none 1 (.t 45) (.t 46)⟩,
       ⟨(some 48), none, .conv .ofBytes (.t 47)⟩,
       ⟨(some 2), none, .mv (.t 48)⟩,
       ⟨(some 3), none, .mv (.c .inil)⟩])
  .ret)))))⟩
theorem c16 : compF Tryd.prog [0, 2, 3, 4, 6, 9, 13, 14, 15, 16, 19, 22, 26] Tryd.f16 = some a16 := by kernel_rfl

/- (*bushel/lex.cutter).pass -/
def a55 : AFun := ⟨52, [.tmp 4], (.seq (.reg [4] [⟨(some 4), none, .mv (.c (.str []))⟩])
  (.seq (.reg [5] [⟨(some 6), none, .mv (.t 0)⟩,
       ⟨(some 7), none, .nilck (.t 6)⟩,
       ⟨(some 8), none, .faddr 1 (.t 7)⟩,
       ⟨(some 9), none, .load none (.t 8)⟩,
       ⟨(some 5), none, .mv (.t 9)⟩])
  (.seq (.block 0 (.loop (.seq (.seq (.any [33] [(⟨(some 10), none, .mv (.t 0)⟩, true),
           (⟨(some 11), none, .nilck (.t 10)⟩, true),
           (⟨(some 12), none, .faddr 1 (.t 11)⟩, true),
           (⟨(some 13), none, .load none (.t 12)⟩, true),
           (⟨(some 14), none, .mv (.t 0)⟩, false),
           (⟨(some 15), none, .nilck (.t 14)⟩, false),
           (⟨(some 16), none, .faddr 0 (.t 15)⟩, false),
           (⟨(some 17), none, .load none (.t 16)⟩, false),
           (⟨(some 18), none, .len .sl (.t 17)⟩, false),
           (⟨(some 19), none, .bin .lss .other false (.t 13) (.t 18)⟩, true),
           (⟨(some 20), none, .mv (.t 19)⟩, true),
           (⟨(some 21), (some (20, true)), .mv (.t 1)⟩, true),
           (⟨(some 22), (some (20, true)), .mv (.t 0)⟩, false),
           (⟨(some 23), (some (20, true)), .nilck (.t 22)⟩, false),
           (⟨(some 24), (some (20, true)), .faddr 0 (.t 23)⟩, false),
           (⟨(some 25), (some (20, true)), .load none (.t 24)⟩, false),
           (⟨(some 26), (some (20, true)), .mv (.t 0)⟩, false),
           (⟨(some 27), (some (20, true)), .nilck (.t 26)⟩, false),
           (⟨(some 28), (some (20, true)), .faddr 1 (.t 27)⟩, false),
           (⟨(some 29), (some (20, true)), .load none (.t 28)⟩, false),
           (⟨(some 30), (some (20, true)), .iaddr none (.t 25) (.t 29)⟩, false),
           (⟨(some 31), (some (20, true)), .load none (.t 30)⟩, false),
           (⟨(some 32), (some (20, true)), .call (.t 21) [(.t 31)]⟩, true),
           (⟨(some 33), none, .pick (.t 20) (.t 32) (.c (.bool false))⟩, true)])
      (.cond (.t 33) .skip
      (.exit 0)))
     (.block 1 (.reg [] [⟨(some 34), none, .mv (.t 0)⟩,
          ⟨(some 35), none, .nilck (.t 34)⟩,
          ⟨(some 36), none, .faddr 1 (.t 35)⟩,
          ⟨(some 37), none, .load none (.t 36)⟩,
          ⟨(some 38), none, .bin .add .other true (.t 37) (.c (.int .i64 1))⟩,
          ⟨(some 39), none, .nilck (.t 34)⟩,
          ⟨(some 40), none, .faddr 1 (.t 39)⟩,
          ⟨none, none, .store 1 (.t 40) (.t 38)⟩])))))
  (.seq (.any [4] [(⟨(some 41), none, .mv (.t 0)⟩, true),
       (⟨(some 42), none, .nilck (.t 41)⟩, true),
       (⟨(some 43), none, .faddr 0 (.t 42)⟩, true),
       (⟨(some 44), none, .load none (.t 43)⟩, true),
       (⟨(some 45), none, .mv (.t 5)⟩, false),
       (⟨(some 46), none, .mv (.t 0)⟩, false),
       (⟨(some 47), none, .nilck (.t 46)⟩, false),
       (⟨(some 48), none, .faddr 1 (.t 47)⟩, false),
       (⟨(some 49), none, .load none (.t 48)⟩, false),
       (⟨(some 50), none, .slice (.sl none) (.t 44) (some (.t 45)) (some (.t 49)) none⟩, true),
       (⟨(some 51), none, .conv .ofBytes (.t 50)⟩, true),
       (⟨(some 4), none, .mv (.t 51)⟩, true)])
  .ret))))⟩
theorem c55 : compF Tryd.prog [0, 1, 4, 5, 33] Tryd.f55 = some a55 := by kernel_rfl

/- bushel/lex.Cut$1 -/
def a56 : AFun := ⟨13, [.tmp 2], (.seq (.reg [2] [⟨(some 2), none, .mv (.c (.bool false))⟩])
  (.seq (.reg [2] [⟨(some 3), none, .mv (.t 0)⟩,
       ⟨(some 4), none, .bin .eql .other true (.t 3) (.c (.int .u8 32))⟩,
       ⟨(some 5), none, .mv (.t 4)⟩,
       ⟨(some 6), (some (5, false)), .mv (.t 0)⟩,
       ⟨(some 7), (some (5, false)), .bin .eql .other true (.t 6) (.c (.int .u8 10))⟩,
       ⟨(some 8), none, .pick (.t 5) (.c (.bool true)) (.t 7)⟩,
       ⟨(some 9), none, .mv (.t 8)⟩,
       ⟨(some 10), (some (9, false)), .mv (.t 0)⟩,
       ⟨(some 11), (some (9, false)), .bin .eql .other true (.t 10) (.c (.int .u8 9))⟩,
       ⟨(some 12), none, .pick (.t 9) (.c (.bool true)) (.t 11)⟩,
       ⟨(some 2), none, .mv (.t 12)⟩])
  .ret))⟩
theorem c56 : compF Tryd.prog [0, 2] Tryd.f56 = some a56 := by kernel_rfl

/- (*bushel/lex.cutter).next -/
def a57 : AFun := ⟨126, [.cell 2 (some 4), .tmp 3], (.seq (.reg [2, 3] [⟨(some 2), none, .alloc [(.int .i64 0), (.int .i64 0), (.int .i64 0), (.str [])]⟩,
       ⟨(some 3), none, .mv (.c .inil)⟩])
  (.seq (.reg [4] [⟨(some 12), none, .mv (.t 0)⟩,
       ⟨(some 13), none, .nilck (.t 12)⟩,
       ⟨(some 14), none, .faddr 1 (.t 13)⟩,
       ⟨(some 15), none, .load none (.t 14)⟩,
       ⟨(some 16), none, .build [(.int .i64 0), (.int .i64 0), (.int .i64 0), (.str [])] [(1, 1, (.t 15))]⟩,
       ⟨(some 4), none, .alloc [(.int .i64 0), (.int .i64 0), (.int .i64 0), (.str [])]⟩,
       ⟨none, none, .store 4 (.t 4) (.t 16)⟩])
  (.seq (.reg [5] [⟨(some 17), none, .mv (.t 0)⟩,
       ⟨(some 18), none, .nilck (.t 17)⟩,
       ⟨(some 19), none, .faddr 1 (.t 18)⟩,
       ⟨(some 20), none, .load none (.t 19)⟩,
       ⟨(some 21), none, .call (.c (.fn 60)) [(.t 20), (.c (.int .i64 2))]⟩,
       ⟨(some 5), none, .mv (.t 21)⟩])
  (.seq (.seq (.any [6] [(⟨(some 22), none, .mv (.t 0)⟩, true),
        (⟨(some 23), none, .nilck (.t 22)⟩, true),
        (⟨(some 24), none, .faddr 0 (.t 23)⟩, true),
        (⟨(some 25), none, .load none (.t 24)⟩, true),
        (⟨(some 26), none, .mv (.t 0)⟩, false),
        (⟨(some 27), none, .nilck (.t 26)⟩, false),
        (⟨(some 28), none, .faddr 1 (.t 27)⟩, false),
        (⟨(some 29), none, .load none (.t 28)⟩, false),
        (⟨(some 30), none, .iaddr none (.t 25) (.t 29)⟩, true),
        (⟨(some 31), none, .load none (.t 30)⟩, true),
        (⟨(some 6), none, .mv (.t 31)⟩, true)])
   (.block 0 (.seq (.reg [41] [⟨(some 42), none, .mv (.t 6)⟩,
         ⟨(some 43), none, .call (.c (.fn 61)) [(.t 42)]⟩,
         ⟨(some 41), none, .mv (.t 43)⟩])
    (.cond (.t 41) (.seq (.reg [] [⟨(some 44), none, .mv (.t 0)⟩,
           ⟨(some 45), none, .call (.c (.fn 55)) [(.t 44), (.c (.fn 62))]⟩,
           ⟨(some 46), none, .faddr 0 (.t 4)⟩,
           ⟨none, none, .store 1 (.t 46) (.c (.int .i64 1))⟩,
           ⟨(some 47), none, .faddr 3 (.t 4)⟩,
           ⟨none, none, .store 1 (.t 47) (.t 45)⟩])
      (.seq (.any [51] [(⟨(some 49), none, .faddr 3 (.t 4)⟩, true),
           (⟨(some 50), none, .load none (.t 49)⟩, true),
           (⟨(some 48), none, .call (.c (.fn 64)) []⟩, false),
           (⟨(some 51), none, .call (.c (.fn 42)) [(.t 48), (.t 50)]⟩, true)])
      (.cond (.t 51) (.reg [] [⟨(some 52), none, .faddr 0 (.t 4)⟩,
            ⟨none, none, .store 1 (.t 52) (.c (.int .i64 2))⟩])
      .skip)))
    (.seq (.reg [53] [⟨(some 54), none, .mv (.t 6)⟩,
         ⟨(some 55), none, .call (.c (.fn 65)) [(.t 54)]⟩,
         ⟨(some 53), none, .mv (.t 55)⟩])
    (.cond (.t 53) (.reg [] [⟨(some 56), none, .mv (.t 0)⟩,
          ⟨(some 57), none, .call (.c (.fn 55)) [(.t 56), (.c (.fn 66))]⟩,
          ⟨(some 58), none, .faddr 0 (.t 4)⟩,
          ⟨none, none, .store 1 (.t 58) (.c (.int .i64 3))⟩,
          ⟨(some 59), none, .faddr 3 (.t 4)⟩,
          ⟨none, none, .store 1 (.t 59) (.t 57)⟩])
    (.seq (.reg [60] [⟨(some 61), none, .mv (.t 6)⟩,
         ⟨(some 62), none, .call (.c (.fn 63)) [(.t 61)]⟩,
         ⟨(some 60), none, .mv (.t 62)⟩])
    (.cond (.t 60) (.seq (.reg [7] [⟨(some 63), none, .mv (.t 0)⟩,
           ⟨(some 64), none, .call (.c (.fn 55)) [(.t 63), (.c (.fn 63))]⟩,
           ⟨(some 7), none, .mv (.t 64)⟩])
      (.seq (.reg [8, 9] [⟨(some 66), none, .mv (.t 7)⟩,
           ⟨(some 67), none, .call (.c (.fn 67)) [(.t 66), (.c (.int .i64 10)), (.c (.int .i64 64))]⟩,
           ⟨(some 65), none, .mv (.t 67)⟩,
           ⟨(some 68), none, .extract (.t 65) 0⟩,
           ⟨(some 69), none, .extract (.t 65) 1⟩,
           ⟨(some 8), none, .mv (.t 68)⟩,
           ⟨(some 9), none, .mv (.t 69)⟩])
      (.seq (.seq (.reg [81] [⟨(some 70), none, .mv (.t 9)⟩,
            ⟨(some 71), none, .bin .neq .ifc true (.t 70) (.c .inil)⟩,
            ⟨(some 72), none, .mv (.t 71)⟩,
            ⟨(some 73), (some (72, false)), .mv (.t 7)⟩,
            ⟨(some 74), (some (72, false)), .len .str (.t 73)⟩,
            ⟨(some 75), (some (72, false)), .bin .gtr .other true (.t 74) (.c (.int .i64 1))⟩,
            ⟨(some 76), (some (72, false)), .mv (.t 75)⟩,
            ⟨(some 77), (some (76, true)), .mv (.t 7)⟩,
            ⟨(some 78), (some (76, true)), .index (.t 77) (.c (.int .i64 0))⟩,
            ⟨(some 79), (some (76, true)), .bin .eql .other true (.t 78) (.c (.int .u8 48))⟩,
            ⟨(some 80), (some (72, false)), .pick (.t 76) (.t 79) (.c (.bool false))⟩,
            ⟨(some 81), none, .pick (.t 72) (.c (.bool true)) (.t 80)⟩])
       (.cond (.t 81) (.seq (.reg [3] [⟨(some 82), none, .build [(.int .i64 0), (.int .i64 0), (.int .i64 0), (.str [])] []⟩,
              ⟨(some 83), none, .mv (.t 5)⟩,
              ⟨none, none, .store 4 (.t 2) (.t 82)⟩,
              ⟨(some 3), none, .mv (.t 83)⟩])
         .ret)
       .skip))
      (.reg [] [⟨(some 84), none, .mv (.t 8)⟩,
          ⟨(some 85), none, .faddr 0 (.t 4)⟩,
          ⟨none, none, .store 1 (.t 85) (.c (.int .i64 4))⟩,
          ⟨(some 86), none, .faddr 2 (.t 4)⟩,
          ⟨none, none, .store 1 (.t 86) (.t 84)⟩]))))
    (.seq (.reg [87] [⟨(some 88), none, .mv (.t 6)⟩,
         ⟨(some 89), none, .bin .eql .other true (.t 88) (.c (.int .u8 34))⟩,
         ⟨(some 87), none, .mv (.t 89)⟩])
    (.cond (.t 87) (.seq (.reg [] [⟨(some 90), none, .mv (.t 0)⟩,
           ⟨(some 91), none, .nilck (.t 90)⟩,
           ⟨(some 92), none, .faddr 1 (.t 91)⟩,
           ⟨(some 93), none, .load none (.t 92)⟩,
           ⟨(some 94), none, .bin .add .other true (.t 93) (.c (.int .i64 1))⟩,
           ⟨(some 95), none, .nilck (.t 90)⟩,
           ⟨(some 96), none, .faddr 1 (.t 95)⟩,
           ⟨none, none, .store 1 (.t 96) (.t 94)⟩])
      (.seq (.reg [10, 11] [⟨(some 98), none, .mv (.t 0)⟩,
           ⟨(some 99), none, .call (.c (.fn 68)) [(.t 98)]⟩,
           ⟨(some 97), none, .mv (.t 99)⟩,
           ⟨(some 100), none, .extract (.t 97) 0⟩,
           ⟨(some 101), none, .extract (.t 97) 1⟩,
           ⟨(some 10), none, .mv (.t 100)⟩,
           ⟨(some 11), none, .mv (.t 101)⟩])
      (.seq (.seq (.reg [103] [⟨(some 102), none, .mv (.t 11)⟩,
            ⟨(some 103), none, .bin .neq .ifc true (.t 102) (.c .inil)⟩])
       (.cond (.t 103) (.seq (.reg [3] [⟨(some 104), none, .build [(.int .i64 0), (.int .i64 0), (.int .i64 0), (.str [])] []⟩,
              ⟨(some 105), none, .mv (.t 11)⟩,
              ⟨none, none, .store 4 (.t 2) (.t 104)⟩,
              ⟨(some 3), none, .mv (.t 105)⟩])
         .ret)
       .skip))
      (.seq (.seq (.reg [108] [⟨(some 106), none, .mv (.t 10)⟩,
            ⟨(some 107), none, .len .str (.t 106)⟩,
            ⟨(some 108), none, .bin .gtr .other true (.t 107) (.c (.int .i64 2000))⟩])
       (.cond (.t 108) (.seq (.reg [3] [⟨(some 109), none, .build [(.int .i64 0), (.int .i64 0), (.int .i64 0), (.str [])] []⟩,
              ⟨(some 110), none, .mv (.t 5)⟩,
              ⟨none, none, .store 4 (.t 2) (.t 109)⟩,
              ⟨(some 3), none, .mv (.t 110)⟩])
         .ret)
       .skip))
      (.reg [] [⟨(some 111), none, .mv (.t 10)⟩,
          ⟨(some 112), none, .faddr 0 (.t 4)⟩,
          ⟨none, none, .store 1 (.t 112) (.c (.int .i64 5))⟩,
          ⟨(some 113), none, .faddr 3 (.t 4)⟩,
          ⟨none, none, .store 1 (.t 113) (.t 111)⟩])))))
    (.seq (.reg [] [⟨(some 32), none, .mv (.t 0)⟩,
         ⟨(some 33), none, .call (.c (.fn 69)) [(.t 32)]⟩,
         ⟨(some 34), none, .faddr 0 (.t 4)⟩,
         ⟨none, none, .store 1 (.t 34) (.c (.int .i64 6))⟩,
         ⟨(some 35), none, .faddr 3 (.t 4)⟩,
         ⟨none, none, .store 1 (.t 35) (.t 33)⟩])
    (.seq (.reg [38] [⟨(some 36), none, .faddr 3 (.t 4)⟩,
         ⟨(some 37), none, .load none (.t 36)⟩,
         ⟨(some 38), none, .bin .eql .other true (.t 37) (.c (.str []))⟩])
    (.cond (.t 38) (.seq (.reg [3] [⟨(some 39), none, .build [(.int .i64 0), (.int .i64 0), (.int .i64 0), (.str [])] []⟩,
           ⟨(some 40), none, .mv (.t 5)⟩,
           ⟨none, none, .store 4 (.t 2) (.t 39)⟩,
           ⟨(some 3), none, .mv (.t 40)⟩])
      .ret)
    .skip)))))))))))))
  (.seq (.seq (.reg [122] [⟨(some 114), none, .faddr 0 (.t 4)⟩,
        ⟨(some 115), none, .load none (.t 114)⟩,
        ⟨(some 116), none, .bin .leq .other true (.t 115) (.c (.int .i64 3))⟩,
        ⟨(some 117), none, .mv (.t 116)⟩,
        ⟨(some 118), (some (117, true)), .faddr 3 (.t 4)⟩,
        ⟨(some 119), (some (117, true)), .load none (.t 118)⟩,
        ⟨(some 120), (some (117, true)), .len .str (.t 119)⟩,
        ⟨(some 121), (some (117, true)), .bin .gtr .other true (.t 120) (.c (.int .i64 20))⟩,
        ⟨(some 122), none, .pick (.t 117) (.t 121) (.c (.bool false))⟩])
   (.cond (.t 122) (.seq (.reg [3] [⟨(some 123), none, .build [(.int .i64 0), (.int .i64 0), (.int .i64 0), (.str [])] []⟩,
          ⟨(some 124), none, .mv (.t 5)⟩,
          ⟨none, none, .store 4 (.t 2) (.t 123)⟩,
          ⟨(some 3), none, .mv (.t 124)⟩])
     .ret)
   .skip))
  (.seq (.reg [3] [⟨(some 125), none, .load (some 4) (.t 4)⟩,
       ⟨none, none, .store 4 (.t 2) (.t 125)⟩,
       ⟨(some 3), none, .mv (.c .inil)⟩])
  .ret))))))⟩
theorem c57 : compF Tryd.prog [0, 2, 3, 4, 5, 6, 7, 8, 9, 10, 11, 38, 41, 51, 53, 60, 81, 87, 103, 108, 122] Tryd.f57 = some a57 := by kernel_rfl

/- bushel/lex.plain -/
def a25 : AFun := ⟨9, [.tmp 2], (.seq (.reg [2] [⟨(some 2), none, .mv (.c (.bool false))⟩])
  (.seq (.reg [2] [⟨(some 3), none, .mv (.t 0)⟩,
       ⟨(some 4), none, .bin .geq .other true (.t 3) (.c (.int .u8 32))⟩,
       ⟨(some 5), none, .mv (.t 4)⟩,
       ⟨(some 6), (some (5, true)), .mv (.t 0)⟩,
       ⟨(some 7), (some (5, true)), .bin .leq .other true (.t 6) (.c (.int .u8 126))⟩,
       ⟨(some 8), none, .pick (.t 5) (.t 7) (.c (.bool false))⟩,
       ⟨(some 2), none, .mv (.t 8)⟩])
  .ret))⟩
theorem c25 : compF Tryd.prog [0, 2] Tryd.f25 = some a25 := by kernel_rfl

/- bushel/lex.lower -/
def a61 : AFun := ⟨9, [.tmp 2], (.seq (.reg [2] [⟨(some 2), none, .mv (.c (.bool false))⟩])
  (.seq (.reg [2] [⟨(some 3), none, .mv (.t 0)⟩,
       ⟨(some 4), none, .bin .geq .other true (.t 3) (.c (.int .u8 97))⟩,
       ⟨(some 5), none, .mv (.t 4)⟩,
       ⟨(some 6), (some (5, true)), .mv (.t 0)⟩,
       ⟨(some 7), (some (5, true)), .bin .leq .other true (.t 6) (.c (.int .u8 122))⟩,
       ⟨(some 8), none, .pick (.t 5) (.t 7) (.c (.bool false))⟩,
       ⟨(some 2), none, .mv (.t 8)⟩])
  .ret))⟩
theorem c61 : compF Tryd.prog [0, 2] Tryd.f61 = some a61 := by kernel_rfl

/- (*bushel/lex.cutter).next$1 -/
def a62 : AFun := ⟨9, [.tmp 2], (.seq (.reg [2] [⟨(some 2), none, .mv (.c (.bool false))⟩])
  (.seq (.reg [2] [⟨(some 3), none, .mv (.t 0)⟩,
       ⟨(some 4), none, .call (.c (.fn 61)) [(.t 3)]⟩,
       ⟨(some 5), none, .mv (.t 4)⟩,
       ⟨(some 6), (some (5, false)), .mv (.t 0)⟩,
       ⟨(some 7), (some (5, false)), .call (.c (.fn 63)) [(.t 6)]⟩,
       ⟨(some 8), none, .pick (.t 5) (.c (.bool true)) (.t 7)⟩,
       ⟨(some 2), none, .mv (.t 8)⟩])
  .ret))⟩
theorem c62 : compF Tryd.prog [0, 2] Tryd.f62 = some a62 := by kernel_rfl

/- bushel/lex.digit -/
def a63 : AFun := ⟨9, [.tmp 2], (.seq (.reg [2] [⟨(some 2), none, .mv (.c (.bool false))⟩])
  (.seq (.reg [2] [⟨(some 3), none, .mv (.t 0)⟩,
       ⟨(some 4), none, .bin .geq .other true (.t 3) (.c (.int .u8 48))⟩,
       ⟨(some 5), none, .mv (.t 4)⟩,
       ⟨(some 6), (some (5, true)), .mv (.t 0)⟩,
       ⟨(some 7), (some (5, true)), .bin .leq .other true (.t 6) (.c (.int .u8 57))⟩,
       ⟨(some 8), none, .pick (.t 5) (.t 7) (.c (.bool false))⟩,
       ⟨(some 2), none, .mv (.t 8)⟩])
  .ret))⟩
theorem c63 : compF Tryd.prog [0, 2] Tryd.f63 = some a63 := by kernel_rfl

/- slices.Contains[[]string,string] -/
def a42 : AFun := ⟨9, [.tmp 4], (.seq (.reg [4] [⟨(some 4), none, .mv (.c (.bool false))⟩])
  (.seq (.reg [4] [⟨(some 5), none, .mv (.t 0)⟩,
       ⟨(some 6), none, .mv (.t 1)⟩,
       ⟨(some 7), none, .call (.c (.fn 53)) [(.t 5), (.t 6)]⟩,
       ⟨(some 8), none, .bin .geq .other true (.t 7) (.c (.int .i64 0))⟩,
       ⟨(some 4), none, .mv (.t 8)⟩])
  .ret))⟩
theorem c42 : compF Tryd.prog [0, 1, 4] Tryd.f42 = some a42 := by kernel_rfl

/- bushel/lex.words -/
def a64 : AFun := ⟨2, [.tmp 0], (.seq (.reg [0] [⟨(some 0), none, .mv (.c .snil)⟩])
  (.seq (.reg [0] [⟨(some 1), none, .mksl none [(.c (.str [102, 110])), (.c (.str [108, 101, 116])), (.c (.str [114, 101, 99])), (.c (.str [105, 110])), (.c (.str [109, 97, 116, 99, 104])), (.c (.str [119, 105, 116, 104])), (.c (.str [101, 110, 100])), (.c (.str [105, 102])), (.c (.str [116, 104, 101, 110])), (.c (.str [101, 108, 115, 101])), (.c (.str [114, 101, 102])), (.c (.str [112, 114, 105, 110, 116])), (.c (.str [115, 104, 111, 119])), (.c (.str [114, 101, 97, 100]))]⟩,
       ⟨(some 0), none, .mv (.t 1)⟩])
  .ret))⟩
theorem c64 : compF Tryd.prog [0] Tryd.f64 = some a64 := by kernel_rfl

/- bushel/lex.upper -/
def a65 : AFun := ⟨9, [.tmp 2], (.seq (.reg [2] [⟨(some 2), none, .mv (.c (.bool false))⟩])
  (.seq (.reg [2] [⟨(some 3), none, .mv (.t 0)⟩,
       ⟨(some 4), none, .bin .geq .other true (.t 3) (.c (.int .u8 65))⟩,
       ⟨(some 5), none, .mv (.t 4)⟩,
       ⟨(some 6), (some (5, true)), .mv (.t 0)⟩,
       ⟨(some 7), (some (5, true)), .bin .leq .other true (.t 6) (.c (.int .u8 90))⟩,
       ⟨(some 8), none, .pick (.t 5) (.t 7) (.c (.bool false))⟩,
       ⟨(some 2), none, .mv (.t 8)⟩])
  .ret))⟩
theorem c65 : compF Tryd.prog [0, 2] Tryd.f65 = some a65 := by kernel_rfl

/- (*bushel/lex.cutter).next$2 -/
def a66 : AFun := ⟨13, [.tmp 2], (.seq (.reg [2] [⟨(some 2), none, .mv (.c (.bool false))⟩])
  (.seq (.reg [2] [⟨(some 3), none, .mv (.t 0)⟩,
       ⟨(some 4), none, .call (.c (.fn 61)) [(.t 3)]⟩,
       ⟨(some 5), none, .mv (.t 4)⟩,
       ⟨(some 6), (some (5, false)), .mv (.t 0)⟩,
       ⟨(some 7), (some (5, false)), .call (.c (.fn 65)) [(.t 6)]⟩,
       ⟨(some 8), none, .pick (.t 5) (.c (.bool true)) (.t 7)⟩,
       ⟨(some 9), none, .mv (.t 8)⟩,
       ⟨(some 10), (some (9, false)), .mv (.t 0)⟩,
       ⟨(some 11), (some (9, false)), .call (.c (.fn 63)) [(.t 10)]⟩,
       ⟨(some 12), none, .pick (.t 9) (.c (.bool true)) (.t 11)⟩,
       ⟨(some 2), none, .mv (.t 12)⟩])
  .ret))⟩
theorem c66 : compF Tryd.prog [0, 2] Tryd.f66 = some a66 := by kernel_rfl

/- (*bushel/lex.cutter).text -/
def a68 : AFun := ⟨109, [.tmp 2, .tmp 3], (.seq (.reg [2, 3] [⟨(some 2), none, .mv (.c (.str []))⟩,
       ⟨(some 3), none, .mv (.c .inil)⟩])
  (.seq (.reg [4] [⟨(some 4), none, .mv (.c .snil)⟩])
  (.seq (.block 0 (.loop (.seq (.seq (.any [15] [(⟨(some 6), none, .mv (.t 0)⟩, true),
           (⟨(some 7), none, .nilck (.t 6)⟩, true),
           (⟨(some 8), none, .faddr 1 (.t 7)⟩, true),
           (⟨(some 9), none, .load none (.t 8)⟩, true),
           (⟨(some 10), none, .mv (.t 0)⟩, false),
           (⟨(some 11), none, .nilck (.t 10)⟩, false),
           (⟨(some 12), none, .faddr 0 (.t 11)⟩, false),
           (⟨(some 13), none, .load none (.t 12)⟩, false),
           (⟨(some 14), none, .len .sl (.t 13)⟩, false),
           (⟨(some 15), none, .bin .lss .other false (.t 9) (.t 14)⟩, true)])
      (.cond (.t 15) .skip
      (.exit 0)))
     (.seq (.block 1 (.seq (.any [5] [(⟨(some 23), none, .mv (.t 0)⟩, true),
            (⟨(some 24), none, .nilck (.t 23)⟩, true),
            (⟨(some 25), none, .faddr 0 (.t 24)⟩, true),
            (⟨(some 26), none, .load none (.t 25)⟩, true),
            (⟨(some 27), none, .mv (.t 0)⟩, false),
            (⟨(some 28), none, .nilck (.t 27)⟩, false),
            (⟨(some 29), none, .faddr 1 (.t 28)⟩, false),
            (⟨(some 30), none, .load none (.t 29)⟩, false),
            (⟨(some 31), none, .iaddr none (.t 26) (.t 30)⟩, true),
            (⟨(some 32), none, .load none (.t 31)⟩, true),
            (⟨(some 5), none, .mv (.t 32)⟩, true)])
       (.seq (.block 2 (.seq (.reg [33] [⟨(some 34), none, .mv (.t 5)⟩,
              ⟨(some 35), none, .bin .eql .other true (.t 34) (.c (.int .u8 34))⟩,
              ⟨(some 33), none, .mv (.t 35)⟩])
         (.cond (.t 33) (.seq (.reg [] [⟨(some 36), none, .mv (.t 0)⟩,
                ⟨(some 37), none, .nilck (.t 36)⟩,
                ⟨(some 38), none, .faddr 1 (.t 37)⟩,
                ⟨(some 39), none, .load none (.t 38)⟩,
                ⟨(some 40), none, .bin .add .other true (.t 39) (.c (.int .i64 1))⟩,
                ⟨(some 41), none, .nilck (.t 36)⟩,
                ⟨(some 42), none, .faddr 1 (.t 41)⟩,
                ⟨none, none, .store 1 (.t 42) (.t 40)⟩])
           (.seq (.reg [2, 3] [⟨(some 43), none, .mv (.t 4)⟩,
                ⟨(some 44), none, .conv .ofBytes (.t 43)⟩,
                ⟨(some 2), none, .mv (.t 44)⟩,
                ⟨(some 3), none, .mv (.c .inil)⟩])
           .ret))
         (.seq (.reg [45] [⟨(some 46), none, .mv (.t 5)⟩,
              ⟨(some 47), none, .call (.c (.fn 25)) [(.t 46)]⟩,
              ⟨(some 48), none, .un .not (.t 47)⟩,
              ⟨(some 45), none, .mv (.t 48)⟩])
         (.cond (.t 45) (.seq (.reg [2, 3] [⟨(some 49), none, .mv (.t 0)⟩,
                ⟨(some 50), none, .nilck (.t 49)⟩,
                ⟨(some 51), none, .faddr 1 (.t 50)⟩,
                ⟨(some 52), none, .load none (.t 51)⟩,
                ⟨(some 53), none, .call (.c (.fn 60)) [(.t 52), (.c (.int .i64 2))]⟩,
                ⟨(some 2), none, .mv (.c (.str []))⟩,
                ⟨(some 3), none, .mv (.t 53)⟩])
           .ret)
         (.seq (.reg [54] [⟨(some 55), none, .mv (.t 5)⟩,
              ⟨(some 56), none, .bin .eql .other true (.t 55) (.c (.int .u8 92))⟩,
              ⟨(some 54), none, .mv (.t 56)⟩])
         (.cond (.t 54) (.seq (.reg [] [⟨(some 57), none, .mv (.t 0)⟩,
                ⟨(some 58), none, .nilck (.t 57)⟩,
                ⟨(some 59), none, .faddr 1 (.t 58)⟩,
                ⟨(some 60), none, .load none (.t 59)⟩,
                ⟨(some 61), none, .bin .add .other true (.t 60) (.c (.int .i64 1))⟩,
                ⟨(some 62), none, .nilck (.t 57)⟩,
                ⟨(some 63), none, .faddr 1 (.t 62)⟩,
                ⟨none, none, .store 1 (.t 63) (.t 61)⟩])
           (.seq (.seq (.any [73] [(⟨(some 64), none, .mv (.t 0)⟩, true),
                 (⟨(some 65), none, .nilck (.t 64)⟩, true),
                 (⟨(some 66), none, .faddr 1 (.t 65)⟩, true),
                 (⟨(some 67), none, .load none (.t 66)⟩, true),
                 (⟨(some 68), none, .mv (.t 0)⟩, false),
                 (⟨(some 69), none, .nilck (.t 68)⟩, false),
                 (⟨(some 70), none, .faddr 0 (.t 69)⟩, false),
                 (⟨(some 71), none, .load none (.t 70)⟩, false),
                 (⟨(some 72), none, .len .sl (.t 71)⟩, false),
                 (⟨(some 73), none, .bin .eql .other false (.t 67) (.t 72)⟩, true)])
            (.cond (.t 73) (.seq (.reg [2, 3] [⟨(some 74), none, .mv (.t 0)⟩,
                   ⟨(some 75), none, .nilck (.t 74)⟩,
                   ⟨(some 76), none, .faddr 1 (.t 75)⟩,
                   ⟨(some 77), none, .load none (.t 76)⟩,
                   ⟨(some 78), none, .call (.c (.fn 60)) [(.t 77), (.c (.int .i64 2))]⟩,
                   ⟨(some 2), none, .mv (.c (.str []))⟩,
                   ⟨(some 3), none, .mv (.t 78)⟩])
              .ret)
            .skip))
           (.seq (.any [5] [(⟨(some 79), none, .mv (.t 0)⟩, true),
                (⟨(some 80), none, .nilck (.t 79)⟩, true),
                (⟨(some 81), none, .faddr 0 (.t 80)⟩, true),
                (⟨(some 82), none, .load none (.t 81)⟩, true),
                (⟨(some 83), none, .mv (.t 0)⟩, false),
                (⟨(some 84), none, .nilck (.t 83)⟩, false),
                (⟨(some 85), none, .faddr 1 (.t 84)⟩, false),
                (⟨(some 86), none, .load none (.t 85)⟩, false),
                (⟨(some 87), none, .iaddr none (.t 82) (.t 86)⟩, true),
                (⟨(some 88), none, .load none (.t 87)⟩, true),
                (⟨(some 5), none, .mv (.t 88)⟩, true)])
           (.seq (.reg [89] [⟨(some 89), none, .mv (.t 5)⟩])
           (.block 3 (.seq (.reg [95] [⟨(some 96), none, .bin .eql .other true (.t 89) (.c (.int .u8 110))⟩,
                 ⟨(some 95), none, .mv (.t 96)⟩])
            (.cond (.t 95) (.reg [5] [⟨(some 5), none, .mv (.c (.int .u8 10))⟩])
            (.seq (.seq (.reg [97] [⟨(some 98), none, .bin .eql .other true (.t 89) (.c (.int .u8 34))⟩,
                  ⟨(some 97), none, .mv (.t 98)⟩])
             (.cond (.t 97) .skip
             (.reg [97] [⟨(some 99), none, .bin .eql .other true (.t 89) (.c (.int .u8 92))⟩,
                 ⟨(some 97), none, .mv (.t 99)⟩])))
            (.cond (.t 97) .skip
            (.seq (.reg [2, 3] [⟨(some 90), none, .mv (.t 0)⟩,
                 ⟨(some 91), none, .nilck (.t 90)⟩,
                 ⟨(some 92), none, .faddr 1 (.t 91)⟩,
                 ⟨(some 93), none, .load none (.t 92)⟩,
                 ⟨(some 94), none, .call (.c (.fn 60)) [(.t 93), (.c (.int .i64 2))]⟩,
                 ⟨(some 2), none, .mv (.c (.str []))⟩,
                 ⟨(some 3), none, .mv (.t 94)⟩])
            .ret))))))))))
         .skip)))))))
       (.reg [4] [⟨(some 100), none, .mv (.t 4)⟩,
           ⟨(some 101), none, .mv (.t 5)⟩,
           ⟨(some 102), none, .mksl none [(.t 101)]⟩,
           ⟨(some 103), none, .append none 1 (.t 100) (.t 102)⟩,
           ⟨(some 4), none, .mv (.t 103)⟩]))))
     (.reg [] [⟨(some 16), none, .mv (.t 0)⟩,
         ⟨(some 17), none, .nilck (.t 16)⟩,
         ⟨(some 18), none, .faddr 1 (.t 17)⟩,
         ⟨(some 19), none, .load none (.t 18)⟩,
         ⟨(some 20), none, .bin .add .other true (.t 19) (.c (.int .i64 1))⟩,
         ⟨(some 21), none, .nilck (.t 16)⟩,
         ⟨(some 22), none, .faddr 1 (.t 21)⟩,
         ⟨none, none, .store 1 (.t 22) (.t 20)⟩])))))
  (.seq (.reg [2, 3] [⟨(some 104), none, .mv (.t 0)⟩,
       ⟨(some 105), none, .nilck (.t 104)⟩,
       ⟨(some 106), none, .faddr 1 (.t 105)⟩,
       ⟨(some 107), none, .load none (.t 106)⟩,
       ⟨(some 108), none, .call (.c (.fn 60)) [(.t 107), (.c (.int .i64 2))]⟩,
       ⟨(some 2), none, .mv (.c (.str []))⟩,
       ⟨(some 3), none, .mv (.t 108)⟩])
  .ret))))⟩
theorem c68 : compF Tryd.prog [0, 2, 3, 4, 5, 15, 33, 45, 54, 73, 89, 95, 97] Tryd.f68 = some a68 := by kernel_rfl

/- (*bushel/lex.cutter).sign -/
def a69 : AFun := ⟨45, [.tmp 2], (.seq (.reg [2] [⟨(some 2), none, .mv (.c (.str []))⟩])
  (.seq (.seq (.reg [5, 6, 7] [⟨(some 5), none, .call (.c (.fn 72)) []⟩,
        ⟨(some 6), none, .len .sl (.t 5)⟩,
        ⟨(some 7), none, .mv (.c (.int .i64 0))⟩])
   (.block 0 (.loop (.seq (.reg [8] [⟨(some 8), none, .bin .lss .other false (.t 7) (.t 6)⟩])
     (.seq (.cond (.t 8) .skip
      (.exit 0))
     (.seq (.block 1 (.seq (.reg [4] [⟨(some 9), none, .iaddr none (.t 5) (.t 7)⟩,
            ⟨(some 10), none, .load none (.t 9)⟩,
            ⟨(some 4), none, .mv (.t 10)⟩])
       (.seq (.any [33] [(⟨(some 11), none, .mv (.t 0)⟩, true),
            (⟨(some 12), none, .nilck (.t 11)⟩, true),
            (⟨(some 13), none, .faddr 0 (.t 12)⟩, true),
            (⟨(some 14), none, .load none (.t 13)⟩, true),
            (⟨(some 15), none, .mv (.t 0)⟩, false),
            (⟨(some 16), none, .nilck (.t 15)⟩, false),
            (⟨(some 17), none, .faddr 1 (.t 16)⟩, false),
            (⟨(some 18), none, .load none (.t 17)⟩, false),
            (⟨(some 19), none, .mv (.t 0)⟩, false),
            (⟨(some 20), none, .nilck (.t 19)⟩, false),
            (⟨(some 21), none, .faddr 1 (.t 20)⟩, false),
            (⟨(some 22), none, .load none (.t 21)⟩, false),
            (⟨(some 23), none, .bin .add .other true (.t 22) (.c (.int .i64 2))⟩, false),
            (⟨(some 24), none, .mv (.t 0)⟩, false),
            (⟨(some 25), none, .nilck (.t 24)⟩, false),
            (⟨(some 26), none, .faddr 0 (.t 25)⟩, false),
            (⟨(some 27), none, .load none (.t 26)⟩, false),
            (⟨(some 28), none, .len .sl (.t 27)⟩, false),
            (⟨(some 29), none, .min [(.t 23), (.t 28)]⟩, false),
            (⟨(some 30), none, .slice (.sl none) (.t 14) (some (.t 18)) (some (.t 29)) none⟩, true),
            (⟨(some 31), none, .conv .ofBytes (.t 30)⟩, true),
            (⟨(some 32), none, .mv (.t 4)⟩, false),
            (⟨(some 33), none, .call (.c (.fn 73)) [(.t 31), (.t 32)]⟩, true)])
       (.cond (.t 33) (.seq (.reg [] [⟨(some 34), none, .mv (.t 0)⟩,
              ⟨(some 35), none, .nilck (.t 34)⟩,
              ⟨(some 36), none, .faddr 1 (.t 35)⟩,
              ⟨(some 37), none, .load none (.t 36)⟩,
              ⟨(some 38), none, .mv (.t 4)⟩,
              ⟨(some 39), none, .len .str (.t 38)⟩,
              ⟨(some 40), none, .bin .add .other false (.t 37) (.t 39)⟩,
              ⟨(some 41), none, .nilck (.t 34)⟩,
              ⟨(some 42), none, .faddr 1 (.t 41)⟩,
              ⟨none, none, .store 1 (.t 42) (.t 40)⟩])
         (.seq (.reg [2] [⟨(some 43), none, .mv (.t 4)⟩,
              ⟨(some 2), none, .mv (.t 43)⟩])
         .ret))
       .skip))))
     (.reg [7] [⟨(some 44), none, .bin .add .other true (.t 7) (.c (.int .i64 1))⟩,
         ⟨(some 7), none, .mv (.t 44)⟩])))))))
  (.seq (.reg [2] [⟨(some 2), none, .mv (.c (.str []))⟩])
  .ret)))⟩
theorem c69 : compF Tryd.prog [0, 2, 4, 5, 6, 7, 8, 33] Tryd.f69 = some a69 := by kernel_rfl

/- slices.Index[[]string,string] -/
def a53 : AFun := ⟨19, [.tmp 4], (.seq (.reg [4] [⟨(some 4), none, .mv (.c (.int .i64 0))⟩])
  (.seq (.seq (.reg [7, 8] [⟨(some 6), none, .mv (.t 0)⟩,
        ⟨(some 7), none, .len .sl (.t 6)⟩,
        ⟨(some 8), none, .mv (.c (.int .i64 0))⟩])
   (.block 0 (.loop (.seq (.reg [9] [⟨(some 9), none, .bin .lss .other false (.t 8) (.t 7)⟩])
     (.seq (.cond (.t 9) .skip
      (.exit 0))
     (.seq (.block 1 (.seq (.reg [5] [⟨(some 10), none, .mv (.t 8)⟩,
            ⟨(some 5), none, .mv (.t 10)⟩])
       (.seq (.reg [16] [⟨(some 11), none, .mv (.t 1)⟩,
            ⟨(some 12), none, .mv (.t 0)⟩,
            ⟨(some 13), none, .mv (.t 5)⟩,
            ⟨(some 14), none, .iaddr none (.t 12) (.t 13)⟩,
            ⟨(some 15), none, .load none (.t 14)⟩,
            ⟨(some 16), none, .bin .eql .other false (.t 11) (.t 15)⟩])
       (.cond (.t 16) (.seq (.reg [4] [⟨(some 17), none, .mv (.t 5)⟩,
              ⟨(some 4), none, .mv (.t 17)⟩])
         .ret)
       .skip))))
     (.reg [8] [⟨(some 18), none, .bin .add .other true (.t 8) (.c (.int .i64 1))⟩,
         ⟨(some 8), none, .mv (.t 18)⟩])))))))
  (.seq (.reg [4] [⟨(some 4), none, .mv (.c (.int .i64 (-1)))⟩])
  .ret)))⟩
theorem c53 : compF Tryd.prog [0, 1, 4, 5, 7, 8, 9, 16] Tryd.f53 = some a53 := by kernel_rfl

/- bushel/lex.signs -/
def a72 : AFun := ⟨2, [.tmp 0], (.seq (.reg [0] [⟨(some 0), none, .mv (.c .snil)⟩])
  (.seq (.reg [0] [⟨(some 1), none, .mksl none [(.c (.str [45, 62])), (.c (.str [61, 61])), (.c (.str [58, 61])), (.c (.str [40])), (.c (.str [41])), (.c (.str [123])), (.c (.str [125])), (.c (.str [61])), (.c (.str [46])), (.c (.str [44])), (.c (.str [124])), (.c (.str [92])), (.c (.str [43])), (.c (.str [45])), (.c (.str [42])), (.c (.str [47])), (.c (.str [60])), (.c (.str [94])), (.c (.str [35])), (.c (.str [33])), (.c (.str [59]))]⟩,
       ⟨(some 0), none, .mv (.t 1)⟩])
  .ret))⟩
theorem c72 : compF Tryd.prog [0] Tryd.f72 = some a72 := by kernel_rfl

/- strings.HasPrefix -/
def a73 : AFun := ⟨8, [.tmp 4], (.seq (.reg [4] [⟨(some 4), none, .mv (.c (.bool false))⟩])
  (.seq (.reg [4] [⟨(some 5), none, .mv (.t 0)⟩,
       ⟨(some 6), none, .mv (.t 1)⟩,
       ⟨(some 7), none, .call (.c (.fn 79)) [(.t 5), (.t 6)]⟩,
       ⟨(some 4), none, .mv (.t 7)⟩])
  .ret))⟩
theorem c73 : compF Tryd.prog [0, 1, 4] Tryd.f73 = some a73 := by kernel_rfl

/- internal/stringslite.HasPrefix -/
def a79 : AFun := ⟨18, [.tmp 4], (.seq (.reg [4] [⟨(some 4), none, .mv (.c (.bool false))⟩])
  (.seq (.reg [4] [⟨(some 5), none, .mv (.t 0)⟩,
       ⟨(some 6), none, .len .str (.t 5)⟩,
       ⟨(some 7), none, .mv (.t 1)⟩,
       ⟨(some 8), none, .len .str (.t 7)⟩,
       ⟨(some 9), none, .bin .geq .other false (.t 6) (.t 8)⟩,
       ⟨(some 10), none, .mv (.t 9)⟩,
       ⟨(some 11), (some (10, true)), .mv (.t 0)⟩,
       ⟨(some 12), (some (10, true)), .mv (.t 1)⟩,
       ⟨(some 13), (some (10, true)), .len .str (.t 12)⟩,
       ⟨(some 14), (some (10, true)), .slice .str (.t 11) none (some (.t 13)) none⟩,
       ⟨(some 15), (some (10, true)), .mv (.t 1)⟩,
       ⟨(some 16), (some (10, true)), .bin .eql .other false (.t 14) (.t 15)⟩,
       ⟨(some 17), none, .pick (.t 10) (.t 16) (.c (.bool false))⟩,
       ⟨(some 4), none, .mv (.t 17)⟩])
  .ret))⟩
theorem c79 : compF Tryd.prog [0, 1, 4] Tryd.f79 = some a79 := by kernel_rfl

end Go.Proofs.YtpdeaekmgljeaaaDoor

/-
  Lexer: what bytes are. (Own work.)
-/
set_option linter.unusedVariables false
set_option linter.unusedSimpArgs false
namespace Go.Proofs.YtpdeaekmgljeaaaDoor
open Go Go.Abs

def lowB (c : UInt8) : Bool := decide (97 ≤ c.toNat) && decide (c.toNat ≤ 122)
def uppB (c : UInt8) : Bool := decide (65 ≤ c.toNat) && decide (c.toNat ≤ 90)
def digB (c : UInt8) : Bool := decide (48 ≤ c.toNat) && decide (c.toNat ≤ 57)
def plaB (c : UInt8) : Bool := decide (32 ≤ c.toNat) && decide (c.toNat ≤ 126)
def blaB (c : UInt8) : Bool := decide (c.toNat = 32) || (decide (c.toNat = 10) || decide (c.toNat = 9))
def vB (c : UInt8) : D := .v (.int .u8 c.toNat)
theorem k_Lower {c : UInt8} {σ : Sg} : ACalls Tryd.prog 61 [vB c] σ fun r σ' => r = .v (.bool (lowB c)) ∧ σ' = σ := by
  unfold vB
  refine acalls_fit Tryd.func61 (by kernel_rfl) c61 rfl (by simp [a61]) fun hf => ?_
  clear hf
  simp -implicitDefEqProofs (maxSteps := 2000000) (disch := omega) [-getElem?_pos, a61]
  repeat' (first
    | (refine And.intro (by omega) ?_)
    | (refine Br.mk (fun hb => ?_) (fun hb => ?_) <;> simp -implicitDefEqProofs (maxSteps := 2000000) (disch := omega) [-getElem?_pos, hb]))
  all_goals exact .fin _ ⟨by refine congrArg (fun b => D.v (V.bool b)) ?_; rw [Bool.eq_iff_iff]; simp [lowB]; try omega, rfl⟩ (.refl _)
theorem k_Upper {c : UInt8} {σ : Sg} : ACalls Tryd.prog 65 [vB c] σ fun r σ' => r = .v (.bool (uppB c)) ∧ σ' = σ := by
  unfold vB
  refine acalls_fit Tryd.func65 (by kernel_rfl) c65 rfl (by simp [a65]) fun hf => ?_
  clear hf
  simp -implicitDefEqProofs (maxSteps := 2000000) (disch := omega) [-getElem?_pos, a65]
  repeat' (first
    | (refine And.intro (by omega) ?_)
    | (refine Br.mk (fun hb => ?_) (fun hb => ?_) <;> simp -implicitDefEqProofs (maxSteps := 2000000) (disch := omega) [-getElem?_pos, hb]))
  all_goals exact .fin _ ⟨by refine congrArg (fun b => D.v (V.bool b)) ?_; rw [Bool.eq_iff_iff]; simp [uppB]; try omega, rfl⟩ (.refl _)
theorem k_Digit {c : UInt8} {σ : Sg} : ACalls Tryd.prog 63 [vB c] σ fun r σ' => r = .v (.bool (digB c)) ∧ σ' = σ := by
  unfold vB
  refine acalls_fit Tryd.func63 (by kernel_rfl) c63 rfl (by simp [a63]) fun hf => ?_
  clear hf
  simp -implicitDefEqProofs (maxSteps := 2000000) (disch := omega) [-getElem?_pos, a63]
  repeat' (first
    | (refine And.intro (by omega) ?_)
    | (refine Br.mk (fun hb => ?_) (fun hb => ?_) <;> simp -implicitDefEqProofs (maxSteps := 2000000) (disch := omega) [-getElem?_pos, hb]))
  all_goals exact .fin _ ⟨by refine congrArg (fun b => D.v (V.bool b)) ?_; rw [Bool.eq_iff_iff]; simp [digB]; try omega, rfl⟩ (.refl _)
theorem k_Plain {c : UInt8} {σ : Sg} : ACalls Tryd.prog 25 [vB c] σ fun r σ' => r = .v (.bool (plaB c)) ∧ σ' = σ := by
  unfold vB
  refine acalls_fit Tryd.func25 (by kernel_rfl) c25 rfl (by simp [a25]) fun hf => ?_
  clear hf
  simp -implicitDefEqProofs (maxSteps := 2000000) (disch := omega) [-getElem?_pos, a25]
  repeat' (first
    | (refine And.intro (by omega) ?_)
    | (refine Br.mk (fun hb => ?_) (fun hb => ?_) <;> simp -implicitDefEqProofs (maxSteps := 2000000) (disch := omega) [-getElem?_pos, hb]))
  all_goals exact .fin _ ⟨by refine congrArg (fun b => D.v (V.bool b)) ?_; rw [Bool.eq_iff_iff]; simp [plaB]; try omega, rfl⟩ (.refl _)
theorem k_Blank {c : UInt8} {σ : Sg} : ACalls Tryd.prog 56 [vB c] σ fun r σ' => r = .v (.bool (blaB c)) ∧ σ' = σ := by
  unfold vB
  refine acalls_fit Tryd.func56 (by kernel_rfl) c56 rfl (by simp [a56]) fun hf => ?_
  clear hf
  simp -implicitDefEqProofs (maxSteps := 2000000) (disch := omega) [-getElem?_pos, a56]
  repeat' (first
    | (refine And.intro (by omega) ?_)
    | (refine Br.mk (fun hb => ?_) (fun hb => ?_) <;> simp -implicitDefEqProofs (maxSteps := 2000000) (disch := omega) [-getElem?_pos, hb]))
  all_goals exact .fin _ ⟨by refine congrArg (fun b => D.v (V.bool b)) ?_; rw [Bool.eq_iff_iff]; simp [blaB]; try omega, rfl⟩ (.refl _)
theorem k_Next1 {c : UInt8} {σ : Sg} : ACalls Tryd.prog 62 [vB c] σ fun r σ' => r = .v (.bool (lowB c || digB c)) ∧ σ' = σ := by
  have c1 := fun σ => k_Lower (c := c) (σ := σ)
  have c2 := fun σ => k_Digit (c := c) (σ := σ)
  unfold vB at c1 c2 ⊢
  refine acalls_fit Tryd.func62 (by kernel_rfl) c62 rfl (by simp [a62]) fun hf => ?_
  clear hf
  simp -implicitDefEqProofs (maxSteps := 2000000) (disch := omega) [-getElem?_pos, a62]
  refine (c1 _).then fun r hr => ?_
  subst hr
  cases h1 : lowB c
  · simp -implicitDefEqProofs (maxSteps := 2000000) (disch := omega) [-getElem?_pos]
    refine (c2 _).then fun r hr => ?_
    subst hr
    simp -implicitDefEqProofs (maxSteps := 2000000) (disch := omega) [-getElem?_pos]
    exact .fin _ ⟨by simp, rfl⟩ (.refl _)
  · simp -implicitDefEqProofs (maxSteps := 2000000) (disch := omega) [-getElem?_pos]
    exact .fin _ ⟨by simp, rfl⟩ (.refl _)
theorem k_Next2 {c : UInt8} {σ : Sg} : ACalls Tryd.prog 66 [vB c] σ fun r σ' => r = .v (.bool (lowB c || (uppB c || digB c))) ∧ σ' = σ := by
  have c1 := fun σ => k_Lower (c := c) (σ := σ)
  have c2 := fun σ => k_Upper (c := c) (σ := σ)
  have c3 := fun σ => k_Digit (c := c) (σ := σ)
  unfold vB at c1 c2 c3 ⊢
  refine acalls_fit Tryd.func66 (by kernel_rfl) c66 rfl (by simp [a66]) fun hf => ?_
  clear hf
  simp -implicitDefEqProofs (maxSteps := 2000000) (disch := omega) [-getElem?_pos, a66]
  refine (c1 _).then fun r hr => ?_
  subst hr
  cases h1 : lowB c
  · simp -implicitDefEqProofs (maxSteps := 2000000) (disch := omega) [-getElem?_pos]
    refine (c2 _).then fun r hr => ?_
    subst hr
    cases h2 : uppB c
    · simp -implicitDefEqProofs (maxSteps := 2000000) (disch := omega) [-getElem?_pos]
      refine (c3 _).then fun r hr => ?_
      subst hr
      simp -implicitDefEqProofs (maxSteps := 2000000) (disch := omega) [-getElem?_pos]
      exact .fin _ ⟨by simp, rfl⟩ (.refl _)
    · simp -implicitDefEqProofs (maxSteps := 2000000) (disch := omega) [-getElem?_pos]
      exact .fin _ ⟨by simp, rfl⟩ (.refl _)
  · simp -implicitDefEqProofs (maxSteps := 2000000) (disch := omega) [-getElem?_pos]
    exact .fin _ ⟨by simp, rfl⟩ (.refl _)
end Go.Proofs.YtpdeaekmgljeaaaDoor

/-
  Lexer: bytes passed by; a text's beginning. (Own work.)
-/
set_option linter.unusedVariables false
set_option linter.unusedSimpArgs false
namespace Go.Proofs.YtpdeaekmgljeaaaDoor
open Go Go.Abs

abbrev Str := List UInt8
@[reducible] def vS (l : List Str) : V := .sl none false (l.map .str)
@[reducible] def vBs (b : Str) : V := .sl none false (bytesV b)
theorem k_HasP2 {a b : Str} {σ : Sg} : ACalls Tryd.prog 79 [.v (.str a), .v (.str b)] σ fun r σ' => r = .v (.bool (decide (a.take b.length = b))) ∧ σ' = σ := by
  refine acalls_fit Tryd.func79 (by kernel_rfl) c79 rfl (by simp [a79]) fun hf => ?_
  simp at hf
  simp -implicitDefEqProofs (maxSteps := 2000000) (disch := omega) [-getElem?_pos, a79]
  refine .mk (fun h => ?_) fun h => ?_
  · simp -implicitDefEqProofs (maxSteps := 2000000) (disch := omega) [-getElem?_pos]
    exact ⟨by omega, .fin _ ⟨by refine congrArg (fun b => D.v (V.bool b)) ?_; rw [Bool.eq_iff_iff]; simp, rfl⟩ (.refl _)⟩
  · simp -implicitDefEqProofs (maxSteps := 2000000) (disch := omega) [-getElem?_pos]
    refine .fin _ ⟨?_, rfl⟩ (.refl _)
    rw [decide_eq_false]
    intro he
    have := congrArg List.length he
    simp at this
    omega
theorem k_HasP {a b : Str} {σ : Sg} : ACalls Tryd.prog 73 [.v (.str a), .v (.str b)] σ fun r σ' => r = .v (.bool (decide (a.take b.length = b))) ∧ σ' = σ := by
  refine acalls_fit Tryd.func73 (by kernel_rfl) c73 rfl (by simp [a73]) fun hf => ?_
  clear hf
  simp -implicitDefEqProofs (maxSteps := 2000000) (disch := omega) [-getElem?_pos, a73]
  refine k_HasP2.then fun r hr => ?_
  subst hr
  simp -implicitDefEqProofs (maxSteps := 2000000) (disch := omega) [-getElem?_pos]
  exact .fin _ ⟨rfl, rfl⟩ (.refl _)
/-- Where bytes end that are so. -/
def spanE (q : UInt8 → Bool) (b : Str) (i : Nat) : Nat := i + ((b.drop i).takeWhile q).length
theorem spanE_ge (q : UInt8 → Bool) (b : Str) (i : Nat) : i ≤ spanE q b i := by unfold spanE; omega
theorem spanE_le {q : UInt8 → Bool} {b : Str} {i : Nat} (h : i ≤ b.length) : spanE q b i ≤ b.length := by
  unfold spanE
  have h1 : ((b.drop i).takeWhile q).length ≤ (b.drop i).length := (List.takeWhile_prefix q).length_le
  rw [List.length_drop] at h1
  omega
theorem drop_at {b : Str} {i : Nat} {c : UInt8} (h : b[i]? = some c) : b.drop i = c :: b.drop (i + 1) := by
  obtain ⟨hl, rfl⟩ := List.getElem?_eq_some_iff.1 h
  exact List.drop_eq_getElem_cons hl
theorem spanE_hit {q : UInt8 → Bool} {b : Str} {i : Nat} {c : UInt8} (h : b[i]? = some c) (hq : q c = true) : spanE q b i = spanE q b (i + 1) := by
  unfold spanE
  rw [drop_at h, List.takeWhile_cons_of_pos hq]
  simp
  omega
theorem spanE_miss {q : UInt8 → Bool} {b : Str} {i : Nat} {c : UInt8} (h : b[i]? = some c) (hq : q c = false) : spanE q b i = i := by
  unfold spanE
  rw [drop_at h, List.takeWhile_cons_of_neg (by simp [hq])]
  rfl
theorem spanE_end {q : UInt8 → Bool} {b : Str} {i : Nat} (h : b.length ≤ i) : spanE q b i = i := by
  unfold spanE
  rw [List.drop_eq_nil_of_le h]
  rfl
def passS (q : UInt8 → Bool) (b : Str) (i : Nat) : Str := (b.drop i).takeWhile q
theorem passS_eq {q : UInt8 → Bool} {b : Str} {i : Nat} : (b.take (spanE q b i)).drop i = passS q b i := by
  unfold passS spanE
  rw [List.drop_take, Nat.add_sub_cancel_left]
  generalize b.drop i = l
  induction l with
  | nil => rfl
  | cons x l ih =>
    cases hx : q x with
    | true => rw [List.takeWhile_cons_of_pos hx, List.length_cons, List.take_succ_cons, ih]
    | false => rw [List.takeWhile_cons_of_neg (by simp [hx])]; rfl
/-- The cutter. -/
@[reducible] def cut (b : Str) (i : Nat) : Ob := .cells [.v (vBs b), .v (.int .i64 i)]
theorem k_Pass {fd : D} {q : UInt8 → Bool} {b : Str} {i p : Nat} {σ : Sg} (hp : σ.objs[p]? = some (cut b i)) (hi : i ≤ b.length) (hb : b.length ≤ 1048576) (hfd : ∀ c (τ : Sg), WCall Tryd.prog fd [vB c] τ fun r σ' => r = .v (.bool (q c)) ∧ σ' = τ) (hl : ∀ n k, fd.low n k) :
    ACalls Tryd.prog 55 [.ptr p 0, fd] σ fun r σ' => r = .v (.str (passS q b i)) ∧ σ' = ⟨σ.objs.set p (cut b (spanE q b i)), σ.toks⟩ := by
  have hpl := (List.getElem?_eq_some_iff.1 hp).1
  have hset : σ.objs.set p (cut b i) = σ.objs := by
    apply List.ext_getElem?
    intro j
    by_cases e : p = j
    · subst e
      rw [List.getElem?_set_self hpl]
      exact hp.symm
    · rw [List.getElem?_set_ne e]
  unfold vB at hfd
  refine acalls_fit Tryd.func55 (by kernel_rfl) c55 rfl (by simp [a55]) fun hf => ?_
  clear hf
  simp -implicitDefEqProofs (maxSteps := 2000000) (disch := omega) [-getElem?_pos, a55, hp]
  refine W_loop (α := Nat) i (fun k => b.length - k) (fun k => ⟨[(0, .ptr p 0), (1, fd), (5, .v (.int .i64 i))], ⟨σ.objs.set p (cut b k), σ.toks⟩⟩) (fun k => k ≤ b.length ∧ i ≤ k ∧ spanE q b i = spanE q b k) (.eq2 (by rw [hset]) (by simp)) ⟨hi, by omega, rfl⟩ fun k ⟨hk, hik, he⟩ => ?_
  simp -implicitDefEqProofs (maxSteps := 2000000) (disch := omega) [-getElem?_pos, hpl]
  refine .mk (fun h => ?_) fun h => ?_
  · simp -implicitDefEqProofs (maxSteps := 2000000) (disch := omega) [-getElem?_pos, hpl]
    refine ⟨by omega, fun c hc => ?_⟩
    refine (hfd c _).then fun r hr => ?_
    subst hr
    cases hq : q c with
    | true =>
      simp -implicitDefEqProofs (maxSteps := 2000000) (disch := omega) [-getElem?_pos, hpl]
      exact ⟨k + 1, ⟨by omega, by omega, by rw [he, spanE_hit hc hq]⟩, by show b.length - (k + 1) < b.length - k; omega, .eq2 (by simp [cut]) (by simp)⟩
    | false =>
      have he2 := he.trans (spanE_miss hc hq)
      have hps := passS_eq (q := q) (b := b) (i := i)
      rw [he2] at hps ⊢
      simp -implicitDefEqProofs (maxSteps := 2000000) (disch := omega) [-getElem?_pos, hpl]
      exact ⟨hik, hk, .finS _ ⟨σ.objs.set p (cut b k), σ.toks⟩ ⟨by rw [hps], rfl⟩ (.refl _) (low_set (by simp [cut])) (by simp) (by simp) (by simp) (by simp) (by simp)⟩
  · have he2 := he.trans (spanE_end (by omega))
    have hps := passS_eq (q := q) (b := b) (i := i)
    rw [he2] at hps ⊢
    simp -implicitDefEqProofs (maxSteps := 2000000) (disch := omega) [-getElem?_pos, hpl]
    exact ⟨hik, hk, .finS _ ⟨σ.objs.set p (cut b k), σ.toks⟩ ⟨by rw [hps], rfl⟩ (.refl _) (low_set (by simp [cut])) (by simp) (by simp) (by simp) (by simp) (by simp)⟩
end Go.Proofs.YtpdeaekmgljeaaaDoor

/-
  Lexer: words and signs. (Own work.)
-/
set_option linter.unusedVariables false
set_option linter.unusedSimpArgs false
namespace Go.Proofs.YtpdeaekmgljeaaaDoor
open Go Go.Abs

theorem drop_cons {α : Type} {l : List α} {i : Nat} {x : α} (h : l[i]? = some x) : l.drop i = x :: l.drop (i + 1) := by
  obtain ⟨hlt, he⟩ := List.getElem?_eq_some_iff.1 h
  rw [List.drop_eq_getElem_cons hlt, he]
theorem k_IndexStr {l : List Str} {s : Str} {σ : Sg} : ACalls Tryd.prog 53 [.v (vS l), .v (.str s)] σ fun r σ' => (∃ i : Int, r = .v (.int .i64 i) ∧ (0 ≤ i ↔ s ∈ l)) ∧ σ' = σ := by
  refine acalls_fit Tryd.func53 (by kernel_rfl) c53 rfl (by simp [a53]) fun hf => ?_
  simp at hf
  simp -implicitDefEqProofs (maxSteps := 2000000) (disch := omega) [-getElem?_pos, a53]
  refine W_loop (α := Nat) 0 (fun i => l.length - i) (fun i => ⟨[(0, .v (vS l)), (1, .v (.str s)), (7, .v (.int .i64 l.length)), (8, .v (.int .i64 i))], σ⟩) (fun i => i ≤ l.length ∧ (s ∈ l ↔ s ∈ l.drop i)) (.eq (by simp)) ⟨by simp, by simp⟩ fun i ⟨hi, he⟩ => ?_
  simp -implicitDefEqProofs (maxSteps := 2000000) (disch := omega) [-getElem?_pos]
  refine .mk (fun h => ?_) fun h => ?_
  · simp -implicitDefEqProofs (maxSteps := 2000000) (disch := omega) [-getElem?_pos]
    refine ⟨by omega, fun x hx => ?_⟩
    rw [drop_cons hx] at he
    refine .mk (fun hq => ?_) fun hq => ?_
    · simp -implicitDefEqProofs (maxSteps := 2000000) (disch := omega) [-getElem?_pos]
      exact .fin _ ⟨⟨i, rfl, by rw [he, hq]; simp⟩, rfl⟩ (.refl _)
    · simp -implicitDefEqProofs (maxSteps := 2000000) (disch := omega) [-getElem?_pos]
      refine ⟨i + 1, ⟨by omega, ?_⟩, by show l.length - (i + 1) < l.length - i; omega, .eq (by simp)⟩
      rw [he]
      simp [hq]
  · simp -implicitDefEqProofs (maxSteps := 2000000) (disch := omega) [-getElem?_pos]
    rw [List.drop_eq_nil_of_le (by omega)] at he
    exact .fin _ ⟨⟨-1, rfl, by rw [he]; simp⟩, rfl⟩ (.refl _)
theorem k_ContainsStr {l : List Str} {s : Str} {σ : Sg} : ACalls Tryd.prog 42 [.v (vS l), .v (.str s)] σ fun r σ' => r = .v (.bool (decide (s ∈ l))) ∧ σ' = σ := by
  refine acalls_fit Tryd.func42 (by kernel_rfl) c42 rfl (by simp [a42]) fun hf => ?_
  clear hf
  simp -implicitDefEqProofs (maxSteps := 2000000) (disch := omega) [-getElem?_pos, a42]
  refine k_IndexStr.then fun r hr => ?_
  obtain ⟨i, rfl, hi⟩ := hr
  simp -implicitDefEqProofs (maxSteps := 2000000) (disch := omega) [-getElem?_pos]
  exact .fin _ ⟨by simp [hi], rfl⟩ (.refl _)
def wordsL : List Str := [[102, 110], [108, 101, 116], [114, 101, 99], [105, 110], [109, 97, 116, 99, 104], [119, 105, 116, 104], [101, 110, 100], [105, 102], [116, 104, 101, 110], [101, 108, 115, 101], [114, 101, 102], [112, 114, 105, 110, 116], [115, 104, 111, 119], [114, 101, 97, 100]]
def onesL : List Str := [[40], [41], [123], [125], [61], [46], [44], [124], [92], [43], [45], [42], [47], [60], [94], [35], [33], [59]]
def signsL : List Str := [[45, 62], [61, 61], [58, 61]] ++ onesL
theorem k_Words {σ : Sg} : ACalls Tryd.prog 64 [] σ fun r σ' => r = .v (vS wordsL) ∧ σ' = σ := by
  refine acalls_fit Tryd.func64 (by kernel_rfl) c64 rfl (by simp [a64]) fun hf => ?_
  clear hf
  simp -implicitDefEqProofs (maxSteps := 2000000) (disch := omega) [-getElem?_pos, a64]
  exact .fin _ ⟨rfl, rfl⟩ VLe.lax.d
theorem k_Signs {σ : Sg} : ACalls Tryd.prog 72 [] σ fun r σ' => r = .v (vS signsL) ∧ σ' = σ := by
  refine acalls_fit Tryd.func72 (by kernel_rfl) c72 rfl (by simp [a72]) fun hf => ?_
  clear hf
  simp -implicitDefEqProofs (maxSteps := 2000000) (disch := omega) [-getElem?_pos, a72]
  exact .fin _ ⟨rfl, rfl⟩ VLe.lax.d
/-- The first sign that stands there. -/
def signF (b : Str) (i : Nat) (l : List Str) : Str := (l.find? fun s => decide (((b.drop i).take 2).take s.length = s)).getD []
theorem k_Sign {b : Str} {i p : Nat} {σ : Sg} (hp : σ.objs[p]? = some (cut b i)) (hi : i ≤ b.length) (hb : b.length ≤ 1048576) :
    ACalls Tryd.prog 69 [.ptr p 0] σ fun r σ' => r = .v (.str (signF b i signsL)) ∧ σ' = ⟨σ.objs.set p (cut b (i + (signF b i signsL).length)), σ.toks⟩ := by
  have hpl := (List.getElem?_eq_some_iff.1 hp).1
  have hset : σ.objs.set p (cut b i) = σ.objs := by
    apply List.ext_getElem?
    intro j
    by_cases e : p = j
    · subst e
      rw [List.getElem?_set_self hpl]
      exact hp.symm
    · rw [List.getElem?_set_ne e]
  have h2 : ∀ s ∈ signsL, s.length ≤ 2 := by decide
  have h20 : signsL.length = 21 := rfl
  have htwo : List.drop i (List.take (if (b.length : Int) < (i : Int) + 2 then (b.length : Int) else (i : Int) + 2).toNat b) = (b.drop i).take 2 := by
    split
    · rw [Int.toNat_natCast, List.take_length, List.take_of_length_le]
      rw [List.length_drop]
      omega
    · rw [show ((i : Int) + 2).toNat = i + 2 by omega, List.drop_take, Nat.add_sub_cancel_left]
  refine acalls_fit Tryd.func69 (by kernel_rfl) c69 rfl (by simp [a69]) fun hf => ?_
  clear hf
  simp -implicitDefEqProofs (maxSteps := 2000000) (disch := omega) [-getElem?_pos, a69]
  refine k_Signs.then fun r hr => ?_
  subst hr
  simp -implicitDefEqProofs (maxSteps := 2000000) (disch := omega) [-getElem?_pos]
  refine W_loop (α := Nat) 0 (fun k => 21 - k) (fun k => ⟨[(0, .ptr p 0), (2, .v (.str [])), (5, .v (vS signsL)), (6, .v (.int .i64 signsL.length)), (7, .v (.int .i64 k))], σ⟩) (fun k => k ≤ 21 ∧ signF b i signsL = signF b i (signsL.drop k)) (.eq (by simp)) ⟨by omega, rfl⟩ fun k ⟨hk, he⟩ => ?_
  simp -implicitDefEqProofs (maxSteps := 2000000) (disch := omega) [-getElem?_pos]
  refine .mk (fun h => ?_) fun h => ?_
  · simp -implicitDefEqProofs (maxSteps := 2000000) (disch := omega) [-getElem?_pos]
    refine ⟨by omega, fun x hx => ?_⟩
    have hx2 := h2 x (List.mem_of_getElem? hx)
    rw [drop_cons hx] at he
    simp -implicitDefEqProofs (maxSteps := 2000000) (disch := omega) [-getElem?_pos, hp, htwo]
    refine ⟨by split <;> omega, by split <;> omega, ?_⟩
    refine k_HasP.then fun r hr => ?_
    subst hr
    by_cases hq : ((b.drop i).take 2).take x.length = x
    · have he2 : signF b i signsL = x := by rw [he]; simp [signF, hq]
      rw [he2]
      simp -implicitDefEqProofs (maxSteps := 2000000) (disch := omega) [-getElem?_pos, hp, hq, hpl]
      refine .finS _ ⟨σ.objs.set p (cut b (i + x.length)), σ.toks⟩ ⟨rfl, rfl⟩ (.refl _) (low_set (by simp [cut])) (by simp) (by simp [cut]) (by simp) (by simp) (by simp)
    · simp -implicitDefEqProofs (maxSteps := 2000000) (disch := omega) [-getElem?_pos, hp, hq, hpl]
      exact ⟨k + 1, ⟨by omega, by rw [he]; simp [signF, hq]⟩, by show 21 - (k + 1) < 21 - k; omega, .eq (by simp)⟩
  · have he2 : signF b i signsL = [] := by rw [he, List.drop_eq_nil_of_le (by omega)]; rfl
    rw [he2]
    simp -implicitDefEqProofs (maxSteps := 2000000) (disch := omega) [-getElem?_pos]
    exact .fin _ ⟨rfl, by rw [hset]⟩ (.refl _)
end Go.Proofs.YtpdeaekmgljeaaaDoor

/-
  The bodies of functions, in the small language: printed by program, proved by the kernel's computing. (Own work.)
-/
namespace Go.Proofs.YtpdeaekmgljeaaaDoor
open Go Go.Abs

/- bushel/bushelref05.Few -/
def a5 : AFun := ⟨6, [.tmp 2], (.seq (.reg [1, 2] [⟨(some 1), none, .box (.t 0)⟩,
       ⟨(some 2), none, .mv (.c (.bool false))⟩])
  (.seq (.reg [2] [⟨(some 3), none, .load (some 8) (.t 1)⟩,
       ⟨(some 4), none, .call (.c (.fn 8)) [(.t 3), (.c (.int .i64 20000))]⟩,
       ⟨(some 5), none, .bin .geq .other true (.t 4) (.c (.int .i64 0))⟩,
       ⟨(some 2), none, .mv (.t 5)⟩])
  .ret))⟩
theorem c5 : compF Tryd.prog [0, 1, 2] Tryd.f5 = some a5 := by kernel_rfl

/- bushel/bushelref05.Same -/
def a7 : AFun := ⟨82, [.tmp 4], (.seq (.reg [2, 3, 4] [⟨(some 2), none, .box (.t 0)⟩,
       ⟨(some 3), none, .box (.t 1)⟩,
       ⟨(some 4), none, .mv (.c (.bool false))⟩])
  (.seq (.reg [5] [⟨(some 9), none, .faddr 5 (.t 2)⟩,
       ⟨(some 10), none, .load none (.t 9)⟩,
       ⟨(some 11), none, .faddr 5 (.t 3)⟩,
       ⟨(some 12), none, .load none (.t 11)⟩,
       ⟨(some 13), none, .call (.c (.fn 11)) [(.t 10), (.t 12)]⟩,
       ⟨(some 5), none, .mv (.t 13)⟩])
  (.seq (.reg [6] [⟨(some 14), none, .faddr 6 (.t 2)⟩,
       ⟨(some 15), none, .load none (.t 14)⟩,
       ⟨(some 16), none, .faddr 6 (.t 3)⟩,
       ⟨(some 17), none, .load none (.t 16)⟩,
       ⟨(some 18), none, .call (.c (.fn 11)) [(.t 15), (.t 17)]⟩,
       ⟨(some 6), none, .mv (.t 18)⟩])
  (.seq (.seq (.reg [61] [⟨(some 19), none, .faddr 0 (.t 2)⟩,
        ⟨(some 20), none, .load none (.t 19)⟩,
        ⟨(some 21), none, .faddr 0 (.t 3)⟩,
        ⟨(some 22), none, .load none (.t 21)⟩,
        ⟨(some 23), none, .bin .neq .other false (.t 20) (.t 22)⟩,
        ⟨(some 24), none, .mv (.t 23)⟩,
        ⟨(some 25), (some (24, false)), .faddr 2 (.t 2)⟩,
        ⟨(some 26), (some (24, false)), .load none (.t 25)⟩,
        ⟨(some 27), (some (24, false)), .faddr 2 (.t 3)⟩,
        ⟨(some 28), (some (24, false)), .load none (.t 27)⟩,
        ⟨(some 29), (some (24, false)), .bin .neq .other false (.t 26) (.t 28)⟩,
        ⟨(some 30), none, .pick (.t 24) (.c (.bool true)) (.t 29)⟩,
        ⟨(some 31), none, .mv (.t 30)⟩,
        ⟨(some 32), (some (31, false)), .faddr 3 (.t 2)⟩,
        ⟨(some 33), (some (31, false)), .load none (.t 32)⟩,
        ⟨(some 34), (some (31, false)), .faddr 3 (.t 3)⟩,
        ⟨(some 35), (some (31, false)), .load none (.t 34)⟩,
        ⟨(some 36), (some (31, false)), .bin .neq .other false (.t 33) (.t 35)⟩,
        ⟨(some 37), none, .pick (.t 31) (.c (.bool true)) (.t 36)⟩,
        ⟨(some 38), none, .mv (.t 37)⟩,
        ⟨(some 39), (some (38, false)), .faddr 4 (.t 2)⟩,
        ⟨(some 40), (some (38, false)), .load none (.t 39)⟩,
        ⟨(some 41), (some (38, false)), .faddr 4 (.t 3)⟩,
        ⟨(some 42), (some (38, false)), .load none (.t 41)⟩,
        ⟨(some 43), (some (38, false)), .bin .neq .other false (.t 40) (.t 42)⟩,
        ⟨(some 44), none, .pick (.t 38) (.c (.bool true)) (.t 43)⟩,
        ⟨(some 45), none, .mv (.t 44)⟩,
        ⟨(some 46), (some (45, false)), .mv (.t 5)⟩,
        ⟨(some 47), (some (45, false)), .un .not (.t 46)⟩,
        ⟨(some 48), none, .pick (.t 45) (.c (.bool true)) (.t 47)⟩,
        ⟨(some 49), none, .mv (.t 48)⟩,
        ⟨(some 50), (some (49, false)), .mv (.t 6)⟩,
        ⟨(some 51), (some (49, false)), .un .not (.t 50)⟩,
        ⟨(some 52), none, .pick (.t 49) (.c (.bool true)) (.t 51)⟩,
        ⟨(some 53), none, .mv (.t 52)⟩,
        ⟨(some 54), (some (53, false)), .faddr 7 (.t 2)⟩,
        ⟨(some 55), (some (53, false)), .load none (.t 54)⟩,
        ⟨(some 56), (some (53, false)), .len .sl (.t 55)⟩,
        ⟨(some 57), (some (53, false)), .faddr 7 (.t 3)⟩,
        ⟨(some 58), (some (53, false)), .load none (.t 57)⟩,
        ⟨(some 59), (some (53, false)), .len .sl (.t 58)⟩,
        ⟨(some 60), (some (53, false)), .bin .neq .other false (.t 56) (.t 59)⟩,
        ⟨(some 61), none, .pick (.t 53) (.c (.bool true)) (.t 60)⟩])
   (.cond (.t 61) (.seq (.reg [4] [⟨(some 4), none, .mv (.c (.bool false))⟩])
     .ret)
   .skip))
  (.seq (.seq (.reg [7] [⟨(some 7), none, .mv (.c (.int .i64 0))⟩])
   (.block 0 (.loop (.seq (.seq (.reg [66] [⟨(some 62), none, .mv (.t 7)⟩,
           ⟨(some 63), none, .faddr 7 (.t 2)⟩,
           ⟨(some 64), none, .load none (.t 63)⟩,
           ⟨(some 65), none, .len .sl (.t 64)⟩,
           ⟨(some 66), none, .bin .lss .other false (.t 62) (.t 65)⟩])
      (.cond (.t 66) .skip
      (.exit 0)))
     (.seq (.block 1 (.seq (.any [8] [(⟨(some 69), none, .faddr 7 (.t 2)⟩, true),
            (⟨(some 70), none, .load none (.t 69)⟩, true),
            (⟨(some 71), none, .mv (.t 7)⟩, false),
            (⟨(some 72), none, .iaddr (some 8) (.t 70) (.t 71)⟩, true),
            (⟨(some 73), none, .load (some 8) (.t 72)⟩, true),
            (⟨(some 74), none, .faddr 7 (.t 3)⟩, false),
            (⟨(some 75), none, .load none (.t 74)⟩, false),
            (⟨(some 76), none, .mv (.t 7)⟩, false),
            (⟨(some 77), none, .iaddr (some 8) (.t 75) (.t 76)⟩, false),
            (⟨(some 78), none, .load (some 8) (.t 77)⟩, false),
            (⟨(some 79), none, .call (.c (.fn 7)) [(.t 73), (.t 78)]⟩, true),
            (⟨(some 8), none, .mv (.t 79)⟩, true)])
       (.seq (.reg [81] [⟨(some 80), none, .mv (.t 8)⟩,
            ⟨(some 81), none, .un .not (.t 80)⟩])
       (.cond (.t 81) (.seq (.reg [4] [⟨(some 4), none, .mv (.c (.bool false))⟩])
         .ret)
       .skip))))
     (.reg [7] [⟨(some 67), none, .mv (.t 7)⟩,
         ⟨(some 68), none, .bin .add .other true (.t 67) (.c (.int .i64 1))⟩,
         ⟨(some 7), none, .mv (.t 68)⟩]))))))
  (.seq (.reg [4] [⟨(some 4), none, .mv (.c (.bool true))⟩])
  .ret))))))⟩
theorem c7 : compF Tryd.prog [0, 1, 2, 3, 4, 5, 6, 7, 8, 61, 66, 81] Tryd.f7 = some a7 := by kernel_rfl

/- bushel/syn.May -/
def a9 : AFun := ⟨15, [.tmp 2], (.seq (.reg [1, 2] [⟨(some 1), none, .box (.t 0)⟩,
       ⟨(some 2), none, .mv (.c (.bool false))⟩])
  (.seq (.reg [2] [⟨(some 3), none, .load (some 8) (.t 1)⟩,
       ⟨(some 4), none, .call (.c (.fn 12)) [(.t 3)]⟩,
       ⟨(some 5), none, .bin .leq .other true (.t 4) (.c (.int .i64 60))⟩,
       ⟨(some 6), none, .mv (.t 5)⟩,
       ⟨(some 7), (some (6, true)), .load (some 8) (.t 1)⟩,
       ⟨(some 8), (some (6, true)), .call (.c (.fn 13)) [(.t 7)]⟩,
       ⟨(some 9), (some (6, true)), .bin .leq .other true (.t 8) (.c (.int .i64 1500))⟩,
       ⟨(some 10), none, .pick (.t 6) (.t 9) (.c (.bool false))⟩,
       ⟨(some 11), none, .mv (.t 10)⟩,
       ⟨(some 12), (some (11, true)), .load (some 8) (.t 1)⟩,
       ⟨(some 13), (some (11, true)), .call (.c (.fn 14)) [(.t 12)]⟩,
       ⟨(some 14), none, .pick (.t 11) (.t 13) (.c (.bool false))⟩,
       ⟨(some 2), none, .mv (.t 14)⟩])
  .ret))⟩
theorem c9 : compF Tryd.prog [0, 1, 2] Tryd.f9 = some a9 := by kernel_rfl

/- bushel/syn.Depth -/
def a12 : AFun := ⟨20, [.tmp 2], (.seq (.reg [1, 2] [⟨(some 1), none, .box (.t 0)⟩,
       ⟨(some 2), none, .mv (.c (.int .i64 0))⟩])
  (.seq (.reg [3] [⟨(some 3), none, .mv (.c (.int .i64 0))⟩])
  (.seq (.seq (.reg [7, 8, 9] [⟨(some 6), none, .faddr 7 (.t 1)⟩,
        ⟨(some 7), none, .load none (.t 6)⟩,
        ⟨(some 8), none, .len .sl (.t 7)⟩,
        ⟨(some 9), none, .mv (.c (.int .i64 0))⟩])
   (.block 0 (.loop (.seq (.reg [10] [⟨(some 10), none, .bin .lss .other false (.t 9) (.t 8)⟩])
     (.seq (.cond (.t 10) .skip
      (.exit 0))
     (.seq (.block 1 (.seq (.reg [5] [⟨(some 11), none, .iaddr (some 8) (.t 7) (.t 9)⟩,
            ⟨(some 12), none, .load (some 8) (.t 11)⟩,
            ⟨(some 5), none, .alloc [(.int .i64 0), (.int .i64 0), (.int .i64 0), (.str []), (.str []), .snil, .snil, .snil]⟩,
            ⟨none, none, .store 8 (.t 5) (.t 12)⟩])
       (.reg [3] [⟨(some 13), none, .mv (.t 3)⟩,
           ⟨(some 14), none, .load (some 8) (.t 5)⟩,
           ⟨(some 15), none, .call (.c (.fn 12)) [(.t 14)]⟩,
           ⟨(some 16), none, .ext .max [(.t 13), (.t 15)]⟩,
           ⟨(some 3), none, .mv (.t 16)⟩])))
     (.reg [9] [⟨(some 17), none, .bin .add .other true (.t 9) (.c (.int .i64 1))⟩,
         ⟨(some 9), none, .mv (.t 17)⟩])))))))
  (.seq (.reg [2] [⟨(some 18), none, .mv (.t 3)⟩,
       ⟨(some 19), none, .bin .add .other true (.t 18) (.c (.int .i64 1))⟩,
       ⟨(some 2), none, .mv (.t 19)⟩])
  .ret))))⟩
theorem c12 : compF Tryd.prog [0, 1, 2, 3, 5, 7, 8, 9, 10] Tryd.f12 = some a12 := by kernel_rfl

/- bushel/syn.Nodes -/
def a13 : AFun := ⟨19, [.tmp 2], (.seq (.reg [1, 2] [⟨(some 1), none, .box (.t 0)⟩,
       ⟨(some 2), none, .mv (.c (.int .i64 0))⟩])
  (.seq (.reg [3] [⟨(some 3), none, .mv (.c (.int .i64 1))⟩])
  (.seq (.seq (.reg [7, 8, 9] [⟨(some 6), none, .faddr 7 (.t 1)⟩,
        ⟨(some 7), none, .load none (.t 6)⟩,
        ⟨(some 8), none, .len .sl (.t 7)⟩,
        ⟨(some 9), none, .mv (.c (.int .i64 0))⟩])
   (.block 0 (.loop (.seq (.reg [10] [⟨(some 10), none, .bin .lss .other false (.t 9) (.t 8)⟩])
     (.seq (.cond (.t 10) .skip
      (.exit 0))
     (.seq (.block 1 (.seq (.reg [5] [⟨(some 11), none, .iaddr (some 8) (.t 7) (.t 9)⟩,
            ⟨(some 12), none, .load (some 8) (.t 11)⟩,
            ⟨(some 5), none, .alloc [(.int .i64 0), (.int .i64 0), (.int .i64 0), (.str []), (.str []), .snil, .snil, .snil]⟩,
            ⟨none, none, .store 8 (.t 5) (.t 12)⟩])
       (.reg [3] [⟨(some 13), none, .mv (.t 3)⟩,
           ⟨(some 14), none, .load (some 8) (.t 5)⟩,
           ⟨(some 15), none, .call (.c (.fn 13)) [(.t 14)]⟩,
           ⟨(some 16), none, .bin .add .other false (.t 13) (.t 15)⟩,
           ⟨(some 3), none, .mv (.t 16)⟩])))
     (.reg [9] [⟨(some 17), none, .bin .add .other true (.t 9) (.c (.int .i64 1))⟩,
         ⟨(some 9), none, .mv (.t 17)⟩])))))))
  (.seq (.reg [2] [⟨(some 18), none, .mv (.t 3)⟩,
       ⟨(some 2), none, .mv (.t 18)⟩])
  .ret))))⟩
theorem c13 : compF Tryd.prog [0, 1, 2, 3, 5, 7, 8, 9, 10] Tryd.f13 = some a13 := by kernel_rfl

/- bushel/bushelref05.count -/
def a8 : AFun := ⟨69, [.tmp 4], (.seq (.reg [2, 4] [⟨(some 2), none, .box (.t 0)⟩,
       ⟨(some 4), none, .mv (.c (.int .i64 0))⟩])
  (.seq (.reg [1] [⟨(some 8), none, .mv (.t 1)⟩,
       ⟨(some 9), none, .bin .sub .other true (.t 8) (.c (.int .i64 1))⟩,
       ⟨(some 10), none, .faddr 3 (.t 2)⟩,
       ⟨(some 11), none, .load none (.t 10)⟩,
       ⟨(some 12), none, .len .str (.t 11)⟩,
       ⟨(some 13), none, .bin .sub .other false (.t 9) (.t 12)⟩,
       ⟨(some 14), none, .faddr 4 (.t 2)⟩,
       ⟨(some 15), none, .load none (.t 14)⟩,
       ⟨(some 16), none, .len .str (.t 15)⟩,
       ⟨(some 17), none, .bin .sub .other false (.t 13) (.t 16)⟩,
       ⟨(some 1), none, .mv (.t 17)⟩])
  (.seq (.seq (.reg [5] [⟨(some 5), none, .mv (.c (.int .i64 0))⟩])
   (.block 0 (.loop (.seq (.seq (.reg [22] [⟨(some 18), none, .mv (.t 5)⟩,
           ⟨(some 19), none, .faddr 5 (.t 2)⟩,
           ⟨(some 20), none, .load none (.t 19)⟩,
           ⟨(some 21), none, .len .sl (.t 20)⟩,
           ⟨(some 22), none, .bin .lss .other false (.t 18) (.t 21)⟩])
      (.cond (.t 22) .skip
      (.exit 0)))
     (.seq (.block 1 (.reg [1] [⟨(some 25), none, .mv (.t 1)⟩,
           ⟨(some 26), none, .bin .sub .other true (.t 25) (.c (.int .i64 1))⟩,
           ⟨(some 27), none, .faddr 5 (.t 2)⟩,
           ⟨(some 28), none, .load none (.t 27)⟩,
           ⟨(some 29), none, .mv (.t 5)⟩,
           ⟨(some 30), none, .iaddr none (.t 28) (.t 29)⟩,
           ⟨(some 31), none, .load none (.t 30)⟩,
           ⟨(some 32), none, .len .str (.t 31)⟩,
           ⟨(some 33), none, .bin .sub .other false (.t 26) (.t 32)⟩,
           ⟨(some 1), none, .mv (.t 33)⟩]))
     (.reg [5] [⟨(some 23), none, .mv (.t 5)⟩,
         ⟨(some 24), none, .bin .add .other true (.t 23) (.c (.int .i64 1))⟩,
         ⟨(some 5), none, .mv (.t 24)⟩]))))))
  (.seq (.seq (.reg [6] [⟨(some 6), none, .mv (.c (.int .i64 0))⟩])
   (.block 2 (.loop (.seq (.seq (.reg [38] [⟨(some 34), none, .mv (.t 6)⟩,
           ⟨(some 35), none, .faddr 6 (.t 2)⟩,
           ⟨(some 36), none, .load none (.t 35)⟩,
           ⟨(some 37), none, .len .sl (.t 36)⟩,
           ⟨(some 38), none, .bin .lss .other false (.t 34) (.t 37)⟩])
      (.cond (.t 38) .skip
      (.exit 2)))
     (.seq (.block 3 (.reg [1] [⟨(some 41), none, .mv (.t 1)⟩,
           ⟨(some 42), none, .bin .sub .other true (.t 41) (.c (.int .i64 1))⟩,
           ⟨(some 43), none, .faddr 6 (.t 2)⟩,
           ⟨(some 44), none, .load none (.t 43)⟩,
           ⟨(some 45), none, .mv (.t 6)⟩,
           ⟨(some 46), none, .iaddr none (.t 44) (.t 45)⟩,
           ⟨(some 47), none, .load none (.t 46)⟩,
           ⟨(some 48), none, .len .str (.t 47)⟩,
           ⟨(some 49), none, .bin .sub .other false (.t 42) (.t 48)⟩,
           ⟨(some 1), none, .mv (.t 49)⟩]))
     (.reg [6] [⟨(some 39), none, .mv (.t 6)⟩,
         ⟨(some 40), none, .bin .add .other true (.t 39) (.c (.int .i64 1))⟩,
         ⟨(some 6), none, .mv (.t 40)⟩]))))))
  (.seq (.seq (.reg [7] [⟨(some 7), none, .mv (.c (.int .i64 0))⟩])
   (.block 4 (.loop (.seq (.seq (.reg [58] [⟨(some 50), none, .mv (.t 7)⟩,
           ⟨(some 51), none, .faddr 7 (.t 2)⟩,
           ⟨(some 52), none, .load none (.t 51)⟩,
           ⟨(some 53), none, .len .sl (.t 52)⟩,
           ⟨(some 54), none, .bin .lss .other false (.t 50) (.t 53)⟩,
           ⟨(some 55), none, .mv (.t 54)⟩,
           ⟨(some 56), (some (55, true)), .mv (.t 1)⟩,
           ⟨(some 57), (some (55, true)), .bin .geq .other true (.t 56) (.c (.int .i64 0))⟩,
           ⟨(some 58), none, .pick (.t 55) (.t 57) (.c (.bool false))⟩])
      (.cond (.t 58) .skip
      (.exit 4)))
     (.seq (.block 5 (.reg [1] [⟨(some 61), none, .faddr 7 (.t 2)⟩,
           ⟨(some 62), none, .load none (.t 61)⟩,
           ⟨(some 63), none, .mv (.t 7)⟩,
           ⟨(some 64), none, .iaddr (some 8) (.t 62) (.t 63)⟩,
           ⟨(some 65), none, .load (some 8) (.t 64)⟩,
           ⟨(some 66), none, .mv (.t 1)⟩,
           ⟨(some 67), none, .call (.c (.fn 8)) [(.t 65), (.t 66)]⟩,
           ⟨(some 1), none, .mv (.t 67)⟩]))
     (.reg [7] [⟨(some 59), none, .mv (.t 7)⟩,
         ⟨(some 60), none, .bin .add .other true (.t 59) (.c (.int .i64 1))⟩,
         ⟨(some 7), none, .mv (.t 60)⟩]))))))
  (.seq (.reg [4] [⟨(some 68), none, .mv (.t 1)⟩,
       ⟨(some 4), none, .mv (.t 68)⟩])
  .ret))))))⟩
theorem c8 : compF Tryd.prog [0, 1, 2, 4, 5, 6, 7, 22, 38, 58] Tryd.f8 = some a8 := by kernel_rfl

/- bushel/bushelref05.texts -/
def a11 : AFun := ⟨26, [.tmp 4], (.seq (.reg [4] [⟨(some 4), none, .mv (.c (.bool false))⟩])
  (.seq (.seq (.reg [10] [⟨(some 6), none, .mv (.t 0)⟩,
        ⟨(some 7), none, .len .sl (.t 6)⟩,
        ⟨(some 8), none, .mv (.t 1)⟩,
        ⟨(some 9), none, .len .sl (.t 8)⟩,
        ⟨(some 10), none, .bin .neq .other false (.t 7) (.t 9)⟩])
   (.cond (.t 10) (.seq (.reg [4] [⟨(some 4), none, .mv (.c (.bool false))⟩])
     .ret)
   .skip))
  (.seq (.seq (.reg [5] [⟨(some 5), none, .mv (.c (.int .i64 0))⟩])
   (.block 0 (.loop (.seq (.seq (.reg [14] [⟨(some 11), none, .mv (.t 5)⟩,
           ⟨(some 12), none, .mv (.t 0)⟩,
           ⟨(some 13), none, .len .sl (.t 12)⟩,
           ⟨(some 14), none, .bin .lss .other false (.t 11) (.t 13)⟩])
      (.cond (.t 14) .skip
      (.exit 0)))
     (.seq (.block 1 (.seq (.any [25] [(⟨(some 17), none, .mv (.t 0)⟩, true),
            (⟨(some 18), none, .mv (.t 5)⟩, false),
            (⟨(some 19), none, .iaddr none (.t 17) (.t 18)⟩, true),
            (⟨(some 20), none, .load none (.t 19)⟩, true),
            (⟨(some 21), none, .mv (.t 1)⟩, false),
            (⟨(some 22), none, .mv (.t 5)⟩, false),
            (⟨(some 23), none, .iaddr none (.t 21) (.t 22)⟩, false),
            (⟨(some 24), none, .load none (.t 23)⟩, false),
            (⟨(some 25), none, .bin .neq .other false (.t 20) (.t 24)⟩, true)])
       (.cond (.t 25) (.seq (.reg [4] [⟨(some 4), none, .mv (.c (.bool false))⟩])
         .ret)
       .skip)))
     (.reg [5] [⟨(some 15), none, .mv (.t 5)⟩,
         ⟨(some 16), none, .bin .add .other true (.t 15) (.c (.int .i64 1))⟩,
         ⟨(some 5), none, .mv (.t 16)⟩]))))))
  (.seq (.reg [4] [⟨(some 4), none, .mv (.c (.bool true))⟩])
  .ret))))⟩
theorem c11 : compF Tryd.prog [0, 1, 4, 5, 10, 14, 25] Tryd.f11 = some a11 := by kernel_rfl

/- bushel/syn.fine -/
def a14 : AFun := ⟨11, [.tmp 2], (.seq (.reg [1, 2] [⟨(some 1), none, .box (.t 0)⟩,
       ⟨(some 2), none, .mv (.c (.bool false))⟩])
  (.seq (.reg [2] [⟨(some 3), none, .load (some 8) (.t 1)⟩,
       ⟨(some 4), none, .call (.c (.fn 21)) [(.t 3)]⟩,
       ⟨(some 5), none, .mv (.t 4)⟩,
       ⟨(some 6), (some (5, true)), .faddr 7 (.t 1)⟩,
       ⟨(some 7), (some (5, true)), .load none (.t 6)⟩,
       ⟨(some 8), (some (5, true)), .call (.c (.fn 22)) [(.t 7), (.c (.fn 23))]⟩,
       ⟨(some 9), (some (5, true)), .un .not (.t 8)⟩,
       ⟨(some 10), none, .pick (.t 5) (.t 9) (.c (.bool false))⟩,
       ⟨(some 2), none, .mv (.t 10)⟩])
  .ret))⟩
theorem c14 : compF Tryd.prog [0, 1, 2] Tryd.f14 = some a14 := by kernel_rfl

/- bushel/syn.own -/
def a21 : AFun := ⟨134, [.tmp 2], (.seq (.reg [1, 2] [⟨(some 1), none, .box (.t 0)⟩,
       ⟨(some 2), none, .mv (.c (.bool false))⟩])
  (.seq (.reg [3] [⟨(some 4), none, .faddr 0 (.t 1)⟩,
       ⟨(some 5), none, .load none (.t 4)⟩,
       ⟨(some 6), none, .bin .eql .other true (.t 5) (.c (.int .i64 14))⟩,
       ⟨(some 3), none, .mv (.t 6)⟩])
  (.seq (.block 0 (.seq (.any [7] [(⟨(some 8), none, .faddr 7 (.t 1)⟩, true),
         (⟨(some 9), none, .load none (.t 8)⟩, true),
         (⟨(some 10), none, .len .sl (.t 9)⟩, true),
         (⟨(some 11), none, .faddr 0 (.t 1)⟩, false),
         (⟨(some 12), none, .load none (.t 11)⟩, false),
         (⟨(some 13), none, .faddr 5 (.t 1)⟩, false),
         (⟨(some 14), none, .load none (.t 13)⟩, false),
         (⟨(some 15), none, .len .sl (.t 14)⟩, false),
         (⟨(some 16), none, .faddr 4 (.t 1)⟩, false),
         (⟨(some 17), none, .load none (.t 16)⟩, false),
         (⟨(some 18), none, .bin .neq .other true (.t 17) (.c (.str []))⟩, false),
         (⟨(some 19), none, .call (.c (.fn 29)) [(.t 12), (.t 15), (.t 18)]⟩, false),
         (⟨(some 20), none, .bin .neq .other false (.t 10) (.t 19)⟩, true),
         (⟨(some 21), none, .mv (.t 20)⟩, true),
         (⟨(some 22), (some (21, false)), .faddr 2 (.t 1)⟩, true),
         (⟨(some 23), (some (21, false)), .load none (.t 22)⟩, true),
         (⟨(some 24), (some (21, false)), .bin .lss .other true (.t 23) (.c (.int .i64 0))⟩, true),
         (⟨(some 25), none, .pick (.t 21) (.c (.bool true)) (.t 24)⟩, true),
         (⟨(some 26), none, .mv (.t 25)⟩, true),
         (⟨(some 27), (some (26, false)), .faddr 2 (.t 1)⟩, true),
         (⟨(some 28), (some (26, false)), .load none (.t 27)⟩, true),
         (⟨(some 29), (some (26, false)), .bin .gtr .other true (.t 28) (.c (.int .i64 0))⟩, true),
         (⟨(some 30), (some (26, false)), .mv (.t 29)⟩, true),
         (⟨(some 31), (some (30, true)), .faddr 0 (.t 1)⟩, true),
         (⟨(some 32), (some (30, true)), .load none (.t 31)⟩, true),
         (⟨(some 33), (some (30, true)), .bin .neq .other true (.t 32) (.c (.int .i64 1))⟩, true),
         (⟨(some 34), (some (26, false)), .pick (.t 30) (.t 33) (.c (.bool false))⟩, true),
         (⟨(some 35), none, .pick (.t 26) (.c (.bool true)) (.t 34)⟩, true),
         (⟨(some 36), none, .mv (.t 35)⟩, true),
         (⟨(some 37), (some (36, false)), .load (some 8) (.t 1)⟩, true),
         (⟨(some 38), (some (36, false)), .call (.c (.fn 30)) [(.t 37)]⟩, true),
         (⟨(some 39), (some (36, false)), .un .not (.t 38)⟩, true),
         (⟨(some 40), none, .pick (.t 36) (.c (.bool true)) (.t 39)⟩, true),
         (⟨(some 7), none, .mv (.t 40)⟩, true)])
    (.cond (.t 7) (.seq (.reg [2] [⟨(some 2), none, .mv (.c (.bool false))⟩])
      .ret)
    (.seq (.reg [41] [⟨(some 42), none, .faddr 0 (.t 1)⟩,
         ⟨(some 43), none, .load none (.t 42)⟩,
         ⟨(some 44), none, .bin .eql .other true (.t 43) (.c (.int .i64 8))⟩,
         ⟨(some 41), none, .mv (.t 44)⟩])
    (.cond (.t 41) (.seq (.reg [2] [⟨(some 45), none, .faddr 5 (.t 1)⟩,
           ⟨(some 46), none, .load none (.t 45)⟩,
           ⟨(some 47), none, .call (.c (.fn 31)) [(.t 46), (.c (.int .i64 1))]⟩,
           ⟨(some 48), none, .mv (.t 47)⟩,
           ⟨(some 49), (some (48, true)), .faddr 5 (.t 1)⟩,
           ⟨(some 50), (some (48, true)), .load none (.t 49)⟩,
           ⟨(some 51), (some (48, true)), .call (.c (.fn 32)) [(.t 50)]⟩,
           ⟨(some 52), none, .pick (.t 48) (.t 51) (.c (.bool false))⟩,
           ⟨(some 53), none, .mv (.t 52)⟩,
           ⟨(some 54), (some (53, true)), .faddr 6 (.t 1)⟩,
           ⟨(some 55), (some (53, true)), .load none (.t 54)⟩,
           ⟨(some 56), (some (53, true)), .len .sl (.t 55)⟩,
           ⟨(some 57), (some (53, true)), .bin .eql .other true (.t 56) (.c (.int .i64 0))⟩,
           ⟨(some 58), none, .pick (.t 53) (.t 57) (.c (.bool false))⟩,
           ⟨(some 59), none, .mv (.t 58)⟩,
           ⟨(some 60), (some (59, true)), .faddr 4 (.t 1)⟩,
           ⟨(some 61), (some (59, true)), .load none (.t 60)⟩,
           ⟨(some 62), (some (59, true)), .bin .eql .other true (.t 61) (.c (.str []))⟩,
           ⟨(some 63), none, .pick (.t 59) (.t 62) (.c (.bool false))⟩,
           ⟨(some 2), none, .mv (.t 63)⟩])
      .ret)
    (.seq (.reg [64] [⟨(some 65), none, .mv (.t 3)⟩,
         ⟨(some 64), none, .mv (.t 65)⟩])
    (.cond (.t 64) (.seq (.reg [2] [⟨(some 66), none, .faddr 5 (.t 1)⟩,
           ⟨(some 67), none, .load none (.t 66)⟩,
           ⟨(some 68), none, .call (.c (.fn 31)) [(.t 67), (.c (.int .i64 3))]⟩,
           ⟨(some 69), none, .mv (.t 68)⟩,
           ⟨(some 70), (some (69, true)), .faddr 5 (.t 1)⟩,
           ⟨(some 71), (some (69, true)), .load none (.t 70)⟩,
           ⟨(some 72), (some (69, true)), .call (.c (.fn 32)) [(.t 71)]⟩,
           ⟨(some 73), none, .pick (.t 69) (.t 72) (.c (.bool false))⟩,
           ⟨(some 74), none, .mv (.t 73)⟩,
           ⟨(some 75), (some (74, true)), .faddr 6 (.t 1)⟩,
           ⟨(some 76), (some (74, true)), .load none (.t 75)⟩,
           ⟨(some 77), (some (74, true)), .len .sl (.t 76)⟩,
           ⟨(some 78), (some (74, true)), .faddr 5 (.t 1)⟩,
           ⟨(some 79), (some (74, true)), .load none (.t 78)⟩,
           ⟨(some 80), (some (74, true)), .len .sl (.t 79)⟩,
           ⟨(some 81), (some (74, true)), .bin .eql .other false (.t 77) (.t 80)⟩,
           ⟨(some 82), none, .pick (.t 74) (.t 81) (.c (.bool false))⟩,
           ⟨(some 83), none, .mv (.t 82)⟩,
           ⟨(some 84), (some (83, true)), .faddr 6 (.t 1)⟩,
           ⟨(some 85), (some (83, true)), .load none (.t 84)⟩,
           ⟨(some 86), (some (83, true)), .call (.c (.fn 31)) [(.t 85), (.c (.int .i64 1))]⟩,
           ⟨(some 87), none, .pick (.t 83) (.t 86) (.c (.bool false))⟩,
           ⟨(some 88), none, .mv (.t 87)⟩,
           ⟨(some 89), (some (88, true)), .faddr 4 (.t 1)⟩,
           ⟨(some 90), (some (88, true)), .load none (.t 89)⟩,
           ⟨(some 91), (some (88, true)), .bin .eql .other true (.t 90) (.c (.str []))⟩,
           ⟨(some 92), (some (88, true)), .mv (.t 91)⟩,
           ⟨(some 93), (some (92, false)), .faddr 4 (.t 1)⟩,
           ⟨(some 94), (some (92, false)), .load none (.t 93)⟩,
           ⟨(some 95), (some (92, false)), .call (.c (.fn 33)) [(.t 94), (.c (.int .i64 1))]⟩,
           ⟨(some 96), (some (88, true)), .pick (.t 92) (.c (.bool true)) (.t 95)⟩,
           ⟨(some 97), none, .pick (.t 88) (.t 96) (.c (.bool false))⟩,
           ⟨(some 98), none, .mv (.t 97)⟩,
           ⟨(some 99), (some (98, true)), .faddr 7 (.t 1)⟩,
           ⟨(some 100), (some (98, true)), .load none (.t 99)⟩,
           ⟨(some 101), (some (98, true)), .len .sl (.t 100)⟩,
           ⟨(some 102), (some (98, true)), .bin .gtr .other true (.t 101) (.c (.int .i64 1))⟩,
           ⟨(some 103), none, .pick (.t 98) (.t 102) (.c (.bool false))⟩,
           ⟨(some 2), none, .mv (.t 103)⟩])
      .ret)
    (.seq (.reg [104] [⟨(some 105), none, .faddr 0 (.t 1)⟩,
         ⟨(some 106), none, .load none (.t 105)⟩,
         ⟨(some 107), none, .bin .eql .other true (.t 106) (.c (.int .i64 7))⟩,
         ⟨(some 104), none, .mv (.t 107)⟩])
    (.cond (.t 104) (.seq (.reg [2] [⟨(some 108), none, .faddr 4 (.t 1)⟩,
           ⟨(some 109), none, .load none (.t 108)⟩,
           ⟨(some 110), none, .call (.c (.fn 33)) [(.t 109), (.c (.int .i64 1))]⟩,
           ⟨(some 111), none, .mv (.t 110)⟩,
           ⟨(some 112), (some (111, true)), .faddr 5 (.t 1)⟩,
           ⟨(some 113), (some (111, true)), .load none (.t 112)⟩,
           ⟨(some 114), (some (111, true)), .len .sl (.t 113)⟩,
           ⟨(some 115), (some (111, true)), .faddr 6 (.t 1)⟩,
           ⟨(some 116), (some (111, true)), .load none (.t 115)⟩,
           ⟨(some 117), (some (111, true)), .len .sl (.t 116)⟩,
           ⟨(some 118), (some (111, true)), .bin .add .other false (.t 114) (.t 117)⟩,
           ⟨(some 119), (some (111, true)), .bin .eql .other true (.t 118) (.c (.int .i64 0))⟩,
           ⟨(some 120), none, .pick (.t 111) (.t 119) (.c (.bool false))⟩,
           ⟨(some 2), none, .mv (.t 120)⟩])
      .ret)
    .skip)))))))))
  (.seq (.reg [2] [⟨(some 121), none, .faddr 4 (.t 1)⟩,
       ⟨(some 122), none, .load none (.t 121)⟩,
       ⟨(some 123), none, .bin .eql .other true (.t 122) (.c (.str []))⟩,
       ⟨(some 124), none, .mv (.t 123)⟩,
       ⟨(some 125), (some (124, true)), .faddr 5 (.t 1)⟩,
       ⟨(some 126), (some (124, true)), .load none (.t 125)⟩,
       ⟨(some 127), (some (124, true)), .len .sl (.t 126)⟩,
       ⟨(some 128), (some (124, true)), .faddr 6 (.t 1)⟩,
       ⟨(some 129), (some (124, true)), .load none (.t 128)⟩,
       ⟨(some 130), (some (124, true)), .len .sl (.t 129)⟩,
       ⟨(some 131), (some (124, true)), .bin .add .other false (.t 127) (.t 130)⟩,
       ⟨(some 132), (some (124, true)), .bin .eql .other true (.t 131) (.c (.int .i64 0))⟩,
       ⟨(some 133), none, .pick (.t 124) (.t 132) (.c (.bool false))⟩,
       ⟨(some 2), none, .mv (.t 133)⟩])
  .ret))))⟩
theorem c21 : compF Tryd.prog [0, 1, 2, 3, 7, 41, 64, 104] Tryd.f21 = some a21 := by kernel_rfl

/- slices.ContainsFunc[[]bushel/api.Expr,bushel/api.Expr] -/
def a22 : AFun := ⟨9, [.tmp 4], (.seq (.reg [4] [⟨(some 4), none, .mv (.c (.bool false))⟩])
  (.seq (.reg [4] [⟨(some 5), none, .mv (.t 0)⟩,
       ⟨(some 6), none, .mv (.t 1)⟩,
       ⟨(some 7), none, .call (.c (.fn 34)) [(.t 5), (.t 6)]⟩,
       ⟨(some 8), none, .bin .geq .other true (.t 7) (.c (.int .i64 0))⟩,
       ⟨(some 4), none, .mv (.t 8)⟩])
  .ret))⟩
theorem c22 : compF Tryd.prog [0, 1, 4] Tryd.f22 = some a22 := by kernel_rfl

/- bushel/syn.fine$1 -/
def a23 : AFun := ⟨6, [.tmp 2], (.seq (.reg [1, 2] [⟨(some 1), none, .box (.t 0)⟩,
       ⟨(some 2), none, .mv (.c (.bool false))⟩])
  (.seq (.reg [2] [⟨(some 3), none, .load (some 8) (.t 1)⟩,
       ⟨(some 4), none, .call (.c (.fn 14)) [(.t 3)]⟩,
       ⟨(some 5), none, .un .not (.t 4)⟩,
       ⟨(some 2), none, .mv (.t 5)⟩])
  .ret))⟩
theorem c23 : compF Tryd.prog [0, 1, 2] Tryd.f23 = some a23 := by kernel_rfl

/- bushel/syn.Parts -/
def a29 : AFun := ⟨30, [.tmp 6], (.seq (.reg [6] [⟨(some 6), none, .mv (.c (.int .i64 0))⟩])
  (.seq (.seq (.reg [9] [⟨(some 9), none, .mv (.t 0)⟩])
   (.block 0 (.seq (.reg [10] [⟨(some 11), none, .bin .eql .other true (.t 9) (.c (.int .i64 8))⟩,
         ⟨(some 10), none, .mv (.t 11)⟩])
    (.cond (.t 10) (.seq (.reg [6] [⟨(some 12), none, .mv (.t 1)⟩,
           ⟨(some 6), none, .mv (.t 12)⟩])
      .ret)
    (.seq (.reg [13] [⟨(some 14), none, .bin .eql .other true (.t 9) (.c (.int .i64 14))⟩,
         ⟨(some 13), none, .mv (.t 14)⟩])
    (.cond (.t 13) (.seq (.seq (.reg [15] [⟨(some 15), none, .mv (.t 2)⟩])
       (.cond (.t 15) (.reg [1] [⟨(some 16), none, .mv (.t 1)⟩,
             ⟨(some 17), none, .bin .add .other true (.t 16) (.c (.int .i64 1))⟩,
             ⟨(some 1), none, .mv (.t 17)⟩])
       .skip))
      (.seq (.reg [6] [⟨(some 18), none, .mv (.t 1)⟩,
           ⟨(some 19), none, .bin .add .other true (.t 18) (.c (.int .i64 1))⟩,
           ⟨(some 6), none, .mv (.t 19)⟩])
      .ret))
    .skip))))))
  (.seq (.reg [7, 8] [⟨(some 21), none, .call (.c (.fn 41)) []⟩,
       ⟨(some 22), none, .mv (.t 0)⟩,
       ⟨(some 23), none, .ext (.mget (.int .i64) true (.agg [(.int .i64 0), (.bool false), (.bool false), (.bool false), (.bool false)])) [(.t 21), (.t 22)]⟩,
       ⟨(some 20), none, .mv (.t 23)⟩,
       ⟨(some 24), none, .extract (.t 20) 0⟩,
       ⟨(some 25), none, .extract (.t 20) 1⟩,
       ⟨(some 7), none, .alloc [(.int .i64 0), (.bool false), (.bool false), (.bool false), (.bool false)]⟩,
       ⟨none, none, .store 5 (.t 7) (.t 24)⟩,
       ⟨(some 8), none, .mv (.t 25)⟩])
  (.seq (.seq (.reg [27] [⟨(some 26), none, .mv (.t 8)⟩,
        ⟨(some 27), none, .un .not (.t 26)⟩])
   (.cond (.t 27) (.seq (.reg [6] [⟨(some 6), none, .mv (.c (.int .i64 (-1)))⟩])
     .ret)
   .skip))
  (.seq (.reg [6] [⟨(some 28), none, .faddr 0 (.t 7)⟩,
       ⟨(some 29), none, .load none (.t 28)⟩,
       ⟨(some 6), none, .mv (.t 29)⟩])
  .ret)))))⟩
theorem c29 : compF Tryd.prog [0, 1, 2, 6, 7, 8, 9, 10, 13, 15, 27] Tryd.f29 = some a29 := by kernel_rfl

/- bushel/syn.text -/
def a30 : AFun := ⟨48, [.tmp 2], (.seq (.reg [1, 2] [⟨(some 1), none, .box (.t 0)⟩,
       ⟨(some 2), none, .mv (.c (.bool false))⟩])
  (.seq (.alt [3] [(⟨(some 7), none, .faddr 0 (.t 1)⟩, true),
       (⟨(some 8), none, .load none (.t 7)⟩, true)] (⟨(some 6), none, .call (.c (.fn 41)) []⟩, false) (⟨(some 3), none, .alloc [(.int .i64 0), (.bool false), (.bool false), (.bool false), (.bool false)]⟩, false) [(⟨(some 9), none, .ext (.mget (.int .i64) false (.agg [(.int .i64 0), (.bool false), (.bool false), (.bool false), (.bool false)])) [(.t 6), (.t 8)]⟩, true)] [(⟨none, none, .store 5 (.t 3) (.t 9)⟩, true)])
  (.seq (.block 0 (.seq (.reg [10] [⟨(some 11), none, .faddr 0 (.t 1)⟩,
         ⟨(some 12), none, .load none (.t 11)⟩,
         ⟨(some 13), none, .bin .eql .other true (.t 12) (.c (.int .i64 2))⟩,
         ⟨(some 10), none, .mv (.t 13)⟩])
    (.cond (.t 10) (.seq (.reg [5] [⟨(some 15), none, .faddr 3 (.t 1)⟩,
           ⟨(some 16), none, .load none (.t 15)⟩,
           ⟨(some 17), none, .call (.c (.fn 16)) [(.t 16)]⟩,
           ⟨(some 14), none, .mv (.t 17)⟩,
           ⟨(some 18), none, .extract (.t 14) 0⟩,
           ⟨(some 19), none, .extract (.t 14) 1⟩,
           ⟨(some 4), none, .mv (.t 18)⟩,
           ⟨(some 5), none, .mv (.t 19)⟩])
      (.seq (.reg [2] [⟨(some 20), none, .mv (.t 5)⟩,
           ⟨(some 21), none, .bin .eql .ifc true (.t 20) (.c .inil)⟩,
           ⟨(some 2), none, .mv (.t 21)⟩])
      .ret))
    (.seq (.reg [22] [⟨(some 23), none, .faddr 1 (.t 3)⟩,
         ⟨(some 24), none, .load none (.t 23)⟩,
         ⟨(some 25), none, .mv (.t 24)⟩,
         ⟨(some 26), (some (25, false)), .faddr 2 (.t 3)⟩,
         ⟨(some 27), (some (25, false)), .load none (.t 26)⟩,
         ⟨(some 28), none, .pick (.t 25) (.c (.bool true)) (.t 27)⟩,
         ⟨(some 22), none, .mv (.t 28)⟩])
    (.cond (.t 22) (.seq (.reg [2] [⟨(some 29), none, .faddr 3 (.t 1)⟩,
           ⟨(some 30), none, .load none (.t 29)⟩,
           ⟨(some 31), none, .call (.c (.fn 33)) [(.t 30), (.c (.int .i64 1))]⟩,
           ⟨(some 2), none, .mv (.t 31)⟩])
      .ret)
    (.seq (.reg [32] [⟨(some 33), none, .faddr 3 (.t 3)⟩,
         ⟨(some 34), none, .load none (.t 33)⟩,
         ⟨(some 32), none, .mv (.t 34)⟩])
    (.cond (.t 32) (.seq (.reg [2] [⟨(some 35), none, .faddr 3 (.t 1)⟩,
           ⟨(some 36), none, .load none (.t 35)⟩,
           ⟨(some 37), none, .call (.c (.fn 33)) [(.t 36), (.c (.int .i64 3))]⟩,
           ⟨(some 2), none, .mv (.t 37)⟩])
      .ret)
    (.seq (.reg [38] [⟨(some 39), none, .faddr 4 (.t 3)⟩,
         ⟨(some 40), none, .load none (.t 39)⟩,
         ⟨(some 38), none, .mv (.t 40)⟩])
    (.cond (.t 38) (.seq (.reg [2] [⟨(some 41), none, .mksl none [(.c (.str [43])), (.c (.str [45])), (.c (.str [42])), (.c (.str [47])), (.c (.str [60])), (.c (.str [61, 61])), (.c (.str [94])), (.c (.str [35]))]⟩,
           ⟨(some 42), none, .faddr 3 (.t 1)⟩,
           ⟨(some 43), none, .load none (.t 42)⟩,
           ⟨(some 44), none, .call (.c (.fn 42)) [(.t 41), (.t 43)]⟩,
           ⟨(some 2), none, .mv (.t 44)⟩])
      .ret)
    .skip)))))))))
  (.seq (.reg [2] [⟨(some 45), none, .faddr 3 (.t 1)⟩,
       ⟨(some 46), none, .load none (.t 45)⟩,
       ⟨(some 47), none, .bin .eql .other true (.t 46) (.c (.str []))⟩,
       ⟨(some 2), none, .mv (.t 47)⟩])
  .ret))))⟩
theorem c30 : compF Tryd.prog [0, 1, 2, 3, 5, 10, 22, 32, 38] Tryd.f30 = some a30 := by kernel_rfl

/- bushel/syn.all -/
def a31 : AFun := ⟨9, [.tmp 4], (.seq (.reg [3, 4] [⟨(some 3), none, .box (.t 1)⟩,
       ⟨(some 4), none, .mv (.c (.bool false))⟩])
  (.seq (.reg [4] [⟨(some 5), none, .mv (.t 0)⟩,
       ⟨(some 6), none, .mkfn 44 [(.t 3)]⟩,
       ⟨(some 7), none, .call (.c (.fn 43)) [(.t 5), (.t 6)]⟩,
       ⟨(some 8), none, .un .not (.t 7)⟩,
       ⟨(some 4), none, .mv (.t 8)⟩])
  .ret))⟩
theorem c31 : compF Tryd.prog [0, 1, 3, 4] Tryd.f31 = some a31 := by kernel_rfl

/- bushel/syn.rises -/
def a32 : AFun := ⟨27, [.tmp 2], (.seq (.reg [2] [⟨(some 2), none, .mv (.c (.bool false))⟩])
  (.seq (.seq (.reg [5, 6] [⟨(some 4), none, .mv (.t 0)⟩,
        ⟨(some 5), none, .len .sl (.t 4)⟩,
        ⟨(some 6), none, .mv (.c (.int .i64 0))⟩])
   (.block 0 (.loop (.seq (.reg [7] [⟨(some 7), none, .bin .lss .other false (.t 6) (.t 5)⟩])
     (.seq (.cond (.t 7) .skip
      (.exit 0))
     (.seq (.block 1 (.seq (.reg [3] [⟨(some 8), none, .mv (.t 6)⟩,
            ⟨(some 3), none, .mv (.t 8)⟩])
       (.seq (.any [22] [(⟨(some 9), none, .mv (.t 3)⟩, true),
            (⟨(some 10), none, .bin .gtr .other true (.t 9) (.c (.int .i64 0))⟩, true),
            (⟨(some 11), none, .mv (.t 10)⟩, true),
            (⟨(some 12), (some (11, true)), .mv (.t 0)⟩, true),
            (⟨(some 13), (some (11, true)), .mv (.t 3)⟩, false),
            (⟨(some 14), (some (11, true)), .bin .sub .other true (.t 13) (.c (.int .i64 1))⟩, false),
            (⟨(some 15), (some (11, true)), .iaddr none (.t 12) (.t 14)⟩, true),
            (⟨(some 16), (some (11, true)), .load none (.t 15)⟩, true),
            (⟨(some 17), (some (11, true)), .mv (.t 0)⟩, false),
            (⟨(some 18), (some (11, true)), .mv (.t 3)⟩, false),
            (⟨(some 19), (some (11, true)), .iaddr none (.t 17) (.t 18)⟩, false),
            (⟨(some 20), (some (11, true)), .load none (.t 19)⟩, false),
            (⟨(some 21), (some (11, true)), .bin .geq .other false (.t 16) (.t 20)⟩, true),
            (⟨(some 22), none, .pick (.t 11) (.t 21) (.c (.bool false))⟩, true)])
       (.cond (.t 22) (.seq (.reg [2] [⟨(some 2), none, .mv (.c (.bool false))⟩])
         .ret)
       .skip))))
     (.reg [6] [⟨(some 23), none, .bin .add .other true (.t 6) (.c (.int .i64 1))⟩,
         ⟨(some 6), none, .mv (.t 23)⟩])))))))
  (.seq (.reg [2] [⟨(some 24), none, .mv (.t 0)⟩,
       ⟨(some 25), none, .len .sl (.t 24)⟩,
       ⟨(some 26), none, .bin .leq .other true (.t 25) (.c (.int .i64 30))⟩,
       ⟨(some 2), none, .mv (.t 26)⟩])
  .ret)))⟩
theorem c32 : compF Tryd.prog [0, 2, 3, 5, 6, 7, 22] Tryd.f32 = some a32 := by kernel_rfl

/- bushel/syn.is -/
def a33 : AFun := ⟨39, [.tmp 4], (.seq (.reg [4] [⟨(some 4), none, .mv (.c (.bool false))⟩])
  (.seq (.seq (.reg [9] [⟨(some 7), none, .mv (.t 0)⟩,
        ⟨(some 8), none, .len .str (.t 7)⟩,
        ⟨(some 9), none, .bin .gtr .other true (.t 8) (.c (.int .i64 20))⟩])
   (.cond (.t 9) (.seq (.reg [4] [⟨(some 4), none, .mv (.c (.bool false))⟩])
     .ret)
   .skip))
  (.seq (.reg [5, 6] [⟨(some 11), none, .mv (.t 0)⟩,
       ⟨(some 12), none, .conv .toBytes (.t 11)⟩,
       ⟨(some 13), none, .call (.c (.fn 45)) [(.t 12)]⟩,
       ⟨(some 10), none, .mv (.t 13)⟩,
       ⟨(some 14), none, .extract (.t 10) 0⟩,
       ⟨(some 15), none, .extract (.t 10) 1⟩,
       ⟨(some 5), none, .mv (.t 14)⟩,
       ⟨(some 6), none, .mv (.t 15)⟩])
  (.seq (.reg [4] [⟨(some 16), none, .mv (.t 6)⟩,
       ⟨(some 17), none, .bin .eql .ifc true (.t 16) (.c .inil)⟩,
       ⟨(some 18), none, .mv (.t 17)⟩,
       ⟨(some 19), (some (18, true)), .mv (.t 5)⟩,
       ⟨(some 20), (some (18, true)), .len .sl (.t 19)⟩,
       ⟨(some 21), (some (18, true)), .bin .eql .other true (.t 20) (.c (.int .i64 1))⟩,
       ⟨(some 22), none, .pick (.t 18) (.t 21) (.c (.bool false))⟩,
       ⟨(some 23), none, .mv (.t 22)⟩,
       ⟨(some 24), (some (23, true)), .mv (.t 5)⟩,
       ⟨(some 25), (some (23, true)), .iaddr (some 4) (.t 24) (.c (.int .i64 0))⟩,
       ⟨(some 26), (some (23, true)), .faddr 0 (.t 25)⟩,
       ⟨(some 27), (some (23, true)), .load none (.t 26)⟩,
       ⟨(some 28), (some (23, true)), .mv (.t 1)⟩,
       ⟨(some 29), (some (23, true)), .bin .eql .other false (.t 27) (.t 28)⟩,
       ⟨(some 30), none, .pick (.t 23) (.t 29) (.c (.bool false))⟩,
       ⟨(some 31), none, .mv (.t 30)⟩,
       ⟨(some 32), (some (31, true)), .mv (.t 5)⟩,
       ⟨(some 33), (some (31, true)), .iaddr (some 4) (.t 32) (.c (.int .i64 0))⟩,
       ⟨(some 34), (some (31, true)), .faddr 3 (.t 33)⟩,
       ⟨(some 35), (some (31, true)), .load none (.t 34)⟩,
       ⟨(some 36), (some (31, true)), .mv (.t 0)⟩,
       ⟨(some 37), (some (31, true)), .bin .eql .other false (.t 35) (.t 36)⟩,
       ⟨(some 38), none, .pick (.t 31) (.t 37) (.c (.bool false))⟩,
       ⟨(some 4), none, .mv (.t 38)⟩])
  .ret))))⟩
theorem c33 : compF Tryd.prog [0, 1, 4, 5, 6, 9] Tryd.f33 = some a33 := by kernel_rfl

/- slices.IndexFunc[[]bushel/api.Expr,bushel/api.Expr] -/
def a34 : AFun := ⟨19, [.tmp 4], (.seq (.reg [4] [⟨(some 4), none, .mv (.c (.int .i64 0))⟩])
  (.seq (.seq (.reg [7, 8] [⟨(some 6), none, .mv (.t 0)⟩,
        ⟨(some 7), none, .len .sl (.t 6)⟩,
        ⟨(some 8), none, .mv (.c (.int .i64 0))⟩])
   (.block 0 (.loop (.seq (.reg [9] [⟨(some 9), none, .bin .lss .other false (.t 8) (.t 7)⟩])
     (.seq (.cond (.t 9) .skip
      (.exit 0))
     (.seq (.block 1 (.seq (.reg [5] [⟨(some 10), none, .mv (.t 8)⟩,
            ⟨(some 5), none, .mv (.t 10)⟩])
       (.seq (.reg [16] [⟨(some 11), none, .mv (.t 1)⟩,
            ⟨(some 12), none, .mv (.t 0)⟩,
            ⟨(some 13), none, .mv (.t 5)⟩,
            ⟨(some 14), none, .iaddr (some 8) (.t 12) (.t 13)⟩,
            ⟨(some 15), none, .load (some 8) (.t 14)⟩,
            ⟨(some 16), none, .call (.t 11) [(.t 15)]⟩])
       (.cond (.t 16) (.seq (.reg [4] [⟨(some 17), none, .mv (.t 5)⟩,
              ⟨(some 4), none, .mv (.t 17)⟩])
         .ret)
       .skip))))
     (.reg [8] [⟨(some 18), none, .bin .add .other true (.t 8) (.c (.int .i64 1))⟩,
         ⟨(some 8), none, .mv (.t 18)⟩])))))))
  (.seq (.reg [4] [⟨(some 4), none, .mv (.c (.int .i64 (-1)))⟩])
  .ret)))⟩
theorem c34 : compF Tryd.prog [0, 1, 4, 5, 7, 8, 9, 16] Tryd.f34 = some a34 := by kernel_rfl

/- bushel/syn.forms -/
def a41 : AFun := ⟨23, [.tmp 0], (.seq (.reg [0] [⟨(some 0), none, .mv (.c .mnil)⟩])
  (.seq (.reg [0] [⟨(some 1), none, .ext .mkmap []⟩,
       ⟨(some 2), none, .build [(.int .i64 0), (.bool false), (.bool false), (.bool false), (.bool false)] []⟩,
       ⟨none, none, .ext (.mput (.int .i64)) [(.t 1), (.c (.int .i64 1)), (.t 2)]⟩,
       ⟨(some 3), none, .build [(.int .i64 0), (.bool false), (.bool false), (.bool false), (.bool false)] []⟩,
       ⟨none, none, .ext (.mput (.int .i64)) [(.t 1), (.c (.int .i64 2)), (.t 3)]⟩,
       ⟨(some 4), none, .build [(.int .i64 0), (.bool false), (.bool false), (.bool false), (.bool false)] [(1, 1, (.c (.bool true)))]⟩,
       ⟨none, none, .ext (.mput (.int .i64)) [(.t 1), (.c (.int .i64 3)), (.t 4)]⟩,
       ⟨(some 5), none, .build [(.int .i64 0), (.bool false), (.bool false), (.bool false), (.bool false)] []⟩,
       ⟨none, none, .ext (.mput (.int .i64)) [(.t 1), (.c (.int .i64 22)), (.t 5)]⟩,
       ⟨(some 6), none, .build [(.int .i64 0), (.bool false), (.bool false), (.bool false), (.bool false)] [(0, 1, (.c (.int .i64 1))), (1, 1, (.c (.bool true)))]⟩,
       ⟨none, none, .ext (.mput (.int .i64)) [(.t 1), (.c (.int .i64 4)), (.t 6)]⟩,
       ⟨(some 7), none, .build [(.int .i64 0), (.bool false), (.bool false), (.bool false), (.bool false)] [(0, 1, (.c (.int .i64 2)))]⟩,
       ⟨none, none, .ext (.mput (.int .i64)) [(.t 1), (.c (.int .i64 5)), (.t 7)]⟩,
       ⟨(some 8), none, .build [(.int .i64 0), (.bool false), (.bool false), (.bool false), (.bool false)] [(0, 1, (.c (.int .i64 2))), (1, 1, (.c (.bool true)))]⟩,
       ⟨none, none, .ext (.mput (.int .i64)) [(.t 1), (.c (.int .i64 6)), (.t 8)]⟩,
       ⟨(some 9), none, .build [(.int .i64 0), (.bool false), (.bool false), (.bool false), (.bool false)] [(0, 1, (.c (.int .i64 2))), (1, 1, (.c (.bool true)))]⟩,
       ⟨none, none, .ext (.mput (.int .i64)) [(.t 1), (.c (.int .i64 7)), (.t 9)]⟩,
       ⟨(some 10), none, .build [(.int .i64 0), (.bool false), (.bool false), (.bool false), (.bool false)] [(0, 1, (.c (.int .i64 1))), (2, 1, (.c (.bool true)))]⟩,
       ⟨none, none, .ext (.mput (.int .i64)) [(.t 1), (.c (.int .i64 9)), (.t 10)]⟩,
       ⟨(some 11), none, .build [(.int .i64 0), (.bool false), (.bool false), (.bool false), (.bool false)] [(0, 1, (.c (.int .i64 2))), (2, 1, (.c (.bool true)))]⟩,
       ⟨none, none, .ext (.mput (.int .i64)) [(.t 1), (.c (.int .i64 10)), (.t 11)]⟩,
       ⟨(some 12), none, .build [(.int .i64 0), (.bool false), (.bool false), (.bool false), (.bool false)] [(0, 1, (.c (.int .i64 1))), (2, 1, (.c (.bool true)))]⟩,
       ⟨none, none, .ext (.mput (.int .i64)) [(.t 1), (.c (.int .i64 11)), (.t 12)]⟩,
       ⟨(some 13), none, .build [(.int .i64 0), (.bool false), (.bool false), (.bool false), (.bool false)] [(0, 1, (.c (.int .i64 2))), (2, 1, (.c (.bool true)))]⟩,
       ⟨none, none, .ext (.mput (.int .i64)) [(.t 1), (.c (.int .i64 12)), (.t 13)]⟩,
       ⟨(some 14), none, .build [(.int .i64 0), (.bool false), (.bool false), (.bool false), (.bool false)] [(0, 1, (.c (.int .i64 1))), (3, 1, (.c (.bool true)))]⟩,
       ⟨none, none, .ext (.mput (.int .i64)) [(.t 1), (.c (.int .i64 13)), (.t 14)]⟩,
       ⟨(some 15), none, .build [(.int .i64 0), (.bool false), (.bool false), (.bool false), (.bool false)] [(0, 1, (.c (.int .i64 3)))]⟩,
       ⟨none, none, .ext (.mput (.int .i64)) [(.t 1), (.c (.int .i64 15)), (.t 15)]⟩,
       ⟨(some 16), none, .build [(.int .i64 0), (.bool false), (.bool false), (.bool false), (.bool false)] [(0, 1, (.c (.int .i64 2))), (4, 1, (.c (.bool true)))]⟩,
       ⟨none, none, .ext (.mput (.int .i64)) [(.t 1), (.c (.int .i64 16)), (.t 16)]⟩,
       ⟨(some 17), none, .build [(.int .i64 0), (.bool false), (.bool false), (.bool false), (.bool false)] [(0, 1, (.c (.int .i64 1)))]⟩,
       ⟨none, none, .ext (.mput (.int .i64)) [(.t 1), (.c (.int .i64 17)), (.t 17)]⟩,
       ⟨(some 18), none, .build [(.int .i64 0), (.bool false), (.bool false), (.bool false), (.bool false)] [(0, 1, (.c (.int .i64 1)))]⟩,
       ⟨none, none, .ext (.mput (.int .i64)) [(.t 1), (.c (.int .i64 18)), (.t 18)]⟩,
       ⟨(some 19), none, .build [(.int .i64 0), (.bool false), (.bool false), (.bool false), (.bool false)] [(0, 1, (.c (.int .i64 2)))]⟩,
       ⟨none, none, .ext (.mput (.int .i64)) [(.t 1), (.c (.int .i64 19)), (.t 19)]⟩,
       ⟨(some 20), none, .build [(.int .i64 0), (.bool false), (.bool false), (.bool false), (.bool false)] [(0, 1, (.c (.int .i64 1)))]⟩,
       ⟨none, none, .ext (.mput (.int .i64)) [(.t 1), (.c (.int .i64 20)), (.t 20)]⟩,
       ⟨(some 21), none, .build [(.int .i64 0), (.bool false), (.bool false), (.bool false), (.bool false)] [(0, 1, (.c (.int .i64 1)))]⟩,
       ⟨none, none, .ext (.mput (.int .i64)) [(.t 1), (.c (.int .i64 21)), (.t 21)]⟩,
       ⟨(some 22), none, .mv (.t 1)⟩,
       ⟨(some 0), none, .mv (.t 22)⟩])
  .ret))⟩
theorem c41 : compF Tryd.prog [0] Tryd.f41 = some a41 := by kernel_rfl

/- slices.ContainsFunc[[]string,string] -/
def a43 : AFun := ⟨9, [.tmp 4], (.seq (.reg [4] [⟨(some 4), none, .mv (.c (.bool false))⟩])
  (.seq (.reg [4] [⟨(some 5), none, .mv (.t 0)⟩,
       ⟨(some 6), none, .mv (.t 1)⟩,
       ⟨(some 7), none, .call (.c (.fn 54)) [(.t 5), (.t 6)]⟩,
       ⟨(some 8), none, .bin .geq .other true (.t 7) (.c (.int .i64 0))⟩,
       ⟨(some 4), none, .mv (.t 8)⟩])
  .ret))⟩
theorem c43 : compF Tryd.prog [0, 1, 4] Tryd.f43 = some a43 := by kernel_rfl

/- bushel/syn.all$1 -/
def a44 : AFun := ⟨8, [.tmp 3], (.seq (.reg [3] [⟨(some 3), none, .mv (.c (.bool false))⟩])
  (.seq (.reg [3] [⟨(some 4), none, .mv (.t 0)⟩,
       ⟨(some 5), none, .load none (.t 1)⟩,
       ⟨(some 6), none, .call (.c (.fn 33)) [(.t 4), (.t 5)]⟩,
       ⟨(some 7), none, .un .not (.t 6)⟩,
       ⟨(some 3), none, .mv (.t 7)⟩])
  .ret))⟩
theorem c44 : compF Tryd.prog [0, 1, 3] Tryd.f44 = some a44 := by kernel_rfl

/- slices.IndexFunc[[]string,string] -/
def a54 : AFun := ⟨19, [.tmp 4], (.seq (.reg [4] [⟨(some 4), none, .mv (.c (.int .i64 0))⟩])
  (.seq (.seq (.reg [7, 8] [⟨(some 6), none, .mv (.t 0)⟩,
        ⟨(some 7), none, .len .sl (.t 6)⟩,
        ⟨(some 8), none, .mv (.c (.int .i64 0))⟩])
   (.block 0 (.loop (.seq (.reg [9] [⟨(some 9), none, .bin .lss .other false (.t 8) (.t 7)⟩])
     (.seq (.cond (.t 9) .skip
      (.exit 0))
     (.seq (.block 1 (.seq (.reg [5] [⟨(some 10), none, .mv (.t 8)⟩,
            ⟨(some 5), none, .mv (.t 10)⟩])
       (.seq (.reg [16] [⟨(some 11), none, .mv (.t 1)⟩,
            ⟨(some 12), none, .mv (.t 0)⟩,
            ⟨(some 13), none, .mv (.t 5)⟩,
            ⟨(some 14), none, .iaddr none (.t 12) (.t 13)⟩,
            ⟨(some 15), none, .load none (.t 14)⟩,
            ⟨(some 16), none, .call (.t 11) [(.t 15)]⟩])
       (.cond (.t 16) (.seq (.reg [4] [⟨(some 17), none, .mv (.t 5)⟩,
              ⟨(some 4), none, .mv (.t 17)⟩])
         .ret)
       .skip))))
     (.reg [8] [⟨(some 18), none, .bin .add .other true (.t 8) (.c (.int .i64 1))⟩,
         ⟨(some 8), none, .mv (.t 18)⟩])))))))
  (.seq (.reg [4] [⟨(some 4), none, .mv (.c (.int .i64 (-1)))⟩])
  .ret)))⟩
theorem c54 : compF Tryd.prog [0, 1, 4, 5, 7, 8, 9, 16] Tryd.f54 = some a54 := by kernel_rfl

end Go.Proofs.YtpdeaekmgljeaaaDoor
