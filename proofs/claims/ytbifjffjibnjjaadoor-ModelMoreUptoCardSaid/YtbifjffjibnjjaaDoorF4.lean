/-
  The bodies of functions, in the small language: printed by program, proved by the kernel's computing. (Own work.)
-/
import Derived.Test.YtbifjffjibnjjaaDoorAbsU
import Derived.Test.YtbifjffjibnjjaaDoorChecked
namespace Go.Proofs.YtbifjffjibnjjaaDoor
open Go Go.Abs

/- (*bushel/core.machine).eval -/
def a31K : AFun := ⟨178, [.cell 6 (some 6), .tmp 7], (.seq (.reg [4, 6, 7] [⟨(some 4), none, .box (.t 1)⟩,
       ⟨(some 6), none, .alloc [(.int .i64 0), (.int .i64 0), (.str []), .snil, .pnil, .pnil]⟩,
       ⟨(some 7), none, .mv (.c (.bool false))⟩])
  (.seq (.seq (.reg [18] [⟨(some 14), none, .mv (.t 0)⟩,
        ⟨(some 15), none, .nilck (.t 14)⟩,
        ⟨(some 16), none, .faddr 1 (.t 15)⟩,
        ⟨(some 17), none, .load none (.t 16)⟩,
        ⟨(some 18), none, .bin .leq .other true (.t 17) (.c (.int .i64 0))⟩])
   (.cond (.t 18) (.seq (.reg [7] [⟨(some 19), none, .mv (.t 0)⟩,
          ⟨(some 20), none, .call (.c (.fn 48)) [(.t 19), (.c (.int .i64 8)), (.c (.int .i64 0))]⟩,
          ⟨(some 21), none, .extract (.t 20) 0⟩,
          ⟨(some 22), none, .extract (.t 20) 1⟩,
          ⟨none, none, .store 6 (.t 6) (.t 21)⟩,
          ⟨(some 7), none, .mv (.t 22)⟩])
     .ret)
   .skip))
  (.seq (.reg [] [⟨(some 23), none, .mv (.t 0)⟩,
       ⟨(some 24), none, .nilck (.t 23)⟩,
       ⟨(some 25), none, .faddr 1 (.t 24)⟩,
       ⟨(some 26), none, .load none (.t 25)⟩,
       ⟨(some 27), none, .bin .sub .other true (.t 26) (.c (.int .i64 1))⟩,
       ⟨(some 28), none, .nilck (.t 23)⟩,
       ⟨(some 29), none, .faddr 1 (.t 28)⟩,
       ⟨none, none, .store 1 (.t 29) (.t 27)⟩])
  (.seq (.seq (.any [35] [(⟨(some 30), none, .load (some 6) (.t 4)⟩, true),
        (⟨(some 32), none, .faddr 5 (.t 4)⟩, false),
        (⟨(some 33), none, .load none (.t 32)⟩, false),
        (⟨(some 34), none, .len .sl (.t 33)⟩, false),
        (⟨(some 31), none, .call (.c (.fn 49)) [(.t 30)]⟩, false),
        (⟨(some 35), none, .bin .neq .other false (.t 31) (.t 34)⟩, true)])
   (.cond (.t 35) (.seq (.reg [7] [⟨(some 36), none, .mv (.t 0)⟩,
          ⟨(some 37), none, .call (.c (.fn 50)) [(.t 36)]⟩,
          ⟨(some 38), none, .extract (.t 37) 0⟩,
          ⟨(some 39), none, .extract (.t 37) 1⟩,
          ⟨none, none, .store 6 (.t 6) (.t 38)⟩,
          ⟨(some 7), none, .mv (.t 39)⟩])
     .ret)
   .skip))
  (.seq (.seq (.reg [41] [⟨(some 40), none, .faddr 0 (.t 4)⟩,
        ⟨(some 41), none, .load none (.t 40)⟩])
   (.block 0 (.seq (.reg [42] [⟨(some 43), none, .bin .eql .other true (.t 41) (.c (.int .i64 1))⟩,
         ⟨(some 42), none, .mv (.t 43)⟩])
    (.cond (.t 42) (.seq (.reg [7] [⟨(some 44), none, .faddr 1 (.t 4)⟩,
           ⟨(some 45), none, .load none (.t 44)⟩,
           ⟨(some 46), none, .build [(.int .i64 0), (.int .i64 0), (.str []), .snil, .pnil, .pnil] [(0, 1, (.c (.int .i64 1))), (1, 1, (.t 45))]⟩,
           ⟨none, none, .store 6 (.t 6) (.t 46)⟩,
           ⟨(some 7), none, .mv (.c (.bool true))⟩])
      .ret)
    (.seq (.reg [47] [⟨(some 48), none, .bin .eql .other true (.t 41) (.c (.int .i64 2))⟩,
         ⟨(some 47), none, .mv (.t 48)⟩])
    (.cond (.t 47) (.seq (.reg [7] [⟨(some 49), none, .faddr 2 (.t 4)⟩,
           ⟨(some 50), none, .load none (.t 49)⟩,
           ⟨(some 51), none, .build [(.int .i64 0), (.int .i64 0), (.str []), .snil, .pnil, .pnil] [(0, 1, (.c (.int .i64 2))), (2, 1, (.t 50))]⟩,
           ⟨none, none, .store 6 (.t 6) (.t 51)⟩,
           ⟨(some 7), none, .mv (.c (.bool true))⟩])
      .ret)
    (.seq (.reg [52] [⟨(some 53), none, .bin .eql .other true (.t 41) (.c (.int .i64 3))⟩,
         ⟨(some 52), none, .mv (.t 53)⟩])
    (.cond (.t 52) (.seq (.seq (.reg [8] [⟨(some 54), none, .mv (.t 2)⟩,
            ⟨(some 8), none, .mv (.t 54)⟩])
       (.block 1 (.loop (.seq (.seq (.reg [56] [⟨(some 55), none, .mv (.t 8)⟩,
               ⟨(some 56), none, .bin .neq .ptr true (.t 55) (.c .pnil)⟩])
          (.cond (.t 56) .skip
          (.exit 1)))
         (.seq (.block 2 (.seq (.any [67] [(⟨(some 61), none, .mv (.t 8)⟩, true),
                (⟨(some 62), none, .nilck (.t 61)⟩, true),
                (⟨(some 63), none, .faddr 0 (.t 62)⟩, true),
                (⟨(some 64), none, .load none (.t 63)⟩, true),
                (⟨(some 65), none, .faddr 2 (.t 4)⟩, false),
                (⟨(some 66), none, .load none (.t 65)⟩, false),
                (⟨(some 67), none, .bin .eql .other false (.t 64) (.t 66)⟩, true)])
           (.cond (.t 67) (.seq (.reg [7] [⟨(some 68), none, .mv (.t 8)⟩,
                  ⟨(some 69), none, .nilck (.t 68)⟩,
                  ⟨(some 70), none, .faddr 1 (.t 69)⟩,
                  ⟨(some 71), none, .load (some 6) (.t 70)⟩,
                  ⟨none, none, .store 6 (.t 6) (.t 71)⟩,
                  ⟨(some 7), none, .mv (.c (.bool true))⟩])
             .ret)
           .skip)))
         (.reg [8] [⟨(some 57), none, .mv (.t 8)⟩,
             ⟨(some 58), none, .nilck (.t 57)⟩,
             ⟨(some 59), none, .faddr 7 (.t 58)⟩,
             ⟨(some 60), none, .load none (.t 59)⟩,
             ⟨(some 8), none, .mv (.t 60)⟩]))))))
      (.seq (.reg [7] [⟨(some 72), none, .mv (.t 0)⟩,
           ⟨(some 73), none, .call (.c (.fn 50)) [(.t 72)]⟩,
           ⟨(some 74), none, .extract (.t 73) 0⟩,
           ⟨(some 75), none, .extract (.t 73) 1⟩,
           ⟨none, none, .store 6 (.t 6) (.t 74)⟩,
           ⟨(some 7), none, .mv (.t 75)⟩])
      .ret))
    (.seq (.reg [76] [⟨(some 77), none, .bin .eql .other true (.t 41) (.c (.int .i64 4))⟩,
         ⟨(some 76), none, .mv (.t 77)⟩])
    (.cond (.t 76) (.seq (.any [7] [(⟨(some 78), none, .faddr 2 (.t 4)⟩, true),
           (⟨(some 79), none, .load none (.t 78)⟩, true),
           (⟨(some 80), none, .faddr 5 (.t 4)⟩, false),
           (⟨(some 81), none, .load none (.t 80)⟩, false),
           (⟨(some 82), none, .iaddr (some 6) (.t 81) (.c (.int .i64 0))⟩, false),
           (⟨(some 83), none, .load (some 6) (.t 82)⟩, false),
           (⟨(some 84), none, .mv (.t 2)⟩, false),
           (⟨(some 85), none, .build [(.bool false), (.str []), (.str []), (.int .i64 0), (.int .i64 0), (.str []), (.str []), .snil, .snil, .pnil] [(0, 1, (.c (.bool false))), (1, 1, (.c (.str []))), (2, 1, (.t 79)), (3, 6, (.t 83)), (9, 1, (.t 84))]⟩, true),
           (⟨(some 86), none, .ext .ibox [(.t 85)]⟩, true),
           (⟨(some 87), none, .build [(.int .i64 0), (.int .i64 0), (.str []), .snil, .pnil, .pnil] [(0, 1, (.c (.int .i64 3))), (4, 1, (.t 86))]⟩, true),
           (⟨none, none, .store 6 (.t 6) (.t 87)⟩, true),
           (⟨(some 7), none, .mv (.c (.bool true))⟩, true)])
      .ret)
    (.seq (.reg [88] [⟨(some 89), none, .bin .eql .other true (.t 41) (.c (.int .i64 6))⟩,
         ⟨(some 88), none, .mv (.t 89)⟩])
    (.cond (.t 88) (.seq (.reg [9, 10] [⟨(some 91), none, .mv (.t 0)⟩,
           ⟨(some 92), none, .faddr 5 (.t 4)⟩,
           ⟨(some 93), none, .load none (.t 92)⟩,
           ⟨(some 94), none, .iaddr (some 6) (.t 93) (.c (.int .i64 0))⟩,
           ⟨(some 95), none, .load (some 6) (.t 94)⟩,
           ⟨(some 96), none, .mv (.t 2)⟩,
           ⟨(some 97), none, .call (.c (.fn 31)) [(.t 91), (.t 95), (.t 96)]⟩,
           ⟨(some 90), none, .mv (.t 97)⟩,
           ⟨(some 98), none, .extract (.t 90) 0⟩,
           ⟨(some 99), none, .extract (.t 90) 1⟩,
           ⟨(some 9), none, .alloc [(.int .i64 0), (.int .i64 0), (.str []), .snil, .pnil, .pnil]⟩,
           ⟨none, none, .store 6 (.t 9) (.t 98)⟩,
           ⟨(some 10), none, .mv (.t 99)⟩])
      (.seq (.seq (.reg [101] [⟨(some 100), none, .mv (.t 10)⟩,
            ⟨(some 101), none, .un .not (.t 100)⟩])
       (.cond (.t 101) (.seq (.reg [7] [⟨(some 102), none, .load (some 6) (.t 9)⟩,
              ⟨none, none, .store 6 (.t 6) (.t 102)⟩,
              ⟨(some 7), none, .mv (.c (.bool false))⟩])
         .ret)
       .skip))
      (.seq (.any [7] [(⟨(some 103), none, .mv (.t 0)⟩, true),
           (⟨(some 104), none, .faddr 5 (.t 4)⟩, false),
           (⟨(some 105), none, .load none (.t 104)⟩, false),
           (⟨(some 106), none, .iaddr (some 6) (.t 105) (.c (.int .i64 1))⟩, false),
           (⟨(some 107), none, .load (some 6) (.t 106)⟩, false),
           (⟨(some 108), none, .faddr 2 (.t 4)⟩, false),
           (⟨(some 109), none, .load none (.t 108)⟩, false),
           (⟨(some 110), none, .load (some 6) (.t 9)⟩, false),
           (⟨(some 111), none, .mv (.t 2)⟩, false),
           (⟨(some 112), none, .build [(.str []), (.int .i64 0), (.int .i64 0), (.str []), .snil, .pnil, .pnil, .pnil] [(0, 1, (.t 109)), (1, 6, (.t 110)), (7, 1, (.t 111))]⟩, false),
           (⟨(some 113), none, .ext .ibox [(.t 112)]⟩, false),
           (⟨(some 114), none, .call (.c (.fn 31)) [(.t 103), (.t 107), (.t 113)]⟩, true),
           (⟨(some 115), none, .extract (.t 114) 0⟩, true),
           (⟨(some 116), none, .extract (.t 114) 1⟩, false),
           (⟨none, none, .store 6 (.t 6) (.t 115)⟩, true),
           (⟨(some 7), none, .mv (.t 116)⟩, true)])
      .ret)))
    (.seq (.reg [117] [⟨(some 118), none, .bin .eql .other true (.t 41) (.c (.int .i64 7))⟩,
         ⟨(some 117), none, .mv (.t 118)⟩])
    (.cond (.t 117) (.seq (.alt [11] [(⟨(some 119), none, .faddr 2 (.t 4)⟩, true),
           (⟨(some 120), none, .load none (.t 119)⟩, true),
           (⟨(some 121), none, .faddr 3 (.t 4)⟩, false),
           (⟨(some 122), none, .load none (.t 121)⟩, false),
           (⟨(some 123), none, .faddr 5 (.t 4)⟩, false),
           (⟨(some 124), none, .load none (.t 123)⟩, false),
           (⟨(some 125), none, .iaddr (some 6) (.t 124) (.c (.int .i64 0))⟩, false),
           (⟨(some 126), none, .load (some 6) (.t 125)⟩, false),
           (⟨(some 127), none, .mv (.t 2)⟩, false),
           (⟨(some 128), none, .build [(.bool false), (.str []), (.str []), (.int .i64 0), (.int .i64 0), (.str []), (.str []), .snil, .snil, .pnil] [(0, 1, (.c (.bool true))), (1, 1, (.t 120)), (2, 1, (.t 122)), (3, 6, (.t 126)), (9, 1, (.t 127))]⟩, true)] (⟨(some 129), none, .ext .ibox [(.t 128)]⟩, true) (⟨(some 11), none, .alloc [(.int .i64 0), (.int .i64 0), (.str []), .snil, .pnil, .pnil]⟩, false) [(⟨(some 130), none, .build [(.int .i64 0), (.int .i64 0), (.str []), .snil, .pnil, .pnil] [(0, 1, (.c (.int .i64 3))), (4, 1, (.t 129))]⟩, true)] [(⟨none, none, .store 6 (.t 11) (.t 130)⟩, true)])
      (.seq (.any [7] [(⟨(some 131), none, .mv (.t 0)⟩, true),
           (⟨(some 132), none, .faddr 5 (.t 4)⟩, false),
           (⟨(some 133), none, .load none (.t 132)⟩, false),
           (⟨(some 134), none, .iaddr (some 6) (.t 133) (.c (.int .i64 1))⟩, false),
           (⟨(some 135), none, .load (some 6) (.t 134)⟩, false),
           (⟨(some 136), none, .faddr 2 (.t 4)⟩, false),
           (⟨(some 137), none, .load none (.t 136)⟩, false),
           (⟨(some 138), none, .load (some 6) (.t 11)⟩, false),
           (⟨(some 139), none, .mv (.t 2)⟩, false),
           (⟨(some 140), none, .build [(.str []), (.int .i64 0), (.int .i64 0), (.str []), .snil, .pnil, .pnil, .pnil] [(0, 1, (.t 137)), (1, 6, (.t 138)), (7, 1, (.t 139))]⟩, false),
           (⟨(some 141), none, .ext .ibox [(.t 140)]⟩, false),
           (⟨(some 142), none, .call (.c (.fn 31)) [(.t 131), (.t 135), (.t 141)]⟩, true),
           (⟨(some 143), none, .extract (.t 142) 0⟩, true),
           (⟨(some 144), none, .extract (.t 142) 1⟩, false),
           (⟨none, none, .store 6 (.t 6) (.t 143)⟩, true),
           (⟨(some 7), none, .mv (.t 144)⟩, true)])
      .ret))
    (.seq (.reg [145] [⟨(some 146), none, .bin .eql .other true (.t 41) (.c (.int .i64 15))⟩,
         ⟨(some 145), none, .mv (.t 146)⟩])
    (.cond (.t 145) (.seq (.reg [7] [⟨(some 147), none, .mv (.t 0)⟩,
           ⟨(some 148), none, .load (some 6) (.t 4)⟩,
           ⟨(some 149), none, .mv (.t 2)⟩,
           ⟨(some 150), none, .call (.c (.fn 51)) [(.t 147), (.t 148), (.t 149)]⟩,
           ⟨(some 151), none, .extract (.t 150) 0⟩,
           ⟨(some 152), none, .extract (.t 150) 1⟩,
           ⟨none, none, .store 6 (.t 6) (.t 151)⟩,
           ⟨(some 7), none, .mv (.t 152)⟩])
      .ret)
    (.seq (.reg [153] [⟨(some 154), none, .bin .eql .other true (.t 41) (.c (.int .i64 14))⟩,
         ⟨(some 153), none, .mv (.t 154)⟩])
    (.cond (.t 153) (.seq (.reg [7] [⟨(some 155), none, .mv (.t 0)⟩,
           ⟨(some 156), none, .load (some 6) (.t 4)⟩,
           ⟨(some 157), none, .mv (.t 2)⟩,
           ⟨(some 158), none, .call (.c (.fn 52)) [(.t 155), (.t 156), (.t 157)]⟩,
           ⟨(some 159), none, .extract (.t 158) 0⟩,
           ⟨(some 160), none, .extract (.t 158) 1⟩,
           ⟨none, none, .store 6 (.t 6) (.t 159)⟩,
           ⟨(some 7), none, .mv (.t 160)⟩])
      .ret)
    .skip))))))))))))))))))
  (.seq (.reg [12, 13] [⟨(some 162), none, .mv (.t 0)⟩,
       ⟨(some 163), none, .faddr 5 (.t 4)⟩,
       ⟨(some 164), none, .load none (.t 163)⟩,
       ⟨(some 165), none, .mv (.t 2)⟩,
       ⟨(some 166), none, .call (.c (.fn 53)) [(.t 162), (.t 164), (.t 165)]⟩,
       ⟨(some 161), none, .mv (.t 166)⟩,
       ⟨(some 167), none, .extract (.t 161) 0⟩,
       ⟨(some 168), none, .extract (.t 161) 1⟩,
       ⟨(some 12), none, .mv (.t 167)⟩,
       ⟨(some 13), none, .mv (.t 168)⟩])
  (.seq (.seq (.reg [170] [⟨(some 169), none, .mv (.t 13)⟩,
        ⟨(some 170), none, .un .not (.t 169)⟩])
   (.cond (.t 170) (.seq (.reg [7] [⟨(some 171), none, .build [(.int .i64 0), (.int .i64 0), (.str []), .snil, .pnil, .pnil] []⟩,
          ⟨none, none, .store 6 (.t 6) (.t 171)⟩,
          ⟨(some 7), none, .mv (.c (.bool false))⟩])
     .ret)
   .skip))
  (.seq (.reg [7] [⟨(some 172), none, .mv (.t 0)⟩,
       ⟨(some 173), none, .load (some 6) (.t 4)⟩,
       ⟨(some 174), none, .mv (.t 12)⟩,
       ⟨(some 175), none, .call (.c (.fn 54)) [(.t 172), (.t 173), (.t 174)]⟩,
       ⟨(some 176), none, .extract (.t 175) 0⟩,
       ⟨(some 177), none, .extract (.t 175) 1⟩,
       ⟨none, none, .store 6 (.t 6) (.t 176)⟩,
       ⟨(some 7), none, .mv (.t 177)⟩])
  .ret))))))))⟩
theorem c31K : compF Tryd.prog [0, 1, 2, 4, 6, 7, 8, 9, 10, 11, 12, 13, 18, 35, 41, 42, 47, 52, 56, 67, 76, 88, 101, 117, 145, 153, 170] Tryd.f31 [86, 113, 129, 141] = some a31K := by kernel_rfl

/- (*bushel/core.machine).cases -/
def a52K : AFun := ⟨132, [.cell 6 (some 6), .tmp 7], (.seq (.reg [4, 6, 7] [⟨(some 4), none, .box (.t 1)⟩,
       ⟨(some 6), none, .alloc [(.int .i64 0), (.int .i64 0), (.str []), .snil, .pnil, .pnil]⟩,
       ⟨(some 7), none, .mv (.c (.bool false))⟩])
  (.seq (.reg [8, 9] [⟨(some 16), none, .mv (.t 0)⟩,
       ⟨(some 17), none, .faddr 5 (.t 4)⟩,
       ⟨(some 18), none, .load none (.t 17)⟩,
       ⟨(some 19), none, .iaddr (some 6) (.t 18) (.c (.int .i64 0))⟩,
       ⟨(some 20), none, .load (some 6) (.t 19)⟩,
       ⟨(some 21), none, .mv (.t 2)⟩,
       ⟨(some 22), none, .call (.c (.fn 31)) [(.t 16), (.t 20), (.t 21)]⟩,
       ⟨(some 15), none, .mv (.t 22)⟩,
       ⟨(some 23), none, .extract (.t 15) 0⟩,
       ⟨(some 24), none, .extract (.t 15) 1⟩,
       ⟨(some 8), none, .alloc [(.int .i64 0), (.int .i64 0), (.str []), .snil, .pnil, .pnil]⟩,
       ⟨none, none, .store 6 (.t 8) (.t 23)⟩,
       ⟨(some 9), none, .mv (.t 24)⟩])
  (.seq (.seq (.reg [26] [⟨(some 25), none, .mv (.t 9)⟩,
        ⟨(some 26), none, .un .not (.t 25)⟩])
   (.cond (.t 26) (.seq (.reg [7] [⟨(some 27), none, .load (some 6) (.t 8)⟩,
          ⟨none, none, .store 6 (.t 6) (.t 27)⟩,
          ⟨(some 7), none, .mv (.c (.bool false))⟩])
     .ret)
   .skip))
  (.seq (.seq (.reg [30] [⟨(some 28), none, .faddr 0 (.t 8)⟩,
        ⟨(some 29), none, .load none (.t 28)⟩,
        ⟨(some 30), none, .bin .neq .other true (.t 29) (.c (.int .i64 5))⟩])
   (.cond (.t 30) (.seq (.reg [7] [⟨(some 31), none, .mv (.t 0)⟩,
          ⟨(some 32), none, .call (.c (.fn 50)) [(.t 31)]⟩,
          ⟨(some 33), none, .extract (.t 32) 0⟩,
          ⟨(some 34), none, .extract (.t 32) 1⟩,
          ⟨none, none, .store 6 (.t 6) (.t 33)⟩,
          ⟨(some 7), none, .mv (.t 34)⟩])
     .ret)
   .skip))
  (.seq (.reg [10] [⟨(some 10), none, .mv (.c (.int .i64 0))⟩])
  (.seq (.seq (.reg [36, 37, 38] [⟨(some 35), none, .faddr 4 (.t 4)⟩,
        ⟨(some 36), none, .load none (.t 35)⟩,
        ⟨(some 37), none, .len .sl (.t 36)⟩,
        ⟨(some 38), none, .mv (.c (.int .i64 0))⟩])
   (.block 0 (.loop (.seq (.reg [39] [⟨(some 39), none, .bin .lss .other false (.t 38) (.t 37)⟩])
     (.seq (.cond (.t 39) .skip
      (.exit 0))
     (.seq (.block 1 (.seq (.reg [11, 12] [⟨(some 40), none, .mv (.t 38)⟩,
            ⟨(some 41), none, .iaddr none (.t 36) (.t 38)⟩,
            ⟨(some 42), none, .load none (.t 41)⟩,
            ⟨(some 11), none, .mv (.t 40)⟩,
            ⟨(some 12), none, .mv (.t 42)⟩])
       (.seq (.reg [13, 14] [⟨(some 44), none, .mv (.t 0)⟩,
            ⟨(some 45), none, .faddr 5 (.t 4)⟩,
            ⟨(some 46), none, .load none (.t 45)⟩,
            ⟨(some 47), none, .mv (.t 11)⟩,
            ⟨(some 48), none, .bin .mul .other true (.c (.int .i64 2)) (.t 47)⟩,
            ⟨(some 49), none, .bin .add .other true (.c (.int .i64 1)) (.t 48)⟩,
            ⟨(some 50), none, .iaddr (some 6) (.t 46) (.t 49)⟩,
            ⟨(some 51), none, .load (some 6) (.t 50)⟩,
            ⟨(some 52), none, .mv (.t 2)⟩,
            ⟨(some 53), none, .call (.c (.fn 31)) [(.t 44), (.t 51), (.t 52)]⟩,
            ⟨(some 43), none, .mv (.t 53)⟩,
            ⟨(some 54), none, .extract (.t 43) 0⟩,
            ⟨(some 55), none, .extract (.t 43) 1⟩,
            ⟨(some 13), none, .alloc [(.int .i64 0), (.int .i64 0), (.str []), .snil, .pnil, .pnil]⟩,
            ⟨none, none, .store 6 (.t 13) (.t 54)⟩,
            ⟨(some 14), none, .mv (.t 55)⟩])
       (.block 2 (.seq (.reg [56] [⟨(some 57), none, .mv (.t 14)⟩,
             ⟨(some 58), none, .un .not (.t 57)⟩,
             ⟨(some 56), none, .mv (.t 58)⟩])
        (.cond (.t 56) (.seq (.reg [7] [⟨(some 59), none, .load (some 6) (.t 13)⟩,
               ⟨none, none, .store 6 (.t 6) (.t 59)⟩,
               ⟨(some 7), none, .mv (.c (.bool false))⟩])
          .ret)
        (.seq (.reg [60] [⟨(some 61), none, .faddr 0 (.t 13)⟩,
             ⟨(some 62), none, .load none (.t 61)⟩,
             ⟨(some 63), none, .bin .neq .other true (.t 62) (.c (.int .i64 1))⟩,
             ⟨(some 60), none, .mv (.t 63)⟩])
        (.cond (.t 60) (.seq (.reg [7] [⟨(some 64), none, .mv (.t 0)⟩,
               ⟨(some 65), none, .call (.c (.fn 50)) [(.t 64)]⟩,
               ⟨(some 66), none, .extract (.t 65) 0⟩,
               ⟨(some 67), none, .extract (.t 65) 1⟩,
               ⟨none, none, .store 6 (.t 6) (.t 66)⟩,
               ⟨(some 7), none, .mv (.t 67)⟩])
          .ret)
        (.seq (.reg [68] [⟨(some 69), none, .faddr 1 (.t 13)⟩,
             ⟨(some 70), none, .load none (.t 69)⟩,
             ⟨(some 71), none, .faddr 1 (.t 8)⟩,
             ⟨(some 72), none, .load none (.t 71)⟩,
             ⟨(some 73), none, .bin .eql .other false (.t 70) (.t 72)⟩,
             ⟨(some 68), none, .mv (.t 73)⟩])
        (.cond (.t 68) (.seq (.any [7] [(⟨(some 74), none, .mv (.t 0)⟩, true),
               (⟨(some 75), none, .faddr 5 (.t 4)⟩, false),
               (⟨(some 76), none, .load none (.t 75)⟩, false),
               (⟨(some 77), none, .mv (.t 11)⟩, false),
               (⟨(some 78), none, .bin .mul .other true (.c (.int .i64 2)) (.t 77)⟩, false),
               (⟨(some 79), none, .bin .add .other true (.c (.int .i64 2)) (.t 78)⟩, false),
               (⟨(some 80), none, .iaddr (some 6) (.t 76) (.t 79)⟩, false),
               (⟨(some 81), none, .load (some 6) (.t 80)⟩, false),
               (⟨(some 82), none, .mv (.t 12)⟩, false),
               (⟨(some 83), none, .faddr 3 (.t 8)⟩, false),
               (⟨(some 84), none, .load none (.t 83)⟩, false),
               (⟨(some 85), none, .iaddr (some 6) (.t 84) (.c (.int .i64 0))⟩, false),
               (⟨(some 86), none, .load (some 6) (.t 85)⟩, false),
               (⟨(some 87), none, .mv (.t 2)⟩, false),
               (⟨(some 88), none, .build [(.str []), (.int .i64 0), (.int .i64 0), (.str []), .snil, .pnil, .pnil, .pnil] [(0, 1, (.t 82)), (1, 6, (.t 86)), (7, 1, (.t 87))]⟩, false),
               (⟨(some 89), none, .ext .ibox [(.t 88)]⟩, false),
               (⟨(some 90), none, .call (.c (.fn 31)) [(.t 74), (.t 81), (.t 89)]⟩, true),
               (⟨(some 91), none, .extract (.t 90) 0⟩, true),
               (⟨(some 92), none, .extract (.t 90) 1⟩, false),
               (⟨none, none, .store 6 (.t 6) (.t 91)⟩, true),
               (⟨(some 7), none, .mv (.t 92)⟩, true)])
          .ret)
        (.seq (.reg [93] [⟨(some 94), none, .faddr 1 (.t 13)⟩,
             ⟨(some 95), none, .load none (.t 94)⟩,
             ⟨(some 96), none, .faddr 1 (.t 8)⟩,
             ⟨(some 97), none, .load none (.t 96)⟩,
             ⟨(some 98), none, .bin .lss .other false (.t 95) (.t 97)⟩,
             ⟨(some 93), none, .mv (.t 98)⟩])
        (.cond (.t 93) (.reg [10] [⟨(some 99), none, .mv (.t 10)⟩,
              ⟨(some 100), none, .bin .add .other true (.t 99) (.c (.int .i64 1))⟩,
              ⟨(some 10), none, .mv (.t 100)⟩])
        .skip))))))))))))
     (.reg [38] [⟨(some 101), none, .bin .add .other true (.t 38) (.c (.int .i64 1))⟩,
         ⟨(some 38), none, .mv (.t 101)⟩])))))))
  (.seq (.seq (.reg [104] [⟨(some 102), none, .faddr 3 (.t 4)⟩,
        ⟨(some 103), none, .load none (.t 102)⟩,
        ⟨(some 104), none, .bin .eql .other true (.t 103) (.c (.str []))⟩])
   (.cond (.t 104) (.seq (.reg [7] [⟨(some 105), none, .mv (.t 0)⟩,
          ⟨(some 106), none, .call (.c (.fn 50)) [(.t 105)]⟩,
          ⟨(some 107), none, .extract (.t 106) 0⟩,
          ⟨(some 108), none, .extract (.t 106) 1⟩,
          ⟨none, none, .store 6 (.t 6) (.t 107)⟩,
          ⟨(some 7), none, .mv (.t 108)⟩])
     .ret)
   .skip))
  (.seq (.reg [] [⟨(some 109), none, .faddr 1 (.t 8)⟩,
       ⟨(some 110), none, .load none (.t 109)⟩,
       ⟨(some 111), none, .mv (.t 10)⟩,
       ⟨(some 112), none, .bin .sub .other false (.t 110) (.t 111)⟩,
       ⟨(some 113), none, .faddr 1 (.t 8)⟩,
       ⟨none, none, .store 1 (.t 113) (.t 112)⟩])
  (.seq (.any [7] [(⟨(some 114), none, .mv (.t 0)⟩, true),
       (⟨(some 115), none, .faddr 5 (.t 4)⟩, false),
       (⟨(some 116), none, .load none (.t 115)⟩, false),
       (⟨(some 117), none, .faddr 5 (.t 4)⟩, false),
       (⟨(some 118), none, .load none (.t 117)⟩, false),
       (⟨(some 119), none, .len .sl (.t 118)⟩, false),
       (⟨(some 120), none, .bin .sub .other true (.t 119) (.c (.int .i64 1))⟩, false),
       (⟨(some 121), none, .iaddr (some 6) (.t 116) (.t 120)⟩, false),
       (⟨(some 122), none, .load (some 6) (.t 121)⟩, false),
       (⟨(some 123), none, .faddr 3 (.t 4)⟩, false),
       (⟨(some 124), none, .load none (.t 123)⟩, false),
       (⟨(some 125), none, .load (some 6) (.t 8)⟩, false),
       (⟨(some 126), none, .mv (.t 2)⟩, false),
       (⟨(some 127), none, .build [(.str []), (.int .i64 0), (.int .i64 0), (.str []), .snil, .pnil, .pnil, .pnil] [(0, 1, (.t 124)), (1, 6, (.t 125)), (7, 1, (.t 126))]⟩, false),
       (⟨(some 128), none, .ext .ibox [(.t 127)]⟩, false),
       (⟨(some 129), none, .call (.c (.fn 31)) [(.t 114), (.t 122), (.t 128)]⟩, true),
       (⟨(some 130), none, .extract (.t 129) 0⟩, true),
       (⟨(some 131), none, .extract (.t 129) 1⟩, false),
       (⟨none, none, .store 6 (.t 6) (.t 130)⟩, true),
       (⟨(some 7), none, .mv (.t 131)⟩, true)])
  .ret)))))))))⟩
theorem c52K : compF Tryd.prog [0, 1, 2, 4, 6, 7, 8, 9, 10, 11, 12, 13, 14, 26, 30, 36, 37, 38, 39, 56, 60, 68, 93, 104] Tryd.f52 [89, 128] = some a52K := by kernel_rfl

/- (*bushel/core.machine).all -/
def a53M : AFun := ⟨34, [.tmp 6, .tmp 7], (.seq (.reg [6, 7] [⟨(some 6), none, .mv (.c .snil)⟩,
       ⟨(some 7), none, .mv (.c (.bool false))⟩])
  (.seq (.reg [8] [⟨(some 8), none, .mv (.c .snil)⟩])
  (.seq (.seq (.reg [13, 14, 15] [⟨(some 13), none, .mv (.t 1)⟩,
        ⟨(some 14), none, .len .sl (.t 13)⟩,
        ⟨(some 15), none, .mv (.c (.int .i64 0))⟩])
   (.block 0 (.loop (.seq (.reg [16] [⟨(some 16), none, .bin .lss .other false (.t 15) (.t 14)⟩])
     (.seq (.cond (.t 16) .skip
      (.exit 0))
     (.seq (.block 1 (.seq (.reg [10] [⟨(some 17), none, .iaddr (some 6) (.t 13) (.t 15)⟩,
            ⟨(some 18), none, .load (some 6) (.t 17)⟩,
            ⟨(some 10), none, .alloc [(.int .i64 0), (.int .i64 0), (.str []), (.str []), .snil, .snil]⟩,
            ⟨none, none, .store 6 (.t 10) (.t 18)⟩])
       (.seq (.reg [11, 12] [⟨(some 20), none, .mv (.t 0)⟩,
            ⟨(some 21), none, .load (some 6) (.t 10)⟩,
            ⟨(some 22), none, .mv (.t 2)⟩,
            ⟨(some 23), none, .call (.c (.fn 31)) [(.t 20), (.t 21), (.t 22)]⟩,
            ⟨(some 19), none, .mv (.t 23)⟩,
            ⟨(some 24), none, .extract (.t 19) 0⟩,
            ⟨(some 25), none, .extract (.t 19) 1⟩,
            ⟨(some 11), none, .alloc [(.int .i64 0), (.int .i64 0), (.str []), .snil, .pnil, .pnil]⟩,
            ⟨none, none, .store 6 (.t 11) (.t 24)⟩,
            ⟨(some 12), none, .mv (.t 25)⟩])
       (.seq (.seq (.reg [27] [⟨(some 26), none, .mv (.t 12)⟩,
             ⟨(some 27), none, .un .not (.t 26)⟩])
        (.cond (.t 27) (.seq (.reg [6, 7] [⟨(some 6), none, .mv (.c .snil)⟩,
               ⟨(some 7), none, .mv (.c (.bool false))⟩])
          .ret)
        .skip))
       (.reg [8] [⟨(some 28), none, .mv (.t 8)⟩,
           ⟨(some 29), none, .load (some 6) (.t 11)⟩,
           ⟨(some 30), none, .mksl (some 6) [(.t 29)]⟩,
           ⟨(some 31), none, .ext (.appm (some 6) 72) [(.t 28), (.t 30)]⟩,
           ⟨(some 8), none, .mv (.t 31)⟩])))))
     (.reg [15] [⟨(some 32), none, .bin .add .other true (.t 15) (.c (.int .i64 1))⟩,
         ⟨(some 15), none, .mv (.t 32)⟩])))))))
  (.seq (.reg [6, 7] [⟨(some 33), none, .mv (.t 8)⟩,
       ⟨(some 6), none, .mv (.t 33)⟩,
       ⟨(some 7), none, .mv (.c (.bool true))⟩])
  .ret))))⟩
theorem c53M : compF Tryd.prog [0, 1, 2, 6, 7, 8, 10, 11, 12, 13, 14, 15, 16, 27] Tryd.f53 [31] = some a53M := by kernel_rfl

/- (*bushel/core.machine).do -/
def a54M : AFun := ⟨162, [.cell 6 (some 6), .tmp 7], (.seq (.reg [4, 6, 7] [⟨(some 4), none, .box (.t 1)⟩,
       ⟨(some 6), none, .alloc [(.int .i64 0), (.int .i64 0), (.str []), .snil, .pnil, .pnil]⟩,
       ⟨(some 7), none, .mv (.c (.bool false))⟩])
  (.seq (.seq (.reg [10] [⟨(some 9), none, .faddr 0 (.t 4)⟩,
        ⟨(some 10), none, .load none (.t 9)⟩])
   (.block 0 (.seq (.reg [11] [⟨(some 12), none, .bin .eql .other true (.t 10) (.c (.int .i64 5))⟩,
         ⟨(some 11), none, .mv (.t 12)⟩])
    (.cond (.t 11) (.seq (.reg [7] [⟨(some 13), none, .mv (.t 0)⟩,
           ⟨(some 14), none, .mv (.t 2)⟩,
           ⟨(some 15), none, .call (.c (.fn 81)) [(.t 13), (.t 14)]⟩,
           ⟨(some 16), none, .extract (.t 15) 0⟩,
           ⟨(some 17), none, .extract (.t 15) 1⟩,
           ⟨none, none, .store 6 (.t 6) (.t 16)⟩,
           ⟨(some 7), none, .mv (.t 17)⟩])
      .ret)
    (.seq (.reg [18] [⟨(some 19), none, .bin .eql .other true (.t 10) (.c (.int .i64 8))⟩,
         ⟨(some 18), none, .mv (.t 19)⟩])
    (.cond (.t 18) (.seq (.reg [7] [⟨(some 20), none, .mv (.t 2)⟩,
           ⟨(some 21), none, .build [(.int .i64 0), (.int .i64 0), (.str []), .snil, .pnil, .pnil] [(0, 1, (.c (.int .i64 4))), (3, 1, (.t 20))]⟩,
           ⟨none, none, .store 6 (.t 6) (.t 21)⟩,
           ⟨(some 7), none, .mv (.c (.bool true))⟩])
      .ret)
    (.seq (.seq (.reg [22] [⟨(some 23), none, .bin .eql .other true (.t 10) (.c (.int .i64 9))⟩,
          ⟨(some 22), none, .mv (.t 23)⟩])
     (.cond (.t 22) .skip
     (.seq (.reg [22] [⟨(some 24), none, .bin .eql .other true (.t 10) (.c (.int .i64 11))⟩,
          ⟨(some 22), none, .mv (.t 24)⟩])
     (.cond (.t 22) .skip
     (.seq (.reg [22] [⟨(some 25), none, .bin .eql .other true (.t 10) (.c (.int .i64 10))⟩,
          ⟨(some 22), none, .mv (.t 25)⟩])
     (.cond (.t 22) .skip
     (.reg [22] [⟨(some 26), none, .bin .eql .other true (.t 10) (.c (.int .i64 12))⟩,
         ⟨(some 22), none, .mv (.t 26)⟩])))))))
    (.cond (.t 22) (.seq (.reg [7] [⟨(some 27), none, .mv (.t 0)⟩,
           ⟨(some 28), none, .faddr 0 (.t 4)⟩,
           ⟨(some 29), none, .load none (.t 28)⟩,
           ⟨(some 30), none, .mv (.t 2)⟩,
           ⟨(some 31), none, .call (.c (.fn 82)) [(.t 27), (.t 29), (.t 30)]⟩,
           ⟨(some 32), none, .extract (.t 31) 0⟩,
           ⟨(some 33), none, .extract (.t 31) 1⟩,
           ⟨none, none, .store 6 (.t 6) (.t 32)⟩,
           ⟨(some 7), none, .mv (.t 33)⟩])
      .ret)
    (.seq (.reg [34] [⟨(some 35), none, .bin .eql .other true (.t 10) (.c (.int .i64 13))⟩,
         ⟨(some 34), none, .mv (.t 35)⟩])
    (.cond (.t 34) (.seq (.reg [39] [⟨(some 36), none, .mv (.t 2)⟩,
           ⟨(some 37), none, .slice (.sl (some 6)) (.t 36) (some (.c (.int .i64 1))) none none⟩,
           ⟨(some 38), none, .mksl none [(.c (.int .i64 1))]⟩,
           ⟨(some 39), none, .call (.c (.fn 83)) [(.t 37), (.t 38)]⟩])
      (.cond (.t 39) (.seq (.any [7] [(⟨(some 40), none, .mv (.t 2)⟩, true),
             (⟨(some 41), none, .iaddr (some 6) (.t 40) (.c (.int .i64 1))⟩, true),
             (⟨(some 42), none, .faddr 1 (.t 41)⟩, true),
             (⟨(some 43), none, .load none (.t 42)⟩, true),
             (⟨(some 44), none, .mv (.t 2)⟩, false),
             (⟨(some 45), none, .slice (.sl (some 6)) (.t 44) none (some (.c (.int .i64 1))) none⟩, false),
             (⟨(some 46), none, .build [(.int .i64 0), (.int .i64 0), (.str []), .snil, .pnil, .pnil] [(0, 1, (.c (.int .i64 5))), (1, 1, (.t 43)), (3, 1, (.t 45))]⟩, true),
             (⟨none, none, .store 6 (.t 6) (.t 46)⟩, true),
             (⟨(some 7), none, .mv (.c (.bool true))⟩, true)])
        .ret)
      .skip))
    (.seq (.reg [47] [⟨(some 48), none, .bin .eql .other true (.t 10) (.c (.int .i64 16))⟩,
         ⟨(some 47), none, .mv (.t 48)⟩])
    (.cond (.t 47) (.seq (.any [7] [(⟨(some 49), none, .mv (.t 0)⟩, true),
           (⟨(some 50), none, .faddr 2 (.t 4)⟩, false),
           (⟨(some 51), none, .load none (.t 50)⟩, false),
           (⟨(some 52), none, .mv (.t 2)⟩, false),
           (⟨(some 53), none, .iaddr (some 6) (.t 52) (.c (.int .i64 0))⟩, false),
           (⟨(some 54), none, .load (some 6) (.t 53)⟩, false),
           (⟨(some 55), none, .mv (.t 2)⟩, false),
           (⟨(some 56), none, .iaddr (some 6) (.t 55) (.c (.int .i64 1))⟩, false),
           (⟨(some 57), none, .load (some 6) (.t 56)⟩, false),
           (⟨(some 58), none, .call (.c (.fn 84)) [(.t 49), (.t 51), (.t 54), (.t 57)]⟩, true),
           (⟨(some 59), none, .extract (.t 58) 0⟩, true),
           (⟨(some 60), none, .extract (.t 58) 1⟩, false),
           (⟨none, none, .store 6 (.t 6) (.t 59)⟩, true),
           (⟨(some 7), none, .mv (.t 60)⟩, true)])
      .ret)
    (.seq (.reg [61] [⟨(some 62), none, .bin .eql .other true (.t 10) (.c (.int .i64 17))⟩,
         ⟨(some 61), none, .mv (.t 62)⟩])
    (.cond (.t 61) (.seq (.reg [7] [⟨(some 63), none, .mv (.t 2)⟩,
           ⟨(some 64), none, .ext (.iexp (some 6)) [(.t 63), (.c (.int .i64 0))]⟩,
           ⟨(some 65), none, .build [(.int .i64 0), (.int .i64 0), (.str []), .snil, .pnil, .pnil] [(0, 1, (.c (.int .i64 6))), (5, 1, (.t 64))]⟩,
           ⟨none, none, .store 6 (.t 6) (.t 65)⟩,
           ⟨(some 7), none, .mv (.c (.bool true))⟩])
      .ret)
    (.seq (.reg [66] [⟨(some 67), none, .bin .eql .other true (.t 10) (.c (.int .i64 18))⟩,
         ⟨(some 66), none, .mv (.t 67)⟩])
    (.cond (.t 66) (.seq (.reg [70] [⟨(some 68), none, .mv (.t 2)⟩,
           ⟨(some 69), none, .mksl none [(.c (.int .i64 6))]⟩,
           ⟨(some 70), none, .call (.c (.fn 83)) [(.t 68), (.t 69)]⟩])
      (.cond (.t 70) (.seq (.reg [7] [⟨(some 71), none, .mv (.t 2)⟩,
             ⟨(some 72), none, .iaddr (some 6) (.t 71) (.c (.int .i64 0))⟩,
             ⟨(some 73), none, .faddr 5 (.t 72)⟩,
             ⟨(some 74), none, .load none (.t 73)⟩,
             ⟨(some 75), none, .nilck (.t 74)⟩,
             ⟨(some 76), none, .ext (.ldk (some 6)) [(.t 75)]⟩,
             ⟨none, none, .store 6 (.t 6) (.t 76)⟩,
             ⟨(some 7), none, .mv (.c (.bool true))⟩])
        .ret)
      .skip))
    (.seq (.reg [77] [⟨(some 78), none, .bin .eql .other true (.t 10) (.c (.int .i64 19))⟩,
         ⟨(some 77), none, .mv (.t 78)⟩])
    (.cond (.t 77) (.seq (.reg [81] [⟨(some 79), none, .mv (.t 2)⟩,
           ⟨(some 80), none, .mksl none [(.c (.int .i64 6))]⟩,
           ⟨(some 81), none, .call (.c (.fn 83)) [(.t 79), (.t 80)]⟩])
      (.cond (.t 81) (.seq (.any [] [(⟨(some 82), none, .mv (.t 2)⟩, true),
             (⟨(some 83), none, .iaddr (some 6) (.t 82) (.c (.int .i64 0))⟩, true),
             (⟨(some 84), none, .faddr 5 (.t 83)⟩, true),
             (⟨(some 85), none, .load none (.t 84)⟩, true),
             (⟨(some 86), none, .mv (.t 2)⟩, false),
             (⟨(some 87), none, .iaddr (some 6) (.t 86) (.c (.int .i64 1))⟩, false),
             (⟨(some 88), none, .load (some 6) (.t 87)⟩, false),
             (⟨(some 89), none, .nilck (.t 85)⟩, true),
             (⟨none, none, .store 6 (.t 89) (.t 88)⟩, true)])
        (.seq (.reg [7] [⟨(some 90), none, .build [(.int .i64 0), (.int .i64 0), (.str []), .snil, .pnil, .pnil] [(0, 1, (.c (.int .i64 4)))]⟩,
             ⟨none, none, .store 6 (.t 6) (.t 90)⟩,
             ⟨(some 7), none, .mv (.c (.bool true))⟩])
        .ret))
      .skip))
    (.seq (.reg [91] [⟨(some 92), none, .bin .eql .other true (.t 10) (.c (.int .i64 20))⟩,
         ⟨(some 91), none, .mv (.t 92)⟩])
    (.cond (.t 91) (.seq (.reg [95] [⟨(some 93), none, .mv (.t 2)⟩,
           ⟨(some 94), none, .mksl none [(.c (.int .i64 2))]⟩,
           ⟨(some 95), none, .call (.c (.fn 83)) [(.t 93), (.t 94)]⟩])
      (.cond (.t 95) (.seq (.any [] [(⟨(some 96), none, .mv (.t 0)⟩, true),
             (⟨(some 97), none, .mv (.t 0)⟩, false),
             (⟨(some 98), none, .nilck (.t 97)⟩, false),
             (⟨(some 99), none, .faddr 2 (.t 98)⟩, false),
             (⟨(some 100), none, .faddr 3 (.t 99)⟩, false),
             (⟨(some 101), none, .load none (.t 100)⟩, false),
             (⟨(some 102), none, .mv (.t 2)⟩, false),
             (⟨(some 103), none, .iaddr (some 6) (.t 102) (.c (.int .i64 0))⟩, false),
             (⟨(some 104), none, .faddr 2 (.t 103)⟩, false),
             (⟨(some 105), none, .load none (.t 104)⟩, false),
             (⟨(some 106), none, .mksl none [(.t 105)]⟩, false),
             (⟨(some 107), none, .append none 16 (.t 101) (.t 106)⟩, false),
             (⟨(some 108), none, .nilck (.t 96)⟩, true),
             (⟨(some 109), none, .faddr 2 (.t 108)⟩, true),
             (⟨(some 110), none, .faddr 3 (.t 109)⟩, true),
             (⟨none, none, .store 1 (.t 110) (.t 107)⟩, true)])
        (.seq (.reg [7] [⟨(some 111), none, .build [(.int .i64 0), (.int .i64 0), (.str []), .snil, .pnil, .pnil] [(0, 1, (.c (.int .i64 4)))]⟩,
             ⟨none, none, .store 6 (.t 6) (.t 111)⟩,
             ⟨(some 7), none, .mv (.c (.bool true))⟩])
        .ret))
      .skip))
    (.seq (.reg [112] [⟨(some 113), none, .bin .eql .other true (.t 10) (.c (.int .i64 21))⟩,
         ⟨(some 112), none, .mv (.t 113)⟩])
    (.cond (.t 112) (.seq (.reg [116] [⟨(some 114), none, .mv (.t 2)⟩,
           ⟨(some 115), none, .mksl none [(.c (.int .i64 1))]⟩,
           ⟨(some 116), none, .call (.c (.fn 83)) [(.t 114), (.t 115)]⟩])
      (.cond (.t 116) (.seq (.reg [7] [⟨(some 117), none, .mv (.t 2)⟩,
             ⟨(some 118), none, .iaddr (some 6) (.t 117) (.c (.int .i64 0))⟩,
             ⟨(some 119), none, .faddr 1 (.t 118)⟩,
             ⟨(some 120), none, .load none (.t 119)⟩,
             ⟨(some 121), none, .call (.c (.fn 63)) [(.t 120), (.c (.int .i64 10))]⟩,
             ⟨(some 122), none, .build [(.int .i64 0), (.int .i64 0), (.str []), .snil, .pnil, .pnil] [(0, 1, (.c (.int .i64 2))), (2, 1, (.t 121))]⟩,
             ⟨none, none, .store 6 (.t 6) (.t 122)⟩,
             ⟨(some 7), none, .mv (.c (.bool true))⟩])
        .ret)
      .skip))
    (.seq (.reg [123] [⟨(some 124), none, .bin .eql .other true (.t 10) (.c (.int .i64 22))⟩,
         ⟨(some 123), none, .mv (.t 124)⟩])
    (.cond (.t 123) (.seq (.seq (.reg [130] [⟨(some 125), none, .mv (.t 0)⟩,
            ⟨(some 126), none, .nilck (.t 125)⟩,
            ⟨(some 127), none, .faddr 0 (.t 126)⟩,
            ⟨(some 128), none, .load none (.t 127)⟩,
            ⟨(some 129), none, .len .sl (.t 128)⟩,
            ⟨(some 130), none, .bin .eql .other true (.t 129) (.c (.int .i64 0))⟩])
       (.cond (.t 130) (.seq (.reg [7] [⟨(some 131), none, .mv (.t 0)⟩,
              ⟨(some 132), none, .call (.c (.fn 48)) [(.t 131), (.c (.int .i64 9)), (.c (.int .i64 3))]⟩,
              ⟨(some 133), none, .extract (.t 132) 0⟩,
              ⟨(some 134), none, .extract (.t 132) 1⟩,
              ⟨none, none, .store 6 (.t 6) (.t 133)⟩,
              ⟨(some 7), none, .mv (.t 134)⟩])
         .ret)
       .skip))
      (.seq (.reg [8] [⟨(some 135), none, .mv (.t 0)⟩,
           ⟨(some 136), none, .nilck (.t 135)⟩,
           ⟨(some 137), none, .faddr 0 (.t 136)⟩,
           ⟨(some 138), none, .load none (.t 137)⟩,
           ⟨(some 139), none, .iaddr none (.t 138) (.c (.int .i64 0))⟩,
           ⟨(some 140), none, .load none (.t 139)⟩,
           ⟨(some 8), none, .mv (.t 140)⟩])
      (.seq (.reg [] [⟨(some 141), none, .mv (.t 0)⟩,
           ⟨(some 142), none, .mv (.t 0)⟩,
           ⟨(some 143), none, .nilck (.t 142)⟩,
           ⟨(some 144), none, .faddr 0 (.t 143)⟩,
           ⟨(some 145), none, .load none (.t 144)⟩,
           ⟨(some 146), none, .slice (.sl none) (.t 145) (some (.c (.int .i64 1))) none none⟩,
           ⟨(some 147), none, .nilck (.t 141)⟩,
           ⟨(some 148), none, .faddr 0 (.t 147)⟩,
           ⟨none, none, .store 1 (.t 148) (.t 146)⟩])
      (.seq (.seq (.reg [151] [⟨(some 149), none, .mv (.t 8)⟩,
            ⟨(some 150), none, .len .str (.t 149)⟩,
            ⟨(some 151), none, .bin .gtr .other true (.t 150) (.c (.int .i64 2000))⟩])
       (.cond (.t 151) (.seq (.reg [7] [⟨(some 152), none, .mv (.t 0)⟩,
              ⟨(some 153), none, .call (.c (.fn 48)) [(.t 152), (.c (.int .i64 9)), (.c (.int .i64 2))]⟩,
              ⟨(some 154), none, .extract (.t 153) 0⟩,
              ⟨(some 155), none, .extract (.t 153) 1⟩,
              ⟨none, none, .store 6 (.t 6) (.t 154)⟩,
              ⟨(some 7), none, .mv (.t 155)⟩])
         .ret)
       .skip))
      (.seq (.reg [7] [⟨(some 156), none, .mv (.t 8)⟩,
           ⟨(some 157), none, .build [(.int .i64 0), (.int .i64 0), (.str []), .snil, .pnil, .pnil] [(0, 1, (.c (.int .i64 2))), (2, 1, (.t 156))]⟩,
           ⟨none, none, .store 6 (.t 6) (.t 157)⟩,
           ⟨(some 7), none, .mv (.c (.bool true))⟩])
      .ret)))))
    .skip))))))))))))))))))))))))
  (.seq (.reg [7] [⟨(some 158), none, .mv (.t 0)⟩,
       ⟨(some 159), none, .call (.c (.fn 50)) [(.t 158)]⟩,
       ⟨(some 160), none, .extract (.t 159) 0⟩,
       ⟨(some 161), none, .extract (.t 159) 1⟩,
       ⟨none, none, .store 6 (.t 6) (.t 160)⟩,
       ⟨(some 7), none, .mv (.t 161)⟩])
  .ret)))⟩
theorem c54M : compF Tryd.prog [0, 1, 2, 4, 6, 7, 8, 10, 11, 18, 22, 34, 39, 47, 61, 66, 70, 77, 81, 91, 95, 112, 116, 123, 130, 151] Tryd.f54 [64, 76] = some a54M := by kernel_rfl

/- (*bushel/core.machine).apply -/
def a81K : AFun := ⟨56, [.cell 4 (some 6), .tmp 5], (.seq (.reg [4, 5] [⟨(some 4), none, .alloc [(.int .i64 0), (.int .i64 0), (.str []), .snil, .pnil, .pnil]⟩,
       ⟨(some 5), none, .mv (.c (.bool false))⟩])
  (.seq (.seq (.reg [11] [⟨(some 8), none, .mv (.t 1)⟩,
        ⟨(some 9), none, .mksl none [(.c (.int .i64 3))]⟩,
        ⟨(some 10), none, .call (.c (.fn 83)) [(.t 8), (.t 9)]⟩,
        ⟨(some 11), none, .un .not (.t 10)⟩])
   (.cond (.t 11) (.seq (.reg [5] [⟨(some 12), none, .mv (.t 0)⟩,
          ⟨(some 13), none, .call (.c (.fn 50)) [(.t 12)]⟩,
          ⟨(some 14), none, .extract (.t 13) 0⟩,
          ⟨(some 15), none, .extract (.t 13) 1⟩,
          ⟨none, none, .store 6 (.t 4) (.t 14)⟩,
          ⟨(some 5), none, .mv (.t 15)⟩])
     .ret)
   .skip))
  (.seq (.reg [6] [⟨(some 16), none, .mv (.t 1)⟩,
       ⟨(some 17), none, .iaddr (some 6) (.t 16) (.c (.int .i64 0))⟩,
       ⟨(some 18), none, .faddr 4 (.t 17)⟩,
       ⟨(some 19), none, .load none (.t 18)⟩,
       ⟨(some 6), none, .mv (.t 19)⟩])
  (.seq (.reg [7] [⟨(some 20), none, .mv (.t 6)⟩,
       ⟨(some 21), none, .nilck (.t 20)⟩,
       ⟨(some 22), none, .faddr 9 (.t 21)⟩,
       ⟨(some 23), none, .load none (.t 22)⟩,
       ⟨(some 7), none, .mv (.t 23)⟩])
  (.seq (.seq (.reg [27] [⟨(some 24), none, .mv (.t 6)⟩,
        ⟨(some 25), none, .nilck (.t 24)⟩,
        ⟨(some 26), none, .faddr 0 (.t 25)⟩,
        ⟨(some 27), none, .load none (.t 26)⟩])
   (.cond (.t 27) (.any [7] [(⟨(some 28), none, .mv (.t 6)⟩, true),
         (⟨(some 29), none, .nilck (.t 28)⟩, true),
         (⟨(some 30), none, .faddr 1 (.t 29)⟩, true),
         (⟨(some 31), none, .load none (.t 30)⟩, true),
         (⟨(some 32), none, .mv (.t 1)⟩, false),
         (⟨(some 33), none, .iaddr (some 6) (.t 32) (.c (.int .i64 0))⟩, false),
         (⟨(some 34), none, .load (some 6) (.t 33)⟩, false),
         (⟨(some 35), none, .mv (.t 7)⟩, false),
         (⟨(some 36), none, .build [(.str []), (.int .i64 0), (.int .i64 0), (.str []), .snil, .pnil, .pnil, .pnil] [(0, 1, (.t 31)), (1, 6, (.t 34)), (7, 1, (.t 35))]⟩, true),
         (⟨(some 37), none, .ext .ibox [(.t 36)]⟩, true),
         (⟨(some 7), none, .mv (.t 37)⟩, true)])
   .skip))
  (.seq (.any [5] [(⟨(some 38), none, .mv (.t 0)⟩, true),
       (⟨(some 39), none, .mv (.t 6)⟩, false),
       (⟨(some 40), none, .nilck (.t 39)⟩, false),
       (⟨(some 41), none, .faddr 3 (.t 40)⟩, false),
       (⟨(some 42), none, .load (some 6) (.t 41)⟩, false),
       (⟨(some 43), none, .mv (.t 6)⟩, false),
       (⟨(some 44), none, .nilck (.t 43)⟩, false),
       (⟨(some 45), none, .faddr 2 (.t 44)⟩, false),
       (⟨(some 46), none, .load none (.t 45)⟩, false),
       (⟨(some 47), none, .mv (.t 1)⟩, false),
       (⟨(some 48), none, .iaddr (some 6) (.t 47) (.c (.int .i64 1))⟩, false),
       (⟨(some 49), none, .load (some 6) (.t 48)⟩, false),
       (⟨(some 50), none, .mv (.t 7)⟩, false),
       (⟨(some 51), none, .build [(.str []), (.int .i64 0), (.int .i64 0), (.str []), .snil, .pnil, .pnil, .pnil] [(0, 1, (.t 46)), (1, 6, (.t 49)), (7, 1, (.t 50))]⟩, false),
       (⟨(some 52), none, .ext .ibox [(.t 51)]⟩, false),
       (⟨(some 53), none, .call (.c (.fn 31)) [(.t 38), (.t 42), (.t 52)]⟩, true),
       (⟨(some 54), none, .extract (.t 53) 0⟩, true),
       (⟨(some 55), none, .extract (.t 53) 1⟩, false),
       (⟨none, none, .store 6 (.t 4) (.t 54)⟩, true),
       (⟨(some 5), none, .mv (.t 55)⟩, true)])
  .ret))))))⟩
theorem c81K : compF Tryd.prog [0, 1, 4, 5, 6, 7, 11, 27] Tryd.f81 [37, 52] = some a81K := by kernel_rfl

/- slices.Concat[[]bushel/core.Value,bushel/core.Value] -/
def a102W : AFun := ⟨36, [.tmp 2], (.seq (.reg [2] [⟨(some 2), none, .mv (.c .snil)⟩])
  (.seq (.reg [3] [⟨(some 3), none, .mv (.c (.int .i64 0))⟩])
  (.seq (.seq (.reg [9, 10, 11] [⟨(some 9), none, .mv (.t 0)⟩,
        ⟨(some 10), none, .len .sl (.t 9)⟩,
        ⟨(some 11), none, .mv (.c (.int .i64 0))⟩])
   (.block 0 (.loop (.seq (.reg [12] [⟨(some 12), none, .bin .lss .other false (.t 11) (.t 10)⟩])
     (.seq (.cond (.t 12) .skip
      (.exit 0))
     (.seq (.block 1 (.seq (.reg [5] [⟨(some 13), none, .iaddr none (.t 9) (.t 11)⟩,
            ⟨(some 14), none, .load none (.t 13)⟩,
            ⟨(some 5), none, .mv (.t 14)⟩])
       (.seq (.reg [3] [⟨(some 15), none, .mv (.t 3)⟩,
            ⟨(some 16), none, .mv (.t 5)⟩,
            ⟨(some 17), none, .len .sl (.t 16)⟩,
            ⟨(some 18), none, .bin .add .other false (.t 15) (.t 17)⟩,
            ⟨(some 3), none, .mv (.t 18)⟩])
       (.seq (.reg [20] [⟨(some 19), none, .mv (.t 3)⟩,
            ⟨(some 20), none, .bin .lss .other true (.t 19) (.c (.int .i64 0))⟩])
       (.cond (.t 20) (.reg [] [⟨(some 21), none, .mkif 9 (.c (.str [108, 101, 110, 32, 111, 117, 116, 32, 111, 102, 32, 114, 97, 110, 103, 101]))⟩,
             ⟨none, none, .ext .stop []⟩])
       .skip)))))
     (.reg [11] [⟨(some 22), none, .bin .add .other true (.t 11) (.c (.int .i64 1))⟩,
         ⟨(some 11), none, .mv (.t 22)⟩])))))))
  (.seq (.reg [6] [⟨(some 23), none, .mv (.t 3)⟩,
       ⟨(some 24), none, .call (.c (.fn 124)) [(.c .snil), (.t 23)]⟩,
       ⟨(some 6), none, .mv (.t 24)⟩])
  (.seq (.seq (.reg [25, 26, 27] [⟨(some 25), none, .mv (.t 0)⟩,
        ⟨(some 26), none, .len .sl (.t 25)⟩,
        ⟨(some 27), none, .mv (.c (.int .i64 0))⟩])
   (.block 2 (.loop (.seq (.reg [28] [⟨(some 28), none, .bin .lss .other false (.t 27) (.t 26)⟩])
     (.seq (.cond (.t 28) .skip
      (.exit 2))
     (.seq (.block 3 (.seq (.reg [8] [⟨(some 29), none, .iaddr none (.t 25) (.t 27)⟩,
            ⟨(some 30), none, .load none (.t 29)⟩,
            ⟨(some 8), none, .mv (.t 30)⟩])
       (.reg [6] [⟨(some 31), none, .mv (.t 6)⟩,
           ⟨(some 32), none, .mv (.t 8)⟩,
           ⟨(some 33), none, .ext (.appm (some 6) 72) [(.t 31), (.t 32)]⟩,
           ⟨(some 6), none, .mv (.t 33)⟩])))
     (.reg [27] [⟨(some 34), none, .bin .add .other true (.t 27) (.c (.int .i64 1))⟩,
         ⟨(some 27), none, .mv (.t 34)⟩])))))))
  (.seq (.reg [2] [⟨(some 35), none, .mv (.t 6)⟩,
       ⟨(some 2), none, .mv (.t 35)⟩])
  .ret))))))⟩
theorem c102W : compF Tryd.prog [0, 2, 3, 5, 6, 8, 9, 10, 11, 12, 20, 25, 26, 27, 28] Tryd.f102 [33] = some a102W := by kernel_rfl

/- bushel/core.flag -/
def a103 : AFun := ⟨4, [.tmp 2], (.seq (.reg [2] [⟨(some 2), none, .mv (.c (.int .i64 0))⟩])
  (.seq (.seq (.reg [3] [⟨(some 3), none, .mv (.t 0)⟩])
   (.cond (.t 3) (.seq (.reg [2] [⟨(some 2), none, .mv (.c (.int .i64 1))⟩])
     .ret)
   .skip))
  (.seq (.reg [2] [⟨(some 2), none, .mv (.c (.int .i64 0))⟩])
  .ret)))⟩
theorem c103 : compF Tryd.prog [0, 2, 3] Tryd.f103 = some a103 := by kernel_rfl

/- strconv.FormatInt -/
def a63 : AFun := ⟨8, [.tmp 4], (.seq (.reg [4] [⟨(some 4), none, .mv (.c (.str []))⟩])
  (.seq (.reg [4] [⟨(some 5), none, .mv (.t 0)⟩,
       ⟨(some 6), none, .mv (.t 1)⟩,
       ⟨(some 7), none, .call (.c (.fn 91)) [(.t 5), (.t 6)]⟩,
       ⟨(some 4), none, .mv (.t 7)⟩])
  .ret))⟩
theorem c63 : compF Tryd.prog [0, 1, 4] Tryd.f63 = some a63 := by kernel_rfl

/- bushel/bushellaw14.CoreMore -/
def a3 : AFun := ⟨121, [.tmp 8], (.seq (.reg [4, 8] [⟨(some 4), none, .box (.t 0)⟩,
       ⟨(some 8), none, .mv (.c (.bool false))⟩])
  (.seq (.reg [9] [⟨(some 16), none, .call (.c (.fn 7)) []⟩,
       ⟨(some 9), none, .mv (.t 16)⟩])
  (.seq (.reg [10] [⟨(some 17), none, .load (some 6) (.t 4)⟩,
       ⟨(some 18), none, .call (.c (.fn 8)) [(.t 17)]⟩,
       ⟨(some 10), none, .mv (.t 18)⟩])
  (.seq (.reg [11] [⟨(some 19), none, .mv (.t 1)⟩,
       ⟨(some 20), none, .call (.c (.fn 9)) [(.t 19)]⟩,
       ⟨(some 11), none, .mv (.t 20)⟩])
  (.seq (.seq (.reg [42] [⟨(some 21), none, .mv (.t 10)⟩,
        ⟨(some 22), none, .un .not (.t 21)⟩,
        ⟨(some 23), none, .mv (.t 22)⟩,
        ⟨(some 24), (some (23, false)), .mv (.t 11)⟩,
        ⟨(some 25), (some (23, false)), .un .not (.t 24)⟩,
        ⟨(some 26), none, .pick (.t 23) (.c (.bool true)) (.t 25)⟩,
        ⟨(some 27), none, .mv (.t 26)⟩,
        ⟨(some 28), (some (27, false)), .mv (.t 2)⟩,
        ⟨(some 29), (some (27, false)), .bin .lss .other true (.t 28) (.c (.int .i64 0))⟩,
        ⟨(some 30), none, .pick (.t 27) (.c (.bool true)) (.t 29)⟩,
        ⟨(some 31), none, .mv (.t 30)⟩,
        ⟨(some 32), (some (31, false)), .mv (.t 3)⟩,
        ⟨(some 33), (some (31, false)), .bin .lss .other true (.t 32) (.c (.int .i64 0))⟩,
        ⟨(some 34), none, .pick (.t 31) (.c (.bool true)) (.t 33)⟩,
        ⟨(some 35), none, .mv (.t 34)⟩,
        ⟨(some 36), (some (35, false)), .mv (.t 2)⟩,
        ⟨(some 37), (some (35, false)), .bin .gtr .other true (.t 36) (.c (.int .i64 2000))⟩,
        ⟨(some 38), none, .pick (.t 35) (.c (.bool true)) (.t 37)⟩,
        ⟨(some 39), none, .mv (.t 38)⟩,
        ⟨(some 40), (some (39, false)), .mv (.t 3)⟩,
        ⟨(some 41), (some (39, false)), .bin .gtr .other true (.t 40) (.c (.int .i64 2000))⟩,
        ⟨(some 42), none, .pick (.t 39) (.c (.bool true)) (.t 41)⟩])
   (.cond (.t 42) (.seq (.reg [8] [⟨(some 43), none, .mv (.t 9)⟩,
          ⟨(some 8), none, .mv (.t 43)⟩])
     .ret)
   .skip))
  (.seq (.reg [12, 13] [⟨(some 45), none, .load (some 6) (.t 4)⟩,
       ⟨(some 46), none, .mv (.t 1)⟩,
       ⟨(some 47), none, .mv (.t 2)⟩,
       ⟨(some 48), none, .call (.c (.fn 10)) [(.t 45), (.t 46), (.t 47)]⟩,
       ⟨(some 44), none, .mv (.t 48)⟩,
       ⟨(some 49), none, .extract (.t 44) 0⟩,
       ⟨(some 50), none, .extract (.t 44) 1⟩,
       ⟨(some 12), none, .alloc [(.int .i64 0), (.int .i64 0), (.str []), .snil, .pnil, .pnil]⟩,
       ⟨(some 13), none, .alloc [(.int .i64 0), (.int .i64 0), (.str []), .snil]⟩,
       ⟨none, none, .store 6 (.t 12) (.t 49)⟩,
       ⟨none, none, .store 4 (.t 13) (.t 50)⟩])
  (.seq (.reg [14, 15] [⟨(some 52), none, .load (some 6) (.t 4)⟩,
       ⟨(some 53), none, .mv (.t 1)⟩,
       ⟨(some 54), none, .mv (.t 2)⟩,
       ⟨(some 55), none, .mv (.t 3)⟩,
       ⟨(some 56), none, .bin .add .other false (.t 54) (.t 55)⟩,
       ⟨(some 57), none, .call (.c (.fn 10)) [(.t 52), (.t 53), (.t 56)]⟩,
       ⟨(some 51), none, .mv (.t 57)⟩,
       ⟨(some 58), none, .extract (.t 51) 0⟩,
       ⟨(some 59), none, .extract (.t 51) 1⟩,
       ⟨(some 14), none, .alloc [(.int .i64 0), (.int .i64 0), (.str []), .snil, .pnil, .pnil]⟩,
       ⟨(some 15), none, .alloc [(.int .i64 0), (.int .i64 0), (.str []), .snil]⟩,
       ⟨none, none, .store 6 (.t 14) (.t 58)⟩,
       ⟨none, none, .store 4 (.t 15) (.t 59)⟩])
  (.seq (.seq (.reg [62] [⟨(some 60), none, .faddr 0 (.t 13)⟩,
        ⟨(some 61), none, .load none (.t 60)⟩,
        ⟨(some 62), none, .bin .eql .other true (.t 61) (.c (.int .i64 8))⟩])
   (.cond (.t 62) (.seq (.reg [8] [⟨(some 63), none, .mv (.t 9)⟩,
          ⟨(some 64), none, .mv (.t 63)⟩,
          ⟨(some 65), (some (64, true)), .faddr 3 (.t 15)⟩,
          ⟨(some 66), (some (64, true)), .load none (.t 65)⟩,
          ⟨(some 67), (some (64, true)), .faddr 3 (.t 13)⟩,
          ⟨(some 68), (some (64, true)), .load none (.t 67)⟩,
          ⟨(some 69), (some (64, true)), .call (.c (.fn 11)) [(.t 66), (.t 68)]⟩,
          ⟨(some 70), none, .pick (.t 64) (.t 69) (.c (.bool false))⟩,
          ⟨(some 71), none, .mv (.t 70)⟩,
          ⟨(some 72), (some (71, true)), .faddr 0 (.t 12)⟩,
          ⟨(some 73), (some (71, true)), .load none (.t 72)⟩,
          ⟨(some 74), (some (71, true)), .bin .eql .other true (.t 73) (.c (.int .i64 0))⟩,
          ⟨(some 75), none, .pick (.t 71) (.t 74) (.c (.bool false))⟩,
          ⟨(some 8), none, .mv (.t 75)⟩])
     .ret)
   .skip))
  (.seq (.reg [8] [⟨(some 76), none, .mv (.t 9)⟩,
       ⟨(some 77), none, .mv (.t 76)⟩,
       ⟨(some 78), (some (77, true)), .load (some 4) (.t 13)⟩,
       ⟨(some 79), (some (77, true)), .load (some 4) (.t 15)⟩,
       ⟨(some 80), (some (77, true)), .call (.c (.fn 12)) [(.t 78), (.t 79)]⟩,
       ⟨(some 81), none, .pick (.t 77) (.t 80) (.c (.bool false))⟩,
       ⟨(some 82), none, .mv (.t 81)⟩,
       ⟨(some 83), (some (82, true)), .faddr 0 (.t 12)⟩,
       ⟨(some 84), (some (82, true)), .load none (.t 83)⟩,
       ⟨(some 85), (some (82, true)), .faddr 0 (.t 14)⟩,
       ⟨(some 86), (some (82, true)), .load none (.t 85)⟩,
       ⟨(some 87), (some (82, true)), .bin .eql .other false (.t 84) (.t 86)⟩,
       ⟨(some 88), none, .pick (.t 82) (.t 87) (.c (.bool false))⟩,
       ⟨(some 89), none, .mv (.t 88)⟩,
       ⟨(some 90), (some (89, true)), .faddr 1 (.t 12)⟩,
       ⟨(some 91), (some (89, true)), .load none (.t 90)⟩,
       ⟨(some 92), (some (89, true)), .faddr 1 (.t 14)⟩,
       ⟨(some 93), (some (89, true)), .load none (.t 92)⟩,
       ⟨(some 94), (some (89, true)), .bin .eql .other false (.t 91) (.t 93)⟩,
       ⟨(some 95), none, .pick (.t 89) (.t 94) (.c (.bool false))⟩,
       ⟨(some 96), none, .mv (.t 95)⟩,
       ⟨(some 97), (some (96, true)), .faddr 2 (.t 12)⟩,
       ⟨(some 98), (some (96, true)), .load none (.t 97)⟩,
       ⟨(some 99), (some (96, true)), .faddr 2 (.t 14)⟩,
       ⟨(some 100), (some (96, true)), .load none (.t 99)⟩,
       ⟨(some 101), (some (96, true)), .bin .eql .other false (.t 98) (.t 100)⟩,
       ⟨(some 102), none, .pick (.t 96) (.t 101) (.c (.bool false))⟩,
       ⟨(some 103), none, .mv (.t 102)⟩,
       ⟨(some 104), (some (103, true)), .faddr 3 (.t 12)⟩,
       ⟨(some 105), (some (103, true)), .load none (.t 104)⟩,
       ⟨(some 106), (some (103, true)), .len .sl (.t 105)⟩,
       ⟨(some 107), (some (103, true)), .faddr 3 (.t 14)⟩,
       ⟨(some 108), (some (103, true)), .load none (.t 107)⟩,
       ⟨(some 109), (some (103, true)), .len .sl (.t 108)⟩,
       ⟨(some 110), (some (103, true)), .bin .eql .other false (.t 106) (.t 109)⟩,
       ⟨(some 111), none, .pick (.t 103) (.t 110) (.c (.bool false))⟩,
       ⟨(some 112), none, .mv (.t 111)⟩,
       ⟨(some 113), (some (112, true)), .faddr 0 (.t 13)⟩,
       ⟨(some 114), (some (112, true)), .load none (.t 113)⟩,
       ⟨(some 115), (some (112, true)), .bin .eql .other true (.t 114) (.c (.int .i64 0))⟩,
       ⟨(some 116), (some (112, true)), .faddr 0 (.t 12)⟩,
       ⟨(some 117), (some (112, true)), .load none (.t 116)⟩,
       ⟨(some 118), (some (112, true)), .bin .neq .other true (.t 117) (.c (.int .i64 0))⟩,
       ⟨(some 119), (some (112, true)), .bin .eql .bool false (.t 115) (.t 118)⟩,
       ⟨(some 120), none, .pick (.t 112) (.t 119) (.c (.bool false))⟩,
       ⟨(some 8), none, .mv (.t 120)⟩])
  .ret)))))))))⟩
theorem c3 : compF Tryd.prog [0, 1, 2, 3, 4, 8, 9, 10, 11, 12, 13, 14, 15, 42, 62] Tryd.f3 = some a3 := by kernel_rfl

/- bushel/bushellaw14.lines -/
def a9 : AFun := ⟨19, [.tmp 2], (.seq (.reg [2] [⟨(some 2), none, .mv (.c (.bool false))⟩])
  (.seq (.seq (.reg [3] [⟨(some 3), none, .mv (.c (.int .i64 0))⟩])
   (.block 0 (.loop (.seq (.seq (.reg [7] [⟨(some 4), none, .mv (.t 3)⟩,
           ⟨(some 5), none, .mv (.t 0)⟩,
           ⟨(some 6), none, .len .sl (.t 5)⟩,
           ⟨(some 7), none, .bin .lss .other false (.t 4) (.t 6)⟩])
      (.cond (.t 7) .skip
      (.exit 0)))
     (.seq (.block 1 (.seq (.reg [15] [⟨(some 10), none, .mv (.t 0)⟩,
            ⟨(some 11), none, .mv (.t 3)⟩,
            ⟨(some 12), none, .iaddr none (.t 10) (.t 11)⟩,
            ⟨(some 13), none, .load none (.t 12)⟩,
            ⟨(some 14), none, .len .str (.t 13)⟩,
            ⟨(some 15), none, .bin .gtr .other true (.t 14) (.c (.int .i64 3000))⟩])
       (.cond (.t 15) (.seq (.reg [2] [⟨(some 2), none, .mv (.c (.bool false))⟩])
         .ret)
       .skip)))
     (.reg [3] [⟨(some 8), none, .mv (.t 3)⟩,
         ⟨(some 9), none, .bin .add .other true (.t 8) (.c (.int .i64 1))⟩,
         ⟨(some 3), none, .mv (.t 9)⟩]))))))
  (.seq (.reg [2] [⟨(some 16), none, .mv (.t 0)⟩,
       ⟨(some 17), none, .len .sl (.t 16)⟩,
       ⟨(some 18), none, .bin .leq .other true (.t 17) (.c (.int .i64 20))⟩,
       ⟨(some 2), none, .mv (.t 18)⟩])
  .ret)))⟩
theorem c9 : compF Tryd.prog [0, 2, 3, 7, 15] Tryd.f9 = some a9 := by kernel_rfl

/- bushel/bushelref14.Begins -/
def a11 : AFun := ⟨16, [.tmp 4], (.seq (.reg [4] [⟨(some 4), none, .mv (.c (.bool false))⟩])
  (.seq (.seq (.reg [9] [⟨(some 5), none, .mv (.t 1)⟩,
        ⟨(some 6), none, .len .sl (.t 5)⟩,
        ⟨(some 7), none, .mv (.t 0)⟩,
        ⟨(some 8), none, .len .sl (.t 7)⟩,
        ⟨(some 9), none, .bin .gtr .other false (.t 6) (.t 8)⟩])
   (.cond (.t 9) (.seq (.reg [4] [⟨(some 4), none, .mv (.c (.bool false))⟩])
     .ret)
   .skip))
  (.seq (.reg [4] [⟨(some 10), none, .mv (.t 0)⟩,
       ⟨(some 11), none, .mv (.t 1)⟩,
       ⟨(some 12), none, .len .sl (.t 11)⟩,
       ⟨(some 13), none, .slice (.sl none) (.t 10) none (some (.t 12)) none⟩,
       ⟨(some 14), none, .mv (.t 1)⟩,
       ⟨(some 15), none, .call (.c (.fn 32)) [(.t 13), (.t 14)]⟩,
       ⟨(some 4), none, .mv (.t 15)⟩])
  .ret)))⟩
theorem c11 : compF Tryd.prog [0, 1, 4, 9] Tryd.f11 = some a11 := by kernel_rfl

/- bushel/bushelref14.Outs -/
def a12 : AFun := ⟨33, [.tmp 4], (.seq (.reg [2, 3, 4] [⟨(some 2), none, .box (.t 0)⟩,
       ⟨(some 3), none, .box (.t 1)⟩,
       ⟨(some 4), none, .mv (.c (.bool false))⟩])
  (.seq (.reg [5] [⟨(some 6), none, .faddr 3 (.t 2)⟩,
       ⟨(some 7), none, .load none (.t 6)⟩,
       ⟨(some 8), none, .faddr 3 (.t 3)⟩,
       ⟨(some 9), none, .load none (.t 8)⟩,
       ⟨(some 10), none, .call (.c (.fn 32)) [(.t 7), (.t 9)]⟩,
       ⟨(some 5), none, .mv (.t 10)⟩])
  (.seq (.reg [4] [⟨(some 11), none, .faddr 0 (.t 2)⟩,
       ⟨(some 12), none, .load none (.t 11)⟩,
       ⟨(some 13), none, .faddr 0 (.t 3)⟩,
       ⟨(some 14), none, .load none (.t 13)⟩,
       ⟨(some 15), none, .bin .eql .other false (.t 12) (.t 14)⟩,
       ⟨(some 16), none, .mv (.t 15)⟩,
       ⟨(some 17), (some (16, true)), .faddr 1 (.t 2)⟩,
       ⟨(some 18), (some (16, true)), .load none (.t 17)⟩,
       ⟨(some 19), (some (16, true)), .faddr 1 (.t 3)⟩,
       ⟨(some 20), (some (16, true)), .load none (.t 19)⟩,
       ⟨(some 21), (some (16, true)), .bin .eql .other false (.t 18) (.t 20)⟩,
       ⟨(some 22), none, .pick (.t 16) (.t 21) (.c (.bool false))⟩,
       ⟨(some 23), none, .mv (.t 22)⟩,
       ⟨(some 24), (some (23, true)), .faddr 2 (.t 2)⟩,
       ⟨(some 25), (some (23, true)), .load none (.t 24)⟩,
       ⟨(some 26), (some (23, true)), .faddr 2 (.t 3)⟩,
       ⟨(some 27), (some (23, true)), .load none (.t 26)⟩,
       ⟨(some 28), (some (23, true)), .bin .eql .other false (.t 25) (.t 27)⟩,
       ⟨(some 29), none, .pick (.t 23) (.t 28) (.c (.bool false))⟩,
       ⟨(some 30), none, .mv (.t 29)⟩,
       ⟨(some 31), (some (30, true)), .mv (.t 5)⟩,
       ⟨(some 32), none, .pick (.t 30) (.t 31) (.c (.bool false))⟩,
       ⟨(some 4), none, .mv (.t 32)⟩])
  .ret)))⟩
theorem c12 : compF Tryd.prog [0, 1, 2, 3, 4, 5] Tryd.f12 = some a12 := by kernel_rfl

end Go.Proofs.YtbifjffjibnjjaaDoor
