/-
  The bodies of functions, in the small language: printed by program, proved by the kernel's computing. (Own work.)
-/
import Derived.Test.YtiomciifhkbklaaAbsU
import Derived.Test.YtiomciifhkbklaaChecked
namespace Go.Proofs.Ytiomciifhkbklaa
open Go Go.Abs

/- bushel/bushellaw02.HeapKeeps -/
def a3 : AFun := ⟨282, [.tmp 6], (.seq (.reg [6] [⟨(some 6), none, .mv (.c (.bool false))⟩])
  (.seq (.reg [7] [⟨(some 31), none, .call (.c (.fn 5)) []⟩,
       ⟨(some 7), none, .mv (.t 31)⟩])
  (.seq (.seq (.reg [43] [⟨(some 32), none, .mv (.t 0)⟩,
        ⟨(some 33), none, .bin .gtr .other true (.t 32) (.c (.int .i64 3000))⟩,
        ⟨(some 34), none, .mv (.t 33)⟩,
        ⟨(some 35), (some (34, false)), .mv (.t 1)⟩,
        ⟨(some 36), (some (34, false)), .len .sl (.t 35)⟩,
        ⟨(some 37), (some (34, false)), .bin .gtr .other true (.t 36) (.c (.int .i64 40))⟩,
        ⟨(some 38), none, .pick (.t 34) (.c (.bool true)) (.t 37)⟩,
        ⟨(some 39), none, .mv (.t 38)⟩,
        ⟨(some 40), (some (39, false)), .mv (.t 2)⟩,
        ⟨(some 41), (some (39, false)), .len .sl (.t 40)⟩,
        ⟨(some 42), (some (39, false)), .bin .gtr .other true (.t 41) (.c (.int .i64 10))⟩,
        ⟨(some 43), none, .pick (.t 39) (.c (.bool true)) (.t 42)⟩])
   (.cond (.t 43) (.seq (.reg [6] [⟨(some 44), none, .mv (.t 7)⟩,
          ⟨(some 6), none, .mv (.t 44)⟩])
     .ret)
   .skip))
  (.seq (.reg [8, 9] [⟨(some 46), none, .mv (.t 0)⟩,
       ⟨(some 47), none, .call (.c (.fn 6)) [(.t 46)]⟩,
       ⟨(some 45), none, .mv (.t 47)⟩,
       ⟨(some 48), none, .extract (.t 45) 0⟩,
       ⟨(some 49), none, .extract (.t 45) 1⟩,
       ⟨(some 8), none, .mv (.t 48)⟩,
       ⟨(some 9), none, .mv (.t 49)⟩])
  (.seq (.seq (.reg [55] [⟨(some 50), none, .mv (.t 8)⟩,
        ⟨(some 51), none, .bin .eql .ptr true (.t 50) (.c .pnil)⟩,
        ⟨(some 52), none, .mv (.t 51)⟩,
        ⟨(some 53), (some (52, false)), .mv (.t 9)⟩,
        ⟨(some 54), (some (52, false)), .bin .neq .ifc true (.t 53) (.c .inil)⟩,
        ⟨(some 55), none, .pick (.t 52) (.c (.bool true)) (.t 54)⟩])
   (.cond (.t 55) (.seq (.reg [6] [⟨(some 56), none, .mv (.t 7)⟩,
          ⟨(some 57), none, .mv (.t 56)⟩,
          ⟨(some 58), (some (57, true)), .mv (.t 8)⟩,
          ⟨(some 59), (some (57, true)), .bin .eql .ptr true (.t 58) (.c .pnil)⟩,
          ⟨(some 60), none, .pick (.t 57) (.t 59) (.c (.bool false))⟩,
          ⟨(some 6), none, .mv (.t 60)⟩])
     .ret)
   .skip))
  (.seq (.reg [10] [⟨(some 10), none, .mv (.c .snil)⟩])
  (.seq (.seq (.reg [11] [⟨(some 11), none, .mv (.c (.int .i64 0))⟩])
   (.block 0 (.loop (.seq (.seq (.reg [64] [⟨(some 61), none, .mv (.t 11)⟩,
           ⟨(some 62), none, .mv (.t 1)⟩,
           ⟨(some 63), none, .len .sl (.t 62)⟩,
           ⟨(some 64), none, .bin .lss .other false (.t 61) (.t 63)⟩])
      (.cond (.t 64) .skip
      (.exit 0)))
     (.seq (.block 1 (.seq (.reg [12] [⟨(some 12), none, .mv (.c .snil)⟩])
       (.seq (.seq (.reg [13] [⟨(some 13), none, .mv (.c (.int .i64 0))⟩])
        (.block 2 (.loop (.seq (.seq (.reg [78] [⟨(some 67), none, .mv (.t 13)⟩,
                ⟨(some 68), none, .mv (.t 1)⟩,
                ⟨(some 69), none, .mv (.t 11)⟩,
                ⟨(some 70), none, .iaddr (some 8) (.t 68) (.t 69)⟩,
                ⟨(some 71), none, .faddr 7 (.t 70)⟩,
                ⟨(some 72), none, .load none (.t 71)⟩,
                ⟨(some 73), none, .len .sl (.t 72)⟩,
                ⟨(some 74), none, .bin .lss .other false (.t 67) (.t 73)⟩,
                ⟨(some 75), none, .mv (.t 74)⟩,
                ⟨(some 76), (some (75, true)), .mv (.t 13)⟩,
                ⟨(some 77), (some (75, true)), .bin .lss .other true (.t 76) (.c (.int .i64 20))⟩,
                ⟨(some 78), none, .pick (.t 75) (.t 77) (.c (.bool false))⟩])
           (.cond (.t 78) .skip
           (.exit 2)))
          (.seq (.block 3 (.seq (.reg [14] [⟨(some 81), none, .mv (.t 1)⟩,
                 ⟨(some 82), none, .mv (.t 11)⟩,
                 ⟨(some 83), none, .iaddr (some 8) (.t 81) (.t 82)⟩,
                 ⟨(some 84), none, .faddr 7 (.t 83)⟩,
                 ⟨(some 85), none, .load none (.t 84)⟩,
                 ⟨(some 86), none, .mv (.t 13)⟩,
                 ⟨(some 87), none, .iaddr (some 2) (.t 85) (.t 86)⟩,
                 ⟨(some 88), none, .load (some 2) (.t 87)⟩,
                 ⟨(some 14), none, .alloc [(.bool false), (.int .i64 0)]⟩,
                 ⟨none, none, .store 2 (.t 14) (.t 88)⟩])
            (.seq (.seq (.reg [90] [⟨(some 89), none, .faddr 0 (.t 14)⟩,
                  ⟨(some 90), none, .load none (.t 89)⟩])
             (.cond (.t 90) (.seq (.reg [] [⟨(some 91), none, .faddr 1 (.t 14)⟩,
                    ⟨(some 92), none, .load none (.t 91)⟩,
                    ⟨(some 93), none, .call (.c (.fn 7)) [(.t 92)]⟩,
                    ⟨none, none, .store 2 (.t 14) (.t 93)⟩])
               (.seq (.reg [96] [⟨(some 94), none, .mv (.t 10)⟩,
                    ⟨(some 95), none, .len .sl (.t 94)⟩,
                    ⟨(some 96), none, .bin .gtr .other true (.t 95) (.c (.int .i64 0))⟩])
               (.cond (.t 96) (.reg [] [⟨(some 97), none, .mv (.t 10)⟩,
                     ⟨(some 98), none, .faddr 1 (.t 14)⟩,
                     ⟨(some 99), none, .load none (.t 98)⟩,
                     ⟨(some 100), none, .mv (.t 10)⟩,
                     ⟨(some 101), none, .len .sl (.t 100)⟩,
                     ⟨(some 102), none, .call (.c (.fn 8)) [(.t 99), (.t 101)]⟩,
                     ⟨(some 103), none, .iaddr (some 2) (.t 97) (.t 102)⟩,
                     ⟨(some 104), none, .load (some 2) (.t 103)⟩,
                     ⟨none, none, .store 2 (.t 14) (.t 104)⟩])
               .skip)))
             .skip))
            (.reg [12] [⟨(some 105), none, .mv (.t 12)⟩,
                ⟨(some 106), none, .load (some 2) (.t 14)⟩,
                ⟨(some 107), none, .mksl (some 2) [(.t 106)]⟩,
                ⟨(some 108), none, .append (some 2) 16 (.t 105) (.t 107)⟩,
                ⟨(some 12), none, .mv (.t 108)⟩]))))
          (.reg [13] [⟨(some 79), none, .mv (.t 13)⟩,
              ⟨(some 80), none, .bin .add .other true (.t 79) (.c (.int .i64 1))⟩,
              ⟨(some 13), none, .mv (.t 80)⟩]))))))
       (.seq (.reg [15, 17, 18] [⟨(some 110), none, .mv (.t 8)⟩,
            ⟨(some 111), none, .mv (.t 1)⟩,
            ⟨(some 112), none, .mv (.t 11)⟩,
            ⟨(some 113), none, .iaddr (some 8) (.t 111) (.t 112)⟩,
            ⟨(some 114), none, .faddr 1 (.t 113)⟩,
            ⟨(some 115), none, .load none (.t 114)⟩,
            ⟨(some 116), none, .mv (.t 12)⟩,
            ⟨(some 117), none, .mv (.t 10)⟩,
            ⟨(some 118), none, .call (.c (.fn 9)) [(.t 110), (.t 115), (.t 116), (.t 117)]⟩,
            ⟨(some 109), none, .mv (.t 118)⟩,
            ⟨(some 119), none, .extract (.t 109) 0⟩,
            ⟨(some 120), none, .extract (.t 109) 1⟩,
            ⟨(some 121), none, .extract (.t 109) 2⟩,
            ⟨(some 122), none, .extract (.t 109) 3⟩,
            ⟨(some 15), none, .mv (.t 119)⟩,
            ⟨(some 16), none, .mv (.t 120)⟩,
            ⟨(some 17), none, .mv (.t 121)⟩,
            ⟨(some 18), none, .mv (.t 122)⟩])
       (.seq (.seq (.reg [125] [⟨(some 123), none, .mv (.t 18)⟩,
             ⟨(some 124), none, .mkif 39 (.c (.int .i64 1))⟩,
             ⟨(some 125), none, .bin .eql .ifc false (.t 123) (.t 124)⟩])
        (.cond (.t 125) (.exit 1)
        .skip))
       (.seq (.reg [10] [⟨(some 126), none, .mv (.t 17)⟩,
            ⟨(some 10), none, .mv (.t 126)⟩])
       (.seq (.seq (.reg [128] [⟨(some 127), none, .mv (.t 18)⟩,
             ⟨(some 128), none, .bin .eql .ifc true (.t 127) (.c .inil)⟩])
        (.cond (.t 128) (.reg [10] [⟨(some 129), none, .mksl (some 2) []⟩,
              ⟨(some 130), none, .mv (.t 17)⟩,
              ⟨(some 131), none, .append (some 2) 16 (.t 129) (.t 130)⟩,
              ⟨(some 132), none, .mv (.t 15)⟩,
              ⟨(some 133), none, .call (.c (.fn 10)) [(.t 132)]⟩,
              ⟨(some 134), none, .mksl (some 2) [(.t 133)]⟩,
              ⟨(some 135), none, .append (some 2) 16 (.t 131) (.t 134)⟩,
              ⟨(some 10), none, .mv (.t 135)⟩])
        .skip))
       (.seq (.reg [142] [⟨(some 136), none, .mv (.t 18)⟩,
            ⟨(some 137), none, .bin .eql .ifc true (.t 136) (.c .inil)⟩,
            ⟨(some 138), none, .mv (.t 137)⟩,
            ⟨(some 139), (some (138, true)), .mv (.t 10)⟩,
            ⟨(some 140), (some (138, true)), .len .sl (.t 139)⟩,
            ⟨(some 141), (some (138, true)), .bin .gtr .other true (.t 140) (.c (.int .i64 1))⟩,
            ⟨(some 142), none, .pick (.t 138) (.t 141) (.c (.bool false))⟩])
       (.cond (.t 142) (.any [] [(⟨(some 143), none, .mv (.t 8)⟩, true),
             (⟨(some 144), none, .mv (.t 15)⟩, false),
             (⟨(some 145), none, .mv (.t 1)⟩, false),
             (⟨(some 146), none, .mv (.t 11)⟩, false),
             (⟨(some 147), none, .iaddr (some 8) (.t 145) (.t 146)⟩, false),
             (⟨(some 148), none, .faddr 3 (.t 147)⟩, false),
             (⟨(some 149), none, .load none (.t 148)⟩, false),
             (⟨(some 150), none, .mv (.t 10)⟩, false),
             (⟨(some 151), none, .iaddr (some 2) (.t 150) (.c (.int .i64 0))⟩, false),
             (⟨(some 152), none, .load (some 2) (.t 151)⟩, false),
             (⟨(some 153), none, .call (.c (.fn 11)) [(.t 143), (.t 144), (.t 149), (.t 152)]⟩, true)])
       .skip)))))))))
     (.reg [11] [⟨(some 65), none, .mv (.t 11)⟩,
         ⟨(some 66), none, .bin .add .other true (.t 65) (.c (.int .i64 1))⟩,
         ⟨(some 11), none, .mv (.t 66)⟩]))))))
  (.seq (.reg [19] [⟨(some 19), none, .mv (.c .snil)⟩])
  (.seq (.seq (.reg [20] [⟨(some 20), none, .mv (.c (.int .i64 0))⟩])
   (.block 4 (.loop (.seq (.seq (.reg [162] [⟨(some 154), none, .mv (.t 20)⟩,
           ⟨(some 155), none, .mv (.t 2)⟩,
           ⟨(some 156), none, .len .sl (.t 155)⟩,
           ⟨(some 157), none, .bin .lss .other false (.t 154) (.t 156)⟩,
           ⟨(some 158), none, .mv (.t 157)⟩,
           ⟨(some 159), (some (158, true)), .mv (.t 10)⟩,
           ⟨(some 160), (some (158, true)), .len .sl (.t 159)⟩,
           ⟨(some 161), (some (158, true)), .bin .gtr .other true (.t 160) (.c (.int .i64 0))⟩,
           ⟨(some 162), none, .pick (.t 158) (.t 161) (.c (.bool false))⟩])
      (.cond (.t 162) .skip
      (.exit 4)))
     (.seq (.block 5 (.reg [19] [⟨(some 165), none, .mv (.t 19)⟩,
           ⟨(some 166), none, .mv (.t 10)⟩,
           ⟨(some 167), none, .mv (.t 2)⟩,
           ⟨(some 168), none, .mv (.t 20)⟩,
           ⟨(some 169), none, .iaddr none (.t 167) (.t 168)⟩,
           ⟨(some 170), none, .load none (.t 169)⟩,
           ⟨(some 171), none, .mv (.t 10)⟩,
           ⟨(some 172), none, .len .sl (.t 171)⟩,
           ⟨(some 173), none, .call (.c (.fn 8)) [(.t 170), (.t 172)]⟩,
           ⟨(some 174), none, .iaddr (some 2) (.t 166) (.t 173)⟩,
           ⟨(some 175), none, .load (some 2) (.t 174)⟩,
           ⟨(some 176), none, .mksl (some 2) [(.t 175)]⟩,
           ⟨(some 177), none, .append (some 2) 16 (.t 165) (.t 176)⟩,
           ⟨(some 19), none, .mv (.t 177)⟩]))
     (.reg [20] [⟨(some 163), none, .mv (.t 20)⟩,
         ⟨(some 164), none, .bin .add .other true (.t 163) (.c (.int .i64 1))⟩,
         ⟨(some 20), none, .mv (.t 164)⟩]))))))
  (.seq (.reg [21] [⟨(some 21), none, .mv (.c .snil)⟩])
  (.seq (.seq (.reg [22] [⟨(some 22), none, .mv (.c (.int .i64 0))⟩])
   (.block 6 (.loop (.seq (.seq (.reg [181] [⟨(some 178), none, .mv (.t 22)⟩,
           ⟨(some 179), none, .mv (.t 19)⟩,
           ⟨(some 180), none, .len .sl (.t 179)⟩,
           ⟨(some 181), none, .bin .lss .other false (.t 178) (.t 180)⟩])
      (.cond (.t 181) .skip
      (.exit 6)))
     (.seq (.block 7 (.reg [21] [⟨(some 184), none, .mv (.t 21)⟩,
           ⟨(some 185), none, .mv (.t 8)⟩,
           ⟨(some 186), none, .mv (.t 19)⟩,
           ⟨(some 187), none, .mv (.t 22)⟩,
           ⟨(some 188), none, .iaddr (some 2) (.t 186) (.t 187)⟩,
           ⟨(some 189), none, .load (some 2) (.t 188)⟩,
           ⟨(some 190), none, .call (.c (.fn 12)) [(.t 185), (.t 189), (.c (.int .i64 4))]⟩,
           ⟨(some 191), none, .mksl none [(.t 190)]⟩,
           ⟨(some 192), none, .append none 24 (.t 184) (.t 191)⟩,
           ⟨(some 21), none, .mv (.t 192)⟩]))
     (.reg [22] [⟨(some 182), none, .mv (.t 22)⟩,
         ⟨(some 183), none, .bin .add .other true (.t 182) (.c (.int .i64 1))⟩,
         ⟨(some 22), none, .mv (.t 183)⟩]))))))
  (.seq (.reg [23] [⟨(some 193), none, .mv (.t 8)⟩,
       ⟨(some 194), none, .call (.c (.fn 13)) [(.t 193)]⟩,
       ⟨(some 23), none, .mv (.t 194)⟩])
  (.seq (.reg [24, 25] [⟨(some 196), none, .mv (.t 8)⟩,
       ⟨(some 197), none, .mv (.t 19)⟩,
       ⟨(some 198), none, .call (.c (.fn 14)) [(.t 196), (.t 197)]⟩,
       ⟨(some 195), none, .mv (.t 198)⟩,
       ⟨(some 199), none, .extract (.t 195) 0⟩,
       ⟨(some 200), none, .extract (.t 195) 1⟩,
       ⟨(some 24), none, .mv (.t 199)⟩,
       ⟨(some 25), none, .mv (.t 200)⟩])
  (.seq (.seq (.reg [215] [⟨(some 201), none, .mv (.t 25)⟩,
        ⟨(some 202), none, .bin .neq .ifc true (.t 201) (.c .inil)⟩,
        ⟨(some 203), none, .mv (.t 202)⟩,
        ⟨(some 204), (some (203, false)), .mv (.t 24)⟩,
        ⟨(some 205), (some (203, false)), .len .sl (.t 204)⟩,
        ⟨(some 206), (some (203, false)), .mv (.t 19)⟩,
        ⟨(some 207), (some (203, false)), .len .sl (.t 206)⟩,
        ⟨(some 208), (some (203, false)), .bin .neq .other false (.t 205) (.t 207)⟩,
        ⟨(some 209), none, .pick (.t 203) (.c (.bool true)) (.t 208)⟩,
        ⟨(some 210), none, .mv (.t 209)⟩,
        ⟨(some 211), (some (210, false)), .mv (.t 8)⟩,
        ⟨(some 212), (some (210, false)), .call (.c (.fn 13)) [(.t 211)]⟩,
        ⟨(some 213), (some (210, false)), .mv (.t 23)⟩,
        ⟨(some 214), (some (210, false)), .bin .gtr .other false (.t 212) (.t 213)⟩,
        ⟨(some 215), none, .pick (.t 210) (.c (.bool true)) (.t 214)⟩])
   (.cond (.t 215) (.seq (.reg [6] [⟨(some 6), none, .mv (.c (.bool false))⟩])
     .ret)
   .skip))
  (.seq (.seq (.reg [26] [⟨(some 26), none, .mv (.c (.int .i64 0))⟩])
   (.block 8 (.loop (.seq (.seq (.reg [219] [⟨(some 216), none, .mv (.t 26)⟩,
           ⟨(some 217), none, .mv (.t 24)⟩,
           ⟨(some 218), none, .len .sl (.t 217)⟩,
           ⟨(some 219), none, .bin .lss .other false (.t 216) (.t 218)⟩])
      (.cond (.t 219) .skip
      (.exit 8)))
     (.seq (.block 9 (.seq (.reg [27] [⟨(some 222), none, .mv (.t 8)⟩,
            ⟨(some 223), none, .mv (.t 24)⟩,
            ⟨(some 224), none, .mv (.t 26)⟩,
            ⟨(some 225), none, .iaddr (some 2) (.t 223) (.t 224)⟩,
            ⟨(some 226), none, .load (some 2) (.t 225)⟩,
            ⟨(some 227), none, .call (.c (.fn 12)) [(.t 222), (.t 226), (.c (.int .i64 4))]⟩,
            ⟨(some 27), none, .mv (.t 227)⟩])
       (.seq (.seq (.reg [235] [⟨(some 228), none, .mv (.t 27)⟩,
             ⟨(some 229), none, .len .sl (.t 228)⟩,
             ⟨(some 230), none, .mv (.t 21)⟩,
             ⟨(some 231), none, .mv (.t 26)⟩,
             ⟨(some 232), none, .iaddr none (.t 230) (.t 231)⟩,
             ⟨(some 233), none, .load none (.t 232)⟩,
             ⟨(some 234), none, .len .sl (.t 233)⟩,
             ⟨(some 235), none, .bin .neq .other false (.t 229) (.t 234)⟩])
        (.cond (.t 235) (.seq (.reg [6] [⟨(some 6), none, .mv (.c (.bool false))⟩])
          .ret)
        .skip))
       (.seq (.reg [28] [⟨(some 28), none, .mv (.c (.int .i64 0))⟩])
       (.block 10 (.loop (.seq (.seq (.reg [239] [⟨(some 236), none, .mv (.t 28)⟩,
               ⟨(some 237), none, .mv (.t 27)⟩,
               ⟨(some 238), none, .len .sl (.t 237)⟩,
               ⟨(some 239), none, .bin .lss .other false (.t 236) (.t 238)⟩])
          (.cond (.t 239) .skip
          (.exit 10)))
         (.seq (.block 11 (.seq (.any [253] [(⟨(some 242), none, .mv (.t 27)⟩, true),
                (⟨(some 243), none, .mv (.t 28)⟩, false),
                (⟨(some 244), none, .iaddr none (.t 242) (.t 243)⟩, true),
                (⟨(some 245), none, .load none (.t 244)⟩, true),
                (⟨(some 246), none, .mv (.t 21)⟩, false),
                (⟨(some 247), none, .mv (.t 26)⟩, false),
                (⟨(some 248), none, .iaddr none (.t 246) (.t 247)⟩, false),
                (⟨(some 249), none, .load none (.t 248)⟩, false),
                (⟨(some 250), none, .mv (.t 28)⟩, false),
                (⟨(some 251), none, .iaddr none (.t 249) (.t 250)⟩, false),
                (⟨(some 252), none, .load none (.t 251)⟩, false),
                (⟨(some 253), none, .bin .neq .other false (.t 245) (.t 252)⟩, true)])
           (.cond (.t 253) (.seq (.reg [6] [⟨(some 6), none, .mv (.c (.bool false))⟩])
             .ret)
           .skip)))
         (.reg [28] [⟨(some 240), none, .mv (.t 28)⟩,
             ⟨(some 241), none, .bin .add .other true (.t 240) (.c (.int .i64 1))⟩,
             ⟨(some 28), none, .mv (.t 241)⟩])))))))))
     (.reg [26] [⟨(some 220), none, .mv (.t 26)⟩,
         ⟨(some 221), none, .bin .add .other true (.t 220) (.c (.int .i64 1))⟩,
         ⟨(some 26), none, .mv (.t 221)⟩]))))))
  (.seq (.reg [23] [⟨(some 254), none, .mv (.t 8)⟩,
       ⟨(some 255), none, .call (.c (.fn 13)) [(.t 254)]⟩,
       ⟨(some 23), none, .mv (.t 255)⟩])
  (.seq (.reg [30] [⟨(some 257), none, .mv (.t 8)⟩,
       ⟨(some 258), none, .mv (.t 24)⟩,
       ⟨(some 259), none, .call (.c (.fn 14)) [(.t 257), (.t 258)]⟩,
       ⟨(some 256), none, .mv (.t 259)⟩,
       ⟨(some 260), none, .extract (.t 256) 0⟩,
       ⟨(some 261), none, .extract (.t 256) 1⟩,
       ⟨(some 29), none, .mv (.t 260)⟩,
       ⟨(some 30), none, .mv (.t 261)⟩])
  (.seq (.reg [6] [⟨(some 262), none, .mv (.t 7)⟩,
       ⟨(some 263), none, .mv (.t 262)⟩,
       ⟨(some 264), (some (263, true)), .mv (.t 30)⟩,
       ⟨(some 265), (some (263, true)), .bin .eql .ifc true (.t 264) (.c .inil)⟩,
       ⟨(some 266), none, .pick (.t 263) (.t 265) (.c (.bool false))⟩,
       ⟨(some 267), none, .mv (.t 266)⟩,
       ⟨(some 268), (some (267, true)), .mv (.t 8)⟩,
       ⟨(some 269), (some (267, true)), .call (.c (.fn 13)) [(.t 268)]⟩,
       ⟨(some 270), (some (267, true)), .mv (.t 23)⟩,
       ⟨(some 271), (some (267, true)), .bin .eql .other false (.t 269) (.t 270)⟩,
       ⟨(some 272), none, .pick (.t 267) (.t 271) (.c (.bool false))⟩,
       ⟨(some 273), none, .mv (.t 272)⟩,
       ⟨(some 274), (some (273, true)), .mv (.t 19)⟩,
       ⟨(some 275), (some (273, true)), .len .sl (.t 274)⟩,
       ⟨(some 276), (some (273, true)), .bin .gtr .other true (.t 275) (.c (.int .i64 0))⟩,
       ⟨(some 277), (some (273, true)), .mv (.t 276)⟩,
       ⟨(some 278), (some (277, false)), .mv (.t 23)⟩,
       ⟨(some 279), (some (277, false)), .bin .eql .other true (.t 278) (.c (.int .i64 0))⟩,
       ⟨(some 280), (some (273, true)), .pick (.t 277) (.c (.bool true)) (.t 279)⟩,
       ⟨(some 281), none, .pick (.t 273) (.t 280) (.c (.bool false))⟩,
       ⟨(some 6), none, .mv (.t 281)⟩])
  .ret))))))))))))))))))⟩
theorem c3 : compF Try.prog [0, 1, 2, 6, 7, 8, 9, 10, 11, 12, 13, 14, 15, 17, 18, 19, 20, 21, 22, 23, 24, 25, 26, 27, 28, 30, 43, 55, 64, 78, 90, 96, 125, 128, 142, 162, 181, 215, 219, 235, 239, 253] Try.f3 = some a3 := by kernel_rfl

/- bushel/bushellaw02.up -/
def a5 : AFun := ⟨81, [.tmp 0], (.seq (.reg [0] [⟨(some 0), none, .mv (.c (.bool false))⟩])
  (.seq (.reg [1, 2] [⟨(some 12), none, .call (.c (.fn 6)) [(.c (.int .i64 10))]⟩,
       ⟨(some 11), none, .mv (.t 12)⟩,
       ⟨(some 13), none, .extract (.t 11) 0⟩,
       ⟨(some 14), none, .extract (.t 11) 1⟩,
       ⟨(some 1), none, .mv (.t 13)⟩,
       ⟨(some 2), none, .mv (.t 14)⟩])
  (.seq (.reg [4] [⟨(some 16), none, .call (.c (.fn 6)) [(.c (.int .i64 0))]⟩,
       ⟨(some 15), none, .mv (.t 16)⟩,
       ⟨(some 17), none, .extract (.t 15) 0⟩,
       ⟨(some 18), none, .extract (.t 15) 1⟩,
       ⟨(some 3), none, .mv (.t 17)⟩,
       ⟨(some 4), none, .mv (.t 18)⟩])
  (.seq (.seq (.reg [24] [⟨(some 19), none, .mv (.t 1)⟩,
        ⟨(some 20), none, .bin .eql .ptr true (.t 19) (.c .pnil)⟩,
        ⟨(some 21), none, .mv (.t 20)⟩,
        ⟨(some 22), (some (21, false)), .mv (.t 2)⟩,
        ⟨(some 23), (some (21, false)), .bin .neq .ifc true (.t 22) (.c .inil)⟩,
        ⟨(some 24), none, .pick (.t 21) (.c (.bool true)) (.t 23)⟩])
   (.cond (.t 24) (.seq (.reg [0] [⟨(some 0), none, .mv (.c (.bool false))⟩])
     .ret)
   .skip))
  (.seq (.reg [] [⟨(some 25), none, .mv (.t 1)⟩,
       ⟨(some 26), none, .build [(.bool false), (.int .i64 0)] [(1, 1, (.c (.int .i64 5)))]⟩,
       ⟨(some 27), none, .mksl (some 2) [(.t 26)]⟩,
       ⟨(some 28), none, .call (.c (.fn 9)) [(.t 25), (.c (.int .i64 1)), (.t 27), (.c .snil)]⟩])
  (.seq (.reg [5, 8] [⟨(some 30), none, .mv (.t 1)⟩,
       ⟨(some 31), none, .call (.c (.fn 9)) [(.t 30), (.c (.int .i64 2)), (.c .snil), (.c .snil)]⟩,
       ⟨(some 29), none, .mv (.t 31)⟩,
       ⟨(some 32), none, .extract (.t 29) 0⟩,
       ⟨(some 33), none, .extract (.t 29) 1⟩,
       ⟨(some 34), none, .extract (.t 29) 2⟩,
       ⟨(some 35), none, .extract (.t 29) 3⟩,
       ⟨(some 5), none, .mv (.t 32)⟩,
       ⟨(some 6), none, .mv (.t 33)⟩,
       ⟨(some 7), none, .mv (.t 34)⟩,
       ⟨(some 8), none, .mv (.t 35)⟩])
  (.seq (.reg [9, 10] [⟨(some 37), none, .mv (.t 1)⟩,
       ⟨(some 38), none, .mv (.t 5)⟩,
       ⟨(some 39), none, .call (.c (.fn 10)) [(.t 38)]⟩,
       ⟨(some 40), none, .mksl (some 2) [(.t 39)]⟩,
       ⟨(some 41), none, .call (.c (.fn 14)) [(.t 37), (.t 40)]⟩,
       ⟨(some 36), none, .mv (.t 41)⟩,
       ⟨(some 42), none, .extract (.t 36) 0⟩,
       ⟨(some 43), none, .extract (.t 36) 1⟩,
       ⟨(some 9), none, .mv (.t 42)⟩,
       ⟨(some 10), none, .mv (.t 43)⟩])
  (.seq (.any [0] [(⟨(some 44), none, .mv (.t 4)⟩, true),
       (⟨(some 45), none, .mkif 39 (.c (.int .i64 1))⟩, false),
       (⟨(some 46), none, .bin .eql .ifc false (.t 44) (.t 45)⟩, true),
       (⟨(some 47), none, .mv (.t 46)⟩, true),
       (⟨(some 48), (some (47, true)), .mv (.t 8)⟩, true),
       (⟨(some 49), (some (47, true)), .bin .eql .ifc true (.t 48) (.c .inil)⟩, true),
       (⟨(some 50), none, .pick (.t 47) (.t 49) (.c (.bool false))⟩, true),
       (⟨(some 51), none, .mv (.t 50)⟩, true),
       (⟨(some 52), (some (51, true)), .mv (.t 5)⟩, true),
       (⟨(some 53), (some (51, true)), .bin .eql .other true (.t 52) (.c (.int .i64 2))⟩, true),
       (⟨(some 54), none, .pick (.t 51) (.t 53) (.c (.bool false))⟩, true),
       (⟨(some 55), none, .mv (.t 54)⟩, true),
       (⟨(some 56), (some (55, true)), .mv (.t 10)⟩, true),
       (⟨(some 57), (some (55, true)), .bin .eql .ifc true (.t 56) (.c .inil)⟩, true),
       (⟨(some 58), none, .pick (.t 55) (.t 57) (.c (.bool false))⟩, true),
       (⟨(some 59), none, .mv (.t 58)⟩, true),
       (⟨(some 60), (some (59, true)), .mv (.t 9)⟩, true),
       (⟨(some 61), (some (59, true)), .len .sl (.t 60)⟩, true),
       (⟨(some 62), (some (59, true)), .bin .eql .other true (.t 61) (.c (.int .i64 1))⟩, true),
       (⟨(some 63), none, .pick (.t 59) (.t 62) (.c (.bool false))⟩, true),
       (⟨(some 64), none, .mv (.t 63)⟩, true),
       (⟨(some 65), (some (64, true)), .mv (.t 9)⟩, true),
       (⟨(some 66), (some (64, true)), .iaddr (some 2) (.t 65) (.c (.int .i64 0))⟩, true),
       (⟨(some 67), (some (64, true)), .load (some 2) (.t 66)⟩, true),
       (⟨(some 68), (some (64, true)), .call (.c (.fn 10)) [(.c (.int .i64 0))]⟩, false),
       (⟨(some 69), (some (64, true)), .bin .eql (.struct [.bool, .int]) false (.t 67) (.t 68)⟩, true),
       (⟨(some 70), none, .pick (.t 64) (.t 69) (.c (.bool false))⟩, true),
       (⟨(some 71), none, .mv (.t 70)⟩, true),
       (⟨(some 72), (some (71, true)), .mv (.t 1)⟩, true),
       (⟨(some 73), (some (71, true)), .call (.c (.fn 13)) [(.t 72)]⟩, true),
       (⟨(some 74), (some (71, true)), .bin .eql .other true (.t 73) (.c (.int .i64 1))⟩, true),
       (⟨(some 75), none, .pick (.t 71) (.t 74) (.c (.bool false))⟩, true),
       (⟨(some 76), none, .mv (.t 75)⟩, true),
       (⟨(some 77), (some (76, true)), .mv (.t 1)⟩, true),
       (⟨(some 78), (some (76, true)), .call (.c (.fn 27)) [(.t 77)]⟩, true),
       (⟨(some 79), (some (76, true)), .bin .eql .other true (.t 78) (.c (.int .i64 1))⟩, true),
       (⟨(some 80), none, .pick (.t 76) (.t 79) (.c (.bool false))⟩, true),
       (⟨(some 0), none, .mv (.t 80)⟩, true)])
  .ret))))))))⟩
theorem c5 : compF Try.prog [0, 1, 2, 4, 5, 8, 9, 10, 24] Try.f5 = some a5 := by kernel_rfl

/- bushel/heap.New -/
def a6 : AFun := ⟨14, [.tmp 2, .tmp 3], (.seq (.reg [2, 3] [⟨(some 2), none, .mv (.c .pnil)⟩,
       ⟨(some 3), none, .mv (.c .inil)⟩])
  (.seq (.seq (.reg [9] [⟨(some 4), none, .mv (.t 0)⟩,
        ⟨(some 5), none, .bin .lss .other true (.t 4) (.c (.int .i64 1))⟩,
        ⟨(some 6), none, .mv (.t 5)⟩,
        ⟨(some 7), (some (6, false)), .mv (.t 0)⟩,
        ⟨(some 8), (some (6, false)), .bin .gtr .other true (.t 7) (.c (.int .i64 268435456))⟩,
        ⟨(some 9), none, .pick (.t 6) (.c (.bool true)) (.t 8)⟩])
   (.cond (.t 9) (.seq (.reg [2, 3] [⟨(some 10), none, .mkif 39 (.c (.int .i64 1))⟩,
          ⟨(some 2), none, .mv (.c .pnil)⟩,
          ⟨(some 3), none, .mv (.t 10)⟩])
     .ret)
   .skip))
  (.seq (.reg [2, 3] [⟨(some 11), none, .mv (.t 0)⟩,
       ⟨(some 12), none, .build [(.int .i64 0), .snil, .snil, (.int .i64 0)] [(0, 1, (.t 11))]⟩,
       ⟨(some 13), none, .box (.t 12)⟩,
       ⟨(some 2), none, .mv (.t 13)⟩,
       ⟨(some 3), none, .mv (.c .inil)⟩])
  .ret)))⟩
theorem c6 : compF Try.prog [0, 2, 3, 9] Try.f6 = some a6 := by kernel_rfl

/- bushel/word.Int -/
def a7 : AFun := ⟨5, [.cell 2 (some 2)], (.seq (.reg [2] [⟨(some 2), none, .alloc [(.bool false), (.int .i64 0)]⟩])
  (.seq (.reg [] [⟨(some 3), none, .mv (.t 0)⟩,
       ⟨(some 4), none, .build [(.bool false), (.int .i64 0)] [(1, 1, (.t 3))]⟩,
       ⟨none, none, .store 2 (.t 2) (.t 4)⟩])
  .ret))⟩
theorem c7 : compF Try.prog [0, 2] Try.f7 = some a7 := by kernel_rfl

/- bushel/bushellaw02.pick -/
def a8 : AFun := ⟨13, [.tmp 4], (.seq (.reg [4] [⟨(some 4), none, .mv (.c (.int .i64 0))⟩])
  (.seq (.seq (.reg [6] [⟨(some 5), none, .mv (.t 0)⟩,
        ⟨(some 6), none, .bin .lss .other true (.t 5) (.c (.int .i64 0))⟩])
   (.cond (.t 6) (.reg [0] [⟨(some 7), none, .mv (.t 0)⟩,
         ⟨(some 8), none, .bin .add .other true (.t 7) (.c (.int .i64 1))⟩,
         ⟨(some 9), none, .un .neg (.t 8)⟩,
         ⟨(some 0), none, .mv (.t 9)⟩])
   .skip))
  (.seq (.reg [4] [⟨(some 10), none, .mv (.t 0)⟩,
       ⟨(some 11), none, .mv (.t 1)⟩,
       ⟨(some 12), none, .bin .rem .other false (.t 10) (.t 11)⟩,
       ⟨(some 4), none, .mv (.t 12)⟩])
  .ret)))⟩
theorem c8 : compF Try.prog [0, 1, 4, 6] Try.f8 = some a8 := by kernel_rfl

/- (*bushel/heap.Heap).Make -/
def a9 : AFun := ⟨103, [.tmp 8, .tmp 9, .tmp 10, .tmp 11], (.seq (.reg [8, 9, 10, 11] [⟨(some 8), none, .mv (.c (.int .i64 0))⟩,
       ⟨(some 9), none, .mv (.c .snil)⟩,
       ⟨(some 10), none, .mv (.c .snil)⟩,
       ⟨(some 11), none, .mv (.c .inil)⟩])
  (.seq (.reg [12, 13] [⟨(some 18), none, .mv (.t 1)⟩,
       ⟨(some 19), none, .mv (.t 2)⟩,
       ⟨(some 20), none, .len .sl (.t 19)⟩,
       ⟨(some 21), none, .call (.c (.fn 28)) [(.t 18), (.t 20)]⟩,
       ⟨(some 17), none, .mv (.t 21)⟩,
       ⟨(some 22), none, .extract (.t 17) 0⟩,
       ⟨(some 23), none, .extract (.t 17) 1⟩,
       ⟨(some 12), none, .alloc [(.bool false), (.int .i64 0)]⟩,
       ⟨none, none, .store 2 (.t 12) (.t 22)⟩,
       ⟨(some 13), none, .mv (.t 23)⟩])
  (.seq (.seq (.reg [37] [⟨(some 24), none, .mv (.t 13)⟩,
        ⟨(some 25), none, .bin .neq .ifc true (.t 24) (.c .inil)⟩,
        ⟨(some 26), none, .mv (.t 25)⟩,
        ⟨(some 27), (some (26, false)), .mv (.t 0)⟩,
        ⟨(some 28), (some (26, false)), .mv (.t 2)⟩,
        ⟨(some 29), (some (26, false)), .call (.c (.fn 29)) [(.t 27), (.t 28)]⟩,
        ⟨(some 30), (some (26, false)), .un .not (.t 29)⟩,
        ⟨(some 31), none, .pick (.t 26) (.c (.bool true)) (.t 30)⟩,
        ⟨(some 32), none, .mv (.t 31)⟩,
        ⟨(some 33), (some (32, false)), .mv (.t 0)⟩,
        ⟨(some 34), (some (32, false)), .mv (.t 3)⟩,
        ⟨(some 35), (some (32, false)), .call (.c (.fn 29)) [(.t 33), (.t 34)]⟩,
        ⟨(some 36), (some (32, false)), .un .not (.t 35)⟩,
        ⟨(some 37), none, .pick (.t 32) (.c (.bool true)) (.t 36)⟩])
   (.cond (.t 37) (.seq (.reg [8, 9, 10, 11] [⟨(some 38), none, .mkif 39 (.c (.int .i64 1))⟩,
          ⟨(some 8), none, .mv (.c (.int .i64 0))⟩,
          ⟨(some 9), none, .mv (.c .snil)⟩,
          ⟨(some 10), none, .mv (.c .snil)⟩,
          ⟨(some 11), none, .mv (.t 38)⟩])
     .ret)
   .skip))
  (.seq (.reg [2, 3] [⟨(some 39), none, .mv (.t 2)⟩,
       ⟨(some 40), none, .call (.c (.fn 30)) [(.t 39)]⟩,
       ⟨(some 41), none, .mv (.t 3)⟩,
       ⟨(some 42), none, .call (.c (.fn 30)) [(.t 41)]⟩,
       ⟨(some 2), none, .mv (.t 40)⟩,
       ⟨(some 3), none, .mv (.t 42)⟩])
  (.seq (.seq (.any [56] [(⟨(some 43), none, .mv (.t 0)⟩, true),
        (⟨(some 44), none, .nilck (.t 43)⟩, true),
        (⟨(some 45), none, .faddr 1 (.t 44)⟩, true),
        (⟨(some 46), none, .load none (.t 45)⟩, true),
        (⟨(some 47), none, .len .sl (.t 46)⟩, true),
        (⟨(some 48), none, .mv (.t 2)⟩, false),
        (⟨(some 49), none, .len .sl (.t 48)⟩, false),
        (⟨(some 50), none, .bin .add .other false (.t 47) (.t 49)⟩, true),
        (⟨(some 51), none, .bin .add .other true (.t 50) (.c (.int .i64 1))⟩, true),
        (⟨(some 52), none, .mv (.t 0)⟩, false),
        (⟨(some 53), none, .nilck (.t 52)⟩, false),
        (⟨(some 54), none, .faddr 0 (.t 53)⟩, false),
        (⟨(some 55), none, .load none (.t 54)⟩, false),
        (⟨(some 56), none, .bin .gtr .other false (.t 51) (.t 55)⟩, true)])
   (.cond (.t 56) (.seq (.reg [14] [⟨(some 57), none, .mv (.t 3)⟩,
          ⟨(some 58), none, .len .sl (.t 57)⟩,
          ⟨(some 14), none, .mv (.t 58)⟩])
     (.seq (.reg [15] [⟨(some 59), none, .mv (.t 0)⟩,
          ⟨(some 60), none, .mv (.t 3)⟩,
          ⟨(some 61), none, .mv (.t 2)⟩,
          ⟨(some 62), none, .mksl none [(.t 60), (.t 61)]⟩,
          ⟨(some 63), none, .call (.c (.fn 32)) [(.t 62)]⟩,
          ⟨(some 64), none, .call (.c (.fn 31)) [(.t 59), (.t 63)]⟩,
          ⟨(some 15), none, .mv (.t 64)⟩])
     (.any [3, 2] [(⟨(some 65), none, .mv (.t 15)⟩, true),
         (⟨(some 66), none, .mv (.t 14)⟩, false),
         (⟨(some 67), none, .mv (.t 14)⟩, false),
         (⟨(some 68), none, .slice (.sl (some 2)) (.t 65) none (some (.t 66)) (some (.t 67))⟩, true),
         (⟨(some 69), none, .mv (.t 15)⟩, false),
         (⟨(some 70), none, .mv (.t 14)⟩, false),
         (⟨(some 71), none, .slice (.sl (some 2)) (.t 69) (some (.t 70)) none none⟩, false),
         (⟨(some 3), none, .mv (.t 68)⟩, false),
         (⟨(some 2), none, .mv (.t 71)⟩, true)])))
   .skip))
  (.seq (.seq (.any [85] [(⟨(some 72), none, .mv (.t 0)⟩, true),
        (⟨(some 73), none, .nilck (.t 72)⟩, true),
        (⟨(some 74), none, .faddr 1 (.t 73)⟩, true),
        (⟨(some 75), none, .load none (.t 74)⟩, true),
        (⟨(some 76), none, .len .sl (.t 75)⟩, true),
        (⟨(some 77), none, .mv (.t 2)⟩, false),
        (⟨(some 78), none, .len .sl (.t 77)⟩, false),
        (⟨(some 79), none, .bin .add .other false (.t 76) (.t 78)⟩, true),
        (⟨(some 80), none, .bin .add .other true (.t 79) (.c (.int .i64 1))⟩, true),
        (⟨(some 81), none, .mv (.t 0)⟩, false),
        (⟨(some 82), none, .nilck (.t 81)⟩, false),
        (⟨(some 83), none, .faddr 0 (.t 82)⟩, false),
        (⟨(some 84), none, .load none (.t 83)⟩, false),
        (⟨(some 85), none, .bin .gtr .other false (.t 80) (.t 84)⟩, true)])
   (.cond (.t 85) (.seq (.reg [8, 9, 10, 11] [⟨(some 86), none, .mv (.t 2)⟩,
          ⟨(some 87), none, .mv (.t 3)⟩,
          ⟨(some 88), none, .mkif 39 (.c (.int .i64 7))⟩,
          ⟨(some 8), none, .mv (.c (.int .i64 0))⟩,
          ⟨(some 9), none, .mv (.t 86)⟩,
          ⟨(some 10), none, .mv (.t 87)⟩,
          ⟨(some 11), none, .mv (.t 88)⟩])
     .ret)
   .skip))
  (.seq (.reg [16] [⟨(some 89), none, .mv (.t 0)⟩,
       ⟨(some 90), none, .nilck (.t 89)⟩,
       ⟨(some 91), none, .faddr 1 (.t 90)⟩,
       ⟨(some 92), none, .load none (.t 91)⟩,
       ⟨(some 93), none, .len .sl (.t 92)⟩,
       ⟨(some 16), none, .mv (.t 93)⟩])
  (.seq (.reg [] [⟨(some 94), none, .mv (.t 0)⟩,
       ⟨(some 95), none, .load (some 2) (.t 12)⟩,
       ⟨(some 96), none, .mksl (some 2) [(.t 95)]⟩,
       ⟨(some 97), none, .mv (.t 2)⟩,
       ⟨(some 98), none, .append (some 2) 16 (.t 96) (.t 97)⟩,
       ⟨(some 99), none, .call (.c (.fn 33)) [(.t 94), (.t 98)]⟩])
  (.seq (.reg [8, 9, 10, 11] [⟨(some 100), none, .mv (.t 16)⟩,
       ⟨(some 101), none, .mv (.t 2)⟩,
       ⟨(some 102), none, .mv (.t 3)⟩,
       ⟨(some 8), none, .mv (.t 100)⟩,
       ⟨(some 9), none, .mv (.t 101)⟩,
       ⟨(some 10), none, .mv (.t 102)⟩,
       ⟨(some 11), none, .mv (.c .inil)⟩])
  .ret)))))))))⟩
theorem c9 : compF Try.prog [0, 1, 2, 3, 8, 9, 10, 11, 12, 13, 14, 15, 16, 37, 56, 85] Try.f9 = some a9 := by kernel_rfl

/- bushel/word.At -/
def a10 : AFun := ⟨5, [.cell 2 (some 2)], (.seq (.reg [2] [⟨(some 2), none, .alloc [(.bool false), (.int .i64 0)]⟩])
  (.seq (.reg [] [⟨(some 3), none, .mv (.t 0)⟩,
       ⟨(some 4), none, .build [(.bool false), (.int .i64 0)] [(0, 1, (.c (.bool true))), (1, 1, (.t 3))]⟩,
       ⟨none, none, .store 2 (.t 2) (.t 4)⟩])
  .ret))⟩
theorem c10 : compF Try.prog [0, 2] Try.f10 = some a10 := by kernel_rfl

/- (*bushel/heap.Heap).Set -/
def a11 : AFun := ⟨46, [.tmp 8], (.seq (.reg [7, 8] [⟨(some 7), none, .box (.t 3)⟩,
       ⟨(some 8), none, .mv (.c .inil)⟩])
  (.seq (.reg [9, 10] [⟨(some 12), none, .mv (.t 0)⟩,
       ⟨(some 13), none, .mv (.t 1)⟩,
       ⟨(some 14), none, .call (.c (.fn 34)) [(.t 12), (.t 13)]⟩,
       ⟨(some 11), none, .mv (.t 14)⟩,
       ⟨(some 15), none, .extract (.t 11) 0⟩,
       ⟨(some 16), none, .extract (.t 11) 1⟩,
       ⟨(some 9), none, .mv (.t 15)⟩,
       ⟨(some 10), none, .mv (.t 16)⟩])
  (.seq (.seq (.reg [34] [⟨(some 17), none, .mv (.t 10)⟩,
        ⟨(some 18), none, .un .not (.t 17)⟩,
        ⟨(some 19), none, .mv (.t 18)⟩,
        ⟨(some 20), (some (19, false)), .mv (.t 2)⟩,
        ⟨(some 21), (some (19, false)), .bin .lss .other true (.t 20) (.c (.int .i64 0))⟩,
        ⟨(some 22), none, .pick (.t 19) (.c (.bool true)) (.t 21)⟩,
        ⟨(some 23), none, .mv (.t 22)⟩,
        ⟨(some 24), (some (23, false)), .mv (.t 2)⟩,
        ⟨(some 25), (some (23, false)), .mv (.t 9)⟩,
        ⟨(some 26), (some (23, false)), .bin .geq .other false (.t 24) (.t 25)⟩,
        ⟨(some 27), none, .pick (.t 23) (.c (.bool true)) (.t 26)⟩,
        ⟨(some 28), none, .mv (.t 27)⟩,
        ⟨(some 29), (some (28, false)), .mv (.t 0)⟩,
        ⟨(some 30), (some (28, false)), .load (some 2) (.t 7)⟩,
        ⟨(some 31), (some (28, false)), .mksl (some 2) [(.t 30)]⟩,
        ⟨(some 32), (some (28, false)), .call (.c (.fn 29)) [(.t 29), (.t 31)]⟩,
        ⟨(some 33), (some (28, false)), .un .not (.t 32)⟩,
        ⟨(some 34), none, .pick (.t 28) (.c (.bool true)) (.t 33)⟩])
   (.cond (.t 34) (.seq (.reg [8] [⟨(some 35), none, .mkif 39 (.c (.int .i64 1))⟩,
          ⟨(some 8), none, .mv (.t 35)⟩])
     .ret)
   .skip))
  (.seq (.any [] [(⟨(some 36), none, .mv (.t 0)⟩, true),
       (⟨(some 37), none, .nilck (.t 36)⟩, true),
       (⟨(some 38), none, .faddr 1 (.t 37)⟩, true),
       (⟨(some 39), none, .load none (.t 38)⟩, true),
       (⟨(some 40), none, .mv (.t 1)⟩, false),
       (⟨(some 41), none, .bin .add .other true (.t 40) (.c (.int .i64 1))⟩, false),
       (⟨(some 42), none, .mv (.t 2)⟩, false),
       (⟨(some 43), none, .bin .add .other false (.t 41) (.t 42)⟩, false),
       (⟨(some 44), none, .load (some 2) (.t 7)⟩, false),
       (⟨(some 45), none, .iaddr (some 2) (.t 39) (.t 43)⟩, true),
       (⟨none, none, .store 2 (.t 45) (.t 44)⟩, true)])
  (.seq (.reg [8] [⟨(some 8), none, .mv (.c .inil)⟩])
  .ret)))))⟩
theorem c11 : compF Try.prog [0, 1, 2, 3, 7, 8, 9, 10, 34] Try.f11 = some a11 := by kernel_rfl

/- bushel/bushellaw02.walk -/
def a12 : AFun := ⟨57, [.tmp 6], (.seq (.reg [4, 6] [⟨(some 4), none, .box (.t 1)⟩,
       ⟨(some 6), none, .mv (.c .snil)⟩])
  (.seq (.seq (.reg [14] [⟨(some 12), none, .faddr 0 (.t 4)⟩,
        ⟨(some 13), none, .load none (.t 12)⟩,
        ⟨(some 14), none, .un .not (.t 13)⟩])
   (.cond (.t 14) (.seq (.reg [6] [⟨(some 15), none, .faddr 1 (.t 4)⟩,
          ⟨(some 16), none, .load none (.t 15)⟩,
          ⟨(some 17), none, .mksl none [(.c (.int .i64 0)), (.t 16)]⟩,
          ⟨(some 6), none, .mv (.t 17)⟩])
     .ret)
   .skip))
  (.seq (.reg [7, 8, 9] [⟨(some 19), none, .mv (.t 0)⟩,
       ⟨(some 20), none, .faddr 1 (.t 4)⟩,
       ⟨(some 21), none, .load none (.t 20)⟩,
       ⟨(some 22), none, .call (.c (.fn 24)) [(.t 19), (.t 21)]⟩,
       ⟨(some 18), none, .mv (.t 22)⟩,
       ⟨(some 23), none, .extract (.t 18) 0⟩,
       ⟨(some 24), none, .extract (.t 18) 1⟩,
       ⟨(some 25), none, .extract (.t 18) 2⟩,
       ⟨(some 7), none, .mv (.t 23)⟩,
       ⟨(some 8), none, .mv (.t 24)⟩,
       ⟨(some 9), none, .mv (.t 25)⟩])
  (.seq (.seq (.reg [27] [⟨(some 26), none, .mv (.t 9)⟩,
        ⟨(some 27), none, .bin .neq .ifc true (.t 26) (.c .inil)⟩])
   (.cond (.t 27) (.seq (.reg [6] [⟨(some 28), none, .mksl none [(.c (.int .i64 (-1)))]⟩,
          ⟨(some 6), none, .mv (.t 28)⟩])
     .ret)
   .skip))
  (.seq (.reg [10] [⟨(some 29), none, .mv (.t 7)⟩,
       ⟨(some 30), none, .mv (.t 8)⟩,
       ⟨(some 31), none, .len .sl (.t 30)⟩,
       ⟨(some 32), none, .mksl none [(.c (.int .i64 1)), (.t 29), (.t 31)]⟩,
       ⟨(some 10), none, .mv (.t 32)⟩])
  (.seq (.seq (.reg [34] [⟨(some 33), none, .mv (.t 2)⟩,
        ⟨(some 34), none, .bin .eql .other true (.t 33) (.c (.int .i64 0))⟩])
   (.cond (.t 34) (.seq (.reg [6] [⟨(some 35), none, .mv (.t 10)⟩,
          ⟨(some 6), none, .mv (.t 35)⟩])
     .ret)
   .skip))
  (.seq (.seq (.reg [11] [⟨(some 11), none, .mv (.c (.int .i64 0))⟩])
   (.block 0 (.loop (.seq (.seq (.reg [43] [⟨(some 36), none, .mv (.t 11)⟩,
           ⟨(some 37), none, .mv (.t 8)⟩,
           ⟨(some 38), none, .len .sl (.t 37)⟩,
           ⟨(some 39), none, .bin .lss .other false (.t 36) (.t 38)⟩,
           ⟨(some 40), none, .mv (.t 39)⟩,
           ⟨(some 41), (some (40, true)), .mv (.t 11)⟩,
           ⟨(some 42), (some (40, true)), .bin .lss .other true (.t 41) (.c (.int .i64 4))⟩,
           ⟨(some 43), none, .pick (.t 40) (.t 42) (.c (.bool false))⟩])
      (.cond (.t 43) .skip
      (.exit 0)))
     (.seq (.block 1 (.reg [10] [⟨(some 46), none, .mv (.t 10)⟩,
           ⟨(some 47), none, .mv (.t 0)⟩,
           ⟨(some 48), none, .mv (.t 8)⟩,
           ⟨(some 49), none, .mv (.t 11)⟩,
           ⟨(some 50), none, .iaddr (some 2) (.t 48) (.t 49)⟩,
           ⟨(some 51), none, .load (some 2) (.t 50)⟩,
           ⟨(some 52), none, .mv (.t 2)⟩,
           ⟨(some 53), none, .bin .sub .other true (.t 52) (.c (.int .i64 1))⟩,
           ⟨(some 54), none, .call (.c (.fn 12)) [(.t 47), (.t 51), (.t 53)]⟩,
           ⟨(some 55), none, .append none 8 (.t 46) (.t 54)⟩,
           ⟨(some 10), none, .mv (.t 55)⟩]))
     (.reg [11] [⟨(some 44), none, .mv (.t 11)⟩,
         ⟨(some 45), none, .bin .add .other true (.t 44) (.c (.int .i64 1))⟩,
         ⟨(some 11), none, .mv (.t 45)⟩]))))))
  (.seq (.reg [6] [⟨(some 56), none, .mv (.t 10)⟩,
       ⟨(some 6), none, .mv (.t 56)⟩])
  .ret))))))))⟩
theorem c12 : compF Try.prog [0, 1, 2, 4, 6, 7, 8, 9, 10, 11, 14, 27, 34, 43] Try.f12 = some a12 := by kernel_rfl

/- (*bushel/heap.Heap).Used -/
def a13 : AFun := ⟨8, [.tmp 2], (.seq (.reg [2] [⟨(some 2), none, .mv (.c (.int .i64 0))⟩])
  (.seq (.reg [2] [⟨(some 3), none, .mv (.t 0)⟩,
       ⟨(some 4), none, .nilck (.t 3)⟩,
       ⟨(some 5), none, .faddr 1 (.t 4)⟩,
       ⟨(some 6), none, .load none (.t 5)⟩,
       ⟨(some 7), none, .len .sl (.t 6)⟩,
       ⟨(some 2), none, .mv (.t 7)⟩])
  .ret))⟩
theorem c13 : compF Try.prog [0, 2] Try.f13 = some a13 := by kernel_rfl

/- (*bushel/heap.Heap).Collect -/
def a14 : AFun := ⟨14, [.tmp 4, .tmp 5], (.seq (.reg [4, 5] [⟨(some 4), none, .mv (.c .snil)⟩,
       ⟨(some 5), none, .mv (.c .inil)⟩])
  (.seq (.seq (.reg [9] [⟨(some 6), none, .mv (.t 0)⟩,
        ⟨(some 7), none, .mv (.t 1)⟩,
        ⟨(some 8), none, .call (.c (.fn 29)) [(.t 6), (.t 7)]⟩,
        ⟨(some 9), none, .un .not (.t 8)⟩])
   (.cond (.t 9) (.seq (.reg [4, 5] [⟨(some 10), none, .mkif 39 (.c (.int .i64 1))⟩,
          ⟨(some 4), none, .mv (.c .snil)⟩,
          ⟨(some 5), none, .mv (.t 10)⟩])
     .ret)
   .skip))
  (.seq (.reg [4, 5] [⟨(some 11), none, .mv (.t 0)⟩,
       ⟨(some 12), none, .mv (.t 1)⟩,
       ⟨(some 13), none, .call (.c (.fn 31)) [(.t 11), (.t 12)]⟩,
       ⟨(some 4), none, .mv (.t 13)⟩,
       ⟨(some 5), none, .mv (.c .inil)⟩])
  .ret)))⟩
theorem c14 : compF Try.prog [0, 1, 4, 5, 9] Try.f14 = some a14 := by kernel_rfl

/- (*bushel/heap.Heap).Object -/
def a24 : AFun := ⟨46, [.tmp 4, .tmp 5, .tmp 6], (.seq (.reg [4, 5, 6] [⟨(some 4), none, .mv (.c (.int .i64 0))⟩,
       ⟨(some 5), none, .mv (.c .snil)⟩,
       ⟨(some 6), none, .mv (.c .inil)⟩])
  (.seq (.reg [7, 8] [⟨(some 13), none, .mv (.t 0)⟩,
       ⟨(some 14), none, .mv (.t 1)⟩,
       ⟨(some 15), none, .call (.c (.fn 34)) [(.t 13), (.t 14)]⟩,
       ⟨(some 12), none, .mv (.t 15)⟩,
       ⟨(some 16), none, .extract (.t 12) 0⟩,
       ⟨(some 17), none, .extract (.t 12) 1⟩,
       ⟨(some 7), none, .mv (.t 16)⟩,
       ⟨(some 8), none, .mv (.t 17)⟩])
  (.seq (.seq (.reg [19] [⟨(some 18), none, .mv (.t 8)⟩,
        ⟨(some 19), none, .un .not (.t 18)⟩])
   (.cond (.t 19) (.seq (.reg [4, 5, 6] [⟨(some 20), none, .mkif 39 (.c (.int .i64 1))⟩,
          ⟨(some 4), none, .mv (.c (.int .i64 0))⟩,
          ⟨(some 5), none, .mv (.c .snil)⟩,
          ⟨(some 6), none, .mv (.t 20)⟩])
     .ret)
   .skip))
  (.seq (.reg [9] [⟨(some 22), none, .mv (.t 0)⟩,
       ⟨(some 23), none, .nilck (.t 22)⟩,
       ⟨(some 24), none, .faddr 1 (.t 23)⟩,
       ⟨(some 25), none, .load none (.t 24)⟩,
       ⟨(some 26), none, .mv (.t 1)⟩,
       ⟨(some 27), none, .iaddr (some 2) (.t 25) (.t 26)⟩,
       ⟨(some 28), none, .load (some 2) (.t 27)⟩,
       ⟨(some 29), none, .call (.c (.fn 37)) [(.t 28)]⟩,
       ⟨(some 21), none, .mv (.t 29)⟩,
       ⟨(some 30), none, .extract (.t 21) 0⟩,
       ⟨(some 31), none, .extract (.t 21) 1⟩,
       ⟨(some 32), none, .extract (.t 21) 2⟩,
       ⟨(some 9), none, .mv (.t 30)⟩,
       ⟨(some 10), none, .mv (.t 31)⟩,
       ⟨(some 11), none, .mv (.t 32)⟩])
  (.seq (.reg [4, 5, 6] [⟨(some 33), none, .mv (.t 9)⟩,
       ⟨(some 34), none, .mv (.t 0)⟩,
       ⟨(some 35), none, .nilck (.t 34)⟩,
       ⟨(some 36), none, .faddr 1 (.t 35)⟩,
       ⟨(some 37), none, .load none (.t 36)⟩,
       ⟨(some 38), none, .mv (.t 1)⟩,
       ⟨(some 39), none, .bin .add .other true (.t 38) (.c (.int .i64 1))⟩,
       ⟨(some 40), none, .mv (.t 1)⟩,
       ⟨(some 41), none, .bin .add .other true (.t 40) (.c (.int .i64 1))⟩,
       ⟨(some 42), none, .mv (.t 7)⟩,
       ⟨(some 43), none, .bin .add .other false (.t 41) (.t 42)⟩,
       ⟨(some 44), none, .slice (.sl (some 2)) (.t 37) (some (.t 39)) (some (.t 43)) none⟩,
       ⟨(some 45), none, .call (.c (.fn 30)) [(.t 44)]⟩,
       ⟨(some 4), none, .mv (.t 33)⟩,
       ⟨(some 5), none, .mv (.t 45)⟩,
       ⟨(some 6), none, .mv (.c .inil)⟩])
  .ret)))))⟩
theorem c24 : compF Try.prog [0, 1, 4, 5, 6, 7, 8, 9, 19] Try.f24 = some a24 := by kernel_rfl

/- (*bushel/heap.Heap).Runs -/
def a27 : AFun := ⟨7, [.tmp 2], (.seq (.reg [2] [⟨(some 2), none, .mv (.c (.int .i64 0))⟩])
  (.seq (.reg [2] [⟨(some 3), none, .mv (.t 0)⟩,
       ⟨(some 4), none, .nilck (.t 3)⟩,
       ⟨(some 5), none, .faddr 3 (.t 4)⟩,
       ⟨(some 6), none, .load none (.t 5)⟩,
       ⟨(some 2), none, .mv (.t 6)⟩])
  .ret))⟩
theorem c27 : compF Try.prog [0, 2] Try.f27 = some a27 := by kernel_rfl

/- bushel/word.Head -/
def a28 : AFun := ⟨27, [.cell 4 (some 2), .tmp 5], (.seq (.reg [4, 5] [⟨(some 4), none, .alloc [(.bool false), (.int .i64 0)]⟩,
       ⟨(some 5), none, .mv (.c .inil)⟩])
  (.seq (.seq (.reg [19] [⟨(some 6), none, .mv (.t 0)⟩,
        ⟨(some 7), none, .bin .lss .other true (.t 6) (.c (.int .i64 0))⟩,
        ⟨(some 8), none, .mv (.t 7)⟩,
        ⟨(some 9), (some (8, false)), .mv (.t 0)⟩,
        ⟨(some 10), (some (8, false)), .bin .geq .other true (.t 9) (.c (.int .i64 16))⟩,
        ⟨(some 11), none, .pick (.t 8) (.c (.bool true)) (.t 10)⟩,
        ⟨(some 12), none, .mv (.t 11)⟩,
        ⟨(some 13), (some (12, false)), .mv (.t 1)⟩,
        ⟨(some 14), (some (12, false)), .bin .lss .other true (.t 13) (.c (.int .i64 0))⟩,
        ⟨(some 15), none, .pick (.t 12) (.c (.bool true)) (.t 14)⟩,
        ⟨(some 16), none, .mv (.t 15)⟩,
        ⟨(some 17), (some (16, false)), .mv (.t 1)⟩,
        ⟨(some 18), (some (16, false)), .bin .gtr .other true (.t 17) (.c (.int .i64 4000))⟩,
        ⟨(some 19), none, .pick (.t 16) (.c (.bool true)) (.t 18)⟩])
   (.cond (.t 19) (.seq (.reg [5] [⟨(some 20), none, .build [(.bool false), (.int .i64 0)] []⟩,
          ⟨(some 21), none, .mkif 39 (.c (.int .i64 1))⟩,
          ⟨none, none, .store 2 (.t 4) (.t 20)⟩,
          ⟨(some 5), none, .mv (.t 21)⟩])
     .ret)
   .skip))
  (.seq (.reg [5] [⟨(some 22), none, .mv (.t 1)⟩,
       ⟨(some 23), none, .bin .mul .other true (.t 22) (.c (.int .i64 16))⟩,
       ⟨(some 24), none, .mv (.t 0)⟩,
       ⟨(some 25), none, .bin .add .other false (.t 23) (.t 24)⟩,
       ⟨(some 26), none, .call (.c (.fn 7)) [(.t 25)]⟩,
       ⟨none, none, .store 2 (.t 4) (.t 26)⟩,
       ⟨(some 5), none, .mv (.c .inil)⟩])
  .ret)))⟩
theorem c28 : compF Try.prog [0, 1, 4, 5, 19] Try.f28 = some a28 := by kernel_rfl

/- (*bushel/heap.Heap).fine -/
def a29 : AFun := ⟨11, [.tmp 4], (.seq (.reg [2, 4] [⟨(some 2), none, .box (.t 0)⟩,
       ⟨(some 4), none, .mv (.c (.bool false))⟩])
  (.seq (.reg [5] [⟨(some 6), none, .mkfn 40 [(.t 2)]⟩,
       ⟨(some 5), none, .mv (.t 6)⟩])
  (.seq (.reg [4] [⟨(some 7), none, .mv (.t 1)⟩,
       ⟨(some 8), none, .mv (.t 5)⟩,
       ⟨(some 9), none, .call (.c (.fn 41)) [(.t 7), (.t 8)]⟩,
       ⟨(some 10), none, .un .not (.t 9)⟩,
       ⟨(some 4), none, .mv (.t 10)⟩])
  .ret)))⟩
theorem c29 : compF Try.prog [0, 1, 2, 4, 5] Try.f29 = some a29 := by kernel_rfl

/- slices.Clone[[]bushel/word.Word,bushel/word.Word] -/
def a30 : AFun := ⟨8, [.tmp 2], (.seq (.reg [2] [⟨(some 2), none, .mv (.c .snil)⟩])
  (.seq (.seq (.reg [4] [⟨(some 3), none, .mv (.t 0)⟩,
        ⟨(some 4), none, .bin .eql .sl true (.t 3) (.c .snil)⟩])
   (.cond (.t 4) (.seq (.reg [2] [⟨(some 2), none, .mv (.c .snil)⟩])
     .ret)
   .skip))
  (.seq (.reg [2] [⟨(some 5), none, .mksl (some 2) []⟩,
       ⟨(some 6), none, .mv (.t 0)⟩,
       ⟨(some 7), none, .append (some 2) 16 (.t 5) (.t 6)⟩,
       ⟨(some 2), none, .mv (.t 7)⟩])
  .ret)))⟩
theorem c30 : compF Try.prog [0, 2, 4] Try.f30 = some a30 := by kernel_rfl

/- (*bushel/heap.Heap).run -/
def a31 : AFun := ⟨89, [.tmp 4], (.seq (.reg [4] [⟨(some 4), none, .mv (.c .snil)⟩])
  (.seq (.any [5] [(⟨(some 13), none, .mv (.t 0)⟩, true),
       (⟨(some 14), none, .nilck (.t 13)⟩, true),
       (⟨(some 15), none, .faddr 1 (.t 14)⟩, true),
       (⟨(some 16), none, .load none (.t 15)⟩, true),
       (⟨(some 17), none, .mv (.t 0)⟩, false),
       (⟨(some 18), none, .nilck (.t 17)⟩, false),
       (⟨(some 19), none, .faddr 1 (.t 18)⟩, false),
       (⟨(some 20), none, .load none (.t 19)⟩, false),
       (⟨(some 21), none, .len .sl (.t 20)⟩, false),
       (⟨(some 22), none, .ext (.mkvec (some 2) 16 [(.bool false), (.int .i64 0)]) [(.c (.int .i64 0)), (.t 21)]⟩, false),
       (⟨(some 23), none, .build [.snil, .snil] [(0, 1, (.t 16)), (1, 1, (.t 22))]⟩, true),
       (⟨(some 24), none, .box (.t 23)⟩, true),
       (⟨(some 5), none, .mv (.t 24)⟩, true)])
  (.seq (.reg [6] [⟨(some 6), none, .mv (.c .snil)⟩])
  (.seq (.seq (.reg [25, 26, 27] [⟨(some 25), none, .mv (.t 1)⟩,
        ⟨(some 26), none, .len .sl (.t 25)⟩,
        ⟨(some 27), none, .mv (.c (.int .i64 0))⟩])
   (.block 0 (.loop (.seq (.reg [28] [⟨(some 28), none, .bin .lss .other false (.t 27) (.t 26)⟩])
     (.seq (.cond (.t 28) .skip
      (.exit 0))
     (.seq (.block 1 (.seq (.reg [8] [⟨(some 29), none, .iaddr (some 2) (.t 25) (.t 27)⟩,
            ⟨(some 30), none, .load (some 2) (.t 29)⟩,
            ⟨(some 8), none, .alloc [(.bool false), (.int .i64 0)]⟩,
            ⟨none, none, .store 2 (.t 8) (.t 30)⟩])
       (.reg [6] [⟨(some 31), none, .mv (.t 6)⟩,
           ⟨(some 32), none, .mv (.t 5)⟩,
           ⟨(some 33), none, .load (some 2) (.t 8)⟩,
           ⟨(some 34), none, .call (.c (.fn 42)) [(.t 32), (.t 33)]⟩,
           ⟨(some 35), none, .mksl (some 2) [(.t 34)]⟩,
           ⟨(some 36), none, .append (some 2) 16 (.t 31) (.t 35)⟩,
           ⟨(some 6), none, .mv (.t 36)⟩])))
     (.reg [27] [⟨(some 37), none, .bin .add .other true (.t 27) (.c (.int .i64 1))⟩,
         ⟨(some 27), none, .mv (.t 37)⟩])))))))
  (.seq (.reg [] [⟨(some 38), none, .mv (.t 5)⟩,
       ⟨(some 39), none, .call (.c (.fn 43)) [(.t 38)]⟩])
  (.seq (.reg [] [⟨(some 40), none, .mv (.t 0)⟩,
       ⟨(some 41), none, .nilck (.t 40)⟩,
       ⟨(some 42), none, .faddr 1 (.t 41)⟩,
       ⟨none, none, .store 1 (.t 42) (.c .snil)⟩])
  (.seq (.reg [] [⟨(some 43), none, .mv (.t 0)⟩,
       ⟨(some 44), none, .nilck (.t 43)⟩,
       ⟨(some 45), none, .faddr 2 (.t 44)⟩,
       ⟨none, none, .store 1 (.t 45) (.c .snil)⟩])
  (.seq (.seq (.reg [9] [⟨(some 9), none, .mv (.c (.int .i64 0))⟩])
   (.block 2 (.loop (.seq (.seq (.reg [52] [⟨(some 46), none, .mv (.t 9)⟩,
           ⟨(some 47), none, .mv (.t 5)⟩,
           ⟨(some 48), none, .nilck (.t 47)⟩,
           ⟨(some 49), none, .faddr 1 (.t 48)⟩,
           ⟨(some 50), none, .load none (.t 49)⟩,
           ⟨(some 51), none, .len .sl (.t 50)⟩,
           ⟨(some 52), none, .bin .lss .other false (.t 46) (.t 51)⟩])
      (.cond (.t 52) .skip
      (.exit 2)))
     (.block 3 (.seq (.reg [11] [⟨(some 54), none, .mv (.t 5)⟩,
           ⟨(some 55), none, .nilck (.t 54)⟩,
           ⟨(some 56), none, .faddr 1 (.t 55)⟩,
           ⟨(some 57), none, .load none (.t 56)⟩,
           ⟨(some 58), none, .mv (.t 9)⟩,
           ⟨(some 59), none, .iaddr (some 2) (.t 57) (.t 58)⟩,
           ⟨(some 60), none, .load (some 2) (.t 59)⟩,
           ⟨(some 61), none, .call (.c (.fn 37)) [(.t 60)]⟩,
           ⟨(some 53), none, .mv (.t 61)⟩,
           ⟨(some 62), none, .extract (.t 53) 0⟩,
           ⟨(some 63), none, .extract (.t 53) 1⟩,
           ⟨(some 64), none, .extract (.t 53) 2⟩,
           ⟨(some 10), none, .mv (.t 62)⟩,
           ⟨(some 11), none, .mv (.t 63)⟩,
           ⟨(some 12), none, .mv (.t 64)⟩])
      (.seq (.reg [] [⟨(some 65), none, .mv (.t 0)⟩,
           ⟨(some 66), none, .mv (.t 5)⟩,
           ⟨(some 67), none, .nilck (.t 66)⟩,
           ⟨(some 68), none, .faddr 1 (.t 67)⟩,
           ⟨(some 69), none, .load none (.t 68)⟩,
           ⟨(some 70), none, .mv (.t 9)⟩,
           ⟨(some 71), none, .mv (.t 9)⟩,
           ⟨(some 72), none, .mv (.t 11)⟩,
           ⟨(some 73), none, .bin .add .other false (.t 71) (.t 72)⟩,
           ⟨(some 74), none, .bin .add .other true (.t 73) (.c (.int .i64 1))⟩,
           ⟨(some 75), none, .slice (.sl (some 2)) (.t 69) (some (.t 70)) (some (.t 74)) none⟩,
           ⟨(some 76), none, .call (.c (.fn 33)) [(.t 65), (.t 75)]⟩])
      (.reg [9] [⟨(some 77), none, .mv (.t 9)⟩,
          ⟨(some 78), none, .mv (.t 11)⟩,
          ⟨(some 79), none, .bin .add .other true (.t 78) (.c (.int .i64 1))⟩,
          ⟨(some 80), none, .bin .add .other false (.t 77) (.t 79)⟩,
          ⟨(some 9), none, .mv (.t 80)⟩]))))))))
  (.seq (.reg [] [⟨(some 81), none, .mv (.t 0)⟩,
       ⟨(some 82), none, .nilck (.t 81)⟩,
       ⟨(some 83), none, .faddr 3 (.t 82)⟩,
       ⟨(some 84), none, .load none (.t 83)⟩,
       ⟨(some 85), none, .bin .add .other true (.t 84) (.c (.int .i64 1))⟩,
       ⟨(some 86), none, .nilck (.t 81)⟩,
       ⟨(some 87), none, .faddr 3 (.t 86)⟩,
       ⟨none, none, .store 1 (.t 87) (.t 85)⟩])
  (.seq (.reg [4] [⟨(some 88), none, .mv (.t 6)⟩,
       ⟨(some 4), none, .mv (.t 88)⟩])
  .ret))))))))))⟩
theorem c31 : compF Try.prog [0, 1, 4, 5, 6, 8, 9, 11, 25, 26, 27, 28, 52] Try.f31 = some a31 := by kernel_rfl

/- (*bushel/heap.Heap).put -/
def a33m : AFun := ⟨26, [], (.seq (.reg [] [⟨(some 4), none, .mv (.t 0)⟩,
       ⟨(some 5), none, .mv (.t 0)⟩,
       ⟨(some 6), none, .nilck (.t 5)⟩,
       ⟨(some 7), none, .faddr 1 (.t 6)⟩,
       ⟨(some 8), none, .load none (.t 7)⟩,
       ⟨(some 9), none, .mv (.t 1)⟩,
       ⟨(some 10), none, .ext (.appm (some 2) 16) [(.t 8), (.t 9)]⟩,
       ⟨(some 11), none, .nilck (.t 4)⟩,
       ⟨(some 12), none, .faddr 1 (.t 11)⟩,
       ⟨none, none, .store 1 (.t 12) (.t 10)⟩])
  (.reg [] [⟨(some 13), none, .mv (.t 0)⟩,
      ⟨(some 14), none, .mv (.t 0)⟩,
      ⟨(some 15), none, .nilck (.t 14)⟩,
      ⟨(some 16), none, .faddr 2 (.t 15)⟩,
      ⟨(some 17), none, .load none (.t 16)⟩,
      ⟨(some 18), none, .mksl none [(.c (.bool true))]⟩,
      ⟨(some 19), none, .ext (.appm none 1) [(.t 17), (.t 18)]⟩,
      ⟨(some 20), none, .mv (.t 1)⟩,
      ⟨(some 21), none, .len .sl (.t 20)⟩,
      ⟨(some 22), none, .bin .sub .other true (.t 21) (.c (.int .i64 1))⟩,
      ⟨(some 23), none, .ext (.appz none 1 [(.bool false)]) [(.t 19), (.t 22)]⟩,
      ⟨(some 24), none, .nilck (.t 13)⟩,
      ⟨(some 25), none, .faddr 2 (.t 24)⟩,
      ⟨none, none, .store 1 (.t 25) (.t 23)⟩]))⟩
theorem c33m : compF Try.prog [0, 1] Try.f33 [10, 19] = some a33m := by kernel_rfl

/- (*bushel/heap.Heap).size -/
def a34 : AFun := ⟨44, [.tmp 4, .tmp 5], (.seq (.reg [4, 5] [⟨(some 4), none, .mv (.c (.int .i64 0))⟩,
       ⟨(some 5), none, .mv (.c (.bool false))⟩])
  (.seq (.seq (.reg [29] [⟨(some 9), none, .mv (.t 1)⟩,
        ⟨(some 10), none, .bin .lss .other true (.t 9) (.c (.int .i64 0))⟩,
        ⟨(some 11), none, .mv (.t 10)⟩,
        ⟨(some 12), (some (11, false)), .mv (.t 1)⟩,
        ⟨(some 13), (some (11, false)), .mv (.t 0)⟩,
        ⟨(some 14), (some (11, false)), .nilck (.t 13)⟩,
        ⟨(some 15), (some (11, false)), .faddr 1 (.t 14)⟩,
        ⟨(some 16), (some (11, false)), .load none (.t 15)⟩,
        ⟨(some 17), (some (11, false)), .len .sl (.t 16)⟩,
        ⟨(some 18), (some (11, false)), .bin .geq .other false (.t 12) (.t 17)⟩,
        ⟨(some 19), none, .pick (.t 11) (.c (.bool true)) (.t 18)⟩,
        ⟨(some 20), none, .mv (.t 19)⟩,
        ⟨(some 21), (some (20, false)), .mv (.t 0)⟩,
        ⟨(some 22), (some (20, false)), .nilck (.t 21)⟩,
        ⟨(some 23), (some (20, false)), .faddr 2 (.t 22)⟩,
        ⟨(some 24), (some (20, false)), .load none (.t 23)⟩,
        ⟨(some 25), (some (20, false)), .mv (.t 1)⟩,
        ⟨(some 26), (some (20, false)), .iaddr none (.t 24) (.t 25)⟩,
        ⟨(some 27), (some (20, false)), .load none (.t 26)⟩,
        ⟨(some 28), (some (20, false)), .un .not (.t 27)⟩,
        ⟨(some 29), none, .pick (.t 20) (.c (.bool true)) (.t 28)⟩])
   (.cond (.t 29) (.seq (.reg [4, 5] [⟨(some 4), none, .mv (.c (.int .i64 0))⟩,
          ⟨(some 5), none, .mv (.c (.bool false))⟩])
     .ret)
   .skip))
  (.seq (.reg [7, 8] [⟨(some 31), none, .mv (.t 0)⟩,
       ⟨(some 32), none, .nilck (.t 31)⟩,
       ⟨(some 33), none, .faddr 1 (.t 32)⟩,
       ⟨(some 34), none, .load none (.t 33)⟩,
       ⟨(some 35), none, .mv (.t 1)⟩,
       ⟨(some 36), none, .iaddr (some 2) (.t 34) (.t 35)⟩,
       ⟨(some 37), none, .load (some 2) (.t 36)⟩,
       ⟨(some 38), none, .call (.c (.fn 37)) [(.t 37)]⟩,
       ⟨(some 30), none, .mv (.t 38)⟩,
       ⟨(some 39), none, .extract (.t 30) 0⟩,
       ⟨(some 40), none, .extract (.t 30) 1⟩,
       ⟨(some 41), none, .extract (.t 30) 2⟩,
       ⟨(some 6), none, .mv (.t 39)⟩,
       ⟨(some 7), none, .mv (.t 40)⟩,
       ⟨(some 8), none, .mv (.t 41)⟩])
  (.seq (.reg [4, 5] [⟨(some 42), none, .mv (.t 7)⟩,
       ⟨(some 43), none, .mv (.t 8)⟩,
       ⟨(some 4), none, .mv (.t 42)⟩,
       ⟨(some 5), none, .mv (.t 43)⟩])
  .ret))))⟩
theorem c34 : compF Try.prog [0, 1, 4, 5, 7, 8, 29] Try.f34 = some a34 := by kernel_rfl

/- bushel/word.Parts -/
def a37 : AFun := ⟨23, [.tmp 2, .tmp 3, .tmp 4], (.seq (.reg [1, 2, 3, 4] [⟨(some 1), none, .box (.t 0)⟩,
       ⟨(some 2), none, .mv (.c (.int .i64 0))⟩,
       ⟨(some 3), none, .mv (.c (.int .i64 0))⟩,
       ⟨(some 4), none, .mv (.c (.bool false))⟩])
  (.seq (.seq (.reg [16] [⟨(some 5), none, .faddr 0 (.t 1)⟩,
        ⟨(some 6), none, .load none (.t 5)⟩,
        ⟨(some 7), none, .mv (.t 6)⟩,
        ⟨(some 8), (some (7, false)), .faddr 1 (.t 1)⟩,
        ⟨(some 9), (some (7, false)), .load none (.t 8)⟩,
        ⟨(some 10), (some (7, false)), .bin .lss .other true (.t 9) (.c (.int .i64 0))⟩,
        ⟨(some 11), none, .pick (.t 7) (.c (.bool true)) (.t 10)⟩,
        ⟨(some 12), none, .mv (.t 11)⟩,
        ⟨(some 13), (some (12, false)), .faddr 1 (.t 1)⟩,
        ⟨(some 14), (some (12, false)), .load none (.t 13)⟩,
        ⟨(some 15), (some (12, false)), .bin .geq .other true (.t 14) (.c (.int .i64 64016))⟩,
        ⟨(some 16), none, .pick (.t 12) (.c (.bool true)) (.t 15)⟩])
   (.cond (.t 16) (.seq (.reg [2, 3, 4] [⟨(some 2), none, .mv (.c (.int .i64 0))⟩,
          ⟨(some 3), none, .mv (.c (.int .i64 0))⟩,
          ⟨(some 4), none, .mv (.c (.bool false))⟩])
     .ret)
   .skip))
  (.seq (.any [2, 3, 4] [(⟨(some 17), none, .faddr 1 (.t 1)⟩, true),
       (⟨(some 18), none, .load none (.t 17)⟩, true),
       (⟨(some 19), none, .bin .rem .other true (.t 18) (.c (.int .i64 16))⟩, true),
       (⟨(some 20), none, .faddr 1 (.t 1)⟩, false),
       (⟨(some 21), none, .load none (.t 20)⟩, false),
       (⟨(some 22), none, .bin .quo .other true (.t 21) (.c (.int .i64 16))⟩, false),
       (⟨(some 2), none, .mv (.t 19)⟩, false),
       (⟨(some 3), none, .mv (.t 22)⟩, true),
       (⟨(some 4), none, .mv (.c (.bool true))⟩, true)])
  .ret)))⟩
theorem c37 : compF Try.prog [0, 1, 2, 3, 4, 16] Try.f37 = some a37 := by kernel_rfl

/- (*bushel/heap.Heap).fine$1 -/
def a40 : AFun := ⟨25, [.tmp 3], (.seq (.reg [2, 3] [⟨(some 2), none, .box (.t 0)⟩,
       ⟨(some 3), none, .mv (.c (.bool false))⟩])
  (.seq (.seq (.reg [8] [⟨(some 6), none, .faddr 0 (.t 2)⟩,
        ⟨(some 7), none, .load none (.t 6)⟩,
        ⟨(some 8), none, .un .not (.t 7)⟩])
   (.cond (.t 8) (.seq (.reg [3] [⟨(some 3), none, .mv (.c (.bool false))⟩])
     .ret)
   .skip))
  (.seq (.reg [5] [⟨(some 10), none, .load none (.t 1)⟩,
       ⟨(some 11), none, .faddr 1 (.t 2)⟩,
       ⟨(some 12), none, .load none (.t 11)⟩,
       ⟨(some 13), none, .call (.c (.fn 34)) [(.t 10), (.t 12)]⟩,
       ⟨(some 9), none, .mv (.t 13)⟩,
       ⟨(some 14), none, .extract (.t 9) 0⟩,
       ⟨(some 15), none, .extract (.t 9) 1⟩,
       ⟨(some 4), none, .mv (.t 14)⟩,
       ⟨(some 5), none, .mv (.t 15)⟩])
  (.seq (.reg [3] [⟨(some 16), none, .mv (.t 5)⟩,
       ⟨(some 17), none, .un .not (.t 16)⟩,
       ⟨(some 18), none, .mv (.t 17)⟩,
       ⟨(some 19), (some (18, false)), .faddr 1 (.t 2)⟩,
       ⟨(some 20), (some (18, false)), .load none (.t 19)⟩,
       ⟨(some 21), (some (18, false)), .faddr 1 (.t 2)⟩,
       ⟨(some 22), (some (18, false)), .load none (.t 21)⟩,
       ⟨(some 23), (some (18, false)), .bin .neq .other false (.t 20) (.t 22)⟩,
       ⟨(some 24), none, .pick (.t 18) (.c (.bool true)) (.t 23)⟩,
       ⟨(some 3), none, .mv (.t 24)⟩])
  .ret))))⟩
theorem c40 : compF Try.prog [0, 1, 2, 3, 5, 8] Try.f40 = some a40 := by kernel_rfl

/- slices.ContainsFunc[[]bushel/word.Word,bushel/word.Word] -/
def a41 : AFun := ⟨9, [.tmp 4], (.seq (.reg [4] [⟨(some 4), none, .mv (.c (.bool false))⟩])
  (.seq (.reg [4] [⟨(some 5), none, .mv (.t 0)⟩,
       ⟨(some 6), none, .mv (.t 1)⟩,
       ⟨(some 7), none, .call (.c (.fn 46)) [(.t 5), (.t 6)]⟩,
       ⟨(some 8), none, .bin .geq .other true (.t 7) (.c (.int .i64 0))⟩,
       ⟨(some 4), none, .mv (.t 8)⟩])
  .ret))⟩
theorem c41 : compF Try.prog [0, 1, 4] Try.f41 = some a41 := by kernel_rfl

/- (*bushel/heap.copier).move -/
def a42m : AFun := ⟨77, [.cell 4 (some 2)], (.seq (.reg [3, 4] [⟨(some 3), none, .box (.t 1)⟩,
       ⟨(some 4), none, .alloc [(.bool false), (.int .i64 0)]⟩])
  (.seq (.seq (.reg [14] [⟨(some 12), none, .faddr 0 (.t 3)⟩,
        ⟨(some 13), none, .load none (.t 12)⟩,
        ⟨(some 14), none, .un .not (.t 13)⟩])
   (.cond (.t 14) (.seq (.reg [] [⟨(some 15), none, .load (some 2) (.t 3)⟩,
          ⟨none, none, .store 2 (.t 4) (.t 15)⟩])
     .ret)
   .skip))
  (.seq (.reg [5] [⟨(some 16), none, .faddr 1 (.t 3)⟩,
       ⟨(some 17), none, .load none (.t 16)⟩,
       ⟨(some 5), none, .mv (.t 17)⟩])
  (.seq (.seq (.reg [6, 7] [⟨(some 19), none, .mv (.t 0)⟩,
        ⟨(some 20), none, .nilck (.t 19)⟩,
        ⟨(some 21), none, .faddr 0 (.t 20)⟩,
        ⟨(some 22), none, .load none (.t 21)⟩,
        ⟨(some 23), none, .mv (.t 5)⟩,
        ⟨(some 24), none, .iaddr (some 2) (.t 22) (.t 23)⟩,
        ⟨(some 25), none, .load (some 2) (.t 24)⟩,
        ⟨(some 26), none, .call (.c (.fn 47)) [(.t 25)]⟩,
        ⟨(some 18), none, .mv (.t 26)⟩,
        ⟨(some 27), none, .extract (.t 18) 0⟩,
        ⟨(some 28), none, .extract (.t 18) 1⟩,
        ⟨(some 6), none, .mv (.t 27)⟩,
        ⟨(some 7), none, .mv (.t 28)⟩])
   (.seq (.reg [29] [⟨(some 29), none, .mv (.t 7)⟩])
   (.cond (.t 29) (.seq (.reg [] [⟨(some 30), none, .mv (.t 6)⟩,
          ⟨(some 31), none, .call (.c (.fn 10)) [(.t 30)]⟩,
          ⟨none, none, .store 2 (.t 4) (.t 31)⟩])
     .ret)
   .skip)))
  (.seq (.reg [9] [⟨(some 33), none, .mv (.t 0)⟩,
       ⟨(some 34), none, .nilck (.t 33)⟩,
       ⟨(some 35), none, .faddr 0 (.t 34)⟩,
       ⟨(some 36), none, .load none (.t 35)⟩,
       ⟨(some 37), none, .mv (.t 5)⟩,
       ⟨(some 38), none, .iaddr (some 2) (.t 36) (.t 37)⟩,
       ⟨(some 39), none, .load (some 2) (.t 38)⟩,
       ⟨(some 40), none, .call (.c (.fn 37)) [(.t 39)]⟩,
       ⟨(some 32), none, .mv (.t 40)⟩,
       ⟨(some 41), none, .extract (.t 32) 0⟩,
       ⟨(some 42), none, .extract (.t 32) 1⟩,
       ⟨(some 43), none, .extract (.t 32) 2⟩,
       ⟨(some 8), none, .mv (.t 41)⟩,
       ⟨(some 9), none, .mv (.t 42)⟩,
       ⟨(some 10), none, .mv (.t 43)⟩])
  (.seq (.reg [11] [⟨(some 44), none, .mv (.t 0)⟩,
       ⟨(some 45), none, .nilck (.t 44)⟩,
       ⟨(some 46), none, .faddr 1 (.t 45)⟩,
       ⟨(some 47), none, .load none (.t 46)⟩,
       ⟨(some 48), none, .len .sl (.t 47)⟩,
       ⟨(some 11), none, .mv (.t 48)⟩])
  (.seq (.any [] [(⟨(some 49), none, .mv (.t 0)⟩, true),
       (⟨(some 50), none, .mv (.t 0)⟩, false),
       (⟨(some 51), none, .nilck (.t 50)⟩, false),
       (⟨(some 52), none, .faddr 1 (.t 51)⟩, false),
       (⟨(some 53), none, .load none (.t 52)⟩, false),
       (⟨(some 54), none, .mv (.t 0)⟩, false),
       (⟨(some 55), none, .nilck (.t 54)⟩, false),
       (⟨(some 56), none, .faddr 0 (.t 55)⟩, false),
       (⟨(some 57), none, .load none (.t 56)⟩, false),
       (⟨(some 58), none, .mv (.t 5)⟩, false),
       (⟨(some 59), none, .mv (.t 5)⟩, false),
       (⟨(some 60), none, .mv (.t 9)⟩, false),
       (⟨(some 61), none, .bin .add .other false (.t 59) (.t 60)⟩, false),
       (⟨(some 62), none, .bin .add .other true (.t 61) (.c (.int .i64 1))⟩, false),
       (⟨(some 63), none, .slice (.sl (some 2)) (.t 57) (some (.t 58)) (some (.t 62)) none⟩, false),
       (⟨(some 64), none, .ext (.appm (some 2) 16) [(.t 53), (.t 63)]⟩, false),
       (⟨(some 65), none, .nilck (.t 49)⟩, true),
       (⟨(some 66), none, .faddr 1 (.t 65)⟩, true),
       (⟨none, none, .store 1 (.t 66) (.t 64)⟩, true)])
  (.seq (.any [] [(⟨(some 67), none, .mv (.t 0)⟩, true),
       (⟨(some 68), none, .nilck (.t 67)⟩, true),
       (⟨(some 69), none, .faddr 0 (.t 68)⟩, true),
       (⟨(some 70), none, .load none (.t 69)⟩, true),
       (⟨(some 71), none, .mv (.t 5)⟩, false),
       (⟨(some 72), none, .mv (.t 11)⟩, false),
       (⟨(some 73), none, .call (.c (.fn 10)) [(.t 72)]⟩, false),
       (⟨(some 74), none, .iaddr (some 2) (.t 70) (.t 71)⟩, true),
       (⟨none, none, .store 2 (.t 74) (.t 73)⟩, true)])
  (.seq (.reg [] [⟨(some 75), none, .mv (.t 11)⟩,
       ⟨(some 76), none, .call (.c (.fn 10)) [(.t 75)]⟩,
       ⟨none, none, .store 2 (.t 4) (.t 76)⟩])
  .ret)))))))))⟩
theorem c42m : compF Try.prog [0, 1, 3, 4, 5, 6, 7, 9, 11, 14, 29] Try.f42 [64] = some a42m := by kernel_rfl

/- (*bushel/heap.copier).scan -/
def a43 : AFun := ⟨56, [], (.seq (.reg [2] [⟨(some 2), none, .mv (.c (.int .i64 0))⟩])
  (.block 0 (.loop (.seq (.seq (.reg [14] [⟨(some 8), none, .mv (.t 2)⟩,
          ⟨(some 9), none, .mv (.t 0)⟩,
          ⟨(some 10), none, .nilck (.t 9)⟩,
          ⟨(some 11), none, .faddr 1 (.t 10)⟩,
          ⟨(some 12), none, .load none (.t 11)⟩,
          ⟨(some 13), none, .len .sl (.t 12)⟩,
          ⟨(some 14), none, .bin .lss .other false (.t 8) (.t 13)⟩])
     (.cond (.t 14) .skip
     (.exit 0)))
    (.block 1 (.seq (.reg [4] [⟨(some 16), none, .mv (.t 0)⟩,
          ⟨(some 17), none, .nilck (.t 16)⟩,
          ⟨(some 18), none, .faddr 1 (.t 17)⟩,
          ⟨(some 19), none, .load none (.t 18)⟩,
          ⟨(some 20), none, .mv (.t 2)⟩,
          ⟨(some 21), none, .iaddr (some 2) (.t 19) (.t 20)⟩,
          ⟨(some 22), none, .load (some 2) (.t 21)⟩,
          ⟨(some 23), none, .call (.c (.fn 37)) [(.t 22)]⟩,
          ⟨(some 15), none, .mv (.t 23)⟩,
          ⟨(some 24), none, .extract (.t 15) 0⟩,
          ⟨(some 25), none, .extract (.t 15) 1⟩,
          ⟨(some 26), none, .extract (.t 15) 2⟩,
          ⟨(some 3), none, .mv (.t 24)⟩,
          ⟨(some 4), none, .mv (.t 25)⟩,
          ⟨(some 5), none, .mv (.t 26)⟩])
     (.seq (.seq (.reg [6] [⟨(some 27), none, .mv (.t 2)⟩,
           ⟨(some 28), none, .bin .add .other true (.t 27) (.c (.int .i64 1))⟩,
           ⟨(some 6), none, .mv (.t 28)⟩])
      (.block 2 (.loop (.seq (.seq (.reg [33] [⟨(some 29), none, .mv (.t 6)⟩,
              ⟨(some 30), none, .mv (.t 2)⟩,
              ⟨(some 31), none, .mv (.t 4)⟩,
              ⟨(some 32), none, .bin .add .other false (.t 30) (.t 31)⟩,
              ⟨(some 33), none, .bin .leq .other false (.t 29) (.t 32)⟩])
         (.cond (.t 33) .skip
         (.exit 2)))
        (.seq (.block 3 (.seq (.reg [7] [⟨(some 36), none, .mv (.t 0)⟩,
               ⟨(some 37), none, .mv (.t 0)⟩,
               ⟨(some 38), none, .nilck (.t 37)⟩,
               ⟨(some 39), none, .faddr 1 (.t 38)⟩,
               ⟨(some 40), none, .load none (.t 39)⟩,
               ⟨(some 41), none, .mv (.t 6)⟩,
               ⟨(some 42), none, .iaddr (some 2) (.t 40) (.t 41)⟩,
               ⟨(some 43), none, .load (some 2) (.t 42)⟩,
               ⟨(some 44), none, .call (.c (.fn 42)) [(.t 36), (.t 43)]⟩,
               ⟨(some 7), none, .alloc [(.bool false), (.int .i64 0)]⟩,
               ⟨none, none, .store 2 (.t 7) (.t 44)⟩])
          (.any [] [(⟨(some 45), none, .mv (.t 0)⟩, true),
              (⟨(some 46), none, .nilck (.t 45)⟩, true),
              (⟨(some 47), none, .faddr 1 (.t 46)⟩, true),
              (⟨(some 48), none, .load none (.t 47)⟩, true),
              (⟨(some 49), none, .mv (.t 6)⟩, false),
              (⟨(some 50), none, .load (some 2) (.t 7)⟩, false),
              (⟨(some 51), none, .iaddr (some 2) (.t 48) (.t 49)⟩, true),
              (⟨none, none, .store 2 (.t 51) (.t 50)⟩, true)])))
        (.reg [6] [⟨(some 34), none, .mv (.t 6)⟩,
            ⟨(some 35), none, .bin .add .other true (.t 34) (.c (.int .i64 1))⟩,
            ⟨(some 6), none, .mv (.t 35)⟩]))))))
     (.reg [2] [⟨(some 52), none, .mv (.t 2)⟩,
         ⟨(some 53), none, .mv (.t 4)⟩,
         ⟨(some 54), none, .bin .add .other true (.t 53) (.c (.int .i64 1))⟩,
         ⟨(some 55), none, .bin .add .other false (.t 52) (.t 54)⟩,
         ⟨(some 2), none, .mv (.t 55)⟩]))))))))⟩
theorem c43 : compF Try.prog [0, 2, 4, 6, 7, 14, 33] Try.f43 = some a43 := by kernel_rfl

/- slices.IndexFunc[[]bushel/word.Word,bushel/word.Word] -/
def a46 : AFun := ⟨19, [.tmp 4], (.seq (.reg [4] [⟨(some 4), none, .mv (.c (.int .i64 0))⟩])
  (.seq (.seq (.reg [7, 8] [⟨(some 6), none, .mv (.t 0)⟩,
        ⟨(some 7), none, .len .sl (.t 6)⟩,
        ⟨(some 8), none, .mv (.c (.int .i64 0))⟩])
   (.block 0 (.loop (.seq (.reg [9] [⟨(some 9), none, .bin .lss .other false (.t 8) (.t 7)⟩])
     (.seq (.cond (.t 9) .skip
      (.exit 0))
     (.seq (.block 1 (.seq (.reg [5] [⟨(some 10), none, .mv (.t 8)⟩,
            ⟨(some 5), none, .mv (.t 10)⟩])
       (.seq (.reg [16] [⟨(some 11), none, .mv (.t 1)⟩,
            ⟨(some 12), none, .mv (.t 0)⟩,
            ⟨(some 13), none, .mv (.t 5)⟩,
            ⟨(some 14), none, .iaddr (some 2) (.t 12) (.t 13)⟩,
            ⟨(some 15), none, .load (some 2) (.t 14)⟩,
            ⟨(some 16), none, .call (.t 11) [(.t 15)]⟩])
       (.cond (.t 16) (.seq (.reg [4] [⟨(some 17), none, .mv (.t 5)⟩,
              ⟨(some 4), none, .mv (.t 17)⟩])
         .ret)
       .skip))))
     (.reg [8] [⟨(some 18), none, .bin .add .other true (.t 8) (.c (.int .i64 1))⟩,
         ⟨(some 8), none, .mv (.t 18)⟩])))))))
  (.seq (.reg [4] [⟨(some 4), none, .mv (.c (.int .i64 (-1)))⟩])
  .ret)))⟩
theorem c46 : compF Try.prog [0, 1, 4, 5, 7, 8, 9, 16] Try.f46 = some a46 := by kernel_rfl

/- bushel/word.Moved -/
def a47 : AFun := ⟨9, [.tmp 2, .tmp 3], (.seq (.reg [1, 2, 3] [⟨(some 1), none, .box (.t 0)⟩,
       ⟨(some 2), none, .mv (.c (.int .i64 0))⟩,
       ⟨(some 3), none, .mv (.c (.bool false))⟩])
  (.seq (.seq (.reg [6] [⟨(some 4), none, .faddr 0 (.t 1)⟩,
        ⟨(some 5), none, .load none (.t 4)⟩,
        ⟨(some 6), none, .un .not (.t 5)⟩])
   (.cond (.t 6) (.seq (.reg [2, 3] [⟨(some 2), none, .mv (.c (.int .i64 0))⟩,
          ⟨(some 3), none, .mv (.c (.bool false))⟩])
     .ret)
   .skip))
  (.seq (.reg [2, 3] [⟨(some 7), none, .faddr 1 (.t 1)⟩,
       ⟨(some 8), none, .load none (.t 7)⟩,
       ⟨(some 2), none, .mv (.t 8)⟩,
       ⟨(some 3), none, .mv (.c (.bool true))⟩])
  .ret)))⟩
theorem c47 : compF Try.prog [0, 1, 2, 3, 6] Try.f47 = some a47 := by kernel_rfl

/- slices.Concat[[]bushel/word.Word,bushel/word.Word] -/
def a32 : AFun := ⟨36, [.tmp 2], (.seq (.reg [2] [⟨(some 2), none, .mv (.c .snil)⟩])
  (.seq (.reg [3] [⟨(some 3), none, .mv (.c (.int .i64 0))⟩])
  (.seq (.seq (.reg [9, 10, 11] [⟨(some 9), none, .mv (.t 0)⟩,
        ⟨(some 10), none, .len .sl (.t 9)⟩,
        ⟨(some 11), none, .mv (.c (.int .i64 0))⟩])
   (.block 0 (.loop (.seq (.reg [12] [⟨(some 12), none, .bin .lss .other false (.t 11) (.t 10)⟩])
     (.seq (.cond (.t 12) .skip
      (.exit 0))
     (.seq (.block 1 (.seq (.reg [5] [⟨(some 13), none, .iaddr none (.t 9) (.t 11)⟩,
            ⟨(some 14), none, .load none (.t 13)⟩,
            ⟨(some 5), none, .mv (.t 14)⟩])
       (.seq (.reg [3] [⟨(some 15), none, .mv (.t 3)⟩,
            ⟨(some 16), none, .mv (.t 5)⟩,
            ⟨(some 17), none, .len .sl (.t 16)⟩,
            ⟨(some 18), none, .bin .add .other false (.t 15) (.t 17)⟩,
            ⟨(some 3), none, .mv (.t 18)⟩])
       (.seq (.reg [20] [⟨(some 19), none, .mv (.t 3)⟩,
            ⟨(some 20), none, .bin .lss .other true (.t 19) (.c (.int .i64 0))⟩])
       (.cond (.t 20) (.reg [] [⟨(some 21), none, .mkif 9 (.c (.str [108, 101, 110, 32, 111, 117, 116, 32, 111, 102, 32, 114, 97, 110, 103, 101]))⟩,
             ⟨none, none, .ext .stop []⟩])
       .skip)))))
     (.reg [11] [⟨(some 22), none, .bin .add .other true (.t 11) (.c (.int .i64 1))⟩,
         ⟨(some 11), none, .mv (.t 22)⟩])))))))
  (.seq (.reg [6] [⟨(some 23), none, .mv (.t 3)⟩,
       ⟨(some 24), none, .call (.c (.fn 44)) [(.c .snil), (.t 23)]⟩,
       ⟨(some 6), none, .mv (.t 24)⟩])
  (.seq (.seq (.reg [25, 26, 27] [⟨(some 25), none, .mv (.t 0)⟩,
        ⟨(some 26), none, .len .sl (.t 25)⟩,
        ⟨(some 27), none, .mv (.c (.int .i64 0))⟩])
   (.block 2 (.loop (.seq (.reg [28] [⟨(some 28), none, .bin .lss .other false (.t 27) (.t 26)⟩])
     (.seq (.cond (.t 28) .skip
      (.exit 2))
     (.seq (.block 3 (.seq (.reg [8] [⟨(some 29), none, .iaddr none (.t 25) (.t 27)⟩,
            ⟨(some 30), none, .load none (.t 29)⟩,
            ⟨(some 8), none, .mv (.t 30)⟩])
       (.reg [6] [⟨(some 31), none, .mv (.t 6)⟩,
           ⟨(some 32), none, .mv (.t 8)⟩,
           ⟨(some 33), none, .append (some 2) 16 (.t 31) (.t 32)⟩,
           ⟨(some 6), none, .mv (.t 33)⟩])))
     (.reg [27] [⟨(some 34), none, .bin .add .other true (.t 27) (.c (.int .i64 1))⟩,
         ⟨(some 27), none, .mv (.t 34)⟩])))))))
  (.seq (.reg [2] [⟨(some 35), none, .mv (.t 6)⟩,
       ⟨(some 2), none, .mv (.t 35)⟩])
  .ret))))))⟩
theorem c32 : compF Try.prog [0, 2, 3, 5, 6, 8, 9, 10, 11, 12, 20, 25, 26, 27, 28] Try.f32 = some a32 := by kernel_rfl

/- slices.Grow[[]bushel/word.Word,bushel/word.Word] -/
def a44 : AFun := ⟨27, [.tmp 4], (.seq (.reg [4] [⟨(some 4), none, .mv (.c .snil)⟩])
  (.seq (.seq (.reg [6] [⟨(some 5), none, .mv (.t 1)⟩,
        ⟨(some 6), none, .bin .lss .other true (.t 5) (.c (.int .i64 0))⟩])
   (.cond (.t 6) (.reg [] [⟨(some 7), none, .mkif 9 (.c (.str [99, 97, 110, 110, 111, 116, 32, 98, 101, 32, 110, 101, 103, 97, 116, 105, 118, 101]))⟩,
         ⟨none, none, .ext .stop []⟩])
   .skip))
  (.seq (.seq (.reg [1] [⟨(some 8), none, .mv (.t 1)⟩,
        ⟨(some 9), none, .mv (.t 0)⟩,
        ⟨(some 10), none, .ext .cap [(.t 9)]⟩,
        ⟨(some 11), none, .mv (.t 0)⟩,
        ⟨(some 12), none, .len .sl (.t 11)⟩,
        ⟨(some 13), none, .bin .sub .other false (.t 10) (.t 12)⟩,
        ⟨(some 14), none, .bin .sub .other false (.t 8) (.t 13)⟩,
        ⟨(some 1), none, .mv (.t 14)⟩])
   (.seq (.reg [16] [⟨(some 15), none, .mv (.t 1)⟩,
        ⟨(some 16), none, .bin .gtr .other true (.t 15) (.c (.int .i64 0))⟩])
   (.cond (.t 16) (.reg [0] [⟨(some 17), none, .mv (.t 0)⟩,
         ⟨(some 18), none, .mv (.t 0)⟩,
         ⟨(some 19), none, .ext .cap [(.t 18)]⟩,
         ⟨(some 20), none, .slice (.sl (some 2)) (.t 17) none (some (.t 19)) none⟩,
         ⟨(some 21), none, .mv (.t 1)⟩,
         ⟨(some 22), none, .ext (.appz (some 2) 16 [(.bool false), (.int .i64 0)]) [(.t 20), (.t 21)]⟩,
         ⟨(some 23), none, .mv (.t 0)⟩,
         ⟨(some 24), none, .len .sl (.t 23)⟩,
         ⟨(some 25), none, .slice (.sl (some 2)) (.t 22) none (some (.t 24)) none⟩,
         ⟨(some 0), none, .mv (.t 25)⟩])
   .skip)))
  (.seq (.reg [4] [⟨(some 26), none, .mv (.t 0)⟩,
       ⟨(some 4), none, .mv (.t 26)⟩])
  .ret))))⟩
theorem c44 : compF Try.prog [0, 1, 4, 6, 16] Try.f44 = some a44 := by kernel_rfl

end Go.Proofs.Ytiomciifhkbklaa
