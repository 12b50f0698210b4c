/-
  The bodies of functions, in the small language: printed by program, proved by the kernel's computing. (Own work.)
-/
import Derived.Test.YtiomciifhkbklaaAbsU
import Derived.Test.YtiomciifhkbklaaChecked
namespace Go.Proofs.Ytiomciifhkbklaa
open Go Go.Abs

/- bushel/bushellaw02.HeapPlays -/
def a4 : AFun := ⟨380, [.tmp 4], (.seq (.reg [4] [⟨(some 4), none, .mv (.c (.bool false))⟩])
  (.seq (.reg [5] [⟨(some 37), none, .call (.c (.fn 5)) []⟩,
       ⟨(some 5), none, .mv (.t 37)⟩])
  (.seq (.seq (.reg [39] [⟨(some 38), none, .mv (.t 0)⟩,
        ⟨(some 39), none, .bin .gtr .other true (.t 38) (.c (.int .i64 5000))⟩])
   (.cond (.t 39) (.seq (.reg [4] [⟨(some 40), none, .mv (.t 5)⟩,
          ⟨(some 4), none, .mv (.t 40)⟩])
     .ret)
   .skip))
  (.seq (.reg [6, 7] [⟨(some 42), none, .mv (.t 0)⟩,
       ⟨(some 43), none, .call (.c (.fn 6)) [(.t 42)]⟩,
       ⟨(some 41), none, .mv (.t 43)⟩,
       ⟨(some 44), none, .extract (.t 41) 0⟩,
       ⟨(some 45), none, .extract (.t 41) 1⟩,
       ⟨(some 6), none, .mv (.t 44)⟩,
       ⟨(some 7), none, .mv (.t 45)⟩])
  (.seq (.seq (.reg [47] [⟨(some 46), none, .mv (.t 0)⟩,
        ⟨(some 47), none, .bin .lss .other true (.t 46) (.c (.int .i64 1))⟩])
   (.cond (.t 47) (.seq (.reg [4] [⟨(some 48), none, .mv (.t 5)⟩,
          ⟨(some 49), none, .mv (.t 48)⟩,
          ⟨(some 50), (some (49, true)), .mv (.t 6)⟩,
          ⟨(some 51), (some (49, true)), .bin .eql .ptr true (.t 50) (.c .pnil)⟩,
          ⟨(some 52), none, .pick (.t 49) (.t 51) (.c (.bool false))⟩,
          ⟨(some 53), none, .mv (.t 52)⟩,
          ⟨(some 54), (some (53, true)), .mv (.t 7)⟩,
          ⟨(some 55), (some (53, true)), .mkif 39 (.c (.int .i64 1))⟩,
          ⟨(some 56), (some (53, true)), .bin .eql .ifc false (.t 54) (.t 55)⟩,
          ⟨(some 57), none, .pick (.t 53) (.t 56) (.c (.bool false))⟩,
          ⟨(some 4), none, .mv (.t 57)⟩])
     .ret)
   .skip))
  (.seq (.seq (.reg [68] [⟨(some 58), none, .mv (.t 6)⟩,
        ⟨(some 59), none, .bin .eql .ptr true (.t 58) (.c .pnil)⟩,
        ⟨(some 60), none, .mv (.t 59)⟩,
        ⟨(some 61), (some (60, false)), .mv (.t 7)⟩,
        ⟨(some 62), (some (60, false)), .bin .neq .ifc true (.t 61) (.c .inil)⟩,
        ⟨(some 63), none, .pick (.t 60) (.c (.bool true)) (.t 62)⟩,
        ⟨(some 64), none, .mv (.t 63)⟩,
        ⟨(some 65), (some (64, false)), .mv (.t 1)⟩,
        ⟨(some 66), (some (64, false)), .len .sl (.t 65)⟩,
        ⟨(some 67), (some (64, false)), .bin .gtr .other true (.t 66) (.c (.int .i64 60))⟩,
        ⟨(some 68), none, .pick (.t 64) (.c (.bool true)) (.t 67)⟩])
   (.cond (.t 68) (.seq (.reg [4] [⟨(some 69), none, .mv (.t 5)⟩,
          ⟨(some 70), none, .mv (.t 69)⟩,
          ⟨(some 71), (some (70, true)), .mv (.t 6)⟩,
          ⟨(some 72), (some (70, true)), .bin .neq .ptr true (.t 71) (.c .pnil)⟩,
          ⟨(some 73), none, .pick (.t 70) (.t 72) (.c (.bool false))⟩,
          ⟨(some 74), none, .mv (.t 73)⟩,
          ⟨(some 75), (some (74, true)), .mv (.t 7)⟩,
          ⟨(some 76), (some (74, true)), .bin .eql .ifc true (.t 75) (.c .inil)⟩,
          ⟨(some 77), none, .pick (.t 74) (.t 76) (.c (.bool false))⟩,
          ⟨(some 4), none, .mv (.t 77)⟩])
     .ret)
   .skip))
  (.seq (.reg [8] [⟨(some 78), none, .mv (.t 0)⟩,
       ⟨(some 79), none, .build [(.int .i64 0), .snil, (.int .i64 0)] [(0, 1, (.t 78))]⟩,
       ⟨(some 80), none, .box (.t 79)⟩,
       ⟨(some 8), none, .mv (.t 80)⟩])
  (.seq (.reg [9] [⟨(some 9), none, .mv (.c .snil)⟩])
  (.seq (.seq (.reg [10] [⟨(some 10), none, .mv (.c (.int .i64 0))⟩])
   (.block 0 (.loop (.seq (.seq (.reg [84] [⟨(some 81), none, .mv (.t 10)⟩,
           ⟨(some 82), none, .mv (.t 1)⟩,
           ⟨(some 83), none, .len .sl (.t 82)⟩,
           ⟨(some 84), none, .bin .lss .other false (.t 81) (.t 83)⟩])
      (.cond (.t 84) .skip
      (.exit 0)))
     (.seq (.block 1 (.seq (.reg [11] [⟨(some 87), none, .mv (.t 1)⟩,
            ⟨(some 88), none, .mv (.t 10)⟩,
            ⟨(some 89), none, .iaddr (some 8) (.t 87) (.t 88)⟩,
            ⟨(some 90), none, .load (some 8) (.t 89)⟩,
            ⟨(some 11), none, .alloc [(.int .i64 0), (.int .i64 0), (.int .i64 0), (.int .i64 0), (.bool false), (.bool false), (.int .i64 0), .snil]⟩,
            ⟨none, none, .store 8 (.t 11) (.t 90)⟩])
       (.seq (.seq (.reg [94] [⟨(some 91), none, .faddr 7 (.t 11)⟩,
             ⟨(some 92), none, .load none (.t 91)⟩,
             ⟨(some 93), none, .len .sl (.t 92)⟩,
             ⟨(some 94), none, .bin .gtr .other true (.t 93) (.c (.int .i64 60))⟩])
        (.cond (.t 94) (.seq (.reg [4] [⟨(some 95), none, .mv (.t 5)⟩,
               ⟨(some 4), none, .mv (.t 95)⟩])
          .ret)
        .skip))
       (.seq (.reg [12] [⟨(some 96), none, .faddr 7 (.t 11)⟩,
            ⟨(some 97), none, .load none (.t 96)⟩,
            ⟨(some 12), none, .mv (.t 97)⟩])
       (.seq (.reg [13] [⟨(some 98), none, .faddr 5 (.t 11)⟩,
            ⟨(some 99), none, .load (some 2) (.t 98)⟩,
            ⟨(some 13), none, .alloc [(.bool false), (.int .i64 0)]⟩,
            ⟨none, none, .store 2 (.t 13) (.t 99)⟩])
       (.seq (.reg [14] [⟨(some 100), none, .faddr 2 (.t 11)⟩,
            ⟨(some 101), none, .load none (.t 100)⟩,
            ⟨(some 14), none, .mv (.t 101)⟩])
       (.seq (.seq (.reg [103] [⟨(some 102), none, .faddr 4 (.t 11)⟩,
             ⟨(some 103), none, .load none (.t 102)⟩])
        (.cond (.t 103) (.seq (.reg [12] [⟨(some 104), none, .mv (.t 12)⟩,
               ⟨(some 105), none, .mv (.t 8)⟩,
               ⟨(some 106), none, .call (.c (.fn 15)) [(.t 104), (.t 105)]⟩,
               ⟨(some 12), none, .mv (.t 106)⟩])
          (.seq (.reg [] [⟨(some 107), none, .load (some 2) (.t 13)⟩,
               ⟨(some 108), none, .mksl (some 2) [(.t 107)]⟩,
               ⟨(some 109), none, .mv (.t 8)⟩,
               ⟨(some 110), none, .call (.c (.fn 15)) [(.t 108), (.t 109)]⟩,
               ⟨(some 111), none, .iaddr (some 2) (.t 110) (.c (.int .i64 0))⟩,
               ⟨(some 112), none, .load (some 2) (.t 111)⟩,
               ⟨none, none, .store 2 (.t 13) (.t 112)⟩])
          (.seq (.reg [118] [⟨(some 113), none, .mv (.t 8)⟩,
               ⟨(some 114), none, .nilck (.t 113)⟩,
               ⟨(some 115), none, .faddr 1 (.t 114)⟩,
               ⟨(some 116), none, .load none (.t 115)⟩,
               ⟨(some 117), none, .len .sl (.t 116)⟩,
               ⟨(some 118), none, .bin .gtr .other true (.t 117) (.c (.int .i64 0))⟩])
          (.cond (.t 118) (.any [14] [(⟨(some 119), none, .mv (.t 8)⟩, true),
                (⟨(some 120), none, .nilck (.t 119)⟩, true),
                (⟨(some 121), none, .faddr 1 (.t 120)⟩, true),
                (⟨(some 122), none, .load none (.t 121)⟩, true),
                (⟨(some 123), none, .mv (.t 14)⟩, false),
                (⟨(some 124), none, .mv (.t 8)⟩, false),
                (⟨(some 125), none, .nilck (.t 124)⟩, false),
                (⟨(some 126), none, .faddr 1 (.t 125)⟩, false),
                (⟨(some 127), none, .load none (.t 126)⟩, false),
                (⟨(some 128), none, .len .sl (.t 127)⟩, false),
                (⟨(some 129), none, .call (.c (.fn 8)) [(.t 123), (.t 128)]⟩, false),
                (⟨(some 130), none, .iaddr (some 3) (.t 122) (.t 129)⟩, true),
                (⟨(some 131), none, .faddr 0 (.t 130)⟩, true),
                (⟨(some 132), none, .load none (.t 131)⟩, true),
                (⟨(some 14), none, .mv (.t 132)⟩, true)])
          .skip))))
        .skip))
       (.seq (.seq (.reg [135] [⟨(some 133), none, .faddr 0 (.t 11)⟩,
             ⟨(some 134), none, .load none (.t 133)⟩,
             ⟨(some 135), none, .call (.c (.fn 8)) [(.t 134), (.c (.int .i64 6))]⟩])
        (.block 2 (.seq (.seq (.reg [167] [⟨(some 168), none, .bin .eql .other true (.t 135) (.c (.int .i64 0))⟩,
               ⟨(some 167), none, .mv (.t 168)⟩])
          (.cond (.t 167) .skip
          (.seq (.reg [167] [⟨(some 169), none, .bin .eql .other true (.t 135) (.c (.int .i64 1))⟩,
               ⟨(some 167), none, .mv (.t 169)⟩])
          (.cond (.t 167) .skip
          (.reg [167] [⟨(some 170), none, .bin .eql .other true (.t 135) (.c (.int .i64 2))⟩,
              ⟨(some 167), none, .mv (.t 170)⟩])))))
         (.cond (.t 167) (.seq (.reg [15, 16, 17, 18] [⟨(some 172), none, .mv (.t 6)⟩,
                ⟨(some 173), none, .faddr 1 (.t 11)⟩,
                ⟨(some 174), none, .load none (.t 173)⟩,
                ⟨(some 175), none, .mv (.t 12)⟩,
                ⟨(some 176), none, .mv (.t 9)⟩,
                ⟨(some 177), none, .call (.c (.fn 9)) [(.t 172), (.t 174), (.t 175), (.t 176)]⟩,
                ⟨(some 171), none, .mv (.t 177)⟩,
                ⟨(some 178), none, .extract (.t 171) 0⟩,
                ⟨(some 179), none, .extract (.t 171) 1⟩,
                ⟨(some 180), none, .extract (.t 171) 2⟩,
                ⟨(some 181), none, .extract (.t 171) 3⟩,
                ⟨(some 15), none, .mv (.t 178)⟩,
                ⟨(some 16), none, .mv (.t 179)⟩,
                ⟨(some 17), none, .mv (.t 180)⟩,
                ⟨(some 18), none, .mv (.t 181)⟩])
           (.seq (.any [19, 20, 21, 22] [(⟨(some 183), none, .mv (.t 8)⟩, true),
                (⟨(some 184), none, .faddr 1 (.t 11)⟩, false),
                (⟨(some 185), none, .load none (.t 184)⟩, false),
                (⟨(some 186), none, .mv (.t 12)⟩, false),
                (⟨(some 188), none, .mv (.t 9)⟩, false),
                (⟨(some 187), none, .call (.c (.fn 17)) [(.t 186)]⟩, false),
                (⟨(some 189), none, .call (.c (.fn 17)) [(.t 188)]⟩, false),
                (⟨(some 190), none, .call (.c (.fn 16)) [(.t 183), (.t 185), (.t 187), (.t 189)]⟩, true),
                (⟨(some 182), none, .mv (.t 190)⟩, true),
                (⟨(some 191), none, .extract (.t 182) 0⟩, true),
                (⟨(some 192), none, .extract (.t 182) 1⟩, false),
                (⟨(some 193), none, .extract (.t 182) 2⟩, false),
                (⟨(some 194), none, .extract (.t 182) 3⟩, false),
                (⟨(some 19), none, .mv (.t 191)⟩, false),
                (⟨(some 20), none, .mv (.t 192)⟩, false),
                (⟨(some 21), none, .mv (.t 193)⟩, false),
                (⟨(some 22), none, .mv (.t 194)⟩, true)])
           (.seq (.seq (.reg [217] [⟨(some 195), none, .mv (.t 15)⟩,
                 ⟨(some 196), none, .mv (.t 19)⟩,
                 ⟨(some 197), none, .bin .neq .other false (.t 195) (.t 196)⟩,
                 ⟨(some 198), none, .mv (.t 197)⟩,
                 ⟨(some 199), (some (198, false)), .mv (.t 18)⟩,
                 ⟨(some 200), (some (198, false)), .call (.c (.fn 18)) [(.t 199)]⟩,
                 ⟨(some 201), (some (198, false)), .mv (.t 22)⟩,
                 ⟨(some 202), (some (198, false)), .bin .neq .other false (.t 200) (.t 201)⟩,
                 ⟨(some 203), none, .pick (.t 198) (.c (.bool true)) (.t 202)⟩,
                 ⟨(some 204), none, .mv (.t 203)⟩,
                 ⟨(some 205), (some (204, false)), .mv (.t 16)⟩,
                 ⟨(some 206), (some (204, false)), .call (.c (.fn 17)) [(.t 205)]⟩,
                 ⟨(some 207), (some (204, false)), .mv (.t 20)⟩,
                 ⟨(some 208), (some (204, false)), .call (.c (.fn 19)) [(.t 206), (.t 207)]⟩,
                 ⟨(some 209), (some (204, false)), .un .not (.t 208)⟩,
                 ⟨(some 210), none, .pick (.t 204) (.c (.bool true)) (.t 209)⟩,
                 ⟨(some 211), none, .mv (.t 210)⟩,
                 ⟨(some 212), (some (211, false)), .mv (.t 17)⟩,
                 ⟨(some 213), (some (211, false)), .call (.c (.fn 17)) [(.t 212)]⟩,
                 ⟨(some 214), (some (211, false)), .mv (.t 21)⟩,
                 ⟨(some 215), (some (211, false)), .call (.c (.fn 19)) [(.t 213), (.t 214)]⟩,
                 ⟨(some 216), (some (211, false)), .un .not (.t 215)⟩,
                 ⟨(some 217), none, .pick (.t 211) (.c (.bool true)) (.t 216)⟩])
            (.cond (.t 217) (.seq (.reg [4] [⟨(some 4), none, .mv (.c (.bool false))⟩])
              .ret)
            .skip))
           (.seq (.seq (.reg [219] [⟨(some 218), none, .mv (.t 22)⟩,
                 ⟨(some 219), none, .bin .neq .other true (.t 218) (.c (.int .i64 1))⟩])
            (.cond (.t 219) (.reg [9] [⟨(some 220), none, .mv (.t 17)⟩,
                  ⟨(some 9), none, .mv (.t 220)⟩])
            .skip))
           (.seq (.reg [227] [⟨(some 221), none, .mv (.t 22)⟩,
                ⟨(some 222), none, .bin .eql .other true (.t 221) (.c (.int .i64 0))⟩,
                ⟨(some 223), none, .mv (.t 222)⟩,
                ⟨(some 224), (some (223, true)), .mv (.t 10)⟩,
                ⟨(some 225), (some (223, true)), .bin .rem .other true (.t 224) (.c (.int .i64 3))⟩,
                ⟨(some 226), (some (223, true)), .bin .eql .other true (.t 225) (.c (.int .i64 0))⟩,
                ⟨(some 227), none, .pick (.t 223) (.t 226) (.c (.bool false))⟩])
           (.cond (.t 227) (.reg [9] [⟨(some 228), none, .mksl (some 2) []⟩,
                 ⟨(some 229), none, .mv (.t 17)⟩,
                 ⟨(some 230), none, .append (some 2) 16 (.t 228) (.t 229)⟩,
                 ⟨(some 231), none, .mv (.t 15)⟩,
                 ⟨(some 232), none, .call (.c (.fn 10)) [(.t 231)]⟩,
                 ⟨(some 233), none, .mksl (some 2) [(.t 232)]⟩,
                 ⟨(some 234), none, .append (some 2) 16 (.t 230) (.t 233)⟩,
                 ⟨(some 9), none, .mv (.t 234)⟩])
           .skip))))))
         (.seq (.reg [235] [⟨(some 236), none, .bin .eql .other true (.t 135) (.c (.int .i64 3))⟩,
              ⟨(some 235), none, .mv (.t 236)⟩])
         (.cond (.t 235) (.seq (.reg [23] [⟨(some 237), none, .mv (.t 6)⟩,
                ⟨(some 238), none, .mv (.t 14)⟩,
                ⟨(some 239), none, .faddr 3 (.t 11)⟩,
                ⟨(some 240), none, .load none (.t 239)⟩,
                ⟨(some 241), none, .load (some 2) (.t 13)⟩,
                ⟨(some 242), none, .call (.c (.fn 11)) [(.t 237), (.t 238), (.t 240), (.t 241)]⟩,
                ⟨(some 23), none, .mv (.t 242)⟩])
           (.seq (.reg [24] [⟨(some 243), none, .mv (.t 8)⟩,
                ⟨(some 244), none, .mv (.t 14)⟩,
                ⟨(some 245), none, .call (.c (.fn 20)) [(.t 243), (.t 244)]⟩,
                ⟨(some 24), none, .mv (.t 245)⟩])
           (.seq (.reg [25] [⟨(some 246), none, .mv (.t 8)⟩,
                ⟨(some 247), none, .load (some 2) (.t 13)⟩,
                ⟨(some 248), none, .call (.c (.fn 22)) [(.t 247)]⟩,
                ⟨(some 249), none, .mksl (some 2) [(.t 248)]⟩,
                ⟨(some 250), none, .call (.c (.fn 21)) [(.t 246), (.t 249)]⟩,
                ⟨(some 25), none, .mv (.t 250)⟩])
           (.seq (.reg [26] [⟨(some 251), none, .mv (.t 24)⟩,
                ⟨(some 252), none, .bin .geq .other true (.t 251) (.c (.int .i64 0))⟩,
                ⟨(some 253), none, .mv (.t 252)⟩,
                ⟨(some 254), (some (253, true)), .mv (.t 25)⟩,
                ⟨(some 255), none, .pick (.t 253) (.t 254) (.c (.bool false))⟩,
                ⟨(some 256), none, .mv (.t 255)⟩,
                ⟨(some 257), (some (256, true)), .faddr 3 (.t 11)⟩,
                ⟨(some 258), (some (256, true)), .load none (.t 257)⟩,
                ⟨(some 259), (some (256, true)), .bin .geq .other true (.t 258) (.c (.int .i64 0))⟩,
                ⟨(some 260), none, .pick (.t 256) (.t 259) (.c (.bool false))⟩,
                ⟨(some 26), none, .mv (.t 260)⟩])
           (.seq (.seq (.reg [261] [⟨(some 261), none, .mv (.t 26)⟩])
            (.cond (.t 261) (.any [26] [(⟨(some 262), none, .faddr 3 (.t 11)⟩, true),
                  (⟨(some 263), none, .load none (.t 262)⟩, true),
                  (⟨(some 264), none, .mv (.t 8)⟩, false),
                  (⟨(some 265), none, .nilck (.t 264)⟩, false),
                  (⟨(some 266), none, .faddr 1 (.t 265)⟩, false),
                  (⟨(some 267), none, .load none (.t 266)⟩, false),
                  (⟨(some 268), none, .mv (.t 24)⟩, false),
                  (⟨(some 269), none, .iaddr (some 3) (.t 267) (.t 268)⟩, false),
                  (⟨(some 270), none, .faddr 2 (.t 269)⟩, false),
                  (⟨(some 271), none, .load none (.t 270)⟩, false),
                  (⟨(some 272), none, .len .sl (.t 271)⟩, false),
                  (⟨(some 273), none, .bin .lss .other false (.t 263) (.t 272)⟩, true),
                  (⟨(some 26), none, .mv (.t 273)⟩, true)])
            .skip))
           (.seq (.seq (.reg [286] [⟨(some 274), none, .mv (.t 26)⟩,
                 ⟨(some 275), none, .mv (.t 23)⟩,
                 ⟨(some 276), none, .bin .eql .ifc true (.t 275) (.c .inil)⟩,
                 ⟨(some 277), none, .bin .neq .bool false (.t 274) (.t 276)⟩,
                 ⟨(some 278), none, .mv (.t 277)⟩,
                 ⟨(some 279), (some (278, false)), .mv (.t 26)⟩,
                 ⟨(some 280), (some (278, false)), .un .not (.t 279)⟩,
                 ⟨(some 281), (some (278, false)), .mv (.t 280)⟩,
                 ⟨(some 282), (some (281, true)), .mv (.t 23)⟩,
                 ⟨(some 283), (some (281, true)), .call (.c (.fn 18)) [(.t 282)]⟩,
                 ⟨(some 284), (some (281, true)), .bin .neq .other true (.t 283) (.c (.int .i64 1))⟩,
                 ⟨(some 285), (some (278, false)), .pick (.t 281) (.t 284) (.c (.bool false))⟩,
                 ⟨(some 286), none, .pick (.t 278) (.c (.bool true)) (.t 285)⟩])
            (.cond (.t 286) (.seq (.reg [4] [⟨(some 4), none, .mv (.c (.bool false))⟩])
              .ret)
            .skip))
           (.seq (.reg [287] [⟨(some 287), none, .mv (.t 26)⟩])
           (.cond (.t 287) (.any [] [(⟨(some 288), none, .mv (.t 8)⟩, true),
                 (⟨(some 289), none, .nilck (.t 288)⟩, true),
                 (⟨(some 290), none, .faddr 1 (.t 289)⟩, true),
                 (⟨(some 291), none, .load none (.t 290)⟩, true),
                 (⟨(some 292), none, .mv (.t 24)⟩, false),
                 (⟨(some 293), none, .iaddr (some 3) (.t 291) (.t 292)⟩, true),
                 (⟨(some 294), none, .faddr 2 (.t 293)⟩, true),
                 (⟨(some 295), none, .load none (.t 294)⟩, true),
                 (⟨(some 296), none, .faddr 3 (.t 11)⟩, false),
                 (⟨(some 297), none, .load none (.t 296)⟩, false),
                 (⟨(some 298), none, .load (some 2) (.t 13)⟩, false),
                 (⟨(some 299), none, .call (.c (.fn 22)) [(.t 298)]⟩, false),
                 (⟨(some 300), none, .iaddr (some 2) (.t 295) (.t 297)⟩, true),
                 (⟨none, none, .store 2 (.t 300) (.t 299)⟩, true)])
           .skip))))))))
         (.seq (.reg [301] [⟨(some 302), none, .bin .eql .other true (.t 135) (.c (.int .i64 4))⟩,
              ⟨(some 301), none, .mv (.t 302)⟩])
         (.cond (.t 301) (.seq (.reg [27, 28] [⟨(some 304), none, .mv (.t 6)⟩,
                ⟨(some 305), none, .mv (.t 14)⟩,
                ⟨(some 306), none, .faddr 3 (.t 11)⟩,
                ⟨(some 307), none, .load none (.t 306)⟩,
                ⟨(some 308), none, .call (.c (.fn 23)) [(.t 304), (.t 305), (.t 307)]⟩,
                ⟨(some 303), none, .mv (.t 308)⟩,
                ⟨(some 309), none, .extract (.t 303) 0⟩,
                ⟨(some 310), none, .extract (.t 303) 1⟩,
                ⟨(some 27), none, .alloc [(.bool false), (.int .i64 0)]⟩,
                ⟨none, none, .store 2 (.t 27) (.t 309)⟩,
                ⟨(some 28), none, .mv (.t 310)⟩])
           (.seq (.reg [31] [⟨(some 312), none, .mv (.t 6)⟩,
                ⟨(some 313), none, .mv (.t 14)⟩,
                ⟨(some 314), none, .call (.c (.fn 24)) [(.t 312), (.t 313)]⟩,
                ⟨(some 311), none, .mv (.t 314)⟩,
                ⟨(some 315), none, .extract (.t 311) 0⟩,
                ⟨(some 316), none, .extract (.t 311) 1⟩,
                ⟨(some 317), none, .extract (.t 311) 2⟩,
                ⟨(some 29), none, .mv (.t 315)⟩,
                ⟨(some 30), none, .mv (.t 316)⟩,
                ⟨(some 31), none, .mv (.t 317)⟩])
           (.seq (.reg [32] [⟨(some 318), none, .mv (.t 8)⟩,
                ⟨(some 319), none, .mv (.t 14)⟩,
                ⟨(some 320), none, .call (.c (.fn 20)) [(.t 318), (.t 319)]⟩,
                ⟨(some 32), none, .mv (.t 320)⟩])
           (.seq (.seq (.reg [325] [⟨(some 321), none, .mv (.t 32)⟩,
                 ⟨(some 322), none, .bin .geq .other true (.t 321) (.c (.int .i64 0))⟩,
                 ⟨(some 323), none, .mv (.t 31)⟩,
                 ⟨(some 324), none, .bin .eql .ifc true (.t 323) (.c .inil)⟩,
                 ⟨(some 325), none, .bin .neq .bool false (.t 322) (.t 324)⟩])
            (.cond (.t 325) (.seq (.reg [4] [⟨(some 4), none, .mv (.c (.bool false))⟩])
              .ret)
            .skip))
           (.seq (.reg [33] [⟨(some 326), none, .mv (.t 32)⟩,
                ⟨(some 327), none, .bin .geq .other true (.t 326) (.c (.int .i64 0))⟩,
                ⟨(some 328), none, .mv (.t 327)⟩,
                ⟨(some 329), (some (328, true)), .faddr 3 (.t 11)⟩,
                ⟨(some 330), (some (328, true)), .load none (.t 329)⟩,
                ⟨(some 331), (some (328, true)), .bin .geq .other true (.t 330) (.c (.int .i64 0))⟩,
                ⟨(some 332), none, .pick (.t 328) (.t 331) (.c (.bool false))⟩,
                ⟨(some 33), none, .mv (.t 332)⟩])
           (.seq (.seq (.reg [333] [⟨(some 333), none, .mv (.t 33)⟩])
            (.cond (.t 333) (.any [33] [(⟨(some 334), none, .faddr 3 (.t 11)⟩, true),
                  (⟨(some 335), none, .load none (.t 334)⟩, true),
                  (⟨(some 336), none, .mv (.t 8)⟩, false),
                  (⟨(some 337), none, .nilck (.t 336)⟩, false),
                  (⟨(some 338), none, .faddr 1 (.t 337)⟩, false),
                  (⟨(some 339), none, .load none (.t 338)⟩, false),
                  (⟨(some 340), none, .mv (.t 32)⟩, false),
                  (⟨(some 341), none, .iaddr (some 3) (.t 339) (.t 340)⟩, false),
                  (⟨(some 342), none, .faddr 2 (.t 341)⟩, false),
                  (⟨(some 343), none, .load none (.t 342)⟩, false),
                  (⟨(some 344), none, .len .sl (.t 343)⟩, false),
                  (⟨(some 345), none, .bin .lss .other false (.t 335) (.t 344)⟩, true),
                  (⟨(some 33), none, .mv (.t 345)⟩, true)])
            .skip))
           (.seq (.seq (.reg [358] [⟨(some 346), none, .mv (.t 33)⟩,
                 ⟨(some 347), none, .mv (.t 28)⟩,
                 ⟨(some 348), none, .bin .eql .ifc true (.t 347) (.c .inil)⟩,
                 ⟨(some 349), none, .bin .neq .bool false (.t 346) (.t 348)⟩,
                 ⟨(some 350), none, .mv (.t 349)⟩,
                 ⟨(some 351), (some (350, false)), .mv (.t 33)⟩,
                 ⟨(some 352), (some (350, false)), .un .not (.t 351)⟩,
                 ⟨(some 353), (some (350, false)), .mv (.t 352)⟩,
                 ⟨(some 354), (some (353, true)), .mv (.t 28)⟩,
                 ⟨(some 355), (some (353, true)), .call (.c (.fn 18)) [(.t 354)]⟩,
                 ⟨(some 356), (some (353, true)), .bin .neq .other true (.t 355) (.c (.int .i64 1))⟩,
                 ⟨(some 357), (some (350, false)), .pick (.t 353) (.t 356) (.c (.bool false))⟩,
                 ⟨(some 358), none, .pick (.t 350) (.c (.bool true)) (.t 357)⟩])
            (.cond (.t 358) (.seq (.reg [4] [⟨(some 4), none, .mv (.c (.bool false))⟩])
              .ret)
            .skip))
           (.seq (.reg [359] [⟨(some 359), none, .mv (.t 33)⟩])
           (.cond (.t 359) (.seq (.any [374] [(⟨(some 360), none, .load (some 2) (.t 27)⟩, true),
                  (⟨(some 362), none, .mv (.t 8)⟩, false),
                  (⟨(some 363), none, .nilck (.t 362)⟩, false),
                  (⟨(some 364), none, .faddr 1 (.t 363)⟩, false),
                  (⟨(some 365), none, .load none (.t 364)⟩, false),
                  (⟨(some 366), none, .mv (.t 32)⟩, false),
                  (⟨(some 367), none, .iaddr (some 3) (.t 365) (.t 366)⟩, false),
                  (⟨(some 368), none, .faddr 2 (.t 367)⟩, false),
                  (⟨(some 369), none, .load none (.t 368)⟩, false),
                  (⟨(some 370), none, .faddr 3 (.t 11)⟩, false),
                  (⟨(some 371), none, .load none (.t 370)⟩, false),
                  (⟨(some 372), none, .iaddr (some 2) (.t 369) (.t 371)⟩, false),
                  (⟨(some 373), none, .load (some 2) (.t 372)⟩, false),
                  (⟨(some 361), none, .call (.c (.fn 22)) [(.t 360)]⟩, false),
                  (⟨(some 374), none, .bin .neq (.struct [.bool, .int]) false (.t 361) (.t 373)⟩, true)])
             (.cond (.t 374) (.seq (.reg [4] [⟨(some 4), none, .mv (.c (.bool false))⟩])
               .ret)
             .skip))
           .skip)))))))))
         (.seq (.seq (.reg [138] [⟨(some 136), none, .mv (.t 9)⟩,
               ⟨(some 137), none, .len .sl (.t 136)⟩,
               ⟨(some 138), none, .bin .gtr .other true (.t 137) (.c (.int .i64 0))⟩])
          (.cond (.t 138) (.reg [9] [⟨(some 139), none, .mv (.t 9)⟩,
                ⟨(some 140), none, .faddr 3 (.t 11)⟩,
                ⟨(some 141), none, .load none (.t 140)⟩,
                ⟨(some 142), none, .mv (.t 9)⟩,
                ⟨(some 143), none, .len .sl (.t 142)⟩,
                ⟨(some 144), none, .bin .add .other true (.t 143) (.c (.int .i64 1))⟩,
                ⟨(some 145), none, .call (.c (.fn 8)) [(.t 141), (.t 144)]⟩,
                ⟨(some 146), none, .slice (.sl (some 2)) (.t 139) none (some (.t 145)) none⟩,
                ⟨(some 9), none, .mv (.t 146)⟩])
          .skip))
         (.seq (.reg [34, 35] [⟨(some 148), none, .mv (.t 6)⟩,
              ⟨(some 149), none, .mv (.t 9)⟩,
              ⟨(some 150), none, .call (.c (.fn 14)) [(.t 148), (.t 149)]⟩,
              ⟨(some 147), none, .mv (.t 150)⟩,
              ⟨(some 151), none, .extract (.t 147) 0⟩,
              ⟨(some 152), none, .extract (.t 147) 1⟩,
              ⟨(some 34), none, .mv (.t 151)⟩,
              ⟨(some 35), none, .mv (.t 152)⟩])
         (.seq (.reg [36] [⟨(some 153), none, .mv (.t 8)⟩,
              ⟨(some 154), none, .mv (.t 9)⟩,
              ⟨(some 155), none, .call (.c (.fn 17)) [(.t 154)]⟩,
              ⟨(some 156), none, .call (.c (.fn 25)) [(.t 153), (.t 155)]⟩,
              ⟨(some 36), none, .mv (.t 156)⟩])
         (.seq (.seq (.reg [165] [⟨(some 157), none, .mv (.t 35)⟩,
               ⟨(some 158), none, .bin .neq .ifc true (.t 157) (.c .inil)⟩,
               ⟨(some 159), none, .mv (.t 158)⟩,
               ⟨(some 160), (some (159, false)), .mv (.t 34)⟩,
               ⟨(some 161), (some (159, false)), .call (.c (.fn 17)) [(.t 160)]⟩,
               ⟨(some 162), (some (159, false)), .mv (.t 36)⟩,
               ⟨(some 163), (some (159, false)), .call (.c (.fn 19)) [(.t 161), (.t 162)]⟩,
               ⟨(some 164), (some (159, false)), .un .not (.t 163)⟩,
               ⟨(some 165), none, .pick (.t 159) (.c (.bool true)) (.t 164)⟩])
          (.cond (.t 165) (.seq (.reg [4] [⟨(some 4), none, .mv (.c (.bool false))⟩])
            .ret)
          .skip))
         (.reg [9] [⟨(some 166), none, .mv (.t 34)⟩,
             ⟨(some 9), none, .mv (.t 166)⟩])))))))))))))
       (.seq (.reg [378] [⟨(some 375), none, .mv (.t 6)⟩,
            ⟨(some 376), none, .mv (.t 8)⟩,
            ⟨(some 377), none, .call (.c (.fn 26)) [(.t 375), (.t 376)]⟩,
            ⟨(some 378), none, .un .not (.t 377)⟩])
       (.cond (.t 378) (.seq (.reg [4] [⟨(some 4), none, .mv (.c (.bool false))⟩])
         .ret)
       .skip))))))))))
     (.reg [10] [⟨(some 85), none, .mv (.t 10)⟩,
         ⟨(some 86), none, .bin .add .other true (.t 85) (.c (.int .i64 1))⟩,
         ⟨(some 10), none, .mv (.t 86)⟩]))))))
  (.seq (.reg [4] [⟨(some 379), none, .mv (.t 5)⟩,
       ⟨(some 4), none, .mv (.t 379)⟩])
  .ret))))))))))⟩
theorem c4 : compF Try.prog [0, 1, 4, 5, 6, 7, 8, 9, 10, 11, 12, 13, 14, 15, 16, 17, 18, 19, 20, 21, 22, 23, 24, 25, 26, 27, 28, 31, 32, 33, 34, 35, 36, 39, 47, 68, 84, 94, 103, 118, 135, 138, 165, 167, 217, 219, 227, 235, 261, 286, 287, 301, 325, 333, 358, 359, 374, 378] Try.f4 = some a4 := by kernel_rfl

/- bushel/bushellaw02.near -/
def a15 : AFun := ⟨48, [.tmp 4], (.seq (.reg [4] [⟨(some 4), none, .mv (.c .snil)⟩])
  (.seq (.reg [5] [⟨(some 5), none, .mv (.c .snil)⟩])
  (.seq (.seq (.reg [6] [⟨(some 6), none, .mv (.c (.int .i64 0))⟩])
   (.block 0 (.loop (.seq (.seq (.reg [11] [⟨(some 8), none, .mv (.t 6)⟩,
           ⟨(some 9), none, .mv (.t 0)⟩,
           ⟨(some 10), none, .len .sl (.t 9)⟩,
           ⟨(some 11), none, .bin .lss .other false (.t 8) (.t 10)⟩])
      (.cond (.t 11) .skip
      (.exit 0)))
     (.seq (.block 1 (.seq (.reg [7] [⟨(some 14), none, .mv (.t 0)⟩,
            ⟨(some 15), none, .mv (.t 6)⟩,
            ⟨(some 16), none, .iaddr (some 2) (.t 14) (.t 15)⟩,
            ⟨(some 17), none, .load (some 2) (.t 16)⟩,
            ⟨(some 7), none, .alloc [(.bool false), (.int .i64 0)]⟩,
            ⟨none, none, .store 2 (.t 7) (.t 17)⟩])
       (.seq (.seq (.reg [19] [⟨(some 18), none, .faddr 0 (.t 7)⟩,
             ⟨(some 19), none, .load none (.t 18)⟩])
        (.cond (.t 19) (.seq (.reg [25] [⟨(some 20), none, .mv (.t 1)⟩,
               ⟨(some 21), none, .nilck (.t 20)⟩,
               ⟨(some 22), none, .faddr 1 (.t 21)⟩,
               ⟨(some 23), none, .load none (.t 22)⟩,
               ⟨(some 24), none, .len .sl (.t 23)⟩,
               ⟨(some 25), none, .bin .eql .other true (.t 24) (.c (.int .i64 0))⟩])
          (.cond (.t 25) (.reg [] [⟨(some 26), none, .faddr 0 (.t 7)⟩,
                ⟨none, none, .store 1 (.t 26) (.c (.bool false))⟩])
          (.any [] [(⟨(some 27), none, .mv (.t 1)⟩, true),
              (⟨(some 28), none, .nilck (.t 27)⟩, true),
              (⟨(some 29), none, .faddr 1 (.t 28)⟩, true),
              (⟨(some 30), none, .load none (.t 29)⟩, true),
              (⟨(some 31), none, .faddr 1 (.t 7)⟩, false),
              (⟨(some 32), none, .load none (.t 31)⟩, false),
              (⟨(some 33), none, .mv (.t 1)⟩, false),
              (⟨(some 34), none, .nilck (.t 33)⟩, false),
              (⟨(some 35), none, .faddr 1 (.t 34)⟩, false),
              (⟨(some 36), none, .load none (.t 35)⟩, false),
              (⟨(some 37), none, .len .sl (.t 36)⟩, false),
              (⟨(some 38), none, .call (.c (.fn 8)) [(.t 32), (.t 37)]⟩, false),
              (⟨(some 39), none, .iaddr (some 3) (.t 30) (.t 38)⟩, true),
              (⟨(some 40), none, .faddr 0 (.t 39)⟩, true),
              (⟨(some 41), none, .load none (.t 40)⟩, true),
              (⟨(some 42), none, .faddr 1 (.t 7)⟩, true),
              (⟨none, none, .store 1 (.t 42) (.t 41)⟩, true)])))
        .skip))
       (.reg [5] [⟨(some 43), none, .mv (.t 5)⟩,
           ⟨(some 44), none, .load (some 2) (.t 7)⟩,
           ⟨(some 45), none, .mksl (some 2) [(.t 44)]⟩,
           ⟨(some 46), none, .append (some 2) 16 (.t 43) (.t 45)⟩,
           ⟨(some 5), none, .mv (.t 46)⟩]))))
     (.reg [6] [⟨(some 12), none, .mv (.t 6)⟩,
         ⟨(some 13), none, .bin .add .other true (.t 12) (.c (.int .i64 1))⟩,
         ⟨(some 6), none, .mv (.t 13)⟩]))))))
  (.seq (.reg [4] [⟨(some 47), none, .mv (.t 5)⟩,
       ⟨(some 4), none, .mv (.t 47)⟩])
  .ret))))⟩
theorem c15 : compF Try.prog [0, 1, 4, 5, 6, 7, 11, 19, 25] Try.f15 = some a15 := by kernel_rfl

/- (*bushel/bushelref01.Heap).Make -/
def a16m : AFun := ⟨101, [.tmp 8, .tmp 9, .tmp 10, .tmp 11], (.seq (.reg [8, 9, 10, 11] [⟨(some 8), none, .mv (.c (.int .i64 0))⟩,
       ⟨(some 9), none, .mv (.c .snil)⟩,
       ⟨(some 10), none, .mv (.c .snil)⟩,
       ⟨(some 11), none, .mv (.c (.int .i64 0))⟩])
  (.seq (.reg [13] [⟨(some 19), none, .mv (.t 1)⟩,
       ⟨(some 20), none, .mv (.t 2)⟩,
       ⟨(some 21), none, .len .sl (.t 20)⟩,
       ⟨(some 22), none, .call (.c (.fn 35)) [(.t 19), (.t 21)]⟩,
       ⟨(some 18), none, .mv (.t 22)⟩,
       ⟨(some 23), none, .extract (.t 18) 0⟩,
       ⟨(some 24), none, .extract (.t 18) 1⟩,
       ⟨(some 12), none, .alloc [(.bool false), (.int .i64 0)]⟩,
       ⟨none, none, .store 2 (.t 12) (.t 23)⟩,
       ⟨(some 13), none, .mv (.t 24)⟩])
  (.seq (.reg [14] [⟨(some 25), none, .mv (.t 0)⟩,
       ⟨(some 26), none, .mv (.t 2)⟩,
       ⟨(some 27), none, .call (.c (.fn 21)) [(.t 25), (.t 26)]⟩,
       ⟨(some 14), none, .mv (.t 27)⟩])
  (.seq (.reg [15] [⟨(some 28), none, .mv (.t 0)⟩,
       ⟨(some 29), none, .mv (.t 3)⟩,
       ⟨(some 30), none, .call (.c (.fn 21)) [(.t 28), (.t 29)]⟩,
       ⟨(some 15), none, .mv (.t 30)⟩])
  (.seq (.seq (.reg [40] [⟨(some 31), none, .mv (.t 13)⟩,
        ⟨(some 32), none, .un .not (.t 31)⟩,
        ⟨(some 33), none, .mv (.t 32)⟩,
        ⟨(some 34), (some (33, false)), .mv (.t 14)⟩,
        ⟨(some 35), (some (33, false)), .un .not (.t 34)⟩,
        ⟨(some 36), none, .pick (.t 33) (.c (.bool true)) (.t 35)⟩,
        ⟨(some 37), none, .mv (.t 36)⟩,
        ⟨(some 38), (some (37, false)), .mv (.t 15)⟩,
        ⟨(some 39), (some (37, false)), .un .not (.t 38)⟩,
        ⟨(some 40), none, .pick (.t 37) (.c (.bool true)) (.t 39)⟩])
   (.cond (.t 40) (.seq (.reg [8, 9, 10, 11] [⟨(some 8), none, .mv (.c (.int .i64 0))⟩,
          ⟨(some 9), none, .mv (.c .snil)⟩,
          ⟨(some 10), none, .mv (.c .snil)⟩,
          ⟨(some 11), none, .mv (.c (.int .i64 1))⟩])
     .ret)
   .skip))
  (.seq (.seq (.any [51] [(⟨(some 41), none, .mv (.t 0)⟩, true),
        (⟨(some 43), none, .mv (.t 2)⟩, false),
        (⟨(some 44), none, .len .sl (.t 43)⟩, false),
        (⟨(some 47), none, .mv (.t 0)⟩, false),
        (⟨(some 48), none, .nilck (.t 47)⟩, false),
        (⟨(some 49), none, .faddr 0 (.t 48)⟩, false),
        (⟨(some 50), none, .load none (.t 49)⟩, false),
        (⟨(some 42), none, .call (.c (.fn 36)) [(.t 41)]⟩, false),
        (⟨(some 45), none, .bin .add .other false (.t 42) (.t 44)⟩, false),
        (⟨(some 46), none, .bin .add .other true (.t 45) (.c (.int .i64 1))⟩, false),
        (⟨(some 51), none, .bin .gtr .other false (.t 46) (.t 50)⟩, true)])
   (.cond (.t 51) (.seq (.reg [16] [⟨(some 52), none, .mv (.t 0)⟩,
          ⟨(some 53), none, .mksl (some 2) []⟩,
          ⟨(some 54), none, .mv (.t 3)⟩,
          ⟨(some 55), none, .append (some 2) 16 (.t 53) (.t 54)⟩,
          ⟨(some 56), none, .mv (.t 2)⟩,
          ⟨(some 57), none, .append (some 2) 16 (.t 55) (.t 56)⟩,
          ⟨(some 58), none, .call (.c (.fn 25)) [(.t 52), (.t 57)]⟩,
          ⟨(some 16), none, .mv (.t 58)⟩])
     (.seq (.reg [3] [⟨(some 59), none, .mv (.t 16)⟩,
          ⟨(some 60), none, .mv (.t 3)⟩,
          ⟨(some 61), none, .len .sl (.t 60)⟩,
          ⟨(some 62), none, .slice (.sl (some 2)) (.t 59) none (some (.t 61)) none⟩,
          ⟨(some 3), none, .mv (.t 62)⟩])
     (.reg [2] [⟨(some 63), none, .mv (.t 16)⟩,
         ⟨(some 64), none, .mv (.t 3)⟩,
         ⟨(some 65), none, .len .sl (.t 64)⟩,
         ⟨(some 66), none, .slice (.sl (some 2)) (.t 63) (some (.t 65)) none none⟩,
         ⟨(some 2), none, .mv (.t 66)⟩])))
   .skip))
  (.seq (.reg [17] [⟨(some 67), none, .mv (.t 0)⟩,
       ⟨(some 68), none, .call (.c (.fn 36)) [(.t 67)]⟩,
       ⟨(some 17), none, .mv (.t 68)⟩])
  (.seq (.seq (.reg [78] [⟨(some 69), none, .mv (.t 17)⟩,
        ⟨(some 70), none, .mv (.t 2)⟩,
        ⟨(some 71), none, .len .sl (.t 70)⟩,
        ⟨(some 72), none, .bin .add .other false (.t 69) (.t 71)⟩,
        ⟨(some 73), none, .bin .add .other true (.t 72) (.c (.int .i64 1))⟩,
        ⟨(some 74), none, .mv (.t 0)⟩,
        ⟨(some 75), none, .nilck (.t 74)⟩,
        ⟨(some 76), none, .faddr 0 (.t 75)⟩,
        ⟨(some 77), none, .load none (.t 76)⟩,
        ⟨(some 78), none, .bin .gtr .other false (.t 73) (.t 77)⟩])
   (.cond (.t 78) (.seq (.reg [8, 9, 10, 11] [⟨(some 79), none, .mv (.t 2)⟩,
          ⟨(some 80), none, .mv (.t 3)⟩,
          ⟨(some 8), none, .mv (.c (.int .i64 0))⟩,
          ⟨(some 9), none, .mv (.t 79)⟩,
          ⟨(some 10), none, .mv (.t 80)⟩,
          ⟨(some 11), none, .mv (.c (.int .i64 7))⟩])
     .ret)
   .skip))
  (.seq (.reg [] [⟨(some 81), none, .mv (.t 0)⟩,
       ⟨(some 82), none, .mksl (some 3) []⟩,
       ⟨(some 83), none, .mv (.t 0)⟩,
       ⟨(some 84), none, .nilck (.t 83)⟩,
       ⟨(some 85), none, .faddr 1 (.t 84)⟩,
       ⟨(some 86), none, .load none (.t 85)⟩,
       ⟨(some 87), none, .ext (.appd (some 3) 40) [(.t 82), (.t 86)]⟩,
       ⟨(some 88), none, .mv (.t 17)⟩,
       ⟨(some 89), none, .mv (.t 1)⟩,
       ⟨(some 90), none, .mksl (some 2) []⟩,
       ⟨(some 91), none, .mv (.t 2)⟩,
       ⟨(some 92), none, .ext (.appm (some 2) 16) [(.t 90), (.t 91)]⟩,
       ⟨(some 93), none, .build [(.int .i64 0), (.int .i64 0), .snil] [(0, 1, (.t 88)), (1, 1, (.t 89)), (2, 1, (.t 92))]⟩,
       ⟨(some 94), none, .ext (.mksld (some 3)) [(.t 93)]⟩,
       ⟨(some 95), none, .ext (.appd (some 3) 40) [(.t 87), (.t 94)]⟩,
       ⟨(some 96), none, .nilck (.t 81)⟩,
       ⟨(some 97), none, .faddr 1 (.t 96)⟩,
       ⟨none, none, .store 1 (.t 97) (.t 95)⟩])
  (.seq (.reg [8, 9, 10, 11] [⟨(some 98), none, .mv (.t 17)⟩,
       ⟨(some 99), none, .mv (.t 2)⟩,
       ⟨(some 100), none, .mv (.t 3)⟩,
       ⟨(some 8), none, .mv (.t 98)⟩,
       ⟨(some 9), none, .mv (.t 99)⟩,
       ⟨(some 10), none, .mv (.t 100)⟩,
       ⟨(some 11), none, .mv (.c (.int .i64 0))⟩])
  .ret))))))))))⟩
theorem c16m : compF Try.prog [0, 1, 2, 3, 8, 9, 10, 11, 13, 14, 15, 16, 17, 40, 51, 78] Try.f16 [1000087, 92, 1000094, 1000095] = some a16m := by kernel_rfl

/- bushel/bushellaw01.All -/
def a17 : AFun := ⟨20, [.tmp 2], (.seq (.reg [2] [⟨(some 2), none, .mv (.c .snil)⟩])
  (.seq (.reg [3] [⟨(some 3), none, .mv (.c .snil)⟩])
  (.seq (.seq (.reg [4] [⟨(some 4), none, .mv (.c (.int .i64 0))⟩])
   (.block 0 (.loop (.seq (.seq (.reg [8] [⟨(some 5), none, .mv (.t 4)⟩,
           ⟨(some 6), none, .mv (.t 0)⟩,
           ⟨(some 7), none, .len .sl (.t 6)⟩,
           ⟨(some 8), none, .bin .lss .other false (.t 5) (.t 7)⟩])
      (.cond (.t 8) .skip
      (.exit 0)))
     (.seq (.block 1 (.reg [3] [⟨(some 11), none, .mv (.t 3)⟩,
           ⟨(some 12), none, .mv (.t 0)⟩,
           ⟨(some 13), none, .mv (.t 4)⟩,
           ⟨(some 14), none, .iaddr (some 2) (.t 12) (.t 13)⟩,
           ⟨(some 15), none, .load (some 2) (.t 14)⟩,
           ⟨(some 16), none, .call (.c (.fn 22)) [(.t 15)]⟩,
           ⟨(some 17), none, .mksl (some 2) [(.t 16)]⟩,
           ⟨(some 18), none, .append (some 2) 16 (.t 11) (.t 17)⟩,
           ⟨(some 3), none, .mv (.t 18)⟩]))
     (.reg [4] [⟨(some 9), none, .mv (.t 4)⟩,
         ⟨(some 10), none, .bin .add .other true (.t 9) (.c (.int .i64 1))⟩,
         ⟨(some 4), none, .mv (.t 10)⟩]))))))
  (.seq (.reg [2] [⟨(some 19), none, .mv (.t 3)⟩,
       ⟨(some 2), none, .mv (.t 19)⟩])
  .ret))))⟩
theorem c17 : compF Try.prog [0, 2, 3, 4, 8] Try.f17 = some a17 := by kernel_rfl

/- bushel/bushellaw00.Code -/
def a18 : AFun := ⟨15, [.tmp 2], (.seq (.reg [2] [⟨(some 2), none, .mv (.c (.int .i64 0))⟩])
  (.seq (.seq (.reg [5] [⟨(some 4), none, .mv (.t 0)⟩,
        ⟨(some 5), none, .bin .eql .ifc true (.t 4) (.c .inil)⟩])
   (.cond (.t 5) (.seq (.reg [2] [⟨(some 2), none, .mv (.c (.int .i64 0))⟩])
     .ret)
   .skip))
  (.seq (.seq (.reg [3] [⟨(some 3), none, .mv (.c (.int .i64 1))⟩])
   (.block 0 (.loop (.seq (.seq (.reg [7] [⟨(some 6), none, .mv (.t 3)⟩,
           ⟨(some 7), none, .bin .leq .other true (.t 6) (.c (.int .i64 11))⟩])
      (.cond (.t 7) .skip
      (.exit 0)))
     (.seq (.block 1 (.seq (.reg [13] [⟨(some 10), none, .mv (.t 0)⟩,
            ⟨(some 11), none, .mv (.t 3)⟩,
            ⟨(some 12), none, .mkif 39 (.t 11)⟩,
            ⟨(some 13), none, .bin .eql .ifc false (.t 10) (.t 12)⟩])
       (.cond (.t 13) (.seq (.reg [2] [⟨(some 14), none, .mv (.t 3)⟩,
              ⟨(some 2), none, .mv (.t 14)⟩])
         .ret)
       .skip)))
     (.reg [3] [⟨(some 8), none, .mv (.t 3)⟩,
         ⟨(some 9), none, .bin .add .other true (.t 8) (.c (.int .i64 1))⟩,
         ⟨(some 3), none, .mv (.t 9)⟩]))))))
  (.seq (.reg [2] [⟨(some 2), none, .mv (.c (.int .i64 (-1)))⟩])
  .ret))))⟩
theorem c18 : compF Try.prog [0, 2, 3, 5, 7, 13] Try.f18 = some a18 := by kernel_rfl

/- bushel/bushelref01.Same -/
def a19 : AFun := ⟨26, [.tmp 4], (.seq (.reg [4] [⟨(some 4), none, .mv (.c (.bool false))⟩])
  (.seq (.seq (.reg [10] [⟨(some 6), none, .mv (.t 0)⟩,
        ⟨(some 7), none, .len .sl (.t 6)⟩,
        ⟨(some 8), none, .mv (.t 1)⟩,
        ⟨(some 9), none, .len .sl (.t 8)⟩,
        ⟨(some 10), none, .bin .neq .other false (.t 7) (.t 9)⟩])
   (.cond (.t 10) (.seq (.reg [4] [⟨(some 4), none, .mv (.c (.bool false))⟩])
     .ret)
   .skip))
  (.seq (.seq (.reg [5] [⟨(some 5), none, .mv (.c (.int .i64 0))⟩])
   (.block 0 (.loop (.seq (.seq (.reg [14] [⟨(some 11), none, .mv (.t 5)⟩,
           ⟨(some 12), none, .mv (.t 0)⟩,
           ⟨(some 13), none, .len .sl (.t 12)⟩,
           ⟨(some 14), none, .bin .lss .other false (.t 11) (.t 13)⟩])
      (.cond (.t 14) .skip
      (.exit 0)))
     (.seq (.block 1 (.seq (.any [25] [(⟨(some 17), none, .mv (.t 0)⟩, true),
            (⟨(some 18), none, .mv (.t 5)⟩, false),
            (⟨(some 19), none, .iaddr (some 2) (.t 17) (.t 18)⟩, true),
            (⟨(some 20), none, .load (some 2) (.t 19)⟩, true),
            (⟨(some 21), none, .mv (.t 1)⟩, false),
            (⟨(some 22), none, .mv (.t 5)⟩, false),
            (⟨(some 23), none, .iaddr (some 2) (.t 21) (.t 22)⟩, false),
            (⟨(some 24), none, .load (some 2) (.t 23)⟩, false),
            (⟨(some 25), none, .bin .neq (.struct [.bool, .int]) false (.t 20) (.t 24)⟩, true)])
       (.cond (.t 25) (.seq (.reg [4] [⟨(some 4), none, .mv (.c (.bool false))⟩])
         .ret)
       .skip)))
     (.reg [5] [⟨(some 15), none, .mv (.t 5)⟩,
         ⟨(some 16), none, .bin .add .other true (.t 15) (.c (.int .i64 1))⟩,
         ⟨(some 5), none, .mv (.t 16)⟩]))))))
  (.seq (.reg [4] [⟨(some 4), none, .mv (.c (.bool true))⟩])
  .ret))))⟩
theorem c19 : compF Try.prog [0, 1, 4, 5, 10, 14, 25] Try.f19 = some a19 := by kernel_rfl

/- (*bushel/bushelref01.Heap).At -/
def a20 : AFun := ⟨26, [.tmp 4], (.seq (.reg [4] [⟨(some 4), none, .mv (.c (.int .i64 0))⟩])
  (.seq (.seq (.reg [5] [⟨(some 5), none, .mv (.c (.int .i64 0))⟩])
   (.block 0 (.loop (.seq (.seq (.reg [12] [⟨(some 6), none, .mv (.t 5)⟩,
           ⟨(some 7), none, .mv (.t 0)⟩,
           ⟨(some 8), none, .nilck (.t 7)⟩,
           ⟨(some 9), none, .faddr 1 (.t 8)⟩,
           ⟨(some 10), none, .load none (.t 9)⟩,
           ⟨(some 11), none, .len .sl (.t 10)⟩,
           ⟨(some 12), none, .bin .lss .other false (.t 6) (.t 11)⟩])
      (.cond (.t 12) .skip
      (.exit 0)))
     (.seq (.block 1 (.seq (.reg [24] [⟨(some 15), none, .mv (.t 0)⟩,
            ⟨(some 16), none, .nilck (.t 15)⟩,
            ⟨(some 17), none, .faddr 1 (.t 16)⟩,
            ⟨(some 18), none, .load none (.t 17)⟩,
            ⟨(some 19), none, .mv (.t 5)⟩,
            ⟨(some 20), none, .iaddr (some 3) (.t 18) (.t 19)⟩,
            ⟨(some 21), none, .faddr 0 (.t 20)⟩,
            ⟨(some 22), none, .load none (.t 21)⟩,
            ⟨(some 23), none, .mv (.t 1)⟩,
            ⟨(some 24), none, .bin .eql .other false (.t 22) (.t 23)⟩])
       (.cond (.t 24) (.seq (.reg [4] [⟨(some 25), none, .mv (.t 5)⟩,
              ⟨(some 4), none, .mv (.t 25)⟩])
         .ret)
       .skip)))
     (.reg [5] [⟨(some 13), none, .mv (.t 5)⟩,
         ⟨(some 14), none, .bin .add .other true (.t 13) (.c (.int .i64 1))⟩,
         ⟨(some 5), none, .mv (.t 14)⟩]))))))
  (.seq (.reg [4] [⟨(some 4), none, .mv (.c (.int .i64 (-1)))⟩])
  .ret)))⟩
theorem c20 : compF Try.prog [0, 1, 4, 5, 12, 24] Try.f20 = some a20 := by kernel_rfl

/- (*bushel/bushelref01.Heap).Fine -/
def a21 : AFun := ⟨27, [.tmp 4], (.seq (.reg [4] [⟨(some 4), none, .mv (.c (.bool false))⟩])
  (.seq (.seq (.reg [5] [⟨(some 5), none, .mv (.c (.int .i64 0))⟩])
   (.block 0 (.loop (.seq (.seq (.reg [9] [⟨(some 6), none, .mv (.t 5)⟩,
           ⟨(some 7), none, .mv (.t 1)⟩,
           ⟨(some 8), none, .len .sl (.t 7)⟩,
           ⟨(some 9), none, .bin .lss .other false (.t 6) (.t 8)⟩])
      (.cond (.t 9) .skip
      (.exit 0)))
     (.seq (.block 1 (.seq (.reg [26] [⟨(some 12), none, .mv (.t 1)⟩,
            ⟨(some 13), none, .mv (.t 5)⟩,
            ⟨(some 14), none, .iaddr (some 2) (.t 12) (.t 13)⟩,
            ⟨(some 15), none, .faddr 0 (.t 14)⟩,
            ⟨(some 16), none, .load none (.t 15)⟩,
            ⟨(some 17), none, .mv (.t 16)⟩,
            ⟨(some 18), (some (17, true)), .mv (.t 0)⟩,
            ⟨(some 19), (some (17, true)), .mv (.t 1)⟩,
            ⟨(some 20), (some (17, true)), .mv (.t 5)⟩,
            ⟨(some 21), (some (17, true)), .iaddr (some 2) (.t 19) (.t 20)⟩,
            ⟨(some 22), (some (17, true)), .faddr 1 (.t 21)⟩,
            ⟨(some 23), (some (17, true)), .load none (.t 22)⟩,
            ⟨(some 24), (some (17, true)), .call (.c (.fn 20)) [(.t 18), (.t 23)]⟩,
            ⟨(some 25), (some (17, true)), .bin .lss .other true (.t 24) (.c (.int .i64 0))⟩,
            ⟨(some 26), none, .pick (.t 17) (.t 25) (.c (.bool false))⟩])
       (.cond (.t 26) (.seq (.reg [4] [⟨(some 4), none, .mv (.c (.bool false))⟩])
         .ret)
       .skip)))
     (.reg [5] [⟨(some 10), none, .mv (.t 5)⟩,
         ⟨(some 11), none, .bin .add .other true (.t 10) (.c (.int .i64 1))⟩,
         ⟨(some 5), none, .mv (.t 11)⟩]))))))
  (.seq (.reg [4] [⟨(some 4), none, .mv (.c (.bool true))⟩])
  .ret)))⟩
theorem c21 : compF Try.prog [0, 1, 4, 5, 9, 26] Try.f21 = some a21 := by kernel_rfl

/- bushel/bushellaw01.As -/
def a22 : AFun := ⟨8, [.cell 2 (some 2)], (.seq (.reg [1, 2] [⟨(some 1), none, .box (.t 0)⟩,
       ⟨(some 2), none, .alloc [(.bool false), (.int .i64 0)]⟩])
  (.seq (.reg [] [⟨(some 3), none, .faddr 0 (.t 1)⟩,
       ⟨(some 4), none, .load none (.t 3)⟩,
       ⟨(some 5), none, .faddr 1 (.t 1)⟩,
       ⟨(some 6), none, .load none (.t 5)⟩,
       ⟨(some 7), none, .build [(.bool false), (.int .i64 0)] [(0, 1, (.t 4)), (1, 1, (.t 6))]⟩,
       ⟨none, none, .store 2 (.t 2) (.t 7)⟩])
  .ret))⟩
theorem c22 : compF Try.prog [0, 1, 2] Try.f22 = some a22 := by kernel_rfl

/- (*bushel/heap.Heap).Get -/
def a23 : AFun := ⟨39, [.cell 6 (some 2), .tmp 7], (.seq (.reg [6, 7] [⟨(some 6), none, .alloc [(.bool false), (.int .i64 0)]⟩,
       ⟨(some 7), none, .mv (.c .inil)⟩])
  (.seq (.reg [8, 9] [⟨(some 11), none, .mv (.t 0)⟩,
       ⟨(some 12), none, .mv (.t 1)⟩,
       ⟨(some 13), none, .call (.c (.fn 34)) [(.t 11), (.t 12)]⟩,
       ⟨(some 10), none, .mv (.t 13)⟩,
       ⟨(some 14), none, .extract (.t 10) 0⟩,
       ⟨(some 15), none, .extract (.t 10) 1⟩,
       ⟨(some 8), none, .mv (.t 14)⟩,
       ⟨(some 9), none, .mv (.t 15)⟩])
  (.seq (.seq (.reg [26] [⟨(some 16), none, .mv (.t 9)⟩,
        ⟨(some 17), none, .un .not (.t 16)⟩,
        ⟨(some 18), none, .mv (.t 17)⟩,
        ⟨(some 19), (some (18, false)), .mv (.t 2)⟩,
        ⟨(some 20), (some (18, false)), .bin .lss .other true (.t 19) (.c (.int .i64 0))⟩,
        ⟨(some 21), none, .pick (.t 18) (.c (.bool true)) (.t 20)⟩,
        ⟨(some 22), none, .mv (.t 21)⟩,
        ⟨(some 23), (some (22, false)), .mv (.t 2)⟩,
        ⟨(some 24), (some (22, false)), .mv (.t 8)⟩,
        ⟨(some 25), (some (22, false)), .bin .geq .other false (.t 23) (.t 24)⟩,
        ⟨(some 26), none, .pick (.t 22) (.c (.bool true)) (.t 25)⟩])
   (.cond (.t 26) (.seq (.reg [7] [⟨(some 27), none, .build [(.bool false), (.int .i64 0)] []⟩,
          ⟨(some 28), none, .mkif 39 (.c (.int .i64 1))⟩,
          ⟨none, none, .store 2 (.t 6) (.t 27)⟩,
          ⟨(some 7), none, .mv (.t 28)⟩])
     .ret)
   .skip))
  (.seq (.reg [7] [⟨(some 29), none, .mv (.t 0)⟩,
       ⟨(some 30), none, .nilck (.t 29)⟩,
       ⟨(some 31), none, .faddr 1 (.t 30)⟩,
       ⟨(some 32), none, .load none (.t 31)⟩,
       ⟨(some 33), none, .mv (.t 1)⟩,
       ⟨(some 34), none, .bin .add .other true (.t 33) (.c (.int .i64 1))⟩,
       ⟨(some 35), none, .mv (.t 2)⟩,
       ⟨(some 36), none, .bin .add .other false (.t 34) (.t 35)⟩,
       ⟨(some 37), none, .iaddr (some 2) (.t 32) (.t 36)⟩,
       ⟨(some 38), none, .load (some 2) (.t 37)⟩,
       ⟨none, none, .store 2 (.t 6) (.t 38)⟩,
       ⟨(some 7), none, .mv (.c .inil)⟩])
  .ret))))⟩
theorem c23 : compF Try.prog [0, 1, 2, 6, 7, 8, 9, 26] Try.f23 = some a23 := by kernel_rfl

/- (*bushel/bushelref01.Heap).Collect -/
def a25m : AFun := ⟨122, [.tmp 4], (.seq (.reg [4] [⟨(some 4), none, .mv (.c .snil)⟩])
  (.seq (.reg [5] [⟨(some 14), none, .mv (.t 0)⟩,
       ⟨(some 15), none, .mv (.t 1)⟩,
       ⟨(some 16), none, .call (.c (.fn 38)) [(.t 14), (.c .snil), (.t 15)]⟩,
       ⟨(some 5), none, .mv (.t 16)⟩])
  (.seq (.seq (.reg [6] [⟨(some 6), none, .mv (.c (.int .i64 0))⟩])
   (.block 0 (.loop (.seq (.seq (.reg [20] [⟨(some 17), none, .mv (.t 6)⟩,
           ⟨(some 18), none, .mv (.t 5)⟩,
           ⟨(some 19), none, .len .sl (.t 18)⟩,
           ⟨(some 20), none, .bin .lss .other false (.t 17) (.t 19)⟩])
      (.cond (.t 20) .skip
      (.exit 0)))
     (.seq (.block 1 (.any [5] [(⟨(some 23), none, .mv (.t 0)⟩, true),
           (⟨(some 24), none, .mv (.t 5)⟩, false),
           (⟨(some 25), none, .mv (.t 0)⟩, false),
           (⟨(some 26), none, .nilck (.t 25)⟩, false),
           (⟨(some 27), none, .faddr 1 (.t 26)⟩, false),
           (⟨(some 28), none, .load none (.t 27)⟩, false),
           (⟨(some 29), none, .mv (.t 5)⟩, false),
           (⟨(some 30), none, .mv (.t 6)⟩, false),
           (⟨(some 31), none, .iaddr none (.t 29) (.t 30)⟩, false),
           (⟨(some 32), none, .load none (.t 31)⟩, false),
           (⟨(some 33), none, .iaddr (some 3) (.t 28) (.t 32)⟩, false),
           (⟨(some 34), none, .faddr 2 (.t 33)⟩, false),
           (⟨(some 35), none, .load none (.t 34)⟩, false),
           (⟨(some 36), none, .call (.c (.fn 38)) [(.t 23), (.t 24), (.t 35)]⟩, true),
           (⟨(some 5), none, .mv (.t 36)⟩, true)]))
     (.reg [6] [⟨(some 21), none, .mv (.t 6)⟩,
         ⟨(some 22), none, .bin .add .other true (.t 21) (.c (.int .i64 1))⟩,
         ⟨(some 6), none, .mv (.t 22)⟩]))))))
  (.seq (.reg [7] [⟨(some 7), none, .mv (.c (.int .i64 0))⟩])
  (.seq (.reg [8] [⟨(some 37), none, .mv (.t 0)⟩,
       ⟨(some 38), none, .nilck (.t 37)⟩,
       ⟨(some 39), none, .faddr 1 (.t 38)⟩,
       ⟨(some 40), none, .load none (.t 39)⟩,
       ⟨(some 41), none, .len .sl (.t 40)⟩,
       ⟨(some 42), none, .ext (.mkvec none 8 [(.int .i64 0)]) [(.t 41), (.t 41)]⟩,
       ⟨(some 8), none, .mv (.t 42)⟩])
  (.seq (.seq (.reg [9] [⟨(some 9), none, .mv (.c (.int .i64 0))⟩])
   (.block 2 (.loop (.seq (.seq (.reg [46] [⟨(some 43), none, .mv (.t 9)⟩,
           ⟨(some 44), none, .mv (.t 5)⟩,
           ⟨(some 45), none, .len .sl (.t 44)⟩,
           ⟨(some 46), none, .bin .lss .other false (.t 43) (.t 45)⟩])
      (.cond (.t 46) .skip
      (.exit 2)))
     (.seq (.block 3 (.seq (.reg [] [⟨(some 49), none, .mv (.t 8)⟩,
            ⟨(some 50), none, .mv (.t 5)⟩,
            ⟨(some 51), none, .mv (.t 9)⟩,
            ⟨(some 52), none, .iaddr none (.t 50) (.t 51)⟩,
            ⟨(some 53), none, .load none (.t 52)⟩,
            ⟨(some 54), none, .mv (.t 7)⟩,
            ⟨(some 55), none, .iaddr none (.t 49) (.t 53)⟩,
            ⟨none, none, .store 1 (.t 55) (.t 54)⟩])
       (.any [7] [(⟨(some 56), none, .mv (.t 7)⟩, true),
           (⟨(some 57), none, .bin .add .other true (.t 56) (.c (.int .i64 1))⟩, true),
           (⟨(some 58), none, .mv (.t 0)⟩, false),
           (⟨(some 59), none, .nilck (.t 58)⟩, false),
           (⟨(some 60), none, .faddr 1 (.t 59)⟩, false),
           (⟨(some 61), none, .load none (.t 60)⟩, false),
           (⟨(some 62), none, .mv (.t 5)⟩, false),
           (⟨(some 63), none, .mv (.t 9)⟩, false),
           (⟨(some 64), none, .iaddr none (.t 62) (.t 63)⟩, false),
           (⟨(some 65), none, .load none (.t 64)⟩, false),
           (⟨(some 66), none, .iaddr (some 3) (.t 61) (.t 65)⟩, false),
           (⟨(some 67), none, .faddr 2 (.t 66)⟩, false),
           (⟨(some 68), none, .load none (.t 67)⟩, false),
           (⟨(some 69), none, .len .sl (.t 68)⟩, false),
           (⟨(some 70), none, .bin .add .other false (.t 57) (.t 69)⟩, true),
           (⟨(some 7), none, .mv (.t 70)⟩, true)])))
     (.reg [9] [⟨(some 47), none, .mv (.t 9)⟩,
         ⟨(some 48), none, .bin .add .other true (.t 47) (.c (.int .i64 1))⟩,
         ⟨(some 9), none, .mv (.t 48)⟩]))))))
  (.seq (.reg [10] [⟨(some 10), none, .mv (.c .snil)⟩])
  (.seq (.seq (.reg [11] [⟨(some 11), none, .mv (.c (.int .i64 0))⟩])
   (.block 4 (.loop (.seq (.seq (.reg [74] [⟨(some 71), none, .mv (.t 11)⟩,
           ⟨(some 72), none, .mv (.t 5)⟩,
           ⟨(some 73), none, .len .sl (.t 72)⟩,
           ⟨(some 74), none, .bin .lss .other false (.t 71) (.t 73)⟩])
      (.cond (.t 74) .skip
      (.exit 4)))
     (.seq (.block 5 (.seq (.any [12] [(⟨(some 77), none, .mv (.t 0)⟩, true),
            (⟨(some 78), none, .nilck (.t 77)⟩, true),
            (⟨(some 79), none, .faddr 1 (.t 78)⟩, true),
            (⟨(some 80), none, .load none (.t 79)⟩, true),
            (⟨(some 81), none, .mv (.t 5)⟩, false),
            (⟨(some 82), none, .mv (.t 11)⟩, false),
            (⟨(some 83), none, .iaddr none (.t 81) (.t 82)⟩, false),
            (⟨(some 84), none, .load none (.t 83)⟩, false),
            (⟨(some 85), none, .iaddr (some 3) (.t 80) (.t 84)⟩, true),
            (⟨(some 86), none, .load (some 3) (.t 85)⟩, true),
            (⟨(some 12), none, .alloc [(.int .i64 0), (.int .i64 0), .snil]⟩, false),
            (⟨none, none, .store 3 (.t 12) (.t 86)⟩, true)])
       (.any [10] [(⟨(some 87), none, .mv (.t 10)⟩, true),
           (⟨(some 88), none, .mv (.t 8)⟩, false),
           (⟨(some 89), none, .mv (.t 5)⟩, false),
           (⟨(some 90), none, .mv (.t 11)⟩, false),
           (⟨(some 91), none, .iaddr none (.t 89) (.t 90)⟩, false),
           (⟨(some 92), none, .load none (.t 91)⟩, false),
           (⟨(some 93), none, .iaddr none (.t 88) (.t 92)⟩, false),
           (⟨(some 94), none, .load none (.t 93)⟩, false),
           (⟨(some 95), none, .faddr 1 (.t 12)⟩, false),
           (⟨(some 96), none, .load none (.t 95)⟩, false),
           (⟨(some 97), none, .mv (.t 0)⟩, false),
           (⟨(some 98), none, .faddr 2 (.t 12)⟩, false),
           (⟨(some 99), none, .load none (.t 98)⟩, false),
           (⟨(some 100), none, .mv (.t 8)⟩, false),
           (⟨(some 101), none, .call (.c (.fn 39)) [(.t 97), (.t 99), (.t 100)]⟩, false),
           (⟨(some 102), none, .build [(.int .i64 0), (.int .i64 0), .snil] [(0, 1, (.t 94)), (1, 1, (.t 96)), (2, 1, (.t 101))]⟩, false),
           (⟨(some 103), none, .ext (.mksld (some 3)) [(.t 102)]⟩, false),
           (⟨(some 104), none, .ext (.appd (some 3) 40) [(.t 87), (.t 103)]⟩, true),
           (⟨(some 10), none, .mv (.t 104)⟩, true)])))
     (.reg [11] [⟨(some 75), none, .mv (.t 11)⟩,
         ⟨(some 76), none, .bin .add .other true (.t 75) (.c (.int .i64 1))⟩,
         ⟨(some 11), none, .mv (.t 76)⟩]))))))
  (.seq (.reg [13] [⟨(some 105), none, .mv (.t 0)⟩,
       ⟨(some 106), none, .mv (.t 1)⟩,
       ⟨(some 107), none, .mv (.t 8)⟩,
       ⟨(some 108), none, .call (.c (.fn 39)) [(.t 105), (.t 106), (.t 107)]⟩,
       ⟨(some 13), none, .mv (.t 108)⟩])
  (.seq (.reg [] [⟨(some 109), none, .mv (.t 0)⟩,
       ⟨(some 110), none, .mv (.t 10)⟩,
       ⟨(some 111), none, .nilck (.t 109)⟩,
       ⟨(some 112), none, .faddr 1 (.t 111)⟩,
       ⟨none, none, .store 1 (.t 112) (.t 110)⟩])
  (.seq (.reg [] [⟨(some 113), none, .mv (.t 0)⟩,
       ⟨(some 114), none, .mv (.t 0)⟩,
       ⟨(some 115), none, .nilck (.t 114)⟩,
       ⟨(some 116), none, .faddr 2 (.t 115)⟩,
       ⟨(some 117), none, .load none (.t 116)⟩,
       ⟨(some 118), none, .bin .add .other true (.t 117) (.c (.int .i64 1))⟩,
       ⟨(some 119), none, .nilck (.t 113)⟩,
       ⟨(some 120), none, .faddr 2 (.t 119)⟩,
       ⟨none, none, .store 1 (.t 120) (.t 118)⟩])
  (.seq (.reg [4] [⟨(some 121), none, .mv (.t 13)⟩,
       ⟨(some 4), none, .mv (.t 121)⟩])
  .ret))))))))))))⟩
theorem c25m : compF Try.prog [0, 1, 4, 5, 6, 7, 8, 9, 10, 11, 12, 13, 20, 46, 74] Try.f25 [1000103, 1000104] = some a25m := by kernel_rfl

/- bushel/bushellaw02.same -/
def a26 : AFun := ⟨74, [.tmp 4], (.seq (.reg [4] [⟨(some 4), none, .mv (.c (.bool false))⟩])
  (.seq (.seq (.any [22] [(⟨(some 9), none, .mv (.t 0)⟩, true),
        (⟨(some 11), none, .mv (.t 1)⟩, false),
        (⟨(some 10), none, .call (.c (.fn 13)) [(.t 9)]⟩, false),
        (⟨(some 12), none, .call (.c (.fn 36)) [(.t 11)]⟩, true),
        (⟨(some 13), none, .bin .neq .other false (.t 10) (.t 12)⟩, true),
        (⟨(some 14), none, .mv (.t 13)⟩, true),
        (⟨(some 15), (some (14, false)), .mv (.t 0)⟩, true),
        (⟨(some 17), (some (14, false)), .mv (.t 1)⟩, false),
        (⟨(some 18), (some (14, false)), .nilck (.t 17)⟩, false),
        (⟨(some 19), (some (14, false)), .faddr 2 (.t 18)⟩, false),
        (⟨(some 20), (some (14, false)), .load none (.t 19)⟩, false),
        (⟨(some 16), (some (14, false)), .call (.c (.fn 27)) [(.t 15)]⟩, false),
        (⟨(some 21), (some (14, false)), .bin .neq .other false (.t 16) (.t 20)⟩, true),
        (⟨(some 22), none, .pick (.t 14) (.c (.bool true)) (.t 21)⟩, true)])
   (.cond (.t 22) (.seq (.reg [4] [⟨(some 4), none, .mv (.c (.bool false))⟩])
     .ret)
   .skip))
  (.seq (.seq (.reg [5] [⟨(some 5), none, .mv (.c (.int .i64 0))⟩])
   (.block 0 (.loop (.seq (.seq (.reg [29] [⟨(some 23), none, .mv (.t 5)⟩,
           ⟨(some 24), none, .mv (.t 1)⟩,
           ⟨(some 25), none, .nilck (.t 24)⟩,
           ⟨(some 26), none, .faddr 1 (.t 25)⟩,
           ⟨(some 27), none, .load none (.t 26)⟩,
           ⟨(some 28), none, .len .sl (.t 27)⟩,
           ⟨(some 29), none, .bin .lss .other false (.t 23) (.t 28)⟩])
      (.cond (.t 29) .skip
      (.exit 0)))
     (.seq (.block 1 (.seq (.reg [6, 7, 8] [⟨(some 33), none, .mv (.t 0)⟩,
            ⟨(some 34), none, .mv (.t 1)⟩,
            ⟨(some 35), none, .nilck (.t 34)⟩,
            ⟨(some 36), none, .faddr 1 (.t 35)⟩,
            ⟨(some 37), none, .load none (.t 36)⟩,
            ⟨(some 38), none, .mv (.t 5)⟩,
            ⟨(some 39), none, .iaddr (some 3) (.t 37) (.t 38)⟩,
            ⟨(some 40), none, .faddr 0 (.t 39)⟩,
            ⟨(some 41), none, .load none (.t 40)⟩,
            ⟨(some 42), none, .call (.c (.fn 24)) [(.t 33), (.t 41)]⟩,
            ⟨(some 32), none, .mv (.t 42)⟩,
            ⟨(some 43), none, .extract (.t 32) 0⟩,
            ⟨(some 44), none, .extract (.t 32) 1⟩,
            ⟨(some 45), none, .extract (.t 32) 2⟩,
            ⟨(some 6), none, .mv (.t 43)⟩,
            ⟨(some 7), none, .mv (.t 44)⟩,
            ⟨(some 8), none, .mv (.t 45)⟩])
       (.seq (.any [73] [(⟨(some 46), none, .mv (.t 8)⟩, true),
            (⟨(some 47), none, .bin .neq .ifc true (.t 46) (.c .inil)⟩, true),
            (⟨(some 48), none, .mv (.t 47)⟩, true),
            (⟨(some 49), (some (48, false)), .mv (.t 6)⟩, true),
            (⟨(some 50), (some (48, false)), .mv (.t 1)⟩, false),
            (⟨(some 51), (some (48, false)), .nilck (.t 50)⟩, false),
            (⟨(some 52), (some (48, false)), .faddr 1 (.t 51)⟩, false),
            (⟨(some 53), (some (48, false)), .load none (.t 52)⟩, false),
            (⟨(some 54), (some (48, false)), .mv (.t 5)⟩, false),
            (⟨(some 55), (some (48, false)), .iaddr (some 3) (.t 53) (.t 54)⟩, false),
            (⟨(some 56), (some (48, false)), .faddr 1 (.t 55)⟩, false),
            (⟨(some 57), (some (48, false)), .load none (.t 56)⟩, false),
            (⟨(some 58), (some (48, false)), .bin .neq .other false (.t 49) (.t 57)⟩, true),
            (⟨(some 59), none, .pick (.t 48) (.c (.bool true)) (.t 58)⟩, true),
            (⟨(some 60), none, .mv (.t 59)⟩, true),
            (⟨(some 61), (some (60, false)), .mv (.t 7)⟩, true),
            (⟨(some 63), (some (60, false)), .mv (.t 1)⟩, false),
            (⟨(some 64), (some (60, false)), .nilck (.t 63)⟩, false),
            (⟨(some 65), (some (60, false)), .faddr 1 (.t 64)⟩, false),
            (⟨(some 66), (some (60, false)), .load none (.t 65)⟩, false),
            (⟨(some 67), (some (60, false)), .mv (.t 5)⟩, false),
            (⟨(some 68), (some (60, false)), .iaddr (some 3) (.t 66) (.t 67)⟩, false),
            (⟨(some 69), (some (60, false)), .faddr 2 (.t 68)⟩, false),
            (⟨(some 70), (some (60, false)), .load none (.t 69)⟩, false),
            (⟨(some 62), (some (60, false)), .call (.c (.fn 17)) [(.t 61)]⟩, false),
            (⟨(some 71), (some (60, false)), .call (.c (.fn 19)) [(.t 62), (.t 70)]⟩, true),
            (⟨(some 72), (some (60, false)), .un .not (.t 71)⟩, true),
            (⟨(some 73), none, .pick (.t 60) (.c (.bool true)) (.t 72)⟩, true)])
       (.cond (.t 73) (.seq (.reg [4] [⟨(some 4), none, .mv (.c (.bool false))⟩])
         .ret)
       .skip))))
     (.reg [5] [⟨(some 30), none, .mv (.t 5)⟩,
         ⟨(some 31), none, .bin .add .other true (.t 30) (.c (.int .i64 1))⟩,
         ⟨(some 5), none, .mv (.t 31)⟩]))))))
  (.seq (.reg [4] [⟨(some 4), none, .mv (.c (.bool true))⟩])
  .ret))))⟩
theorem c26 : compF Try.prog [0, 1, 4, 5, 6, 7, 8, 22, 29, 73] Try.f26 = some a26 := by kernel_rfl

/- bushel/bushelref01.Head -/
def a35 : AFun := ⟨26, [.cell 4 (some 2), .tmp 5], (.seq (.reg [4, 5] [⟨(some 4), none, .alloc [(.bool false), (.int .i64 0)]⟩,
       ⟨(some 5), none, .mv (.c (.bool false))⟩])
  (.seq (.seq (.reg [19] [⟨(some 6), none, .mv (.t 0)⟩,
        ⟨(some 7), none, .bin .lss .other true (.t 6) (.c (.int .i64 0))⟩,
        ⟨(some 8), none, .mv (.t 7)⟩,
        ⟨(some 9), (some (8, false)), .mv (.t 0)⟩,
        ⟨(some 10), (some (8, false)), .bin .gtr .other true (.t 9) (.c (.int .i64 15))⟩,
        ⟨(some 11), none, .pick (.t 8) (.c (.bool true)) (.t 10)⟩,
        ⟨(some 12), none, .mv (.t 11)⟩,
        ⟨(some 13), (some (12, false)), .mv (.t 1)⟩,
        ⟨(some 14), (some (12, false)), .bin .lss .other true (.t 13) (.c (.int .i64 0))⟩,
        ⟨(some 15), none, .pick (.t 12) (.c (.bool true)) (.t 14)⟩,
        ⟨(some 16), none, .mv (.t 15)⟩,
        ⟨(some 17), (some (16, false)), .mv (.t 1)⟩,
        ⟨(some 18), (some (16, false)), .bin .gtr .other true (.t 17) (.c (.int .i64 4000))⟩,
        ⟨(some 19), none, .pick (.t 16) (.c (.bool true)) (.t 18)⟩])
   (.cond (.t 19) (.seq (.reg [5] [⟨(some 20), none, .build [(.bool false), (.int .i64 0)] []⟩,
          ⟨none, none, .store 2 (.t 4) (.t 20)⟩,
          ⟨(some 5), none, .mv (.c (.bool false))⟩])
     .ret)
   .skip))
  (.seq (.reg [5] [⟨(some 21), none, .mv (.t 1)⟩,
       ⟨(some 22), none, .bin .mul .other true (.c (.int .i64 16)) (.t 21)⟩,
       ⟨(some 23), none, .mv (.t 0)⟩,
       ⟨(some 24), none, .bin .add .other false (.t 22) (.t 23)⟩,
       ⟨(some 25), none, .build [(.bool false), (.int .i64 0)] [(1, 1, (.t 24))]⟩,
       ⟨none, none, .store 2 (.t 4) (.t 25)⟩,
       ⟨(some 5), none, .mv (.c (.bool true))⟩])
  .ret)))⟩
theorem c35 : compF Try.prog [0, 1, 4, 5, 19] Try.f35 = some a35 := by kernel_rfl

/- (*bushel/bushelref01.Heap).Used -/
def a36 : AFun := ⟨27, [.tmp 2], (.seq (.reg [2] [⟨(some 2), none, .mv (.c (.int .i64 0))⟩])
  (.seq (.reg [3] [⟨(some 3), none, .mv (.c (.int .i64 0))⟩])
  (.seq (.seq (.reg [4] [⟨(some 4), none, .mv (.c (.int .i64 0))⟩])
   (.block 0 (.loop (.seq (.seq (.reg [11] [⟨(some 5), none, .mv (.t 4)⟩,
           ⟨(some 6), none, .mv (.t 0)⟩,
           ⟨(some 7), none, .nilck (.t 6)⟩,
           ⟨(some 8), none, .faddr 1 (.t 7)⟩,
           ⟨(some 9), none, .load none (.t 8)⟩,
           ⟨(some 10), none, .len .sl (.t 9)⟩,
           ⟨(some 11), none, .bin .lss .other false (.t 5) (.t 10)⟩])
      (.cond (.t 11) .skip
      (.exit 0)))
     (.seq (.block 1 (.reg [3] [⟨(some 14), none, .mv (.t 3)⟩,
           ⟨(some 15), none, .bin .add .other true (.t 14) (.c (.int .i64 1))⟩,
           ⟨(some 16), none, .mv (.t 0)⟩,
           ⟨(some 17), none, .nilck (.t 16)⟩,
           ⟨(some 18), none, .faddr 1 (.t 17)⟩,
           ⟨(some 19), none, .load none (.t 18)⟩,
           ⟨(some 20), none, .mv (.t 4)⟩,
           ⟨(some 21), none, .iaddr (some 3) (.t 19) (.t 20)⟩,
           ⟨(some 22), none, .faddr 2 (.t 21)⟩,
           ⟨(some 23), none, .load none (.t 22)⟩,
           ⟨(some 24), none, .len .sl (.t 23)⟩,
           ⟨(some 25), none, .bin .add .other false (.t 15) (.t 24)⟩,
           ⟨(some 3), none, .mv (.t 25)⟩]))
     (.reg [4] [⟨(some 12), none, .mv (.t 4)⟩,
         ⟨(some 13), none, .bin .add .other true (.t 12) (.c (.int .i64 1))⟩,
         ⟨(some 4), none, .mv (.t 13)⟩]))))))
  (.seq (.reg [2] [⟨(some 26), none, .mv (.t 3)⟩,
       ⟨(some 2), none, .mv (.t 26)⟩])
  .ret))))⟩
theorem c36 : compF Try.prog [0, 2, 3, 4, 11] Try.f36 = some a36 := by kernel_rfl

/- (*bushel/bushelref01.Heap).reach -/
def a38 : AFun := ⟨41, [.tmp 6], (.seq (.reg [6] [⟨(some 6), none, .mv (.c .snil)⟩])
  (.seq (.seq (.reg [7] [⟨(some 7), none, .mv (.c (.int .i64 0))⟩])
   (.block 0 (.loop (.seq (.seq (.reg [13] [⟨(some 10), none, .mv (.t 7)⟩,
           ⟨(some 11), none, .mv (.t 2)⟩,
           ⟨(some 12), none, .len .sl (.t 11)⟩,
           ⟨(some 13), none, .bin .lss .other false (.t 10) (.t 12)⟩])
      (.cond (.t 13) .skip
      (.exit 0)))
     (.seq (.block 1 (.seq (.seq (.reg [21] [⟨(some 16), none, .mv (.t 2)⟩,
             ⟨(some 17), none, .mv (.t 7)⟩,
             ⟨(some 18), none, .iaddr (some 2) (.t 16) (.t 17)⟩,
             ⟨(some 19), none, .faddr 0 (.t 18)⟩,
             ⟨(some 20), none, .load none (.t 19)⟩,
             ⟨(some 21), none, .un .not (.t 20)⟩])
        (.cond (.t 21) (.exit 1)
        .skip))
       (.seq (.reg [8] [⟨(some 22), none, .mv (.t 0)⟩,
            ⟨(some 23), none, .mv (.t 2)⟩,
            ⟨(some 24), none, .mv (.t 7)⟩,
            ⟨(some 25), none, .iaddr (some 2) (.t 23) (.t 24)⟩,
            ⟨(some 26), none, .faddr 1 (.t 25)⟩,
            ⟨(some 27), none, .load none (.t 26)⟩,
            ⟨(some 28), none, .call (.c (.fn 20)) [(.t 22), (.t 27)]⟩,
            ⟨(some 8), none, .mv (.t 28)⟩])
       (.seq (.reg [9] [⟨(some 29), none, .mv (.t 1)⟩,
            ⟨(some 30), none, .mv (.t 8)⟩,
            ⟨(some 31), none, .call (.c (.fn 45)) [(.t 29), (.t 30)]⟩,
            ⟨(some 9), none, .mv (.t 31)⟩])
       (.seq (.reg [33] [⟨(some 32), none, .mv (.t 9)⟩,
            ⟨(some 33), none, .un .not (.t 32)⟩])
       (.cond (.t 33) (.reg [1] [⟨(some 34), none, .mksl none []⟩,
             ⟨(some 35), none, .mv (.t 1)⟩,
             ⟨(some 36), none, .append none 8 (.t 34) (.t 35)⟩,
             ⟨(some 37), none, .mv (.t 8)⟩,
             ⟨(some 38), none, .mksl none [(.t 37)]⟩,
             ⟨(some 39), none, .append none 8 (.t 36) (.t 38)⟩,
             ⟨(some 1), none, .mv (.t 39)⟩])
       .skip))))))
     (.reg [7] [⟨(some 14), none, .mv (.t 7)⟩,
         ⟨(some 15), none, .bin .add .other true (.t 14) (.c (.int .i64 1))⟩,
         ⟨(some 7), none, .mv (.t 15)⟩]))))))
  (.seq (.reg [6] [⟨(some 40), none, .mv (.t 1)⟩,
       ⟨(some 6), none, .mv (.t 40)⟩])
  .ret)))⟩
theorem c38 : compF Try.prog [0, 1, 2, 6, 7, 8, 9, 13, 21, 33] Try.f38 = some a38 := by kernel_rfl

/- (*bushel/bushelref01.Heap).turned -/
def a39 : AFun := ⟨35, [.tmp 6], (.seq (.reg [6] [⟨(some 6), none, .mv (.c .snil)⟩])
  (.seq (.reg [7] [⟨(some 7), none, .mv (.c .snil)⟩])
  (.seq (.seq (.reg [8] [⟨(some 8), none, .mv (.c (.int .i64 0))⟩])
   (.block 0 (.loop (.seq (.seq (.reg [13] [⟨(some 10), none, .mv (.t 8)⟩,
           ⟨(some 11), none, .mv (.t 1)⟩,
           ⟨(some 12), none, .len .sl (.t 11)⟩,
           ⟨(some 13), none, .bin .lss .other false (.t 10) (.t 12)⟩])
      (.cond (.t 13) .skip
      (.exit 0)))
     (.seq (.block 1 (.seq (.reg [9] [⟨(some 16), none, .mv (.t 1)⟩,
            ⟨(some 17), none, .mv (.t 8)⟩,
            ⟨(some 18), none, .iaddr (some 2) (.t 16) (.t 17)⟩,
            ⟨(some 19), none, .load (some 2) (.t 18)⟩,
            ⟨(some 9), none, .alloc [(.bool false), (.int .i64 0)]⟩,
            ⟨none, none, .store 2 (.t 9) (.t 19)⟩])
       (.seq (.seq (.reg [21] [⟨(some 20), none, .faddr 0 (.t 9)⟩,
             ⟨(some 21), none, .load none (.t 20)⟩])
        (.cond (.t 21) (.reg [] [⟨(some 22), none, .mv (.t 2)⟩,
              ⟨(some 23), none, .mv (.t 0)⟩,
              ⟨(some 24), none, .faddr 1 (.t 9)⟩,
              ⟨(some 25), none, .load none (.t 24)⟩,
              ⟨(some 26), none, .call (.c (.fn 20)) [(.t 23), (.t 25)]⟩,
              ⟨(some 27), none, .iaddr none (.t 22) (.t 26)⟩,
              ⟨(some 28), none, .load none (.t 27)⟩,
              ⟨(some 29), none, .faddr 1 (.t 9)⟩,
              ⟨none, none, .store 1 (.t 29) (.t 28)⟩])
        .skip))
       (.reg [7] [⟨(some 30), none, .mv (.t 7)⟩,
           ⟨(some 31), none, .load (some 2) (.t 9)⟩,
           ⟨(some 32), none, .mksl (some 2) [(.t 31)]⟩,
           ⟨(some 33), none, .append (some 2) 16 (.t 30) (.t 32)⟩,
           ⟨(some 7), none, .mv (.t 33)⟩]))))
     (.reg [8] [⟨(some 14), none, .mv (.t 8)⟩,
         ⟨(some 15), none, .bin .add .other true (.t 14) (.c (.int .i64 1))⟩,
         ⟨(some 8), none, .mv (.t 15)⟩]))))))
  (.seq (.reg [6] [⟨(some 34), none, .mv (.t 7)⟩,
       ⟨(some 6), none, .mv (.t 34)⟩])
  .ret))))⟩
theorem c39 : compF Try.prog [0, 1, 2, 6, 7, 8, 9, 13, 21] Try.f39 = some a39 := by kernel_rfl

/- (*bushel/bushelref01.Heap).turned -/
def a39m : AFun := ⟨35, [.tmp 6], (.seq (.reg [6] [⟨(some 6), none, .mv (.c .snil)⟩])
  (.seq (.reg [7] [⟨(some 7), none, .mv (.c .snil)⟩])
  (.seq (.seq (.reg [8] [⟨(some 8), none, .mv (.c (.int .i64 0))⟩])
   (.block 0 (.loop (.seq (.seq (.reg [13] [⟨(some 10), none, .mv (.t 8)⟩,
           ⟨(some 11), none, .mv (.t 1)⟩,
           ⟨(some 12), none, .len .sl (.t 11)⟩,
           ⟨(some 13), none, .bin .lss .other false (.t 10) (.t 12)⟩])
      (.cond (.t 13) .skip
      (.exit 0)))
     (.seq (.block 1 (.seq (.reg [9] [⟨(some 16), none, .mv (.t 1)⟩,
            ⟨(some 17), none, .mv (.t 8)⟩,
            ⟨(some 18), none, .iaddr (some 2) (.t 16) (.t 17)⟩,
            ⟨(some 19), none, .load (some 2) (.t 18)⟩,
            ⟨(some 9), none, .alloc [(.bool false), (.int .i64 0)]⟩,
            ⟨none, none, .store 2 (.t 9) (.t 19)⟩])
       (.seq (.seq (.reg [21] [⟨(some 20), none, .faddr 0 (.t 9)⟩,
             ⟨(some 21), none, .load none (.t 20)⟩])
        (.cond (.t 21) (.reg [] [⟨(some 22), none, .mv (.t 2)⟩,
              ⟨(some 23), none, .mv (.t 0)⟩,
              ⟨(some 24), none, .faddr 1 (.t 9)⟩,
              ⟨(some 25), none, .load none (.t 24)⟩,
              ⟨(some 26), none, .call (.c (.fn 20)) [(.t 23), (.t 25)]⟩,
              ⟨(some 27), none, .iaddr none (.t 22) (.t 26)⟩,
              ⟨(some 28), none, .load none (.t 27)⟩,
              ⟨(some 29), none, .faddr 1 (.t 9)⟩,
              ⟨none, none, .store 1 (.t 29) (.t 28)⟩])
        .skip))
       (.reg [7] [⟨(some 30), none, .mv (.t 7)⟩,
           ⟨(some 31), none, .load (some 2) (.t 9)⟩,
           ⟨(some 32), none, .mksl (some 2) [(.t 31)]⟩,
           ⟨(some 33), none, .ext (.appm (some 2) 16) [(.t 30), (.t 32)]⟩,
           ⟨(some 7), none, .mv (.t 33)⟩]))))
     (.reg [8] [⟨(some 14), none, .mv (.t 8)⟩,
         ⟨(some 15), none, .bin .add .other true (.t 14) (.c (.int .i64 1))⟩,
         ⟨(some 8), none, .mv (.t 15)⟩]))))))
  (.seq (.reg [6] [⟨(some 34), none, .mv (.t 7)⟩,
       ⟨(some 6), none, .mv (.t 34)⟩])
  .ret))))⟩
theorem c39m : compF Try.prog [0, 1, 2, 6, 7, 8, 9, 13, 21] Try.f39 [33] = some a39m := by kernel_rfl

/- bushel/bushelref01.met -/
def a45 : AFun := ⟨18, [.tmp 4], (.seq (.reg [4] [⟨(some 4), none, .mv (.c (.bool false))⟩])
  (.seq (.seq (.reg [5] [⟨(some 5), none, .mv (.c (.int .i64 0))⟩])
   (.block 0 (.loop (.seq (.seq (.reg [9] [⟨(some 6), none, .mv (.t 5)⟩,
           ⟨(some 7), none, .mv (.t 0)⟩,
           ⟨(some 8), none, .len .sl (.t 7)⟩,
           ⟨(some 9), none, .bin .lss .other false (.t 6) (.t 8)⟩])
      (.cond (.t 9) .skip
      (.exit 0)))
     (.seq (.block 1 (.seq (.reg [17] [⟨(some 12), none, .mv (.t 0)⟩,
            ⟨(some 13), none, .mv (.t 5)⟩,
            ⟨(some 14), none, .iaddr none (.t 12) (.t 13)⟩,
            ⟨(some 15), none, .load none (.t 14)⟩,
            ⟨(some 16), none, .mv (.t 1)⟩,
            ⟨(some 17), none, .bin .eql .other false (.t 15) (.t 16)⟩])
       (.cond (.t 17) (.seq (.reg [4] [⟨(some 4), none, .mv (.c (.bool true))⟩])
         .ret)
       .skip)))
     (.reg [5] [⟨(some 10), none, .mv (.t 5)⟩,
         ⟨(some 11), none, .bin .add .other true (.t 10) (.c (.int .i64 1))⟩,
         ⟨(some 5), none, .mv (.t 11)⟩]))))))
  (.seq (.reg [4] [⟨(some 4), none, .mv (.c (.bool false))⟩])
  .ret)))⟩
theorem c45 : compF Try.prog [0, 1, 4, 5, 9, 17] Try.f45 = some a45 := by kernel_rfl

end Go.Proofs.Ytiomciifhkbklaa
