/-
  The bodies of functions, in the small language: printed by program, proved by the kernel's computing. (Own work.)
-/
import Derived.Test.YtppdghfpbliaeaaDoorAbsU
import Derived.Test.YtppdghfpbliaeaaDoorChecked
namespace Go.Proofs.YtppdghfpbliaeaaDoor
open Go Go.Abs

/- bushel/bushellaw13.EvidTells -/
def a4 : AFun := ⟨365, [.tmp 12], (.seq (.reg [6, 8, 11, 12] [⟨(some 6), none, .box (.t 0)⟩,
       ⟨(some 8), none, .box (.t 2)⟩,
       ⟨(some 11), none, .box (.t 5)⟩,
       ⟨(some 12), none, .mv (.c (.bool false))⟩])
  (.seq (.reg [13] [⟨(some 39), none, .call (.c (.fn 8)) []⟩,
       ⟨(some 13), none, .mv (.t 39)⟩])
  (.seq (.seq (.reg [65] [⟨(some 40), none, .load (some 5) (.t 6)⟩,
        ⟨(some 41), none, .call (.c (.fn 15)) [(.t 40)]⟩,
        ⟨(some 42), none, .bin .lss .other true (.t 41) (.c (.int .i64 0))⟩,
        ⟨(some 43), none, .mv (.t 42)⟩,
        ⟨(some 44), (some (43, false)), .mv (.t 1)⟩,
        ⟨(some 45), (some (43, false)), .len .str (.t 44)⟩,
        ⟨(some 46), (some (43, false)), .bin .gtr .other true (.t 45) (.c (.int .i64 100))⟩,
        ⟨(some 47), none, .pick (.t 43) (.c (.bool true)) (.t 46)⟩,
        ⟨(some 48), none, .mv (.t 47)⟩,
        ⟨(some 49), (some (48, false)), .faddr 2 (.t 8)⟩,
        ⟨(some 50), (some (48, false)), .load none (.t 49)⟩,
        ⟨(some 51), (some (48, false)), .len .str (.t 50)⟩,
        ⟨(some 52), (some (48, false)), .bin .gtr .other true (.t 51) (.c (.int .i64 100))⟩,
        ⟨(some 53), none, .pick (.t 48) (.c (.bool true)) (.t 52)⟩,
        ⟨(some 54), none, .mv (.t 53)⟩,
        ⟨(some 55), (some (54, false)), .mv (.t 3)⟩,
        ⟨(some 56), (some (54, false)), .len .sl (.t 55)⟩,
        ⟨(some 57), (some (54, false)), .bin .gtr .other true (.t 56) (.c (.int .i64 50))⟩,
        ⟨(some 58), none, .pick (.t 54) (.c (.bool true)) (.t 57)⟩,
        ⟨(some 59), none, .mv (.t 58)⟩,
        ⟨(some 60), (some (59, false)), .mv (.t 4)⟩,
        ⟨(some 61), (some (59, false)), .len .sl (.t 60)⟩,
        ⟨(some 62), (some (59, false)), .mv (.t 3)⟩,
        ⟨(some 63), (some (59, false)), .len .sl (.t 62)⟩,
        ⟨(some 64), (some (59, false)), .bin .lss .other false (.t 61) (.t 63)⟩,
        ⟨(some 65), none, .pick (.t 59) (.c (.bool true)) (.t 64)⟩])
   (.cond (.t 65) (.seq (.reg [12] [⟨(some 66), none, .mv (.t 13)⟩,
          ⟨(some 12), none, .mv (.t 66)⟩])
     .ret)
   .skip))
  (.seq (.reg [14, 15] [⟨(some 68), none, .load (some 5) (.t 6)⟩,
       ⟨(some 69), none, .mv (.t 1)⟩,
       ⟨(some 70), none, .call (.c (.fn 11)) [(.t 68), (.t 69)]⟩,
       ⟨(some 67), none, .mv (.t 70)⟩,
       ⟨(some 71), none, .extract (.t 67) 0⟩,
       ⟨(some 72), none, .extract (.t 67) 1⟩,
       ⟨(some 14), none, .alloc [(.int .i64 0), (.int .i64 0), (.str [])]⟩,
       ⟨none, none, .store 3 (.t 14) (.t 71)⟩,
       ⟨(some 15), none, .mv (.t 72)⟩])
  (.seq (.reg [16] [⟨(some 73), none, .load (some 5) (.t 6)⟩,
       ⟨(some 74), none, .call (.c (.fn 16)) [(.t 73)]⟩,
       ⟨(some 16), none, .mv (.t 74)⟩])
  (.seq (.seq (.reg [90] [⟨(some 75), none, .mv (.t 16)⟩,
        ⟨(some 76), none, .un .not (.t 75)⟩,
        ⟨(some 77), none, .mv (.t 76)⟩,
        ⟨(some 78), (some (77, false)), .faddr 0 (.t 6)⟩,
        ⟨(some 79), (some (77, false)), .load none (.t 78)⟩,
        ⟨(some 80), (some (77, false)), .bin .neq .other true (.t 79) (.c (.int .i64 4))⟩,
        ⟨(some 81), (some (77, false)), .mv (.t 80)⟩,
        ⟨(some 82), (some (81, true)), .faddr 0 (.t 6)⟩,
        ⟨(some 83), (some (81, true)), .load none (.t 82)⟩,
        ⟨(some 84), (some (81, true)), .bin .neq .other true (.t 83) (.c (.int .i64 5))⟩,
        ⟨(some 85), (some (77, false)), .pick (.t 81) (.t 84) (.c (.bool false))⟩,
        ⟨(some 86), none, .pick (.t 77) (.c (.bool true)) (.t 85)⟩,
        ⟨(some 87), none, .mv (.t 86)⟩,
        ⟨(some 88), (some (87, false)), .mv (.t 1)⟩,
        ⟨(some 89), (some (87, false)), .bin .eql .other true (.t 88) (.c (.str []))⟩,
        ⟨(some 90), none, .pick (.t 87) (.c (.bool true)) (.t 89)⟩])
   (.cond (.t 90) (.seq (.reg [98] [⟨(some 91), none, .mv (.t 15)⟩,
          ⟨(some 92), none, .mkif 47 (.c (.int .i64 1))⟩,
          ⟨(some 93), none, .bin .neq .ifc false (.t 91) (.t 92)⟩,
          ⟨(some 94), none, .mv (.t 93)⟩,
          ⟨(some 95), (some (94, false)), .load (some 3) (.t 14)⟩,
          ⟨(some 96), (some (94, false)), .build [(.int .i64 0), (.int .i64 0), (.str [])] []⟩,
          ⟨(some 97), (some (94, false)), .bin .neq (.struct [.int, .int, .str]) false (.t 95) (.t 96)⟩,
          ⟨(some 98), none, .pick (.t 94) (.c (.bool true)) (.t 97)⟩])
     (.cond (.t 98) (.seq (.reg [12] [⟨(some 12), none, .mv (.c (.bool false))⟩])
       .ret)
     .skip))
   (.seq (.alt [17] [(⟨(some 99), none, .faddr 3 (.t 6)⟩, true),
        (⟨(some 100), none, .load none (.t 99)⟩, true),
        (⟨(some 101), none, .mv (.t 1)⟩, false),
        (⟨(some 103), none, .faddr 4 (.t 6)⟩, false),
        (⟨(some 104), none, .load none (.t 103)⟩, false)] (⟨(some 102), none, .call (.c (.fn 12)) [(.t 100), (.t 101)]⟩, false) (⟨(some 17), none, .alloc [(.int .i64 0), (.int .i64 0), (.str [])]⟩, false) [(⟨(some 105), none, .build [(.int .i64 0), (.int .i64 0), (.str [])] [(0, 1, (.t 102)), (1, 1, (.t 104))]⟩, true)] [(⟨none, none, .store 3 (.t 17) (.t 105)⟩, true)])
   (.seq (.seq (.reg [108] [⟨(some 106), none, .faddr 4 (.t 6)⟩,
         ⟨(some 107), none, .load none (.t 106)⟩,
         ⟨(some 108), none, .bin .geq .other true (.t 107) (.c (.int .i64 0))⟩])
    (.cond (.t 108) (.reg [] [⟨(some 109), none, .mv (.t 1)⟩,
          ⟨(some 110), none, .faddr 2 (.t 17)⟩,
          ⟨none, none, .store 1 (.t 110) (.t 109)⟩])
    .skip))
   (.seq (.reg [117] [⟨(some 111), none, .mv (.t 15)⟩,
        ⟨(some 112), none, .bin .neq .ifc true (.t 111) (.c .inil)⟩,
        ⟨(some 113), none, .mv (.t 112)⟩,
        ⟨(some 114), (some (113, false)), .load (some 3) (.t 14)⟩,
        ⟨(some 115), (some (113, false)), .load (some 3) (.t 17)⟩,
        ⟨(some 116), (some (113, false)), .bin .neq (.struct [.int, .int, .str]) false (.t 114) (.t 115)⟩,
        ⟨(some 117), none, .pick (.t 113) (.c (.bool true)) (.t 116)⟩])
   (.cond (.t 117) (.seq (.reg [12] [⟨(some 12), none, .mv (.c (.bool false))⟩])
     .ret)
   .skip))))))
  (.seq (.any [18] [(⟨(some 118), none, .faddr 1 (.t 8)⟩, true),
       (⟨(some 119), none, .load none (.t 118)⟩, true),
       (⟨(some 123), none, .faddr 2 (.t 8)⟩, false),
       (⟨(some 124), none, .load none (.t 123)⟩, false),
       (⟨(some 120), none, .call (.c (.fn 17)) [(.t 119)]⟩, false),
       (⟨(some 121), none, .bin .add .other true (.c (.str [36])) (.t 120)⟩, false),
       (⟨(some 122), none, .bin .add .other true (.t 121) (.c (.str [46]))⟩, false),
       (⟨(some 125), none, .bin .add .other false (.t 122) (.t 124)⟩, true),
       (⟨(some 18), none, .mv (.t 125)⟩, true)])
  (.seq (.seq (.reg [133] [⟨(some 126), none, .faddr 1 (.t 8)⟩,
        ⟨(some 127), none, .load none (.t 126)⟩,
        ⟨(some 128), none, .faddr 2 (.t 8)⟩,
        ⟨(some 129), none, .load none (.t 128)⟩,
        ⟨(some 130), none, .build [(.int .i64 0), (.str [])] [(0, 1, (.t 127)), (1, 1, (.t 129))]⟩,
        ⟨(some 131), none, .call (.c (.fn 18)) [(.t 130)]⟩,
        ⟨(some 132), none, .mv (.t 18)⟩,
        ⟨(some 133), none, .bin .neq .other false (.t 131) (.t 132)⟩])
   (.cond (.t 133) (.seq (.reg [12] [⟨(some 12), none, .mv (.c (.bool false))⟩])
     .ret)
   .skip))
  (.seq (.reg [19] [⟨(some 134), none, .load (some 3) (.t 8)⟩,
       ⟨(some 135), none, .call (.c (.fn 19)) [(.t 134)]⟩,
       ⟨(some 19), none, .alloc [(.int .i64 0), (.int .i64 0), (.str []), (.str []), .snil, .snil]⟩,
       ⟨none, none, .store 6 (.t 19) (.t 135)⟩])
  (.seq (.reg [20] [⟨(some 136), none, .faddr 0 (.t 8)⟩,
       ⟨(some 137), none, .load none (.t 136)⟩,
       ⟨(some 138), none, .build [(.int .i64 0), (.int .i64 0), (.str []), (.str []), .snil, .snil] [(0, 1, (.c (.int .i64 1))), (1, 1, (.t 137))]⟩,
       ⟨(some 20), none, .alloc [(.int .i64 0), (.int .i64 0), (.str []), (.str []), .snil, .snil]⟩,
       ⟨none, none, .store 6 (.t 20) (.t 138)⟩])
  (.seq (.reg [21] [⟨(some 139), none, .mv (.t 18)⟩,
       ⟨(some 140), none, .build [(.int .i64 0), (.int .i64 0), (.str []), (.str []), .snil, .snil] [(0, 1, (.c (.int .i64 3))), (2, 1, (.t 139))]⟩,
       ⟨(some 21), none, .alloc [(.int .i64 0), (.int .i64 0), (.str []), (.str []), .snil, .snil]⟩,
       ⟨none, none, .store 6 (.t 21) (.t 140)⟩])
  (.seq (.reg [22] [⟨(some 141), none, .load (some 6) (.t 21)⟩,
       ⟨(some 142), none, .load (some 6) (.t 20)⟩,
       ⟨(some 143), none, .mksl (some 6) [(.t 141), (.t 142)]⟩,
       ⟨(some 144), none, .build [(.int .i64 0), (.int .i64 0), (.str []), (.str []), .snil, .snil] [(0, 1, (.c (.int .i64 16))), (2, 1, (.c (.str [43]))), (5, 1, (.t 143))]⟩,
       ⟨(some 22), none, .alloc [(.int .i64 0), (.int .i64 0), (.str []), (.str []), .snil, .snil]⟩,
       ⟨none, none, .store 6 (.t 22) (.t 144)⟩])
  (.seq (.seq (.reg [147] [⟨(some 145), none, .faddr 1 (.t 8)⟩,
        ⟨(some 146), none, .load none (.t 145)⟩,
        ⟨(some 147), none, .bin .lss .other true (.t 146) (.c (.int .i64 0))⟩])
   (.cond (.t 147) (.reg [] [⟨(some 148), none, .load (some 6) (.t 20)⟩,
         ⟨none, none, .store 6 (.t 22) (.t 148)⟩])
   (.seq (.reg [151] [⟨(some 149), none, .faddr 0 (.t 8)⟩,
        ⟨(some 150), none, .load none (.t 149)⟩,
        ⟨(some 151), none, .bin .eql .other true (.t 150) (.c (.int .i64 0))⟩])
   (.cond (.t 151) (.reg [] [⟨(some 152), none, .load (some 6) (.t 21)⟩,
         ⟨none, none, .store 6 (.t 22) (.t 152)⟩])
   .skip))))
  (.seq (.seq (.reg [180] [⟨(some 153), none, .faddr 0 (.t 19)⟩,
        ⟨(some 154), none, .load none (.t 153)⟩,
        ⟨(some 155), none, .faddr 0 (.t 22)⟩,
        ⟨(some 156), none, .load none (.t 155)⟩,
        ⟨(some 157), none, .bin .neq .other false (.t 154) (.t 156)⟩,
        ⟨(some 158), none, .mv (.t 157)⟩,
        ⟨(some 159), (some (158, false)), .faddr 1 (.t 19)⟩,
        ⟨(some 160), (some (158, false)), .load none (.t 159)⟩,
        ⟨(some 161), (some (158, false)), .faddr 1 (.t 22)⟩,
        ⟨(some 162), (some (158, false)), .load none (.t 161)⟩,
        ⟨(some 163), (some (158, false)), .bin .neq .other false (.t 160) (.t 162)⟩,
        ⟨(some 164), none, .pick (.t 158) (.c (.bool true)) (.t 163)⟩,
        ⟨(some 165), none, .mv (.t 164)⟩,
        ⟨(some 166), (some (165, false)), .faddr 2 (.t 19)⟩,
        ⟨(some 167), (some (165, false)), .load none (.t 166)⟩,
        ⟨(some 168), (some (165, false)), .faddr 2 (.t 22)⟩,
        ⟨(some 169), (some (165, false)), .load none (.t 168)⟩,
        ⟨(some 170), (some (165, false)), .bin .neq .other false (.t 167) (.t 169)⟩,
        ⟨(some 171), none, .pick (.t 165) (.c (.bool true)) (.t 170)⟩,
        ⟨(some 172), none, .mv (.t 171)⟩,
        ⟨(some 173), (some (172, false)), .faddr 5 (.t 19)⟩,
        ⟨(some 174), (some (172, false)), .load none (.t 173)⟩,
        ⟨(some 175), (some (172, false)), .len .sl (.t 174)⟩,
        ⟨(some 176), (some (172, false)), .faddr 5 (.t 22)⟩,
        ⟨(some 177), (some (172, false)), .load none (.t 176)⟩,
        ⟨(some 178), (some (172, false)), .len .sl (.t 177)⟩,
        ⟨(some 179), (some (172, false)), .bin .neq .other false (.t 175) (.t 178)⟩,
        ⟨(some 180), none, .pick (.t 172) (.c (.bool true)) (.t 179)⟩])
   (.cond (.t 180) (.seq (.reg [12] [⟨(some 12), none, .mv (.c (.bool false))⟩])
     .ret)
   .skip))
  (.seq (.seq (.reg [23] [⟨(some 23), none, .mv (.c (.int .i64 0))⟩])
   (.block 0 (.loop (.seq (.seq (.reg [185] [⟨(some 181), none, .mv (.t 23)⟩,
           ⟨(some 182), none, .faddr 5 (.t 19)⟩,
           ⟨(some 183), none, .load none (.t 182)⟩,
           ⟨(some 184), none, .len .sl (.t 183)⟩,
           ⟨(some 185), none, .bin .lss .other false (.t 181) (.t 184)⟩])
      (.cond (.t 185) .skip
      (.exit 0)))
     (.seq (.block 1 (.seq (.any [230] [(⟨(some 188), none, .faddr 5 (.t 19)⟩, true),
            (⟨(some 189), none, .load none (.t 188)⟩, true),
            (⟨(some 190), none, .mv (.t 23)⟩, false),
            (⟨(some 191), none, .iaddr (some 6) (.t 189) (.t 190)⟩, true),
            (⟨(some 192), none, .faddr 0 (.t 191)⟩, true),
            (⟨(some 193), none, .load none (.t 192)⟩, true),
            (⟨(some 194), none, .faddr 5 (.t 22)⟩, false),
            (⟨(some 195), none, .load none (.t 194)⟩, false),
            (⟨(some 196), none, .mv (.t 23)⟩, false),
            (⟨(some 197), none, .iaddr (some 6) (.t 195) (.t 196)⟩, false),
            (⟨(some 198), none, .faddr 0 (.t 197)⟩, false),
            (⟨(some 199), none, .load none (.t 198)⟩, false),
            (⟨(some 200), none, .bin .neq .other false (.t 193) (.t 199)⟩, true),
            (⟨(some 201), none, .mv (.t 200)⟩, true),
            (⟨(some 202), (some (201, false)), .faddr 5 (.t 19)⟩, true),
            (⟨(some 203), (some (201, false)), .load none (.t 202)⟩, true),
            (⟨(some 204), (some (201, false)), .mv (.t 23)⟩, false),
            (⟨(some 205), (some (201, false)), .iaddr (some 6) (.t 203) (.t 204)⟩, true),
            (⟨(some 206), (some (201, false)), .faddr 1 (.t 205)⟩, true),
            (⟨(some 207), (some (201, false)), .load none (.t 206)⟩, true),
            (⟨(some 208), (some (201, false)), .faddr 5 (.t 22)⟩, false),
            (⟨(some 209), (some (201, false)), .load none (.t 208)⟩, false),
            (⟨(some 210), (some (201, false)), .mv (.t 23)⟩, false),
            (⟨(some 211), (some (201, false)), .iaddr (some 6) (.t 209) (.t 210)⟩, false),
            (⟨(some 212), (some (201, false)), .faddr 1 (.t 211)⟩, false),
            (⟨(some 213), (some (201, false)), .load none (.t 212)⟩, false),
            (⟨(some 214), (some (201, false)), .bin .neq .other false (.t 207) (.t 213)⟩, true),
            (⟨(some 215), none, .pick (.t 201) (.c (.bool true)) (.t 214)⟩, true),
            (⟨(some 216), none, .mv (.t 215)⟩, true),
            (⟨(some 217), (some (216, false)), .faddr 5 (.t 19)⟩, true),
            (⟨(some 218), (some (216, false)), .load none (.t 217)⟩, true),
            (⟨(some 219), (some (216, false)), .mv (.t 23)⟩, false),
            (⟨(some 220), (some (216, false)), .iaddr (some 6) (.t 218) (.t 219)⟩, true),
            (⟨(some 221), (some (216, false)), .faddr 2 (.t 220)⟩, true),
            (⟨(some 222), (some (216, false)), .load none (.t 221)⟩, true),
            (⟨(some 223), (some (216, false)), .faddr 5 (.t 22)⟩, false),
            (⟨(some 224), (some (216, false)), .load none (.t 223)⟩, false),
            (⟨(some 225), (some (216, false)), .mv (.t 23)⟩, false),
            (⟨(some 226), (some (216, false)), .iaddr (some 6) (.t 224) (.t 225)⟩, false),
            (⟨(some 227), (some (216, false)), .faddr 2 (.t 226)⟩, false),
            (⟨(some 228), (some (216, false)), .load none (.t 227)⟩, false),
            (⟨(some 229), (some (216, false)), .bin .neq .other false (.t 222) (.t 228)⟩, true),
            (⟨(some 230), none, .pick (.t 216) (.c (.bool true)) (.t 229)⟩, true)])
       (.cond (.t 230) (.seq (.reg [12] [⟨(some 12), none, .mv (.c (.bool false))⟩])
         .ret)
       .skip)))
     (.reg [23] [⟨(some 186), none, .mv (.t 23)⟩,
         ⟨(some 187), none, .bin .add .other true (.t 186) (.c (.int .i64 1))⟩,
         ⟨(some 23), none, .mv (.t 187)⟩]))))))
  (.seq (.reg [24] [⟨(some 231), none, .ext .mkmap []⟩,
       ⟨(some 24), none, .mv (.t 231)⟩])
  (.seq (.reg [25] [⟨(some 232), none, .faddr 0 (.t 8)⟩,
       ⟨(some 233), none, .load none (.t 232)⟩,
       ⟨(some 25), none, .mv (.t 233)⟩])
  (.seq (.reg [26] [⟨(some 234), none, .faddr 1 (.t 8)⟩,
       ⟨(some 235), none, .load none (.t 234)⟩,
       ⟨(some 236), none, .bin .lss .other true (.t 235) (.c (.int .i64 0))⟩,
       ⟨(some 26), none, .mv (.t 236)⟩])
  (.seq (.seq (.reg [27] [⟨(some 27), none, .mv (.c (.int .i64 0))⟩])
   (.block 2 (.loop (.seq (.seq (.reg [240] [⟨(some 237), none, .mv (.t 27)⟩,
           ⟨(some 238), none, .mv (.t 3)⟩,
           ⟨(some 239), none, .len .sl (.t 238)⟩,
           ⟨(some 240), none, .bin .lss .other false (.t 237) (.t 239)⟩])
      (.cond (.t 240) .skip
      (.exit 2)))
     (.seq (.block 3 (.any [] [(⟨(some 243), none, .mv (.t 24)⟩, true),
           (⟨(some 244), none, .mv (.t 3)⟩, false),
           (⟨(some 245), none, .mv (.t 27)⟩, false),
           (⟨(some 246), none, .iaddr (some 2) (.t 244) (.t 245)⟩, false),
           (⟨(some 247), none, .load (some 2) (.t 246)⟩, false),
           (⟨(some 248), none, .mv (.t 4)⟩, false),
           (⟨(some 249), none, .mv (.t 27)⟩, false),
           (⟨(some 250), none, .iaddr none (.t 248) (.t 249)⟩, false),
           (⟨(some 251), none, .load none (.t 250)⟩, false),
           (⟨none, none, .ext (.mput (.pair .i64)) [(.t 243), (.t 247), (.t 251)]⟩, true)]))
     (.reg [27] [⟨(some 241), none, .mv (.t 27)⟩,
         ⟨(some 242), none, .bin .add .other true (.t 241) (.c (.int .i64 1))⟩,
         ⟨(some 27), none, .mv (.t 242)⟩]))))))
  (.seq (.reg [28, 29] [⟨(some 253), none, .mv (.t 24)⟩,
       ⟨(some 254), none, .faddr 1 (.t 8)⟩,
       ⟨(some 255), none, .load none (.t 254)⟩,
       ⟨(some 256), none, .faddr 2 (.t 8)⟩,
       ⟨(some 257), none, .load none (.t 256)⟩,
       ⟨(some 258), none, .build [(.int .i64 0), (.str [])] [(0, 1, (.t 255)), (1, 1, (.t 257))]⟩,
       ⟨(some 259), none, .ext (.mget (.pair .i64) true (.int .i64 0)) [(.t 253), (.t 258)]⟩,
       ⟨(some 252), none, .mv (.t 259)⟩,
       ⟨(some 260), none, .extract (.t 252) 0⟩,
       ⟨(some 261), none, .extract (.t 252) 1⟩,
       ⟨(some 28), none, .mv (.t 260)⟩,
       ⟨(some 29), none, .mv (.t 261)⟩])
  (.seq (.seq (.reg [266] [⟨(some 262), none, .mv (.t 26)⟩,
        ⟨(some 263), none, .un .not (.t 262)⟩,
        ⟨(some 264), none, .mv (.t 263)⟩,
        ⟨(some 265), (some (264, true)), .mv (.t 29)⟩,
        ⟨(some 266), none, .pick (.t 264) (.t 265) (.c (.bool false))⟩])
   (.cond (.t 266) (.seq (.reg [25] [⟨(some 267), none, .mv (.t 25)⟩,
          ⟨(some 268), none, .mv (.t 28)⟩,
          ⟨(some 269), none, .bin .add .other false (.t 267) (.t 268)⟩,
          ⟨(some 25), none, .mv (.t 269)⟩])
     (.reg [26] [⟨(some 26), none, .mv (.c (.bool true))⟩]))
   .skip))
  (.seq (.reg [30, 31] [⟨(some 271), none, .load (some 3) (.t 8)⟩,
       ⟨(some 272), none, .mv (.t 24)⟩,
       ⟨(some 273), none, .call (.c (.fn 13)) [(.t 271), (.t 272)]⟩,
       ⟨(some 270), none, .mv (.t 273)⟩,
       ⟨(some 274), none, .extract (.t 270) 0⟩,
       ⟨(some 275), none, .extract (.t 270) 1⟩,
       ⟨(some 30), none, .mv (.t 274)⟩,
       ⟨(some 31), none, .mv (.t 275)⟩])
  (.seq (.seq (.reg [300] [⟨(some 276), none, .mv (.t 26)⟩,
        ⟨(some 277), none, .mv (.t 31)⟩,
        ⟨(some 278), none, .bin .eql .ifc true (.t 277) (.c .inil)⟩,
        ⟨(some 279), none, .bin .neq .bool false (.t 276) (.t 278)⟩,
        ⟨(some 280), none, .mv (.t 279)⟩,
        ⟨(some 281), (some (280, false)), .mv (.t 26)⟩,
        ⟨(some 282), (some (280, false)), .mv (.t 281)⟩,
        ⟨(some 283), (some (282, true)), .mv (.t 30)⟩,
        ⟨(some 284), (some (282, true)), .mv (.t 25)⟩,
        ⟨(some 285), (some (282, true)), .bin .neq .other false (.t 283) (.t 284)⟩,
        ⟨(some 286), (some (280, false)), .pick (.t 282) (.t 285) (.c (.bool false))⟩,
        ⟨(some 287), none, .pick (.t 280) (.c (.bool true)) (.t 286)⟩,
        ⟨(some 288), none, .mv (.t 287)⟩,
        ⟨(some 289), (some (288, false)), .mv (.t 26)⟩,
        ⟨(some 290), (some (288, false)), .un .not (.t 289)⟩,
        ⟨(some 291), (some (288, false)), .mv (.t 290)⟩,
        ⟨(some 292), (some (291, true)), .mv (.t 31)⟩,
        ⟨(some 293), (some (291, true)), .mkif 47 (.c (.int .i64 4))⟩,
        ⟨(some 294), (some (291, true)), .bin .neq .ifc false (.t 292) (.t 293)⟩,
        ⟨(some 295), (some (291, true)), .mv (.t 294)⟩,
        ⟨(some 296), (some (295, false)), .mv (.t 30)⟩,
        ⟨(some 297), (some (295, false)), .bin .neq .other true (.t 296) (.c (.int .i64 0))⟩,
        ⟨(some 298), (some (291, true)), .pick (.t 295) (.c (.bool true)) (.t 297)⟩,
        ⟨(some 299), (some (288, false)), .pick (.t 291) (.t 298) (.c (.bool false))⟩,
        ⟨(some 300), none, .pick (.t 288) (.c (.bool true)) (.t 299)⟩])
   (.cond (.t 300) (.seq (.reg [12] [⟨(some 12), none, .mv (.c (.bool false))⟩])
     .ret)
   .skip))
  (.seq (.reg [32] [⟨(some 301), none, .mkfn 20 [(.t 11)]⟩,
       ⟨(some 32), none, .mv (.t 301)⟩])
  (.seq (.reg [33] [⟨(some 302), none, .build [.snil, .snil] []⟩,
       ⟨(some 303), none, .box (.t 302)⟩,
       ⟨(some 33), none, .mv (.t 303)⟩])
  (.seq (.seq (.reg [304] [⟨(some 304), none, .mv (.t 16)⟩])
   (.cond (.t 304) (.reg [] [⟨(some 305), none, .mv (.t 33)⟩,
         ⟨(some 306), none, .load (some 5) (.t 6)⟩,
         ⟨(some 307), none, .call (.c (.fn 21)) [(.t 305), (.t 306)]⟩])
   .skip))
  (.seq (.reg [34] [⟨(some 308), none, .load (some 5) (.t 6)⟩,
       ⟨(some 309), none, .mv (.t 32)⟩,
       ⟨(some 310), none, .call (.c (.fn 22)) [(.t 308), (.t 309)]⟩,
       ⟨(some 34), none, .mv (.t 310)⟩])
  (.seq (.reg [35] [⟨(some 35), none, .mv (.c (.int .i64 0))⟩])
  (.seq (.seq (.reg [36] [⟨(some 36), none, .mv (.c (.int .i64 0))⟩])
   (.block 4 (.loop (.seq (.seq (.reg [317] [⟨(some 311), none, .mv (.t 36)⟩,
           ⟨(some 312), none, .mv (.t 33)⟩,
           ⟨(some 313), none, .nilck (.t 312)⟩,
           ⟨(some 314), none, .faddr 1 (.t 313)⟩,
           ⟨(some 315), none, .load none (.t 314)⟩,
           ⟨(some 316), none, .len .sl (.t 315)⟩,
           ⟨(some 317), none, .bin .lss .other false (.t 311) (.t 316)⟩])
      (.cond (.t 317) .skip
      (.exit 4)))
     (.seq (.block 5 (.seq (.reg [37] [⟨(some 320), none, .mv (.t 32)⟩,
            ⟨(some 321), none, .mv (.t 33)⟩,
            ⟨(some 322), none, .nilck (.t 321)⟩,
            ⟨(some 323), none, .faddr 1 (.t 322)⟩,
            ⟨(some 324), none, .load none (.t 323)⟩,
            ⟨(some 325), none, .mv (.t 36)⟩,
            ⟨(some 326), none, .iaddr none (.t 324) (.t 325)⟩,
            ⟨(some 327), none, .load none (.t 326)⟩,
            ⟨(some 328), none, .call (.t 320) [(.t 327)]⟩,
            ⟨(some 37), none, .mv (.t 328)⟩])
       (.seq (.reg [38] [⟨(some 38), none, .mv (.c (.int .i64 0))⟩])
       (.block 6 (.loop (.seq (.seq (.reg [332] [⟨(some 329), none, .mv (.t 38)⟩,
               ⟨(some 330), none, .mv (.t 37)⟩,
               ⟨(some 331), none, .len .sl (.t 330)⟩,
               ⟨(some 332), none, .bin .lss .other false (.t 329) (.t 331)⟩])
          (.cond (.t 332) .skip
          (.exit 6)))
         (.seq (.block 7 (.seq (.seq (.reg [338] [⟨(some 335), none, .mv (.t 35)⟩,
                 ⟨(some 336), none, .mv (.t 34)⟩,
                 ⟨(some 337), none, .len .sl (.t 336)⟩,
                 ⟨(some 338), none, .bin .geq .other false (.t 335) (.t 337)⟩])
            (.cond (.t 338) (.seq (.reg [12] [⟨(some 12), none, .mv (.c (.bool false))⟩])
              .ret)
            .skip))
           (.seq (.seq (.any [355] [(⟨(some 339), none, .mv (.t 34)⟩, true),
                 (⟨(some 340), none, .mv (.t 35)⟩, false),
                 (⟨(some 341), none, .iaddr (some 2) (.t 339) (.t 340)⟩, true),
                 (⟨(some 342), none, .load (some 2) (.t 341)⟩, true),
                 (⟨(some 343), none, .mv (.t 33)⟩, false),
                 (⟨(some 344), none, .nilck (.t 343)⟩, false),
                 (⟨(some 345), none, .faddr 1 (.t 344)⟩, false),
                 (⟨(some 346), none, .load none (.t 345)⟩, false),
                 (⟨(some 347), none, .mv (.t 36)⟩, false),
                 (⟨(some 348), none, .iaddr none (.t 346) (.t 347)⟩, false),
                 (⟨(some 349), none, .load none (.t 348)⟩, false),
                 (⟨(some 350), none, .mv (.t 37)⟩, false),
                 (⟨(some 351), none, .mv (.t 38)⟩, false),
                 (⟨(some 352), none, .iaddr none (.t 350) (.t 351)⟩, false),
                 (⟨(some 353), none, .load none (.t 352)⟩, false),
                 (⟨(some 354), none, .build [(.int .i64 0), (.str [])] [(0, 1, (.t 349)), (1, 1, (.t 353))]⟩, false),
                 (⟨(some 355), none, .bin .neq (.struct [.int, .str]) false (.t 342) (.t 354)⟩, true)])
            (.cond (.t 355) (.seq (.reg [12] [⟨(some 12), none, .mv (.c (.bool false))⟩])
              .ret)
            .skip))
           (.reg [35] [⟨(some 356), none, .mv (.t 35)⟩,
               ⟨(some 357), none, .bin .add .other true (.t 356) (.c (.int .i64 1))⟩,
               ⟨(some 35), none, .mv (.t 357)⟩]))))
         (.reg [38] [⟨(some 333), none, .mv (.t 38)⟩,
             ⟨(some 334), none, .bin .add .other true (.t 333) (.c (.int .i64 1))⟩,
             ⟨(some 38), none, .mv (.t 334)⟩]))))))))
     (.reg [36] [⟨(some 318), none, .mv (.t 36)⟩,
         ⟨(some 319), none, .bin .add .other true (.t 318) (.c (.int .i64 1))⟩,
         ⟨(some 36), none, .mv (.t 319)⟩]))))))
  (.seq (.reg [12] [⟨(some 358), none, .mv (.t 13)⟩,
       ⟨(some 359), none, .mv (.t 358)⟩,
       ⟨(some 360), (some (359, true)), .mv (.t 35)⟩,
       ⟨(some 361), (some (359, true)), .mv (.t 34)⟩,
       ⟨(some 362), (some (359, true)), .len .sl (.t 361)⟩,
       ⟨(some 363), (some (359, true)), .bin .eql .other false (.t 360) (.t 362)⟩,
       ⟨(some 364), none, .pick (.t 359) (.t 363) (.c (.bool false))⟩,
       ⟨(some 12), none, .mv (.t 364)⟩])
  .ret))))))))))))))))))))))))))))))⟩
theorem c4 : compF Tryd.prog [0, 1, 2, 3, 4, 5, 6, 8, 11, 12, 13, 14, 15, 16, 17, 18, 19, 20, 21, 22, 23, 24, 25, 26, 27, 28, 29, 30, 31, 32, 33, 34, 35, 36, 37, 38, 65, 90, 98, 108, 117, 133, 147, 151, 180, 185, 230, 240, 266, 300, 304, 317, 332, 338, 355] Tryd.f4 = some a4 := by kernel_rfl

/- bushel/bushellaw10.Few -/
def a15 : AFun := ⟨5, [.tmp 2], (.seq (.reg [1, 2] [⟨(some 1), none, .box (.t 0)⟩,
       ⟨(some 2), none, .mv (.c (.int .i64 0))⟩])
  (.seq (.reg [2] [⟨(some 3), none, .load (some 5) (.t 1)⟩,
       ⟨(some 4), none, .call (.c (.fn 38)) [(.t 3), (.c (.int .i64 5000))]⟩,
       ⟨(some 2), none, .mv (.t 4)⟩])
  .ret))⟩
theorem c15 : compF Tryd.prog [0, 1, 2] Tryd.f15 = some a15 := by kernel_rfl

/- bushel/bushellaw10.count -/
def a38 : AFun := ⟨44, [.tmp 4], (.seq (.reg [2, 4] [⟨(some 2), none, .box (.t 0)⟩,
       ⟨(some 4), none, .mv (.c (.int .i64 0))⟩])
  (.seq (.reg [1] [⟨(some 7), none, .mv (.t 1)⟩,
       ⟨(some 8), none, .bin .sub .other true (.t 7) (.c (.int .i64 1))⟩,
       ⟨(some 1), none, .mv (.t 8)⟩])
  (.seq (.seq (.reg [5] [⟨(some 5), none, .mv (.c (.int .i64 0))⟩])
   (.block 0 (.loop (.seq (.seq (.reg [13] [⟨(some 9), none, .mv (.t 5)⟩,
           ⟨(some 10), none, .faddr 3 (.t 2)⟩,
           ⟨(some 11), none, .load none (.t 10)⟩,
           ⟨(some 12), none, .len .sl (.t 11)⟩,
           ⟨(some 13), none, .bin .lss .other false (.t 9) (.t 12)⟩])
      (.cond (.t 13) .skip
      (.exit 0)))
     (.seq (.block 1 (.reg [1] [⟨(some 16), none, .mv (.t 1)⟩,
           ⟨(some 17), none, .bin .sub .other true (.t 16) (.c (.int .i64 1))⟩,
           ⟨(some 18), none, .faddr 3 (.t 2)⟩,
           ⟨(some 19), none, .load none (.t 18)⟩,
           ⟨(some 20), none, .mv (.t 5)⟩,
           ⟨(some 21), none, .iaddr none (.t 19) (.t 20)⟩,
           ⟨(some 22), none, .load none (.t 21)⟩,
           ⟨(some 23), none, .len .str (.t 22)⟩,
           ⟨(some 24), none, .bin .sub .other false (.t 17) (.t 23)⟩,
           ⟨(some 1), none, .mv (.t 24)⟩]))
     (.reg [5] [⟨(some 14), none, .mv (.t 5)⟩,
         ⟨(some 15), none, .bin .add .other true (.t 14) (.c (.int .i64 1))⟩,
         ⟨(some 5), none, .mv (.t 15)⟩]))))))
  (.seq (.seq (.reg [6] [⟨(some 6), none, .mv (.c (.int .i64 0))⟩])
   (.block 2 (.loop (.seq (.seq (.reg [33] [⟨(some 25), none, .mv (.t 6)⟩,
           ⟨(some 26), none, .faddr 2 (.t 2)⟩,
           ⟨(some 27), none, .load none (.t 26)⟩,
           ⟨(some 28), none, .len .sl (.t 27)⟩,
           ⟨(some 29), none, .bin .lss .other false (.t 25) (.t 28)⟩,
           ⟨(some 30), none, .mv (.t 29)⟩,
           ⟨(some 31), (some (30, true)), .mv (.t 1)⟩,
           ⟨(some 32), (some (30, true)), .bin .geq .other true (.t 31) (.c (.int .i64 0))⟩,
           ⟨(some 33), none, .pick (.t 30) (.t 32) (.c (.bool false))⟩])
      (.cond (.t 33) .skip
      (.exit 2)))
     (.seq (.block 3 (.reg [1] [⟨(some 36), none, .faddr 2 (.t 2)⟩,
           ⟨(some 37), none, .load none (.t 36)⟩,
           ⟨(some 38), none, .mv (.t 6)⟩,
           ⟨(some 39), none, .iaddr (some 5) (.t 37) (.t 38)⟩,
           ⟨(some 40), none, .load (some 5) (.t 39)⟩,
           ⟨(some 41), none, .mv (.t 1)⟩,
           ⟨(some 42), none, .call (.c (.fn 38)) [(.t 40), (.t 41)]⟩,
           ⟨(some 1), none, .mv (.t 42)⟩]))
     (.reg [6] [⟨(some 34), none, .mv (.t 6)⟩,
         ⟨(some 35), none, .bin .add .other true (.t 34) (.c (.int .i64 1))⟩,
         ⟨(some 6), none, .mv (.t 35)⟩]))))))
  (.seq (.reg [4] [⟨(some 43), none, .mv (.t 1)⟩,
       ⟨(some 4), none, .mv (.t 43)⟩])
  .ret)))))⟩
theorem c38 : compF Tryd.prog [0, 1, 2, 4, 5, 6, 13, 33] Tryd.f38 = some a38 := by kernel_rfl

/- bushel/bushelref10.May -/
def a16 : AFun := ⟨10, [.tmp 2], (.seq (.reg [1, 2] [⟨(some 1), none, .box (.t 0)⟩,
       ⟨(some 2), none, .mv (.c (.bool false))⟩])
  (.seq (.reg [2] [⟨(some 3), none, .load (some 5) (.t 1)⟩,
       ⟨(some 4), none, .call (.c (.fn 39)) [(.t 3)]⟩,
       ⟨(some 5), none, .mv (.t 4)⟩,
       ⟨(some 6), (some (5, true)), .load (some 5) (.t 1)⟩,
       ⟨(some 7), (some (5, true)), .call (.c (.fn 40)) [(.t 6)]⟩,
       ⟨(some 8), (some (5, true)), .bin .leq .other true (.t 7) (.c (.int .i64 4000))⟩,
       ⟨(some 9), none, .pick (.t 5) (.t 8) (.c (.bool false))⟩,
       ⟨(some 2), none, .mv (.t 9)⟩])
  .ret))⟩
theorem c16 : compF Tryd.prog [0, 1, 2] Tryd.f16 = some a16 := by kernel_rfl

/- bushel/bushelref10.fine -/
def a39 : AFun := ⟨97, [.tmp 2], (.seq (.reg [1, 2] [⟨(some 1), none, .box (.t 0)⟩,
       ⟨(some 2), none, .mv (.c (.bool false))⟩])
  (.seq (.reg [3] [⟨(some 9), none, .faddr 0 (.t 1)⟩,
       ⟨(some 10), none, .load none (.t 9)⟩,
       ⟨(some 11), none, .bin .eql .other true (.t 10) (.c (.int .i64 4))⟩,
       ⟨(some 12), none, .mv (.t 11)⟩,
       ⟨(some 13), (some (12, false)), .faddr 0 (.t 1)⟩,
       ⟨(some 14), (some (12, false)), .load none (.t 13)⟩,
       ⟨(some 15), (some (12, false)), .bin .eql .other true (.t 14) (.c (.int .i64 5))⟩,
       ⟨(some 16), none, .pick (.t 12) (.c (.bool true)) (.t 15)⟩,
       ⟨(some 3), none, .mv (.t 16)⟩])
  (.seq (.seq (.reg [44] [⟨(some 17), none, .faddr 1 (.t 1)⟩,
        ⟨(some 18), none, .load none (.t 17)⟩,
        ⟨(some 19), none, .bin .lss .other true (.t 18) (.c (.int .i64 0))⟩,
        ⟨(some 20), none, .mv (.t 19)⟩,
        ⟨(some 21), (some (20, false)), .faddr 1 (.t 1)⟩,
        ⟨(some 22), (some (20, false)), .load none (.t 21)⟩,
        ⟨(some 23), (some (20, false)), .bin .neq .other true (.t 22) (.c (.int .i64 0))⟩,
        ⟨(some 24), (some (20, false)), .mv (.t 23)⟩,
        ⟨(some 25), (some (24, true)), .faddr 0 (.t 1)⟩,
        ⟨(some 26), (some (24, true)), .load none (.t 25)⟩,
        ⟨(some 27), (some (24, true)), .bin .neq .other true (.t 26) (.c (.int .i64 7))⟩,
        ⟨(some 28), (some (20, false)), .pick (.t 24) (.t 27) (.c (.bool false))⟩,
        ⟨(some 29), none, .pick (.t 20) (.c (.bool true)) (.t 28)⟩,
        ⟨(some 30), none, .mv (.t 29)⟩,
        ⟨(some 31), (some (30, false)), .mv (.t 3)⟩,
        ⟨(some 32), (some (30, false)), .un .not (.t 31)⟩,
        ⟨(some 33), (some (30, false)), .mv (.t 32)⟩,
        ⟨(some 34), (some (33, true)), .faddr 4 (.t 1)⟩,
        ⟨(some 35), (some (33, true)), .load none (.t 34)⟩,
        ⟨(some 36), (some (33, true)), .bin .neq .other true (.t 35) (.c (.int .i64 (-1)))⟩,
        ⟨(some 37), (some (33, true)), .mv (.t 36)⟩,
        ⟨(some 38), (some (37, false)), .faddr 3 (.t 1)⟩,
        ⟨(some 39), (some (37, false)), .load none (.t 38)⟩,
        ⟨(some 40), (some (37, false)), .len .sl (.t 39)⟩,
        ⟨(some 41), (some (37, false)), .bin .gtr .other true (.t 40) (.c (.int .i64 0))⟩,
        ⟨(some 42), (some (33, true)), .pick (.t 37) (.c (.bool true)) (.t 41)⟩,
        ⟨(some 43), (some (30, false)), .pick (.t 33) (.t 42) (.c (.bool false))⟩,
        ⟨(some 44), none, .pick (.t 30) (.c (.bool true)) (.t 43)⟩])
   (.cond (.t 44) (.seq (.reg [2] [⟨(some 2), none, .mv (.c (.bool false))⟩])
     .ret)
   .skip))
  (.seq (.reg [4] [⟨(some 4), none, .mv (.c (.int .i64 0))⟩])
  (.seq (.seq (.reg [46] [⟨(some 45), none, .faddr 0 (.t 1)⟩,
        ⟨(some 46), none, .load none (.t 45)⟩])
   (.block 0 (.seq (.seq (.reg [47] [⟨(some 48), none, .bin .eql .other true (.t 46) (.c (.int .i64 1))⟩,
          ⟨(some 47), none, .mv (.t 48)⟩])
     (.cond (.t 47) .skip
     (.seq (.reg [47] [⟨(some 49), none, .bin .eql .other true (.t 46) (.c (.int .i64 2))⟩,
          ⟨(some 47), none, .mv (.t 49)⟩])
     (.cond (.t 47) .skip
     (.reg [47] [⟨(some 50), none, .bin .eql .other true (.t 46) (.c (.int .i64 7))⟩,
         ⟨(some 47), none, .mv (.t 50)⟩])))))
    (.cond (.t 47) (.reg [4] [⟨(some 4), none, .mv (.c (.int .i64 0))⟩])
    (.seq (.reg [51] [⟨(some 52), none, .bin .eql .other true (.t 46) (.c (.int .i64 6))⟩,
         ⟨(some 51), none, .mv (.t 52)⟩])
    (.cond (.t 51) (.reg [4] [⟨(some 4), none, .mv (.c (.int .i64 1))⟩])
    (.seq (.reg [53] [⟨(some 54), none, .bin .eql .other true (.t 46) (.c (.int .i64 3))⟩,
         ⟨(some 53), none, .mv (.t 54)⟩])
    (.cond (.t 53) (.reg [4] [⟨(some 4), none, .mv (.c (.int .i64 2))⟩])
    (.seq (.seq (.reg [55] [⟨(some 56), none, .bin .eql .other true (.t 46) (.c (.int .i64 4))⟩,
          ⟨(some 55), none, .mv (.t 56)⟩])
     (.cond (.t 55) .skip
     (.reg [55] [⟨(some 57), none, .bin .eql .other true (.t 46) (.c (.int .i64 5))⟩,
         ⟨(some 55), none, .mv (.t 57)⟩])))
    (.cond (.t 55) (.seq (.reg [4] [⟨(some 58), none, .faddr 3 (.t 1)⟩,
           ⟨(some 59), none, .load none (.t 58)⟩,
           ⟨(some 60), none, .len .sl (.t 59)⟩,
           ⟨(some 4), none, .mv (.t 60)⟩])
      (.seq (.reg [5] [⟨(some 61), none, .faddr 3 (.t 1)⟩,
           ⟨(some 62), none, .load none (.t 61)⟩,
           ⟨(some 63), none, .call (.c (.fn 54)) [(.t 62)]⟩,
           ⟨(some 5), none, .mv (.t 63)⟩])
      (.seq (.reg [6] [⟨(some 64), none, .faddr 3 (.t 1)⟩,
           ⟨(some 65), none, .load none (.t 64)⟩,
           ⟨(some 66), none, .call (.c (.fn 35)) [(.t 65), (.c (.str []))]⟩,
           ⟨(some 6), none, .mv (.t 66)⟩])
      (.seq (.reg [76] [⟨(some 67), none, .faddr 4 (.t 1)⟩,
           ⟨(some 68), none, .load none (.t 67)⟩,
           ⟨(some 69), none, .bin .lss .other true (.t 68) (.c (.int .i64 (-1)))⟩,
           ⟨(some 70), none, .mv (.t 69)⟩,
           ⟨(some 71), (some (70, false)), .mv (.t 5)⟩,
           ⟨(some 72), (some (70, false)), .un .not (.t 71)⟩,
           ⟨(some 73), none, .pick (.t 70) (.c (.bool true)) (.t 72)⟩,
           ⟨(some 74), none, .mv (.t 73)⟩,
           ⟨(some 75), (some (74, false)), .mv (.t 6)⟩,
           ⟨(some 76), none, .pick (.t 74) (.c (.bool true)) (.t 75)⟩])
      (.cond (.t 76) (.seq (.reg [2] [⟨(some 2), none, .mv (.c (.bool false))⟩])
        .ret)
      .skip)))))
    (.seq (.reg [2] [⟨(some 2), none, .mv (.c (.bool false))⟩])
    .ret)))))))))))
  (.seq (.seq (.reg [81] [⟨(some 77), none, .faddr 2 (.t 1)⟩,
        ⟨(some 78), none, .load none (.t 77)⟩,
        ⟨(some 79), none, .len .sl (.t 78)⟩,
        ⟨(some 80), none, .mv (.t 4)⟩,
        ⟨(some 81), none, .bin .neq .other false (.t 79) (.t 80)⟩])
   (.cond (.t 81) (.seq (.reg [2] [⟨(some 2), none, .mv (.c (.bool false))⟩])
     .ret)
   .skip))
  (.seq (.seq (.reg [7] [⟨(some 7), none, .mv (.c (.int .i64 0))⟩])
   (.block 1 (.loop (.seq (.seq (.reg [86] [⟨(some 82), none, .mv (.t 7)⟩,
           ⟨(some 83), none, .faddr 2 (.t 1)⟩,
           ⟨(some 84), none, .load none (.t 83)⟩,
           ⟨(some 85), none, .len .sl (.t 84)⟩,
           ⟨(some 86), none, .bin .lss .other false (.t 82) (.t 85)⟩])
      (.cond (.t 86) .skip
      (.exit 1)))
     (.seq (.block 2 (.seq (.reg [8] [⟨(some 89), none, .faddr 2 (.t 1)⟩,
            ⟨(some 90), none, .load none (.t 89)⟩,
            ⟨(some 91), none, .mv (.t 7)⟩,
            ⟨(some 92), none, .iaddr (some 5) (.t 90) (.t 91)⟩,
            ⟨(some 93), none, .load (some 5) (.t 92)⟩,
            ⟨(some 94), none, .call (.c (.fn 39)) [(.t 93)]⟩,
            ⟨(some 8), none, .mv (.t 94)⟩])
       (.seq (.reg [96] [⟨(some 95), none, .mv (.t 8)⟩,
            ⟨(some 96), none, .un .not (.t 95)⟩])
       (.cond (.t 96) (.seq (.reg [2] [⟨(some 2), none, .mv (.c (.bool false))⟩])
         .ret)
       .skip))))
     (.reg [7] [⟨(some 87), none, .mv (.t 7)⟩,
         ⟨(some 88), none, .bin .add .other true (.t 87) (.c (.int .i64 1))⟩,
         ⟨(some 7), none, .mv (.t 88)⟩]))))))
  (.seq (.reg [2] [⟨(some 2), none, .mv (.c (.bool true))⟩])
  .ret))))))))⟩
theorem c39 : compF Tryd.prog [0, 1, 2, 3, 4, 5, 6, 7, 8, 44, 46, 47, 51, 53, 55, 76, 81, 86, 96] Tryd.f39 = some a39 := by kernel_rfl

/- bushel/bushelref10.Nodes -/
def a40 : AFun := ⟨21, [.tmp 2], (.seq (.reg [1, 2] [⟨(some 1), none, .box (.t 0)⟩,
       ⟨(some 2), none, .mv (.c (.int .i64 0))⟩])
  (.seq (.reg [3] [⟨(some 3), none, .mv (.c (.int .i64 1))⟩])
  (.seq (.seq (.reg [4] [⟨(some 4), none, .mv (.c (.int .i64 0))⟩])
   (.block 0 (.loop (.seq (.seq (.reg [9] [⟨(some 5), none, .mv (.t 4)⟩,
           ⟨(some 6), none, .faddr 2 (.t 1)⟩,
           ⟨(some 7), none, .load none (.t 6)⟩,
           ⟨(some 8), none, .len .sl (.t 7)⟩,
           ⟨(some 9), none, .bin .lss .other false (.t 5) (.t 8)⟩])
      (.cond (.t 9) .skip
      (.exit 0)))
     (.seq (.block 1 (.reg [3] [⟨(some 12), none, .mv (.t 3)⟩,
           ⟨(some 13), none, .faddr 2 (.t 1)⟩,
           ⟨(some 14), none, .load none (.t 13)⟩,
           ⟨(some 15), none, .mv (.t 4)⟩,
           ⟨(some 16), none, .iaddr (some 5) (.t 14) (.t 15)⟩,
           ⟨(some 17), none, .load (some 5) (.t 16)⟩,
           ⟨(some 18), none, .call (.c (.fn 40)) [(.t 17)]⟩,
           ⟨(some 19), none, .bin .add .other false (.t 12) (.t 18)⟩,
           ⟨(some 3), none, .mv (.t 19)⟩]))
     (.reg [4] [⟨(some 10), none, .mv (.t 4)⟩,
         ⟨(some 11), none, .bin .add .other true (.t 10) (.c (.int .i64 1))⟩,
         ⟨(some 4), none, .mv (.t 11)⟩]))))))
  (.seq (.reg [2] [⟨(some 20), none, .mv (.t 3)⟩,
       ⟨(some 2), none, .mv (.t 20)⟩])
  .ret))))⟩
theorem c40 : compF Tryd.prog [0, 1, 2, 3, 4, 9] Tryd.f40 = some a40 := by kernel_rfl

/- bushel/bushelref08.Is -/
def a54 : AFun := ⟨20, [.tmp 2], (.seq (.reg [2] [⟨(some 2), none, .mv (.c (.bool false))⟩])
  (.seq (.seq (.reg [3] [⟨(some 3), none, .mv (.c (.int .i64 1))⟩])
   (.block 0 (.loop (.seq (.seq (.reg [7] [⟨(some 4), none, .mv (.t 3)⟩,
           ⟨(some 5), none, .mv (.t 0)⟩,
           ⟨(some 6), none, .len .sl (.t 5)⟩,
           ⟨(some 7), none, .bin .lss .other false (.t 4) (.t 6)⟩])
      (.cond (.t 7) .skip
      (.exit 0)))
     (.seq (.block 1 (.seq (.any [19] [(⟨(some 10), none, .mv (.t 0)⟩, true),
            (⟨(some 11), none, .mv (.t 3)⟩, false),
            (⟨(some 12), none, .iaddr none (.t 10) (.t 11)⟩, true),
            (⟨(some 13), none, .load none (.t 12)⟩, true),
            (⟨(some 14), none, .mv (.t 0)⟩, false),
            (⟨(some 15), none, .mv (.t 3)⟩, false),
            (⟨(some 16), none, .bin .sub .other true (.t 15) (.c (.int .i64 1))⟩, false),
            (⟨(some 17), none, .iaddr none (.t 14) (.t 16)⟩, false),
            (⟨(some 18), none, .load none (.t 17)⟩, false),
            (⟨(some 19), none, .bin .leq .other false (.t 13) (.t 18)⟩, true)])
       (.cond (.t 19) (.seq (.reg [2] [⟨(some 2), none, .mv (.c (.bool false))⟩])
         .ret)
       .skip)))
     (.reg [3] [⟨(some 8), none, .mv (.t 3)⟩,
         ⟨(some 9), none, .bin .add .other true (.t 8) (.c (.int .i64 1))⟩,
         ⟨(some 3), none, .mv (.t 9)⟩]))))))
  (.seq (.reg [2] [⟨(some 2), none, .mv (.c (.bool true))⟩])
  .ret)))⟩
theorem c54 : compF Tryd.prog [0, 2, 3, 7, 19] Tryd.f54 = some a54 := by kernel_rfl

/- bushel/evid.Term -/
def a19 : AFun := ⟨27, [.cell 2 (some 6)], (.seq (.reg [1, 2] [⟨(some 1), none, .box (.t 0)⟩,
       ⟨(some 2), none, .alloc [(.int .i64 0), (.int .i64 0), (.str []), (.str []), .snil, .snil]⟩])
  (.seq (.reg [3] [⟨(some 5), none, .faddr 0 (.t 1)⟩,
       ⟨(some 6), none, .load none (.t 5)⟩,
       ⟨(some 7), none, .build [(.int .i64 0), (.int .i64 0), (.str []), (.str []), .snil, .snil] [(0, 1, (.c (.int .i64 1))), (1, 1, (.t 6))]⟩,
       ⟨(some 3), none, .alloc [(.int .i64 0), (.int .i64 0), (.str []), (.str []), .snil, .snil]⟩,
       ⟨none, none, .store 6 (.t 3) (.t 7)⟩])
  (.seq (.seq (.reg [10] [⟨(some 8), none, .faddr 1 (.t 1)⟩,
        ⟨(some 9), none, .load none (.t 8)⟩,
        ⟨(some 10), none, .bin .lss .other true (.t 9) (.c (.int .i64 0))⟩])
   (.cond (.t 10) (.seq (.reg [] [⟨(some 11), none, .load (some 6) (.t 3)⟩,
          ⟨none, none, .store 6 (.t 2) (.t 11)⟩])
     .ret)
   .skip))
  (.seq (.reg [4] [⟨(some 12), none, .faddr 1 (.t 1)⟩,
       ⟨(some 13), none, .load none (.t 12)⟩,
       ⟨(some 14), none, .faddr 2 (.t 1)⟩,
       ⟨(some 15), none, .load none (.t 14)⟩,
       ⟨(some 16), none, .build [(.int .i64 0), (.str [])] [(0, 1, (.t 13)), (1, 1, (.t 15))]⟩,
       ⟨(some 17), none, .call (.c (.fn 18)) [(.t 16)]⟩,
       ⟨(some 18), none, .build [(.int .i64 0), (.int .i64 0), (.str []), (.str []), .snil, .snil] [(0, 1, (.c (.int .i64 3))), (2, 1, (.t 17))]⟩,
       ⟨(some 4), none, .alloc [(.int .i64 0), (.int .i64 0), (.str []), (.str []), .snil, .snil]⟩,
       ⟨none, none, .store 6 (.t 4) (.t 18)⟩])
  (.seq (.seq (.reg [21] [⟨(some 19), none, .faddr 0 (.t 1)⟩,
        ⟨(some 20), none, .load none (.t 19)⟩,
        ⟨(some 21), none, .bin .eql .other true (.t 20) (.c (.int .i64 0))⟩])
   (.cond (.t 21) (.seq (.reg [] [⟨(some 22), none, .load (some 6) (.t 4)⟩,
          ⟨none, none, .store 6 (.t 2) (.t 22)⟩])
     .ret)
   .skip))
  (.seq (.reg [] [⟨(some 23), none, .load (some 6) (.t 4)⟩,
       ⟨(some 24), none, .load (some 6) (.t 3)⟩,
       ⟨(some 25), none, .mksl (some 6) [(.t 23), (.t 24)]⟩,
       ⟨(some 26), none, .build [(.int .i64 0), (.int .i64 0), (.str []), (.str []), .snil, .snil] [(0, 1, (.c (.int .i64 16))), (2, 1, (.c (.str [43]))), (5, 1, (.t 25))]⟩,
       ⟨none, none, .store 6 (.t 2) (.t 26)⟩])
  .ret))))))⟩
theorem c19 : compF Tryd.prog [0, 1, 2, 3, 4, 10, 21] Tryd.f19 = some a19 := by kernel_rfl

/- bushel/bushellaw13.EvidTells$1 -/
def a20 : AFun := ⟨16, [.tmp 3], (.seq (.reg [3] [⟨(some 3), none, .mv (.c .snil)⟩])
  (.seq (.seq (.reg [11] [⟨(some 4), none, .mv (.t 0)⟩,
        ⟨(some 5), none, .bin .lss .other true (.t 4) (.c (.int .i64 0))⟩,
        ⟨(some 6), none, .mv (.t 5)⟩,
        ⟨(some 7), (some (6, false)), .mv (.t 0)⟩,
        ⟨(some 8), (some (6, false)), .load none (.t 1)⟩,
        ⟨(some 9), (some (6, false)), .len .sl (.t 8)⟩,
        ⟨(some 10), (some (6, false)), .bin .geq .other false (.t 7) (.t 9)⟩,
        ⟨(some 11), none, .pick (.t 6) (.c (.bool true)) (.t 10)⟩])
   (.cond (.t 11) (.seq (.reg [3] [⟨(some 3), none, .mv (.c .snil)⟩])
     .ret)
   .skip))
  (.seq (.reg [3] [⟨(some 12), none, .load none (.t 1)⟩,
       ⟨(some 13), none, .mv (.t 0)⟩,
       ⟨(some 14), none, .iaddr none (.t 12) (.t 13)⟩,
       ⟨(some 15), none, .load none (.t 14)⟩,
       ⟨(some 3), none, .mv (.t 15)⟩])
  .ret)))⟩
theorem c20 : compF Tryd.prog [0, 1, 3, 11] Tryd.f20 = some a20 := by kernel_rfl

/- (*bushel/bushelref10.Names).Meet -/
def a21 : AFun := ⟨77, [], (.seq (.reg [3] [⟨(some 3), none, .box (.t 1)⟩])
  (.seq (.seq (.any [17] [(⟨(some 5), none, .faddr 0 (.t 3)⟩, true),
        (⟨(some 6), none, .load none (.t 5)⟩, true),
        (⟨(some 7), none, .bin .eql .other true (.t 6) (.c (.int .i64 7))⟩, true),
        (⟨(some 8), none, .mv (.t 7)⟩, true),
        (⟨(some 9), (some (8, true)), .mv (.t 0)⟩, true),
        (⟨(some 10), (some (8, true)), .nilck (.t 9)⟩, true),
        (⟨(some 11), (some (8, true)), .faddr 0 (.t 10)⟩, true),
        (⟨(some 12), (some (8, true)), .load none (.t 11)⟩, true),
        (⟨(some 13), (some (8, true)), .faddr 1 (.t 3)⟩, false),
        (⟨(some 14), (some (8, true)), .load none (.t 13)⟩, false),
        (⟨(some 15), (some (8, true)), .call (.c (.fn 42)) [(.t 12), (.t 14)]⟩, true),
        (⟨(some 16), (some (8, true)), .bin .lss .other true (.t 15) (.c (.int .i64 0))⟩, true),
        (⟨(some 17), none, .pick (.t 8) (.t 16) (.c (.bool false))⟩, true)])
   (.cond (.t 17) (.any [] [(⟨(some 18), none, .mv (.t 0)⟩, true),
         (⟨(some 19), none, .mv (.t 0)⟩, false),
         (⟨(some 20), none, .nilck (.t 19)⟩, false),
         (⟨(some 21), none, .faddr 0 (.t 20)⟩, false),
         (⟨(some 22), none, .load none (.t 21)⟩, false),
         (⟨(some 23), none, .faddr 1 (.t 3)⟩, false),
         (⟨(some 24), none, .load none (.t 23)⟩, false),
         (⟨(some 25), none, .mksl none [(.t 24)]⟩, false),
         (⟨(some 26), none, .append none 8 (.t 22) (.t 25)⟩, false),
         (⟨(some 27), none, .nilck (.t 18)⟩, true),
         (⟨(some 28), none, .faddr 0 (.t 27)⟩, true),
         (⟨none, none, .store 1 (.t 28) (.t 26)⟩, true)])
   .skip))
  (.seq (.seq (.reg [4] [⟨(some 4), none, .mv (.c (.int .i64 0))⟩])
   (.block 0 (.loop (.seq (.seq (.reg [33] [⟨(some 29), none, .mv (.t 4)⟩,
           ⟨(some 30), none, .faddr 2 (.t 3)⟩,
           ⟨(some 31), none, .load none (.t 30)⟩,
           ⟨(some 32), none, .len .sl (.t 31)⟩,
           ⟨(some 33), none, .bin .lss .other false (.t 29) (.t 32)⟩])
      (.cond (.t 33) .skip
      (.exit 0)))
     (.seq (.block 1 (.reg [] [⟨(some 36), none, .mv (.t 0)⟩,
           ⟨(some 37), none, .faddr 2 (.t 3)⟩,
           ⟨(some 38), none, .load none (.t 37)⟩,
           ⟨(some 39), none, .mv (.t 4)⟩,
           ⟨(some 40), none, .iaddr (some 5) (.t 38) (.t 39)⟩,
           ⟨(some 41), none, .load (some 5) (.t 40)⟩,
           ⟨(some 42), none, .call (.c (.fn 21)) [(.t 36), (.t 41)]⟩]))
     (.reg [4] [⟨(some 34), none, .mv (.t 4)⟩,
         ⟨(some 35), none, .bin .add .other true (.t 34) (.c (.int .i64 1))⟩,
         ⟨(some 4), none, .mv (.t 35)⟩]))))))
  (.seq (.any [65] [(⟨(some 43), none, .faddr 0 (.t 3)⟩, true),
       (⟨(some 44), none, .load none (.t 43)⟩, true),
       (⟨(some 45), none, .bin .eql .other true (.t 44) (.c (.int .i64 4))⟩, true),
       (⟨(some 46), none, .mv (.t 45)⟩, true),
       (⟨(some 47), (some (46, false)), .faddr 0 (.t 3)⟩, true),
       (⟨(some 48), (some (46, false)), .load none (.t 47)⟩, true),
       (⟨(some 49), (some (46, false)), .bin .eql .other true (.t 48) (.c (.int .i64 5))⟩, true),
       (⟨(some 50), none, .pick (.t 46) (.c (.bool true)) (.t 49)⟩, true),
       (⟨(some 51), none, .mv (.t 50)⟩, true),
       (⟨(some 52), (some (51, true)), .faddr 4 (.t 3)⟩, true),
       (⟨(some 53), (some (51, true)), .load none (.t 52)⟩, true),
       (⟨(some 54), (some (51, true)), .bin .geq .other true (.t 53) (.c (.int .i64 0))⟩, true),
       (⟨(some 55), none, .pick (.t 51) (.t 54) (.c (.bool false))⟩, true),
       (⟨(some 56), none, .mv (.t 55)⟩, true),
       (⟨(some 57), (some (56, true)), .mv (.t 0)⟩, true),
       (⟨(some 58), (some (56, true)), .nilck (.t 57)⟩, true),
       (⟨(some 59), (some (56, true)), .faddr 1 (.t 58)⟩, true),
       (⟨(some 60), (some (56, true)), .load none (.t 59)⟩, true),
       (⟨(some 61), (some (56, true)), .faddr 4 (.t 3)⟩, false),
       (⟨(some 62), (some (56, true)), .load none (.t 61)⟩, false),
       (⟨(some 63), (some (56, true)), .call (.c (.fn 42)) [(.t 60), (.t 62)]⟩, true),
       (⟨(some 64), (some (56, true)), .bin .lss .other true (.t 63) (.c (.int .i64 0))⟩, true),
       (⟨(some 65), none, .pick (.t 56) (.t 64) (.c (.bool false))⟩, true)])
  (.cond (.t 65) (.any [] [(⟨(some 66), none, .mv (.t 0)⟩, true),
        (⟨(some 67), none, .mv (.t 0)⟩, false),
        (⟨(some 68), none, .nilck (.t 67)⟩, false),
        (⟨(some 69), none, .faddr 1 (.t 68)⟩, false),
        (⟨(some 70), none, .load none (.t 69)⟩, false),
        (⟨(some 71), none, .faddr 4 (.t 3)⟩, false),
        (⟨(some 72), none, .load none (.t 71)⟩, false),
        (⟨(some 73), none, .mksl none [(.t 72)]⟩, false),
        (⟨(some 74), none, .append none 8 (.t 70) (.t 73)⟩, false),
        (⟨(some 75), none, .nilck (.t 66)⟩, true),
        (⟨(some 76), none, .faddr 1 (.t 75)⟩, true),
        (⟨none, none, .store 1 (.t 76) (.t 74)⟩, true)])
  .skip)))))⟩
theorem c21 : compF Tryd.prog [0, 1, 3, 4, 17, 33, 65] Tryd.f21 = some a21 := by kernel_rfl

/- bushel/bushelref10.At -/
def a42 : AFun := ⟨19, [.tmp 4], (.seq (.reg [4] [⟨(some 4), none, .mv (.c (.int .i64 0))⟩])
  (.seq (.seq (.reg [5] [⟨(some 5), none, .mv (.c (.int .i64 0))⟩])
   (.block 0 (.loop (.seq (.seq (.reg [9] [⟨(some 6), none, .mv (.t 5)⟩,
           ⟨(some 7), none, .mv (.t 0)⟩,
           ⟨(some 8), none, .len .sl (.t 7)⟩,
           ⟨(some 9), none, .bin .lss .other false (.t 6) (.t 8)⟩])
      (.cond (.t 9) .skip
      (.exit 0)))
     (.seq (.block 1 (.seq (.reg [17] [⟨(some 12), none, .mv (.t 0)⟩,
            ⟨(some 13), none, .mv (.t 5)⟩,
            ⟨(some 14), none, .iaddr none (.t 12) (.t 13)⟩,
            ⟨(some 15), none, .load none (.t 14)⟩,
            ⟨(some 16), none, .mv (.t 1)⟩,
            ⟨(some 17), none, .bin .eql .other false (.t 15) (.t 16)⟩])
       (.cond (.t 17) (.seq (.reg [4] [⟨(some 18), none, .mv (.t 5)⟩,
              ⟨(some 4), none, .mv (.t 18)⟩])
         .ret)
       .skip)))
     (.reg [5] [⟨(some 10), none, .mv (.t 5)⟩,
         ⟨(some 11), none, .bin .add .other true (.t 10) (.c (.int .i64 1))⟩,
         ⟨(some 5), none, .mv (.t 11)⟩]))))))
  (.seq (.reg [4] [⟨(some 4), none, .mv (.c (.int .i64 (-1)))⟩])
  .ret)))⟩
theorem c42 : compF Tryd.prog [0, 1, 4, 5, 9, 17] Tryd.f42 = some a42 := by kernel_rfl

/- bushel/evid.Needs -/
def a22 : AFun := ⟨43, [.tmp 4], (.seq (.reg [2, 4] [⟨(some 2), none, .box (.t 0)⟩,
       ⟨(some 4), none, .mv (.c .snil)⟩])
  (.seq (.seq (.reg [14] [⟨(some 12), none, .load (some 5) (.t 2)⟩,
        ⟨(some 13), none, .call (.c (.fn 36)) [(.t 12)]⟩,
        ⟨(some 14), none, .un .not (.t 13)⟩])
   (.cond (.t 14) (.seq (.reg [4] [⟨(some 4), none, .mv (.c .snil)⟩])
     .ret)
   .skip))
  (.seq (.reg [5] [⟨(some 5), none, .mv (.c .snil)⟩])
  (.seq (.reg [7] [⟨(some 16), none, .load (some 5) (.t 2)⟩,
       ⟨(some 17), none, .call (.c (.fn 43)) [(.t 16)]⟩,
       ⟨(some 15), none, .mv (.t 17)⟩,
       ⟨(some 18), none, .extract (.t 15) 0⟩,
       ⟨(some 19), none, .extract (.t 15) 1⟩,
       ⟨(some 6), none, .mv (.t 18)⟩,
       ⟨(some 7), none, .mv (.t 19)⟩])
  (.seq (.seq (.reg [20, 21, 22] [⟨(some 20), none, .mv (.t 7)⟩,
        ⟨(some 21), none, .len .sl (.t 20)⟩,
        ⟨(some 22), none, .mv (.c (.int .i64 0))⟩])
   (.block 0 (.loop (.seq (.reg [23] [⟨(some 23), none, .bin .lss .other false (.t 22) (.t 21)⟩])
     (.seq (.cond (.t 23) .skip
      (.exit 0))
     (.seq (.block 1 (.seq (.reg [9] [⟨(some 24), none, .iaddr none (.t 20) (.t 22)⟩,
            ⟨(some 25), none, .load none (.t 24)⟩,
            ⟨(some 9), none, .mv (.t 25)⟩])
       (.seq (.reg [28, 29, 30] [⟨(some 26), none, .mv (.t 1)⟩,
            ⟨(some 27), none, .mv (.t 9)⟩,
            ⟨(some 28), none, .call (.t 26) [(.t 27)]⟩,
            ⟨(some 29), none, .len .sl (.t 28)⟩,
            ⟨(some 30), none, .mv (.c (.int .i64 0))⟩])
       (.block 2 (.loop (.seq (.reg [31] [⟨(some 31), none, .bin .lss .other false (.t 30) (.t 29)⟩])
         (.seq (.cond (.t 31) .skip
          (.exit 2))
         (.seq (.block 3 (.seq (.reg [11] [⟨(some 32), none, .iaddr none (.t 28) (.t 30)⟩,
                ⟨(some 33), none, .load none (.t 32)⟩,
                ⟨(some 11), none, .mv (.t 33)⟩])
           (.reg [5] [⟨(some 34), none, .mv (.t 5)⟩,
               ⟨(some 35), none, .mv (.t 9)⟩,
               ⟨(some 36), none, .mv (.t 11)⟩,
               ⟨(some 37), none, .build [(.int .i64 0), (.str [])] [(0, 1, (.t 35)), (1, 1, (.t 36))]⟩,
               ⟨(some 38), none, .mksl (some 2) [(.t 37)]⟩,
               ⟨(some 39), none, .append (some 2) 24 (.t 34) (.t 38)⟩,
               ⟨(some 5), none, .mv (.t 39)⟩])))
         (.reg [30] [⟨(some 40), none, .bin .add .other true (.t 30) (.c (.int .i64 1))⟩,
             ⟨(some 30), none, .mv (.t 40)⟩])))))))))
     (.reg [22] [⟨(some 41), none, .bin .add .other true (.t 22) (.c (.int .i64 1))⟩,
         ⟨(some 22), none, .mv (.t 41)⟩])))))))
  (.seq (.reg [4] [⟨(some 42), none, .mv (.t 5)⟩,
       ⟨(some 4), none, .mv (.t 42)⟩])
  .ret))))))⟩
theorem c22 : compF Tryd.prog [0, 1, 2, 4, 5, 7, 9, 11, 14, 20, 21, 22, 23, 28, 29, 30, 31] Tryd.f22 = some a22 := by kernel_rfl

/- bushel/typ.Vars -/
def a43 : AFun := ⟨15, [.tmp 2, .tmp 3], (.seq (.reg [1, 2, 3] [⟨(some 1), none, .box (.t 0)⟩,
       ⟨(some 2), none, .mv (.c .snil)⟩,
       ⟨(some 3), none, .mv (.c .snil)⟩])
  (.seq (.reg [4, 5] [⟨(some 4), none, .alloc [.snil]⟩,
       ⟨(some 5), none, .alloc [.snil]⟩])
  (.seq (.reg [6] [⟨(some 6), none, .mv (.c (.fn 56))⟩])
  (.seq (.any [] [(⟨(some 7), none, .load (some 5) (.t 1)⟩, true),
       (⟨(some 8), none, .mv (.t 6)⟩, false),
       (⟨(some 10), none, .mv (.t 6)⟩, false),
       (⟨(some 9), none, .call (.t 8) [(.t 4)]⟩, false),
       (⟨(some 11), none, .call (.t 10) [(.t 5)]⟩, false),
       (⟨(some 12), none, .call (.c (.fn 59)) [(.t 7), (.t 9), (.t 11)]⟩, true)])
  (.seq (.any [2, 3] [(⟨(some 13), none, .load none (.t 4)⟩, true),
       (⟨(some 14), none, .load none (.t 5)⟩, false),
       (⟨(some 2), none, .mv (.t 13)⟩, false),
       (⟨(some 3), none, .mv (.t 14)⟩, true)])
  .ret)))))⟩
theorem c43 : compF Tryd.prog [0, 1, 2, 3, 4, 5, 6] Tryd.f43 = some a43 := by kernel_rfl

/- bushel/typ.Vars$1 -/
def a56 : AFun := ⟨4, [.tmp 2], (.seq (.reg [1, 2] [⟨(some 1), none, .box (.t 0)⟩,
       ⟨(some 2), none, .mv (.c .fnil)⟩])
  (.seq (.reg [2] [⟨(some 3), none, .mkfn 57 [(.t 1)]⟩,
       ⟨(some 2), none, .mv (.t 3)⟩])
  .ret))⟩
theorem c56 : compF Tryd.prog [0, 1, 2] Tryd.f56 = some a56 := by kernel_rfl

/- bushel/typ.Vars$1$1 -/
def a57 : AFun := ⟨17, [], (.seq (.reg [8] [⟨(some 3), none, .load none (.t 1)⟩,
       ⟨(some 4), none, .nilck (.t 3)⟩,
       ⟨(some 5), none, .load none (.t 4)⟩,
       ⟨(some 6), none, .mv (.t 0)⟩,
       ⟨(some 7), none, .call (.c (.fn 58)) [(.t 5), (.t 6)]⟩,
       ⟨(some 8), none, .un .not (.t 7)⟩])
  (.cond (.t 8) (.any [] [(⟨(some 9), none, .load none (.t 1)⟩, true),
        (⟨(some 10), none, .load none (.t 1)⟩, false),
        (⟨(some 11), none, .nilck (.t 10)⟩, false),
        (⟨(some 12), none, .load none (.t 11)⟩, false),
        (⟨(some 13), none, .mv (.t 0)⟩, false),
        (⟨(some 14), none, .mksl none [(.t 13)]⟩, false),
        (⟨(some 15), none, .append none 8 (.t 12) (.t 14)⟩, false),
        (⟨(some 16), none, .nilck (.t 9)⟩, true),
        (⟨none, none, .store 1 (.t 16) (.t 15)⟩, true)])
  .skip))⟩
theorem c57 : compF Tryd.prog [0, 1, 8] Tryd.f57 = some a57 := by kernel_rfl

/- slices.Contains[[]int,int] -/
def a58 : AFun := ⟨9, [.tmp 4], (.seq (.reg [4] [⟨(some 4), none, .mv (.c (.bool false))⟩])
  (.seq (.reg [4] [⟨(some 5), none, .mv (.t 0)⟩,
       ⟨(some 6), none, .mv (.t 1)⟩,
       ⟨(some 7), none, .call (.c (.fn 78)) [(.t 5), (.t 6)]⟩,
       ⟨(some 8), none, .bin .geq .other true (.t 7) (.c (.int .i64 0))⟩,
       ⟨(some 4), none, .mv (.t 8)⟩])
  .ret))⟩
theorem c58 : compF Tryd.prog [0, 1, 4] Tryd.f58 = some a58 := by kernel_rfl

/- slices.Index[[]int,int] -/
def a78 : AFun := ⟨19, [.tmp 4], (.seq (.reg [4] [⟨(some 4), none, .mv (.c (.int .i64 0))⟩])
  (.seq (.seq (.reg [7, 8] [⟨(some 6), none, .mv (.t 0)⟩,
        ⟨(some 7), none, .len .sl (.t 6)⟩,
        ⟨(some 8), none, .mv (.c (.int .i64 0))⟩])
   (.block 0 (.loop (.seq (.reg [9] [⟨(some 9), none, .bin .lss .other false (.t 8) (.t 7)⟩])
     (.seq (.cond (.t 9) .skip
      (.exit 0))
     (.seq (.block 1 (.seq (.reg [5] [⟨(some 10), none, .mv (.t 8)⟩,
            ⟨(some 5), none, .mv (.t 10)⟩])
       (.seq (.reg [16] [⟨(some 11), none, .mv (.t 1)⟩,
            ⟨(some 12), none, .mv (.t 0)⟩,
            ⟨(some 13), none, .mv (.t 5)⟩,
            ⟨(some 14), none, .iaddr none (.t 12) (.t 13)⟩,
            ⟨(some 15), none, .load none (.t 14)⟩,
            ⟨(some 16), none, .bin .eql .other false (.t 11) (.t 15)⟩])
       (.cond (.t 16) (.seq (.reg [4] [⟨(some 17), none, .mv (.t 5)⟩,
              ⟨(some 4), none, .mv (.t 17)⟩])
         .ret)
       .skip))))
     (.reg [8] [⟨(some 18), none, .bin .add .other true (.t 8) (.c (.int .i64 1))⟩,
         ⟨(some 8), none, .mv (.t 18)⟩])))))))
  (.seq (.reg [4] [⟨(some 4), none, .mv (.c (.int .i64 (-1)))⟩])
  .ret)))⟩
theorem c78 : compF Tryd.prog [0, 1, 4, 5, 7, 8, 9, 16] Tryd.f78 = some a78 := by kernel_rfl

/- bushel/typ.each -/
def a59 : AFun := ⟨38, [], (.seq (.reg [3] [⟨(some 3), none, .box (.t 0)⟩])
  (.seq (.seq (.reg [10] [⟨(some 8), none, .faddr 0 (.t 3)⟩,
        ⟨(some 9), none, .load none (.t 8)⟩,
        ⟨(some 10), none, .bin .eql .other true (.t 9) (.c (.int .i64 7))⟩])
   (.cond (.t 10) (.reg [] [⟨(some 11), none, .mv (.t 1)⟩,
         ⟨(some 12), none, .faddr 1 (.t 3)⟩,
         ⟨(some 13), none, .load none (.t 12)⟩,
         ⟨(some 14), none, .call (.t 11) [(.t 13)]⟩])
   .skip))
  (.seq (.seq (.reg [16, 17, 18] [⟨(some 15), none, .faddr 2 (.t 3)⟩,
        ⟨(some 16), none, .load none (.t 15)⟩,
        ⟨(some 17), none, .len .sl (.t 16)⟩,
        ⟨(some 18), none, .mv (.c (.int .i64 0))⟩])
   (.block 0 (.loop (.seq (.reg [19] [⟨(some 19), none, .bin .lss .other false (.t 18) (.t 17)⟩])
     (.seq (.cond (.t 19) .skip
      (.exit 0))
     (.seq (.block 1 (.seq (.reg [7] [⟨(some 20), none, .iaddr (some 5) (.t 16) (.t 18)⟩,
            ⟨(some 21), none, .load (some 5) (.t 20)⟩,
            ⟨(some 7), none, .alloc [(.int .i64 0), (.int .i64 0), .snil, .snil, (.int .i64 0)]⟩,
            ⟨none, none, .store 5 (.t 7) (.t 21)⟩])
       (.reg [] [⟨(some 22), none, .load (some 5) (.t 7)⟩,
           ⟨(some 23), none, .mv (.t 1)⟩,
           ⟨(some 24), none, .mv (.t 2)⟩,
           ⟨(some 25), none, .call (.c (.fn 59)) [(.t 22), (.t 23), (.t 24)]⟩])))
     (.reg [18] [⟨(some 26), none, .bin .add .other true (.t 18) (.c (.int .i64 1))⟩,
         ⟨(some 18), none, .mv (.t 26)⟩])))))))
  (.seq (.reg [33] [⟨(some 27), none, .load (some 5) (.t 3)⟩,
       ⟨(some 28), none, .call (.c (.fn 67)) [(.t 27)]⟩,
       ⟨(some 29), none, .mv (.t 28)⟩,
       ⟨(some 30), (some (29, true)), .faddr 4 (.t 3)⟩,
       ⟨(some 31), (some (29, true)), .load none (.t 30)⟩,
       ⟨(some 32), (some (29, true)), .bin .geq .other true (.t 31) (.c (.int .i64 0))⟩,
       ⟨(some 33), none, .pick (.t 29) (.t 32) (.c (.bool false))⟩])
  (.cond (.t 33) (.reg [] [⟨(some 34), none, .mv (.t 2)⟩,
        ⟨(some 35), none, .faddr 4 (.t 3)⟩,
        ⟨(some 36), none, .load none (.t 35)⟩,
        ⟨(some 37), none, .call (.t 34) [(.t 36)]⟩])
  .skip)))))⟩
theorem c59 : compF Tryd.prog [0, 1, 2, 3, 7, 10, 16, 17, 18, 19, 33] Tryd.f59 = some a59 := by kernel_rfl

end Go.Proofs.YtppdghfpbliaeaaDoor
