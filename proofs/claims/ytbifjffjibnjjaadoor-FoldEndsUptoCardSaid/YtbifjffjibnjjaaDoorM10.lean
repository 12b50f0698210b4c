/-
  The bodies of functions, in the small language: printed by program, proved by the kernel's computing. (Own work.)
-/
import Derived.Test.YtbifjffjibnjjaaDoorM09
import Derived.Test.YtbifjffjibnjjaaDoorChecked
import Derived.Shelf.SlIter.Nil
import Derived.Shelf.SortM.Plain
import Derived.Shelf.SortM.SortNone
import Derived.Ground.GgzProg
import Derived.Ground.SlgmProg
import Derived.Ground.SlmpProg
import Derived.Shelf.SlMaps.Copy
import Derived.Shelf.SlGeneric
import Derived.Sort.KeysCollected
import Derived.Lib.SlMapMerge
namespace Go.Proofs.YtbifjffjibnjjaaDoor
open Go Go.Abs

def a6 : AFun := ⟨139, [.tmp 6], (.seq (.reg [3, 6] [⟨(some 3), none, .box (.t 0)⟩,
       ⟨(some 6), none, .mv (.c (.bool false))⟩])
  (.seq (.reg [7] [⟨(some 19), none, .call (.c (.fn 25)) []⟩,
       ⟨(some 7), none, .mv (.t 19)⟩])
  (.seq (.reg [8] [⟨(some 20), none, .load (some 6) (.t 3)⟩,
       ⟨(some 21), none, .call (.c (.fn 8)) [(.t 20)]⟩,
       ⟨(some 8), none, .mv (.t 21)⟩])
  (.seq (.seq (.reg [41] [⟨(some 22), none, .mv (.t 8)⟩,
        ⟨(some 23), none, .un .not (.t 22)⟩,
        ⟨(some 24), none, .mv (.t 23)⟩,
        ⟨(some 25), (some (24, false)), .load (some 6) (.t 3)⟩,
        ⟨(some 26), (some (24, false)), .call (.c (.fn 22)) [(.t 25)]⟩,
        ⟨(some 27), (some (24, false)), .bin .gtr .other true (.t 26) (.c (.int .i64 400))⟩,
        ⟨(some 28), none, .pick (.t 24) (.c (.bool true)) (.t 27)⟩,
        ⟨(some 29), none, .mv (.t 28)⟩,
        ⟨(some 30), (some (29, false)), .mv (.t 1)⟩,
        ⟨(some 31), (some (29, false)), .len .sl (.t 30)⟩,
        ⟨(some 32), (some (29, false)), .bin .gtr .other true (.t 31) (.c (.int .i64 10))⟩,
        ⟨(some 33), none, .pick (.t 29) (.c (.bool true)) (.t 32)⟩,
        ⟨(some 34), none, .mv (.t 33)⟩,
        ⟨(some 35), (some (34, false)), .mv (.t 2)⟩,
        ⟨(some 36), (some (34, false)), .bin .lss .other true (.t 35) (.c (.int .i64 0))⟩,
        ⟨(some 37), none, .pick (.t 34) (.c (.bool true)) (.t 36)⟩,
        ⟨(some 38), none, .mv (.t 37)⟩,
        ⟨(some 39), (some (38, false)), .mv (.t 2)⟩,
        ⟨(some 40), (some (38, false)), .bin .gtr .other true (.t 39) (.c (.int .i64 2000))⟩,
        ⟨(some 41), none, .pick (.t 38) (.c (.bool true)) (.t 40)⟩])
   (.cond (.t 41) (.seq (.reg [6] [⟨(some 42), none, .mv (.t 7)⟩,
          ⟨(some 6), none, .mv (.t 42)⟩])
     .ret)
   .skip))
  (.seq (.reg [9] [⟨(some 43), none, .load (some 6) (.t 3)⟩,
       ⟨(some 44), none, .call (.c (.fn 26)) [(.t 43)]⟩,
       ⟨(some 9), none, .alloc [(.int .i64 0), (.int .i64 0), (.str []), (.str []), .snil, .snil]⟩,
       ⟨none, none, .store 6 (.t 9) (.t 44)⟩])
  (.seq (.reg [10] [⟨(some 45), none, .load (some 6) (.t 3)⟩,
       ⟨(some 46), none, .call (.c (.fn 19)) [(.t 45)]⟩,
       ⟨(some 10), none, .mv (.t 46)⟩])
  (.seq (.reg [11] [⟨(some 47), none, .load (some 6) (.t 9)⟩,
       ⟨(some 48), none, .call (.c (.fn 19)) [(.t 47)]⟩,
       ⟨(some 11), none, .mv (.t 48)⟩])
  (.seq (.seq (.reg [12] [⟨(some 12), none, .mv (.c (.int .i64 0))⟩])
   (.block 0 (.loop (.seq (.seq (.reg [52] [⟨(some 49), none, .mv (.t 12)⟩,
           ⟨(some 50), none, .mv (.t 11)⟩,
           ⟨(some 51), none, .len .sl (.t 50)⟩,
           ⟨(some 52), none, .bin .lss .other false (.t 49) (.t 51)⟩])
      (.cond (.t 52) .skip
      (.exit 0)))
     (.seq (.block 1 (.seq (.reg [13] [⟨(some 55), none, .mv (.t 10)⟩,
            ⟨(some 56), none, .mv (.t 11)⟩,
            ⟨(some 57), none, .mv (.t 12)⟩,
            ⟨(some 58), none, .iaddr none (.t 56) (.t 57)⟩,
            ⟨(some 59), none, .load none (.t 58)⟩,
            ⟨(some 60), none, .call (.c (.fn 27)) [(.t 55), (.t 59)]⟩,
            ⟨(some 13), none, .mv (.t 60)⟩])
       (.seq (.reg [62] [⟨(some 61), none, .mv (.t 13)⟩,
            ⟨(some 62), none, .un .not (.t 61)⟩])
       (.cond (.t 62) (.seq (.reg [6] [⟨(some 6), none, .mv (.c (.bool false))⟩])
         .ret)
       .skip))))
     (.reg [12] [⟨(some 53), none, .mv (.t 12)⟩,
         ⟨(some 54), none, .bin .add .other true (.t 53) (.c (.int .i64 1))⟩,
         ⟨(some 12), none, .mv (.t 54)⟩]))))))
  (.seq (.reg [14] [⟨(some 63), none, .load (some 6) (.t 3)⟩,
       ⟨(some 64), none, .call (.c (.fn 28)) [(.t 63)]⟩,
       ⟨(some 14), none, .mv (.t 64)⟩])
  (.seq (.seq (.reg [71] [⟨(some 65), none, .mv (.t 14)⟩,
        ⟨(some 66), none, .un .not (.t 65)⟩,
        ⟨(some 67), none, .mv (.t 66)⟩,
        ⟨(some 68), (some (67, false)), .mv (.t 10)⟩,
        ⟨(some 69), (some (67, false)), .len .sl (.t 68)⟩,
        ⟨(some 70), (some (67, false)), .bin .gtr .other true (.t 69) (.c (.int .i64 0))⟩,
        ⟨(some 71), none, .pick (.t 67) (.c (.bool true)) (.t 70)⟩])
   (.cond (.t 71) (.seq (.reg [6] [⟨(some 72), none, .mv (.t 7)⟩,
          ⟨(some 6), none, .mv (.t 72)⟩])
     .ret)
   .skip))
  (.seq (.reg [15, 16] [⟨(some 74), none, .load (some 6) (.t 3)⟩,
       ⟨(some 75), none, .mv (.t 1)⟩,
       ⟨(some 76), none, .mv (.t 2)⟩,
       ⟨(some 77), none, .call (.c (.fn 10)) [(.t 74), (.t 75), (.t 76)]⟩,
       ⟨(some 73), none, .mv (.t 77)⟩,
       ⟨(some 78), none, .extract (.t 73) 0⟩,
       ⟨(some 79), none, .extract (.t 73) 1⟩,
       ⟨(some 15), none, .alloc [(.int .i64 0), (.int .i64 0), (.str []), .snil, .pnil, .pnil]⟩,
       ⟨(some 16), none, .alloc [(.int .i64 0), (.int .i64 0), (.str []), .snil]⟩,
       ⟨none, none, .store 6 (.t 15) (.t 78)⟩,
       ⟨none, none, .store 4 (.t 16) (.t 79)⟩])
  (.seq (.reg [17, 18] [⟨(some 81), none, .load (some 6) (.t 9)⟩,
       ⟨(some 82), none, .mv (.t 1)⟩,
       ⟨(some 83), none, .mv (.t 2)⟩,
       ⟨(some 84), none, .call (.c (.fn 10)) [(.t 81), (.t 82), (.t 83)]⟩,
       ⟨(some 80), none, .mv (.t 84)⟩,
       ⟨(some 85), none, .extract (.t 80) 0⟩,
       ⟨(some 86), none, .extract (.t 80) 1⟩,
       ⟨(some 17), none, .alloc [(.int .i64 0), (.int .i64 0), (.str []), .snil, .pnil, .pnil]⟩,
       ⟨(some 18), none, .alloc [(.int .i64 0), (.int .i64 0), (.str []), .snil]⟩,
       ⟨none, none, .store 6 (.t 17) (.t 85)⟩,
       ⟨none, none, .store 4 (.t 18) (.t 86)⟩])
  (.seq (.seq (.any [91] [(⟨(some 87), none, .load (some 6) (.t 9)⟩, true),
        (⟨(some 89), none, .load (some 6) (.t 3)⟩, false),
        (⟨(some 88), none, .call (.c (.fn 21)) [(.t 87)]⟩, false),
        (⟨(some 90), none, .call (.c (.fn 21)) [(.t 89)]⟩, true),
        (⟨(some 91), none, .bin .gtr .other false (.t 88) (.t 90)⟩, true)])
   (.cond (.t 91) (.seq (.reg [6] [⟨(some 6), none, .mv (.c (.bool false))⟩])
     .ret)
   .skip))
  (.seq (.seq (.reg [94] [⟨(some 92), none, .faddr 0 (.t 16)⟩,
        ⟨(some 93), none, .load none (.t 92)⟩,
        ⟨(some 94), none, .bin .eql .other true (.t 93) (.c (.int .i64 8))⟩])
   (.cond (.t 94) (.seq (.reg [6] [⟨(some 95), none, .mv (.t 7)⟩,
          ⟨(some 96), none, .mv (.t 95)⟩,
          ⟨(some 97), (some (96, true)), .faddr 3 (.t 18)⟩,
          ⟨(some 98), (some (96, true)), .load none (.t 97)⟩,
          ⟨(some 99), (some (96, true)), .faddr 3 (.t 16)⟩,
          ⟨(some 100), (some (96, true)), .load none (.t 99)⟩,
          ⟨(some 101), (some (96, true)), .call (.c (.fn 11)) [(.t 98), (.t 100)]⟩,
          ⟨(some 102), none, .pick (.t 96) (.t 101) (.c (.bool false))⟩,
          ⟨(some 6), none, .mv (.t 102)⟩])
     .ret)
   .skip))
  (.seq (.reg [6] [⟨(some 103), none, .mv (.t 7)⟩,
       ⟨(some 104), none, .mv (.t 103)⟩,
       ⟨(some 105), (some (104, true)), .load (some 4) (.t 16)⟩,
       ⟨(some 106), (some (104, true)), .load (some 4) (.t 18)⟩,
       ⟨(some 107), (some (104, true)), .call (.c (.fn 12)) [(.t 105), (.t 106)]⟩,
       ⟨(some 108), none, .pick (.t 104) (.t 107) (.c (.bool false))⟩,
       ⟨(some 109), none, .mv (.t 108)⟩,
       ⟨(some 110), (some (109, true)), .faddr 0 (.t 15)⟩,
       ⟨(some 111), (some (109, true)), .load none (.t 110)⟩,
       ⟨(some 112), (some (109, true)), .faddr 0 (.t 17)⟩,
       ⟨(some 113), (some (109, true)), .load none (.t 112)⟩,
       ⟨(some 114), (some (109, true)), .bin .eql .other false (.t 111) (.t 113)⟩,
       ⟨(some 115), none, .pick (.t 109) (.t 114) (.c (.bool false))⟩,
       ⟨(some 116), none, .mv (.t 115)⟩,
       ⟨(some 117), (some (116, true)), .faddr 1 (.t 15)⟩,
       ⟨(some 118), (some (116, true)), .load none (.t 117)⟩,
       ⟨(some 119), (some (116, true)), .faddr 1 (.t 17)⟩,
       ⟨(some 120), (some (116, true)), .load none (.t 119)⟩,
       ⟨(some 121), (some (116, true)), .bin .eql .other false (.t 118) (.t 120)⟩,
       ⟨(some 122), none, .pick (.t 116) (.t 121) (.c (.bool false))⟩,
       ⟨(some 123), none, .mv (.t 122)⟩,
       ⟨(some 124), (some (123, true)), .faddr 2 (.t 15)⟩,
       ⟨(some 125), (some (123, true)), .load none (.t 124)⟩,
       ⟨(some 126), (some (123, true)), .faddr 2 (.t 17)⟩,
       ⟨(some 127), (some (123, true)), .load none (.t 126)⟩,
       ⟨(some 128), (some (123, true)), .bin .eql .other false (.t 125) (.t 127)⟩,
       ⟨(some 129), none, .pick (.t 123) (.t 128) (.c (.bool false))⟩,
       ⟨(some 130), none, .mv (.t 129)⟩,
       ⟨(some 131), (some (130, true)), .faddr 3 (.t 15)⟩,
       ⟨(some 132), (some (130, true)), .load none (.t 131)⟩,
       ⟨(some 133), (some (130, true)), .len .sl (.t 132)⟩,
       ⟨(some 134), (some (130, true)), .faddr 3 (.t 17)⟩,
       ⟨(some 135), (some (130, true)), .load none (.t 134)⟩,
       ⟨(some 136), (some (130, true)), .len .sl (.t 135)⟩,
       ⟨(some 137), (some (130, true)), .bin .eql .other false (.t 133) (.t 136)⟩,
       ⟨(some 138), none, .pick (.t 130) (.t 137) (.c (.bool false))⟩,
       ⟨(some 6), none, .mv (.t 138)⟩])
  .ret)))))))))))))))⟩
theorem c6 : compF Tryd.prog [0, 1, 2, 3, 6, 7, 8, 9, 10, 11, 12, 13, 14, 15, 16, 17, 18, 41, 52, 62, 71, 91, 94] Tryd.f6 = some a6 := by kernel_rfl

def a25 : AFun := ⟨26, [.tmp 0], (.seq (.reg [0] [⟨(some 0), none, .mv (.c (.bool false))⟩])
  (.seq (.reg [1] [⟨(some 3), none, .build [(.int .i64 0), (.int .i64 0), (.str []), (.str []), .snil, .snil] [(0, 1, (.c (.int .i64 3))), (2, 1, (.c (.str [120])))]⟩,
       ⟨(some 1), none, .alloc [(.int .i64 0), (.int .i64 0), (.str []), (.str []), .snil, .snil]⟩,
       ⟨none, none, .store 6 (.t 1) (.t 3)⟩])
  (.seq (.reg [2] [⟨(some 4), none, .build [(.int .i64 0), (.int .i64 0), (.str []), (.str []), .snil, .snil] [(0, 1, (.c (.int .i64 1))), (1, 1, (.c (.int .i64 2)))]⟩,
       ⟨(some 5), none, .load (some 6) (.t 1)⟩,
       ⟨(some 6), none, .build [(.int .i64 0), (.int .i64 0), (.str []), (.str []), .snil, .snil] [(0, 1, (.c (.int .i64 1))), (1, 1, (.c (.int .i64 3)))]⟩,
       ⟨(some 7), none, .mksl (some 6) [(.t 5), (.t 6)]⟩,
       ⟨(some 8), none, .build [(.int .i64 0), (.int .i64 0), (.str []), (.str []), .snil, .snil] [(0, 1, (.c (.int .i64 16))), (2, 1, (.c (.str [43]))), (5, 1, (.t 7))]⟩,
       ⟨(some 9), none, .mksl (some 6) [(.t 4), (.t 8)]⟩,
       ⟨(some 10), none, .build [(.int .i64 0), (.int .i64 0), (.str []), (.str []), .snil, .snil] [(0, 1, (.c (.int .i64 6))), (2, 1, (.c (.str [120]))), (5, 1, (.t 9))]⟩,
       ⟨(some 11), none, .call (.c (.fn 26)) [(.t 10)]⟩,
       ⟨(some 2), none, .alloc [(.int .i64 0), (.int .i64 0), (.str []), (.str []), .snil, .snil]⟩,
       ⟨none, none, .store 6 (.t 2) (.t 11)⟩])
  (.seq (.reg [0] [⟨(some 12), none, .faddr 0 (.t 2)⟩,
       ⟨(some 13), none, .load none (.t 12)⟩,
       ⟨(some 14), none, .bin .eql .other true (.t 13) (.c (.int .i64 1))⟩,
       ⟨(some 15), none, .mv (.t 14)⟩,
       ⟨(some 16), (some (15, true)), .faddr 1 (.t 2)⟩,
       ⟨(some 17), (some (15, true)), .load none (.t 16)⟩,
       ⟨(some 18), (some (15, true)), .bin .eql .other true (.t 17) (.c (.int .i64 5))⟩,
       ⟨(some 19), none, .pick (.t 15) (.t 18) (.c (.bool false))⟩,
       ⟨(some 20), none, .mv (.t 19)⟩,
       ⟨(some 21), (some (20, true)), .load (some 6) (.t 1)⟩,
       ⟨(some 22), (some (20, true)), .call (.c (.fn 26)) [(.t 21)]⟩,
       ⟨(some 23), (some (20, true)), .field none 2 (.t 22)⟩,
       ⟨(some 24), (some (20, true)), .bin .eql .other true (.t 23) (.c (.str [120]))⟩,
       ⟨(some 25), none, .pick (.t 20) (.t 24) (.c (.bool false))⟩,
       ⟨(some 0), none, .mv (.t 25)⟩])
  .ret))))⟩
theorem c25 : compF Tryd.prog [0, 1, 2] Tryd.f25 = some a25 := by kernel_rfl

def a26 : AFun := ⟨29, [.cell 2 (some 6)], (.seq (.reg [1, 2] [⟨(some 1), none, .box (.t 0)⟩,
       ⟨(some 2), none, .alloc [(.int .i64 0), (.int .i64 0), (.str []), (.str []), .snil, .snil]⟩])
  (.seq (.reg [3] [⟨(some 6), none, .load (some 6) (.t 1)⟩,
       ⟨(some 3), none, .alloc [(.int .i64 0), (.int .i64 0), (.str []), (.str []), .snil, .snil]⟩,
       ⟨none, none, .store 6 (.t 3) (.t 6)⟩])
  (.seq (.reg [] [⟨(some 7), none, .faddr 4 (.t 1)⟩,
       ⟨(some 8), none, .load none (.t 7)⟩,
       ⟨(some 9), none, .call (.c (.fn 44)) [(.t 8)]⟩,
       ⟨(some 10), none, .faddr 4 (.t 3)⟩,
       ⟨none, none, .store 1 (.t 10) (.t 9)⟩,
       ⟨(some 11), none, .faddr 5 (.t 3)⟩,
       ⟨none, none, .store 1 (.t 11) (.c .snil)⟩])
  (.seq (.seq (.reg [13, 14, 15] [⟨(some 12), none, .faddr 5 (.t 1)⟩,
        ⟨(some 13), none, .load none (.t 12)⟩,
        ⟨(some 14), none, .len .sl (.t 13)⟩,
        ⟨(some 15), none, .mv (.c (.int .i64 0))⟩])
   (.block 0 (.loop (.seq (.reg [16] [⟨(some 16), none, .bin .lss .other false (.t 15) (.t 14)⟩])
     (.seq (.cond (.t 16) .skip
      (.exit 0))
     (.seq (.block 1 (.seq (.reg [5] [⟨(some 17), none, .iaddr (some 6) (.t 13) (.t 15)⟩,
            ⟨(some 18), none, .load (some 6) (.t 17)⟩,
            ⟨(some 5), none, .alloc [(.int .i64 0), (.int .i64 0), (.str []), (.str []), .snil, .snil]⟩,
            ⟨none, none, .store 6 (.t 5) (.t 18)⟩])
       (.any [] [(⟨(some 19), none, .faddr 5 (.t 3)⟩, true),
           (⟨(some 20), none, .load none (.t 19)⟩, true),
           (⟨(some 21), none, .load (some 6) (.t 5)⟩, false),
           (⟨(some 22), none, .call (.c (.fn 26)) [(.t 21)]⟩, false),
           (⟨(some 23), none, .mksl (some 6) [(.t 22)]⟩, false),
           (⟨(some 24), none, .append (some 6) 96 (.t 20) (.t 23)⟩, true),
           (⟨(some 25), none, .faddr 5 (.t 3)⟩, true),
           (⟨none, none, .store 1 (.t 25) (.t 24)⟩, true)])))
     (.reg [15] [⟨(some 26), none, .bin .add .other true (.t 15) (.c (.int .i64 1))⟩,
         ⟨(some 15), none, .mv (.t 26)⟩])))))))
  (.seq (.reg [] [⟨(some 27), none, .load (some 6) (.t 3)⟩,
       ⟨(some 28), none, .call (.c (.fn 45)) [(.t 27)]⟩,
       ⟨none, none, .store 6 (.t 2) (.t 28)⟩])
  .ret)))))⟩
theorem c26 : compF Tryd.prog [0, 1, 2, 3, 5, 13, 14, 15, 16] Tryd.f26 = some a26 := by kernel_rfl

def a28 : AFun := ⟨72, [.tmp 2], (.seq (.reg [1, 2] [⟨(some 1), none, .box (.t 0)⟩,
       ⟨(some 2), none, .mv (.c (.bool false))⟩])
  (.seq (.seq (.any [34] [(⟨(some 8), none, .load (some 6) (.t 1)⟩, true),
        (⟨(some 10), none, .faddr 5 (.t 1)⟩, false),
        (⟨(some 11), none, .load none (.t 10)⟩, false),
        (⟨(some 12), none, .len .sl (.t 11)⟩, false),
        (⟨(some 9), none, .call (.c (.fn 46)) [(.t 8)]⟩, false),
        (⟨(some 13), none, .bin .neq .other false (.t 9) (.t 12)⟩, true),
        (⟨(some 14), none, .mv (.t 13)⟩, true),
        (⟨(some 15), (some (14, false)), .faddr 0 (.t 1)⟩, true),
        (⟨(some 16), (some (14, false)), .load none (.t 15)⟩, true),
        (⟨(some 17), (some (14, false)), .bin .eql .other true (.t 16) (.c (.int .i64 7))⟩, true),
        (⟨(some 18), (some (14, false)), .mv (.t 17)⟩, true),
        (⟨(some 19), (some (18, true)), .faddr 2 (.t 1)⟩, true),
        (⟨(some 20), (some (18, true)), .load none (.t 19)⟩, true),
        (⟨(some 21), (some (18, true)), .bin .eql .other true (.t 20) (.c (.str []))⟩, true),
        (⟨(some 22), (some (14, false)), .pick (.t 18) (.t 21) (.c (.bool false))⟩, true),
        (⟨(some 23), none, .pick (.t 14) (.c (.bool true)) (.t 22)⟩, true),
        (⟨(some 24), none, .mv (.t 23)⟩, true),
        (⟨(some 25), (some (24, false)), .faddr 0 (.t 1)⟩, true),
        (⟨(some 26), (some (24, false)), .load none (.t 25)⟩, true),
        (⟨(some 27), (some (24, false)), .bin .eql .other true (.t 26) (.c (.int .i64 2))⟩, true),
        (⟨(some 28), (some (24, false)), .mv (.t 27)⟩, true),
        (⟨(some 29), (some (28, true)), .faddr 2 (.t 1)⟩, true),
        (⟨(some 30), (some (28, true)), .load none (.t 29)⟩, true),
        (⟨(some 31), (some (28, true)), .len .str (.t 30)⟩, true),
        (⟨(some 32), (some (28, true)), .bin .gtr .other true (.t 31) (.c (.int .i64 2000))⟩, true),
        (⟨(some 33), (some (24, false)), .pick (.t 28) (.t 32) (.c (.bool false))⟩, true),
        (⟨(some 34), none, .pick (.t 24) (.c (.bool true)) (.t 33)⟩, true)])
   (.cond (.t 34) (.seq (.reg [2] [⟨(some 2), none, .mv (.c (.bool false))⟩])
     .ret)
   .skip))
  (.seq (.seq (.reg [47] [⟨(some 35), none, .faddr 0 (.t 1)⟩,
        ⟨(some 36), none, .load none (.t 35)⟩,
        ⟨(some 37), none, .bin .eql .other true (.t 36) (.c (.int .i64 16))⟩,
        ⟨(some 38), none, .mv (.t 37)⟩,
        ⟨(some 39), (some (38, true)), .faddr 2 (.t 1)⟩,
        ⟨(some 40), (some (38, true)), .load none (.t 39)⟩,
        ⟨(some 41), (some (38, true)), .bin .neq .other true (.t 40) (.c (.str [94]))⟩,
        ⟨(some 42), none, .pick (.t 38) (.t 41) (.c (.bool false))⟩,
        ⟨(some 43), none, .mv (.t 42)⟩,
        ⟨(some 44), (some (43, true)), .faddr 2 (.t 1)⟩,
        ⟨(some 45), (some (43, true)), .load none (.t 44)⟩,
        ⟨(some 46), (some (43, true)), .bin .neq .other true (.t 45) (.c (.str [35]))⟩,
        ⟨(some 47), none, .pick (.t 43) (.t 46) (.c (.bool false))⟩])
   (.cond (.t 47) (.seq (.reg [5] [⟨(some 49), none, .faddr 2 (.t 1)⟩,
          ⟨(some 50), none, .load none (.t 49)⟩,
          ⟨(some 51), none, .call (.c (.fn 47)) [(.t 50), (.c (.int .i64 1)), (.c (.int .i64 1))]⟩,
          ⟨(some 48), none, .mv (.t 51)⟩,
          ⟨(some 52), none, .extract (.t 48) 0⟩,
          ⟨(some 53), none, .extract (.t 48) 1⟩,
          ⟨(some 54), none, .extract (.t 48) 2⟩,
          ⟨(some 3), none, .mv (.t 52)⟩,
          ⟨(some 4), none, .mv (.t 53)⟩,
          ⟨(some 5), none, .mv (.t 54)⟩])
     (.seq (.reg [56] [⟨(some 55), none, .mv (.t 5)⟩,
          ⟨(some 56), none, .un .not (.t 55)⟩])
     (.cond (.t 56) (.seq (.reg [2] [⟨(some 2), none, .mv (.c (.bool false))⟩])
       .ret)
     .skip)))
   .skip))
  (.seq (.seq (.reg [6] [⟨(some 6), none, .mv (.c (.int .i64 0))⟩])
   (.block 0 (.loop (.seq (.seq (.reg [61] [⟨(some 57), none, .mv (.t 6)⟩,
           ⟨(some 58), none, .faddr 5 (.t 1)⟩,
           ⟨(some 59), none, .load none (.t 58)⟩,
           ⟨(some 60), none, .len .sl (.t 59)⟩,
           ⟨(some 61), none, .bin .lss .other false (.t 57) (.t 60)⟩])
      (.cond (.t 61) .skip
      (.exit 0)))
     (.seq (.block 1 (.seq (.reg [7] [⟨(some 64), none, .faddr 5 (.t 1)⟩,
            ⟨(some 65), none, .load none (.t 64)⟩,
            ⟨(some 66), none, .mv (.t 6)⟩,
            ⟨(some 67), none, .iaddr (some 6) (.t 65) (.t 66)⟩,
            ⟨(some 68), none, .load (some 6) (.t 67)⟩,
            ⟨(some 69), none, .call (.c (.fn 28)) [(.t 68)]⟩,
            ⟨(some 7), none, .mv (.t 69)⟩])
       (.seq (.reg [71] [⟨(some 70), none, .mv (.t 7)⟩,
            ⟨(some 71), none, .un .not (.t 70)⟩])
       (.cond (.t 71) (.seq (.reg [2] [⟨(some 2), none, .mv (.c (.bool false))⟩])
         .ret)
       .skip))))
     (.reg [6] [⟨(some 62), none, .mv (.t 6)⟩,
         ⟨(some 63), none, .bin .add .other true (.t 62) (.c (.int .i64 1))⟩,
         ⟨(some 6), none, .mv (.t 63)⟩]))))))
  (.seq (.reg [2] [⟨(some 2), none, .mv (.c (.bool true))⟩])
  .ret)))))⟩
theorem c28 : compF Tryd.prog [0, 1, 2, 5, 6, 7, 34, 47, 56, 61, 71] Tryd.f28 = some a28 := by kernel_rfl

def a44 : AFun := ⟨8, [.tmp 2], (.seq (.reg [2] [⟨(some 2), none, .mv (.c .snil)⟩])
  (.seq (.seq (.reg [4] [⟨(some 3), none, .mv (.t 0)⟩,
        ⟨(some 4), none, .bin .eql .sl true (.t 3) (.c .snil)⟩])
   (.cond (.t 4) (.seq (.reg [2] [⟨(some 2), none, .mv (.c .snil)⟩])
     .ret)
   .skip))
  (.seq (.reg [2] [⟨(some 5), none, .mksl none []⟩,
       ⟨(some 6), none, .mv (.t 0)⟩,
       ⟨(some 7), none, .append none 16 (.t 5) (.t 6)⟩,
       ⟨(some 2), none, .mv (.t 7)⟩])
  .ret)))⟩
theorem c44 : compF Tryd.prog [0, 2, 4] Tryd.f44 = some a44 := by kernel_rfl

def a45 : AFun := ⟨160, [.cell 2 (some 6)], (.seq (.reg [1, 2] [⟨(some 1), none, .box (.t 0)⟩,
       ⟨(some 2), none, .alloc [(.int .i64 0), (.int .i64 0), (.str []), (.str []), .snil, .snil]⟩])
  (.seq (.block 0 (.seq (.reg [8] [⟨(some 9), none, .load (some 6) (.t 1)⟩,
         ⟨(some 10), none, .mksl none [(.c (.int .i64 1)), (.c (.int .i64 1))]⟩,
         ⟨(some 11), none, .call (.c (.fn 74)) [(.t 9), (.c (.int .i64 16)), (.t 10)]⟩,
         ⟨(some 12), none, .mv (.t 11)⟩,
         ⟨(some 13), (some (12, true)), .faddr 5 (.t 1)⟩,
         ⟨(some 14), (some (12, true)), .load none (.t 13)⟩,
         ⟨(some 15), (some (12, true)), .len .sl (.t 14)⟩,
         ⟨(some 16), (some (12, true)), .bin .eql .other true (.t 15) (.c (.int .i64 2))⟩,
         ⟨(some 17), none, .pick (.t 12) (.t 16) (.c (.bool false))⟩,
         ⟨(some 8), none, .mv (.t 17)⟩])
    (.cond (.t 8) (.seq (.any [3, 4] [(⟨(some 19), none, .faddr 2 (.t 1)⟩, true),
           (⟨(some 20), none, .load none (.t 19)⟩, true),
           (⟨(some 21), none, .faddr 5 (.t 1)⟩, false),
           (⟨(some 22), none, .load none (.t 21)⟩, false),
           (⟨(some 23), none, .iaddr (some 6) (.t 22) (.c (.int .i64 0))⟩, false),
           (⟨(some 24), none, .faddr 1 (.t 23)⟩, false),
           (⟨(some 25), none, .load none (.t 24)⟩, false),
           (⟨(some 26), none, .faddr 5 (.t 1)⟩, false),
           (⟨(some 27), none, .load none (.t 26)⟩, false),
           (⟨(some 28), none, .iaddr (some 6) (.t 27) (.c (.int .i64 1))⟩, false),
           (⟨(some 29), none, .faddr 1 (.t 28)⟩, false),
           (⟨(some 30), none, .load none (.t 29)⟩, false),
           (⟨(some 31), none, .call (.c (.fn 75)) [(.t 20), (.t 25), (.t 30)]⟩, true),
           (⟨(some 18), none, .mv (.t 31)⟩, true),
           (⟨(some 32), none, .extract (.t 18) 0⟩, true),
           (⟨(some 33), none, .extract (.t 18) 1⟩, false),
           (⟨(some 3), none, .mv (.t 32)⟩, false),
           (⟨(some 4), none, .mv (.t 33)⟩, true)])
      (.seq (.reg [34] [⟨(some 34), none, .mv (.t 4)⟩])
      (.cond (.t 34) (.seq (.reg [] [⟨(some 35), none, .mv (.t 3)⟩,
             ⟨(some 36), none, .call (.c (.fn 76)) [(.t 35)]⟩,
             ⟨none, none, .store 6 (.t 2) (.t 36)⟩])
        .ret)
      .skip)))
    (.seq (.reg [37] [⟨(some 38), none, .load (some 6) (.t 1)⟩,
         ⟨(some 39), none, .mksl none [(.c (.int .i64 1))]⟩,
         ⟨(some 40), none, .call (.c (.fn 74)) [(.t 38), (.c (.int .i64 15)), (.t 39)]⟩,
         ⟨(some 41), none, .mv (.t 40)⟩,
         ⟨(some 42), (some (41, true)), .faddr 5 (.t 1)⟩,
         ⟨(some 43), (some (41, true)), .load none (.t 42)⟩,
         ⟨(some 44), (some (41, true)), .len .sl (.t 43)⟩,
         ⟨(some 45), (some (41, true)), .bin .eql .other true (.t 44) (.c (.int .i64 3))⟩,
         ⟨(some 46), none, .pick (.t 41) (.t 45) (.c (.bool false))⟩,
         ⟨(some 37), none, .mv (.t 46)⟩])
    (.cond (.t 37) (.seq (.seq (.reg [52] [⟨(some 47), none, .faddr 5 (.t 1)⟩,
            ⟨(some 48), none, .load none (.t 47)⟩,
            ⟨(some 49), none, .iaddr (some 6) (.t 48) (.c (.int .i64 0))⟩,
            ⟨(some 50), none, .faddr 1 (.t 49)⟩,
            ⟨(some 51), none, .load none (.t 50)⟩,
            ⟨(some 52), none, .bin .neq .other true (.t 51) (.c (.int .i64 0))⟩])
       (.cond (.t 52) (.seq (.reg [] [⟨(some 53), none, .faddr 5 (.t 1)⟩,
              ⟨(some 54), none, .load none (.t 53)⟩,
              ⟨(some 55), none, .iaddr (some 6) (.t 54) (.c (.int .i64 1))⟩,
              ⟨(some 56), none, .load (some 6) (.t 55)⟩,
              ⟨none, none, .store 6 (.t 2) (.t 56)⟩])
         .ret)
       .skip))
      (.seq (.reg [] [⟨(some 57), none, .faddr 5 (.t 1)⟩,
           ⟨(some 58), none, .load none (.t 57)⟩,
           ⟨(some 59), none, .iaddr (some 6) (.t 58) (.c (.int .i64 2))⟩,
           ⟨(some 60), none, .load (some 6) (.t 59)⟩,
           ⟨none, none, .store 6 (.t 2) (.t 60)⟩])
      .ret))
    (.seq (.reg [61] [⟨(some 62), none, .load (some 6) (.t 1)⟩,
         ⟨(some 63), none, .mksl none [(.c (.int .i64 8)), (.c (.int .i64 1))]⟩,
         ⟨(some 64), none, .call (.c (.fn 74)) [(.t 62), (.c (.int .i64 9)), (.t 63)]⟩,
         ⟨(some 65), none, .mv (.t 64)⟩,
         ⟨(some 66), (some (65, true)), .faddr 5 (.t 1)⟩,
         ⟨(some 67), (some (65, true)), .load none (.t 66)⟩,
         ⟨(some 68), (some (65, true)), .len .sl (.t 67)⟩,
         ⟨(some 69), (some (65, true)), .bin .eql .other true (.t 68) (.c (.int .i64 2))⟩,
         ⟨(some 70), none, .pick (.t 65) (.t 69) (.c (.bool false))⟩,
         ⟨(some 61), none, .mv (.t 70)⟩])
    (.cond (.t 61) (.seq (.any [5, 6] [(⟨(some 71), none, .faddr 5 (.t 1)⟩, true),
           (⟨(some 72), none, .load none (.t 71)⟩, true),
           (⟨(some 73), none, .iaddr (some 6) (.t 72) (.c (.int .i64 0))⟩, true),
           (⟨(some 74), none, .faddr 5 (.t 73)⟩, true),
           (⟨(some 75), none, .load none (.t 74)⟩, true),
           (⟨(some 76), none, .faddr 5 (.t 1)⟩, false),
           (⟨(some 77), none, .load none (.t 76)⟩, false),
           (⟨(some 78), none, .iaddr (some 6) (.t 77) (.c (.int .i64 1))⟩, false),
           (⟨(some 79), none, .faddr 1 (.t 78)⟩, false),
           (⟨(some 80), none, .load none (.t 79)⟩, false),
           (⟨(some 5), none, .mv (.t 75)⟩, false),
           (⟨(some 6), none, .mv (.t 80)⟩, true)])
      (.seq (.reg [7] [⟨(some 7), none, .mv (.c (.fn 77))⟩])
      (.seq (.reg [94] [⟨(some 81), none, .mv (.t 6)⟩,
           ⟨(some 82), none, .bin .geq .other true (.t 81) (.c (.int .i64 0))⟩,
           ⟨(some 83), none, .mv (.t 82)⟩,
           ⟨(some 84), (some (83, true)), .mv (.t 6)⟩,
           ⟨(some 85), (some (83, true)), .mv (.t 5)⟩,
           ⟨(some 86), (some (83, true)), .len .sl (.t 85)⟩,
           ⟨(some 87), (some (83, true)), .bin .lss .other false (.t 84) (.t 86)⟩,
           ⟨(some 88), none, .pick (.t 83) (.t 87) (.c (.bool false))⟩,
           ⟨(some 89), none, .mv (.t 88)⟩,
           ⟨(some 90), (some (89, true)), .mv (.t 5)⟩,
           ⟨(some 91), (some (89, true)), .mv (.t 7)⟩,
           ⟨(some 92), (some (89, true)), .call (.c (.fn 79)) [(.t 90), (.t 91)]⟩,
           ⟨(some 93), (some (89, true)), .un .not (.t 92)⟩,
           ⟨(some 94), none, .pick (.t 89) (.t 93) (.c (.bool false))⟩])
      (.cond (.t 94) (.seq (.reg [] [⟨(some 95), none, .mv (.t 5)⟩,
             ⟨(some 96), none, .mv (.t 6)⟩,
             ⟨(some 97), none, .iaddr (some 6) (.t 95) (.t 96)⟩,
             ⟨(some 98), none, .load (some 6) (.t 97)⟩,
             ⟨none, none, .store 6 (.t 2) (.t 98)⟩])
        .ret)
      .skip))))
    (.seq (.reg [99] [⟨(some 100), none, .faddr 0 (.t 1)⟩,
         ⟨(some 101), none, .load none (.t 100)⟩,
         ⟨(some 102), none, .bin .eql .other true (.t 101) (.c (.int .i64 6))⟩,
         ⟨(some 99), none, .mv (.t 102)⟩])
    (.cond (.t 99) (.seq (.reg [] [⟨(some 103), none, .load (some 6) (.t 1)⟩,
           ⟨(some 104), none, .call (.c (.fn 80)) [(.t 103)]⟩,
           ⟨none, none, .store 6 (.t 2) (.t 104)⟩])
      .ret)
    (.seq (.reg [105] [⟨(some 106), none, .load (some 6) (.t 1)⟩,
         ⟨(some 107), none, .mksl none [(.c (.int .i64 4))]⟩,
         ⟨(some 108), none, .call (.c (.fn 74)) [(.t 106), (.c (.int .i64 5)), (.t 107)]⟩,
         ⟨(some 109), none, .mv (.t 108)⟩,
         ⟨(some 110), (some (109, true)), .faddr 5 (.t 1)⟩,
         ⟨(some 111), (some (109, true)), .load none (.t 110)⟩,
         ⟨(some 112), (some (109, true)), .len .sl (.t 111)⟩,
         ⟨(some 113), (some (109, true)), .bin .eql .other true (.t 112) (.c (.int .i64 2))⟩,
         ⟨(some 114), none, .pick (.t 109) (.t 113) (.c (.bool false))⟩,
         ⟨(some 115), none, .mv (.t 114)⟩,
         ⟨(some 116), (some (115, true)), .faddr 5 (.t 1)⟩,
         ⟨(some 117), (some (115, true)), .load none (.t 116)⟩,
         ⟨(some 118), (some (115, true)), .iaddr (some 6) (.t 117) (.c (.int .i64 0))⟩,
         ⟨(some 119), (some (115, true)), .faddr 5 (.t 118)⟩,
         ⟨(some 120), (some (115, true)), .load none (.t 119)⟩,
         ⟨(some 121), (some (115, true)), .len .sl (.t 120)⟩,
         ⟨(some 122), (some (115, true)), .bin .eql .other true (.t 121) (.c (.int .i64 1))⟩,
         ⟨(some 123), none, .pick (.t 115) (.t 122) (.c (.bool false))⟩,
         ⟨(some 124), none, .mv (.t 123)⟩,
         ⟨(some 125), (some (124, true)), .faddr 5 (.t 1)⟩,
         ⟨(some 126), (some (124, true)), .load none (.t 125)⟩,
         ⟨(some 127), (some (124, true)), .iaddr (some 6) (.t 126) (.c (.int .i64 1))⟩,
         ⟨(some 128), (some (124, true)), .faddr 0 (.t 127)⟩,
         ⟨(some 129), (some (124, true)), .load none (.t 128)⟩,
         ⟨(some 130), (some (124, true)), .bin .eql .other true (.t 129) (.c (.int .i64 1))⟩,
         ⟨(some 131), (some (124, true)), .mv (.t 130)⟩,
         ⟨(some 132), (some (131, false)), .faddr 5 (.t 1)⟩,
         ⟨(some 133), (some (131, false)), .load none (.t 132)⟩,
         ⟨(some 134), (some (131, false)), .iaddr (some 6) (.t 133) (.c (.int .i64 1))⟩,
         ⟨(some 135), (some (131, false)), .faddr 0 (.t 134)⟩,
         ⟨(some 136), (some (131, false)), .load none (.t 135)⟩,
         ⟨(some 137), (some (131, false)), .bin .eql .other true (.t 136) (.c (.int .i64 2))⟩,
         ⟨(some 138), (some (124, true)), .pick (.t 131) (.c (.bool true)) (.t 137)⟩,
         ⟨(some 139), none, .pick (.t 124) (.t 138) (.c (.bool false))⟩,
         ⟨(some 105), none, .mv (.t 139)⟩])
    (.cond (.t 105) (.seq (.any [] [(⟨(some 140), none, .faddr 5 (.t 1)⟩, true),
           (⟨(some 141), none, .load none (.t 140)⟩, true),
           (⟨(some 142), none, .iaddr (some 6) (.t 141) (.c (.int .i64 0))⟩, true),
           (⟨(some 143), none, .faddr 2 (.t 142)⟩, true),
           (⟨(some 144), none, .load none (.t 143)⟩, true),
           (⟨(some 145), none, .faddr 5 (.t 1)⟩, false),
           (⟨(some 146), none, .load none (.t 145)⟩, false),
           (⟨(some 147), none, .iaddr (some 6) (.t 146) (.c (.int .i64 1))⟩, false),
           (⟨(some 148), none, .load (some 6) (.t 147)⟩, false),
           (⟨(some 149), none, .faddr 5 (.t 1)⟩, false),
           (⟨(some 150), none, .load none (.t 149)⟩, false),
           (⟨(some 151), none, .iaddr (some 6) (.t 150) (.c (.int .i64 0))⟩, false),
           (⟨(some 152), none, .faddr 5 (.t 151)⟩, false),
           (⟨(some 153), none, .load none (.t 152)⟩, false),
           (⟨(some 154), none, .iaddr (some 6) (.t 153) (.c (.int .i64 0))⟩, false),
           (⟨(some 155), none, .load (some 6) (.t 154)⟩, false),
           (⟨(some 156), none, .mksl (some 6) [(.t 148), (.t 155)]⟩, false),
           (⟨(some 157), none, .build [(.int .i64 0), (.int .i64 0), (.str []), (.str []), .snil, .snil] [(0, 1, (.c (.int .i64 6))), (2, 1, (.t 144)), (5, 1, (.t 156))]⟩, true),
           (⟨(some 158), none, .call (.c (.fn 80)) [(.t 157)]⟩, true),
           (⟨none, none, .store 6 (.t 2) (.t 158)⟩, true)])
      .ret)
    .skip)))))))))))
  (.seq (.reg [] [⟨(some 159), none, .load (some 6) (.t 1)⟩,
       ⟨none, none, .store 6 (.t 2) (.t 159)⟩])
  .ret)))⟩
theorem c45 : compF Tryd.prog [0, 1, 2, 3, 4, 5, 6, 7, 8, 34, 37, 52, 61, 94, 99, 105] Tryd.f45 = some a45 := by kernel_rfl

def a46 : AFun := ⟨48, [.tmp 2], (.seq (.reg [1, 2] [⟨(some 1), none, .box (.t 0)⟩,
       ⟨(some 2), none, .mv (.c (.int .i64 0))⟩])
  (.seq (.seq (.reg [5] [⟨(some 4), none, .faddr 0 (.t 1)⟩,
        ⟨(some 5), none, .load none (.t 4)⟩])
   (.block 0 (.seq (.seq (.reg [6] [⟨(some 7), none, .bin .eql .other true (.t 5) (.c (.int .i64 1))⟩,
          ⟨(some 6), none, .mv (.t 7)⟩])
     (.cond (.t 6) .skip
     (.seq (.reg [6] [⟨(some 8), none, .bin .eql .other true (.t 5) (.c (.int .i64 2))⟩,
          ⟨(some 6), none, .mv (.t 8)⟩])
     (.cond (.t 6) .skip
     (.seq (.reg [6] [⟨(some 9), none, .bin .eql .other true (.t 5) (.c (.int .i64 3))⟩,
          ⟨(some 6), none, .mv (.t 9)⟩])
     (.cond (.t 6) .skip
     (.reg [6] [⟨(some 10), none, .bin .eql .other true (.t 5) (.c (.int .i64 22))⟩,
         ⟨(some 6), none, .mv (.t 10)⟩])))))))
    (.cond (.t 6) (.seq (.reg [2] [⟨(some 2), none, .mv (.c (.int .i64 0))⟩])
      .ret)
    (.seq (.seq (.reg [11] [⟨(some 12), none, .bin .eql .other true (.t 5) (.c (.int .i64 4))⟩,
          ⟨(some 11), none, .mv (.t 12)⟩])
     (.cond (.t 11) .skip
     (.seq (.reg [11] [⟨(some 13), none, .bin .eql .other true (.t 5) (.c (.int .i64 17))⟩,
          ⟨(some 11), none, .mv (.t 13)⟩])
     (.cond (.t 11) .skip
     (.seq (.reg [11] [⟨(some 14), none, .bin .eql .other true (.t 5) (.c (.int .i64 18))⟩,
          ⟨(some 11), none, .mv (.t 14)⟩])
     (.cond (.t 11) .skip
     (.seq (.reg [11] [⟨(some 15), none, .bin .eql .other true (.t 5) (.c (.int .i64 20))⟩,
          ⟨(some 11), none, .mv (.t 15)⟩])
     (.cond (.t 11) .skip
     (.reg [11] [⟨(some 16), none, .bin .eql .other true (.t 5) (.c (.int .i64 21))⟩,
         ⟨(some 11), none, .mv (.t 16)⟩])))))))))
    (.cond (.t 11) (.seq (.reg [2] [⟨(some 2), none, .mv (.c (.int .i64 1))⟩])
      .ret)
    (.seq (.seq (.reg [17] [⟨(some 18), none, .bin .eql .other true (.t 5) (.c (.int .i64 5))⟩,
          ⟨(some 17), none, .mv (.t 18)⟩])
     (.cond (.t 17) .skip
     (.seq (.reg [17] [⟨(some 19), none, .bin .eql .other true (.t 5) (.c (.int .i64 6))⟩,
          ⟨(some 17), none, .mv (.t 19)⟩])
     (.cond (.t 17) .skip
     (.seq (.reg [17] [⟨(some 20), none, .bin .eql .other true (.t 5) (.c (.int .i64 7))⟩,
          ⟨(some 17), none, .mv (.t 20)⟩])
     (.cond (.t 17) .skip
     (.seq (.reg [17] [⟨(some 21), none, .bin .eql .other true (.t 5) (.c (.int .i64 9))⟩,
          ⟨(some 17), none, .mv (.t 21)⟩])
     (.cond (.t 17) .skip
     (.seq (.reg [17] [⟨(some 22), none, .bin .eql .other true (.t 5) (.c (.int .i64 11))⟩,
          ⟨(some 17), none, .mv (.t 22)⟩])
     (.cond (.t 17) .skip
     (.seq (.reg [17] [⟨(some 23), none, .bin .eql .other true (.t 5) (.c (.int .i64 13))⟩,
          ⟨(some 17), none, .mv (.t 23)⟩])
     (.cond (.t 17) .skip
     (.seq (.reg [17] [⟨(some 24), none, .bin .eql .other true (.t 5) (.c (.int .i64 16))⟩,
          ⟨(some 17), none, .mv (.t 24)⟩])
     (.cond (.t 17) .skip
     (.reg [17] [⟨(some 25), none, .bin .eql .other true (.t 5) (.c (.int .i64 19))⟩,
         ⟨(some 17), none, .mv (.t 25)⟩])))))))))))))))
    (.cond (.t 17) (.seq (.reg [2] [⟨(some 2), none, .mv (.c (.int .i64 2))⟩])
      .ret)
    (.seq (.seq (.reg [26] [⟨(some 27), none, .bin .eql .other true (.t 5) (.c (.int .i64 10))⟩,
          ⟨(some 26), none, .mv (.t 27)⟩])
     (.cond (.t 26) .skip
     (.seq (.reg [26] [⟨(some 28), none, .bin .eql .other true (.t 5) (.c (.int .i64 12))⟩,
          ⟨(some 26), none, .mv (.t 28)⟩])
     (.cond (.t 26) .skip
     (.reg [26] [⟨(some 29), none, .bin .eql .other true (.t 5) (.c (.int .i64 15))⟩,
         ⟨(some 26), none, .mv (.t 29)⟩])))))
    (.cond (.t 26) (.seq (.reg [2] [⟨(some 2), none, .mv (.c (.int .i64 3))⟩])
      .ret)
    (.seq (.reg [30] [⟨(some 31), none, .bin .eql .other true (.t 5) (.c (.int .i64 8))⟩,
         ⟨(some 30), none, .mv (.t 31)⟩])
    (.cond (.t 30) (.seq (.reg [2] [⟨(some 32), none, .faddr 5 (.t 1)⟩,
           ⟨(some 33), none, .load none (.t 32)⟩,
           ⟨(some 34), none, .len .sl (.t 33)⟩,
           ⟨(some 2), none, .mv (.t 34)⟩])
      .ret)
    (.seq (.reg [35] [⟨(some 36), none, .bin .eql .other true (.t 5) (.c (.int .i64 14))⟩,
         ⟨(some 35), none, .mv (.t 36)⟩])
    (.cond (.t 35) (.seq (.reg [3] [⟨(some 37), none, .faddr 4 (.t 1)⟩,
           ⟨(some 38), none, .load none (.t 37)⟩,
           ⟨(some 39), none, .len .sl (.t 38)⟩,
           ⟨(some 40), none, .bin .mul .other true (.c (.int .i64 2)) (.t 39)⟩,
           ⟨(some 41), none, .bin .add .other true (.c (.int .i64 1)) (.t 40)⟩,
           ⟨(some 3), none, .mv (.t 41)⟩])
      (.seq (.seq (.reg [44] [⟨(some 42), none, .faddr 3 (.t 1)⟩,
            ⟨(some 43), none, .load none (.t 42)⟩,
            ⟨(some 44), none, .bin .neq .other true (.t 43) (.c (.str []))⟩])
       (.cond (.t 44) (.reg [3] [⟨(some 45), none, .mv (.t 3)⟩,
             ⟨(some 46), none, .bin .add .other true (.t 45) (.c (.int .i64 1))⟩,
             ⟨(some 3), none, .mv (.t 46)⟩])
       .skip))
      (.seq (.reg [2] [⟨(some 47), none, .mv (.t 3)⟩,
           ⟨(some 2), none, .mv (.t 47)⟩])
      .ret)))
    .skip))))))))))))))
  (.seq (.reg [2] [⟨(some 2), none, .mv (.c (.int .i64 (-1)))⟩])
  .ret)))⟩
theorem c46 : compF Tryd.prog [0, 1, 2, 3, 5, 6, 11, 17, 26, 30, 35, 44] Tryd.f46 = some a46 := by kernel_rfl

def a47 : AFun := ⟨45, [.tmp 6, .tmp 7, .tmp 8], (.seq (.reg [6, 7, 8] [⟨(some 6), none, .mv (.c (.int .i64 0))⟩,
       ⟨(some 7), none, .mv (.c (.int .i64 0))⟩,
       ⟨(some 8), none, .mv (.c (.bool false))⟩])
  (.seq (.reg [9] [⟨(some 9), none, .mv (.c (.int .i64 1))⟩])
  (.seq (.seq (.reg [10] [⟨(some 10), none, .mv (.t 0)⟩])
   (.block 0 (.seq (.reg [11] [⟨(some 12), none, .bin .eql .other true (.t 10) (.c (.str [43]))⟩,
         ⟨(some 11), none, .mv (.t 12)⟩])
    (.cond (.t 11) (.seq (.reg [6, 7, 8] [⟨(some 13), none, .mv (.t 1)⟩,
           ⟨(some 14), none, .mv (.t 2)⟩,
           ⟨(some 15), none, .bin .add .other false (.t 13) (.t 14)⟩,
           ⟨(some 6), none, .mv (.t 15)⟩,
           ⟨(some 7), none, .mv (.c (.int .i64 0))⟩,
           ⟨(some 8), none, .mv (.c (.bool true))⟩])
      .ret)
    (.seq (.reg [16] [⟨(some 17), none, .bin .eql .other true (.t 10) (.c (.str [45]))⟩,
         ⟨(some 16), none, .mv (.t 17)⟩])
    (.cond (.t 16) (.seq (.reg [6, 7, 8] [⟨(some 18), none, .mv (.t 1)⟩,
           ⟨(some 19), none, .mv (.t 2)⟩,
           ⟨(some 20), none, .bin .sub .other false (.t 18) (.t 19)⟩,
           ⟨(some 6), none, .mv (.t 20)⟩,
           ⟨(some 7), none, .mv (.c (.int .i64 0))⟩,
           ⟨(some 8), none, .mv (.c (.bool true))⟩])
      .ret)
    (.seq (.reg [21] [⟨(some 22), none, .bin .eql .other true (.t 10) (.c (.str [42]))⟩,
         ⟨(some 21), none, .mv (.t 22)⟩])
    (.cond (.t 21) (.seq (.reg [6, 7, 8] [⟨(some 23), none, .mv (.t 1)⟩,
           ⟨(some 24), none, .mv (.t 2)⟩,
           ⟨(some 25), none, .bin .mul .other false (.t 23) (.t 24)⟩,
           ⟨(some 6), none, .mv (.t 25)⟩,
           ⟨(some 7), none, .mv (.c (.int .i64 0))⟩,
           ⟨(some 8), none, .mv (.c (.bool true))⟩])
      .ret)
    (.seq (.reg [26] [⟨(some 27), none, .bin .eql .other true (.t 10) (.c (.str [47]))⟩,
         ⟨(some 26), none, .mv (.t 27)⟩])
    (.cond (.t 26) (.seq (.seq (.reg [29] [⟨(some 28), none, .mv (.t 2)⟩,
            ⟨(some 29), none, .bin .eql .other true (.t 28) (.c (.int .i64 0))⟩])
       (.cond (.t 29) (.seq (.reg [6, 7, 8] [⟨(some 6), none, .mv (.c (.int .i64 0))⟩,
              ⟨(some 7), none, .mv (.c (.int .i64 1))⟩,
              ⟨(some 8), none, .mv (.c (.bool true))⟩])
         .ret)
       .skip))
      (.seq (.reg [6, 7, 8] [⟨(some 30), none, .mv (.t 1)⟩,
           ⟨(some 31), none, .mv (.t 2)⟩,
           ⟨(some 32), none, .bin .quo .other false (.t 30) (.t 31)⟩,
           ⟨(some 6), none, .mv (.t 32)⟩,
           ⟨(some 7), none, .mv (.c (.int .i64 0))⟩,
           ⟨(some 8), none, .mv (.c (.bool true))⟩])
      .ret))
    (.seq (.reg [33] [⟨(some 34), none, .bin .eql .other true (.t 10) (.c (.str [60]))⟩,
         ⟨(some 33), none, .mv (.t 34)⟩])
    (.cond (.t 33) (.seq (.seq (.reg [37] [⟨(some 35), none, .mv (.t 1)⟩,
            ⟨(some 36), none, .mv (.t 2)⟩,
            ⟨(some 37), none, .bin .lss .other false (.t 35) (.t 36)⟩])
       (.cond (.t 37) (.seq (.reg [6, 7, 8] [⟨(some 38), none, .mv (.t 9)⟩,
              ⟨(some 6), none, .mv (.t 38)⟩,
              ⟨(some 7), none, .mv (.c (.int .i64 0))⟩,
              ⟨(some 8), none, .mv (.c (.bool true))⟩])
         .ret)
       .skip))
      (.seq (.reg [6, 7, 8] [⟨(some 6), none, .mv (.c (.int .i64 0))⟩,
           ⟨(some 7), none, .mv (.c (.int .i64 0))⟩,
           ⟨(some 8), none, .mv (.c (.bool true))⟩])
      .ret))
    (.seq (.reg [39] [⟨(some 40), none, .bin .eql .other true (.t 10) (.c (.str [61, 61]))⟩,
         ⟨(some 39), none, .mv (.t 40)⟩])
    (.cond (.t 39) (.seq (.seq (.reg [43] [⟨(some 41), none, .mv (.t 1)⟩,
            ⟨(some 42), none, .mv (.t 2)⟩,
            ⟨(some 43), none, .bin .eql .other false (.t 41) (.t 42)⟩])
       (.cond (.t 43) (.seq (.reg [6, 7, 8] [⟨(some 44), none, .mv (.t 9)⟩,
              ⟨(some 6), none, .mv (.t 44)⟩,
              ⟨(some 7), none, .mv (.c (.int .i64 0))⟩,
              ⟨(some 8), none, .mv (.c (.bool true))⟩])
         .ret)
       .skip))
      (.seq (.reg [6, 7, 8] [⟨(some 6), none, .mv (.c (.int .i64 0))⟩,
           ⟨(some 7), none, .mv (.c (.int .i64 0))⟩,
           ⟨(some 8), none, .mv (.c (.bool true))⟩])
      .ret))
    .skip))))))))))))))
  (.seq (.reg [6, 7, 8] [⟨(some 6), none, .mv (.c (.int .i64 0))⟩,
       ⟨(some 7), none, .mv (.c (.int .i64 0))⟩,
       ⟨(some 8), none, .mv (.c (.bool false))⟩])
  .ret))))⟩
theorem c47 : compF Tryd.prog [0, 1, 2, 6, 7, 8, 9, 10, 11, 16, 21, 26, 29, 33, 37, 39, 43] Tryd.f47 = some a47 := by kernel_rfl

def a74 : AFun := ⟨41, [.tmp 6], (.seq (.reg [3, 6] [⟨(some 3), none, .box (.t 0)⟩,
       ⟨(some 6), none, .mv (.c (.bool false))⟩])
  (.seq (.seq (.reg [20] [⟨(some 9), none, .faddr 0 (.t 3)⟩,
        ⟨(some 10), none, .load none (.t 9)⟩,
        ⟨(some 11), none, .mv (.t 1)⟩,
        ⟨(some 12), none, .bin .neq .other false (.t 10) (.t 11)⟩,
        ⟨(some 13), none, .mv (.t 12)⟩,
        ⟨(some 14), (some (13, false)), .faddr 5 (.t 3)⟩,
        ⟨(some 15), (some (13, false)), .load none (.t 14)⟩,
        ⟨(some 16), (some (13, false)), .len .sl (.t 15)⟩,
        ⟨(some 17), (some (13, false)), .mv (.t 2)⟩,
        ⟨(some 18), (some (13, false)), .len .sl (.t 17)⟩,
        ⟨(some 19), (some (13, false)), .bin .lss .other false (.t 16) (.t 18)⟩,
        ⟨(some 20), none, .pick (.t 13) (.c (.bool true)) (.t 19)⟩])
   (.cond (.t 20) (.seq (.reg [6] [⟨(some 6), none, .mv (.c (.bool false))⟩])
     .ret)
   .skip))
  (.seq (.seq (.reg [21, 22, 23] [⟨(some 21), none, .mv (.t 2)⟩,
        ⟨(some 22), none, .len .sl (.t 21)⟩,
        ⟨(some 23), none, .mv (.c (.int .i64 0))⟩])
   (.block 0 (.loop (.seq (.reg [24] [⟨(some 24), none, .bin .lss .other false (.t 23) (.t 22)⟩])
     (.seq (.cond (.t 24) .skip
      (.exit 0))
     (.seq (.block 1 (.seq (.reg [7, 8] [⟨(some 25), none, .mv (.t 23)⟩,
            ⟨(some 26), none, .iaddr none (.t 21) (.t 23)⟩,
            ⟨(some 27), none, .load none (.t 26)⟩,
            ⟨(some 7), none, .mv (.t 25)⟩,
            ⟨(some 8), none, .mv (.t 27)⟩])
       (.seq (.reg [39] [⟨(some 28), none, .mv (.t 8)⟩,
            ⟨(some 29), none, .bin .neq .other true (.t 28) (.c (.int .i64 0))⟩,
            ⟨(some 30), none, .mv (.t 29)⟩,
            ⟨(some 31), (some (30, true)), .faddr 5 (.t 3)⟩,
            ⟨(some 32), (some (30, true)), .load none (.t 31)⟩,
            ⟨(some 33), (some (30, true)), .mv (.t 7)⟩,
            ⟨(some 34), (some (30, true)), .iaddr (some 6) (.t 32) (.t 33)⟩,
            ⟨(some 35), (some (30, true)), .faddr 0 (.t 34)⟩,
            ⟨(some 36), (some (30, true)), .load none (.t 35)⟩,
            ⟨(some 37), (some (30, true)), .mv (.t 8)⟩,
            ⟨(some 38), (some (30, true)), .bin .neq .other false (.t 36) (.t 37)⟩,
            ⟨(some 39), none, .pick (.t 30) (.t 38) (.c (.bool false))⟩])
       (.cond (.t 39) (.seq (.reg [6] [⟨(some 6), none, .mv (.c (.bool false))⟩])
         .ret)
       .skip))))
     (.reg [23] [⟨(some 40), none, .bin .add .other true (.t 23) (.c (.int .i64 1))⟩,
         ⟨(some 23), none, .mv (.t 40)⟩])))))))
  (.seq (.reg [6] [⟨(some 6), none, .mv (.c (.bool true))⟩])
  .ret))))⟩
theorem c74 : compF Tryd.prog [0, 1, 2, 3, 6, 7, 8, 20, 21, 22, 23, 24, 39] Tryd.f74 = some a74 := by kernel_rfl

def a75 : AFun := ⟨50, [.tmp 6, .tmp 7], (.seq (.reg [6, 7] [⟨(some 6), none, .mv (.c (.int .i64 0))⟩,
       ⟨(some 7), none, .mv (.c (.bool false))⟩])
  (.seq (.reg [8] [⟨(some 8), none, .mv (.c (.fn 98))⟩])
  (.seq (.seq (.reg [9] [⟨(some 9), none, .mv (.t 0)⟩])
   (.block 0 (.seq (.reg [10] [⟨(some 11), none, .bin .eql .other true (.t 9) (.c (.str [43]))⟩,
         ⟨(some 10), none, .mv (.t 11)⟩])
    (.cond (.t 10) (.seq (.reg [6, 7] [⟨(some 12), none, .mv (.t 1)⟩,
           ⟨(some 13), none, .mv (.t 2)⟩,
           ⟨(some 14), none, .bin .add .other false (.t 12) (.t 13)⟩,
           ⟨(some 6), none, .mv (.t 14)⟩,
           ⟨(some 7), none, .mv (.c (.bool true))⟩])
      .ret)
    (.seq (.reg [15] [⟨(some 16), none, .bin .eql .other true (.t 9) (.c (.str [45]))⟩,
         ⟨(some 15), none, .mv (.t 16)⟩])
    (.cond (.t 15) (.seq (.reg [6, 7] [⟨(some 17), none, .mv (.t 1)⟩,
           ⟨(some 18), none, .mv (.t 2)⟩,
           ⟨(some 19), none, .bin .sub .other false (.t 17) (.t 18)⟩,
           ⟨(some 6), none, .mv (.t 19)⟩,
           ⟨(some 7), none, .mv (.c (.bool true))⟩])
      .ret)
    (.seq (.reg [20] [⟨(some 21), none, .bin .eql .other true (.t 9) (.c (.str [42]))⟩,
         ⟨(some 20), none, .mv (.t 21)⟩])
    (.cond (.t 20) (.seq (.reg [6, 7] [⟨(some 22), none, .mv (.t 1)⟩,
           ⟨(some 23), none, .mv (.t 2)⟩,
           ⟨(some 24), none, .bin .mul .other false (.t 22) (.t 23)⟩,
           ⟨(some 6), none, .mv (.t 24)⟩,
           ⟨(some 7), none, .mv (.c (.bool true))⟩])
      .ret)
    (.seq (.reg [25] [⟨(some 26), none, .bin .eql .other true (.t 9) (.c (.str [47]))⟩,
         ⟨(some 25), none, .mv (.t 26)⟩])
    (.cond (.t 25) (.seq (.reg [28] [⟨(some 27), none, .mv (.t 2)⟩,
           ⟨(some 28), none, .bin .neq .other true (.t 27) (.c (.int .i64 0))⟩])
      (.cond (.t 28) (.seq (.reg [6, 7] [⟨(some 29), none, .mv (.t 1)⟩,
             ⟨(some 30), none, .mv (.t 2)⟩,
             ⟨(some 31), none, .bin .quo .other false (.t 29) (.t 30)⟩,
             ⟨(some 6), none, .mv (.t 31)⟩,
             ⟨(some 7), none, .mv (.c (.bool true))⟩])
        .ret)
      .skip))
    (.seq (.reg [32] [⟨(some 33), none, .bin .eql .other true (.t 9) (.c (.str [60]))⟩,
         ⟨(some 32), none, .mv (.t 33)⟩])
    (.cond (.t 32) (.seq (.reg [6, 7] [⟨(some 34), none, .mv (.t 8)⟩,
           ⟨(some 35), none, .mv (.t 1)⟩,
           ⟨(some 36), none, .mv (.t 2)⟩,
           ⟨(some 37), none, .bin .lss .other false (.t 35) (.t 36)⟩,
           ⟨(some 38), none, .call (.t 34) [(.t 37)]⟩,
           ⟨(some 39), none, .extract (.t 38) 0⟩,
           ⟨(some 40), none, .extract (.t 38) 1⟩,
           ⟨(some 6), none, .mv (.t 39)⟩,
           ⟨(some 7), none, .mv (.t 40)⟩])
      .ret)
    (.seq (.reg [41] [⟨(some 42), none, .bin .eql .other true (.t 9) (.c (.str [61, 61]))⟩,
         ⟨(some 41), none, .mv (.t 42)⟩])
    (.cond (.t 41) (.seq (.reg [6, 7] [⟨(some 43), none, .mv (.t 8)⟩,
           ⟨(some 44), none, .mv (.t 1)⟩,
           ⟨(some 45), none, .mv (.t 2)⟩,
           ⟨(some 46), none, .bin .eql .other false (.t 44) (.t 45)⟩,
           ⟨(some 47), none, .call (.t 43) [(.t 46)]⟩,
           ⟨(some 48), none, .extract (.t 47) 0⟩,
           ⟨(some 49), none, .extract (.t 47) 1⟩,
           ⟨(some 6), none, .mv (.t 48)⟩,
           ⟨(some 7), none, .mv (.t 49)⟩])
      .ret)
    .skip))))))))))))))
  (.seq (.reg [6, 7] [⟨(some 6), none, .mv (.c (.int .i64 0))⟩,
       ⟨(some 7), none, .mv (.c (.bool false))⟩])
  .ret))))⟩
theorem c75 : compF Tryd.prog [0, 1, 2, 6, 7, 8, 9, 10, 15, 20, 25, 28, 32, 41] Tryd.f75 = some a75 := by kernel_rfl

def a76 : AFun := ⟨5, [.cell 2 (some 6)], (.seq (.reg [2] [⟨(some 2), none, .alloc [(.int .i64 0), (.int .i64 0), (.str []), (.str []), .snil, .snil]⟩])
  (.seq (.reg [] [⟨(some 3), none, .mv (.t 0)⟩,
       ⟨(some 4), none, .build [(.int .i64 0), (.int .i64 0), (.str []), (.str []), .snil, .snil] [(0, 1, (.c (.int .i64 1))), (1, 1, (.t 3))]⟩,
       ⟨none, none, .store 6 (.t 2) (.t 4)⟩])
  .ret))⟩
theorem c76 : compF Tryd.prog [0, 2] Tryd.f76 = some a76 := by kernel_rfl

def a77 : AFun := ⟨6, [.tmp 2], (.seq (.reg [1, 2] [⟨(some 1), none, .box (.t 0)⟩,
       ⟨(some 2), none, .mv (.c (.bool false))⟩])
  (.seq (.reg [2] [⟨(some 3), none, .load (some 6) (.t 1)⟩,
       ⟨(some 4), none, .call (.c (.fn 78)) [(.t 3)]⟩,
       ⟨(some 5), none, .un .not (.t 4)⟩,
       ⟨(some 2), none, .mv (.t 5)⟩])
  .ret))⟩
theorem c77 : compF Tryd.prog [0, 1, 2] Tryd.f77 = some a77 := by kernel_rfl

def a78 : AFun := ⟨21, [.tmp 2], (.seq (.reg [1, 2] [⟨(some 1), none, .box (.t 0)⟩,
       ⟨(some 2), none, .mv (.c (.bool false))⟩])
  (.seq (.reg [2] [⟨(some 3), none, .faddr 0 (.t 1)⟩,
       ⟨(some 4), none, .load none (.t 3)⟩,
       ⟨(some 5), none, .bin .eql .other true (.t 4) (.c (.int .i64 1))⟩,
       ⟨(some 6), none, .mv (.t 5)⟩,
       ⟨(some 7), (some (6, false)), .faddr 0 (.t 1)⟩,
       ⟨(some 8), (some (6, false)), .load none (.t 7)⟩,
       ⟨(some 9), (some (6, false)), .bin .eql .other true (.t 8) (.c (.int .i64 2))⟩,
       ⟨(some 10), none, .pick (.t 6) (.c (.bool true)) (.t 9)⟩,
       ⟨(some 11), none, .mv (.t 10)⟩,
       ⟨(some 12), (some (11, false)), .faddr 0 (.t 1)⟩,
       ⟨(some 13), (some (11, false)), .load none (.t 12)⟩,
       ⟨(some 14), (some (11, false)), .bin .eql .other true (.t 13) (.c (.int .i64 4))⟩,
       ⟨(some 15), none, .pick (.t 11) (.c (.bool true)) (.t 14)⟩,
       ⟨(some 16), none, .mv (.t 15)⟩,
       ⟨(some 17), (some (16, false)), .faddr 0 (.t 1)⟩,
       ⟨(some 18), (some (16, false)), .load none (.t 17)⟩,
       ⟨(some 19), (some (16, false)), .bin .eql .other true (.t 18) (.c (.int .i64 3))⟩,
       ⟨(some 20), none, .pick (.t 16) (.c (.bool true)) (.t 19)⟩,
       ⟨(some 2), none, .mv (.t 20)⟩])
  .ret))⟩
theorem c78 : compF Tryd.prog [0, 1, 2] Tryd.f78 = some a78 := by kernel_rfl

def a79 : AFun := ⟨9, [.tmp 4], (.seq (.reg [4] [⟨(some 4), none, .mv (.c (.bool false))⟩])
  (.seq (.reg [4] [⟨(some 5), none, .mv (.t 0)⟩,
       ⟨(some 6), none, .mv (.t 1)⟩,
       ⟨(some 7), none, .call (.c (.fn 99)) [(.t 5), (.t 6)]⟩,
       ⟨(some 8), none, .bin .geq .other true (.t 7) (.c (.int .i64 0))⟩,
       ⟨(some 4), none, .mv (.t 8)⟩])
  .ret))⟩
theorem c79 : compF Tryd.prog [0, 1, 4] Tryd.f79 = some a79 := by kernel_rfl

def a80 : AFun := ⟨51, [.cell 2 (some 6)], (.seq (.reg [1, 2] [⟨(some 1), none, .box (.t 0)⟩,
       ⟨(some 2), none, .alloc [(.int .i64 0), (.int .i64 0), (.str []), (.str []), .snil, .snil]⟩])
  (.seq (.block 0 (.seq (.reg [3] [⟨(some 4), none, .faddr 5 (.t 1)⟩,
         ⟨(some 5), none, .load none (.t 4)⟩,
         ⟨(some 6), none, .len .sl (.t 5)⟩,
         ⟨(some 7), none, .bin .neq .other true (.t 6) (.c (.int .i64 2))⟩,
         ⟨(some 3), none, .mv (.t 7)⟩])
    (.cond (.t 3) (.seq (.reg [] [⟨(some 8), none, .load (some 6) (.t 1)⟩,
           ⟨none, none, .store 6 (.t 2) (.t 8)⟩])
      .ret)
    (.seq (.any [9] [(⟨(some 10), none, .faddr 5 (.t 1)⟩, true),
         (⟨(some 11), none, .load none (.t 10)⟩, true),
         (⟨(some 12), none, .iaddr (some 6) (.t 11) (.c (.int .i64 0))⟩, true),
         (⟨(some 13), none, .load (some 6) (.t 12)⟩, true),
         (⟨(some 14), none, .call (.c (.fn 78)) [(.t 13)]⟩, true),
         (⟨(some 15), none, .mv (.t 14)⟩, true),
         (⟨(some 16), (some (15, true)), .faddr 5 (.t 1)⟩, true),
         (⟨(some 17), (some (15, true)), .load none (.t 16)⟩, true),
         (⟨(some 18), (some (15, true)), .iaddr (some 6) (.t 17) (.c (.int .i64 1))⟩, true),
         (⟨(some 19), (some (15, true)), .load (some 6) (.t 18)⟩, true),
         (⟨(some 21), (some (15, true)), .faddr 2 (.t 1)⟩, false),
         (⟨(some 22), (some (15, true)), .load none (.t 21)⟩, false),
         (⟨(some 20), (some (15, true)), .call (.c (.fn 19)) [(.t 19)]⟩, false),
         (⟨(some 23), (some (15, true)), .call (.c (.fn 100)) [(.t 20), (.t 22)]⟩, true),
         (⟨(some 24), (some (15, true)), .un .not (.t 23)⟩, true),
         (⟨(some 25), none, .pick (.t 15) (.t 24) (.c (.bool false))⟩, true),
         (⟨(some 9), none, .mv (.t 25)⟩, true)])
    (.cond (.t 9) (.seq (.reg [] [⟨(some 26), none, .faddr 5 (.t 1)⟩,
           ⟨(some 27), none, .load none (.t 26)⟩,
           ⟨(some 28), none, .iaddr (some 6) (.t 27) (.c (.int .i64 1))⟩,
           ⟨(some 29), none, .load (some 6) (.t 28)⟩,
           ⟨none, none, .store 6 (.t 2) (.t 29)⟩])
      .ret)
    (.seq (.reg [30] [⟨(some 31), none, .faddr 5 (.t 1)⟩,
         ⟨(some 32), none, .load none (.t 31)⟩,
         ⟨(some 33), none, .iaddr (some 6) (.t 32) (.c (.int .i64 0))⟩,
         ⟨(some 34), none, .faddr 0 (.t 33)⟩,
         ⟨(some 35), none, .load none (.t 34)⟩,
         ⟨(some 36), none, .bin .eql .other true (.t 35) (.c (.int .i64 1))⟩,
         ⟨(some 30), none, .mv (.t 36)⟩])
    (.cond (.t 30) (.seq (.any [] [(⟨(some 37), none, .faddr 5 (.t 1)⟩, true),
           (⟨(some 38), none, .load none (.t 37)⟩, true),
           (⟨(some 39), none, .iaddr (some 6) (.t 38) (.c (.int .i64 1))⟩, true),
           (⟨(some 40), none, .load (some 6) (.t 39)⟩, true),
           (⟨(some 41), none, .faddr 2 (.t 1)⟩, false),
           (⟨(some 42), none, .load none (.t 41)⟩, false),
           (⟨(some 43), none, .faddr 5 (.t 1)⟩, false),
           (⟨(some 44), none, .load none (.t 43)⟩, false),
           (⟨(some 45), none, .iaddr (some 6) (.t 44) (.c (.int .i64 0))⟩, false),
           (⟨(some 46), none, .faddr 1 (.t 45)⟩, false),
           (⟨(some 47), none, .load none (.t 46)⟩, false),
           (⟨(some 48), none, .call (.c (.fn 101)) [(.t 40), (.t 42), (.t 47)]⟩, true),
           (⟨(some 49), none, .call (.c (.fn 26)) [(.t 48)]⟩, true),
           (⟨none, none, .store 6 (.t 2) (.t 49)⟩, true)])
      .ret)
    .skip)))))))
  (.seq (.reg [] [⟨(some 50), none, .load (some 6) (.t 1)⟩,
       ⟨none, none, .store 6 (.t 2) (.t 50)⟩])
  .ret)))⟩
theorem c80 : compF Tryd.prog [0, 1, 2, 3, 9, 30] Tryd.f80 = some a80 := by kernel_rfl

def a85 : AFun := ⟨19, [.tmp 4], (.seq (.reg [4] [⟨(some 4), none, .mv (.c (.int .i64 0))⟩])
  (.seq (.seq (.reg [7, 8] [⟨(some 6), none, .mv (.t 0)⟩,
        ⟨(some 7), none, .len .sl (.t 6)⟩,
        ⟨(some 8), none, .mv (.c (.int .i64 0))⟩])
   (.block 0 (.loop (.seq (.reg [9] [⟨(some 9), none, .bin .lss .other false (.t 8) (.t 7)⟩])
     (.seq (.cond (.t 9) .skip
      (.exit 0))
     (.seq (.block 1 (.seq (.reg [5] [⟨(some 10), none, .mv (.t 8)⟩,
            ⟨(some 5), none, .mv (.t 10)⟩])
       (.seq (.reg [16] [⟨(some 11), none, .mv (.t 1)⟩,
            ⟨(some 12), none, .mv (.t 0)⟩,
            ⟨(some 13), none, .mv (.t 5)⟩,
            ⟨(some 14), none, .iaddr none (.t 12) (.t 13)⟩,
            ⟨(some 15), none, .load none (.t 14)⟩,
            ⟨(some 16), none, .bin .eql .other false (.t 11) (.t 15)⟩])
       (.cond (.t 16) (.seq (.reg [4] [⟨(some 17), none, .mv (.t 5)⟩,
              ⟨(some 4), none, .mv (.t 17)⟩])
         .ret)
       .skip))))
     (.reg [8] [⟨(some 18), none, .bin .add .other true (.t 8) (.c (.int .i64 1))⟩,
         ⟨(some 8), none, .mv (.t 18)⟩])))))))
  (.seq (.reg [4] [⟨(some 4), none, .mv (.c (.int .i64 (-1)))⟩])
  .ret)))⟩
theorem c85 : compF Tryd.prog [0, 1, 4, 5, 7, 8, 9, 16] Tryd.f85 = some a85 := by kernel_rfl

def a98 : AFun := ⟨5, [.tmp 2, .tmp 3], (.seq (.reg [2, 3] [⟨(some 2), none, .mv (.c (.int .i64 0))⟩,
       ⟨(some 3), none, .mv (.c (.bool false))⟩])
  (.seq (.seq (.reg [4] [⟨(some 4), none, .mv (.t 0)⟩])
   (.cond (.t 4) (.seq (.reg [2, 3] [⟨(some 2), none, .mv (.c (.int .i64 1))⟩,
          ⟨(some 3), none, .mv (.c (.bool true))⟩])
     .ret)
   .skip))
  (.seq (.reg [2, 3] [⟨(some 2), none, .mv (.c (.int .i64 0))⟩,
       ⟨(some 3), none, .mv (.c (.bool true))⟩])
  .ret)))⟩
theorem c98 : compF Tryd.prog [0, 2, 3, 4] Tryd.f98 = some a98 := by kernel_rfl

def a99 : AFun := ⟨19, [.tmp 4], (.seq (.reg [4] [⟨(some 4), none, .mv (.c (.int .i64 0))⟩])
  (.seq (.seq (.reg [7, 8] [⟨(some 6), none, .mv (.t 0)⟩,
        ⟨(some 7), none, .len .sl (.t 6)⟩,
        ⟨(some 8), none, .mv (.c (.int .i64 0))⟩])
   (.block 0 (.loop (.seq (.reg [9] [⟨(some 9), none, .bin .lss .other false (.t 8) (.t 7)⟩])
     (.seq (.cond (.t 9) .skip
      (.exit 0))
     (.seq (.block 1 (.seq (.reg [5] [⟨(some 10), none, .mv (.t 8)⟩,
            ⟨(some 5), none, .mv (.t 10)⟩])
       (.seq (.reg [16] [⟨(some 11), none, .mv (.t 1)⟩,
            ⟨(some 12), none, .mv (.t 0)⟩,
            ⟨(some 13), none, .mv (.t 5)⟩,
            ⟨(some 14), none, .iaddr (some 6) (.t 12) (.t 13)⟩,
            ⟨(some 15), none, .load (some 6) (.t 14)⟩,
            ⟨(some 16), none, .call (.t 11) [(.t 15)]⟩])
       (.cond (.t 16) (.seq (.reg [4] [⟨(some 17), none, .mv (.t 5)⟩,
              ⟨(some 4), none, .mv (.t 17)⟩])
         .ret)
       .skip))))
     (.reg [8] [⟨(some 18), none, .bin .add .other true (.t 8) (.c (.int .i64 1))⟩,
         ⟨(some 8), none, .mv (.t 18)⟩])))))))
  (.seq (.reg [4] [⟨(some 4), none, .mv (.c (.int .i64 (-1)))⟩])
  .ret)))⟩
theorem c99 : compF Tryd.prog [0, 1, 4, 5, 7, 8, 9, 16] Tryd.f99 = some a99 := by kernel_rfl

def a100 : AFun := ⟨9, [.tmp 4], (.seq (.reg [4] [⟨(some 4), none, .mv (.c (.bool false))⟩])
  (.seq (.reg [4] [⟨(some 5), none, .mv (.t 0)⟩,
       ⟨(some 6), none, .mv (.t 1)⟩,
       ⟨(some 7), none, .call (.c (.fn 85)) [(.t 5), (.t 6)]⟩,
       ⟨(some 8), none, .bin .geq .other true (.t 7) (.c (.int .i64 0))⟩,
       ⟨(some 4), none, .mv (.t 8)⟩])
  .ret))⟩
theorem c100 : compF Tryd.prog [0, 1, 4] Tryd.f100 = some a100 := by kernel_rfl

def a101 : AFun := ⟨48, [.cell 6 (some 6)], (.seq (.reg [3, 6] [⟨(some 3), none, .box (.t 0)⟩,
       ⟨(some 6), none, .alloc [(.int .i64 0), (.int .i64 0), (.str []), (.str []), .snil, .snil]⟩])
  (.seq (.seq (.reg [18] [⟨(some 10), none, .faddr 0 (.t 3)⟩,
        ⟨(some 11), none, .load none (.t 10)⟩,
        ⟨(some 12), none, .bin .eql .other true (.t 11) (.c (.int .i64 3))⟩,
        ⟨(some 13), none, .mv (.t 12)⟩,
        ⟨(some 14), (some (13, true)), .faddr 2 (.t 3)⟩,
        ⟨(some 15), (some (13, true)), .load none (.t 14)⟩,
        ⟨(some 16), (some (13, true)), .mv (.t 1)⟩,
        ⟨(some 17), (some (13, true)), .bin .eql .other false (.t 15) (.t 16)⟩,
        ⟨(some 18), none, .pick (.t 13) (.t 17) (.c (.bool false))⟩])
   (.cond (.t 18) (.seq (.reg [] [⟨(some 19), none, .mv (.t 2)⟩,
          ⟨(some 20), none, .call (.c (.fn 76)) [(.t 19)]⟩,
          ⟨none, none, .store 6 (.t 6) (.t 20)⟩])
     .ret)
   .skip))
  (.seq (.reg [7] [⟨(some 21), none, .load (some 6) (.t 3)⟩,
       ⟨(some 7), none, .alloc [(.int .i64 0), (.int .i64 0), (.str []), (.str []), .snil, .snil]⟩,
       ⟨none, none, .store 6 (.t 7) (.t 21)⟩])
  (.seq (.reg [] [⟨(some 22), none, .faddr 5 (.t 7)⟩,
       ⟨none, none, .store 1 (.t 22) (.c .snil)⟩])
  (.seq (.seq (.reg [24, 25, 26] [⟨(some 23), none, .faddr 5 (.t 3)⟩,
        ⟨(some 24), none, .load none (.t 23)⟩,
        ⟨(some 25), none, .len .sl (.t 24)⟩,
        ⟨(some 26), none, .mv (.c (.int .i64 0))⟩])
   (.block 0 (.loop (.seq (.reg [27] [⟨(some 27), none, .bin .lss .other false (.t 26) (.t 25)⟩])
     (.seq (.cond (.t 27) .skip
      (.exit 0))
     (.seq (.block 1 (.seq (.reg [9, 8] [⟨(some 28), none, .mv (.t 26)⟩,
            ⟨(some 29), none, .iaddr (some 6) (.t 24) (.t 26)⟩,
            ⟨(some 30), none, .load (some 6) (.t 29)⟩,
            ⟨(some 9), none, .alloc [(.int .i64 0), (.int .i64 0), (.str []), (.str []), .snil, .snil]⟩,
            ⟨(some 8), none, .mv (.t 28)⟩,
            ⟨none, none, .store 6 (.t 9) (.t 30)⟩])
       (.seq (.seq (.reg [35] [⟨(some 31), none, .load (some 6) (.t 3)⟩,
             ⟨(some 32), none, .mv (.t 8)⟩,
             ⟨(some 33), none, .mv (.t 1)⟩,
             ⟨(some 34), none, .call (.c (.fn 123)) [(.t 31), (.t 32), (.t 33)]⟩,
             ⟨(some 35), none, .un .not (.t 34)⟩])
        (.cond (.t 35) (.reg [] [⟨(some 36), none, .load (some 6) (.t 9)⟩,
              ⟨(some 37), none, .mv (.t 1)⟩,
              ⟨(some 38), none, .mv (.t 2)⟩,
              ⟨(some 39), none, .call (.c (.fn 101)) [(.t 36), (.t 37), (.t 38)]⟩,
              ⟨none, none, .store 6 (.t 9) (.t 39)⟩])
        .skip))
       (.reg [] [⟨(some 40), none, .faddr 5 (.t 7)⟩,
           ⟨(some 41), none, .load none (.t 40)⟩,
           ⟨(some 42), none, .load (some 6) (.t 9)⟩,
           ⟨(some 43), none, .mksl (some 6) [(.t 42)]⟩,
           ⟨(some 44), none, .append (some 6) 96 (.t 41) (.t 43)⟩,
           ⟨(some 45), none, .faddr 5 (.t 7)⟩,
           ⟨none, none, .store 1 (.t 45) (.t 44)⟩]))))
     (.reg [26] [⟨(some 46), none, .bin .add .other true (.t 26) (.c (.int .i64 1))⟩,
         ⟨(some 26), none, .mv (.t 46)⟩])))))))
  (.seq (.reg [] [⟨(some 47), none, .load (some 6) (.t 7)⟩,
       ⟨none, none, .store 6 (.t 6) (.t 47)⟩])
  .ret))))))⟩
theorem c101 : compF Tryd.prog [0, 1, 2, 3, 6, 7, 8, 9, 18, 24, 25, 26, 27, 35] Tryd.f101 = some a101 := by kernel_rfl

def a123 : AFun := ⟨84, [.tmp 6], (.seq (.reg [3, 6] [⟨(some 3), none, .box (.t 0)⟩,
       ⟨(some 6), none, .mv (.c (.bool false))⟩])
  (.seq (.seq (.reg [8] [⟨(some 7), none, .faddr 0 (.t 3)⟩,
        ⟨(some 8), none, .load none (.t 7)⟩])
   (.block 0 (.seq (.reg [9] [⟨(some 10), none, .bin .eql .other true (.t 8) (.c (.int .i64 4))⟩,
         ⟨(some 9), none, .mv (.t 10)⟩])
    (.cond (.t 9) (.seq (.reg [6] [⟨(some 11), none, .mv (.t 1)⟩,
           ⟨(some 12), none, .bin .eql .other true (.t 11) (.c (.int .i64 0))⟩,
           ⟨(some 13), none, .mv (.t 12)⟩,
           ⟨(some 14), (some (13, true)), .faddr 2 (.t 3)⟩,
           ⟨(some 15), (some (13, true)), .load none (.t 14)⟩,
           ⟨(some 16), (some (13, true)), .mv (.t 2)⟩,
           ⟨(some 17), (some (13, true)), .bin .eql .other false (.t 15) (.t 16)⟩,
           ⟨(some 18), none, .pick (.t 13) (.t 17) (.c (.bool false))⟩,
           ⟨(some 6), none, .mv (.t 18)⟩])
      .ret)
    (.seq (.reg [19] [⟨(some 20), none, .bin .eql .other true (.t 8) (.c (.int .i64 6))⟩,
         ⟨(some 19), none, .mv (.t 20)⟩])
    (.cond (.t 19) (.seq (.reg [6] [⟨(some 21), none, .mv (.t 1)⟩,
           ⟨(some 22), none, .bin .eql .other true (.t 21) (.c (.int .i64 1))⟩,
           ⟨(some 23), none, .mv (.t 22)⟩,
           ⟨(some 24), (some (23, true)), .faddr 2 (.t 3)⟩,
           ⟨(some 25), (some (23, true)), .load none (.t 24)⟩,
           ⟨(some 26), (some (23, true)), .mv (.t 2)⟩,
           ⟨(some 27), (some (23, true)), .bin .eql .other false (.t 25) (.t 26)⟩,
           ⟨(some 28), none, .pick (.t 23) (.t 27) (.c (.bool false))⟩,
           ⟨(some 6), none, .mv (.t 28)⟩])
      .ret)
    (.seq (.reg [29] [⟨(some 30), none, .bin .eql .other true (.t 8) (.c (.int .i64 7))⟩,
         ⟨(some 29), none, .mv (.t 30)⟩])
    (.cond (.t 29) (.seq (.reg [6] [⟨(some 31), none, .mv (.t 1)⟩,
           ⟨(some 32), none, .bin .lss .other true (.t 31) (.c (.int .i64 2))⟩,
           ⟨(some 33), none, .mv (.t 32)⟩,
           ⟨(some 34), (some (33, true)), .faddr 2 (.t 3)⟩,
           ⟨(some 35), (some (33, true)), .load none (.t 34)⟩,
           ⟨(some 36), (some (33, true)), .mv (.t 2)⟩,
           ⟨(some 37), (some (33, true)), .bin .eql .other false (.t 35) (.t 36)⟩,
           ⟨(some 38), none, .pick (.t 33) (.t 37) (.c (.bool false))⟩,
           ⟨(some 39), none, .mv (.t 38)⟩,
           ⟨(some 40), (some (39, false)), .mv (.t 1)⟩,
           ⟨(some 41), (some (39, false)), .bin .eql .other true (.t 40) (.c (.int .i64 0))⟩,
           ⟨(some 42), (some (39, false)), .mv (.t 41)⟩,
           ⟨(some 43), (some (42, true)), .faddr 3 (.t 3)⟩,
           ⟨(some 44), (some (42, true)), .load none (.t 43)⟩,
           ⟨(some 45), (some (42, true)), .mv (.t 2)⟩,
           ⟨(some 46), (some (42, true)), .bin .eql .other false (.t 44) (.t 45)⟩,
           ⟨(some 47), (some (39, false)), .pick (.t 42) (.t 46) (.c (.bool false))⟩,
           ⟨(some 48), none, .pick (.t 39) (.c (.bool true)) (.t 47)⟩,
           ⟨(some 6), none, .mv (.t 48)⟩])
      .ret)
    (.seq (.reg [49] [⟨(some 50), none, .bin .eql .other true (.t 8) (.c (.int .i64 14))⟩,
         ⟨(some 49), none, .mv (.t 50)⟩])
    (.cond (.t 49) (.seq (.seq (.reg [61] [⟨(some 51), none, .mv (.t 1)⟩,
            ⟨(some 52), none, .bin .gtr .other true (.t 51) (.c (.int .i64 0))⟩,
            ⟨(some 53), none, .mv (.t 52)⟩,
            ⟨(some 54), (some (53, true)), .mv (.t 1)⟩,
            ⟨(some 55), (some (53, true)), .bin .sub .other true (.t 54) (.c (.int .i64 1))⟩,
            ⟨(some 56), (some (53, true)), .bin .quo .other true (.t 55) (.c (.int .i64 2))⟩,
            ⟨(some 57), (some (53, true)), .faddr 4 (.t 3)⟩,
            ⟨(some 58), (some (53, true)), .load none (.t 57)⟩,
            ⟨(some 59), (some (53, true)), .len .sl (.t 58)⟩,
            ⟨(some 60), (some (53, true)), .bin .lss .other false (.t 56) (.t 59)⟩,
            ⟨(some 61), none, .pick (.t 53) (.t 60) (.c (.bool false))⟩])
       (.cond (.t 61) (.seq (.reg [6] [⟨(some 62), none, .mv (.t 1)⟩,
              ⟨(some 63), none, .bin .rem .other true (.t 62) (.c (.int .i64 2))⟩,
              ⟨(some 64), none, .bin .eql .other true (.t 63) (.c (.int .i64 0))⟩,
              ⟨(some 65), none, .mv (.t 64)⟩,
              ⟨(some 66), (some (65, true)), .faddr 4 (.t 3)⟩,
              ⟨(some 67), (some (65, true)), .load none (.t 66)⟩,
              ⟨(some 68), (some (65, true)), .mv (.t 1)⟩,
              ⟨(some 69), (some (65, true)), .bin .sub .other true (.t 68) (.c (.int .i64 1))⟩,
              ⟨(some 70), (some (65, true)), .bin .quo .other true (.t 69) (.c (.int .i64 2))⟩,
              ⟨(some 71), (some (65, true)), .iaddr none (.t 67) (.t 70)⟩,
              ⟨(some 72), (some (65, true)), .load none (.t 71)⟩,
              ⟨(some 73), (some (65, true)), .mv (.t 2)⟩,
              ⟨(some 74), (some (65, true)), .bin .eql .other false (.t 72) (.t 73)⟩,
              ⟨(some 75), none, .pick (.t 65) (.t 74) (.c (.bool false))⟩,
              ⟨(some 6), none, .mv (.t 75)⟩])
         .ret)
       .skip))
      (.seq (.reg [6] [⟨(some 76), none, .mv (.t 1)⟩,
           ⟨(some 77), none, .bin .gtr .other true (.t 76) (.c (.int .i64 0))⟩,
           ⟨(some 78), none, .mv (.t 77)⟩,
           ⟨(some 79), (some (78, true)), .faddr 3 (.t 3)⟩,
           ⟨(some 80), (some (78, true)), .load none (.t 79)⟩,
           ⟨(some 81), (some (78, true)), .mv (.t 2)⟩,
           ⟨(some 82), (some (78, true)), .bin .eql .other false (.t 80) (.t 81)⟩,
           ⟨(some 83), none, .pick (.t 78) (.t 82) (.c (.bool false))⟩,
           ⟨(some 6), none, .mv (.t 83)⟩])
      .ret))
    .skip))))))))))
  (.seq (.reg [6] [⟨(some 6), none, .mv (.c (.bool false))⟩])
  .ret)))⟩
theorem c123 : compF Tryd.prog [0, 1, 2, 3, 6, 8, 9, 19, 29, 49, 61] Tryd.f123 = some a123 := by kernel_rfl

end Go.Proofs.YtbifjffjibnjjaaDoor

/-
  Folding, walked: its small functions. (Own work.)
-/
set_option linter.unusedVariables false
set_option linter.unusedSimpArgs false
set_option maxHeartbeats 1000000
namespace Go.Proofs.YtbifjffjibnjjaaDoor
open Go Go.Abs

theorem k_Plain {e : Co} {σ : Sg} : ACalls Tryd.prog 78 [.v (encC e)] σ fun r σ' => r = .v (.bool (plainC e)) ∧ σ' = σ := by
  obtain ⟨k, n, s, t, ns, l⟩ := e
  rw [encC_mk]
  refine acalls_fit Tryd.func78 (by kernel_rfl) c78 rfl (by simp [a78]) fun hf => ?_
  clear hf
  by_cases h1 : k = 1
  · simp -implicitDefEqProofs (maxSteps := 2000000) (disch := omega) [-getElem?_pos, a78, h1]
    exact .fin _ ⟨by simp [plainC, knd], rfl⟩ (.refl _)
  by_cases h2 : k = 2
  · simp -implicitDefEqProofs (maxSteps := 2000000) (disch := omega) [-getElem?_pos, a78, h2]
    exact .fin _ ⟨by simp [plainC, knd], rfl⟩ (.refl _)
  by_cases h4 : k = 4
  · simp -implicitDefEqProofs (maxSteps := 2000000) (disch := omega) [-getElem?_pos, a78, h4]
    exact .fin _ ⟨by simp [plainC, knd], rfl⟩ (.refl _)
  simp -implicitDefEqProofs (maxSteps := 2000000) (disch := omega) [-getElem?_pos, a78, h1, h2, h4]
  exact .fin _ ⟨by simp [plainC, knd, h1, h2, h4], rfl⟩ (.refl _)
theorem k_Number {n : Int} {σ : Sg} : ACalls Tryd.prog 76 [.v (.int .i64 n)] σ fun r σ' => r = .v (encC (num n)) ∧ σ' = σ := by
  refine acalls_fit Tryd.func76 (by kernel_rfl) c76 rfl (by simp [a76]) fun hf => ?_
  clear hf
  simp -implicitDefEqProofs (maxSteps := 2000000) (disch := omega) [-getElem?_pos, a76]
  exact .fin (.v (encC (num n))) ⟨rfl, rfl⟩ le_coInt.d
theorem k_Op1 {b : Bool} {σ : Sg} : ACalls Tryd.prog 98 [.v (.bool b)] σ fun r σ' => r = .tup [.v (.int .i64 (flagC b)), .v (.bool true)] ∧ σ' = σ := by
  refine acalls_fit Tryd.func98 (by kernel_rfl) c98 rfl (by simp [a98]) fun hf => ?_
  clear hf
  cases b with
  | true =>
    simp -implicitDefEqProofs (maxSteps := 2000000) (disch := omega) [-getElem?_pos, a98]
    exact .fin _ ⟨rfl, rfl⟩ (.refl _)
  | false =>
    simp -implicitDefEqProofs (maxSteps := 2000000) (disch := omega) [-getElem?_pos, a98]
    exact .fin _ ⟨rfl, rfl⟩ (.refl _)
def opD (o : Option Int) : D := .tup [.v (.int .i64 (o.getD 0)), .v (.bool o.isSome)]
theorem k_FOp {s : Str} {a b : Int} {σ : Sg} : ACalls Tryd.prog 75 [.v (.str s), .v (.int .i64 a), .v (.int .i64 b)] σ fun r σ' => r = opD (opC s a b) ∧ σ' = σ := by
  refine acalls_fit Tryd.func75 (by kernel_rfl) c75 rfl (by simp [a75]) fun hf => ?_
  clear hf
  simp -implicitDefEqProofs (maxSteps := 2000000) (disch := omega) [-getElem?_pos, a75]
  refine .mk (fun hs => ?_) fun hs => ?_
  · subst hs
    simp -implicitDefEqProofs (maxSteps := 2000000) (disch := omega) [-getElem?_pos]
    exact .fin _ ⟨by simp [opC, opD], rfl⟩ (.refl _)
  simp -implicitDefEqProofs (maxSteps := 2000000) (disch := omega) [-getElem?_pos]
  refine .mk (fun hs2 => ?_) fun hs2 => ?_
  · subst hs2
    simp -implicitDefEqProofs (maxSteps := 2000000) (disch := omega) [-getElem?_pos]
    exact .fin _ ⟨by simp [opC, opD], rfl⟩ (.refl _)
  simp -implicitDefEqProofs (maxSteps := 2000000) (disch := omega) [-getElem?_pos]
  refine .mk (fun hs3 => ?_) fun hs3 => ?_
  · subst hs3
    simp -implicitDefEqProofs (maxSteps := 2000000) (disch := omega) [-getElem?_pos]
    exact .fin _ ⟨by simp [opC, opD], rfl⟩ (.refl _)
  simp -implicitDefEqProofs (maxSteps := 2000000) (disch := omega) [-getElem?_pos]
  refine .mk (fun hs4 => ?_) fun hs4 => ?_
  · subst hs4
    simp -implicitDefEqProofs (maxSteps := 2000000) (disch := omega) [-getElem?_pos]
    refine .mk (fun hb => ?_) fun hb => ?_
    · simp -implicitDefEqProofs (maxSteps := 2000000) (disch := omega) [-getElem?_pos]
      exact .fin _ ⟨by simp [opC, opD, hb], rfl⟩ (.refl _)
    · simp -implicitDefEqProofs (maxSteps := 2000000) (disch := omega) [-getElem?_pos]
      exact ⟨hb, .fin _ ⟨by simp [opC, opD, hb], rfl⟩ (.refl _)⟩
  simp -implicitDefEqProofs (maxSteps := 2000000) (disch := omega) [-getElem?_pos]
  refine .mk (fun hs5 => ?_) fun hs5 => ?_
  · subst hs5
    simp -implicitDefEqProofs (maxSteps := 2000000) (disch := omega) [-getElem?_pos]
    refine k_Op1.then fun r hr => ?_
    subst hr
    simp -implicitDefEqProofs (maxSteps := 2000000) (disch := omega) [-getElem?_pos]
    exact .fin _ ⟨by simp [opC, opD], rfl⟩ (.refl _)
  simp -implicitDefEqProofs (maxSteps := 2000000) (disch := omega) [-getElem?_pos]
  refine .mk (fun hs6 => ?_) fun hs6 => ?_
  · subst hs6
    simp -implicitDefEqProofs (maxSteps := 2000000) (disch := omega) [-getElem?_pos]
    refine k_Op1.then fun r hr => ?_
    subst hr
    simp -implicitDefEqProofs (maxSteps := 2000000) (disch := omega) [-getElem?_pos]
    exact .fin _ ⟨by simp [opC, opD], rfl⟩ (.refl _)
  simp -implicitDefEqProofs (maxSteps := 2000000) (disch := omega) [-getElem?_pos]
  exact .fin _ ⟨by simp [opC, opD, hs, hs2, hs3, hs4, hs5, hs6], rfl⟩ (.refl _)
theorem k_CloneS {l : List Str} {σ : Sg} (hl : l.length ≤ 1048576) : ACalls Tryd.prog 44 [.v (.sl none false (l.map .str))] σ fun r σ' => r = .v (.sl none false (l.map .str)) ∧ σ' = σ := by
  refine acalls_fit Tryd.func44 (by kernel_rfl) c44 rfl (by simp [a44]) fun hf => ?_
  clear hf
  simp -implicitDefEqProofs (maxSteps := 2000000) (disch := omega) [-getElem?_pos, a44]
  refine ⟨⟨by omega, ?_⟩, fun h => ?_⟩
  · exact .fin (.v (.sl none false (l.map .str))) ⟨rfl, rfl⟩ .tsl
  · subst h
    exact .fin (.v (.sl none false [])) ⟨rfl, rfl⟩ .snil
theorem k_IndexS {l : List Str} {x : Str} {σ : Sg} : ACalls Tryd.prog 85 [.v (vS l), .v (.str x)] σ fun r σ' => (∃ n : Int, r = .v (.int .i64 n) ∧ (0 ≤ n ↔ x ∈ l)) ∧ σ' = σ := by
  refine acalls_fit Tryd.func85 (by kernel_rfl) c85 rfl (by simp [a85]) fun hf => ?_
  simp at hf
  simp -implicitDefEqProofs (maxSteps := 2000000) (disch := omega) [-getElem?_pos, a85]
  refine W_loop (α := Nat) 0 (fun i => l.length - i) (fun i => ⟨[(0, .v (vS l)), (1, .v (.str x)), (7, .v (.int .i64 l.length)), (8, .v (.int .i64 i))], σ⟩) (fun i => i ≤ l.length ∧ (x ∈ l ↔ x ∈ l.drop i))
    (.eq (by simp)) ⟨by omega, by simp⟩ fun i ⟨hi, he⟩ => ?_
  simp -implicitDefEqProofs (maxSteps := 2000000) (disch := omega) [-getElem?_pos]
  refine .mk (fun h => ?_) fun h => ?_
  · simp -implicitDefEqProofs (maxSteps := 2000000) (disch := omega) [-getElem?_pos]
    refine ⟨by omega, fun y hy => ?_⟩
    rw [drop_cons hy, List.mem_cons] at he
    refine .mk (fun hq => ?_) fun hq => ?_
    · simp -implicitDefEqProofs (maxSteps := 2000000) (disch := omega) [-getElem?_pos]
      exact .fin _ ⟨⟨_, rfl, by simp [he, hq, List.mem_of_getElem? hy]⟩, rfl⟩ (.refl _)
    · simp -implicitDefEqProofs (maxSteps := 2000000) (disch := omega) [-getElem?_pos]
      exact ⟨i + 1, ⟨by omega, by simpa [hq] using he⟩, by dsimp only; omega, .eq (by simp)⟩
  · simp -implicitDefEqProofs (maxSteps := 2000000) (disch := omega) [-getElem?_pos]
    rw [List.drop_eq_nil_of_le (by omega)] at he
    exact .fin _ ⟨⟨_, rfl, by simp [he]⟩, rfl⟩ (.refl _)
theorem k_ContainsS {l : List Str} {x : Str} {σ : Sg} : ACalls Tryd.prog 100 [.v (vS l), .v (.str x)] σ fun r σ' => r = .v (.bool (decide (x ∈ l))) ∧ σ' = σ := by
  refine acalls_fit Tryd.func100 (by kernel_rfl) c100 rfl (by simp [a100]) fun hf => ?_
  simp -implicitDefEqProofs (maxSteps := 2000000) (disch := omega) [-getElem?_pos, a100]
  refine k_IndexS.then fun r hr => ?_
  obtain ⟨n, rfl, hn⟩ := hr
  simp -implicitDefEqProofs (maxSteps := 2000000) (disch := omega) [-getElem?_pos]
  exact .fin _ ⟨by simp [hn], rfl⟩ (.refl _)
theorem wholeK_mk {k0 k n : Int} {s t : Str} {ns : List Str} {l : List Co} {ks : List Int} : wholeK k0 ks (.mk k n s t ns l) = (k == k0 && decide (ks.length ≤ l.length) && ks.zipIdx.all fun p => p.1 == 0 || knd (prt l p.2) == p.1) := rfl
theorem k_FWhole {e : Co} {k0 : Int} {ks : List Int} {f : Bool} {σ : Sg} : ACalls Tryd.prog 74 [.v (encC e), .v (.int .i64 k0), .v (.sl none f (ks.map (.int .i64)))] σ fun r σ' => r = .v (.bool (wholeK k0 ks e)) ∧ σ' = σ := by
  obtain ⟨k, n, s, t, ns, l⟩ := e
  rw [encC_mk]
  refine acalls_fit Tryd.func74 (by kernel_rfl) c74 rfl (by simp [a74]) fun hf => ?_
  simp at hf
  simp -implicitDefEqProofs (maxSteps := 2000000) (disch := omega) [-getElem?_pos, a74]
  refine .mk (fun hk => ?_) fun hk => ?_
  · subst hk
    simp -implicitDefEqProofs (maxSteps := 2000000) (disch := omega) [-getElem?_pos]
    refine .mk (fun hl => ?_) fun hl => ?_
    · simp -implicitDefEqProofs (maxSteps := 2000000) (disch := omega) [-getElem?_pos]
      exact .fin _ ⟨by simp [wholeK_mk]; omega, rfl⟩ (.refl _)
    simp -implicitDefEqProofs (maxSteps := 2000000) (disch := omega) [-getElem?_pos]
    refine W_loop (α := Nat) 0 (fun i => ks.length - i) (fun i => ⟨[(1, .v (.int .i64 k)), (2, .v (.sl none f (ks.map (.int .i64)))), (3, .ptr σ.objs.length 0), (21, .v (.sl none f (ks.map (.int .i64)))), (22, .v (.int .i64 ks.length)), (23, .v (.int .i64 i))], ⟨σ.objs ++ [obC (.mk k n s t ns l)], σ.toks⟩⟩)
      (fun i => i ≤ ks.length ∧ wholeK k ks (.mk k n s t ns l) = (ks.zipIdx.drop i).all fun p => p.1 == 0 || knd (prt l p.2) == p.1) (.eq2 (by simp [obC_mk]) (by simp)) ⟨by omega, by simp [wholeK_mk]; omega⟩ fun i ⟨hi, he⟩ => ?_
    rw [obC_mk]
    simp -implicitDefEqProofs (maxSteps := 2000000) (disch := omega) [-getElem?_pos]
    refine .mk (fun h => ?_) fun h => ?_
    · simp -implicitDefEqProofs (maxSteps := 2000000) (disch := omega) [-getElem?_pos]
      refine ⟨by omega, fun c hc => ?_⟩
      have hz : ks.zipIdx[i]? = some (c, i) := by simp [List.getElem?_zipIdx, hc]
      rw [drop_cons hz, List.all_cons] at he
      refine .mk (fun hq => ?_) fun hq => ?_
      · simp -implicitDefEqProofs (maxSteps := 2000000) (disch := omega) [-getElem?_pos]
        exact ⟨i + 1, ⟨by omega, by simpa [hq] using he⟩, by dsimp only; omega, .eq2 (by simp [obC_mk]) (by simp)⟩
      · simp -implicitDefEqProofs (maxSteps := 2000000) (disch := omega) [-getElem?_pos]
        refine ⟨by omega, fun y hy => ?_⟩
        have hp : prt l i = y := by simp [prt, hy]
        rw [hp] at he
        obtain ⟨k2, n2, s2, t2, ns2, l2⟩ := y
        rw [encC_mk]
        simp -implicitDefEqProofs (maxSteps := 2000000) (disch := omega) [-getElem?_pos]
        refine .mk (fun h4 => ?_) fun h4 => ?_
        · simp -implicitDefEqProofs (maxSteps := 2000000) (disch := omega) [-getElem?_pos]
          exact ⟨i + 1, ⟨by omega, by simpa [hq, h4, knd] using he⟩, by dsimp only; omega, .eq2 (by simp [obC_mk]) (by simp)⟩
        · simp -implicitDefEqProofs (maxSteps := 2000000) (disch := omega) [-getElem?_pos]
          exact .fin _ ⟨by simp [he, hq, h4, knd], rfl⟩ (.refl _)
    · simp -implicitDefEqProofs (maxSteps := 2000000) (disch := omega) [-getElem?_pos]
      rw [List.drop_eq_nil_of_le (by simp; omega)] at he
      exact .fin _ ⟨by simp [he], rfl⟩ (.refl _)
  · simp -implicitDefEqProofs (maxSteps := 2000000) (disch := omega) [-getElem?_pos]
    exact .fin _ ⟨by simp [wholeK_mk, hk], rfl⟩ (.refl _)
theorem k_Shadows {k n : Int} {s t : Str} {ns : List Str} {l : List Co} {i : Nat} {x : Str} {σ : Sg} (hi : i ≤ 1048576) (hn : ns.length ≤ 1048576) :
    ACalls Tryd.prog 123 [.v (encC (.mk k n s t ns l)), .v (.int .i64 i), .v (.str x)] σ fun r σ' => r = .v (.bool (decide (x ∈ bnd k s t ns i))) ∧ σ' = σ := by
  rw [encC_mk]
  refine acalls_fit Tryd.func123 (by kernel_rfl) c123 rfl (by simp [a123]) fun hf => ?_
  clear hf
  by_cases h4 : k = 4
  · subst h4
    by_cases h0 : i = 0
    · subst h0
      simp -implicitDefEqProofs (maxSteps := 2000000) (disch := omega) [-getElem?_pos, a123]
      exact .fin _ ⟨by simp [bnd, beq_dec, eq_comm], rfl⟩ (.refl _)
    · simp -implicitDefEqProofs (maxSteps := 2000000) (disch := omega) [-getElem?_pos, a123, h0]
      exact .fin _ ⟨by simp [bnd, h0], rfl⟩ (.refl _)
  by_cases h6 : k = 6
  · subst h6
    by_cases h0 : i = 1
    · subst h0
      simp -implicitDefEqProofs (maxSteps := 2000000) (disch := omega) [-getElem?_pos, a123]
      exact .fin _ ⟨by simp [bnd, beq_dec, eq_comm], rfl⟩ (.refl _)
    · have h0i : ¬ (i : Int) = 1 := by omega
      simp -implicitDefEqProofs (maxSteps := 2000000) (disch := omega) [-getElem?_pos, a123, h0i]
      exact .fin _ ⟨by simp [bnd, h0], rfl⟩ (.refl _)
  by_cases h7 : k = 7
  · subst h7
    by_cases h0 : i = 0
    · subst h0
      simp -implicitDefEqProofs (maxSteps := 2000000) (disch := omega) [-getElem?_pos, a123]
      refine .mk (fun hq => ?_) fun hq => ?_
      · simp -implicitDefEqProofs (maxSteps := 2000000) (disch := omega) [-getElem?_pos]
        exact .fin _ ⟨by simp [bnd, hq], rfl⟩ (.refl _)
      · simp -implicitDefEqProofs (maxSteps := 2000000) (disch := omega) [-getElem?_pos]
        exact .fin _ ⟨by simp [bnd, beq_dec, Ne.symm hq, eq_comm], rfl⟩ (.refl _)
    by_cases h1 : i = 1
    · subst h1
      simp -implicitDefEqProofs (maxSteps := 2000000) (disch := omega) [-getElem?_pos, a123]
      refine .mk (fun hq => ?_) fun hq => ?_
      · simp -implicitDefEqProofs (maxSteps := 2000000) (disch := omega) [-getElem?_pos]
        exact .fin _ ⟨by simp [bnd, hq], rfl⟩ (.refl _)
      · simp -implicitDefEqProofs (maxSteps := 2000000) (disch := omega) [-getElem?_pos]
        exact .fin _ ⟨by simp [bnd, beq_dec, Ne.symm hq], rfl⟩ (.refl _)
    · have h2 : ¬ (i : Int) < 2 := by omega
      simp -implicitDefEqProofs (maxSteps := 2000000) (disch := omega) [-getElem?_pos, a123, h0, h1, h2]
      exact .fin _ ⟨by simp [bnd, h0, h1], rfl⟩ (.refl _)
  by_cases h14 : k = 14
  · subst h14
    by_cases h0 : i = 0
    · subst h0
      simp -implicitDefEqProofs (maxSteps := 2000000) (disch := omega) [-getElem?_pos, a123]
      exact .fin _ ⟨by simp [bnd], rfl⟩ (.refl _)
    · obtain ⟨q, p, hq, hr, hq', hr', hlt2⟩ := half_of (i := i) (by omega)
      have hip : 0 < i := by omega
      simp -implicitDefEqProofs (maxSteps := 2000000) (disch := omega) [-getElem?_pos, a123, h0, hq, hr, hip]
      refine .mk (fun hc => ?_) fun hc => ?_
      · simp -implicitDefEqProofs (maxSteps := 2000000) (disch := omega) [-getElem?_pos, hr]
        refine .mk (fun hm => ?_) fun hm => ?_
        · simp -implicitDefEqProofs (maxSteps := 2000000) (disch := omega) [-getElem?_pos, hq]
          refine ⟨by omega, ?_⟩
          intro y hy
          exact .fin _ ⟨by simp only [bnd, h0, hq', hr', hc, hm, hy, beq_dec]; simp [eq_comm], rfl⟩ (.refl _)
        · simp -implicitDefEqProofs (maxSteps := 2000000) (disch := omega) [-getElem?_pos]
          exact .fin _ ⟨by simp [bnd, h0, hq', hr', hc, hm], rfl⟩ (.refl _)
      · simp -implicitDefEqProofs (maxSteps := 2000000) (disch := omega) [-getElem?_pos, hip]
        exact .fin _ ⟨by simp [bnd, h0, hq', hc, beq_dec, eq_comm], rfl⟩ (.refl _)
  simp -implicitDefEqProofs (maxSteps := 2000000) (disch := omega) [-getElem?_pos, a123, h4, h6, h7, h14]
  exact .fin _ ⟨by simp [bnd, h4, h6, h7, h14], rfl⟩ (.refl _)
end Go.Proofs.YtbifjffjibnjjaaDoor

/-
  Folding, walked: an integer put in for a name. (Own work.)
-/
set_option linter.unusedVariables false
set_option linter.unusedSimpArgs false
set_option maxHeartbeats 1000000
namespace Go.Proofs.YtbifjffjibnjjaaDoor
open Go Go.Abs

theorem putL_take {x : Str} {n k : Int} {s t : Str} {ns : List Str} {l : List Co} {i : Nat} {a : Co} (h : l[i]? = some a) :
    (putL x n k s t ns 0 l).take (i + 1) = (putL x n k s t ns 0 l).take i ++ [if x ∈ bnd k s t ns i then a else putC x n a] := by
  rw [List.take_add_one, putL_get, h, Nat.zero_add]
  rfl
theorem nsz_ok {k n : Int} {s t : Str} {ns : List Str} {l : List Co} : csz (.mk k n s t ns l) = 6 + s.length + t.length + nsz ns + cszL l := rfl
theorem agg_le {k n : Int} {s t : Str} {ns : List Str} {l : List Co} {o : Nat} : D.Le (.agg [.v (.int .i64 k), .v (.int .i64 n), .v (.str s), .v (.str t), .v (.sl none false (ns.map .str)), .tsl o (some 6) (l.map encC)]) (.v (encC (.mk k n s t ns l))) := by
  rw [encC_mk]
  refine D.Le.aggW rfl fun i d v hd hv => ?_
  match i with
  | 0 => cases hd; cases hv; exact .refl _
  | 1 => cases hd; cases hv; exact .refl _
  | 2 => cases hd; cases hv; exact .refl _
  | 3 => cases hd; cases hv; exact .refl _
  | 4 => cases hd; cases hv; exact .refl _
  | 5 => cases hd; cases hv; exact .tsl
  | n + 6 => simp at hd
theorem k_Put (x : Str) (m : Int) (e : Co) : ∀ {σ : Sg}, csz e ≤ 1048576 → ACalls Tryd.prog 101 [.v (encC e), .v (.str x), .v (.int .i64 m)] σ fun r σ' => r = .v (encC (putC x m e)) ∧ σ' = σ := by
  refine Co.ind (P := fun e => ∀ {σ : Sg}, csz e ≤ 1048576 → ACalls Tryd.prog 101 [.v (encC e), .v (.str x), .v (.int .i64 m)] σ fun r σ' => r = .v (encC (putC x m e)) ∧ σ' = σ) (fun k n s t ns l ih => ?_) e
  intro σ he
  rw [nsz_ok] at he
  have hnl := nsz_len ns
  have hll := cszL_len l
  have hsh := fun (i : Nat) (σ : Sg) (h : i ≤ 1048576) => k_Shadows (k := k) (n := n) (s := s) (t := t) (ns := ns) (l := l) (i := i) (x := x) (σ := σ) h (by omega)
  rw [putC]
  rw [encC_mk] at hsh ⊢
  refine acalls_fit Tryd.func101 (by kernel_rfl) c101 rfl (by simp [a101]) fun hf => ?_
  clear hf
  by_cases h3 : k = 3 ∧ s = x
  · rw [if_pos h3]
    obtain ⟨rfl, rfl⟩ := h3
    simp -implicitDefEqProofs (maxSteps := 2000000) (disch := omega) [-getElem?_pos, a101]
    refine k_Number.then fun r hr => ?_
    subst hr
    rw [num, encC_mk]
    simp -implicitDefEqProofs (maxSteps := 2000000) (disch := omega) [-getElem?_pos]
    exact .fin _ ⟨rfl, rfl⟩ (.refl _)
  rw [if_neg h3]
  by_cases hk : k = 3
  · have hs : ¬ s = x := fun e => h3 ⟨hk, e⟩
    subst hk
    simp -implicitDefEqProofs (maxSteps := 2000000) (disch := omega) [-getElem?_pos, a101, hs]
    obtain ⟨zO, hzO⟩ : ∃ zO, zO = Ob.cells [D.v (V.int .i64 0), D.v (V.int .i64 0), D.v (V.str []), D.v (V.str []), D.v V.snil, D.v V.snil] := ⟨_, rfl⟩
    obtain ⟨W, hW⟩ : ∃ W, W = (putL x m 3 s t ns 0 l).map encC := ⟨_, rfl⟩
    have hWl : W.length = l.length := by rw [hW, List.length_map, putL_len]
    have hWi : ∀ (i : Nat) y, l[i]? = some y → W.take (i + 1) = W.take i ++ [encC (if x ∈ bnd 3 s t ns i then y else putC x m y)] := fun i y hy => by
      rw [hW, ← List.map_take, putL_take hy, List.map_append, List.map_take]
      rfl
    refine W_loop (α := Nat) 0 (fun i => l.length - i) (fun i => ⟨[(1, .v (.str x)), (2, .v (.int .i64 m)), (3, .ptr σ.objs.length 0), (6, .ptr (σ.objs.length + 1) 0), (7, .ptr (σ.objs.length + 2) 0), (24, .v (.sl (some 6) false (l.map encC))), (25, .v (.int .i64 l.length)), (26, .v (.int .i64 i))],
        ⟨σ.objs ++ [obC (.mk 3 n s t ns l), zO, .cells [.v (.int .i64 3), .v (.int .i64 n), .v (.str s), .v (.str t), .v (.sl none false (ns.map .str)), .tsl σ.toks.length (some 6) (W.take i)]], σ.toks ++ [i]⟩⟩)
      (fun i => i ≤ l.length) (.tokE (σ.objs.length + 2) 5 (some 6) [.v (.int .i64 3), .v (.int .i64 n), .v (.str s), .v (.str t), .v (.sl none false (ns.map .str)), .v .snil] (by simp) rfl (by simp [obC_mk, hzO]) (by simp)) (by omega) fun i hi => ?_
    rw [obC_mk, hzO]
    have htl : (W.take i).length = i := by rw [List.length_take, hWl]; omega
    simp -implicitDefEqProofs (maxSteps := 2000000) (disch := omega) [-getElem?_pos]
    refine .mk (fun h => ?_) fun h => ?_
    · simp -implicitDefEqProofs (maxSteps := 2000000) (disch := omega) [-getElem?_pos]
      refine ⟨by omega, fun y hy => ?_⟩
      have hyl := List.mem_of_getElem? hy
      have hy1 := cszL_mem hyl
      have hput := hWi i y hy
      have hrec := fun σ => ih y hyl (σ := σ) (by omega)
      generalize hb : putC x m y = b at hrec hput
      obtain ⟨k2, n2, s2, t2, ns2, l2⟩ := y
      obtain ⟨k3, n3, s3, t3, ns3, l3⟩ := b
      rw [encC_mk] at hrec ⊢
      rw [encC_mk] at hrec
      simp -implicitDefEqProofs (maxSteps := 2000000) (disch := omega) [-getElem?_pos]
      refine (hsh i _ (by omega)).then fun r hr => ?_
      subst hr
      simp -implicitDefEqProofs (maxSteps := 2000000) (disch := omega) [-getElem?_pos]
      refine .mk (fun hm => ?_) fun hm => ?_
      · rw [if_pos hm, encC_mk] at hput
        simp -implicitDefEqProofs (maxSteps := 2000000) (disch := omega) [-getElem?_pos]
        exact ⟨by omega, i + 1, by omega, by dsimp only; omega, .dropX (ys := [_, _, _]) (xs := [.cells [.v (.int .i64 k2), .v (.int .i64 n2), .v (.str s2), .v (.str t2), .v (.sl none false (ns2.map .str)), .v (.sl (some 6) false (l2.map encC))]]) (by simp [hput]) rfl (by simp) (by simp) (by simp) (by simp)⟩
      · rw [if_neg hm, encC_mk] at hput
        simp -implicitDefEqProofs (maxSteps := 2000000) (disch := omega) [-getElem?_pos]
        refine (hrec _).then fun r hr => ?_
        subst hr
        simp -implicitDefEqProofs (maxSteps := 2000000) (disch := omega) [-getElem?_pos]
        exact ⟨by omega, i + 1, by omega, by dsimp only; omega, .dropX (ys := [_, _, _]) (xs := [.cells [.v (.int .i64 k3), .v (.int .i64 n3), .v (.str s3), .v (.str t3), .v (.sl none false (ns3.map .str)), .v (.sl (some 6) false (l3.map encC))]]) (by simp [hput]) rfl (by simp) (by simp) (by simp) (by simp)⟩
    · rw [List.take_of_length_le (by omega)]
      simp -implicitDefEqProofs (maxSteps := 2000000) (disch := omega) [-getElem?_pos]
      subst hW
      exact .fin _ ⟨rfl, rfl⟩ agg_le

  · simp -implicitDefEqProofs (maxSteps := 2000000) (disch := omega) [-getElem?_pos, a101, hk]
    obtain ⟨zO, hzO⟩ : ∃ zO, zO = Ob.cells [D.v (V.int .i64 0), D.v (V.int .i64 0), D.v (V.str []), D.v (V.str []), D.v V.snil, D.v V.snil] := ⟨_, rfl⟩
    obtain ⟨W, hW⟩ : ∃ W, W = (putL x m k s t ns 0 l).map encC := ⟨_, rfl⟩
    have hWl : W.length = l.length := by rw [hW, List.length_map, putL_len]
    have hWi : ∀ (i : Nat) y, l[i]? = some y → W.take (i + 1) = W.take i ++ [encC (if x ∈ bnd k s t ns i then y else putC x m y)] := fun i y hy => by
      rw [hW, ← List.map_take, putL_take hy, List.map_append, List.map_take]
      rfl
    refine W_loop (α := Nat) 0 (fun i => l.length - i) (fun i => ⟨[(1, .v (.str x)), (2, .v (.int .i64 m)), (3, .ptr σ.objs.length 0), (6, .ptr (σ.objs.length + 1) 0), (7, .ptr (σ.objs.length + 2) 0), (24, .v (.sl (some 6) false (l.map encC))), (25, .v (.int .i64 l.length)), (26, .v (.int .i64 i))],
        ⟨σ.objs ++ [obC (.mk k n s t ns l), zO, .cells [.v (.int .i64 k), .v (.int .i64 n), .v (.str s), .v (.str t), .v (.sl none false (ns.map .str)), .tsl σ.toks.length (some 6) (W.take i)]], σ.toks ++ [i]⟩⟩)
      (fun i => i ≤ l.length) (.tokE (σ.objs.length + 2) 5 (some 6) [.v (.int .i64 k), .v (.int .i64 n), .v (.str s), .v (.str t), .v (.sl none false (ns.map .str)), .v .snil] (by simp) rfl (by simp [obC_mk, hzO]) (by simp)) (by omega) fun i hi => ?_
    rw [obC_mk, hzO]
    have htl : (W.take i).length = i := by rw [List.length_take, hWl]; omega
    simp -implicitDefEqProofs (maxSteps := 2000000) (disch := omega) [-getElem?_pos]
    refine .mk (fun h => ?_) fun h => ?_
    · simp -implicitDefEqProofs (maxSteps := 2000000) (disch := omega) [-getElem?_pos]
      refine ⟨by omega, fun y hy => ?_⟩
      have hyl := List.mem_of_getElem? hy
      have hy1 := cszL_mem hyl
      have hput := hWi i y hy
      have hrec := fun σ => ih y hyl (σ := σ) (by omega)
      generalize hb : putC x m y = b at hrec hput
      obtain ⟨k2, n2, s2, t2, ns2, l2⟩ := y
      obtain ⟨k3, n3, s3, t3, ns3, l3⟩ := b
      rw [encC_mk] at hrec ⊢
      rw [encC_mk] at hrec
      simp -implicitDefEqProofs (maxSteps := 2000000) (disch := omega) [-getElem?_pos]
      refine (hsh i _ (by omega)).then fun r hr => ?_
      subst hr
      simp -implicitDefEqProofs (maxSteps := 2000000) (disch := omega) [-getElem?_pos]
      refine .mk (fun hm => ?_) fun hm => ?_
      · rw [if_pos hm, encC_mk] at hput
        simp -implicitDefEqProofs (maxSteps := 2000000) (disch := omega) [-getElem?_pos]
        exact ⟨by omega, i + 1, by omega, by dsimp only; omega, .dropX (ys := [_, _, _]) (xs := [.cells [.v (.int .i64 k2), .v (.int .i64 n2), .v (.str s2), .v (.str t2), .v (.sl none false (ns2.map .str)), .v (.sl (some 6) false (l2.map encC))]]) (by simp [hput]) rfl (by simp) (by simp) (by simp) (by simp)⟩
      · rw [if_neg hm, encC_mk] at hput
        simp -implicitDefEqProofs (maxSteps := 2000000) (disch := omega) [-getElem?_pos]
        refine (hrec _).then fun r hr => ?_
        subst hr
        simp -implicitDefEqProofs (maxSteps := 2000000) (disch := omega) [-getElem?_pos]
        exact ⟨by omega, i + 1, by omega, by dsimp only; omega, .dropX (ys := [_, _, _]) (xs := [.cells [.v (.int .i64 k3), .v (.int .i64 n3), .v (.str s3), .v (.str t3), .v (.sl none false (ns3.map .str)), .v (.sl (some 6) false (l3.map encC))]]) (by simp [hput]) rfl (by simp) (by simp) (by simp) (by simp)⟩
    · rw [List.take_of_length_le (by omega)]
      simp -implicitDefEqProofs (maxSteps := 2000000) (disch := omega) [-getElem?_pos]
      subst hW
      exact .fin _ ⟨rfl, rfl⟩ agg_le

end Go.Proofs.YtbifjffjibnjjaaDoor

/-
  Maps and their keys, sorted, laid at this program: written by the kit's tool lay-plain.mjs, in plain words.
-/
namespace Go.Proofs.YtbifjffjibnjjaaDoor
open Go.Shelf
def keysLays_ren : Go.Shelf.Ren := ⟨fun | 7 => 38 | 10 => 69 | n => n, fun | 23 => 77 | 26 => 9 | 3 => 4 | 28 => 75 | 0 => 0 | 27 => 74 | 33 => 110 | 4 => 4 | n => n, fun | n => n⟩
theorem keysLays : Go.Proofs.SlLaysZ.n7 Tryd.prog keysLays_ren := {
  mixed := by kernel_rfl
  f7 := ⟨Tryd.f38.name, by decide, Tryd.func38.trans (congrArg some (by kernel_rfl))⟩
  f10 := ⟨Tryd.f69.name, by decide, Tryd.func69.trans (congrArg some (by kernel_rfl))⟩
  t0 := Tryd.underlying0
  a0 := Tryd.isAgg0
  z0 := Tryd.sizeOf0
  v0 := Tryd.zeroValue0
  t4 := Tryd.underlying4
  a4 := Tryd.isAgg4
  z4 := Tryd.sizeOf4
  v4 := Tryd.zeroValue4
  t23 := Tryd.underlying77
  a23 := Tryd.isAgg77
  z23 := Tryd.sizeOf77
  v23 := Tryd.zeroValue77
  t26 := Tryd.underlying9
  a26 := Tryd.isAgg9
  z26 := Tryd.sizeOf9
  v26 := Tryd.zeroValue9
  t27 := Tryd.underlying74
  a27 := Tryd.isAgg74
  z27 := Tryd.sizeOf74
  v27 := Tryd.zeroValue74
  t28 := Tryd.underlying75
  a28 := Tryd.isAgg75
  z28 := Tryd.sizeOf75
  v28 := Tryd.zeroValue75
  t33 := Tryd.underlying110
  a33 := Tryd.isAgg110
  z33 := Tryd.sizeOf110
  v33 := Tryd.zeroValue110 }
def sortedLays_ren : Go.Shelf.Ren := ⟨fun | 6 => 37 | 8 => 67 | 9 => 68 | 11 => 94 | 13 => 96 | 12 => 95 | 23 => 121 | 24 => 122 | 14 => 112 | 15 => 113 | 16 => 114 | 17 => 115 | 18 => 116 | 19 => 117 | 20 => 118 | 21 => 119 | 22 => 120 | 25 => 130 | 26 => 131 | 27 => 132 | 28 => 133 | 29 => 134 | 30 => 135 | 31 => 138 | n => n, fun | 26 => 9 | 28 => 75 | 24 => 22 | 0 => 0 | 3 => 3 | 37 => 134 | 48 => 161 | 50 => 145 | 4 => 4 | 40 => 153 | 39 => 152 | 45 => 158 | 5 => 5 | 9 => 9 | 51 => 170 | 55 => 174 | 57 => 176 | 58 => 177 | 33 => 110 | n => n, fun | n => n⟩
theorem sortedLays : Go.Proofs.SlLaysZ.n6 Tryd.prog sortedLays_ren := {
  mixed := by kernel_rfl
  f6 := ⟨Tryd.f37.name, by decide, Tryd.func37.trans (congrArg some (by kernel_rfl))⟩
  f8 := ⟨Tryd.f67.name, by decide, Tryd.func67.trans (congrArg some (by kernel_rfl))⟩
  f11 := ⟨Tryd.f94.name, by decide, Tryd.func94.trans (congrArg some (by kernel_rfl))⟩
  t0 := Tryd.underlying0
  a0 := Tryd.isAgg0
  z0 := Tryd.sizeOf0
  v0 := Tryd.zeroValue0
  t24 := Tryd.underlying22
  a24 := Tryd.isAgg22
  z24 := Tryd.sizeOf22
  v24 := Tryd.zeroValue22
  t26 := Tryd.underlying9
  a26 := Tryd.isAgg9
  z26 := Tryd.sizeOf9
  v26 := Tryd.zeroValue9
  t28 := Tryd.underlying75
  a28 := Tryd.isAgg75
  z28 := Tryd.sizeOf75
  v28 := Tryd.zeroValue75
  i26 := by kernel_rfl }
def sortMLays_ren : Go.Shelf.Ren := ⟨fun | 6 => 68 | 8 => 96 | 9 => 95 | 19 => 121 | 20 => 122 | 21 => 112 | 22 => 113 | 23 => 114 | 24 => 115 | 25 => 116 | 26 => 117 | 27 => 118 | 28 => 119 | 29 => 120 | 36 => 130 | 31 => 131 | 32 => 132 | 37 => 133 | 38 => 134 | 39 => 135 | 41 => 138 | n => n, fun | 27 => 22 | 29 => 9 | 3 => 3 | 32 => 134 | 26 => 22 | 0 => 0 | 44 => 161 | 46 => 145 | 4 => 4 | 36 => 153 | 35 => 152 | 41 => 158 | 5 => 5 | 9 => 9 | 53 => 170 | 57 => 174 | 63 => 176 | 64 => 177 | n => n, fun | n => n⟩
theorem sortMLays : Go.Proofs.SlLaysM.n6 Tryd.prog sortMLays_ren := {
  mixed := by kernel_rfl
  f6 := ⟨Tryd.f68.name, by decide, Tryd.func68.trans (congrArg some (by kernel_rfl))⟩
  f8 := Tryd.func96.trans (congrArg some (by kernel_rfl))
  f9 := ⟨Tryd.f95.name, by decide, Tryd.func95.trans (congrArg some (by kernel_rfl))⟩
  f19 := Tryd.func121.trans (congrArg some (by kernel_rfl))
  f20 := Tryd.func122.trans (congrArg some (by kernel_rfl))
  f21 := ⟨Tryd.f112.name, by decide, Tryd.func112.trans (congrArg some (by kernel_rfl))⟩
  f22 := ⟨Tryd.f113.name, by decide, Tryd.func113.trans (congrArg some (by kernel_rfl))⟩
  f23 := ⟨Tryd.f114.name, by decide, Tryd.func114.trans (congrArg some (by kernel_rfl))⟩
  f24 := ⟨Tryd.f115.name, by decide, Tryd.func115.trans (congrArg some (by kernel_rfl))⟩
  f25 := ⟨Tryd.f116.name, by decide, Tryd.func116.trans (congrArg some (by kernel_rfl))⟩
  f26 := ⟨Tryd.f117.name, by decide, Tryd.func117.trans (congrArg some (by kernel_rfl))⟩
  f27 := ⟨Tryd.f118.name, by decide, Tryd.func118.trans (congrArg some (by kernel_rfl))⟩
  f28 := ⟨Tryd.f119.name, by decide, Tryd.func119.trans (congrArg some (by kernel_rfl))⟩
  f29 := ⟨Tryd.f120.name, by decide, Tryd.func120.trans (congrArg some (by kernel_rfl))⟩
  f31 := Tryd.func131.trans (congrArg some (by kernel_rfl))
  f32 := Tryd.func132.trans (congrArg some (by kernel_rfl))
  f36 := ⟨Tryd.f130.name, by decide, Tryd.func130.trans (congrArg some (by kernel_rfl))⟩
  f37 := ⟨Tryd.f133.name, by decide, Tryd.func133.trans (congrArg some (by kernel_rfl))⟩
  f38 := ⟨Tryd.f134.name, by decide, Tryd.func134.trans (congrArg some (by kernel_rfl))⟩
  f39 := ⟨Tryd.f135.name, by decide, Tryd.func135.trans (congrArg some (by kernel_rfl))⟩
  f41 := ⟨Tryd.f138.name, by decide, Tryd.func138.trans (congrArg some (by kernel_rfl))⟩
  t0 := Tryd.underlying0
  a0 := Tryd.isAgg0
  z0 := Tryd.sizeOf0
  v0 := Tryd.zeroValue0
  t3 := Tryd.underlying3
  a3 := Tryd.isAgg3
  z3 := Tryd.sizeOf3
  v3 := Tryd.zeroValue3
  t4 := Tryd.underlying4
  a4 := Tryd.isAgg4
  z4 := Tryd.sizeOf4
  v4 := Tryd.zeroValue4
  t5 := Tryd.underlying5
  a5 := Tryd.isAgg5
  z5 := Tryd.sizeOf5
  v5 := Tryd.zeroValue5
  t9 := Tryd.underlying9
  a9 := Tryd.isAgg9
  z9 := Tryd.sizeOf9
  v9 := Tryd.zeroValue9
  t26 := Tryd.underlying22
  a26 := Tryd.isAgg22
  z26 := Tryd.sizeOf22
  v26 := Tryd.zeroValue22
  t27 := Tryd.underlying22
  a27 := Tryd.isAgg22
  z27 := Tryd.sizeOf22
  v27 := Tryd.zeroValue22
  t29 := Tryd.underlying9
  a29 := Tryd.isAgg9
  z29 := Tryd.sizeOf9
  v29 := Tryd.zeroValue9
  t32 := Tryd.underlying134
  a32 := Tryd.isAgg134
  z32 := Tryd.sizeOf134
  v32 := Tryd.zeroValue134
  t35 := Tryd.underlying152
  a35 := Tryd.isAgg152
  z35 := Tryd.sizeOf152
  v35 := Tryd.zeroValue152
  t36 := Tryd.underlying153
  a36 := Tryd.isAgg153
  z36 := Tryd.sizeOf153
  v36 := Tryd.zeroValue153
  t41 := Tryd.underlying158
  a41 := Tryd.isAgg158
  z41 := Tryd.sizeOf158
  v41 := Tryd.zeroValue158
  t44 := Tryd.underlying161
  a44 := Tryd.isAgg161
  z44 := Tryd.sizeOf161
  v44 := Tryd.zeroValue161
  t46 := Tryd.underlying145
  a46 := Tryd.isAgg145
  z46 := Tryd.sizeOf145
  v46 := Tryd.zeroValue145
  t53 := Tryd.underlying170
  a53 := Tryd.isAgg170
  z53 := Tryd.sizeOf170
  v53 := Tryd.zeroValue170
  t57 := Tryd.underlying174
  a57 := Tryd.isAgg174
  z57 := Tryd.sizeOf174
  v57 := Tryd.zeroValue174
  t63 := Tryd.underlying176
  a63 := Tryd.isAgg176
  z63 := Tryd.sizeOf176
  v63 := Tryd.zeroValue176
  t64 := Tryd.underlying177
  a64 := Tryd.isAgg177
  z64 := Tryd.sizeOf177
  v64 := Tryd.zeroValue177 }
def copyLays_ren : Go.Shelf.Ren := ⟨fun | 5 => 71 | n => n, fun | 23 => 77 | 24 => 77 | 26 => 9 | 27 => 4 | 0 => 0 | 4 => 4 | n => n, fun | n => n⟩
theorem copyLays : Go.Proofs.SlLaysX.n5 Tryd.prog copyLays_ren := {
  mixed := by kernel_rfl
  f5 := ⟨Tryd.f71.name, by decide, Tryd.func71.trans (congrArg some (by kernel_rfl))⟩
  t0 := Tryd.underlying0
  a0 := Tryd.isAgg0
  z0 := Tryd.sizeOf0
  v0 := Tryd.zeroValue0
  t4 := Tryd.underlying4
  a4 := Tryd.isAgg4
  z4 := Tryd.sizeOf4
  v4 := Tryd.zeroValue4
  t23 := Tryd.underlying77
  a23 := Tryd.isAgg77
  z23 := Tryd.sizeOf77
  v23 := Tryd.zeroValue77
  t24 := Tryd.underlying77
  a24 := Tryd.isAgg77
  z24 := Tryd.sizeOf77
  v24 := Tryd.zeroValue77
  a26 := Tryd.isAgg9
  z26 := Tryd.sizeOf9
  a27 := Tryd.isAgg4
  z27 := Tryd.sizeOf4 }
end Go.Proofs.YtbifjffjibnjjaaDoor

/-
  Maps that are sets of names: their keys, sorted; one laid into another. (Own work, over the kit's contracts.)
-/
set_option linter.unusedVariables false
set_option linter.unusedSimpArgs false
namespace Go.Proofs.YtbifjffjibnjjaaDoor
open Go Go.Abs Go.Maps Go.Sort Go.RowKit Go.Shelf Go.WideElems

/-- A set of names. -/
def mS (l : List Str) : Ob := .map (l.map fun s => (V.str s, D.v (.bool true)))

theorem fresh_fz {σ : Sg} {m : Gh} {w w' : World} (h : Inv σ m w) {g off : Nat} (hg : w.heap.size ≤ g) (hg' : g < w'.heap.size) : Fz m w' g off := by
  refine ⟨hg', fun hm => ?_⟩
  rcases hm with hm | ⟨tk, htk, hb, _⟩
  · have := h.lt_obj hm; omega
  · obtain ⟨us, ty, h5, _⟩ := (h.tk tk htk).2.2.2 g hb
    have := (Array.getElem?_eq_some_iff.1 h5).1
    omega

theorem Inv.below {σ : Sg} {m : Gh} {w w' : World} (h : Inv σ m w) (b : Below w.heap.size w w') : Inv σ m w' ∧ Ext m w m w' := by
  have e : Ext m w m w' := by
    refine ⟨b.os, b.tape, b.output, b.size, fun _ _ h => .inl h, fun _ tk h => ⟨tk, h, rfl, Nat.le_refl _, fun _ => rfl⟩, fun c off f => ⟨cell?_of_heap (b.block c f.1), f.2⟩, fun c hc hn => ⟨b.block c hc, hn⟩⟩
  refine ⟨⟨h.lobj, h.ltok, h.nodup, fun o ob c ho hc => (h.ob o ob c ho hc).mono e (b.block c (h.lt_obj (Gh.mem_objb.2 (List.mem_of_getElem? hc)))), h.gone, fun tk htk => ?_, h.glob.mono e⟩, e⟩
  obtain ⟨h1, h2, h3, h4⟩ := h.tk tk htk
  refine ⟨h1, h2, h3, fun c hc => ?_⟩
  obtain ⟨us, ty, h5, h6⟩ := h4 c hc
  exact ⟨us, ty, (b.block c (Array.getElem?_eq_some_iff.1 h5).1).trans h5, h6⟩

/-- A true value reads. -/
def RT : Value → Option (DataW Unit × List MemPlace)
  | .bool true => some (.lit (.bool true), [])
  | _ => none
theorem RT_some {v : Value} {z : DataW Unit × List MemPlace} (h : RT v = some z) : v = .bool true ∧ z = (.lit (.bool true), []) := by
  unfold RT at h
  split at h
  · cases h; exact ⟨rfl, rfl⟩
  · cases h
theorem keyOf_s {s : Str} (h : s.length ≤ maxLen) : keyOf Tryd.prog 9 (encStr s) = some (.string s) := by
  have hk : Tryd.prog.underlying 9 = some .string := by kernel_rfl
  unfold maxLen at h
  simp [keyOf, hk, mapKey, encStr, ByteArray.size, maxLen, h]

theorem own_of {w : World} {m : Gh} {l : List Str} {b : Nat} (hl : l.length ≤ maxLen) (r : ObRep m w (mS l) b) :
    ∃ D0 : DataW Unit, w.ownsMap Tryd.prog 9 RT b l.length D0 ∧ (strKeys D0).Perm l ∧ Maps.size D0 = l.length ∧ IsMap D0 ∧ ∀ x, has D0 (.string x) = true ↔ x ∈ l := by
  obtain ⟨ms, clock, hh, hsz, hrep, hst⟩ := r
  rw [List.length_map] at hsz
  have hent : ∀ (i : Nat) e, ms[i]? = some e → ∃ s, l[i]? = some s ∧ e.key = encStr s ∧ e.val = .bool true ∧ s.length ≤ maxLen := by
    intro i e he
    have hlt : i < l.length := by rw [← hsz]; exact (Array.getElem?_eq_some_iff.1 he).1
    obtain ⟨h1, h2⟩ := hrep i (V.str l[i], D.v (.bool true)) e (by simp [hlt]) he
    refine ⟨l[i], List.getElem?_eq_getElem hlt, ?_, ?_, ?_⟩
    · dsimp only at h1
      generalize e.key = u at h1
      cases h1
      rfl
    · dsimp only at h2
      generalize e.val = u at h2
      have h3 := h2.v_inv
      cases h3
      rfl
    · dsimp only at h1
      generalize e.key = u at h1
      cases h1
      assumption
  have hrd : ∀ (i : Nat) e, ms[i]? = some e → ∃ s, l[i]? = some s ∧ WideElems.rd Tryd.prog 9 RT e = some (.string s, .lit (.bool true)) := by
    intro i e he
    obtain ⟨s, h1, h2, h3, h4⟩ := hent i e he
    refine ⟨s, h1, ?_⟩
    unfold WideElems.rd
    rw [h2, h3, keyOf_s h4]
    rfl
  have hmap : ms.toList.map (rg Tryd.prog 9 RT) = l.map fun s => ((Lit.string s, DataW.lit (.bool true)) : Lit × DataW Unit) := by
    apply List.ext_getElem?
    intro i
    rw [List.getElem?_map, List.getElem?_map]
    by_cases hi : i < l.length
    · have hms : ms[i]? = some ms[i] := Array.getElem?_eq_getElem (by omega)
      obtain ⟨s, h1, h2⟩ := hrd i _ hms
      rw [h1, show ms.toList[i]? = some ms[i] by simp [hi, hsz]]
      simp only [Option.map_some, rg_of h2]
    · rw [List.getElem?_eq_none (by simp; omega), List.getElem?_eq_none (by omega)]
      rfl
  have hp : ((ms.toList.map (rg Tryd.prog 9 RT)).foldr DataW.insert []).Perm (l.map fun s => ((Lit.string s, DataW.lit (.bool true)) : Lit × DataW Unit)) := by
    have := WideShapes.sorted_perm (ms.toList.map (rg Tryd.prog 9 RT))
    rwa [hmap] at this ⊢
  refine ⟨.map ((ms.toList.map (rg Tryd.prog 9 RT)).foldr DataW.insert []), ⟨ms, clock, hh, ⟨by omega, hst.1, fun x hx => ?_⟩, by omega, rfl⟩, ?_, ?_, ⟨_, rfl⟩, fun x => ?_⟩
  · obtain ⟨i, hi⟩ := List.mem_iff_getElem?.1 hx
    obtain ⟨s, _, h⟩ := hrd i x (by simpa using hi)
    exact ⟨_, h⟩
  · have := hp.map fun p => strOf p.1
    simpa [strKeys, Function.comp_def, strOf] using this
  · have := hp.length_eq
    simpa [Maps.size] using this
  · rw [has_eq, List.any_eq_true]
    constructor
    · rintro ⟨p, hp1, hp2⟩
      have h3 := hp.mem_iff.1 hp1
      obtain ⟨s, hs, rfl⟩ := List.mem_map.1 h3
      have := WideAt.sameKey_eq hp2
      cases this
      exact hs
    · intro hx
      exact ⟨(Lit.string x, DataW.lit (.bool true)), hp.mem_iff.2 (List.mem_map.2 ⟨x, hx, rfl⟩), WideAt.sameKey_self (by trivial)⟩

theorem k_Keys {o : Nat} {σ : Sg} : ACalls Tryd.prog 38 [.map o] σ fun r σ' => r = .fn 69 [.ptr σ.objs.length 0] ∧ σ' = ⟨σ.objs ++ [.cells [.map o]], σ.toks⟩ := by
  refine acalls_fit Tryd.func38 (by kernel_rfl) c38 rfl (by simp [a38]) fun hf => ?_
  clear hf
  simp -implicitDefEqProofs (maxSteps := 2000000) (disch := omega) [-getElem?_pos, a38]
  exact ⟨_, _, WeakR.refl _ _ _, rfl, rfl⟩

theorem flat_str : ∀ l : List Str, V.flat (l.map V.str) = l.map V.str
  | [] => rfl
  | a :: l => by
    have := flat_str l
    simp only [V.flat, List.map_cons, List.flatMap_cons] at *
    rw [this]
    rfl
theorem sorts (m : Nat) : Go.Proofs.AnyZ.SortsIn Tryd.prog sortedLays_ren Fence.wide m :=
  ⟨fun blk off cap ss W hH hblk hsz => callsIn_wide.2 (Go.Proofs.AnyM.slices_Sort_string sortMLays blk off cap ss W hH hblk hsz),
   fun p cap W => callsIn_wide.2 (Go.Proofs.AnyM.slices_Sort_string_none sortMLays p cap W)⟩

set_option maxHeartbeats 1000000 in
theorem k_Sorted {l : List Str} {o p : Nat} {σ : Sg} (hp : σ.objs[p]? = some (.cells [.map o])) (ho : σ.objs[o]? = some (mS l)) (hl : l.length ≤ 1000000) :
    ACalls Tryd.prog 37 [.fn 69 [.ptr p 0]] σ fun r σ' => r = .v (vS (sortS l)) ∧ σ' = σ := by
  refine ⟨⟨_, Tryd.func37, by kernel_rfl, by kernel_rfl⟩, fun m w us hI hlen hr => ?_⟩
  obtain ⟨u, rfl⟩ : ∃ u, us = [u] := by
    match us, hlen with
    | [u], _ => exact ⟨u, rfl⟩
  have h0 := hr 0 _ u rfl rfl
  cases h0 with
  | fn _ _ cus hcl hcr =>
  obtain ⟨u1, rfl⟩ : ∃ u1, cus = [u1] := by
    match cus, hcl with
    | [u], _ => exact ⟨u, rfl⟩
  have h1 := hcr 0 _ u1 rfl rfl
  cases h1 with
  | ptr _ _ bp hbp =>
  have hbp := hI.live hp (by simp) hbp
  obtain ⟨pus, pty, hph, hpsz, hpr, _⟩ := hI.ob p _ bp hp hbp
  obtain ⟨u2, hu2⟩ : ∃ u2, pus[0]? = some u2 := ⟨_, Array.getElem?_eq_getElem (Nat.lt_of_lt_of_le (by simp) hpsz)⟩
  have h2 := (hpr 0 _ u2 rfl hu2).1
  cases h2 with
  | map _ b hb =>
  have hb := hI.live ho (by simp [mS]) hb
  have hmx : l.length ≤ maxLen := by simp only [maxLen]; omega
  obtain ⟨D0, hown, hperm, hsize, _, _⟩ := own_of hmx (hI.ob o _ b ho hb)
  have hcell : w.cell? ⟨bp, 0, none⟩ = some (.map (some b)) := by rw [cell_of_row w bp 0 pus pty (0, 0) hph]; exact hu2
  have hlt : bp < w.heap.size := (Array.getElem?_eq_some_iff.1 hph).1
  have hseq : SeqGives Fence.wide 2 Tryd.prog 69 #[.pointer (some ⟨bp, 0, none⟩)] encStr (fun ss => ss.Perm (strKeys D0)) (Maps.size D0) w :=
    Go.Proofs.AnyZ.keys_gives (ρ := keysLays_ren) { keysLays with } Fence.wide 2 trivial rfl (by omega) bp b l.length D0 w hlt hcell hown
  have hC := Go.Proofs.AnyZ.sorted_in sortedLays Fence.wide 5 trivial trivial trivial trivial rfl (by omega) (sorts _) (enters_of Tryd.func68 (by kernel_rfl) rfl) 69 #[.pointer (some ⟨bp, 0, none⟩)] trivial (enters_of Tryd.func69 (by kernel_rfl) rfl) _ _ (by rw [hsize]; exact hmx) (by rw [hsize]; omega) _ hseq
  refine (callsIn_wide.1 hC).mono fun e w' ⟨v, ss, he, hS, hrow, hnil, hbl⟩ => ?_
  obtain ⟨hI', hX⟩ := Inv.below hI hbl
  have hss : ss.Perm l := hS.trans hperm
  have hsort : ss.mergeSort (fun x y => decide (x ≤ y)) = sortS l := mergeSort_of_perm hss
  rw [hsort] at hrow
  refine ⟨v, _, σ, m, he, ⟨rfl, rfl⟩, hI', hX, .v _ _ ?_⟩
  obtain ⟨hn, hrow⟩ := hrow
  have hlen2 := hss.length_eq
  rcases hrow with ⟨rfl, h0⟩ | ⟨g, cap, cur, rfl, hg, hgh, hnc, hcm, hcs, htk⟩
  · have : sortS l = [] := List.eq_nil_of_length_eq_zero (by rw [sortS_len]; omega)
    rw [this]
    exact .slNil none false none
  · have hxl : ((sortS l).map V.str).length = ss.length := by simp [sortS_len, hlen2]
    have hmem : ∀ s ∈ sortS l, s.length ≤ maxLen := fun s hs => by
      have hs' : s ∈ l := (List.mergeSort_perm l _).mem_iff.1 hs
      exact strKeys_le hown (by kernel_rfl) s (hperm.mem_iff.2 hs')
    have hfl : V.flat ((sortS l).map V.str) = (sortS l).map V.str := flat_str _
    have := RepV.at_head (w := w') (F := Fz m w') none (xs := (sortS l).map V.str) (cs := (sortS l).map encStr) (cap := cap) (full := false) hgh (by simp [shn]) (fun i u hi => by
        rw [← htk, List.getElem?_take] at hi
        split at hi
        · simpa using hi
        · cases hi) (fun i hi => fresh_fz hI hg (Array.getElem?_eq_some_iff.1 hgh).1) (by simp [V.shape]) (by rw [hfl]; simp [V.one]) (by rw [hxl]; exact hnc) hcm (by simp) (fun i c u hc hu => by
        rw [hfl, List.getElem?_map] at hc
        rw [List.getElem?_map] at hu
        cases hs : (sortS l)[i]? with
        | none => rw [hs] at hc; cases hc
        | some s =>
          rw [hs] at hc hu
          cases hc
          cases hu
          exact .str s (hmem s (List.mem_of_getElem? hs)))
    rw [hxl] at this
    exact this

/-- One set laid into another. -/
theorem k_Copy {ld ls : List Str} {d s : Nat} {σ : Sg} (hds : d ≠ s) (hd : σ.objs[d]? = some (mS ld)) (hs : σ.objs[s]? = some (mS ls)) (hld : ld.length ≤ 1000000) (hls : ls.length ≤ 1000000) :
    ACalls Tryd.prog 71 [.map d, .map s] σ fun r σ' => r = .tup [] ∧ ∃ l', l'.Nodup ∧ (∀ x, x ∈ l' ↔ x ∈ ld ∨ x ∈ ls) ∧ l'.length ≤ ld.length + ls.length ∧ σ' = σ.put d (mS l') := by
  refine ⟨⟨_, Tryd.func71, by kernel_rfl, by kernel_rfl⟩, fun m w us hI hlen hr => ?_⟩
  obtain ⟨u1, u2, rfl⟩ : ∃ u1 u2, us = [u1, u2] := by
    match us, hlen with
    | [u, v], _ => exact ⟨u, v, rfl⟩
  have h1 := hr 0 _ u1 rfl rfl
  have h2 := hr 1 _ u2 rfl rfl
  cases h1 with
  | map _ bd hbd =>
  cases h2 with
  | map _ bs hbs =>
  have hbd := hI.live hd (by simp [mS]) hbd
  have hbs := hI.live hs (by simp [mS]) hbs
  have nd : m.objb.Nodup := (List.nodup_append.1 hI.nodup).1
  have hne : bd ≠ bs := by
    rintro rfl
    exact hds (objb_inj nd hbd hbs)
  have hm1 : ld.length ≤ maxLen := by simp only [maxLen]; omega
  have hm2 : ls.length ≤ maxLen := by simp only [maxLen]; omega
  obtain ⟨Dd, hownd, _, _, hMd, hmd⟩ := own_of hm1 (hI.ob d _ bd hd hbd)
  obtain ⟨Ds, howns, hps, hsz, ⟨es, rfl⟩, hms⟩ := own_of hm2 (hI.ob s _ bs hs hbs)
  have hC := Go.Proofs.AnyX.maps_Copy copyLays (string_keyed (by kernel_rfl)) RT bd bs ld.length ls.length Dd (.map es) w hownd howns hne (by rw [hsz]; simp only [maxLen]; omega)
  rw [show copyLays_ren.t 26 = 9 from rfl] at hC
  refine hC.mono fun e w' ⟨he, hown', _, hgr⟩ => ?_
  obtain ⟨ms', clock', hh', hF, hsz', hD'⟩ := hown'
  have hmem : bd ∈ m.objb := Gh.mem_objb.2 (List.mem_of_getElem? hbd)
  have old : ∀ k, k < w.heap.size → k ≠ bd → w'.heap[k]? = w.heap[k]? := fun k hk hne => hgr.block k hk (by simpa using hne)
  have hX : Ext m w m w' := .turned hmem hgr.os hgr.tape hgr.output hgr.size old
  have hent : ∀ x ∈ ms'.toList, ∃ t : Str, x.key = encStr t ∧ x.val = .bool true ∧ t.length ≤ maxLen ∧ rg Tryd.prog 9 RT x = (.string t, .lit (.bool true)) := by
    intro x hx
    obtain ⟨y, hy⟩ := hF.reads x hx
    obtain ⟨t, h3, h4, h5⟩ := Maps.keyOf_str (by kernel_rfl) (rd_key hy)
    obtain ⟨z, h6, h7⟩ := rd_val hy
    obtain ⟨h8, h9⟩ := RT_some h6
    refine ⟨t, h3, h8, h5, ?_⟩
    rw [rg_of hy]
    rw [h9] at h7
    exact Prod.ext h4 h7
  obtain ⟨l', hl'⟩ : ∃ l' : List Str, ms'.toList.map (·.key) = l'.map encStr := by
    refine ⟨ms'.toList.map fun x => (match x.key with | .string b => b.data.toList | _ => []), ?_⟩
    rw [List.map_map]
    apply List.map_congr_left
    intro x hx
    obtain ⟨t, h3, _⟩ := hent x hx
    simp [h3]
  have hlen' : l'.length = ms'.size := by
    have := congrArg List.length hl'
    simpa using this.symm
  have hat : ∀ (i : Nat) x, ms'[i]? = some x → ∃ t, l'[i]? = some t ∧ x.key = encStr t ∧ x.val = .bool true ∧ t.length ≤ maxLen := by
    intro i x hx
    obtain ⟨t, h3, h4, h5, _⟩ := hent x (by simpa using Array.mem_of_getElem? hx)
    have h6 := congrArg (·[i]?) hl'
    simp only [List.getElem?_map] at h6
    rw [show ms'.toList[i]? = some x by simpa using hx] at h6
    cases h7 : l'[i]? with
    | none => rw [h7] at h6; cases h6
    | some t' =>
      rw [h7] at h6
      simp only [Option.map_some, Option.some.injEq] at h6
      rw [h3] at h6
      exact ⟨t, by rw [encStr_inj h6], h3, h4, h5⟩
  have hnd : l'.Nodup := by
    have h3 := hF.stamped.2.2
    rw [hl'] at h3
    exact (List.pairwise_map.1 h3).imp fun {a b} hab e => hab (by rw [e])
  have hrgs : ms'.toList.map (rg Tryd.prog 9 RT) = l'.map fun t => ((Lit.string t, DataW.lit (.bool true)) : Lit × DataW Unit) := by
    apply List.ext_getElem?
    intro i
    rw [List.getElem?_map, List.getElem?_map]
    cases hx : ms'[i]? with
    | none =>
      have : ms'.size ≤ i := by simpa using hx
      rw [List.getElem?_eq_none (by simpa using this), List.getElem?_eq_none (by omega)]
      rfl
    | some x =>
      obtain ⟨t, h3, h4, _⟩ := hat i x hx
      obtain ⟨t', h5, _, _, h6⟩ := hent x (by simpa using Array.mem_of_getElem? hx)
      rw [h3, show ms'.toList[i]? = some x by simpa using hx, Option.map_some, Option.map_some, h6]
      rw [h4] at h5
      rw [encStr_inj h5]
  have hhas : ∀ x, has (Lib.mergeD Dd (.map es)) (.string x) = true ↔ x ∈ l' := by
    intro x
    rw [hD', has_eq, List.any_eq_true]
    constructor
    · rintro ⟨p, hp1, hp2⟩
      have h3 := (WideShapes.sorted_perm _).mem_iff.1 hp1
      rw [hrgs] at h3
      obtain ⟨t, ht, rfl⟩ := List.mem_map.1 h3
      have := WideAt.sameKey_eq hp2
      cases this
      exact ht
    · intro hx
      refine ⟨(Lit.string x, DataW.lit (.bool true)), (WideShapes.sorted_perm _).mem_iff.2 ?_, WideAt.sameKey_self (by trivial)⟩
      rw [hrgs]
      exact List.mem_map.2 ⟨x, hx, rfl⟩
  have hmerge : ∀ (es : List (Lit × DataW Unit)) (D : DataW Unit), IsMap D → (∀ p ∈ es, WideAt.IsKeyLit p.1) → ∀ k, has (es.foldl (fun D p => D.put p.1 p.2) D) k = true ↔ has D k = true ∨ ∃ p ∈ es, p.1 = k := by
    intro es
    induction es with
    | nil => intro D _ _ k; simp
    | cons p es ih =>
      intro D hD hk k
      rw [List.foldl_cons, ih _ (hD.put _ _) (fun q hq => hk q (by simp [hq])) k]
      by_cases e : k = p.1
      · subst e
        rw [has_put_same hD (hk p (by simp))]
        simp
      · rw [has_put_other e]
        constructor
        · rintro (h | ⟨q, hq, rfl⟩)
          · exact .inl h
          · exact .inr ⟨q, by simp [hq], rfl⟩
        · rintro (h | ⟨q, hq, rfl⟩)
          · exact .inl h
          · rcases List.mem_cons.1 hq with rfl | hq
            · exact absurd rfl e
            · exact .inr ⟨q, hq, rfl⟩
  have hI' := hI.turned hbd hX old (mS l') ⟨ms', clock', hh', by simp [hlen'], fun i x e hx he => ?_, hF.stamped, fun h => nomatch h⟩
  · refine ⟨_, _, _, m, he, ⟨rfl, l', hnd, fun x => ?_, by rw [hlen']; rw [hsz] at hsz'; exact hsz', rfl⟩, hI', hX, .tup [] [] rfl (by simp)⟩
    rw [← hhas, ← hmd, ← hms]
    have hkl : ∀ p ∈ es, WideAt.IsKeyLit p.1 := fun p hp => by
      obtain ⟨es0, he0, hk0⟩ := howns.keysOf
      cases he0
      obtain ⟨v, hv⟩ := hk0 p hp
      obtain ⟨t, _, h4, _⟩ := Maps.keyOf_str (by kernel_rfl) hv
      rw [h4]
      trivial
    show has (es.foldl (fun D p => D.put p.1 p.2) Dd) (.string x) = true ↔ _
    rw [hmerge es Dd hMd hkl]
    refine or_congr Iff.rfl ?_
    rw [has_eq, List.any_eq_true]
    constructor
    · rintro ⟨p, hp, e⟩
      exact ⟨p, hp, by rw [e]; exact WideAt.sameKey_self (by trivial)⟩
    · rintro ⟨p, hp, e⟩
      exact ⟨p, hp, WideAt.sameKey_eq e⟩
  · rw [List.getElem?_map] at hx
    obtain ⟨t, h3, h4, h5, h6⟩ := hat i e he
    rw [h3] at hx
    cases hx
    exact ⟨by rw [h4]; exact .str t h6, by rw [h5]; exact .v _ _ (.bool true)⟩
end Go.Proofs.YtbifjffjibnjjaaDoor

/-
  Core expressions: the names that are free in them. (Own work.)
-/
set_option linter.unusedVariables false
set_option linter.unusedSimpArgs false
namespace Go.Proofs.YtbifjffjibnjjaaDoor
open Go Go.Abs

theorem fvL_get {k : Int} {s t : Str} {ns : List Str} {x : Co} : ∀ {l : List Co} {i j : Nat}, l[i]? = some x → fvL k s t ns j (l.take (i + 1)) = fvL k s t ns j (l.take i) ++ (fvs x).filter fun y => !decide (y ∈ bnd k s t ns (j + i))
  | [], i, j, h => by simp at h
  | y :: l, 0, j, h => by simp at h; subst h; simp [fvL]
  | y :: l, i + 1, j, h => by
    have := fvL_get (k := k) (s := s) (t := t) (ns := ns) (l := l) (i := i) (j := j + 1) (by simpa using h)
    simp only [List.take_succ_cons, fvL]
    rw [this, List.append_assoc, show j + 1 + i = j + (i + 1) by omega]
theorem fvs_len (e : Co) : 6 * (fvs e).length ≤ csz e := by
  refine Co.ind (P := fun e => 6 * (fvs e).length ≤ csz e) (fun k n s t ns l ih => ?_) e
  have hl : ∀ (l : List Co) (i : Nat), (∀ x ∈ l, 6 * (fvs x).length ≤ csz x) → 6 * (fvL k s t ns i l).length ≤ cszL l := by
    intro l
    induction l with
    | nil => intro i _; simp [fvL]
    | cons x l ih2 =>
      intro i h
      have h1 := h x (by simp)
      have h2 := ih2 (i + 1) fun y hy => h y (by simp [hy])
      have h3 := List.length_filter_le (fun y => !decide (y ∈ bnd k s t ns i)) (fvs x)
      simp only [fvL, List.length_append, cszL]
      omega
  have := hl l 0 ih
  simp only [fvs, csz, List.length_append]
  split <;> simp <;> omega

theorem fvL_take {k : Int} {s t : Str} {ns : List Str} : ∀ (l : List Co) (i j : Nat), (fvL k s t ns j (l.take i)).length ≤ (fvL k s t ns j l).length
  | [], i, j => by simp
  | y :: l, 0, j => by simp [fvL]
  | y :: l, i + 1, j => by
    have := fvL_take (k := k) (s := s) (t := t) (ns := ns) l i (j + 1)
    simp only [List.take_succ_cons, fvL, List.length_append]
    omega
theorem accs (k : Int) (s t : Str) (ns : List Str) (l : List Co) (B : List Str) (hB : 6 * (B ++ fvL k s t ns 0 l).length ≤ 1048576) : ∃ A : Nat → List Str, A 0 = B ∧ (∀ i x, l[i]? = some x → A (i + 1) = A i ++ (fvs x).filter fun y => !decide (y ∈ bnd k s t ns i)) ∧
    (∀ i, l.length ≤ i → A i = B ++ fvL k s t ns 0 l) ∧ ∀ i, (A i).length ≤ 174763 := by
  refine ⟨fun i => B ++ fvL k s t ns 0 (l.take i), by simp [fvL], fun i x h => ?_, fun i h => by dsimp only; rw [List.take_of_length_le h], fun i => ?_⟩
  · dsimp only
    rw [fvL_get h, Nat.zero_add, List.append_assoc]
  · have := fvL_take (k := k) (s := s) (t := t) (ns := ns) l i 0
    simp only [List.length_append] at *
    omega
theorem WMap_mS {l : List Str} {K : List (V × D) → Prop} : WMap (some (mS l)) K = K (l.map fun s => (V.str s, D.v (.bool true))) := rfl
/-- Just the free names, each once. -/
def FV (es : List Str) (e : Co) : Prop := es.Nodup ∧ ∀ y, y ∈ es ↔ y ∈ fvs e
theorem nodup_len : ∀ {a b : List Str}, a.Nodup → (∀ x, x ∈ a → x ∈ b) → a.length ≤ b.length
  | [], b, _, _ => by simp
  | x :: a, b, h, k => by
    obtain ⟨h1, h2⟩ := List.nodup_cons.1 h
    have hx := k x (by simp)
    have := nodup_len (a := a) (b := b.erase x) h2 fun y hy => (List.mem_erase_of_ne (by rintro rfl; exact h1 hy)).2 (k y (by simp [hy]))
    rw [List.length_erase_of_mem hx] at this
    have := List.length_pos_of_mem hx
    simp only [List.length_cons]
    omega
theorem merase_str (y : Str) : ∀ l : List Str, merase (.str y) (l.map fun s => (V.str s, D.v (.bool true))) = (l.erase y).map fun s => (V.str s, D.v (.bool true))
  | [] => rfl
  | x :: l => by
    rw [List.map_cons, merase, merase_str y l, List.erase_cons]
    by_cases h : x = y
    · subst h; simp [keq]
    · have h' : ¬ y = x := fun e => h e.symm
      simp [keq, h, h']
theorem keysOk_str : ∀ l : List Str, keysOk .str (l.map fun s => (V.str s, D.v (.bool true))) = true
  | [] => rfl
  | x :: l => by simp [keyOk, keysOk_str l]
theorem low2 {e : Co} {l : List Str} {a b : Nat} : ∀ ob ∈ [obC e, mS l], ob.low a b := by
  intro ob hob
  cases e
  simp only [List.mem_cons, List.not_mem_nil, or_false] at hob
  rcases hob with rfl | rfl
  · simp [obC_mk]
  · intro p hp
    obtain ⟨s, _, rfl⟩ := List.mem_map.1 hp
    trivial
structure FSt where
  i : Nat
  es : List Str

theorem k_Ffree (e : Co) : ∀ {σ : Sg}, csz e ≤ 1048576 → ACalls Tryd.prog 39 [.v (encC e)] σ fun r σ' => ∃ es, FV es e ∧ r = .map (σ.objs.length + 1) ∧ σ' = ⟨σ.objs ++ [obC e, mS es], σ.toks⟩ := by
  refine Co.ind (P := fun e => ∀ {σ : Sg}, csz e ≤ 1048576 → ACalls Tryd.prog 39 [.v (encC e)] σ fun r σ' => ∃ es, FV es e ∧ r = .map (σ.objs.length + 1) ∧ σ' = ⟨σ.objs ++ [obC e, mS es], σ.toks⟩) (fun k n s t ns l ih => ?_) e
  intro σ he
  have hb := fun (i : Nat) (σ : Sg) hi hn => k_binds (k := k) (n := n) (s := s) (t := t) (ns := ns) (l := l) (i := i) (σ := σ) hi hn
  have hfl := fvs_len (.mk k n s t ns l)
  simp only [csz, fvs, FV] at he hfl ⊢
  have hnl := nsz_len ns
  have hll := cszL_len l
  rw [encC_mk] at hb ⊢
  refine acalls_fit Tryd.func39 (by kernel_rfl) c39 rfl (by simp [a39]) fun hf => ?_
  clear hf
  by_cases h3 : k = 3
  · subst h3
    simp only [if_true] at hfl ⊢
    obtain ⟨A, a0, a1, a2, a3⟩ := accs 3 s t ns l [s] (by omega)
    rw [← a2 l.length (Nat.le_refl _)]
    simp -implicitDefEqProofs (maxSteps := 2000000) (disch := omega) [-getElem?_pos, a39]
    refine W_loop (α := FSt) ⟨0, [s]⟩ (fun x => l.length - x.i) (fun x => ⟨[(1, .ptr σ.objs.length 0), (3, .map (σ.objs.length + 1)), (17, .v (.sl (some 6) false (l.map encC))), (18, .v (.int .i64 l.length)), (19, .v (.int .i64 x.i))], ⟨σ.objs ++ [obC (.mk 3 n s t ns l), mS x.es], σ.toks⟩⟩)
      (fun x => x.i ≤ l.length ∧ x.es.Nodup ∧ ∀ y, y ∈ x.es ↔ y ∈ A x.i) (.eq2 (by simp [obC, mS]) (by simp)) ⟨by simp, by simp, by simp [a0]⟩ fun ⟨i, es⟩ ⟨hi, hnd, hmem⟩ => ?_
    dsimp only at hi hnd hmem ⊢
    have hli := a3 i
    have hesl := nodup_len hnd fun y hy => (hmem y).1 hy
    simp -implicitDefEqProofs (maxSteps := 2000000) (disch := omega) [-getElem?_pos]
    refine .mk (fun h => ?_) fun h => ?_
    · simp -implicitDefEqProofs (maxSteps := 2000000) (disch := omega) [-getElem?_pos]
      refine ⟨by omega, ?_⟩
      intro x hx
      have hx1 := cszL_mem (List.mem_of_getElem? hx)
      have hxl := fvs_len x
      have hs := a1 i x hx
      have hli2 := a3 (i + 1)
      have hcall := fun σ => ih x (List.mem_of_getElem? hx) (σ := σ) (by omega)
      cases x with
      | mk k2 n2 s2 t2 ns2 l2 =>
      rw [encC_mk] at hcall ⊢
      simp -implicitDefEqProofs (maxSteps := 2000000) (disch := omega) [-getElem?_pos]
      refine (hcall _).mono fun r σ' hr => ?_
      obtain ⟨lx, ⟨hx2, hx3⟩, rfl, rfl⟩ := hr
      generalize Co.mk k2 n2 s2 t2 ns2 l2 = x at *
      have hlxl := nodup_len hx2 fun y hy => (hx3 y).1 hy
      simp -implicitDefEqProofs (maxSteps := 2000000) (disch := omega) [-getElem?_pos, obC_mk]
      refine (hb i _ (by omega) (by omega)).then fun r hr => ?_
      subst hr
      obtain ⟨bs, hbs⟩ : ∃ bs, bs = bnd 3 s t ns i := ⟨_, rfl⟩
      rw [← hbs] at hs ⊢
      have hbl : bs.length ≤ 2 := by rw [hbs]; unfold bnd; repeat' split
                                     all_goals first | simp | (cases ns[(i - 1) / 2]? <;> simp)
      simp -implicitDefEqProofs (maxSteps := 2000000) (disch := omega) [-getElem?_pos]
      generalize Ob.cells [.v (.int .i64 k2), .v (.int .i64 n2), .v (.str s2), .v (.str t2), .v (.sl none false (ns2.map .str)), .v (.sl (some 6) false (l2.map encC))] = X
      refine W_loop (α := FSt) ⟨0, lx⟩ (fun z => bs.length - z.i) (fun z => ⟨[(1, .ptr σ.objs.length 0), (3, .map (σ.objs.length + 1)), (17, .v (.sl (some 6) false (l.map encC))), (18, .v (.int .i64 l.length)), (19, .v (.int .i64 i)), (6, .map (σ.objs.length + 4)), (28, .v (vS bs)), (29, .v (.int .i64 bs.length)), (30, .v (.int .i64 z.i))],
          ⟨σ.objs ++ [obC (.mk 3 n s t ns l), mS es, X, obC x, mS z.es], σ.toks⟩⟩)
        (fun z => z.i ≤ bs.length ∧ z.es.Nodup ∧ ∀ y, y ∈ z.es ↔ y ∈ fvs x ∧ ¬ y ∈ bs.take z.i) (.eq2 (by simp [obC_mk]) (by simp [Nat.add_assoc])) ⟨by simp, hx2, fun y => by simp [hx3]⟩ fun ⟨j, ej⟩ ⟨hj, hjn, hjm⟩ => ?_
      dsimp only at hj hjn hjm ⊢
      simp -implicitDefEqProofs (maxSteps := 2000000) (disch := omega) [-getElem?_pos]
      refine .mk (fun hq => ?_) fun hq => ?_
      · simp -implicitDefEqProofs (maxSteps := 2000000) (disch := omega) [-getElem?_pos]
        refine ⟨by omega, ?_⟩
        intro y hy
        simp -implicitDefEqProofs (maxSteps := 2000000) (disch := omega) [-getElem?_pos, WMap_mS, keysOk_str, merase_str]
        refine ⟨⟨j + 1, ej.erase y⟩, ⟨by dsimp only; omega, hjn.erase _, fun z => ?_⟩, by dsimp only; omega, .eq2 (by simp [mS]) (by simp)⟩
        rw [hjn.mem_erase_iff, hjm, List.take_add_one, hy, List.mem_append]
        simp
        constructor
        · rintro ⟨h1, h2, h3⟩
          exact ⟨h2, h3, h1⟩
        · rintro ⟨h1, h2, h3⟩
          exact ⟨h3, h1, h2⟩
      · simp -implicitDefEqProofs (maxSteps := 2000000) (disch := omega) [-getElem?_pos]
        have hel := nodup_len hjn fun y hy => ((hjm y).1 hy).1
        refine (k_Copy (ld := es) (ls := ej) (by omega) (by simp) (by simp) (by omega) (by omega)).mono fun r σ' hr => ?_
        obtain ⟨rfl, l', hl1, hl2, hl3, rfl⟩ := hr
        simp -implicitDefEqProofs (maxSteps := 2000000) (disch := omega) [-getElem?_pos]
        refine ⟨⟨i + 1, l'⟩, ⟨by dsimp only; omega, hl1, fun y => ?_⟩, by dsimp only; omega, .dropX (ys := [obC (.mk 3 n s t ns l), mS l']) (xs := [X, obC x, mS ej]) (by simp) rfl (by simp) low2 (by simp) (by simp)⟩
        rw [hs, hl2, hmem, hjm, List.mem_append, List.mem_filter, List.take_of_length_le (by omega)]
        simp
    · simp -implicitDefEqProofs (maxSteps := 2000000) (disch := omega) [-getElem?_pos]
      have hie : A i = A l.length := by rw [a2 i (by omega), a2 _ (Nat.le_refl _)]
      rw [hie] at hmem
      exact ⟨_, _, WeakR.refl _ _ _, es, ⟨hnd, hmem⟩, rfl, rfl⟩

  · simp only [h3, if_false] at hfl ⊢
    obtain ⟨A, a0, a1, a2, a3⟩ := accs k s t ns l [] (by omega)
    rw [← a2 l.length (Nat.le_refl _)]
    simp -implicitDefEqProofs (maxSteps := 2000000) (disch := omega) [-getElem?_pos, a39, h3]
    refine W_loop (α := FSt) ⟨0, []⟩ (fun x => l.length - x.i) (fun x => ⟨[(1, .ptr σ.objs.length 0), (3, .map (σ.objs.length + 1)), (17, .v (.sl (some 6) false (l.map encC))), (18, .v (.int .i64 l.length)), (19, .v (.int .i64 x.i))], ⟨σ.objs ++ [obC (.mk k n s t ns l), mS x.es], σ.toks⟩⟩)
      (fun x => x.i ≤ l.length ∧ x.es.Nodup ∧ ∀ y, y ∈ x.es ↔ y ∈ A x.i) (.eq2 (by simp [obC, mS]) (by simp)) ⟨by simp, by simp, by simp [a0]⟩ fun ⟨i, es⟩ ⟨hi, hnd, hmem⟩ => ?_
    dsimp only at hi hnd hmem ⊢
    have hli := a3 i
    have hesl := nodup_len hnd fun y hy => (hmem y).1 hy
    simp -implicitDefEqProofs (maxSteps := 2000000) (disch := omega) [-getElem?_pos]
    refine .mk (fun h => ?_) fun h => ?_
    · simp -implicitDefEqProofs (maxSteps := 2000000) (disch := omega) [-getElem?_pos]
      refine ⟨by omega, ?_⟩
      intro x hx
      have hx1 := cszL_mem (List.mem_of_getElem? hx)
      have hxl := fvs_len x
      have hs := a1 i x hx
      have hli2 := a3 (i + 1)
      have hcall := fun σ => ih x (List.mem_of_getElem? hx) (σ := σ) (by omega)
      cases x with
      | mk k2 n2 s2 t2 ns2 l2 =>
      rw [encC_mk] at hcall ⊢
      simp -implicitDefEqProofs (maxSteps := 2000000) (disch := omega) [-getElem?_pos]
      refine (hcall _).mono fun r σ' hr => ?_
      obtain ⟨lx, ⟨hx2, hx3⟩, rfl, rfl⟩ := hr
      generalize Co.mk k2 n2 s2 t2 ns2 l2 = x at *
      have hlxl := nodup_len hx2 fun y hy => (hx3 y).1 hy
      simp -implicitDefEqProofs (maxSteps := 2000000) (disch := omega) [-getElem?_pos, obC_mk]
      refine (hb i _ (by omega) (by omega)).then fun r hr => ?_
      subst hr
      obtain ⟨bs, hbs⟩ : ∃ bs, bs = bnd k s t ns i := ⟨_, rfl⟩
      rw [← hbs] at hs ⊢
      have hbl : bs.length ≤ 2 := by rw [hbs]; unfold bnd; repeat' split
                                     all_goals first | simp | (cases ns[(i - 1) / 2]? <;> simp)
      simp -implicitDefEqProofs (maxSteps := 2000000) (disch := omega) [-getElem?_pos]
      generalize Ob.cells [.v (.int .i64 k2), .v (.int .i64 n2), .v (.str s2), .v (.str t2), .v (.sl none false (ns2.map .str)), .v (.sl (some 6) false (l2.map encC))] = X
      refine W_loop (α := FSt) ⟨0, lx⟩ (fun z => bs.length - z.i) (fun z => ⟨[(1, .ptr σ.objs.length 0), (3, .map (σ.objs.length + 1)), (17, .v (.sl (some 6) false (l.map encC))), (18, .v (.int .i64 l.length)), (19, .v (.int .i64 i)), (6, .map (σ.objs.length + 4)), (28, .v (vS bs)), (29, .v (.int .i64 bs.length)), (30, .v (.int .i64 z.i))],
          ⟨σ.objs ++ [obC (.mk k n s t ns l), mS es, X, obC x, mS z.es], σ.toks⟩⟩)
        (fun z => z.i ≤ bs.length ∧ z.es.Nodup ∧ ∀ y, y ∈ z.es ↔ y ∈ fvs x ∧ ¬ y ∈ bs.take z.i) (.eq2 (by simp [obC_mk]) (by simp [Nat.add_assoc])) ⟨by simp, hx2, fun y => by simp [hx3]⟩ fun ⟨j, ej⟩ ⟨hj, hjn, hjm⟩ => ?_
      dsimp only at hj hjn hjm ⊢
      simp -implicitDefEqProofs (maxSteps := 2000000) (disch := omega) [-getElem?_pos]
      refine .mk (fun hq => ?_) fun hq => ?_
      · simp -implicitDefEqProofs (maxSteps := 2000000) (disch := omega) [-getElem?_pos]
        refine ⟨by omega, ?_⟩
        intro y hy
        simp -implicitDefEqProofs (maxSteps := 2000000) (disch := omega) [-getElem?_pos, WMap_mS, keysOk_str, merase_str]
        refine ⟨⟨j + 1, ej.erase y⟩, ⟨by dsimp only; omega, hjn.erase _, fun z => ?_⟩, by dsimp only; omega, .eq2 (by simp [mS]) (by simp)⟩
        rw [hjn.mem_erase_iff, hjm, List.take_add_one, hy, List.mem_append]
        simp
        constructor
        · rintro ⟨h1, h2, h3⟩
          exact ⟨h2, h3, h1⟩
        · rintro ⟨h1, h2, h3⟩
          exact ⟨h3, h1, h2⟩
      · simp -implicitDefEqProofs (maxSteps := 2000000) (disch := omega) [-getElem?_pos]
        have hel := nodup_len hjn fun y hy => ((hjm y).1 hy).1
        refine (k_Copy (ld := es) (ls := ej) (by omega) (by simp) (by simp) (by omega) (by omega)).mono fun r σ' hr => ?_
        obtain ⟨rfl, l', hl1, hl2, hl3, rfl⟩ := hr
        simp -implicitDefEqProofs (maxSteps := 2000000) (disch := omega) [-getElem?_pos]
        refine ⟨⟨i + 1, l'⟩, ⟨by dsimp only; omega, hl1, fun y => ?_⟩, by dsimp only; omega, .dropX (ys := [obC (.mk k n s t ns l), mS l']) (xs := [X, obC x, mS ej]) (by simp) rfl (by simp) low2 (by simp) (by simp)⟩
        rw [hs, hl2, hmem, hjm, List.mem_append, List.mem_filter, List.take_of_length_le (by omega)]
        simp
    · simp -implicitDefEqProofs (maxSteps := 2000000) (disch := omega) [-getElem?_pos]
      have hie : A i = A l.length := by rw [a2 i (by omega), a2 _ (Nat.le_refl _)]
      rw [hie] at hmem
      exact ⟨_, _, WeakR.refl _ _ _, es, ⟨hnd, hmem⟩, rfl, rfl⟩


theorem sort_of {es : List Str} {e : Co} (h : FV es e) : sortS es = ofS (fvs e) := by
  have hp : (sortS es).Perm es := List.mergeSort_perm es _
  have hs : Asc (sortS es) := by
    have h1 := List.pairwise_mergeSort (le := fun x y : Str => decide (x ≤ y)) (fun a b c h1 h2 => by simp at *; exact List.le_trans h1 h2) (fun a b => by simp; exact List.le_total a b) es
    have h2 : (sortS es).Nodup := hp.nodup_iff.2 h.1
    refine List.Pairwise.imp (fun {a b} (h : decide (a ≤ b) = true ∧ a ≠ b) => ?_) (h1.and h2)
    rcases List.le_iff_lt_or_eq.1 (of_decide_eq_true h.1) with h3 | h3
    · exact h3
    · exact absurd h3 h.2
  exact hs.ext (ofS_asc _).1 fun x => by rw [hp.mem_iff, h.2, (ofS_asc _).2]
theorem k_Free (e : Co) {σ : Sg} (he : csz e ≤ 1048576) : ACalls Tryd.prog 19 [.v (encC e)] σ fun r σ' => r = .v (vS (ofS (fvs e))) ∧ σ' = σ := by
  have hl := fvs_len e
  have hc := fun σ => k_Ffree e (σ := σ) he
  cases e with
  | mk k n s t ns l =>
  rw [encC_mk] at hc ⊢
  refine acalls_fit Tryd.func19 (by kernel_rfl) c19 rfl (by simp [a19]) fun hf => ?_
  clear hf
  simp -implicitDefEqProofs (maxSteps := 2000000) (disch := omega) [-getElem?_pos, a19]
  refine (hc _).mono fun r σ' hr => ?_
  obtain ⟨es, hfv, rfl, rfl⟩ := hr
  have hel := nodup_len hfv.1 fun y hy => (hfv.2 y).1 hy
  generalize Co.mk k n s t ns l = e at *
  simp -implicitDefEqProofs (maxSteps := 2000000) (disch := omega) [-getElem?_pos]
  refine k_Keys.mono fun r σ' hr => ?_
  obtain ⟨rfl, rfl⟩ := hr
  simp -implicitDefEqProofs (maxSteps := 2000000) (disch := omega) [-getElem?_pos]
  refine (k_Sorted (l := es) (by simp; rfl) (by simp [Nat.add_assoc]) (by omega)).then fun r hr => ?_
  subst hr
  simp -implicitDefEqProofs (maxSteps := 2000000) (disch := omega) [-getElem?_pos]
  exact .fin _ ⟨by rw [sort_of hfv], rfl⟩ (.refl _)
end Go.Proofs.YtbifjffjibnjjaaDoor

/-
  Folding, walked: a Let. (Own work.)
-/
set_option linter.unusedVariables false
set_option linter.unusedSimpArgs false
set_option maxHeartbeats 1000000
namespace Go.Proofs.YtbifjffjibnjjaaDoor
open Go Go.Abs

theorem k_Let {F : Co → Co} {e : Co} {σ : Sg} (hF : ∀ e' σ, csz e' < csz e → ACalls Tryd.prog 26 [.v (encC e')] σ fun r σ' => r = .v (encC (F e')) ∧ σ' = σ) (hc : csz e ≤ 1048576) :
    ACalls Tryd.prog 80 [.v (encC e)] σ fun r σ' => r = .v (encC (letC F e)) ∧ σ' = σ := by
  obtain ⟨k, n, s, t, ns, l⟩ := e
  rw [letC_mk]
  rw [encC_mk]
  refine acalls_fit Tryd.func80 (by kernel_rfl) c80 rfl (by simp [a80]) fun hf => ?_
  clear hf
  by_cases hl : l.length ≠ 2
  · have hli : ¬ (l.length : Int) = 2 := by omega
    rw [if_pos hl, encC_mk]
    simp -implicitDefEqProofs (maxSteps := 2000000) (disch := omega) [-getElem?_pos, a80, hli]
    exact .fin _ ⟨rfl, rfl⟩ (.refl _)
  rw [if_neg hl]
  match l, show l.length = 2 by omega with
  | [a, b], _ =>
  have hp0 : prt [a, b] 0 = a := rfl
  have hp1 : prt [a, b] 1 = b := rfl
  rw [hp0, hp1]
  simp only [csz, cszL] at hF hc
  have hpl := fun σ => k_Plain (e := a) (σ := σ)
  have hfr := fun σ => k_Free b (σ := σ) (by omega)
  have hpu := fun σ => k_Put s (nOf a) b (σ := σ) (by omega)
  have hfo := fun σ => hF (putC s (nOf a) b) σ (by have := (sub_put s (nOf a) b).1; omega)
  generalize putC s (nOf a) b = pb at hpu hfo ⊢
  generalize hfb : F pb = fb at hfo ⊢
  obtain ⟨k1, n1, s1, t1, ns1, l1⟩ := a
  obtain ⟨k2, n2, s2, t2, ns2, l2⟩ := b
  obtain ⟨k3, n3, s3, t3, ns3, l3⟩ := pb
  obtain ⟨k4, n4, s4, t4, ns4, l4⟩ := fb
  have hk : knd (.mk k1 n1 s1 t1 ns1 l1) = k1 := rfl
  have hn : nOf (.mk k1 n1 s1 t1 ns1 l1) = n1 := rfl
  rw [hk]
  rw [hn] at hpu
  rw [encC_mk] at hpl hfr hpu hfo
  rw [encC_mk] at hpu hfo
  simp only [List.map_cons, List.map_nil]
  have hco := fun σ => k_ContainsS (l := ofS (fvs (.mk k2 n2 s2 t2 ns2 l2))) (x := s) (σ := σ)
  simp only [(ofS_asc _).2] at hco
  by_cases hp : plainC (.mk k1 n1 s1 t1 ns1 l1) = true
  · rw [hp] at hpl
    by_cases hm : s ∈ fvs (.mk k2 n2 s2 t2 ns2 l2)
    · rw [if_neg (fun h => h.2 hm)]
      simp only [hm, decide_true] at hco
      by_cases hk1 : k1 = 1
      · rw [if_pos hk1]
        subst hk1
        simp only [encC_mk]
        simp -implicitDefEqProofs (maxSteps := 2000000) (disch := omega) [-getElem?_pos, a80]
        refine (hpl _).then fun r hr => ?_
        subst hr
        simp -implicitDefEqProofs (maxSteps := 2000000) (disch := omega) [-getElem?_pos]
        refine (hfr _).then fun r hr => ?_
        subst hr
        simp -implicitDefEqProofs (maxSteps := 2000000) (disch := omega) [-getElem?_pos]
        refine (hco _).then fun r hr => ?_
        subst hr
        simp -implicitDefEqProofs (maxSteps := 2000000) (disch := omega) [-getElem?_pos]
        refine (hpu _).then fun r hr => ?_
        subst hr
        simp -implicitDefEqProofs (maxSteps := 2000000) (disch := omega) [-getElem?_pos]
        refine (hfo _).then fun r hr => ?_
        subst hr
        simp -implicitDefEqProofs (maxSteps := 2000000) (disch := omega) [-getElem?_pos]
        exact .fin _ ⟨rfl, rfl⟩ (.refl _)

      · rw [if_neg hk1]
        simp only [encC_mk]
        simp -implicitDefEqProofs (maxSteps := 2000000) (disch := omega) [-getElem?_pos, a80]
        refine (hpl _).then fun r hr => ?_
        subst hr
        simp -implicitDefEqProofs (maxSteps := 2000000) (disch := omega) [-getElem?_pos]
        refine (hfr _).then fun r hr => ?_
        subst hr
        simp -implicitDefEqProofs (maxSteps := 2000000) (disch := omega) [-getElem?_pos]
        refine (hco _).then fun r hr => ?_
        subst hr
        simp -implicitDefEqProofs (maxSteps := 2000000) (disch := omega) [-getElem?_pos, hk1]
        refine .fin _ ⟨?_, rfl⟩ (.refl _)
        simp only [encC_mk]

    · rw [if_pos ⟨hp, hm⟩]
      simp only [hm, decide_false] at hco
      simp only [encC_mk]
      simp -implicitDefEqProofs (maxSteps := 2000000) (disch := omega) [-getElem?_pos, a80]
      refine (hpl _).then fun r hr => ?_
      subst hr
      simp -implicitDefEqProofs (maxSteps := 2000000) (disch := omega) [-getElem?_pos]
      refine (hfr _).then fun r hr => ?_
      subst hr
      simp -implicitDefEqProofs (maxSteps := 2000000) (disch := omega) [-getElem?_pos]
      refine (hco _).then fun r hr => ?_
      subst hr
      simp -implicitDefEqProofs (maxSteps := 2000000) (disch := omega) [-getElem?_pos]
      exact .fin _ ⟨rfl, rfl⟩ (.refl _)
  · rw [if_neg (fun h => hp h.1)]
    rw [Bool.not_eq_true] at hp
    rw [hp] at hpl
    by_cases hk1 : k1 = 1
    · subst hk1
      cases hp
    · rw [if_neg hk1]
      simp only [encC_mk]
      simp -implicitDefEqProofs (maxSteps := 2000000) (disch := omega) [-getElem?_pos, a80]
      refine (hpl _).then fun r hr => ?_
      subst hr
      simp -implicitDefEqProofs (maxSteps := 2000000) (disch := omega) [-getElem?_pos, hk1]
      refine .fin _ ⟨?_, rfl⟩ (.refl _)
      simp only [encC_mk]
end Go.Proofs.YtbifjffjibnjjaaDoor
