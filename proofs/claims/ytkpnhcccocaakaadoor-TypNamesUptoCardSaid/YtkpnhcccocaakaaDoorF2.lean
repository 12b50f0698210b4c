/-
  The bodies of functions, in the small language: printed by program, proved by the kernel's computing. (Own work.)
-/
import Derived.Shelf.Small.Strs
import Derived.Shelf.Small.Bits
import Derived.Test.YtkpnhcccocaakaaDoorAbsU
import Derived.Test.YtkpnhcccocaakaaDoorChecked
namespace Go.Proofs.YtkpnhcccocaakaaDoor
open Go Go.Abs

/- slices.SortFunc[[]int,int] -/
def a58 : AFun := ⟨14, [], (.seq (.reg [4] [⟨(some 5), none, .mv (.t 0)⟩,
       ⟨(some 6), none, .len .sl (.t 5)⟩,
       ⟨(some 4), none, .mv (.t 6)⟩])
  (.reg [] [⟨(some 7), none, .mv (.t 0)⟩,
      ⟨(some 8), none, .mv (.t 4)⟩,
      ⟨(some 9), none, .mv (.t 4)⟩,
      ⟨(some 10), none, .conv (.toInt .u64) (.t 9)⟩,
      ⟨(some 11), none, .call (.c (.fn 66)) [(.t 10)]⟩,
      ⟨(some 12), none, .mv (.t 1)⟩,
      ⟨(some 13), none, .call (.c (.fn 65)) [(.t 7), (.c (.int .i64 0)), (.t 8), (.t 11), (.t 12)]⟩]))⟩
theorem c58 : compF Tryd.prog [0, 1, 4] Tryd.f58 = some a58 := by kernel_rfl

/- slices.pdqsortCmpFunc[int] -/
def a65 : AFun := ⟨148, [], (.seq (.reg [10] [⟨(some 10), none, .mv (.c (.bool true))⟩])
  (.seq (.reg [11] [⟨(some 11), none, .mv (.c (.bool true))⟩])
  (.block 0 (.loop (.block 1 (.seq (.reg [12] [⟨(some 21), none, .mv (.t 2)⟩,
          ⟨(some 22), none, .mv (.t 1)⟩,
          ⟨(some 23), none, .bin .sub .other false (.t 21) (.t 22)⟩,
          ⟨(some 12), none, .mv (.t 23)⟩])
     (.seq (.seq (.reg [25] [⟨(some 24), none, .mv (.t 12)⟩,
           ⟨(some 25), none, .bin .leq .other true (.t 24) (.c (.int .i64 12))⟩])
      (.cond (.t 25) (.seq (.reg [] [⟨(some 26), none, .mv (.t 0)⟩,
             ⟨(some 27), none, .mv (.t 1)⟩,
             ⟨(some 28), none, .mv (.t 2)⟩,
             ⟨(some 29), none, .mv (.t 4)⟩,
             ⟨(some 30), none, .call (.c (.fn 74)) [(.t 26), (.t 27), (.t 28), (.t 29)]⟩])
        .ret)
      .skip))
     (.seq (.seq (.reg [32] [⟨(some 31), none, .mv (.t 3)⟩,
           ⟨(some 32), none, .bin .eql .other true (.t 31) (.c (.int .i64 0))⟩])
      (.cond (.t 32) (.seq (.reg [] [⟨(some 33), none, .mv (.t 0)⟩,
             ⟨(some 34), none, .mv (.t 1)⟩,
             ⟨(some 35), none, .mv (.t 2)⟩,
             ⟨(some 36), none, .mv (.t 4)⟩,
             ⟨(some 37), none, .call (.c (.fn 75)) [(.t 33), (.t 34), (.t 35), (.t 36)]⟩])
        .ret)
      .skip))
     (.seq (.seq (.reg [39] [⟨(some 38), none, .mv (.t 10)⟩,
           ⟨(some 39), none, .un .not (.t 38)⟩])
      (.cond (.t 39) (.seq (.reg [] [⟨(some 40), none, .mv (.t 0)⟩,
             ⟨(some 41), none, .mv (.t 1)⟩,
             ⟨(some 42), none, .mv (.t 2)⟩,
             ⟨(some 43), none, .mv (.t 4)⟩,
             ⟨(some 44), none, .call (.c (.fn 76)) [(.t 40), (.t 41), (.t 42), (.t 43)]⟩])
        (.reg [3] [⟨(some 45), none, .mv (.t 3)⟩,
            ⟨(some 46), none, .bin .sub .other true (.t 45) (.c (.int .i64 1))⟩,
            ⟨(some 3), none, .mv (.t 46)⟩]))
      .skip))
     (.seq (.reg [13, 14] [⟨(some 48), none, .mv (.t 0)⟩,
          ⟨(some 49), none, .mv (.t 1)⟩,
          ⟨(some 50), none, .mv (.t 2)⟩,
          ⟨(some 51), none, .mv (.t 4)⟩,
          ⟨(some 52), none, .call (.c (.fn 77)) [(.t 48), (.t 49), (.t 50), (.t 51)]⟩,
          ⟨(some 47), none, .mv (.t 52)⟩,
          ⟨(some 53), none, .extract (.t 47) 0⟩,
          ⟨(some 54), none, .extract (.t 47) 1⟩,
          ⟨(some 13), none, .mv (.t 53)⟩,
          ⟨(some 14), none, .mv (.t 54)⟩])
     (.seq (.seq (.reg [56] [⟨(some 55), none, .mv (.t 14)⟩,
           ⟨(some 56), none, .bin .eql .other true (.t 55) (.c (.int .i64 2))⟩])
      (.cond (.t 56) (.seq (.reg [] [⟨(some 57), none, .mv (.t 0)⟩,
             ⟨(some 58), none, .mv (.t 1)⟩,
             ⟨(some 59), none, .mv (.t 2)⟩,
             ⟨(some 60), none, .mv (.t 4)⟩,
             ⟨(some 61), none, .call (.c (.fn 78)) [(.t 57), (.t 58), (.t 59), (.t 60)]⟩])
        (.seq (.reg [13] [⟨(some 62), none, .mv (.t 2)⟩,
             ⟨(some 63), none, .bin .sub .other true (.t 62) (.c (.int .i64 1))⟩,
             ⟨(some 64), none, .mv (.t 13)⟩,
             ⟨(some 65), none, .mv (.t 1)⟩,
             ⟨(some 66), none, .bin .sub .other false (.t 64) (.t 65)⟩,
             ⟨(some 67), none, .bin .sub .other false (.t 63) (.t 66)⟩,
             ⟨(some 13), none, .mv (.t 67)⟩])
        (.reg [14] [⟨(some 14), none, .mv (.c (.int .i64 1))⟩])))
      .skip))
     (.seq (.seq (.reg [75] [⟨(some 68), none, .mv (.t 10)⟩,
           ⟨(some 69), none, .mv (.t 68)⟩,
           ⟨(some 70), (some (69, true)), .mv (.t 11)⟩,
           ⟨(some 71), none, .pick (.t 69) (.t 70) (.c (.bool false))⟩,
           ⟨(some 72), none, .mv (.t 71)⟩,
           ⟨(some 73), (some (72, true)), .mv (.t 14)⟩,
           ⟨(some 74), (some (72, true)), .bin .eql .other true (.t 73) (.c (.int .i64 1))⟩,
           ⟨(some 75), none, .pick (.t 72) (.t 74) (.c (.bool false))⟩])
      (.cond (.t 75) (.seq (.reg [80] [⟨(some 76), none, .mv (.t 0)⟩,
             ⟨(some 77), none, .mv (.t 1)⟩,
             ⟨(some 78), none, .mv (.t 2)⟩,
             ⟨(some 79), none, .mv (.t 4)⟩,
             ⟨(some 80), none, .call (.c (.fn 79)) [(.t 76), (.t 77), (.t 78), (.t 79)]⟩])
        (.cond (.t 80) .ret
        .skip))
      .skip))
     (.seq (.seq (.any [97] [(⟨(some 81), none, .mv (.t 1)⟩, true),
           (⟨(some 82), none, .bin .gtr .other true (.t 81) (.c (.int .i64 0))⟩, true),
           (⟨(some 83), none, .mv (.t 82)⟩, true),
           (⟨(some 84), (some (83, true)), .mv (.t 4)⟩, true),
           (⟨(some 85), (some (83, true)), .mv (.t 0)⟩, false),
           (⟨(some 86), (some (83, true)), .mv (.t 1)⟩, false),
           (⟨(some 87), (some (83, true)), .bin .sub .other true (.t 86) (.c (.int .i64 1))⟩, false),
           (⟨(some 88), (some (83, true)), .iaddr none (.t 85) (.t 87)⟩, false),
           (⟨(some 89), (some (83, true)), .load none (.t 88)⟩, false),
           (⟨(some 90), (some (83, true)), .mv (.t 0)⟩, false),
           (⟨(some 91), (some (83, true)), .mv (.t 13)⟩, false),
           (⟨(some 92), (some (83, true)), .iaddr none (.t 90) (.t 91)⟩, false),
           (⟨(some 93), (some (83, true)), .load none (.t 92)⟩, false),
           (⟨(some 94), (some (83, true)), .call (.t 84) [(.t 89), (.t 93)]⟩, true),
           (⟨(some 95), (some (83, true)), .bin .lss .other true (.t 94) (.c (.int .i64 0))⟩, true),
           (⟨(some 96), (some (83, true)), .un .not (.t 95)⟩, true),
           (⟨(some 97), none, .pick (.t 83) (.t 96) (.c (.bool false))⟩, true)])
      (.cond (.t 97) (.seq (.reg [15] [⟨(some 98), none, .mv (.t 0)⟩,
             ⟨(some 99), none, .mv (.t 1)⟩,
             ⟨(some 100), none, .mv (.t 2)⟩,
             ⟨(some 101), none, .mv (.t 13)⟩,
             ⟨(some 102), none, .mv (.t 4)⟩,
             ⟨(some 103), none, .call (.c (.fn 80)) [(.t 98), (.t 99), (.t 100), (.t 101), (.t 102)]⟩,
             ⟨(some 15), none, .mv (.t 103)⟩])
        (.seq (.reg [1] [⟨(some 104), none, .mv (.t 15)⟩,
             ⟨(some 1), none, .mv (.t 104)⟩])
        (.exit 1)))
      .skip))
     (.seq (.reg [16, 17] [⟨(some 106), none, .mv (.t 0)⟩,
          ⟨(some 107), none, .mv (.t 1)⟩,
          ⟨(some 108), none, .mv (.t 2)⟩,
          ⟨(some 109), none, .mv (.t 13)⟩,
          ⟨(some 110), none, .mv (.t 4)⟩,
          ⟨(some 111), none, .call (.c (.fn 81)) [(.t 106), (.t 107), (.t 108), (.t 109), (.t 110)]⟩,
          ⟨(some 105), none, .mv (.t 111)⟩,
          ⟨(some 112), none, .extract (.t 105) 0⟩,
          ⟨(some 113), none, .extract (.t 105) 1⟩,
          ⟨(some 16), none, .mv (.t 112)⟩,
          ⟨(some 17), none, .mv (.t 113)⟩])
     (.seq (.reg [11] [⟨(some 114), none, .mv (.t 17)⟩,
          ⟨(some 11), none, .mv (.t 114)⟩])
     (.seq (.reg [18, 19] [⟨(some 115), none, .mv (.t 16)⟩,
          ⟨(some 116), none, .mv (.t 1)⟩,
          ⟨(some 117), none, .bin .sub .other false (.t 115) (.t 116)⟩,
          ⟨(some 118), none, .mv (.t 2)⟩,
          ⟨(some 119), none, .mv (.t 16)⟩,
          ⟨(some 120), none, .bin .sub .other false (.t 118) (.t 119)⟩,
          ⟨(some 18), none, .mv (.t 117)⟩,
          ⟨(some 19), none, .mv (.t 120)⟩])
     (.seq (.reg [20] [⟨(some 121), none, .mv (.t 12)⟩,
          ⟨(some 122), none, .bin .quo .other true (.t 121) (.c (.int .i64 8))⟩,
          ⟨(some 20), none, .mv (.t 122)⟩])
     (.seq (.reg [125] [⟨(some 123), none, .mv (.t 18)⟩,
          ⟨(some 124), none, .mv (.t 19)⟩,
          ⟨(some 125), none, .bin .lss .other false (.t 123) (.t 124)⟩])
     (.cond (.t 125) (.seq (.reg [10] [⟨(some 126), none, .mv (.t 18)⟩,
            ⟨(some 127), none, .mv (.t 20)⟩,
            ⟨(some 128), none, .bin .geq .other false (.t 126) (.t 127)⟩,
            ⟨(some 10), none, .mv (.t 128)⟩])
       (.seq (.reg [] [⟨(some 129), none, .mv (.t 0)⟩,
            ⟨(some 130), none, .mv (.t 1)⟩,
            ⟨(some 131), none, .mv (.t 16)⟩,
            ⟨(some 132), none, .mv (.t 3)⟩,
            ⟨(some 133), none, .mv (.t 4)⟩,
            ⟨(some 134), none, .call (.c (.fn 65)) [(.t 129), (.t 130), (.t 131), (.t 132), (.t 133)]⟩])
       (.reg [1] [⟨(some 135), none, .mv (.t 16)⟩,
           ⟨(some 136), none, .bin .add .other true (.t 135) (.c (.int .i64 1))⟩,
           ⟨(some 1), none, .mv (.t 136)⟩])))
     (.seq (.reg [10] [⟨(some 137), none, .mv (.t 19)⟩,
          ⟨(some 138), none, .mv (.t 20)⟩,
          ⟨(some 139), none, .bin .geq .other false (.t 137) (.t 138)⟩,
          ⟨(some 10), none, .mv (.t 139)⟩])
     (.seq (.reg [] [⟨(some 140), none, .mv (.t 0)⟩,
          ⟨(some 141), none, .mv (.t 16)⟩,
          ⟨(some 142), none, .bin .add .other true (.t 141) (.c (.int .i64 1))⟩,
          ⟨(some 143), none, .mv (.t 2)⟩,
          ⟨(some 144), none, .mv (.t 3)⟩,
          ⟨(some 145), none, .mv (.t 4)⟩,
          ⟨(some 146), none, .call (.c (.fn 65)) [(.t 140), (.t 142), (.t 143), (.t 144), (.t 145)]⟩])
     (.reg [2] [⟨(some 147), none, .mv (.t 16)⟩,
         ⟨(some 2), none, .mv (.t 147)⟩]))))))))))))))))))))))⟩
theorem c65 : compF Tryd.prog [0, 1, 2, 3, 4, 10, 11, 12, 13, 14, 15, 16, 17, 18, 19, 20, 25, 32, 39, 56, 75, 80, 97, 125] Tryd.f65 = some a65 := by kernel_rfl

/- slices.insertionSortCmpFunc[int] -/
def a74 : AFun := ⟨53, [], (.seq (.reg [8] [⟨(some 10), none, .mv (.t 1)⟩,
       ⟨(some 11), none, .bin .add .other true (.t 10) (.c (.int .i64 1))⟩,
       ⟨(some 8), none, .mv (.t 11)⟩])
  (.block 0 (.loop (.seq (.seq (.reg [14] [⟨(some 12), none, .mv (.t 8)⟩,
          ⟨(some 13), none, .mv (.t 2)⟩,
          ⟨(some 14), none, .bin .lss .other false (.t 12) (.t 13)⟩])
     (.cond (.t 14) .skip
     (.exit 0)))
    (.seq (.block 1 (.seq (.reg [9] [⟨(some 17), none, .mv (.t 8)⟩,
           ⟨(some 9), none, .mv (.t 17)⟩])
      (.block 2 (.loop (.seq (.seq (.any [34] [(⟨(some 18), none, .mv (.t 9)⟩, true),
              (⟨(some 19), none, .mv (.t 1)⟩, false),
              (⟨(some 20), none, .bin .gtr .other false (.t 18) (.t 19)⟩, true),
              (⟨(some 21), none, .mv (.t 20)⟩, true),
              (⟨(some 22), (some (21, true)), .mv (.t 3)⟩, true),
              (⟨(some 23), (some (21, true)), .mv (.t 0)⟩, false),
              (⟨(some 24), (some (21, true)), .mv (.t 9)⟩, false),
              (⟨(some 25), (some (21, true)), .iaddr none (.t 23) (.t 24)⟩, false),
              (⟨(some 26), (some (21, true)), .load none (.t 25)⟩, false),
              (⟨(some 27), (some (21, true)), .mv (.t 0)⟩, false),
              (⟨(some 28), (some (21, true)), .mv (.t 9)⟩, false),
              (⟨(some 29), (some (21, true)), .bin .sub .other true (.t 28) (.c (.int .i64 1))⟩, false),
              (⟨(some 30), (some (21, true)), .iaddr none (.t 27) (.t 29)⟩, false),
              (⟨(some 31), (some (21, true)), .load none (.t 30)⟩, false),
              (⟨(some 32), (some (21, true)), .call (.t 22) [(.t 26), (.t 31)]⟩, true),
              (⟨(some 33), (some (21, true)), .bin .lss .other true (.t 32) (.c (.int .i64 0))⟩, true),
              (⟨(some 34), none, .pick (.t 21) (.t 33) (.c (.bool false))⟩, true)])
         (.cond (.t 34) .skip
         (.exit 2)))
        (.seq (.block 3 (.any [] [(⟨(some 37), none, .mv (.t 0)⟩, true),
              (⟨(some 38), none, .mv (.t 9)⟩, false),
              (⟨(some 39), none, .mv (.t 0)⟩, false),
              (⟨(some 40), none, .mv (.t 9)⟩, false),
              (⟨(some 41), none, .bin .sub .other true (.t 40) (.c (.int .i64 1))⟩, false),
              (⟨(some 42), none, .mv (.t 0)⟩, false),
              (⟨(some 43), none, .mv (.t 9)⟩, false),
              (⟨(some 44), none, .bin .sub .other true (.t 43) (.c (.int .i64 1))⟩, false),
              (⟨(some 45), none, .iaddr none (.t 42) (.t 44)⟩, false),
              (⟨(some 46), none, .load none (.t 45)⟩, false),
              (⟨(some 47), none, .mv (.t 0)⟩, false),
              (⟨(some 48), none, .mv (.t 9)⟩, false),
              (⟨(some 49), none, .iaddr none (.t 47) (.t 48)⟩, false),
              (⟨(some 50), none, .load none (.t 49)⟩, false),
              (⟨(some 51), none, .iaddr none (.t 37) (.t 38)⟩, false),
              (⟨none, none, .store 1 (.t 51) (.t 46)⟩, false),
              (⟨(some 52), none, .iaddr none (.t 39) (.t 41)⟩, true),
              (⟨none, none, .store 1 (.t 52) (.t 50)⟩, true)]))
        (.reg [9] [⟨(some 35), none, .mv (.t 9)⟩,
            ⟨(some 36), none, .bin .sub .other true (.t 35) (.c (.int .i64 1))⟩,
            ⟨(some 9), none, .mv (.t 36)⟩])))))))
    (.reg [8] [⟨(some 15), none, .mv (.t 8)⟩,
        ⟨(some 16), none, .bin .add .other true (.t 15) (.c (.int .i64 1))⟩,
        ⟨(some 8), none, .mv (.t 16)⟩]))))))⟩
theorem c74 : compF Tryd.prog [0, 1, 2, 3, 8, 9, 14, 34] Tryd.f74 = some a74 := by kernel_rfl

/- slices.choosePivotCmpFunc[int] -/
def a77 : AFun := ⟨63, [.tmp 8, .tmp 9], (.seq (.reg [8, 9] [⟨(some 8), none, .mv (.c (.int .i64 0))⟩,
       ⟨(some 9), none, .mv (.c (.int .i64 0))⟩])
  (.seq (.reg [10] [⟨(some 15), none, .mv (.t 2)⟩,
       ⟨(some 16), none, .mv (.t 1)⟩,
       ⟨(some 17), none, .bin .sub .other false (.t 15) (.t 16)⟩,
       ⟨(some 10), none, .mv (.t 17)⟩])
  (.seq (.reg [11] [⟨(some 11), none, .alloc [(.int .i64 0)]⟩])
  (.seq (.reg [12] [⟨(some 18), none, .mv (.t 1)⟩,
       ⟨(some 19), none, .mv (.t 10)⟩,
       ⟨(some 20), none, .bin .quo .other true (.t 19) (.c (.int .i64 4))⟩,
       ⟨(some 21), none, .bin .mul .other true (.t 20) (.c (.int .i64 1))⟩,
       ⟨(some 22), none, .bin .add .other false (.t 18) (.t 21)⟩,
       ⟨(some 12), none, .mv (.t 22)⟩])
  (.seq (.reg [13] [⟨(some 23), none, .mv (.t 1)⟩,
       ⟨(some 24), none, .mv (.t 10)⟩,
       ⟨(some 25), none, .bin .quo .other true (.t 24) (.c (.int .i64 4))⟩,
       ⟨(some 26), none, .bin .mul .other true (.t 25) (.c (.int .i64 2))⟩,
       ⟨(some 27), none, .bin .add .other false (.t 23) (.t 26)⟩,
       ⟨(some 13), none, .mv (.t 27)⟩])
  (.seq (.reg [14] [⟨(some 28), none, .mv (.t 1)⟩,
       ⟨(some 29), none, .mv (.t 10)⟩,
       ⟨(some 30), none, .bin .quo .other true (.t 29) (.c (.int .i64 4))⟩,
       ⟨(some 31), none, .bin .mul .other true (.t 30) (.c (.int .i64 3))⟩,
       ⟨(some 32), none, .bin .add .other false (.t 28) (.t 31)⟩,
       ⟨(some 14), none, .mv (.t 32)⟩])
  (.seq (.seq (.reg [34] [⟨(some 33), none, .mv (.t 10)⟩,
        ⟨(some 34), none, .bin .geq .other true (.t 33) (.c (.int .i64 8))⟩])
   (.cond (.t 34) (.seq (.seq (.reg [36] [⟨(some 35), none, .mv (.t 10)⟩,
           ⟨(some 36), none, .bin .geq .other true (.t 35) (.c (.int .i64 50))⟩])
      (.cond (.t 36) (.seq (.reg [12] [⟨(some 37), none, .mv (.t 0)⟩,
             ⟨(some 38), none, .mv (.t 12)⟩,
             ⟨(some 39), none, .mv (.t 3)⟩,
             ⟨(some 40), none, .call (.c (.fn 94)) [(.t 37), (.t 38), (.t 11), (.t 39)]⟩,
             ⟨(some 12), none, .mv (.t 40)⟩])
        (.seq (.reg [13] [⟨(some 41), none, .mv (.t 0)⟩,
             ⟨(some 42), none, .mv (.t 13)⟩,
             ⟨(some 43), none, .mv (.t 3)⟩,
             ⟨(some 44), none, .call (.c (.fn 94)) [(.t 41), (.t 42), (.t 11), (.t 43)]⟩,
             ⟨(some 13), none, .mv (.t 44)⟩])
        (.reg [14] [⟨(some 45), none, .mv (.t 0)⟩,
            ⟨(some 46), none, .mv (.t 14)⟩,
            ⟨(some 47), none, .mv (.t 3)⟩,
            ⟨(some 48), none, .call (.c (.fn 94)) [(.t 45), (.t 46), (.t 11), (.t 47)]⟩,
            ⟨(some 14), none, .mv (.t 48)⟩])))
      .skip))
     (.reg [13] [⟨(some 49), none, .mv (.t 0)⟩,
         ⟨(some 50), none, .mv (.t 12)⟩,
         ⟨(some 51), none, .mv (.t 13)⟩,
         ⟨(some 52), none, .mv (.t 14)⟩,
         ⟨(some 53), none, .mv (.t 3)⟩,
         ⟨(some 54), none, .call (.c (.fn 95)) [(.t 49), (.t 50), (.t 51), (.t 52), (.t 11), (.t 53)]⟩,
         ⟨(some 13), none, .mv (.t 54)⟩]))
   .skip))
  (.seq (.reg [55] [⟨(some 55), none, .load none (.t 11)⟩])
  (.block 0 (.seq (.reg [57] [⟨(some 58), none, .bin .eql .other true (.t 55) (.c (.int .i64 0))⟩,
        ⟨(some 57), none, .mv (.t 58)⟩])
   (.cond (.t 57) (.seq (.reg [8, 9] [⟨(some 59), none, .mv (.t 13)⟩,
          ⟨(some 8), none, .mv (.t 59)⟩,
          ⟨(some 9), none, .mv (.c (.int .i64 1))⟩])
     .ret)
   (.seq (.reg [60] [⟨(some 61), none, .bin .eql .other true (.t 55) (.c (.int .i64 12))⟩,
        ⟨(some 60), none, .mv (.t 61)⟩])
   (.cond (.t 60) (.seq (.reg [8, 9] [⟨(some 62), none, .mv (.t 13)⟩,
          ⟨(some 8), none, .mv (.t 62)⟩,
          ⟨(some 9), none, .mv (.c (.int .i64 2))⟩])
     .ret)
   (.seq (.reg [8, 9] [⟨(some 56), none, .mv (.t 13)⟩,
        ⟨(some 8), none, .mv (.t 56)⟩,
        ⟨(some 9), none, .mv (.c (.int .i64 0))⟩])
   .ret))))))))))))))⟩
theorem c77 : compF Tryd.prog [0, 1, 2, 3, 8, 9, 10, 11, 12, 13, 14, 34, 36, 55, 57, 60] Tryd.f77 = some a77 := by kernel_rfl

/- slices.partialInsertionSortCmpFunc[int] -/
def a79 : AFun := ⟨141, [.tmp 8], (.seq (.reg [8] [⟨(some 8), none, .mv (.c (.bool false))⟩])
  (.seq (.reg [9] [⟨(some 13), none, .mv (.t 1)⟩,
       ⟨(some 14), none, .bin .add .other true (.t 13) (.c (.int .i64 1))⟩,
       ⟨(some 9), none, .mv (.t 14)⟩])
  (.seq (.seq (.reg [10] [⟨(some 10), none, .mv (.c (.int .i64 0))⟩])
   (.block 0 (.loop (.seq (.seq (.reg [16] [⟨(some 15), none, .mv (.t 10)⟩,
           ⟨(some 16), none, .bin .lss .other true (.t 15) (.c (.int .i64 5))⟩])
      (.cond (.t 16) .skip
      (.exit 0)))
     (.seq (.block 1 (.seq (.block 2 (.loop (.seq (.seq (.any [36] [(⟨(some 19), none, .mv (.t 9)⟩, true),
                (⟨(some 20), none, .mv (.t 2)⟩, false),
                (⟨(some 21), none, .bin .lss .other false (.t 19) (.t 20)⟩, true),
                (⟨(some 22), none, .mv (.t 21)⟩, true),
                (⟨(some 23), (some (22, true)), .mv (.t 3)⟩, true),
                (⟨(some 24), (some (22, true)), .mv (.t 0)⟩, false),
                (⟨(some 25), (some (22, true)), .mv (.t 9)⟩, false),
                (⟨(some 26), (some (22, true)), .iaddr none (.t 24) (.t 25)⟩, false),
                (⟨(some 27), (some (22, true)), .load none (.t 26)⟩, false),
                (⟨(some 28), (some (22, true)), .mv (.t 0)⟩, false),
                (⟨(some 29), (some (22, true)), .mv (.t 9)⟩, false),
                (⟨(some 30), (some (22, true)), .bin .sub .other true (.t 29) (.c (.int .i64 1))⟩, false),
                (⟨(some 31), (some (22, true)), .iaddr none (.t 28) (.t 30)⟩, false),
                (⟨(some 32), (some (22, true)), .load none (.t 31)⟩, false),
                (⟨(some 33), (some (22, true)), .call (.t 23) [(.t 27), (.t 32)]⟩, true),
                (⟨(some 34), (some (22, true)), .bin .lss .other true (.t 33) (.c (.int .i64 0))⟩, true),
                (⟨(some 35), (some (22, true)), .un .not (.t 34)⟩, true),
                (⟨(some 36), none, .pick (.t 22) (.t 35) (.c (.bool false))⟩, true)])
           (.cond (.t 36) .skip
           (.exit 2)))
          (.block 3 (.reg [9] [⟨(some 37), none, .mv (.t 9)⟩,
               ⟨(some 38), none, .bin .add .other true (.t 37) (.c (.int .i64 1))⟩,
               ⟨(some 9), none, .mv (.t 38)⟩])))))
       (.seq (.seq (.reg [41] [⟨(some 39), none, .mv (.t 9)⟩,
             ⟨(some 40), none, .mv (.t 2)⟩,
             ⟨(some 41), none, .bin .eql .other false (.t 39) (.t 40)⟩])
        (.cond (.t 41) (.seq (.reg [8] [⟨(some 8), none, .mv (.c (.bool true))⟩])
          .ret)
        .skip))
       (.seq (.seq (.reg [45] [⟨(some 42), none, .mv (.t 2)⟩,
             ⟨(some 43), none, .mv (.t 1)⟩,
             ⟨(some 44), none, .bin .sub .other false (.t 42) (.t 43)⟩,
             ⟨(some 45), none, .bin .lss .other true (.t 44) (.c (.int .i64 50))⟩])
        (.cond (.t 45) (.seq (.reg [8] [⟨(some 8), none, .mv (.c (.bool false))⟩])
          .ret)
        .skip))
       (.seq (.any [] [(⟨(some 46), none, .mv (.t 0)⟩, true),
            (⟨(some 47), none, .mv (.t 9)⟩, false),
            (⟨(some 48), none, .mv (.t 0)⟩, false),
            (⟨(some 49), none, .mv (.t 9)⟩, false),
            (⟨(some 50), none, .bin .sub .other true (.t 49) (.c (.int .i64 1))⟩, false),
            (⟨(some 51), none, .mv (.t 0)⟩, false),
            (⟨(some 52), none, .mv (.t 9)⟩, false),
            (⟨(some 53), none, .bin .sub .other true (.t 52) (.c (.int .i64 1))⟩, false),
            (⟨(some 54), none, .iaddr none (.t 51) (.t 53)⟩, false),
            (⟨(some 55), none, .load none (.t 54)⟩, false),
            (⟨(some 56), none, .mv (.t 0)⟩, false),
            (⟨(some 57), none, .mv (.t 9)⟩, false),
            (⟨(some 58), none, .iaddr none (.t 56) (.t 57)⟩, false),
            (⟨(some 59), none, .load none (.t 58)⟩, false),
            (⟨(some 60), none, .iaddr none (.t 46) (.t 47)⟩, false),
            (⟨none, none, .store 1 (.t 60) (.t 55)⟩, false),
            (⟨(some 61), none, .iaddr none (.t 48) (.t 50)⟩, true),
            (⟨none, none, .store 1 (.t 61) (.t 59)⟩, true)])
       (.seq (.seq (.reg [65] [⟨(some 62), none, .mv (.t 9)⟩,
             ⟨(some 63), none, .mv (.t 1)⟩,
             ⟨(some 64), none, .bin .sub .other false (.t 62) (.t 63)⟩,
             ⟨(some 65), none, .bin .geq .other true (.t 64) (.c (.int .i64 2))⟩])
        (.cond (.t 65) (.seq (.reg [11] [⟨(some 66), none, .mv (.t 9)⟩,
               ⟨(some 67), none, .bin .sub .other true (.t 66) (.c (.int .i64 1))⟩,
               ⟨(some 11), none, .mv (.t 67)⟩])
          (.block 4 (.loop (.seq (.seq (.reg [69] [⟨(some 68), none, .mv (.t 11)⟩,
                  ⟨(some 69), none, .bin .geq .other true (.t 68) (.c (.int .i64 1))⟩])
             (.cond (.t 69) .skip
             (.exit 4)))
            (.seq (.block 5 (.seq (.seq (.any [84] [(⟨(some 72), none, .mv (.t 3)⟩, true),
                    (⟨(some 73), none, .mv (.t 0)⟩, false),
                    (⟨(some 74), none, .mv (.t 11)⟩, false),
                    (⟨(some 75), none, .iaddr none (.t 73) (.t 74)⟩, false),
                    (⟨(some 76), none, .load none (.t 75)⟩, false),
                    (⟨(some 77), none, .mv (.t 0)⟩, false),
                    (⟨(some 78), none, .mv (.t 11)⟩, false),
                    (⟨(some 79), none, .bin .sub .other true (.t 78) (.c (.int .i64 1))⟩, false),
                    (⟨(some 80), none, .iaddr none (.t 77) (.t 79)⟩, false),
                    (⟨(some 81), none, .load none (.t 80)⟩, false),
                    (⟨(some 82), none, .call (.t 72) [(.t 76), (.t 81)]⟩, true),
                    (⟨(some 83), none, .bin .lss .other true (.t 82) (.c (.int .i64 0))⟩, true),
                    (⟨(some 84), none, .un .not (.t 83)⟩, true)])
               (.cond (.t 84) (.exit 4)
               .skip))
              (.any [] [(⟨(some 85), none, .mv (.t 0)⟩, true),
                  (⟨(some 86), none, .mv (.t 11)⟩, false),
                  (⟨(some 87), none, .mv (.t 0)⟩, false),
                  (⟨(some 88), none, .mv (.t 11)⟩, false),
                  (⟨(some 89), none, .bin .sub .other true (.t 88) (.c (.int .i64 1))⟩, false),
                  (⟨(some 90), none, .mv (.t 0)⟩, false),
                  (⟨(some 91), none, .mv (.t 11)⟩, false),
                  (⟨(some 92), none, .bin .sub .other true (.t 91) (.c (.int .i64 1))⟩, false),
                  (⟨(some 93), none, .iaddr none (.t 90) (.t 92)⟩, false),
                  (⟨(some 94), none, .load none (.t 93)⟩, false),
                  (⟨(some 95), none, .mv (.t 0)⟩, false),
                  (⟨(some 96), none, .mv (.t 11)⟩, false),
                  (⟨(some 97), none, .iaddr none (.t 95) (.t 96)⟩, false),
                  (⟨(some 98), none, .load none (.t 97)⟩, false),
                  (⟨(some 99), none, .iaddr none (.t 85) (.t 86)⟩, false),
                  (⟨none, none, .store 1 (.t 99) (.t 94)⟩, false),
                  (⟨(some 100), none, .iaddr none (.t 87) (.t 89)⟩, true),
                  (⟨none, none, .store 1 (.t 100) (.t 98)⟩, true)])))
            (.reg [11] [⟨(some 70), none, .mv (.t 11)⟩,
                ⟨(some 71), none, .bin .sub .other true (.t 70) (.c (.int .i64 1))⟩,
                ⟨(some 11), none, .mv (.t 71)⟩]))))))
        .skip))
       (.seq (.reg [104] [⟨(some 101), none, .mv (.t 2)⟩,
            ⟨(some 102), none, .mv (.t 9)⟩,
            ⟨(some 103), none, .bin .sub .other false (.t 101) (.t 102)⟩,
            ⟨(some 104), none, .bin .geq .other true (.t 103) (.c (.int .i64 2))⟩])
       (.cond (.t 104) (.seq (.reg [12] [⟨(some 105), none, .mv (.t 9)⟩,
              ⟨(some 106), none, .bin .add .other true (.t 105) (.c (.int .i64 1))⟩,
              ⟨(some 12), none, .mv (.t 106)⟩])
         (.block 6 (.loop (.seq (.seq (.reg [109] [⟨(some 107), none, .mv (.t 12)⟩,
                 ⟨(some 108), none, .mv (.t 2)⟩,
                 ⟨(some 109), none, .bin .lss .other false (.t 107) (.t 108)⟩])
            (.cond (.t 109) .skip
            (.exit 6)))
           (.seq (.block 7 (.seq (.seq (.any [124] [(⟨(some 112), none, .mv (.t 3)⟩, true),
                   (⟨(some 113), none, .mv (.t 0)⟩, false),
                   (⟨(some 114), none, .mv (.t 12)⟩, false),
                   (⟨(some 115), none, .iaddr none (.t 113) (.t 114)⟩, false),
                   (⟨(some 116), none, .load none (.t 115)⟩, false),
                   (⟨(some 117), none, .mv (.t 0)⟩, false),
                   (⟨(some 118), none, .mv (.t 12)⟩, false),
                   (⟨(some 119), none, .bin .sub .other true (.t 118) (.c (.int .i64 1))⟩, false),
                   (⟨(some 120), none, .iaddr none (.t 117) (.t 119)⟩, false),
                   (⟨(some 121), none, .load none (.t 120)⟩, false),
                   (⟨(some 122), none, .call (.t 112) [(.t 116), (.t 121)]⟩, true),
                   (⟨(some 123), none, .bin .lss .other true (.t 122) (.c (.int .i64 0))⟩, true),
                   (⟨(some 124), none, .un .not (.t 123)⟩, true)])
              (.cond (.t 124) (.exit 6)
              .skip))
             (.any [] [(⟨(some 125), none, .mv (.t 0)⟩, true),
                 (⟨(some 126), none, .mv (.t 12)⟩, false),
                 (⟨(some 127), none, .mv (.t 0)⟩, false),
                 (⟨(some 128), none, .mv (.t 12)⟩, false),
                 (⟨(some 129), none, .bin .sub .other true (.t 128) (.c (.int .i64 1))⟩, false),
                 (⟨(some 130), none, .mv (.t 0)⟩, false),
                 (⟨(some 131), none, .mv (.t 12)⟩, false),
                 (⟨(some 132), none, .bin .sub .other true (.t 131) (.c (.int .i64 1))⟩, false),
                 (⟨(some 133), none, .iaddr none (.t 130) (.t 132)⟩, false),
                 (⟨(some 134), none, .load none (.t 133)⟩, false),
                 (⟨(some 135), none, .mv (.t 0)⟩, false),
                 (⟨(some 136), none, .mv (.t 12)⟩, false),
                 (⟨(some 137), none, .iaddr none (.t 135) (.t 136)⟩, false),
                 (⟨(some 138), none, .load none (.t 137)⟩, false),
                 (⟨(some 139), none, .iaddr none (.t 125) (.t 126)⟩, false),
                 (⟨none, none, .store 1 (.t 139) (.t 134)⟩, false),
                 (⟨(some 140), none, .iaddr none (.t 127) (.t 129)⟩, true),
                 (⟨none, none, .store 1 (.t 140) (.t 138)⟩, true)])))
           (.reg [12] [⟨(some 110), none, .mv (.t 12)⟩,
               ⟨(some 111), none, .bin .add .other true (.t 110) (.c (.int .i64 1))⟩,
               ⟨(some 12), none, .mv (.t 111)⟩]))))))
       .skip))))))))
     (.reg [10] [⟨(some 17), none, .mv (.t 10)⟩,
         ⟨(some 18), none, .bin .add .other true (.t 17) (.c (.int .i64 1))⟩,
         ⟨(some 10), none, .mv (.t 18)⟩]))))))
  (.seq (.reg [8] [⟨(some 8), none, .mv (.c (.bool false))⟩])
  .ret))))⟩
theorem c79 : compF Tryd.prog [0, 1, 2, 3, 8, 9, 10, 11, 12, 16, 36, 41, 45, 65, 69, 84, 104, 109, 124] Tryd.f79 = some a79 := by kernel_rfl

/- slices.medianAdjacentCmpFunc[int] -/
def a94 : AFun := ⟨18, [.tmp 8], (.seq (.reg [8] [⟨(some 8), none, .mv (.c (.int .i64 0))⟩])
  (.seq (.reg [8] [⟨(some 9), none, .mv (.t 0)⟩,
       ⟨(some 10), none, .mv (.t 1)⟩,
       ⟨(some 11), none, .bin .sub .other true (.t 10) (.c (.int .i64 1))⟩,
       ⟨(some 12), none, .mv (.t 1)⟩,
       ⟨(some 13), none, .mv (.t 1)⟩,
       ⟨(some 14), none, .bin .add .other true (.t 13) (.c (.int .i64 1))⟩,
       ⟨(some 15), none, .mv (.t 2)⟩,
       ⟨(some 16), none, .mv (.t 3)⟩,
       ⟨(some 17), none, .call (.c (.fn 95)) [(.t 9), (.t 11), (.t 12), (.t 14), (.t 15), (.t 16)]⟩,
       ⟨(some 8), none, .mv (.t 17)⟩])
  .ret))⟩
theorem c94 : compF Tryd.prog [0, 1, 2, 3, 8] Tryd.f94 = some a94 := by kernel_rfl

/- slices.medianCmpFunc[int] -/
def a95 : AFun := ⟨41, [.tmp 12], (.seq (.reg [12] [⟨(some 12), none, .mv (.c (.int .i64 0))⟩])
  (.seq (.reg [1, 2] [⟨(some 14), none, .mv (.t 0)⟩,
       ⟨(some 15), none, .mv (.t 1)⟩,
       ⟨(some 16), none, .mv (.t 2)⟩,
       ⟨(some 17), none, .mv (.t 4)⟩,
       ⟨(some 18), none, .mv (.t 5)⟩,
       ⟨(some 19), none, .call (.c (.fn 98)) [(.t 14), (.t 15), (.t 16), (.t 17), (.t 18)]⟩,
       ⟨(some 13), none, .mv (.t 19)⟩,
       ⟨(some 20), none, .extract (.t 13) 0⟩,
       ⟨(some 21), none, .extract (.t 13) 1⟩,
       ⟨(some 1), none, .mv (.t 20)⟩,
       ⟨(some 2), none, .mv (.t 21)⟩])
  (.seq (.reg [2, 3] [⟨(some 23), none, .mv (.t 0)⟩,
       ⟨(some 24), none, .mv (.t 2)⟩,
       ⟨(some 25), none, .mv (.t 3)⟩,
       ⟨(some 26), none, .mv (.t 4)⟩,
       ⟨(some 27), none, .mv (.t 5)⟩,
       ⟨(some 28), none, .call (.c (.fn 98)) [(.t 23), (.t 24), (.t 25), (.t 26), (.t 27)]⟩,
       ⟨(some 22), none, .mv (.t 28)⟩,
       ⟨(some 29), none, .extract (.t 22) 0⟩,
       ⟨(some 30), none, .extract (.t 22) 1⟩,
       ⟨(some 2), none, .mv (.t 29)⟩,
       ⟨(some 3), none, .mv (.t 30)⟩])
  (.seq (.reg [1, 2] [⟨(some 32), none, .mv (.t 0)⟩,
       ⟨(some 33), none, .mv (.t 1)⟩,
       ⟨(some 34), none, .mv (.t 2)⟩,
       ⟨(some 35), none, .mv (.t 4)⟩,
       ⟨(some 36), none, .mv (.t 5)⟩,
       ⟨(some 37), none, .call (.c (.fn 98)) [(.t 32), (.t 33), (.t 34), (.t 35), (.t 36)]⟩,
       ⟨(some 31), none, .mv (.t 37)⟩,
       ⟨(some 38), none, .extract (.t 31) 0⟩,
       ⟨(some 39), none, .extract (.t 31) 1⟩,
       ⟨(some 1), none, .mv (.t 38)⟩,
       ⟨(some 2), none, .mv (.t 39)⟩])
  (.seq (.reg [12] [⟨(some 40), none, .mv (.t 2)⟩,
       ⟨(some 12), none, .mv (.t 40)⟩])
  .ret)))))⟩
theorem c95 : compF Tryd.prog [0, 1, 2, 3, 4, 5, 12] Tryd.f95 = some a95 := by kernel_rfl

/- slices.order2CmpFunc[int] -/
def a98 : AFun := ⟨32, [.tmp 10, .tmp 11], (.seq (.reg [10, 11] [⟨(some 10), none, .mv (.c (.int .i64 0))⟩,
       ⟨(some 11), none, .mv (.c (.int .i64 0))⟩])
  (.seq (.seq (.any [22] [(⟨(some 12), none, .mv (.t 4)⟩, true),
        (⟨(some 13), none, .mv (.t 0)⟩, false),
        (⟨(some 14), none, .mv (.t 2)⟩, false),
        (⟨(some 15), none, .iaddr none (.t 13) (.t 14)⟩, false),
        (⟨(some 16), none, .load none (.t 15)⟩, false),
        (⟨(some 17), none, .mv (.t 0)⟩, false),
        (⟨(some 18), none, .mv (.t 1)⟩, false),
        (⟨(some 19), none, .iaddr none (.t 17) (.t 18)⟩, false),
        (⟨(some 20), none, .load none (.t 19)⟩, false),
        (⟨(some 21), none, .call (.t 12) [(.t 16), (.t 20)]⟩, true),
        (⟨(some 22), none, .bin .lss .other true (.t 21) (.c (.int .i64 0))⟩, true)])
   (.cond (.t 22) (.seq (.reg [] [⟨(some 23), none, .mv (.t 3)⟩,
          ⟨(some 24), none, .nilck (.t 23)⟩,
          ⟨(some 25), none, .load none (.t 24)⟩,
          ⟨(some 26), none, .bin .add .other true (.t 25) (.c (.int .i64 1))⟩,
          ⟨(some 27), none, .nilck (.t 23)⟩,
          ⟨none, none, .store 1 (.t 27) (.t 26)⟩])
     (.seq (.reg [10, 11] [⟨(some 28), none, .mv (.t 2)⟩,
          ⟨(some 29), none, .mv (.t 1)⟩,
          ⟨(some 10), none, .mv (.t 28)⟩,
          ⟨(some 11), none, .mv (.t 29)⟩])
     .ret))
   .skip))
  (.seq (.reg [10, 11] [⟨(some 30), none, .mv (.t 1)⟩,
       ⟨(some 31), none, .mv (.t 2)⟩,
       ⟨(some 10), none, .mv (.t 30)⟩,
       ⟨(some 11), none, .mv (.t 31)⟩])
  .ret)))⟩
theorem c98 : compF Tryd.prog [0, 1, 2, 3, 4, 10, 11, 22] Tryd.f98 = some a98 := by kernel_rfl

section
open Go.Shelf
def cmpLays_ren : Go.Shelf.Ren := ⟨fun | 106 => 60 | 213 => 67 | 265 => 84 | n => n, fun | 9 => 9 | 3 => 3 | n => n, fun | n => n⟩
theorem cmpLays : Go.Proofs.Lays.n106 Tryd.prog cmpLays_ren := {
  mixed := by kernel_rfl
  f106 := Tryd.func60.trans (congrArg some (by kernel_rfl))
  f213 := Tryd.func67.trans (congrArg some (by kernel_rfl))
  f265 := Tryd.func84.trans (congrArg some (by kernel_rfl))
  t3 := Tryd.underlying3
  a3 := Tryd.isAgg3
  z3 := Tryd.sizeOf3
  v3 := Tryd.zeroValue3
  t9 := Tryd.underlying9
  a9 := Tryd.isAgg9
  z9 := Tryd.sizeOf9
  v9 := Tryd.zeroValue9 }
def lenLays_ren : Go.Shelf.Ren := ⟨fun | 125 => 66 | 128 => 82 | 129 => 83 | n => n, fun | 46 => 93 | 3 => 3 | 51 => 110 | 53 => 96 | 4 => 4 | 5 => 5 | 9 => 9 | n => n, fun | n => n⟩
theorem lenLays : Go.Proofs.Lays.n125 Tryd.prog lenLays_ren := {
  mixed := by kernel_rfl
  f125 := Tryd.func66.trans (congrArg some (by kernel_rfl))
  f128 := Tryd.func82.trans (congrArg some (by kernel_rfl))
  f129 := Tryd.func83.trans (congrArg some (by kernel_rfl))
  t3 := Tryd.underlying3
  a3 := Tryd.isAgg3
  z3 := Tryd.sizeOf3
  v3 := Tryd.zeroValue3
  t4 := Tryd.underlying4
  a4 := Tryd.isAgg4
  z4 := Tryd.sizeOf4
  v4 := Tryd.zeroValue4
  t5 := Tryd.underlying5
  a5 := Tryd.isAgg5
  z5 := Tryd.sizeOf5
  v5 := Tryd.zeroValue5
  t9 := Tryd.underlying9
  a9 := Tryd.isAgg9
  z9 := Tryd.sizeOf9
  v9 := Tryd.zeroValue9
  t46 := Tryd.underlying93
  a46 := Tryd.isAgg93
  z46 := Tryd.sizeOf93
  v46 := Tryd.zeroValue93
  t51 := Tryd.underlying110
  a51 := Tryd.isAgg110
  z51 := Tryd.sizeOf110
  v51 := Tryd.zeroValue110
  t53 := Tryd.underlying96
  a53 := Tryd.isAgg96
  z53 := Tryd.sizeOf96
  v53 := Tryd.zeroValue96 }
end
end Go.Proofs.YtkpnhcccocaakaaDoor
