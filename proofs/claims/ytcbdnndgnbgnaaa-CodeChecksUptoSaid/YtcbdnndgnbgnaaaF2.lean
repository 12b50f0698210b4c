/-
  The bodies of functions, in the small language: printed by program, proved by the kernel's computing. (Own work.)
-/
import Derived.Test.YtcbdnndgnbgnaaaAbsU
import Derived.Test.YtcbdnndgnbgnaaaChecked
namespace Go.Proofs.Ytcbdnndgnbgnaaa
open Go Go.Abs

/- bushel/code.counted -/
def a100 : AFun := ⟨35, [.tmp 2], (.seq (.reg [1, 2] [⟨(some 1), none, .box (.t 0)⟩,
       ⟨(some 2), none, .mv (.c (.bool false))⟩])
  (.seq (.any [3, 4] [(⟨(some 7), none, .faddr 0 (.t 1)⟩, true),
       (⟨(some 8), none, .load none (.t 7)⟩, true),
       (⟨(some 6), none, .call (.c (.fn 104)) []⟩, false),
       (⟨(some 9), none, .ext (.mget (.int .i64) true (.int .i64 0)) [(.t 6), (.t 8)]⟩, true),
       (⟨(some 5), none, .mv (.t 9)⟩, true),
       (⟨(some 10), none, .extract (.t 5) 0⟩, true),
       (⟨(some 11), none, .extract (.t 5) 1⟩, false),
       (⟨(some 3), none, .mv (.t 10)⟩, false),
       (⟨(some 4), none, .mv (.t 11)⟩, true)])
  (.seq (.reg [2] [⟨(some 12), none, .faddr 0 (.t 1)⟩,
       ⟨(some 13), none, .load none (.t 12)⟩,
       ⟨(some 14), none, .bin .eql .other true (.t 13) (.c (.int .i64 5))⟩,
       ⟨(some 15), none, .mv (.t 14)⟩,
       ⟨(some 16), (some (15, false)), .mv (.t 4)⟩,
       ⟨(some 17), (some (15, false)), .mv (.t 16)⟩,
       ⟨(some 18), (some (17, true)), .mv (.t 3)⟩,
       ⟨(some 19), (some (17, true)), .faddr 2 (.t 1)⟩,
       ⟨(some 20), (some (17, true)), .load none (.t 19)⟩,
       ⟨(some 21), (some (17, true)), .len .sl (.t 20)⟩,
       ⟨(some 22), (some (17, true)), .bin .eql .other false (.t 18) (.t 21)⟩,
       ⟨(some 23), (some (17, true)), .mv (.t 22)⟩,
       ⟨(some 24), (some (23, false)), .mv (.t 3)⟩,
       ⟨(some 25), (some (23, false)), .bin .eql .other true (.t 24) (.c (.int .i64 (-1)))⟩,
       ⟨(some 26), (some (23, false)), .mv (.t 25)⟩,
       ⟨(some 27), (some (26, true)), .faddr 2 (.t 1)⟩,
       ⟨(some 28), (some (26, true)), .load none (.t 27)⟩,
       ⟨(some 29), (some (26, true)), .len .sl (.t 28)⟩,
       ⟨(some 30), (some (26, true)), .bin .gtr .other true (.t 29) (.c (.int .i64 0))⟩,
       ⟨(some 31), (some (23, false)), .pick (.t 26) (.t 30) (.c (.bool false))⟩,
       ⟨(some 32), (some (17, true)), .pick (.t 23) (.c (.bool true)) (.t 31)⟩,
       ⟨(some 33), (some (15, false)), .pick (.t 17) (.t 32) (.c (.bool false))⟩,
       ⟨(some 34), none, .pick (.t 15) (.c (.bool true)) (.t 33)⟩,
       ⟨(some 2), none, .mv (.t 34)⟩])
  .ret)))⟩
theorem c100 : compF Try.prog [0, 1, 2, 3, 4] Try.f100 = some a100 := by kernel_rfl

/- bushel/code.in -/
def a101 : AFun := ⟨12, [.tmp 4], (.seq (.reg [4] [⟨(some 4), none, .mv (.c (.bool false))⟩])
  (.seq (.reg [4] [⟨(some 5), none, .mv (.t 0)⟩,
       ⟨(some 6), none, .bin .geq .other true (.t 5) (.c (.int .i64 0))⟩,
       ⟨(some 7), none, .mv (.t 6)⟩,
       ⟨(some 8), (some (7, true)), .mv (.t 0)⟩,
       ⟨(some 9), (some (7, true)), .mv (.t 1)⟩,
       ⟨(some 10), (some (7, true)), .bin .lss .other false (.t 8) (.t 9)⟩,
       ⟨(some 11), none, .pick (.t 7) (.t 10) (.c (.bool false))⟩,
       ⟨(some 4), none, .mv (.t 11)⟩])
  .ret))⟩
theorem c101 : compF Try.prog [0, 1, 4] Try.f101 = some a101 := by kernel_rfl

/- slices.ContainsFunc[[]int,int] -/
def a102 : AFun := ⟨9, [.tmp 4], (.seq (.reg [4] [⟨(some 4), none, .mv (.c (.bool false))⟩])
  (.seq (.reg [4] [⟨(some 5), none, .mv (.t 0)⟩,
       ⟨(some 6), none, .mv (.t 1)⟩,
       ⟨(some 7), none, .call (.c (.fn 105)) [(.t 5), (.t 6)]⟩,
       ⟨(some 8), none, .bin .geq .other true (.t 7) (.c (.int .i64 0))⟩,
       ⟨(some 4), none, .mv (.t 8)⟩])
  .ret))⟩
theorem c102 : compF Try.prog [0, 1, 4] Try.f102 = some a102 := by kernel_rfl

/- bushel/code.fits$1 -/
def a103 : AFun := ⟨9, [.tmp 3], (.seq (.reg [3] [⟨(some 3), none, .mv (.c (.bool false))⟩])
  (.seq (.reg [3] [⟨(some 4), none, .mv (.t 0)⟩,
       ⟨(some 5), none, .faddr 0 (.t 1)⟩,
       ⟨(some 6), none, .load none (.t 5)⟩,
       ⟨(some 7), none, .call (.c (.fn 101)) [(.t 4), (.t 6)]⟩,
       ⟨(some 8), none, .un .not (.t 7)⟩,
       ⟨(some 3), none, .mv (.t 8)⟩])
  .ret))⟩
theorem c103 : compF Try.prog [0, 1, 3] Try.f103 = some a103 := by kernel_rfl

/- bushel/code.counts -/
def a104 : AFun := ⟨3, [.tmp 0], (.seq (.reg [0] [⟨(some 0), none, .mv (.c .mnil)⟩])
  (.seq (.reg [0] [⟨(some 1), none, .ext .mkmap []⟩,
       ⟨none, none, .ext (.mput (.int .i64)) [(.t 1), (.c (.int .i64 1)), (.c (.int .i64 1))]⟩,
       ⟨none, none, .ext (.mput (.int .i64)) [(.t 1), (.c (.int .i64 2)), (.c (.int .i64 1))]⟩,
       ⟨none, none, .ext (.mput (.int .i64)) [(.t 1), (.c (.int .i64 3)), (.c (.int .i64 1))]⟩,
       ⟨none, none, .ext (.mput (.int .i64)) [(.t 1), (.c (.int .i64 4)), (.c (.int .i64 (-1)))]⟩,
       ⟨none, none, .ext (.mput (.int .i64)) [(.t 1), (.c (.int .i64 6)), (.c (.int .i64 2))]⟩,
       ⟨none, none, .ext (.mput (.int .i64)) [(.t 1), (.c (.int .i64 7)), (.c (.int .i64 3))]⟩,
       ⟨none, none, .ext (.mput (.int .i64)) [(.t 1), (.c (.int .i64 8)), (.c (.int .i64 2))]⟩,
       ⟨none, none, .ext (.mput (.int .i64)) [(.t 1), (.c (.int .i64 9)), (.c (.int .i64 3))]⟩,
       ⟨none, none, .ext (.mput (.int .i64)) [(.t 1), (.c (.int .i64 10)), (.c (.int .i64 2))]⟩,
       ⟨none, none, .ext (.mput (.int .i64)) [(.t 1), (.c (.int .i64 11)), (.c (.int .i64 2))]⟩,
       ⟨none, none, .ext (.mput (.int .i64)) [(.t 1), (.c (.int .i64 12)), (.c (.int .i64 3))]⟩,
       ⟨none, none, .ext (.mput (.int .i64)) [(.t 1), (.c (.int .i64 13)), (.c (.int .i64 1))]⟩,
       ⟨none, none, .ext (.mput (.int .i64)) [(.t 1), (.c (.int .i64 14)), (.c (.int .i64 1))]⟩,
       ⟨none, none, .ext (.mput (.int .i64)) [(.t 1), (.c (.int .i64 15)), (.c (.int .i64 2))]⟩,
       ⟨none, none, .ext (.mput (.int .i64)) [(.t 1), (.c (.int .i64 16)), (.c (.int .i64 1))]⟩,
       ⟨none, none, .ext (.mput (.int .i64)) [(.t 1), (.c (.int .i64 17)), (.c (.int .i64 1))]⟩,
       ⟨none, none, .ext (.mput (.int .i64)) [(.t 1), (.c (.int .i64 18)), (.c (.int .i64 0))]⟩,
       ⟨none, none, .ext (.mput (.int .i64)) [(.t 1), (.c (.int .i64 19)), (.c (.int .i64 2))]⟩,
       ⟨none, none, .ext (.mput (.int .i64)) [(.t 1), (.c (.int .i64 20)), (.c (.int .i64 1))]⟩,
       ⟨none, none, .ext (.mput (.int .i64)) [(.t 1), (.c (.int .i64 21)), (.c (.int .i64 (-1)))]⟩,
       ⟨none, none, .ext (.mput (.int .i64)) [(.t 1), (.c (.int .i64 22)), (.c (.int .i64 2))]⟩,
       ⟨none, none, .ext (.mput (.int .i64)) [(.t 1), (.c (.int .i64 23)), (.c (.int .i64 1))]⟩,
       ⟨none, none, .ext (.mput (.int .i64)) [(.t 1), (.c (.int .i64 24)), (.c (.int .i64 1))]⟩,
       ⟨(some 2), none, .mv (.t 1)⟩,
       ⟨(some 0), none, .mv (.t 2)⟩])
  .ret))⟩
theorem c104 : compF Try.prog [0] Try.f104 = some a104 := by kernel_rfl

/- slices.IndexFunc[[]int,int] -/
def a105 : AFun := ⟨19, [.tmp 4], (.seq (.reg [4] [⟨(some 4), none, .mv (.c (.int .i64 0))⟩])
  (.seq (.seq (.reg [7, 8] [⟨(some 6), none, .mv (.t 0)⟩,
        ⟨(some 7), none, .len .sl (.t 6)⟩,
        ⟨(some 8), none, .mv (.c (.int .i64 0))⟩])
   (.block 0 (.loop (.seq (.reg [9] [⟨(some 9), none, .bin .lss .other false (.t 8) (.t 7)⟩])
     (.seq (.cond (.t 9) .skip
      (.exit 0))
     (.seq (.block 1 (.seq (.reg [5] [⟨(some 10), none, .mv (.t 8)⟩,
            ⟨(some 5), none, .mv (.t 10)⟩])
       (.seq (.reg [16] [⟨(some 11), none, .mv (.t 1)⟩,
            ⟨(some 12), none, .mv (.t 0)⟩,
            ⟨(some 13), none, .mv (.t 5)⟩,
            ⟨(some 14), none, .iaddr none (.t 12) (.t 13)⟩,
            ⟨(some 15), none, .load none (.t 14)⟩,
            ⟨(some 16), none, .call (.t 11) [(.t 15)]⟩])
       (.cond (.t 16) (.seq (.reg [4] [⟨(some 17), none, .mv (.t 5)⟩,
              ⟨(some 4), none, .mv (.t 17)⟩])
         .ret)
       .skip))))
     (.reg [8] [⟨(some 18), none, .bin .add .other true (.t 8) (.c (.int .i64 1))⟩,
         ⟨(some 8), none, .mv (.t 18)⟩])))))))
  (.seq (.reg [4] [⟨(some 4), none, .mv (.c (.int .i64 (-1)))⟩])
  .ret)))⟩
theorem c105 : compF Try.prog [0, 1, 4, 5, 7, 8, 9, 16] Try.f105 = some a105 := by kernel_rfl

/- bushel/bushelref19.Count -/
def a88 : AFun := ⟨34, [.tmp 2], (.seq (.reg [2] [⟨(some 2), none, .mv (.c (.int .i64 0))⟩])
  (.seq (.seq (.reg [3] [⟨(some 3), none, .mv (.t 0)⟩])
   (.block 0 (.seq (.reg [4] [⟨(some 5), none, .bin .eql .other true (.t 3) (.c (.int .i64 18))⟩,
         ⟨(some 4), none, .mv (.t 5)⟩])
    (.cond (.t 4) (.seq (.reg [2] [⟨(some 2), none, .mv (.c (.int .i64 0))⟩])
      .ret)
    (.seq (.seq (.reg [6] [⟨(some 7), none, .bin .eql .other true (.t 3) (.c (.int .i64 1))⟩,
          ⟨(some 6), none, .mv (.t 7)⟩])
     (.cond (.t 6) .skip
     (.seq (.reg [6] [⟨(some 8), none, .bin .eql .other true (.t 3) (.c (.int .i64 2))⟩,
          ⟨(some 6), none, .mv (.t 8)⟩])
     (.cond (.t 6) .skip
     (.seq (.reg [6] [⟨(some 9), none, .bin .eql .other true (.t 3) (.c (.int .i64 3))⟩,
          ⟨(some 6), none, .mv (.t 9)⟩])
     (.cond (.t 6) .skip
     (.seq (.reg [6] [⟨(some 10), none, .bin .eql .other true (.t 3) (.c (.int .i64 13))⟩,
          ⟨(some 6), none, .mv (.t 10)⟩])
     (.cond (.t 6) .skip
     (.seq (.reg [6] [⟨(some 11), none, .bin .eql .other true (.t 3) (.c (.int .i64 14))⟩,
          ⟨(some 6), none, .mv (.t 11)⟩])
     (.cond (.t 6) .skip
     (.seq (.reg [6] [⟨(some 12), none, .bin .eql .other true (.t 3) (.c (.int .i64 16))⟩,
          ⟨(some 6), none, .mv (.t 12)⟩])
     (.cond (.t 6) .skip
     (.seq (.reg [6] [⟨(some 13), none, .bin .eql .other true (.t 3) (.c (.int .i64 17))⟩,
          ⟨(some 6), none, .mv (.t 13)⟩])
     (.cond (.t 6) .skip
     (.seq (.reg [6] [⟨(some 14), none, .bin .eql .other true (.t 3) (.c (.int .i64 20))⟩,
          ⟨(some 6), none, .mv (.t 14)⟩])
     (.cond (.t 6) .skip
     (.seq (.reg [6] [⟨(some 15), none, .bin .eql .other true (.t 3) (.c (.int .i64 23))⟩,
          ⟨(some 6), none, .mv (.t 15)⟩])
     (.cond (.t 6) .skip
     (.reg [6] [⟨(some 16), none, .bin .eql .other true (.t 3) (.c (.int .i64 24))⟩,
         ⟨(some 6), none, .mv (.t 16)⟩])))))))))))))))))))
    (.cond (.t 6) (.seq (.reg [2] [⟨(some 2), none, .mv (.c (.int .i64 1))⟩])
      .ret)
    (.seq (.seq (.reg [17] [⟨(some 18), none, .bin .eql .other true (.t 3) (.c (.int .i64 6))⟩,
          ⟨(some 17), none, .mv (.t 18)⟩])
     (.cond (.t 17) .skip
     (.seq (.reg [17] [⟨(some 19), none, .bin .eql .other true (.t 3) (.c (.int .i64 8))⟩,
          ⟨(some 17), none, .mv (.t 19)⟩])
     (.cond (.t 17) .skip
     (.seq (.reg [17] [⟨(some 20), none, .bin .eql .other true (.t 3) (.c (.int .i64 10))⟩,
          ⟨(some 17), none, .mv (.t 20)⟩])
     (.cond (.t 17) .skip
     (.seq (.reg [17] [⟨(some 21), none, .bin .eql .other true (.t 3) (.c (.int .i64 11))⟩,
          ⟨(some 17), none, .mv (.t 21)⟩])
     (.cond (.t 17) .skip
     (.seq (.reg [17] [⟨(some 22), none, .bin .eql .other true (.t 3) (.c (.int .i64 15))⟩,
          ⟨(some 17), none, .mv (.t 22)⟩])
     (.cond (.t 17) .skip
     (.seq (.reg [17] [⟨(some 23), none, .bin .eql .other true (.t 3) (.c (.int .i64 19))⟩,
          ⟨(some 17), none, .mv (.t 23)⟩])
     (.cond (.t 17) .skip
     (.reg [17] [⟨(some 24), none, .bin .eql .other true (.t 3) (.c (.int .i64 22))⟩,
         ⟨(some 17), none, .mv (.t 24)⟩])))))))))))))
    (.cond (.t 17) (.seq (.reg [2] [⟨(some 2), none, .mv (.c (.int .i64 2))⟩])
      .ret)
    (.seq (.seq (.reg [25] [⟨(some 26), none, .bin .eql .other true (.t 3) (.c (.int .i64 7))⟩,
          ⟨(some 25), none, .mv (.t 26)⟩])
     (.cond (.t 25) .skip
     (.seq (.reg [25] [⟨(some 27), none, .bin .eql .other true (.t 3) (.c (.int .i64 9))⟩,
          ⟨(some 25), none, .mv (.t 27)⟩])
     (.cond (.t 25) .skip
     (.reg [25] [⟨(some 28), none, .bin .eql .other true (.t 3) (.c (.int .i64 12))⟩,
         ⟨(some 25), none, .mv (.t 28)⟩])))))
    (.cond (.t 25) (.seq (.reg [2] [⟨(some 2), none, .mv (.c (.int .i64 3))⟩])
      .ret)
    (.seq (.seq (.reg [29] [⟨(some 30), none, .bin .eql .other true (.t 3) (.c (.int .i64 4))⟩,
          ⟨(some 29), none, .mv (.t 30)⟩])
     (.cond (.t 29) .skip
     (.reg [29] [⟨(some 31), none, .bin .eql .other true (.t 3) (.c (.int .i64 21))⟩,
         ⟨(some 29), none, .mv (.t 31)⟩])))
    (.cond (.t 29) (.seq (.reg [2] [⟨(some 2), none, .mv (.c (.int .i64 (-1)))⟩])
      .ret)
    (.seq (.reg [32] [⟨(some 33), none, .bin .eql .other true (.t 3) (.c (.int .i64 5))⟩,
         ⟨(some 32), none, .mv (.t 33)⟩])
    (.cond (.t 32) (.seq (.reg [2] [⟨(some 2), none, .mv (.c (.int .i64 (-2)))⟩])
      .ret)
    .skip))))))))))))))
  (.seq (.reg [2] [⟨(some 2), none, .mv (.c (.int .i64 (-3)))⟩])
  .ret)))⟩
theorem c88 : compF Try.prog [0, 2, 3, 4, 6, 17, 25, 29, 32] Try.f88 = some a88 := by kernel_rfl

/- bushel/bushelref19.in -/
def a89 : AFun := ⟨12, [.tmp 4], (.seq (.reg [4] [⟨(some 4), none, .mv (.c (.bool false))⟩])
  (.seq (.reg [4] [⟨(some 5), none, .mv (.t 0)⟩,
       ⟨(some 6), none, .bin .geq .other true (.t 5) (.c (.int .i64 0))⟩,
       ⟨(some 7), none, .mv (.t 6)⟩,
       ⟨(some 8), (some (7, true)), .mv (.t 0)⟩,
       ⟨(some 9), (some (7, true)), .mv (.t 1)⟩,
       ⟨(some 10), (some (7, true)), .bin .lss .other false (.t 8) (.t 9)⟩,
       ⟨(some 11), none, .pick (.t 7) (.t 10) (.c (.bool false))⟩,
       ⟨(some 4), none, .mv (.t 11)⟩])
  .ret))⟩
theorem c89 : compF Try.prog [0, 1, 4] Try.f89 = some a89 := by kernel_rfl

/- bushel/bushelref19.limit -/
def a90 : AFun := ⟨47, [.tmp 8], (.seq (.reg [4, 5, 6, 8] [⟨(some 4), none, .box (.t 0)⟩,
       ⟨(some 5), none, .box (.t 1)⟩,
       ⟨(some 6), none, .box (.t 2)⟩,
       ⟨(some 8), none, .mv (.c (.int .i64 0))⟩])
  (.seq (.seq (.reg [10] [⟨(some 9), none, .mv (.t 3)⟩,
        ⟨(some 10), none, .bin .eql .other true (.t 9) (.c (.int .i64 0))⟩])
   (.cond (.t 10) (.seq (.reg [12] [⟨(some 11), none, .faddr 0 (.t 6)⟩,
          ⟨(some 12), none, .load none (.t 11)⟩])
     (.block 0 (.seq (.reg [13] [⟨(some 14), none, .bin .eql .other true (.t 12) (.c (.int .i64 1))⟩,
           ⟨(some 13), none, .mv (.t 14)⟩])
      (.cond (.t 13) (.seq (.reg [8] [⟨(some 15), none, .faddr 0 (.t 4)⟩,
             ⟨(some 16), none, .load none (.t 15)⟩,
             ⟨(some 17), none, .len .sl (.t 16)⟩,
             ⟨(some 8), none, .mv (.t 17)⟩])
        .ret)
      (.seq (.reg [18] [⟨(some 19), none, .bin .eql .other true (.t 12) (.c (.int .i64 2))⟩,
           ⟨(some 18), none, .mv (.t 19)⟩])
      (.cond (.t 18) (.seq (.reg [8] [⟨(some 20), none, .faddr 1 (.t 4)⟩,
             ⟨(some 21), none, .load none (.t 20)⟩,
             ⟨(some 22), none, .len .sl (.t 21)⟩,
             ⟨(some 8), none, .mv (.t 22)⟩])
        .ret)
      (.seq (.reg [23] [⟨(some 24), none, .bin .eql .other true (.t 12) (.c (.int .i64 4))⟩,
           ⟨(some 23), none, .mv (.t 24)⟩])
      (.cond (.t 23) (.seq (.reg [8] [⟨(some 25), none, .faddr 2 (.t 4)⟩,
             ⟨(some 26), none, .load none (.t 25)⟩,
             ⟨(some 27), none, .len .sl (.t 26)⟩,
             ⟨(some 8), none, .mv (.t 27)⟩])
        .ret)
      (.seq (.reg [28] [⟨(some 29), none, .bin .eql .other true (.t 12) (.c (.int .i64 12))⟩,
           ⟨(some 28), none, .mv (.t 29)⟩])
      (.cond (.t 28) (.seq (.reg [8] [⟨(some 8), none, .mv (.c (.int .i64 8))⟩])
        .ret)
      (.seq (.reg [30] [⟨(some 31), none, .bin .eql .other true (.t 12) (.c (.int .i64 23))⟩,
           ⟨(some 30), none, .mv (.t 31)⟩])
      (.cond (.t 30) (.seq (.reg [8] [⟨(some 32), none, .faddr 2 (.t 5)⟩,
             ⟨(some 33), none, .load none (.t 32)⟩,
             ⟨(some 34), none, .len .sl (.t 33)⟩,
             ⟨(some 8), none, .mv (.t 34)⟩])
        .ret)
      .skip))))))))))))
   .skip))
  (.seq (.seq (.reg [41] [⟨(some 35), none, .mv (.t 3)⟩,
        ⟨(some 36), none, .bin .eql .other true (.t 35) (.c (.int .i64 1))⟩,
        ⟨(some 37), none, .mv (.t 36)⟩,
        ⟨(some 38), (some (37, true)), .faddr 0 (.t 6)⟩,
        ⟨(some 39), (some (37, true)), .load none (.t 38)⟩,
        ⟨(some 40), (some (37, true)), .bin .eql .other true (.t 39) (.c (.int .i64 22))⟩,
        ⟨(some 41), none, .pick (.t 37) (.t 40) (.c (.bool false))⟩])
   (.cond (.t 41) (.seq (.reg [8] [⟨(some 42), none, .faddr 2 (.t 5)⟩,
          ⟨(some 43), none, .load none (.t 42)⟩,
          ⟨(some 44), none, .len .sl (.t 43)⟩,
          ⟨(some 8), none, .mv (.t 44)⟩])
     .ret)
   .skip))
  (.seq (.reg [8] [⟨(some 45), none, .faddr 0 (.t 5)⟩,
       ⟨(some 46), none, .load none (.t 45)⟩,
       ⟨(some 8), none, .mv (.t 46)⟩])
  .ret))))⟩
theorem c90 : compF Try.prog [0, 1, 2, 3, 4, 5, 6, 8, 10, 12, 13, 18, 23, 28, 30, 41] Try.f90 = some a90 := by kernel_rfl

/- slices.ContainsFunc[[]bushel/api.Instr,bushel/api.Instr] -/
def a91 : AFun := ⟨9, [.tmp 4], (.seq (.reg [4] [⟨(some 4), none, .mv (.c (.bool false))⟩])
  (.seq (.reg [4] [⟨(some 5), none, .mv (.t 0)⟩,
       ⟨(some 6), none, .mv (.t 1)⟩,
       ⟨(some 7), none, .call (.c (.fn 99)) [(.t 5), (.t 6)]⟩,
       ⟨(some 8), none, .bin .geq .other true (.t 7) (.c (.int .i64 0))⟩,
       ⟨(some 4), none, .mv (.t 8)⟩])
  .ret))⟩
theorem c91 : compF Try.prog [0, 1, 4] Try.f91 = some a91 := by kernel_rfl

/- bushel/code.sound$1 -/
def a92 : AFun := ⟨10, [.tmp 4], (.seq (.reg [3, 4] [⟨(some 3), none, .box (.t 0)⟩,
       ⟨(some 4), none, .mv (.c (.bool false))⟩])
  (.seq (.reg [4] [⟨(some 5), none, .load (some 3) (.t 1)⟩,
       ⟨(some 6), none, .load (some 3) (.t 2)⟩,
       ⟨(some 7), none, .load (some 3) (.t 3)⟩,
       ⟨(some 8), none, .call (.c (.fn 93)) [(.t 5), (.t 6), (.t 7)]⟩,
       ⟨(some 9), none, .un .not (.t 8)⟩,
       ⟨(some 4), none, .mv (.t 9)⟩])
  .ret))⟩
theorem c92 : compF Try.prog [0, 1, 2, 3, 4] Try.f92 = some a92 := by kernel_rfl

/- bushel/code.fits -/
def a93 : AFun := ⟨132, [.tmp 6], (.seq (.reg [3, 4, 5, 6] [⟨(some 3), none, .box (.t 0)⟩,
       ⟨(some 4), none, .box (.t 1)⟩,
       ⟨(some 5), none, .box (.t 2)⟩,
       ⟨(some 6), none, .mv (.c (.bool false))⟩])
  (.seq (.seq (.reg [11] [⟨(some 9), none, .load (some 3) (.t 5)⟩,
        ⟨(some 10), none, .call (.c (.fn 100)) [(.t 9)]⟩,
        ⟨(some 11), none, .un .not (.t 10)⟩])
   (.cond (.t 11) (.seq (.reg [6] [⟨(some 6), none, .mv (.c (.bool false))⟩])
     .ret)
   .skip))
  (.seq (.any [7, 8] [(⟨(some 12), none, .faddr 2 (.t 5)⟩, true),
       (⟨(some 13), none, .load none (.t 12)⟩, true),
       (⟨(some 14), none, .faddr 1 (.t 5)⟩, false),
       (⟨(some 15), none, .load none (.t 14)⟩, false),
       (⟨(some 16), none, .faddr 0 (.t 4)⟩, false),
       (⟨(some 17), none, .load none (.t 16)⟩, false),
       (⟨(some 18), none, .call (.c (.fn 101)) [(.t 15), (.t 17)]⟩, false),
       (⟨(some 7), none, .mv (.t 13)⟩, true),
       (⟨(some 8), none, .mv (.t 18)⟩, true)])
  (.seq (.seq (.reg [20] [⟨(some 19), none, .faddr 0 (.t 5)⟩,
        ⟨(some 20), none, .load none (.t 19)⟩])
   (.block 0 (.seq (.reg [21] [⟨(some 22), none, .bin .eql .other true (.t 20) (.c (.int .i64 1))⟩,
         ⟨(some 21), none, .mv (.t 22)⟩])
    (.cond (.t 21) (.seq (.any [6] [(⟨(some 23), none, .mv (.t 8)⟩, true),
           (⟨(some 24), none, .mv (.t 23)⟩, true),
           (⟨(some 25), (some (24, true)), .faddr 2 (.t 5)⟩, true),
           (⟨(some 26), (some (24, true)), .load none (.t 25)⟩, true),
           (⟨(some 27), (some (24, true)), .iaddr none (.t 26) (.c (.int .i64 0))⟩, true),
           (⟨(some 28), (some (24, true)), .load none (.t 27)⟩, true),
           (⟨(some 29), (some (24, true)), .faddr 0 (.t 3)⟩, false),
           (⟨(some 30), (some (24, true)), .load none (.t 29)⟩, false),
           (⟨(some 31), (some (24, true)), .len .sl (.t 30)⟩, false),
           (⟨(some 32), (some (24, true)), .call (.c (.fn 101)) [(.t 28), (.t 31)]⟩, true),
           (⟨(some 33), none, .pick (.t 24) (.t 32) (.c (.bool false))⟩, true),
           (⟨(some 6), none, .mv (.t 33)⟩, true)])
      .ret)
    (.seq (.reg [34] [⟨(some 35), none, .bin .eql .other true (.t 20) (.c (.int .i64 2))⟩,
         ⟨(some 34), none, .mv (.t 35)⟩])
    (.cond (.t 34) (.seq (.any [6] [(⟨(some 36), none, .mv (.t 8)⟩, true),
           (⟨(some 37), none, .mv (.t 36)⟩, true),
           (⟨(some 38), (some (37, true)), .faddr 2 (.t 5)⟩, true),
           (⟨(some 39), (some (37, true)), .load none (.t 38)⟩, true),
           (⟨(some 40), (some (37, true)), .iaddr none (.t 39) (.c (.int .i64 0))⟩, true),
           (⟨(some 41), (some (37, true)), .load none (.t 40)⟩, true),
           (⟨(some 42), (some (37, true)), .faddr 1 (.t 3)⟩, false),
           (⟨(some 43), (some (37, true)), .load none (.t 42)⟩, false),
           (⟨(some 44), (some (37, true)), .len .sl (.t 43)⟩, false),
           (⟨(some 45), (some (37, true)), .call (.c (.fn 101)) [(.t 41), (.t 44)]⟩, true),
           (⟨(some 46), none, .pick (.t 37) (.t 45) (.c (.bool false))⟩, true),
           (⟨(some 6), none, .mv (.t 46)⟩, true)])
      .ret)
    (.seq (.reg [47] [⟨(some 48), none, .bin .eql .other true (.t 20) (.c (.int .i64 4))⟩,
         ⟨(some 47), none, .mv (.t 48)⟩])
    (.cond (.t 47) (.seq (.seq (.any [73] [(⟨(some 49), none, .faddr 2 (.t 5)⟩, true),
            (⟨(some 50), none, .load none (.t 49)⟩, true),
            (⟨(some 51), none, .iaddr none (.t 50) (.c (.int .i64 0))⟩, true),
            (⟨(some 52), none, .load none (.t 51)⟩, true),
            (⟨(some 53), none, .faddr 2 (.t 3)⟩, false),
            (⟨(some 54), none, .load none (.t 53)⟩, false),
            (⟨(some 55), none, .len .sl (.t 54)⟩, false),
            (⟨(some 56), none, .call (.c (.fn 101)) [(.t 52), (.t 55)]⟩, true),
            (⟨(some 57), none, .un .not (.t 56)⟩, true),
            (⟨(some 58), none, .mv (.t 57)⟩, true),
            (⟨(some 59), (some (58, false)), .faddr 2 (.t 5)⟩, true),
            (⟨(some 60), (some (58, false)), .load none (.t 59)⟩, true),
            (⟨(some 61), (some (58, false)), .len .sl (.t 60)⟩, true),
            (⟨(some 62), (some (58, false)), .faddr 2 (.t 3)⟩, false),
            (⟨(some 63), (some (58, false)), .load none (.t 62)⟩, false),
            (⟨(some 64), (some (58, false)), .faddr 2 (.t 5)⟩, false),
            (⟨(some 65), (some (58, false)), .load none (.t 64)⟩, false),
            (⟨(some 66), (some (58, false)), .iaddr none (.t 65) (.c (.int .i64 0))⟩, false),
            (⟨(some 67), (some (58, false)), .load none (.t 66)⟩, false),
            (⟨(some 68), (some (58, false)), .iaddr (some 3) (.t 63) (.t 67)⟩, false),
            (⟨(some 69), (some (58, false)), .faddr 1 (.t 68)⟩, false),
            (⟨(some 70), (some (58, false)), .load none (.t 69)⟩, false),
            (⟨(some 71), (some (58, false)), .bin .add .other true (.c (.int .i64 1)) (.t 70)⟩, false),
            (⟨(some 72), (some (58, false)), .bin .neq .other false (.t 61) (.t 71)⟩, true),
            (⟨(some 73), none, .pick (.t 58) (.c (.bool true)) (.t 72)⟩, true)])
       (.cond (.t 73) (.seq (.reg [6] [⟨(some 6), none, .mv (.c (.bool false))⟩])
         .ret)
       .skip))
      (.reg [7] [⟨(some 74), none, .faddr 2 (.t 5)⟩,
          ⟨(some 75), none, .load none (.t 74)⟩,
          ⟨(some 76), none, .slice (.sl none) (.t 75) (some (.c (.int .i64 1))) none none⟩,
          ⟨(some 7), none, .mv (.t 76)⟩]))
    (.seq (.reg [77] [⟨(some 78), none, .bin .eql .other true (.t 20) (.c (.int .i64 12))⟩,
         ⟨(some 77), none, .mv (.t 78)⟩])
    (.cond (.t 77) (.seq (.seq (.reg [84] [⟨(some 79), none, .faddr 2 (.t 5)⟩,
            ⟨(some 80), none, .load none (.t 79)⟩,
            ⟨(some 81), none, .iaddr none (.t 80) (.c (.int .i64 0))⟩,
            ⟨(some 82), none, .load none (.t 81)⟩,
            ⟨(some 83), none, .call (.c (.fn 101)) [(.t 82), (.c (.int .i64 8))]⟩,
            ⟨(some 84), none, .un .not (.t 83)⟩])
       (.cond (.t 84) (.seq (.reg [6] [⟨(some 6), none, .mv (.c (.bool false))⟩])
         .ret)
       .skip))
      (.reg [7] [⟨(some 85), none, .faddr 2 (.t 5)⟩,
          ⟨(some 86), none, .load none (.t 85)⟩,
          ⟨(some 87), none, .slice (.sl none) (.t 86) (some (.c (.int .i64 1))) none none⟩,
          ⟨(some 7), none, .mv (.t 87)⟩]))
    (.seq (.reg [88] [⟨(some 89), none, .bin .eql .other true (.t 20) (.c (.int .i64 22))⟩,
         ⟨(some 88), none, .mv (.t 89)⟩])
    (.cond (.t 88) (.seq (.seq (.any [98] [(⟨(some 90), none, .faddr 2 (.t 5)⟩, true),
            (⟨(some 91), none, .load none (.t 90)⟩, true),
            (⟨(some 92), none, .iaddr none (.t 91) (.c (.int .i64 1))⟩, true),
            (⟨(some 93), none, .load none (.t 92)⟩, true),
            (⟨(some 94), none, .faddr 2 (.t 4)⟩, false),
            (⟨(some 95), none, .load none (.t 94)⟩, false),
            (⟨(some 96), none, .len .sl (.t 95)⟩, false),
            (⟨(some 97), none, .call (.c (.fn 101)) [(.t 93), (.t 96)]⟩, true),
            (⟨(some 98), none, .un .not (.t 97)⟩, true)])
       (.cond (.t 98) (.seq (.reg [6] [⟨(some 6), none, .mv (.c (.bool false))⟩])
         .ret)
       .skip))
      (.any [7, 8] [(⟨(some 99), none, .faddr 2 (.t 5)⟩, true),
          (⟨(some 100), none, .load none (.t 99)⟩, true),
          (⟨(some 101), none, .slice (.sl none) (.t 100) none (some (.c (.int .i64 1))) none⟩, true),
          (⟨(some 102), none, .faddr 1 (.t 5)⟩, false),
          (⟨(some 103), none, .load none (.t 102)⟩, false),
          (⟨(some 104), none, .bin .eql .other true (.t 103) (.c (.int .i64 0))⟩, false),
          (⟨(some 7), none, .mv (.t 101)⟩, false),
          (⟨(some 8), none, .mv (.t 104)⟩, true)]))
    (.seq (.reg [105] [⟨(some 106), none, .bin .eql .other true (.t 20) (.c (.int .i64 23))⟩,
         ⟨(some 105), none, .mv (.t 106)⟩])
    (.cond (.t 105) (.seq (.any [6] [(⟨(some 107), none, .faddr 1 (.t 5)⟩, true),
           (⟨(some 108), none, .load none (.t 107)⟩, true),
           (⟨(some 109), none, .bin .eql .other true (.t 108) (.c (.int .i64 0))⟩, true),
           (⟨(some 110), none, .mv (.t 109)⟩, true),
           (⟨(some 111), (some (110, true)), .faddr 2 (.t 5)⟩, true),
           (⟨(some 112), (some (110, true)), .load none (.t 111)⟩, true),
           (⟨(some 113), (some (110, true)), .iaddr none (.t 112) (.c (.int .i64 0))⟩, true),
           (⟨(some 114), (some (110, true)), .load none (.t 113)⟩, true),
           (⟨(some 115), (some (110, true)), .faddr 2 (.t 4)⟩, false),
           (⟨(some 116), (some (110, true)), .load none (.t 115)⟩, false),
           (⟨(some 117), (some (110, true)), .len .sl (.t 116)⟩, false),
           (⟨(some 118), (some (110, true)), .call (.c (.fn 101)) [(.t 114), (.t 117)]⟩, true),
           (⟨(some 119), none, .pick (.t 110) (.t 118) (.c (.bool false))⟩, true),
           (⟨(some 6), none, .mv (.t 119)⟩, true)])
      .ret)
    (.seq (.reg [120] [⟨(some 121), none, .bin .eql .other true (.t 20) (.c (.int .i64 24))⟩,
         ⟨(some 120), none, .mv (.t 121)⟩])
    (.cond (.t 120) (.reg [8] [⟨(some 122), none, .faddr 1 (.t 5)⟩,
          ⟨(some 123), none, .load none (.t 122)⟩,
          ⟨(some 124), none, .bin .eql .other true (.t 123) (.c (.int .i64 0))⟩,
          ⟨(some 8), none, .mv (.t 124)⟩])
    .skip))))))))))))))))
  (.seq (.reg [6] [⟨(some 125), none, .mv (.t 8)⟩,
       ⟨(some 126), none, .mv (.t 125)⟩,
       ⟨(some 127), (some (126, true)), .mv (.t 7)⟩,
       ⟨(some 128), (some (126, true)), .mkfn 103 [(.t 4)]⟩,
       ⟨(some 129), (some (126, true)), .call (.c (.fn 102)) [(.t 127), (.t 128)]⟩,
       ⟨(some 130), (some (126, true)), .un .not (.t 129)⟩,
       ⟨(some 131), none, .pick (.t 126) (.t 130) (.c (.bool false))⟩,
       ⟨(some 6), none, .mv (.t 131)⟩])
  .ret)))))⟩
theorem c93 : compF Try.prog [0, 1, 2, 3, 4, 5, 6, 7, 8, 11, 20, 21, 34, 47, 73, 77, 84, 88, 98, 105, 120] Try.f93 = some a93 := by kernel_rfl

/- slices.IndexFunc[[]string,string] -/
def a94 : AFun := ⟨19, [.tmp 4], (.seq (.reg [4] [⟨(some 4), none, .mv (.c (.int .i64 0))⟩])
  (.seq (.seq (.reg [7, 8] [⟨(some 6), none, .mv (.t 0)⟩,
        ⟨(some 7), none, .len .sl (.t 6)⟩,
        ⟨(some 8), none, .mv (.c (.int .i64 0))⟩])
   (.block 0 (.loop (.seq (.reg [9] [⟨(some 9), none, .bin .lss .other false (.t 8) (.t 7)⟩])
     (.seq (.cond (.t 9) .skip
      (.exit 0))
     (.seq (.block 1 (.seq (.reg [5] [⟨(some 10), none, .mv (.t 8)⟩,
            ⟨(some 5), none, .mv (.t 10)⟩])
       (.seq (.reg [16] [⟨(some 11), none, .mv (.t 1)⟩,
            ⟨(some 12), none, .mv (.t 0)⟩,
            ⟨(some 13), none, .mv (.t 5)⟩,
            ⟨(some 14), none, .iaddr none (.t 12) (.t 13)⟩,
            ⟨(some 15), none, .load none (.t 14)⟩,
            ⟨(some 16), none, .call (.t 11) [(.t 15)]⟩])
       (.cond (.t 16) (.seq (.reg [4] [⟨(some 17), none, .mv (.t 5)⟩,
              ⟨(some 4), none, .mv (.t 17)⟩])
         .ret)
       .skip))))
     (.reg [8] [⟨(some 18), none, .bin .add .other true (.t 8) (.c (.int .i64 1))⟩,
         ⟨(some 8), none, .mv (.t 18)⟩])))))))
  (.seq (.reg [4] [⟨(some 4), none, .mv (.c (.int .i64 (-1)))⟩])
  .ret)))⟩
theorem c94 : compF Try.prog [0, 1, 4, 5, 7, 8, 9, 16] Try.f94 = some a94 := by kernel_rfl

/- slices.IndexFunc[[]bushel/api.Func,bushel/api.Func] -/
def a95 : AFun := ⟨19, [.tmp 4], (.seq (.reg [4] [⟨(some 4), none, .mv (.c (.int .i64 0))⟩])
  (.seq (.seq (.reg [7, 8] [⟨(some 6), none, .mv (.t 0)⟩,
        ⟨(some 7), none, .len .sl (.t 6)⟩,
        ⟨(some 8), none, .mv (.c (.int .i64 0))⟩])
   (.block 0 (.loop (.seq (.reg [9] [⟨(some 9), none, .bin .lss .other false (.t 8) (.t 7)⟩])
     (.seq (.cond (.t 9) .skip
      (.exit 0))
     (.seq (.block 1 (.seq (.reg [5] [⟨(some 10), none, .mv (.t 8)⟩,
            ⟨(some 5), none, .mv (.t 10)⟩])
       (.seq (.reg [16] [⟨(some 11), none, .mv (.t 1)⟩,
            ⟨(some 12), none, .mv (.t 0)⟩,
            ⟨(some 13), none, .mv (.t 5)⟩,
            ⟨(some 14), none, .iaddr (some 3) (.t 12) (.t 13)⟩,
            ⟨(some 15), none, .load (some 3) (.t 14)⟩,
            ⟨(some 16), none, .call (.t 11) [(.t 15)]⟩])
       (.cond (.t 16) (.seq (.reg [4] [⟨(some 17), none, .mv (.t 5)⟩,
              ⟨(some 4), none, .mv (.t 17)⟩])
         .ret)
       .skip))))
     (.reg [8] [⟨(some 18), none, .bin .add .other true (.t 8) (.c (.int .i64 1))⟩,
         ⟨(some 8), none, .mv (.t 18)⟩])))))))
  (.seq (.reg [4] [⟨(some 4), none, .mv (.c (.int .i64 (-1)))⟩])
  .ret)))⟩
theorem c95 : compF Try.prog [0, 1, 4, 5, 7, 8, 9, 16] Try.f95 = some a95 := by kernel_rfl

/- (*bushel/code.reader).int -/
def a96 : AFun := ⟨13, [.tmp 2], (.seq (.reg [2] [⟨(some 2), none, .mv (.c (.int .i64 0))⟩])
  (.seq (.reg [3] [⟨(some 4), none, .mv (.t 0)⟩,
       ⟨(some 5), none, .call (.c (.fn 80)) [(.t 4)]⟩,
       ⟨(some 3), none, .mv (.t 5)⟩])
  (.seq (.seq (.reg [8] [⟨(some 6), none, .mv (.t 3)⟩,
        ⟨(some 7), none, .mv (.t 3)⟩,
        ⟨(some 8), none, .bin .neq .other false (.t 6) (.t 7)⟩])
   (.cond (.t 8) (.reg [] [⟨(some 9), none, .mv (.t 0)⟩,
         ⟨(some 10), none, .nilck (.t 9)⟩,
         ⟨(some 11), none, .faddr 1 (.t 10)⟩,
         ⟨none, none, .store 1 (.t 11) (.c (.bool true))⟩])
   .skip))
  (.seq (.reg [2] [⟨(some 12), none, .mv (.t 3)⟩,
       ⟨(some 2), none, .mv (.t 12)⟩])
  .ret))))⟩
theorem c96 : compF Try.prog [0, 2, 3, 8] Try.f96 = some a96 := by kernel_rfl

/- (*bushel/code.reader).instr -/
def a97 : AFun := ⟨26, [.cell 2 (some 3)], (.seq (.reg [2] [⟨(some 2), none, .alloc [(.int .i64 0), (.int .i64 0), .snil]⟩])
  (.seq (.reg [3] [⟨(some 6), none, .mv (.t 0)⟩,
       ⟨(some 7), none, .call (.c (.fn 96)) [(.t 6)]⟩,
       ⟨(some 3), none, .mv (.t 7)⟩])
  (.seq (.reg [4] [⟨(some 8), none, .mv (.t 0)⟩,
       ⟨(some 9), none, .call (.c (.fn 96)) [(.t 8)]⟩,
       ⟨(some 4), none, .mv (.t 9)⟩])
  (.seq (.reg [5] [⟨(some 10), none, .mv (.t 3)⟩,
       ⟨(some 11), none, .mv (.t 4)⟩,
       ⟨(some 12), none, .build [(.int .i64 0), (.int .i64 0), .snil] [(0, 1, (.t 10)), (1, 1, (.t 11))]⟩,
       ⟨(some 5), none, .alloc [(.int .i64 0), (.int .i64 0), .snil]⟩,
       ⟨none, none, .store 3 (.t 5) (.t 12)⟩])
  (.seq (.seq (.reg [14, 15] [⟨(some 13), none, .mv (.t 0)⟩,
        ⟨(some 14), none, .call (.c (.fn 79)) [(.t 13)]⟩,
        ⟨(some 15), none, .mv (.c (.int .i64 0))⟩])
   (.block 0 (.loop (.seq (.reg [16] [⟨(some 16), none, .bin .lss .other false (.t 15) (.t 14)⟩])
     (.seq (.cond (.t 16) .skip
      (.exit 0))
     (.seq (.block 1 (.any [] [(⟨(some 17), none, .faddr 2 (.t 5)⟩, true),
           (⟨(some 18), none, .load none (.t 17)⟩, true),
           (⟨(some 19), none, .mv (.t 0)⟩, false),
           (⟨(some 20), none, .call (.c (.fn 96)) [(.t 19)]⟩, false),
           (⟨(some 21), none, .mksl none [(.t 20)]⟩, false),
           (⟨(some 22), none, .append none 8 (.t 18) (.t 21)⟩, true),
           (⟨(some 23), none, .faddr 2 (.t 5)⟩, true),
           (⟨none, none, .store 1 (.t 23) (.t 22)⟩, true)]))
     (.reg [15] [⟨(some 24), none, .bin .add .other true (.t 15) (.c (.int .i64 1))⟩,
         ⟨(some 15), none, .mv (.t 24)⟩])))))))
  (.seq (.reg [] [⟨(some 25), none, .load (some 3) (.t 5)⟩,
       ⟨none, none, .store 3 (.t 2) (.t 25)⟩])
  .ret))))))⟩
theorem c97 : compF Try.prog [0, 2, 3, 4, 5, 14, 15, 16] Try.f97 = some a97 := by kernel_rfl

/- slices.IndexFunc[[]bushel/api.Instr,bushel/api.Instr] -/
def a99 : AFun := ⟨19, [.tmp 4], (.seq (.reg [4] [⟨(some 4), none, .mv (.c (.int .i64 0))⟩])
  (.seq (.seq (.reg [7, 8] [⟨(some 6), none, .mv (.t 0)⟩,
        ⟨(some 7), none, .len .sl (.t 6)⟩,
        ⟨(some 8), none, .mv (.c (.int .i64 0))⟩])
   (.block 0 (.loop (.seq (.reg [9] [⟨(some 9), none, .bin .lss .other false (.t 8) (.t 7)⟩])
     (.seq (.cond (.t 9) .skip
      (.exit 0))
     (.seq (.block 1 (.seq (.reg [5] [⟨(some 10), none, .mv (.t 8)⟩,
            ⟨(some 5), none, .mv (.t 10)⟩])
       (.seq (.reg [16] [⟨(some 11), none, .mv (.t 1)⟩,
            ⟨(some 12), none, .mv (.t 0)⟩,
            ⟨(some 13), none, .mv (.t 5)⟩,
            ⟨(some 14), none, .iaddr (some 3) (.t 12) (.t 13)⟩,
            ⟨(some 15), none, .load (some 3) (.t 14)⟩,
            ⟨(some 16), none, .call (.t 11) [(.t 15)]⟩])
       (.cond (.t 16) (.seq (.reg [4] [⟨(some 17), none, .mv (.t 5)⟩,
              ⟨(some 4), none, .mv (.t 17)⟩])
         .ret)
       .skip))))
     (.reg [8] [⟨(some 18), none, .bin .add .other true (.t 8) (.c (.int .i64 1))⟩,
         ⟨(some 8), none, .mv (.t 18)⟩])))))))
  (.seq (.reg [4] [⟨(some 4), none, .mv (.c (.int .i64 (-1)))⟩])
  .ret)))⟩
theorem c99 : compF Try.prog [0, 1, 4, 5, 7, 8, 9, 16] Try.f99 = some a99 := by kernel_rfl

/- bushel/bushellaw19.Read -/
def a62 : AFun := ⟨8, [.cell 0 (some 3)], (.seq (.reg [0] [⟨(some 0), none, .alloc [.snil, .snil, .snil]⟩])
  (.seq (.reg [] [⟨(some 1), none, .build [(.int .i64 0), (.int .i64 0), .snil] [(0, 1, (.c (.int .i64 18)))]⟩,
       ⟨(some 2), none, .mksl none [(.c (.int .i64 0))]⟩,
       ⟨(some 3), none, .build [(.int .i64 0), (.int .i64 0), .snil] [(0, 1, (.c (.int .i64 24))), (2, 1, (.t 2))]⟩,
       ⟨(some 4), none, .mksl (some 3) [(.t 1), (.t 3)]⟩,
       ⟨(some 5), none, .build [(.int .i64 0), (.int .i64 0), .snil] [(0, 1, (.c (.int .i64 2))), (2, 1, (.t 4))]⟩,
       ⟨(some 6), none, .mksl (some 3) [(.t 5)]⟩,
       ⟨(some 7), none, .build [.snil, .snil, .snil] [(2, 1, (.t 6))]⟩,
       ⟨none, none, .store 3 (.t 0) (.t 7)⟩])
  .ret))⟩
theorem c62 : compF Try.prog [0] Try.f62 = some a62 := by kernel_rfl

/- bushel/bushelref19.fits -/
def a63 : AFun := ⟨94, [.tmp 6], (.seq (.reg [3, 4, 5, 6] [⟨(some 3), none, .box (.t 0)⟩,
       ⟨(some 4), none, .box (.t 1)⟩,
       ⟨(some 5), none, .box (.t 2)⟩,
       ⟨(some 6), none, .mv (.c (.bool false))⟩])
  (.seq (.reg [7] [⟨(some 10), none, .faddr 0 (.t 5)⟩,
       ⟨(some 11), none, .load none (.t 10)⟩,
       ⟨(some 12), none, .call (.c (.fn 88)) [(.t 11)]⟩,
       ⟨(some 7), none, .mv (.t 12)⟩])
  (.seq (.seq (.reg [35] [⟨(some 13), none, .mv (.t 7)⟩,
        ⟨(some 14), none, .bin .eql .other true (.t 13) (.c (.int .i64 (-3)))⟩,
        ⟨(some 15), none, .mv (.t 14)⟩,
        ⟨(some 16), (some (15, false)), .mv (.t 7)⟩,
        ⟨(some 17), (some (15, false)), .bin .eql .other true (.t 16) (.c (.int .i64 (-1)))⟩,
        ⟨(some 18), (some (15, false)), .mv (.t 17)⟩,
        ⟨(some 19), (some (18, true)), .faddr 2 (.t 5)⟩,
        ⟨(some 20), (some (18, true)), .load none (.t 19)⟩,
        ⟨(some 21), (some (18, true)), .len .sl (.t 20)⟩,
        ⟨(some 22), (some (18, true)), .bin .eql .other true (.t 21) (.c (.int .i64 0))⟩,
        ⟨(some 23), (some (15, false)), .pick (.t 18) (.t 22) (.c (.bool false))⟩,
        ⟨(some 24), none, .pick (.t 15) (.c (.bool true)) (.t 23)⟩,
        ⟨(some 25), none, .mv (.t 24)⟩,
        ⟨(some 26), (some (25, false)), .mv (.t 7)⟩,
        ⟨(some 27), (some (25, false)), .bin .geq .other true (.t 26) (.c (.int .i64 0))⟩,
        ⟨(some 28), (some (25, false)), .mv (.t 27)⟩,
        ⟨(some 29), (some (28, true)), .mv (.t 7)⟩,
        ⟨(some 30), (some (28, true)), .faddr 2 (.t 5)⟩,
        ⟨(some 31), (some (28, true)), .load none (.t 30)⟩,
        ⟨(some 32), (some (28, true)), .len .sl (.t 31)⟩,
        ⟨(some 33), (some (28, true)), .bin .neq .other false (.t 29) (.t 32)⟩,
        ⟨(some 34), (some (25, false)), .pick (.t 28) (.t 33) (.c (.bool false))⟩,
        ⟨(some 35), none, .pick (.t 25) (.c (.bool true)) (.t 34)⟩])
   (.cond (.t 35) (.seq (.reg [6] [⟨(some 6), none, .mv (.c (.bool false))⟩])
     .ret)
   .skip))
  (.seq (.seq (.reg [8] [⟨(some 8), none, .mv (.c (.int .i64 0))⟩])
   (.block 0 (.loop (.seq (.seq (.reg [40] [⟨(some 36), none, .mv (.t 8)⟩,
           ⟨(some 37), none, .faddr 2 (.t 5)⟩,
           ⟨(some 38), none, .load none (.t 37)⟩,
           ⟨(some 39), none, .len .sl (.t 38)⟩,
           ⟨(some 40), none, .bin .lss .other false (.t 36) (.t 39)⟩])
      (.cond (.t 40) .skip
      (.exit 0)))
     (.seq (.block 1 (.seq (.any [9] [(⟨(some 43), none, .faddr 2 (.t 5)⟩, true),
            (⟨(some 44), none, .load none (.t 43)⟩, true),
            (⟨(some 45), none, .mv (.t 8)⟩, false),
            (⟨(some 46), none, .iaddr none (.t 44) (.t 45)⟩, true),
            (⟨(some 47), none, .load none (.t 46)⟩, true),
            (⟨(some 48), none, .load (some 3) (.t 3)⟩, false),
            (⟨(some 49), none, .load (some 3) (.t 4)⟩, false),
            (⟨(some 50), none, .load (some 3) (.t 5)⟩, false),
            (⟨(some 51), none, .mv (.t 8)⟩, false),
            (⟨(some 52), none, .call (.c (.fn 90)) [(.t 48), (.t 49), (.t 50), (.t 51)]⟩, false),
            (⟨(some 53), none, .call (.c (.fn 89)) [(.t 47), (.t 52)]⟩, true),
            (⟨(some 9), none, .mv (.t 53)⟩, true)])
       (.seq (.reg [55] [⟨(some 54), none, .mv (.t 9)⟩,
            ⟨(some 55), none, .un .not (.t 54)⟩])
       (.cond (.t 55) (.seq (.reg [6] [⟨(some 6), none, .mv (.c (.bool false))⟩])
         .ret)
       .skip))))
     (.reg [8] [⟨(some 41), none, .mv (.t 8)⟩,
         ⟨(some 42), none, .bin .add .other true (.t 41) (.c (.int .i64 1))⟩,
         ⟨(some 8), none, .mv (.t 42)⟩]))))))
  (.seq (.seq (.reg [58] [⟨(some 56), none, .faddr 0 (.t 5)⟩,
        ⟨(some 57), none, .load none (.t 56)⟩,
        ⟨(some 58), none, .bin .eql .other true (.t 57) (.c (.int .i64 4))⟩])
   (.cond (.t 58) (.seq (.any [72] [(⟨(some 59), none, .faddr 2 (.t 5)⟩, true),
          (⟨(some 60), none, .load none (.t 59)⟩, true),
          (⟨(some 61), none, .len .sl (.t 60)⟩, true),
          (⟨(some 62), none, .faddr 2 (.t 3)⟩, false),
          (⟨(some 63), none, .load none (.t 62)⟩, false),
          (⟨(some 64), none, .faddr 2 (.t 5)⟩, false),
          (⟨(some 65), none, .load none (.t 64)⟩, false),
          (⟨(some 66), none, .iaddr none (.t 65) (.c (.int .i64 0))⟩, false),
          (⟨(some 67), none, .load none (.t 66)⟩, false),
          (⟨(some 68), none, .iaddr (some 3) (.t 63) (.t 67)⟩, false),
          (⟨(some 69), none, .faddr 1 (.t 68)⟩, false),
          (⟨(some 70), none, .load none (.t 69)⟩, false),
          (⟨(some 71), none, .bin .add .other true (.c (.int .i64 1)) (.t 70)⟩, false),
          (⟨(some 72), none, .bin .neq .other false (.t 61) (.t 71)⟩, true)])
     (.cond (.t 72) (.seq (.reg [6] [⟨(some 6), none, .mv (.c (.bool false))⟩])
       .ret)
     .skip))
   .skip))
  (.seq (.seq (.reg [85] [⟨(some 73), none, .faddr 0 (.t 5)⟩,
        ⟨(some 74), none, .load none (.t 73)⟩,
        ⟨(some 75), none, .bin .eql .other true (.t 74) (.c (.int .i64 22))⟩,
        ⟨(some 76), none, .mv (.t 75)⟩,
        ⟨(some 77), (some (76, false)), .faddr 0 (.t 5)⟩,
        ⟨(some 78), (some (76, false)), .load none (.t 77)⟩,
        ⟨(some 79), (some (76, false)), .bin .eql .other true (.t 78) (.c (.int .i64 23))⟩,
        ⟨(some 80), none, .pick (.t 76) (.c (.bool true)) (.t 79)⟩,
        ⟨(some 81), none, .mv (.t 80)⟩,
        ⟨(some 82), (some (81, false)), .faddr 0 (.t 5)⟩,
        ⟨(some 83), (some (81, false)), .load none (.t 82)⟩,
        ⟨(some 84), (some (81, false)), .bin .eql .other true (.t 83) (.c (.int .i64 24))⟩,
        ⟨(some 85), none, .pick (.t 81) (.c (.bool true)) (.t 84)⟩])
   (.cond (.t 85) (.seq (.reg [6] [⟨(some 86), none, .faddr 1 (.t 5)⟩,
          ⟨(some 87), none, .load none (.t 86)⟩,
          ⟨(some 88), none, .bin .eql .other true (.t 87) (.c (.int .i64 0))⟩,
          ⟨(some 6), none, .mv (.t 88)⟩])
     .ret)
   .skip))
  (.seq (.reg [6] [⟨(some 89), none, .faddr 1 (.t 5)⟩,
       ⟨(some 90), none, .load none (.t 89)⟩,
       ⟨(some 91), none, .faddr 0 (.t 4)⟩,
       ⟨(some 92), none, .load none (.t 91)⟩,
       ⟨(some 93), none, .call (.c (.fn 89)) [(.t 90), (.t 92)]⟩,
       ⟨(some 6), none, .mv (.t 93)⟩])
  .ret)))))))⟩
theorem c63 : compF Try.prog [0, 1, 2, 3, 4, 5, 6, 7, 8, 9, 35, 40, 55, 58, 72, 85] Try.f63 = some a63 := by kernel_rfl

/- bushel/code.Put$1 -/
def a64 : AFun := ⟨6, [], (.reg [] [⟨(some 3), none, .load none (.t 1)⟩,
      ⟨(some 4), none, .mv (.t 0)⟩,
      ⟨(some 5), none, .call (.c (.fn 65)) [(.t 3), (.t 4)]⟩,
      ⟨none, none, .store 1 (.t 1) (.t 5)⟩])⟩
theorem c64 : compF Try.prog [0, 1] Try.f64 = some a64 := by kernel_rfl

/- bushel/code.put -/
def a65 : AFun := ⟨28, [.tmp 4], (.seq (.reg [4] [⟨(some 4), none, .mv (.c .snil)⟩])
  (.seq (.reg [5] [⟨(some 6), none, .mv (.t 1)⟩,
       ⟨(some 7), none, .conv (.toInt .u64) (.t 6)⟩,
       ⟨(some 8), none, .bin .shl .other true (.t 7) (.c (.int .u64 1))⟩,
       ⟨(some 5), none, .mv (.t 8)⟩])
  (.seq (.seq (.reg [10] [⟨(some 9), none, .mv (.t 1)⟩,
        ⟨(some 10), none, .bin .lss .other true (.t 9) (.c (.int .i64 0))⟩])
   (.cond (.t 10) (.reg [5] [⟨(some 11), none, .mv (.t 5)⟩,
         ⟨(some 12), none, .un .xor (.t 11)⟩,
         ⟨(some 5), none, .mv (.t 12)⟩])
   .skip))
  (.seq (.block 0 (.loop (.seq (.seq (.reg [14] [⟨(some 13), none, .mv (.t 5)⟩,
           ⟨(some 14), none, .bin .geq .other true (.t 13) (.c (.int .u64 128))⟩])
      (.cond (.t 14) .skip
      (.exit 0)))
     (.seq (.block 1 (.reg [0] [⟨(some 17), none, .mv (.t 0)⟩,
           ⟨(some 18), none, .mv (.t 5)⟩,
           ⟨(some 19), none, .conv (.toInt .u8) (.t 18)⟩,
           ⟨(some 20), none, .bin .or .other true (.t 19) (.c (.int .u8 128))⟩,
           ⟨(some 21), none, .mksl none [(.t 20)]⟩,
           ⟨(some 22), none, .append none 1 (.t 17) (.t 21)⟩,
           ⟨(some 0), none, .mv (.t 22)⟩]))
     (.reg [5] [⟨(some 15), none, .mv (.t 5)⟩,
         ⟨(some 16), none, .bin .shr .other true (.t 15) (.c (.int .u64 7))⟩,
         ⟨(some 5), none, .mv (.t 16)⟩])))))
  (.seq (.reg [4] [⟨(some 23), none, .mv (.t 0)⟩,
       ⟨(some 24), none, .mv (.t 5)⟩,
       ⟨(some 25), none, .conv (.toInt .u8) (.t 24)⟩,
       ⟨(some 26), none, .mksl none [(.t 25)]⟩,
       ⟨(some 27), none, .append none 1 (.t 23) (.t 26)⟩,
       ⟨(some 4), none, .mv (.t 27)⟩])
  .ret)))))⟩
theorem c65 : compF Try.prog [0, 1, 4, 5, 10, 14] Try.f65 = some a65 := by kernel_rfl

/- bushel/code.Same$1 -/
def a66 : AFun := ⟨24, [.tmp 4], (.seq (.reg [2, 3, 4] [⟨(some 2), none, .box (.t 0)⟩,
       ⟨(some 3), none, .box (.t 1)⟩,
       ⟨(some 4), none, .mv (.c (.bool false))⟩])
  (.seq (.reg [4] [⟨(some 5), none, .faddr 0 (.t 2)⟩,
       ⟨(some 6), none, .load none (.t 5)⟩,
       ⟨(some 7), none, .faddr 0 (.t 3)⟩,
       ⟨(some 8), none, .load none (.t 7)⟩,
       ⟨(some 9), none, .bin .eql .other false (.t 6) (.t 8)⟩,
       ⟨(some 10), none, .mv (.t 9)⟩,
       ⟨(some 11), (some (10, true)), .faddr 1 (.t 2)⟩,
       ⟨(some 12), (some (10, true)), .load none (.t 11)⟩,
       ⟨(some 13), (some (10, true)), .faddr 1 (.t 3)⟩,
       ⟨(some 14), (some (10, true)), .load none (.t 13)⟩,
       ⟨(some 15), (some (10, true)), .bin .eql .other false (.t 12) (.t 14)⟩,
       ⟨(some 16), none, .pick (.t 10) (.t 15) (.c (.bool false))⟩,
       ⟨(some 17), none, .mv (.t 16)⟩,
       ⟨(some 18), (some (17, true)), .faddr 2 (.t 2)⟩,
       ⟨(some 19), (some (17, true)), .load none (.t 18)⟩,
       ⟨(some 20), (some (17, true)), .faddr 2 (.t 3)⟩,
       ⟨(some 21), (some (17, true)), .load none (.t 20)⟩,
       ⟨(some 22), (some (17, true)), .call (.c (.fn 67)) [(.t 19), (.t 21)]⟩,
       ⟨(some 23), none, .pick (.t 17) (.t 22) (.c (.bool false))⟩,
       ⟨(some 4), none, .mv (.t 23)⟩])
  .ret))⟩
theorem c66 : compF Try.prog [0, 1, 2, 3, 4] Try.f66 = some a66 := by kernel_rfl

/- slices.Equal[[]int,int] -/
def a67 : AFun := ⟨26, [.tmp 4], (.seq (.reg [4] [⟨(some 4), none, .mv (.c (.bool false))⟩])
  (.seq (.seq (.reg [10] [⟨(some 6), none, .mv (.t 0)⟩,
        ⟨(some 7), none, .len .sl (.t 6)⟩,
        ⟨(some 8), none, .mv (.t 1)⟩,
        ⟨(some 9), none, .len .sl (.t 8)⟩,
        ⟨(some 10), none, .bin .neq .other false (.t 7) (.t 9)⟩])
   (.cond (.t 10) (.seq (.reg [4] [⟨(some 4), none, .mv (.c (.bool false))⟩])
     .ret)
   .skip))
  (.seq (.seq (.reg [12, 13] [⟨(some 11), none, .mv (.t 0)⟩,
        ⟨(some 12), none, .len .sl (.t 11)⟩,
        ⟨(some 13), none, .mv (.c (.int .i64 0))⟩])
   (.block 0 (.loop (.seq (.reg [14] [⟨(some 14), none, .bin .lss .other false (.t 13) (.t 12)⟩])
     (.seq (.cond (.t 14) .skip
      (.exit 0))
     (.seq (.block 1 (.seq (.reg [5] [⟨(some 15), none, .mv (.t 13)⟩,
            ⟨(some 5), none, .mv (.t 15)⟩])
       (.seq (.any [24] [(⟨(some 16), none, .mv (.t 0)⟩, true),
            (⟨(some 17), none, .mv (.t 5)⟩, false),
            (⟨(some 18), none, .iaddr none (.t 16) (.t 17)⟩, true),
            (⟨(some 19), none, .load none (.t 18)⟩, true),
            (⟨(some 20), none, .mv (.t 1)⟩, false),
            (⟨(some 21), none, .mv (.t 5)⟩, false),
            (⟨(some 22), none, .iaddr none (.t 20) (.t 21)⟩, false),
            (⟨(some 23), none, .load none (.t 22)⟩, false),
            (⟨(some 24), none, .bin .neq .other false (.t 19) (.t 23)⟩, true)])
       (.cond (.t 24) (.seq (.reg [4] [⟨(some 4), none, .mv (.c (.bool false))⟩])
         .ret)
       .skip))))
     (.reg [13] [⟨(some 25), none, .bin .add .other true (.t 13) (.c (.int .i64 1))⟩,
         ⟨(some 13), none, .mv (.t 25)⟩])))))))
  (.seq (.reg [4] [⟨(some 4), none, .mv (.c (.bool true))⟩])
  .ret))))⟩
theorem c67 : compF Try.prog [0, 1, 4, 5, 10, 12, 13, 14, 24] Try.f67 = some a67 := by kernel_rfl

/- bushel/code.Same$2 -/
def a68 : AFun := ⟨26, [.tmp 5], (.seq (.reg [3, 4, 5] [⟨(some 3), none, .box (.t 0)⟩,
       ⟨(some 4), none, .box (.t 1)⟩,
       ⟨(some 5), none, .mv (.c (.bool false))⟩])
  (.seq (.reg [5] [⟨(some 6), none, .faddr 0 (.t 3)⟩,
       ⟨(some 7), none, .load none (.t 6)⟩,
       ⟨(some 8), none, .faddr 0 (.t 4)⟩,
       ⟨(some 9), none, .load none (.t 8)⟩,
       ⟨(some 10), none, .bin .eql .other false (.t 7) (.t 9)⟩,
       ⟨(some 11), none, .mv (.t 10)⟩,
       ⟨(some 12), (some (11, true)), .faddr 1 (.t 3)⟩,
       ⟨(some 13), (some (11, true)), .load none (.t 12)⟩,
       ⟨(some 14), (some (11, true)), .faddr 1 (.t 4)⟩,
       ⟨(some 15), (some (11, true)), .load none (.t 14)⟩,
       ⟨(some 16), (some (11, true)), .bin .eql .other false (.t 13) (.t 15)⟩,
       ⟨(some 17), none, .pick (.t 11) (.t 16) (.c (.bool false))⟩,
       ⟨(some 18), none, .mv (.t 17)⟩,
       ⟨(some 19), (some (18, true)), .faddr 2 (.t 3)⟩,
       ⟨(some 20), (some (18, true)), .load none (.t 19)⟩,
       ⟨(some 21), (some (18, true)), .faddr 2 (.t 4)⟩,
       ⟨(some 22), (some (18, true)), .load none (.t 21)⟩,
       ⟨(some 23), (some (18, true)), .load none (.t 2)⟩,
       ⟨(some 24), (some (18, true)), .call (.c (.fn 69)) [(.t 20), (.t 22), (.t 23)]⟩,
       ⟨(some 25), none, .pick (.t 18) (.t 24) (.c (.bool false))⟩,
       ⟨(some 5), none, .mv (.t 25)⟩])
  .ret))⟩
theorem c68 : compF Try.prog [0, 1, 2, 3, 4, 5] Try.f68 = some a68 := by kernel_rfl

/- slices.EqualFunc[[]bushel/api.Instr,[]bushel/api.Instr,bushel/api.Instr,bushel/api.Instr] -/
def a69 : AFun := ⟨32, [.tmp 6], (.seq (.reg [6] [⟨(some 6), none, .mv (.c (.bool false))⟩])
  (.seq (.seq (.reg [14] [⟨(some 10), none, .mv (.t 0)⟩,
        ⟨(some 11), none, .len .sl (.t 10)⟩,
        ⟨(some 12), none, .mv (.t 1)⟩,
        ⟨(some 13), none, .len .sl (.t 12)⟩,
        ⟨(some 14), none, .bin .neq .other false (.t 11) (.t 13)⟩])
   (.cond (.t 14) (.seq (.reg [6] [⟨(some 6), none, .mv (.c (.bool false))⟩])
     .ret)
   .skip))
  (.seq (.seq (.reg [15, 16, 17] [⟨(some 15), none, .mv (.t 0)⟩,
        ⟨(some 16), none, .len .sl (.t 15)⟩,
        ⟨(some 17), none, .mv (.c (.int .i64 0))⟩])
   (.block 0 (.loop (.seq (.reg [18] [⟨(some 18), none, .bin .lss .other false (.t 17) (.t 16)⟩])
     (.seq (.cond (.t 18) .skip
      (.exit 0))
     (.seq (.block 1 (.seq (.reg [8, 7] [⟨(some 19), none, .mv (.t 17)⟩,
            ⟨(some 20), none, .iaddr (some 3) (.t 15) (.t 17)⟩,
            ⟨(some 21), none, .load (some 3) (.t 20)⟩,
            ⟨(some 8), none, .alloc [(.int .i64 0), (.int .i64 0), .snil]⟩,
            ⟨(some 7), none, .mv (.t 19)⟩,
            ⟨none, none, .store 3 (.t 8) (.t 21)⟩])
       (.seq (.reg [9] [⟨(some 22), none, .mv (.t 1)⟩,
            ⟨(some 23), none, .mv (.t 7)⟩,
            ⟨(some 24), none, .iaddr (some 3) (.t 22) (.t 23)⟩,
            ⟨(some 25), none, .load (some 3) (.t 24)⟩,
            ⟨(some 9), none, .alloc [(.int .i64 0), (.int .i64 0), .snil]⟩,
            ⟨none, none, .store 3 (.t 9) (.t 25)⟩])
       (.seq (.reg [30] [⟨(some 26), none, .mv (.t 2)⟩,
            ⟨(some 27), none, .load (some 3) (.t 8)⟩,
            ⟨(some 28), none, .load (some 3) (.t 9)⟩,
            ⟨(some 29), none, .call (.t 26) [(.t 27), (.t 28)]⟩,
            ⟨(some 30), none, .un .not (.t 29)⟩])
       (.cond (.t 30) (.seq (.reg [6] [⟨(some 6), none, .mv (.c (.bool false))⟩])
         .ret)
       .skip)))))
     (.reg [17] [⟨(some 31), none, .bin .add .other true (.t 17) (.c (.int .i64 1))⟩,
         ⟨(some 17), none, .mv (.t 31)⟩])))))))
  (.seq (.reg [6] [⟨(some 6), none, .mv (.c (.bool true))⟩])
  .ret))))⟩
theorem c69 : compF Try.prog [0, 1, 2, 6, 7, 8, 9, 14, 15, 16, 17, 18, 30] Try.f69 = some a69 := by kernel_rfl

/- slices.Equal[[]int64,int64] -/
def a70 : AFun := ⟨26, [.tmp 4], (.seq (.reg [4] [⟨(some 4), none, .mv (.c (.bool false))⟩])
  (.seq (.seq (.reg [10] [⟨(some 6), none, .mv (.t 0)⟩,
        ⟨(some 7), none, .len .sl (.t 6)⟩,
        ⟨(some 8), none, .mv (.t 1)⟩,
        ⟨(some 9), none, .len .sl (.t 8)⟩,
        ⟨(some 10), none, .bin .neq .other false (.t 7) (.t 9)⟩])
   (.cond (.t 10) (.seq (.reg [4] [⟨(some 4), none, .mv (.c (.bool false))⟩])
     .ret)
   .skip))
  (.seq (.seq (.reg [12, 13] [⟨(some 11), none, .mv (.t 0)⟩,
        ⟨(some 12), none, .len .sl (.t 11)⟩,
        ⟨(some 13), none, .mv (.c (.int .i64 0))⟩])
   (.block 0 (.loop (.seq (.reg [14] [⟨(some 14), none, .bin .lss .other false (.t 13) (.t 12)⟩])
     (.seq (.cond (.t 14) .skip
      (.exit 0))
     (.seq (.block 1 (.seq (.reg [5] [⟨(some 15), none, .mv (.t 13)⟩,
            ⟨(some 5), none, .mv (.t 15)⟩])
       (.seq (.any [24] [(⟨(some 16), none, .mv (.t 0)⟩, true),
            (⟨(some 17), none, .mv (.t 5)⟩, false),
            (⟨(some 18), none, .iaddr none (.t 16) (.t 17)⟩, true),
            (⟨(some 19), none, .load none (.t 18)⟩, true),
            (⟨(some 20), none, .mv (.t 1)⟩, false),
            (⟨(some 21), none, .mv (.t 5)⟩, false),
            (⟨(some 22), none, .iaddr none (.t 20) (.t 21)⟩, false),
            (⟨(some 23), none, .load none (.t 22)⟩, false),
            (⟨(some 24), none, .bin .neq .other false (.t 19) (.t 23)⟩, true)])
       (.cond (.t 24) (.seq (.reg [4] [⟨(some 4), none, .mv (.c (.bool false))⟩])
         .ret)
       .skip))))
     (.reg [13] [⟨(some 25), none, .bin .add .other true (.t 13) (.c (.int .i64 1))⟩,
         ⟨(some 13), none, .mv (.t 25)⟩])))))))
  (.seq (.reg [4] [⟨(some 4), none, .mv (.c (.bool true))⟩])
  .ret))))⟩
theorem c70 : compF Try.prog [0, 1, 4, 5, 10, 12, 13, 14, 24] Try.f70 = some a70 := by kernel_rfl

/- slices.Equal[[]string,string] -/
def a71 : AFun := ⟨26, [.tmp 4], (.seq (.reg [4] [⟨(some 4), none, .mv (.c (.bool false))⟩])
  (.seq (.seq (.reg [10] [⟨(some 6), none, .mv (.t 0)⟩,
        ⟨(some 7), none, .len .sl (.t 6)⟩,
        ⟨(some 8), none, .mv (.t 1)⟩,
        ⟨(some 9), none, .len .sl (.t 8)⟩,
        ⟨(some 10), none, .bin .neq .other false (.t 7) (.t 9)⟩])
   (.cond (.t 10) (.seq (.reg [4] [⟨(some 4), none, .mv (.c (.bool false))⟩])
     .ret)
   .skip))
  (.seq (.seq (.reg [12, 13] [⟨(some 11), none, .mv (.t 0)⟩,
        ⟨(some 12), none, .len .sl (.t 11)⟩,
        ⟨(some 13), none, .mv (.c (.int .i64 0))⟩])
   (.block 0 (.loop (.seq (.reg [14] [⟨(some 14), none, .bin .lss .other false (.t 13) (.t 12)⟩])
     (.seq (.cond (.t 14) .skip
      (.exit 0))
     (.seq (.block 1 (.seq (.reg [5] [⟨(some 15), none, .mv (.t 13)⟩,
            ⟨(some 5), none, .mv (.t 15)⟩])
       (.seq (.any [24] [(⟨(some 16), none, .mv (.t 0)⟩, true),
            (⟨(some 17), none, .mv (.t 5)⟩, false),
            (⟨(some 18), none, .iaddr none (.t 16) (.t 17)⟩, true),
            (⟨(some 19), none, .load none (.t 18)⟩, true),
            (⟨(some 20), none, .mv (.t 1)⟩, false),
            (⟨(some 21), none, .mv (.t 5)⟩, false),
            (⟨(some 22), none, .iaddr none (.t 20) (.t 21)⟩, false),
            (⟨(some 23), none, .load none (.t 22)⟩, false),
            (⟨(some 24), none, .bin .neq .other false (.t 19) (.t 23)⟩, true)])
       (.cond (.t 24) (.seq (.reg [4] [⟨(some 4), none, .mv (.c (.bool false))⟩])
         .ret)
       .skip))))
     (.reg [13] [⟨(some 25), none, .bin .add .other true (.t 13) (.c (.int .i64 1))⟩,
         ⟨(some 13), none, .mv (.t 25)⟩])))))))
  (.seq (.reg [4] [⟨(some 4), none, .mv (.c (.bool true))⟩])
  .ret))))⟩
theorem c71 : compF Try.prog [0, 1, 4, 5, 10, 12, 13, 14, 24] Try.f71 = some a71 := by kernel_rfl

/- slices.EqualFunc[[]bushel/api.Func,[]bushel/api.Func,bushel/api.Func,bushel/api.Func] -/
def a72 : AFun := ⟨32, [.tmp 6], (.seq (.reg [6] [⟨(some 6), none, .mv (.c (.bool false))⟩])
  (.seq (.seq (.reg [14] [⟨(some 10), none, .mv (.t 0)⟩,
        ⟨(some 11), none, .len .sl (.t 10)⟩,
        ⟨(some 12), none, .mv (.t 1)⟩,
        ⟨(some 13), none, .len .sl (.t 12)⟩,
        ⟨(some 14), none, .bin .neq .other false (.t 11) (.t 13)⟩])
   (.cond (.t 14) (.seq (.reg [6] [⟨(some 6), none, .mv (.c (.bool false))⟩])
     .ret)
   .skip))
  (.seq (.seq (.reg [15, 16, 17] [⟨(some 15), none, .mv (.t 0)⟩,
        ⟨(some 16), none, .len .sl (.t 15)⟩,
        ⟨(some 17), none, .mv (.c (.int .i64 0))⟩])
   (.block 0 (.loop (.seq (.reg [18] [⟨(some 18), none, .bin .lss .other false (.t 17) (.t 16)⟩])
     (.seq (.cond (.t 18) .skip
      (.exit 0))
     (.seq (.block 1 (.seq (.reg [8, 7] [⟨(some 19), none, .mv (.t 17)⟩,
            ⟨(some 20), none, .iaddr (some 3) (.t 15) (.t 17)⟩,
            ⟨(some 21), none, .load (some 3) (.t 20)⟩,
            ⟨(some 8), none, .alloc [(.int .i64 0), (.int .i64 0), .snil]⟩,
            ⟨(some 7), none, .mv (.t 19)⟩,
            ⟨none, none, .store 3 (.t 8) (.t 21)⟩])
       (.seq (.reg [9] [⟨(some 22), none, .mv (.t 1)⟩,
            ⟨(some 23), none, .mv (.t 7)⟩,
            ⟨(some 24), none, .iaddr (some 3) (.t 22) (.t 23)⟩,
            ⟨(some 25), none, .load (some 3) (.t 24)⟩,
            ⟨(some 9), none, .alloc [(.int .i64 0), (.int .i64 0), .snil]⟩,
            ⟨none, none, .store 3 (.t 9) (.t 25)⟩])
       (.seq (.reg [30] [⟨(some 26), none, .mv (.t 2)⟩,
            ⟨(some 27), none, .load (some 3) (.t 8)⟩,
            ⟨(some 28), none, .load (some 3) (.t 9)⟩,
            ⟨(some 29), none, .call (.t 26) [(.t 27), (.t 28)]⟩,
            ⟨(some 30), none, .un .not (.t 29)⟩])
       (.cond (.t 30) (.seq (.reg [6] [⟨(some 6), none, .mv (.c (.bool false))⟩])
         .ret)
       .skip)))))
     (.reg [17] [⟨(some 31), none, .bin .add .other true (.t 17) (.c (.int .i64 1))⟩,
         ⟨(some 17), none, .mv (.t 31)⟩])))))))
  (.seq (.reg [6] [⟨(some 6), none, .mv (.c (.bool true))⟩])
  .ret))))⟩
theorem c72 : compF Try.prog [0, 1, 2, 6, 7, 8, 9, 14, 15, 16, 17, 18, 30] Try.f72 = some a72 := by kernel_rfl

/- bushel/code.Check$1 -/
def a73 : AFun := ⟨6, [.tmp 2], (.seq (.reg [2] [⟨(some 2), none, .mv (.c (.bool false))⟩])
  (.seq (.reg [2] [⟨(some 3), none, .mv (.t 0)⟩,
       ⟨(some 4), none, .len .str (.t 3)⟩,
       ⟨(some 5), none, .bin .gtr .other true (.t 4) (.c (.int .i64 2000))⟩,
       ⟨(some 2), none, .mv (.t 5)⟩])
  .ret))⟩
theorem c73 : compF Try.prog [0, 2] Try.f73 = some a73 := by kernel_rfl

/- bushel/code.Check$2 -/
def a74 : AFun := ⟨8, [.tmp 3], (.seq (.reg [2, 3] [⟨(some 2), none, .box (.t 0)⟩,
       ⟨(some 3), none, .mv (.c (.bool false))⟩])
  (.seq (.reg [3] [⟨(some 4), none, .load (some 3) (.t 1)⟩,
       ⟨(some 5), none, .load (some 3) (.t 2)⟩,
       ⟨(some 6), none, .call (.c (.fn 75)) [(.t 4), (.t 5)]⟩,
       ⟨(some 7), none, .un .not (.t 6)⟩,
       ⟨(some 3), none, .mv (.t 7)⟩])
  .ret))⟩
theorem c74 : compF Try.prog [0, 1, 2, 3] Try.f74 = some a74 := by kernel_rfl

/- bushel/code.sound -/
def a75 : AFun := ⟨55, [.tmp 4], (.seq (.reg [2, 3, 4] [⟨(some 2), none, .box (.t 0)⟩,
       ⟨(some 3), none, .box (.t 1)⟩,
       ⟨(some 4), none, .mv (.c (.bool false))⟩])
  (.seq (.reg [5] [⟨(some 7), none, .faddr 2 (.t 3)⟩,
       ⟨(some 8), none, .load none (.t 7)⟩,
       ⟨(some 9), none, .len .sl (.t 8)⟩,
       ⟨(some 5), none, .mv (.t 9)⟩])
  (.seq (.seq (.reg [34] [⟨(some 10), none, .faddr 1 (.t 3)⟩,
        ⟨(some 11), none, .load none (.t 10)⟩,
        ⟨(some 12), none, .bin .lss .other true (.t 11) (.c (.int .i64 0))⟩,
        ⟨(some 13), none, .mv (.t 12)⟩,
        ⟨(some 14), (some (13, false)), .faddr 0 (.t 3)⟩,
        ⟨(some 15), (some (13, false)), .load none (.t 14)⟩,
        ⟨(some 16), (some (13, false)), .bin .lss .other true (.t 15) (.c (.int .i64 2))⟩,
        ⟨(some 17), none, .pick (.t 13) (.c (.bool true)) (.t 16)⟩,
        ⟨(some 18), none, .mv (.t 17)⟩,
        ⟨(some 19), (some (18, false)), .faddr 1 (.t 3)⟩,
        ⟨(some 20), (some (18, false)), .load none (.t 19)⟩,
        ⟨(some 21), (some (18, false)), .faddr 0 (.t 3)⟩,
        ⟨(some 22), (some (18, false)), .load none (.t 21)⟩,
        ⟨(some 23), (some (18, false)), .bin .sub .other true (.t 22) (.c (.int .i64 2))⟩,
        ⟨(some 24), (some (18, false)), .bin .gtr .other false (.t 20) (.t 23)⟩,
        ⟨(some 25), none, .pick (.t 18) (.c (.bool true)) (.t 24)⟩,
        ⟨(some 26), none, .mv (.t 25)⟩,
        ⟨(some 27), (some (26, false)), .faddr 0 (.t 3)⟩,
        ⟨(some 28), (some (26, false)), .load none (.t 27)⟩,
        ⟨(some 29), (some (26, false)), .bin .gtr .other true (.t 28) (.c (.int .i64 4000))⟩,
        ⟨(some 30), none, .pick (.t 26) (.c (.bool true)) (.t 29)⟩,
        ⟨(some 31), none, .mv (.t 30)⟩,
        ⟨(some 32), (some (31, false)), .mv (.t 5)⟩,
        ⟨(some 33), (some (31, false)), .bin .eql .other true (.t 32) (.c (.int .i64 0))⟩,
        ⟨(some 34), none, .pick (.t 31) (.c (.bool true)) (.t 33)⟩])
   (.cond (.t 34) (.seq (.reg [4] [⟨(some 4), none, .mv (.c (.bool false))⟩])
     .ret)
   .skip))
  (.seq (.reg [6] [⟨(some 35), none, .faddr 2 (.t 3)⟩,
       ⟨(some 36), none, .load none (.t 35)⟩,
       ⟨(some 37), none, .mv (.t 5)⟩,
       ⟨(some 38), none, .bin .sub .other true (.t 37) (.c (.int .i64 1))⟩,
       ⟨(some 39), none, .iaddr (some 3) (.t 36) (.t 38)⟩,
       ⟨(some 40), none, .faddr 0 (.t 39)⟩,
       ⟨(some 41), none, .load none (.t 40)⟩,
       ⟨(some 6), none, .mv (.t 41)⟩])
  (.seq (.reg [4] [⟨(some 42), none, .mv (.t 6)⟩,
       ⟨(some 43), none, .bin .eql .other true (.t 42) (.c (.int .i64 23))⟩,
       ⟨(some 44), none, .mv (.t 43)⟩,
       ⟨(some 45), (some (44, false)), .mv (.t 6)⟩,
       ⟨(some 46), (some (44, false)), .bin .eql .other true (.t 45) (.c (.int .i64 24))⟩,
       ⟨(some 47), none, .pick (.t 44) (.c (.bool true)) (.t 46)⟩,
       ⟨(some 48), none, .mv (.t 47)⟩,
       ⟨(some 49), (some (48, true)), .faddr 2 (.t 3)⟩,
       ⟨(some 50), (some (48, true)), .load none (.t 49)⟩,
       ⟨(some 51), (some (48, true)), .mkfn 92 [(.t 2), (.t 3)]⟩,
       ⟨(some 52), (some (48, true)), .call (.c (.fn 91)) [(.t 50), (.t 51)]⟩,
       ⟨(some 53), (some (48, true)), .un .not (.t 52)⟩,
       ⟨(some 54), none, .pick (.t 48) (.t 53) (.c (.bool false))⟩,
       ⟨(some 4), none, .mv (.t 54)⟩])
  .ret)))))⟩
theorem c75 : compF Try.prog [0, 1, 2, 3, 4, 5, 6, 34] Try.f75 = some a75 := by kernel_rfl

/- slices.ContainsFunc[[]string,string] -/
def a76 : AFun := ⟨9, [.tmp 4], (.seq (.reg [4] [⟨(some 4), none, .mv (.c (.bool false))⟩])
  (.seq (.reg [4] [⟨(some 5), none, .mv (.t 0)⟩,
       ⟨(some 6), none, .mv (.t 1)⟩,
       ⟨(some 7), none, .call (.c (.fn 94)) [(.t 5), (.t 6)]⟩,
       ⟨(some 8), none, .bin .geq .other true (.t 7) (.c (.int .i64 0))⟩,
       ⟨(some 4), none, .mv (.t 8)⟩])
  .ret))⟩
theorem c76 : compF Try.prog [0, 1, 4] Try.f76 = some a76 := by kernel_rfl

/- slices.ContainsFunc[[]bushel/api.Func,bushel/api.Func] -/
def a77 : AFun := ⟨9, [.tmp 4], (.seq (.reg [4] [⟨(some 4), none, .mv (.c (.bool false))⟩])
  (.seq (.reg [4] [⟨(some 5), none, .mv (.t 0)⟩,
       ⟨(some 6), none, .mv (.t 1)⟩,
       ⟨(some 7), none, .call (.c (.fn 95)) [(.t 5), (.t 6)]⟩,
       ⟨(some 8), none, .bin .geq .other true (.t 7) (.c (.int .i64 0))⟩,
       ⟨(some 4), none, .mv (.t 8)⟩])
  .ret))⟩
theorem c77 : compF Try.prog [0, 1, 4] Try.f77 = some a77 := by kernel_rfl

/- bushel/bushelref19.number -/
def a78 : AFun := ⟨33, [.tmp 4], (.seq (.reg [4] [⟨(some 4), none, .mv (.c .snil)⟩])
  (.seq (.reg [5] [⟨(some 6), none, .mv (.t 1)⟩,
       ⟨(some 7), none, .conv (.toInt .u64) (.t 6)⟩,
       ⟨(some 8), none, .bin .mul .other true (.c (.int .u64 2)) (.t 7)⟩,
       ⟨(some 5), none, .mv (.t 8)⟩])
  (.seq (.seq (.reg [10] [⟨(some 9), none, .mv (.t 1)⟩,
        ⟨(some 10), none, .bin .lss .other true (.t 9) (.c (.int .i64 0))⟩])
   (.cond (.t 10) (.reg [5] [⟨(some 11), none, .mv (.t 1)⟩,
         ⟨(some 12), none, .bin .add .other true (.t 11) (.c (.int .i64 1))⟩,
         ⟨(some 13), none, .un .neg (.t 12)⟩,
         ⟨(some 14), none, .conv (.toInt .u64) (.t 13)⟩,
         ⟨(some 15), none, .bin .mul .other true (.c (.int .u64 2)) (.t 14)⟩,
         ⟨(some 16), none, .bin .add .other true (.t 15) (.c (.int .u64 1))⟩,
         ⟨(some 5), none, .mv (.t 16)⟩])
   .skip))
  (.seq (.block 0 (.loop (.seq (.seq (.reg [18] [⟨(some 17), none, .mv (.t 5)⟩,
           ⟨(some 18), none, .bin .gtr .other true (.t 17) (.c (.int .u64 127))⟩])
      (.cond (.t 18) .skip
      (.exit 0)))
     (.block 1 (.seq (.reg [0] [⟨(some 19), none, .mv (.t 0)⟩,
           ⟨(some 20), none, .mv (.t 5)⟩,
           ⟨(some 21), none, .bin .rem .other true (.t 20) (.c (.int .u64 128))⟩,
           ⟨(some 22), none, .conv (.toInt .u8) (.t 21)⟩,
           ⟨(some 23), none, .bin .add .other true (.t 22) (.c (.int .u8 128))⟩,
           ⟨(some 24), none, .mksl none [(.t 23)]⟩,
           ⟨(some 25), none, .append none 1 (.t 19) (.t 24)⟩,
           ⟨(some 0), none, .mv (.t 25)⟩])
      (.reg [5] [⟨(some 26), none, .mv (.t 5)⟩,
          ⟨(some 27), none, .bin .quo .other true (.t 26) (.c (.int .u64 128))⟩,
          ⟨(some 5), none, .mv (.t 27)⟩]))))))
  (.seq (.reg [4] [⟨(some 28), none, .mv (.t 0)⟩,
       ⟨(some 29), none, .mv (.t 5)⟩,
       ⟨(some 30), none, .conv (.toInt .u8) (.t 29)⟩,
       ⟨(some 31), none, .mksl none [(.t 30)]⟩,
       ⟨(some 32), none, .append none 1 (.t 28) (.t 31)⟩,
       ⟨(some 4), none, .mv (.t 32)⟩])
  .ret)))))⟩
theorem c78 : compF Try.prog [0, 1, 4, 5, 10, 18] Try.f78 = some a78 := by kernel_rfl

/- (*bushel/code.reader).many -/
def a79 : AFun := ⟨21, [.tmp 2], (.seq (.reg [2] [⟨(some 2), none, .mv (.c (.int .i64 0))⟩])
  (.seq (.reg [3] [⟨(some 4), none, .mv (.t 0)⟩,
       ⟨(some 5), none, .call (.c (.fn 80)) [(.t 4)]⟩,
       ⟨(some 3), none, .mv (.t 5)⟩])
  (.seq (.seq (.reg [16] [⟨(some 6), none, .mv (.t 3)⟩,
        ⟨(some 7), none, .bin .lss .other true (.t 6) (.c (.int .i64 0))⟩,
        ⟨(some 8), none, .mv (.t 7)⟩,
        ⟨(some 9), (some (8, false)), .mv (.t 3)⟩,
        ⟨(some 10), (some (8, false)), .mv (.t 0)⟩,
        ⟨(some 11), (some (8, false)), .nilck (.t 10)⟩,
        ⟨(some 12), (some (8, false)), .faddr 0 (.t 11)⟩,
        ⟨(some 13), (some (8, false)), .load none (.t 12)⟩,
        ⟨(some 14), (some (8, false)), .len .sl (.t 13)⟩,
        ⟨(some 15), (some (8, false)), .bin .gtr .other false (.t 9) (.t 14)⟩,
        ⟨(some 16), none, .pick (.t 8) (.c (.bool true)) (.t 15)⟩])
   (.cond (.t 16) (.seq (.reg [] [⟨(some 17), none, .mv (.t 0)⟩,
          ⟨(some 18), none, .nilck (.t 17)⟩,
          ⟨(some 19), none, .faddr 1 (.t 18)⟩,
          ⟨none, none, .store 1 (.t 19) (.c (.bool true))⟩])
     (.seq (.reg [2] [⟨(some 2), none, .mv (.c (.int .i64 0))⟩])
     .ret))
   .skip))
  (.seq (.reg [2] [⟨(some 20), none, .mv (.t 3)⟩,
       ⟨(some 2), none, .mv (.t 20)⟩])
  .ret))))⟩
theorem c79 : compF Try.prog [0, 2, 3, 16] Try.f79 = some a79 := by kernel_rfl

/- (*bushel/code.reader).number -/
def a80 : AFun := ⟨78, [.tmp 2], (.seq (.reg [2] [⟨(some 2), none, .mv (.c (.int .i64 0))⟩])
  (.seq (.reg [3] [⟨(some 3), none, .mv (.c (.int .u64 0))⟩])
  (.seq (.seq (.reg [4] [⟨(some 4), none, .mv (.c (.int .i64 0))⟩])
   (.block 0 (.loop (.seq (.block 1 (.seq (.seq (.reg [23] [⟨(some 8), none, .mv (.t 0)⟩,
             ⟨(some 9), none, .nilck (.t 8)⟩,
             ⟨(some 10), none, .faddr 1 (.t 9)⟩,
             ⟨(some 11), none, .load none (.t 10)⟩,
             ⟨(some 12), none, .mv (.t 11)⟩,
             ⟨(some 13), (some (12, false)), .mv (.t 0)⟩,
             ⟨(some 14), (some (12, false)), .nilck (.t 13)⟩,
             ⟨(some 15), (some (12, false)), .faddr 0 (.t 14)⟩,
             ⟨(some 16), (some (12, false)), .load none (.t 15)⟩,
             ⟨(some 17), (some (12, false)), .len .sl (.t 16)⟩,
             ⟨(some 18), (some (12, false)), .bin .eql .other true (.t 17) (.c (.int .i64 0))⟩,
             ⟨(some 19), none, .pick (.t 12) (.c (.bool true)) (.t 18)⟩,
             ⟨(some 20), none, .mv (.t 19)⟩,
             ⟨(some 21), (some (20, false)), .mv (.t 4)⟩,
             ⟨(some 22), (some (20, false)), .bin .eql .other true (.t 21) (.c (.int .i64 10))⟩,
             ⟨(some 23), none, .pick (.t 20) (.c (.bool true)) (.t 22)⟩])
        (.cond (.t 23) (.seq (.reg [] [⟨(some 24), none, .mv (.t 0)⟩,
               ⟨(some 25), none, .nilck (.t 24)⟩,
               ⟨(some 26), none, .faddr 1 (.t 25)⟩,
               ⟨none, none, .store 1 (.t 26) (.c (.bool true))⟩])
          (.seq (.reg [2] [⟨(some 2), none, .mv (.c (.int .i64 0))⟩])
          .ret))
        .skip))
       (.seq (.reg [5] [⟨(some 27), none, .mv (.t 0)⟩,
            ⟨(some 28), none, .nilck (.t 27)⟩,
            ⟨(some 29), none, .faddr 0 (.t 28)⟩,
            ⟨(some 30), none, .load none (.t 29)⟩,
            ⟨(some 31), none, .iaddr none (.t 30) (.c (.int .i64 0))⟩,
            ⟨(some 32), none, .load none (.t 31)⟩,
            ⟨(some 5), none, .mv (.t 32)⟩])
       (.seq (.reg [] [⟨(some 33), none, .mv (.t 0)⟩,
            ⟨(some 34), none, .mv (.t 0)⟩,
            ⟨(some 35), none, .nilck (.t 34)⟩,
            ⟨(some 36), none, .faddr 0 (.t 35)⟩,
            ⟨(some 37), none, .load none (.t 36)⟩,
            ⟨(some 38), none, .slice (.sl none) (.t 37) (some (.c (.int .i64 1))) none none⟩,
            ⟨(some 39), none, .nilck (.t 33)⟩,
            ⟨(some 40), none, .faddr 0 (.t 39)⟩,
            ⟨none, none, .store 1 (.t 40) (.t 38)⟩])
       (.seq (.reg [3] [⟨(some 41), none, .mv (.t 3)⟩,
            ⟨(some 42), none, .mv (.t 5)⟩,
            ⟨(some 43), none, .bin .rem .other true (.t 42) (.c (.int .u8 128))⟩,
            ⟨(some 44), none, .conv (.toInt .u64) (.t 43)⟩,
            ⟨(some 45), none, .mv (.t 4)⟩,
            ⟨(some 46), none, .bin .mul .other true (.c (.int .i64 7)) (.t 45)⟩,
            ⟨(some 47), none, .bin .shl .other false (.t 44) (.t 46)⟩,
            ⟨(some 48), none, .bin .or .other false (.t 41) (.t 47)⟩,
            ⟨(some 3), none, .mv (.t 48)⟩])
       (.seq (.reg [50] [⟨(some 49), none, .mv (.t 5)⟩,
            ⟨(some 50), none, .bin .lss .other true (.t 49) (.c (.int .u8 128))⟩])
       (.cond (.t 50) (.seq (.reg [] [⟨(some 51), none, .mv (.t 0)⟩,
              ⟨(some 52), none, .mv (.t 5)⟩,
              ⟨(some 53), none, .bin .eql .other true (.t 52) (.c (.int .u8 0))⟩,
              ⟨(some 54), none, .mv (.t 53)⟩,
              ⟨(some 55), (some (54, true)), .mv (.t 4)⟩,
              ⟨(some 56), (some (54, true)), .bin .gtr .other true (.t 55) (.c (.int .i64 0))⟩,
              ⟨(some 57), none, .pick (.t 54) (.t 56) (.c (.bool false))⟩,
              ⟨(some 58), none, .mv (.t 57)⟩,
              ⟨(some 59), (some (58, false)), .mv (.t 4)⟩,
              ⟨(some 60), (some (58, false)), .bin .eql .other true (.t 59) (.c (.int .i64 9))⟩,
              ⟨(some 61), (some (58, false)), .mv (.t 60)⟩,
              ⟨(some 62), (some (61, true)), .mv (.t 5)⟩,
              ⟨(some 63), (some (61, true)), .bin .gtr .other true (.t 62) (.c (.int .u8 1))⟩,
              ⟨(some 64), (some (58, false)), .pick (.t 61) (.t 63) (.c (.bool false))⟩,
              ⟨(some 65), none, .pick (.t 58) (.c (.bool true)) (.t 64)⟩,
              ⟨(some 66), none, .nilck (.t 51)⟩,
              ⟨(some 67), none, .faddr 1 (.t 66)⟩,
              ⟨none, none, .store 1 (.t 67) (.t 65)⟩])
         (.exit 0))
       .skip)))))))
     (.reg [4] [⟨(some 6), none, .mv (.t 4)⟩,
         ⟨(some 7), none, .bin .add .other true (.t 6) (.c (.int .i64 1))⟩,
         ⟨(some 4), none, .mv (.t 7)⟩])))))
  (.seq (.seq (.reg [70] [⟨(some 68), none, .mv (.t 3)⟩,
        ⟨(some 69), none, .bin .and .other true (.t 68) (.c (.int .u64 1))⟩,
        ⟨(some 70), none, .bin .eql .other true (.t 69) (.c (.int .u64 1))⟩])
   (.cond (.t 70) (.seq (.reg [2] [⟨(some 71), none, .mv (.t 3)⟩,
          ⟨(some 72), none, .bin .shr .other true (.t 71) (.c (.int .u64 1))⟩,
          ⟨(some 73), none, .un .xor (.t 72)⟩,
          ⟨(some 74), none, .conv (.toInt .i64) (.t 73)⟩,
          ⟨(some 2), none, .mv (.t 74)⟩])
     .ret)
   .skip))
  (.seq (.reg [2] [⟨(some 75), none, .mv (.t 3)⟩,
       ⟨(some 76), none, .bin .shr .other true (.t 75) (.c (.int .u64 1))⟩,
       ⟨(some 77), none, .conv (.toInt .i64) (.t 76)⟩,
       ⟨(some 2), none, .mv (.t 77)⟩])
  .ret)))))⟩
theorem c80 : compF Try.prog [0, 2, 3, 4, 5, 23, 50, 70] Try.f80 = some a80 := by kernel_rfl

/- (*bushel/code.reader).fun -/
def a81 : AFun := ⟨26, [.cell 2 (some 3)], (.seq (.reg [2] [⟨(some 2), none, .alloc [(.int .i64 0), (.int .i64 0), .snil]⟩])
  (.seq (.reg [3] [⟨(some 6), none, .mv (.t 0)⟩,
       ⟨(some 7), none, .call (.c (.fn 96)) [(.t 6)]⟩,
       ⟨(some 3), none, .mv (.t 7)⟩])
  (.seq (.reg [4] [⟨(some 8), none, .mv (.t 0)⟩,
       ⟨(some 9), none, .call (.c (.fn 96)) [(.t 8)]⟩,
       ⟨(some 4), none, .mv (.t 9)⟩])
  (.seq (.reg [5] [⟨(some 10), none, .mv (.t 3)⟩,
       ⟨(some 11), none, .mv (.t 4)⟩,
       ⟨(some 12), none, .build [(.int .i64 0), (.int .i64 0), .snil] [(0, 1, (.t 10)), (1, 1, (.t 11))]⟩,
       ⟨(some 5), none, .alloc [(.int .i64 0), (.int .i64 0), .snil]⟩,
       ⟨none, none, .store 3 (.t 5) (.t 12)⟩])
  (.seq (.seq (.reg [14, 15] [⟨(some 13), none, .mv (.t 0)⟩,
        ⟨(some 14), none, .call (.c (.fn 79)) [(.t 13)]⟩,
        ⟨(some 15), none, .mv (.c (.int .i64 0))⟩])
   (.block 0 (.loop (.seq (.reg [16] [⟨(some 16), none, .bin .lss .other false (.t 15) (.t 14)⟩])
     (.seq (.cond (.t 16) .skip
      (.exit 0))
     (.seq (.block 1 (.any [] [(⟨(some 17), none, .faddr 2 (.t 5)⟩, true),
           (⟨(some 18), none, .load none (.t 17)⟩, true),
           (⟨(some 19), none, .mv (.t 0)⟩, false),
           (⟨(some 20), none, .call (.c (.fn 97)) [(.t 19)]⟩, false),
           (⟨(some 21), none, .mksl (some 3) [(.t 20)]⟩, false),
           (⟨(some 22), none, .append (some 3) 40 (.t 18) (.t 21)⟩, true),
           (⟨(some 23), none, .faddr 2 (.t 5)⟩, true),
           (⟨none, none, .store 1 (.t 23) (.t 22)⟩, true)]))
     (.reg [15] [⟨(some 24), none, .bin .add .other true (.t 15) (.c (.int .i64 1))⟩,
         ⟨(some 15), none, .mv (.t 24)⟩])))))))
  (.seq (.reg [] [⟨(some 25), none, .load (some 3) (.t 5)⟩,
       ⟨none, none, .store 3 (.t 2) (.t 25)⟩])
  .ret))))))⟩
theorem c81 : compF Try.prog [0, 2, 3, 4, 5, 14, 15, 16] Try.f81 = some a81 := by kernel_rfl

/- bushel/bushellaw19.CodeChecks -/
def a8 : AFun := ⟨82, [.tmp 4], (.seq (.reg [2, 3, 4] [⟨(some 2), none, .box (.t 0)⟩,
       ⟨(some 3), none, .box (.t 1)⟩,
       ⟨(some 4), none, .mv (.c (.bool false))⟩])
  (.seq (.reg [5] [⟨(some 11), none, .call (.c (.fn 42)) []⟩,
       ⟨(some 5), none, .mv (.t 11)⟩])
  (.seq (.reg [6] [⟨(some 12), none, .load (some 3) (.t 2)⟩,
       ⟨(some 13), none, .call (.c (.fn 43)) [(.t 12)]⟩,
       ⟨(some 6), none, .mv (.t 13)⟩])
  (.seq (.reg [7] [⟨(some 14), none, .load (some 3) (.t 3)⟩,
       ⟨(some 15), none, .call (.c (.fn 43)) [(.t 14)]⟩,
       ⟨(some 7), none, .mv (.t 15)⟩])
  (.seq (.seq (.reg [21] [⟨(some 16), none, .mv (.t 6)⟩,
        ⟨(some 17), none, .un .not (.t 16)⟩,
        ⟨(some 18), none, .mv (.t 17)⟩,
        ⟨(some 19), (some (18, false)), .mv (.t 7)⟩,
        ⟨(some 20), (some (18, false)), .un .not (.t 19)⟩,
        ⟨(some 21), none, .pick (.t 18) (.c (.bool true)) (.t 20)⟩])
   (.cond (.t 21) (.seq (.reg [4] [⟨(some 22), none, .mv (.t 5)⟩,
          ⟨(some 4), none, .mv (.t 22)⟩])
     .ret)
   .skip))
  (.seq (.reg [8] [⟨(some 23), none, .load (some 3) (.t 2)⟩,
       ⟨(some 24), none, .call (.c (.fn 44)) [(.t 23)]⟩,
       ⟨(some 8), none, .mv (.t 24)⟩])
  (.seq (.reg [9, 10] [⟨(some 26), none, .load (some 3) (.t 2)⟩,
       ⟨(some 27), none, .call (.c (.fn 45)) [(.t 26)]⟩,
       ⟨(some 25), none, .mv (.t 27)⟩,
       ⟨(some 28), none, .extract (.t 25) 0⟩,
       ⟨(some 29), none, .extract (.t 25) 1⟩,
       ⟨(some 9), none, .mv (.t 28)⟩,
       ⟨(some 10), none, .mv (.t 29)⟩])
  (.seq (.seq (.any [49] [(⟨(some 30), none, .load (some 3) (.t 2)⟩, true),
        (⟨(some 31), none, .load (some 3) (.t 3)⟩, false),
        (⟨(some 33), none, .load (some 3) (.t 2)⟩, false),
        (⟨(some 34), none, .load (some 3) (.t 3)⟩, false),
        (⟨(some 32), none, .call (.c (.fn 46)) [(.t 30), (.t 31)]⟩, false),
        (⟨(some 35), none, .call (.c (.fn 47)) [(.t 33), (.t 34)]⟩, true),
        (⟨(some 36), none, .bin .neq .bool false (.t 32) (.t 35)⟩, true),
        (⟨(some 37), none, .mv (.t 36)⟩, true),
        (⟨(some 38), (some (37, false)), .load (some 3) (.t 2)⟩, true),
        (⟨(some 39), (some (37, false)), .load (some 3) (.t 2)⟩, false),
        (⟨(some 40), (some (37, false)), .call (.c (.fn 46)) [(.t 38), (.t 39)]⟩, true),
        (⟨(some 41), (some (37, false)), .un .not (.t 40)⟩, true),
        (⟨(some 42), none, .pick (.t 37) (.c (.bool true)) (.t 41)⟩, true),
        (⟨(some 43), none, .mv (.t 42)⟩, true),
        (⟨(some 44), (some (43, false)), .load (some 3) (.t 2)⟩, true),
        (⟨(some 47), (some (43, false)), .mv (.t 8)⟩, false),
        (⟨(some 45), (some (43, false)), .call (.c (.fn 48)) [(.t 44)]⟩, false),
        (⟨(some 46), (some (43, false)), .bin .eql .ifc true (.t 45) (.c .inil)⟩, false),
        (⟨(some 48), (some (43, false)), .bin .neq .bool false (.t 46) (.t 47)⟩, true),
        (⟨(some 49), none, .pick (.t 43) (.c (.bool true)) (.t 48)⟩, true)])
   (.cond (.t 49) (.seq (.reg [4] [⟨(some 4), none, .mv (.c (.bool false))⟩])
     .ret)
   .skip))
  (.seq (.seq (.reg [51] [⟨(some 50), none, .mv (.t 8)⟩,
        ⟨(some 51), none, .un .not (.t 50)⟩])
   (.cond (.t 51) (.seq (.reg [4] [⟨(some 52), none, .mv (.t 5)⟩,
          ⟨(some 53), none, .mv (.t 52)⟩,
          ⟨(some 54), (some (53, true)), .mv (.t 10)⟩,
          ⟨(some 55), (some (53, true)), .mkif 32 (.c (.int .i64 10))⟩,
          ⟨(some 56), (some (53, true)), .bin .eql .ifc false (.t 54) (.t 55)⟩,
          ⟨(some 57), none, .pick (.t 53) (.t 56) (.c (.bool false))⟩,
          ⟨(some 58), none, .mv (.t 57)⟩,
          ⟨(some 59), (some (58, true)), .load (some 3) (.t 2)⟩,
          ⟨(some 60), (some (58, true)), .call (.c (.fn 48)) [(.t 59)]⟩,
          ⟨(some 61), (some (58, true)), .mkif 32 (.c (.int .i64 10))⟩,
          ⟨(some 62), (some (58, true)), .bin .eql .ifc false (.t 60) (.t 61)⟩,
          ⟨(some 63), none, .pick (.t 58) (.t 62) (.c (.bool false))⟩,
          ⟨(some 64), none, .mv (.t 63)⟩,
          ⟨(some 65), (some (64, true)), .mv (.t 9)⟩,
          ⟨(some 66), (some (64, true)), .len .sl (.t 65)⟩,
          ⟨(some 67), (some (64, true)), .bin .eql .other true (.t 66) (.c (.int .i64 0))⟩,
          ⟨(some 68), none, .pick (.t 64) (.t 67) (.c (.bool false))⟩,
          ⟨(some 4), none, .mv (.t 68)⟩])
     .ret)
   .skip))
  (.seq (.any [4] [(⟨(some 69), none, .mv (.t 5)⟩, true),
       (⟨(some 70), none, .mv (.t 69)⟩, true),
       (⟨(some 71), (some (70, true)), .mv (.t 10)⟩, true),
       (⟨(some 72), (some (70, true)), .bin .eql .ifc true (.t 71) (.c .inil)⟩, true),
       (⟨(some 73), none, .pick (.t 70) (.t 72) (.c (.bool false))⟩, true),
       (⟨(some 74), none, .mv (.t 73)⟩, true),
       (⟨(some 75), (some (74, true)), .mv (.t 9)⟩, true),
       (⟨(some 76), (some (74, true)), .conv .ofBytes (.t 75)⟩, true),
       (⟨(some 77), (some (74, true)), .load (some 3) (.t 2)⟩, false),
       (⟨(some 78), (some (74, true)), .call (.c (.fn 49)) [(.t 77)]⟩, false),
       (⟨(some 79), (some (74, true)), .conv .ofBytes (.t 78)⟩, false),
       (⟨(some 80), (some (74, true)), .bin .eql .other false (.t 76) (.t 79)⟩, true),
       (⟨(some 81), none, .pick (.t 74) (.t 80) (.c (.bool false))⟩, true),
       (⟨(some 4), none, .mv (.t 81)⟩, true)])
  .ret))))))))))⟩
theorem c8 : compF Try.prog [0, 1, 2, 3, 4, 5, 6, 7, 8, 9, 10, 21, 49, 51] Try.f8 = some a8 := by kernel_rfl

/- bushel/bushellaw19.CodeBack -/
def a9 : AFun := ⟨103, [.tmp 4], (.seq (.reg [2, 4] [⟨(some 2), none, .box (.t 0)⟩,
       ⟨(some 4), none, .mv (.c (.bool false))⟩])
  (.seq (.reg [5] [⟨(some 17), none, .call (.c (.fn 42)) []⟩,
       ⟨(some 5), none, .mv (.t 17)⟩])
  (.seq (.reg [6] [⟨(some 18), none, .load (some 3) (.t 2)⟩,
       ⟨(some 19), none, .call (.c (.fn 43)) [(.t 18)]⟩,
       ⟨(some 6), none, .mv (.t 19)⟩])
  (.seq (.seq (.reg [26] [⟨(some 20), none, .mv (.t 6)⟩,
        ⟨(some 21), none, .un .not (.t 20)⟩,
        ⟨(some 22), none, .mv (.t 21)⟩,
        ⟨(some 23), (some (22, false)), .mv (.t 1)⟩,
        ⟨(some 24), (some (22, false)), .len .sl (.t 23)⟩,
        ⟨(some 25), (some (22, false)), .bin .gtr .other true (.t 24) (.c (.int .i64 5000))⟩,
        ⟨(some 26), none, .pick (.t 22) (.c (.bool true)) (.t 25)⟩])
   (.cond (.t 26) (.seq (.reg [4] [⟨(some 27), none, .mv (.t 5)⟩,
          ⟨(some 4), none, .mv (.t 27)⟩])
     .ret)
   .skip))
  (.seq (.reg [7, 8] [⟨(some 29), none, .load (some 3) (.t 2)⟩,
       ⟨(some 30), none, .call (.c (.fn 45)) [(.t 29)]⟩,
       ⟨(some 28), none, .mv (.t 30)⟩,
       ⟨(some 31), none, .extract (.t 28) 0⟩,
       ⟨(some 32), none, .extract (.t 28) 1⟩,
       ⟨(some 7), none, .mv (.t 31)⟩,
       ⟨(some 8), none, .mv (.t 32)⟩])
  (.seq (.seq (.reg [34] [⟨(some 33), none, .mv (.t 8)⟩,
        ⟨(some 34), none, .bin .eql .ifc true (.t 33) (.c .inil)⟩])
   (.cond (.t 34) (.seq (.reg [9, 10] [⟨(some 36), none, .mv (.t 7)⟩,
          ⟨(some 37), none, .call (.c (.fn 50)) [(.t 36)]⟩,
          ⟨(some 35), none, .mv (.t 37)⟩,
          ⟨(some 38), none, .extract (.t 35) 0⟩,
          ⟨(some 39), none, .extract (.t 35) 1⟩,
          ⟨(some 9), none, .alloc [.snil, .snil, .snil]⟩,
          ⟨none, none, .store 3 (.t 9) (.t 38)⟩,
          ⟨(some 10), none, .mv (.t 39)⟩])
     (.seq (.reg [12] [⟨(some 41), none, .mksl none []⟩,
          ⟨(some 42), none, .mv (.t 7)⟩,
          ⟨(some 43), none, .append none 1 (.t 41) (.t 42)⟩,
          ⟨(some 44), none, .mksl none [(.c (.int .u8 0))]⟩,
          ⟨(some 45), none, .append none 1 (.t 43) (.t 44)⟩,
          ⟨(some 46), none, .call (.c (.fn 50)) [(.t 45)]⟩,
          ⟨(some 40), none, .mv (.t 46)⟩,
          ⟨(some 47), none, .extract (.t 40) 0⟩,
          ⟨(some 48), none, .extract (.t 40) 1⟩,
          ⟨(some 11), none, .alloc [.snil, .snil, .snil]⟩,
          ⟨none, none, .store 3 (.t 11) (.t 47)⟩,
          ⟨(some 12), none, .mv (.t 48)⟩])
     (.seq (.reg [61] [⟨(some 49), none, .mv (.t 10)⟩,
          ⟨(some 50), none, .bin .neq .ifc true (.t 49) (.c .inil)⟩,
          ⟨(some 51), none, .mv (.t 50)⟩,
          ⟨(some 52), (some (51, false)), .load (some 3) (.t 9)⟩,
          ⟨(some 53), (some (51, false)), .load (some 3) (.t 2)⟩,
          ⟨(some 54), (some (51, false)), .call (.c (.fn 46)) [(.t 52), (.t 53)]⟩,
          ⟨(some 55), (some (51, false)), .un .not (.t 54)⟩,
          ⟨(some 56), none, .pick (.t 51) (.c (.bool true)) (.t 55)⟩,
          ⟨(some 57), none, .mv (.t 56)⟩,
          ⟨(some 58), (some (57, false)), .mv (.t 12)⟩,
          ⟨(some 59), (some (57, false)), .mkif 32 (.c (.int .i64 10))⟩,
          ⟨(some 60), (some (57, false)), .bin .neq .ifc false (.t 58) (.t 59)⟩,
          ⟨(some 61), none, .pick (.t 57) (.c (.bool true)) (.t 60)⟩])
     (.cond (.t 61) (.seq (.reg [4] [⟨(some 4), none, .mv (.c (.bool false))⟩])
       .ret)
     .skip))))
   .skip))
  (.seq (.reg [13, 14] [⟨(some 63), none, .mv (.t 1)⟩,
       ⟨(some 64), none, .call (.c (.fn 50)) [(.t 63)]⟩,
       ⟨(some 62), none, .mv (.t 64)⟩,
       ⟨(some 65), none, .extract (.t 62) 0⟩,
       ⟨(some 66), none, .extract (.t 62) 1⟩,
       ⟨(some 13), none, .alloc [.snil, .snil, .snil]⟩,
       ⟨none, none, .store 3 (.t 13) (.t 65)⟩,
       ⟨(some 14), none, .mv (.t 66)⟩])
  (.seq (.seq (.reg [68] [⟨(some 67), none, .mv (.t 14)⟩,
        ⟨(some 68), none, .bin .neq .ifc true (.t 67) (.c .inil)⟩])
   (.cond (.t 68) (.seq (.reg [4] [⟨(some 69), none, .mv (.t 5)⟩,
          ⟨(some 70), none, .mv (.t 69)⟩,
          ⟨(some 71), (some (70, true)), .mv (.t 14)⟩,
          ⟨(some 72), (some (70, true)), .mkif 32 (.c (.int .i64 10))⟩,
          ⟨(some 73), (some (70, true)), .bin .eql .ifc false (.t 71) (.t 72)⟩,
          ⟨(some 74), none, .pick (.t 70) (.t 73) (.c (.bool false))⟩,
          ⟨(some 75), none, .mv (.t 74)⟩,
          ⟨(some 76), (some (75, true)), .faddr 2 (.t 13)⟩,
          ⟨(some 77), (some (75, true)), .load none (.t 76)⟩,
          ⟨(some 78), (some (75, true)), .len .sl (.t 77)⟩,
          ⟨(some 79), (some (75, true)), .bin .eql .other true (.t 78) (.c (.int .i64 0))⟩,
          ⟨(some 80), none, .pick (.t 75) (.t 79) (.c (.bool false))⟩,
          ⟨(some 4), none, .mv (.t 80)⟩])
     .ret)
   .skip))
  (.seq (.reg [15, 16] [⟨(some 82), none, .load (some 3) (.t 13)⟩,
       ⟨(some 83), none, .call (.c (.fn 45)) [(.t 82)]⟩,
       ⟨(some 81), none, .mv (.t 83)⟩,
       ⟨(some 84), none, .extract (.t 81) 0⟩,
       ⟨(some 85), none, .extract (.t 81) 1⟩,
       ⟨(some 15), none, .mv (.t 84)⟩,
       ⟨(some 16), none, .mv (.t 85)⟩])
  (.seq (.reg [4] [⟨(some 86), none, .mv (.t 5)⟩,
       ⟨(some 87), none, .mv (.t 86)⟩,
       ⟨(some 88), (some (87, true)), .mv (.t 16)⟩,
       ⟨(some 89), (some (87, true)), .bin .eql .ifc true (.t 88) (.c .inil)⟩,
       ⟨(some 90), none, .pick (.t 87) (.t 89) (.c (.bool false))⟩,
       ⟨(some 91), none, .mv (.t 90)⟩,
       ⟨(some 92), (some (91, true)), .mv (.t 15)⟩,
       ⟨(some 93), (some (91, true)), .conv .ofBytes (.t 92)⟩,
       ⟨(some 94), (some (91, true)), .mv (.t 1)⟩,
       ⟨(some 95), (some (91, true)), .conv .ofBytes (.t 94)⟩,
       ⟨(some 96), (some (91, true)), .bin .eql .other false (.t 93) (.t 95)⟩,
       ⟨(some 97), none, .pick (.t 91) (.t 96) (.c (.bool false))⟩,
       ⟨(some 98), none, .mv (.t 97)⟩,
       ⟨(some 99), (some (98, true)), .load (some 3) (.t 13)⟩,
       ⟨(some 100), (some (98, true)), .call (.c (.fn 48)) [(.t 99)]⟩,
       ⟨(some 101), (some (98, true)), .bin .eql .ifc true (.t 100) (.c .inil)⟩,
       ⟨(some 102), none, .pick (.t 98) (.t 101) (.c (.bool false))⟩,
       ⟨(some 4), none, .mv (.t 102)⟩])
  .ret))))))))))⟩
theorem c9 : compF Try.prog [0, 1, 2, 4, 5, 6, 7, 8, 9, 10, 12, 13, 14, 15, 16, 26, 34, 61, 68] Try.f9 = some a9 := by kernel_rfl

/- bushel/bushellaw19.up -/
def a42 : AFun := ⟨42, [.tmp 0], (.seq (.reg [0] [⟨(some 0), none, .mv (.c (.bool false))⟩])
  (.seq (.reg [1, 2] [⟨(some 6), none, .call (.c (.fn 62)) []⟩,
       ⟨(some 7), none, .call (.c (.fn 45)) [(.t 6)]⟩,
       ⟨(some 5), none, .mv (.t 7)⟩,
       ⟨(some 8), none, .extract (.t 5) 0⟩,
       ⟨(some 9), none, .extract (.t 5) 1⟩,
       ⟨(some 1), none, .mv (.t 8)⟩,
       ⟨(some 2), none, .mv (.t 9)⟩])
  (.seq (.reg [3, 4] [⟨(some 11), none, .mv (.t 1)⟩,
       ⟨(some 12), none, .call (.c (.fn 50)) [(.t 11)]⟩,
       ⟨(some 10), none, .mv (.t 12)⟩,
       ⟨(some 13), none, .extract (.t 10) 0⟩,
       ⟨(some 14), none, .extract (.t 10) 1⟩,
       ⟨(some 3), none, .alloc [.snil, .snil, .snil]⟩,
       ⟨none, none, .store 3 (.t 3) (.t 13)⟩,
       ⟨(some 4), none, .mv (.t 14)⟩])
  (.seq (.any [0] [(⟨(some 15), none, .mv (.t 2)⟩, true),
       (⟨(some 16), none, .bin .eql .ifc true (.t 15) (.c .inil)⟩, true),
       (⟨(some 17), none, .mv (.t 16)⟩, true),
       (⟨(some 18), (some (17, true)), .mv (.t 4)⟩, true),
       (⟨(some 19), (some (17, true)), .bin .eql .ifc true (.t 18) (.c .inil)⟩, true),
       (⟨(some 20), none, .pick (.t 17) (.t 19) (.c (.bool false))⟩, true),
       (⟨(some 21), none, .mv (.t 20)⟩, true),
       (⟨(some 22), (some (21, true)), .call (.c (.fn 62)) []⟩, true),
       (⟨(some 23), (some (21, true)), .call (.c (.fn 48)) [(.t 22)]⟩, true),
       (⟨(some 24), (some (21, true)), .bin .eql .ifc true (.t 23) (.c .inil)⟩, true),
       (⟨(some 25), none, .pick (.t 21) (.t 24) (.c (.bool false))⟩, true),
       (⟨(some 26), none, .mv (.t 25)⟩, true),
       (⟨(some 27), (some (26, true)), .build [.snil, .snil, .snil] []⟩, true),
       (⟨(some 29), (some (26, true)), .mkif 32 (.c (.int .i64 10))⟩, false),
       (⟨(some 28), (some (26, true)), .call (.c (.fn 48)) [(.t 27)]⟩, false),
       (⟨(some 30), (some (26, true)), .bin .eql .ifc false (.t 28) (.t 29)⟩, true),
       (⟨(some 31), none, .pick (.t 26) (.t 30) (.c (.bool false))⟩, true),
       (⟨(some 32), none, .mv (.t 31)⟩, true),
       (⟨(some 33), (some (32, true)), .load (some 3) (.t 3)⟩, true),
       (⟨(some 34), (some (32, true)), .call (.c (.fn 62)) []⟩, false),
       (⟨(some 35), (some (32, true)), .call (.c (.fn 46)) [(.t 33), (.t 34)]⟩, true),
       (⟨(some 36), none, .pick (.t 32) (.t 35) (.c (.bool false))⟩, true),
       (⟨(some 37), none, .mv (.t 36)⟩, true),
       (⟨(some 38), (some (37, true)), .mv (.t 1)⟩, true),
       (⟨(some 39), (some (37, true)), .len .sl (.t 38)⟩, true),
       (⟨(some 40), (some (37, true)), .bin .gtr .other true (.t 39) (.c (.int .i64 0))⟩, true),
       (⟨(some 41), none, .pick (.t 37) (.t 40) (.c (.bool false))⟩, true),
       (⟨(some 0), none, .mv (.t 41)⟩, true)])
  .ret))))⟩
theorem c42 : compF Try.prog [0, 1, 2, 3, 4] Try.f42 = some a42 := by kernel_rfl

/- bushel/bushelref19.Few -/
def a43 : AFun := ⟨81, [.tmp 2], (.seq (.reg [1, 2] [⟨(some 1), none, .box (.t 0)⟩,
       ⟨(some 2), none, .mv (.c (.bool false))⟩])
  (.seq (.reg [3] [⟨(some 7), none, .faddr 0 (.t 1)⟩,
       ⟨(some 8), none, .load none (.t 7)⟩,
       ⟨(some 9), none, .len .sl (.t 8)⟩,
       ⟨(some 10), none, .faddr 1 (.t 1)⟩,
       ⟨(some 11), none, .load none (.t 10)⟩,
       ⟨(some 12), none, .len .sl (.t 11)⟩,
       ⟨(some 13), none, .bin .add .other false (.t 9) (.t 12)⟩,
       ⟨(some 14), none, .faddr 2 (.t 1)⟩,
       ⟨(some 15), none, .load none (.t 14)⟩,
       ⟨(some 16), none, .len .sl (.t 15)⟩,
       ⟨(some 17), none, .bin .add .other false (.t 13) (.t 16)⟩,
       ⟨(some 3), none, .mv (.t 17)⟩])
  (.seq (.seq (.reg [4] [⟨(some 4), none, .mv (.c (.int .i64 0))⟩])
   (.block 0 (.loop (.seq (.seq (.reg [22] [⟨(some 18), none, .mv (.t 4)⟩,
           ⟨(some 19), none, .faddr 1 (.t 1)⟩,
           ⟨(some 20), none, .load none (.t 19)⟩,
           ⟨(some 21), none, .len .sl (.t 20)⟩,
           ⟨(some 22), none, .bin .lss .other false (.t 18) (.t 21)⟩])
      (.cond (.t 22) .skip
      (.exit 0)))
     (.seq (.block 1 (.seq (.reg [31] [⟨(some 25), none, .faddr 1 (.t 1)⟩,
            ⟨(some 26), none, .load none (.t 25)⟩,
            ⟨(some 27), none, .mv (.t 4)⟩,
            ⟨(some 28), none, .iaddr none (.t 26) (.t 27)⟩,
            ⟨(some 29), none, .load none (.t 28)⟩,
            ⟨(some 30), none, .len .str (.t 29)⟩,
            ⟨(some 31), none, .bin .gtr .other true (.t 30) (.c (.int .i64 3000))⟩])
       (.cond (.t 31) (.seq (.reg [2] [⟨(some 2), none, .mv (.c (.bool false))⟩])
         .ret)
       .skip)))
     (.reg [4] [⟨(some 23), none, .mv (.t 4)⟩,
         ⟨(some 24), none, .bin .add .other true (.t 23) (.c (.int .i64 1))⟩,
         ⟨(some 4), none, .mv (.t 24)⟩]))))))
  (.seq (.seq (.reg [5] [⟨(some 5), none, .mv (.c (.int .i64 0))⟩])
   (.block 2 (.loop (.seq (.seq (.reg [40] [⟨(some 32), none, .mv (.t 5)⟩,
           ⟨(some 33), none, .faddr 2 (.t 1)⟩,
           ⟨(some 34), none, .load none (.t 33)⟩,
           ⟨(some 35), none, .len .sl (.t 34)⟩,
           ⟨(some 36), none, .bin .lss .other false (.t 32) (.t 35)⟩,
           ⟨(some 37), none, .mv (.t 36)⟩,
           ⟨(some 38), (some (37, true)), .mv (.t 3)⟩,
           ⟨(some 39), (some (37, true)), .bin .leq .other true (.t 38) (.c (.int .i64 500))⟩,
           ⟨(some 40), none, .pick (.t 37) (.t 39) (.c (.bool false))⟩])
      (.cond (.t 40) .skip
      (.exit 2)))
     (.seq (.block 3 (.seq (.reg [3] [⟨(some 43), none, .mv (.t 3)⟩,
            ⟨(some 44), none, .faddr 2 (.t 1)⟩,
            ⟨(some 45), none, .load none (.t 44)⟩,
            ⟨(some 46), none, .mv (.t 5)⟩,
            ⟨(some 47), none, .iaddr (some 3) (.t 45) (.t 46)⟩,
            ⟨(some 48), none, .faddr 2 (.t 47)⟩,
            ⟨(some 49), none, .load none (.t 48)⟩,
            ⟨(some 50), none, .len .sl (.t 49)⟩,
            ⟨(some 51), none, .bin .add .other false (.t 43) (.t 50)⟩,
            ⟨(some 3), none, .mv (.t 51)⟩])
       (.seq (.reg [6] [⟨(some 6), none, .mv (.c (.int .i64 0))⟩])
       (.block 4 (.loop (.seq (.seq (.reg [64] [⟨(some 52), none, .mv (.t 6)⟩,
               ⟨(some 53), none, .faddr 2 (.t 1)⟩,
               ⟨(some 54), none, .load none (.t 53)⟩,
               ⟨(some 55), none, .mv (.t 5)⟩,
               ⟨(some 56), none, .iaddr (some 3) (.t 54) (.t 55)⟩,
               ⟨(some 57), none, .faddr 2 (.t 56)⟩,
               ⟨(some 58), none, .load none (.t 57)⟩,
               ⟨(some 59), none, .len .sl (.t 58)⟩,
               ⟨(some 60), none, .bin .lss .other false (.t 52) (.t 59)⟩,
               ⟨(some 61), none, .mv (.t 60)⟩,
               ⟨(some 62), (some (61, true)), .mv (.t 3)⟩,
               ⟨(some 63), (some (61, true)), .bin .leq .other true (.t 62) (.c (.int .i64 500))⟩,
               ⟨(some 64), none, .pick (.t 61) (.t 63) (.c (.bool false))⟩])
          (.cond (.t 64) .skip
          (.exit 4)))
         (.seq (.block 5 (.seq (.reg [78] [⟨(some 67), none, .faddr 2 (.t 1)⟩,
                ⟨(some 68), none, .load none (.t 67)⟩,
                ⟨(some 69), none, .mv (.t 5)⟩,
                ⟨(some 70), none, .iaddr (some 3) (.t 68) (.t 69)⟩,
                ⟨(some 71), none, .faddr 2 (.t 70)⟩,
                ⟨(some 72), none, .load none (.t 71)⟩,
                ⟨(some 73), none, .mv (.t 6)⟩,
                ⟨(some 74), none, .iaddr (some 3) (.t 72) (.t 73)⟩,
                ⟨(some 75), none, .faddr 2 (.t 74)⟩,
                ⟨(some 76), none, .load none (.t 75)⟩,
                ⟨(some 77), none, .len .sl (.t 76)⟩,
                ⟨(some 78), none, .bin .gtr .other true (.t 77) (.c (.int .i64 50))⟩])
           (.cond (.t 78) (.seq (.reg [2] [⟨(some 2), none, .mv (.c (.bool false))⟩])
             .ret)
           .skip)))
         (.reg [6] [⟨(some 65), none, .mv (.t 6)⟩,
             ⟨(some 66), none, .bin .add .other true (.t 65) (.c (.int .i64 1))⟩,
             ⟨(some 6), none, .mv (.t 66)⟩]))))))))
     (.reg [5] [⟨(some 41), none, .mv (.t 5)⟩,
         ⟨(some 42), none, .bin .add .other true (.t 41) (.c (.int .i64 1))⟩,
         ⟨(some 5), none, .mv (.t 42)⟩]))))))
  (.seq (.reg [2] [⟨(some 79), none, .mv (.t 3)⟩,
       ⟨(some 80), none, .bin .leq .other true (.t 79) (.c (.int .i64 500))⟩,
       ⟨(some 2), none, .mv (.t 80)⟩])
  .ret)))))⟩
theorem c43 : compF Try.prog [0, 1, 2, 3, 4, 5, 6, 22, 31, 40, 64, 78] Try.f43 = some a43 := by kernel_rfl

/- bushel/bushelref19.Sound -/
def a44 : AFun := ⟨117, [.tmp 2], (.seq (.reg [1, 2] [⟨(some 1), none, .box (.t 0)⟩,
       ⟨(some 2), none, .mv (.c (.bool false))⟩])
  (.seq (.reg [3] [⟨(some 3), none, .mv (.c (.int .i64 0))⟩])
  (.seq (.seq (.reg [20] [⟨(some 11), none, .faddr 2 (.t 1)⟩,
        ⟨(some 12), none, .load none (.t 11)⟩,
        ⟨(some 13), none, .len .sl (.t 12)⟩,
        ⟨(some 14), none, .bin .eql .other true (.t 13) (.c (.int .i64 0))⟩,
        ⟨(some 15), none, .mv (.t 14)⟩,
        ⟨(some 16), (some (15, false)), .faddr 2 (.t 1)⟩,
        ⟨(some 17), (some (15, false)), .load none (.t 16)⟩,
        ⟨(some 18), (some (15, false)), .len .sl (.t 17)⟩,
        ⟨(some 19), (some (15, false)), .bin .gtr .other true (.t 18) (.c (.int .i64 2000))⟩,
        ⟨(some 20), none, .pick (.t 15) (.c (.bool true)) (.t 19)⟩])
   (.cond (.t 20) (.seq (.reg [2] [⟨(some 2), none, .mv (.c (.bool false))⟩])
     .ret)
   .skip))
  (.seq (.seq (.reg [4] [⟨(some 4), none, .mv (.c (.int .i64 0))⟩])
   (.block 0 (.loop (.seq (.seq (.reg [25] [⟨(some 21), none, .mv (.t 4)⟩,
           ⟨(some 22), none, .faddr 1 (.t 1)⟩,
           ⟨(some 23), none, .load none (.t 22)⟩,
           ⟨(some 24), none, .len .sl (.t 23)⟩,
           ⟨(some 25), none, .bin .lss .other false (.t 21) (.t 24)⟩])
      (.cond (.t 25) .skip
      (.exit 0)))
     (.seq (.block 1 (.seq (.reg [34] [⟨(some 28), none, .faddr 1 (.t 1)⟩,
            ⟨(some 29), none, .load none (.t 28)⟩,
            ⟨(some 30), none, .mv (.t 4)⟩,
            ⟨(some 31), none, .iaddr none (.t 29) (.t 30)⟩,
            ⟨(some 32), none, .load none (.t 31)⟩,
            ⟨(some 33), none, .len .str (.t 32)⟩,
            ⟨(some 34), none, .bin .gtr .other true (.t 33) (.c (.int .i64 2000))⟩])
       (.cond (.t 34) (.seq (.reg [2] [⟨(some 2), none, .mv (.c (.bool false))⟩])
         .ret)
       .skip)))
     (.reg [4] [⟨(some 26), none, .mv (.t 4)⟩,
         ⟨(some 27), none, .bin .add .other true (.t 26) (.c (.int .i64 1))⟩,
         ⟨(some 4), none, .mv (.t 27)⟩]))))))
  (.seq (.seq (.reg [5] [⟨(some 5), none, .mv (.c (.int .i64 0))⟩])
   (.block 2 (.loop (.seq (.seq (.reg [39] [⟨(some 35), none, .mv (.t 5)⟩,
           ⟨(some 36), none, .faddr 2 (.t 1)⟩,
           ⟨(some 37), none, .load none (.t 36)⟩,
           ⟨(some 38), none, .len .sl (.t 37)⟩,
           ⟨(some 39), none, .bin .lss .other false (.t 35) (.t 38)⟩])
      (.cond (.t 39) .skip
      (.exit 2)))
     (.seq (.block 3 (.seq (.reg [6] [⟨(some 42), none, .faddr 2 (.t 1)⟩,
            ⟨(some 43), none, .load none (.t 42)⟩,
            ⟨(some 44), none, .mv (.t 5)⟩,
            ⟨(some 45), none, .iaddr (some 3) (.t 43) (.t 44)⟩,
            ⟨(some 46), none, .load (some 3) (.t 45)⟩,
            ⟨(some 6), none, .alloc [(.int .i64 0), (.int .i64 0), .snil]⟩,
            ⟨none, none, .store 3 (.t 6) (.t 46)⟩])
       (.seq (.reg [7] [⟨(some 47), none, .faddr 2 (.t 6)⟩,
            ⟨(some 48), none, .load none (.t 47)⟩,
            ⟨(some 49), none, .len .sl (.t 48)⟩,
            ⟨(some 7), none, .mv (.t 49)⟩])
       (.seq (.reg [3] [⟨(some 50), none, .mv (.t 3)⟩,
            ⟨(some 51), none, .mv (.t 7)⟩,
            ⟨(some 52), none, .bin .add .other false (.t 50) (.t 51)⟩,
            ⟨(some 3), none, .mv (.t 52)⟩])
       (.seq (.seq (.reg [86] [⟨(some 53), none, .faddr 1 (.t 6)⟩,
             ⟨(some 54), none, .load none (.t 53)⟩,
             ⟨(some 55), none, .bin .lss .other true (.t 54) (.c (.int .i64 0))⟩,
             ⟨(some 56), none, .mv (.t 55)⟩,
             ⟨(some 57), (some (56, false)), .faddr 0 (.t 6)⟩,
             ⟨(some 58), (some (56, false)), .load none (.t 57)⟩,
             ⟨(some 59), (some (56, false)), .bin .gtr .other true (.t 58) (.c (.int .i64 4000))⟩,
             ⟨(some 60), none, .pick (.t 56) (.c (.bool true)) (.t 59)⟩,
             ⟨(some 61), none, .mv (.t 60)⟩,
             ⟨(some 62), (some (61, false)), .faddr 1 (.t 6)⟩,
             ⟨(some 63), (some (61, false)), .load none (.t 62)⟩,
             ⟨(some 64), (some (61, false)), .bin .gtr .other true (.t 63) (.c (.int .i64 4000))⟩,
             ⟨(some 65), none, .pick (.t 61) (.c (.bool true)) (.t 64)⟩,
             ⟨(some 66), none, .mv (.t 65)⟩,
             ⟨(some 67), (some (66, false)), .faddr 0 (.t 6)⟩,
             ⟨(some 68), (some (66, false)), .load none (.t 67)⟩,
             ⟨(some 69), (some (66, false)), .faddr 1 (.t 6)⟩,
             ⟨(some 70), (some (66, false)), .load none (.t 69)⟩,
             ⟨(some 71), (some (66, false)), .bin .add .other true (.t 70) (.c (.int .i64 2))⟩,
             ⟨(some 72), (some (66, false)), .bin .lss .other false (.t 68) (.t 71)⟩,
             ⟨(some 73), none, .pick (.t 66) (.c (.bool true)) (.t 72)⟩,
             ⟨(some 74), none, .mv (.t 73)⟩,
             ⟨(some 75), (some (74, false)), .mv (.t 7)⟩,
             ⟨(some 76), (some (74, false)), .bin .eql .other true (.t 75) (.c (.int .i64 0))⟩,
             ⟨(some 77), none, .pick (.t 74) (.c (.bool true)) (.t 76)⟩,
             ⟨(some 78), none, .mv (.t 77)⟩,
             ⟨(some 79), (some (78, false)), .mv (.t 5)⟩,
             ⟨(some 80), (some (78, false)), .bin .eql .other true (.t 79) (.c (.int .i64 0))⟩,
             ⟨(some 81), (some (78, false)), .mv (.t 80)⟩,
             ⟨(some 82), (some (81, true)), .faddr 1 (.t 6)⟩,
             ⟨(some 83), (some (81, true)), .load none (.t 82)⟩,
             ⟨(some 84), (some (81, true)), .bin .neq .other true (.t 83) (.c (.int .i64 0))⟩,
             ⟨(some 85), (some (78, false)), .pick (.t 81) (.t 84) (.c (.bool false))⟩,
             ⟨(some 86), none, .pick (.t 78) (.c (.bool true)) (.t 85)⟩])
        (.cond (.t 86) (.seq (.reg [2] [⟨(some 2), none, .mv (.c (.bool false))⟩])
          .ret)
        .skip))
       (.seq (.reg [8] [⟨(some 87), none, .faddr 2 (.t 6)⟩,
            ⟨(some 88), none, .load none (.t 87)⟩,
            ⟨(some 89), none, .mv (.t 7)⟩,
            ⟨(some 90), none, .bin .sub .other true (.t 89) (.c (.int .i64 1))⟩,
            ⟨(some 91), none, .iaddr (some 3) (.t 88) (.t 90)⟩,
            ⟨(some 92), none, .faddr 0 (.t 91)⟩,
            ⟨(some 93), none, .load none (.t 92)⟩,
            ⟨(some 8), none, .mv (.t 93)⟩])
       (.seq (.seq (.reg [99] [⟨(some 94), none, .mv (.t 8)⟩,
             ⟨(some 95), none, .bin .neq .other true (.t 94) (.c (.int .i64 23))⟩,
             ⟨(some 96), none, .mv (.t 95)⟩,
             ⟨(some 97), (some (96, true)), .mv (.t 8)⟩,
             ⟨(some 98), (some (96, true)), .bin .neq .other true (.t 97) (.c (.int .i64 24))⟩,
             ⟨(some 99), none, .pick (.t 96) (.t 98) (.c (.bool false))⟩])
        (.cond (.t 99) (.seq (.reg [2] [⟨(some 2), none, .mv (.c (.bool false))⟩])
          .ret)
        .skip))
       (.seq (.reg [9] [⟨(some 9), none, .mv (.c (.int .i64 0))⟩])
       (.block 4 (.loop (.seq (.seq (.reg [102] [⟨(some 100), none, .mv (.t 9)⟩,
               ⟨(some 101), none, .mv (.t 7)⟩,
               ⟨(some 102), none, .bin .lss .other false (.t 100) (.t 101)⟩])
          (.cond (.t 102) .skip
          (.exit 4)))
         (.seq (.block 5 (.seq (.any [10] [(⟨(some 105), none, .load (some 3) (.t 1)⟩, true),
                (⟨(some 106), none, .load (some 3) (.t 6)⟩, false),
                (⟨(some 107), none, .faddr 2 (.t 6)⟩, false),
                (⟨(some 108), none, .load none (.t 107)⟩, false),
                (⟨(some 109), none, .mv (.t 9)⟩, false),
                (⟨(some 110), none, .iaddr (some 3) (.t 108) (.t 109)⟩, false),
                (⟨(some 111), none, .load (some 3) (.t 110)⟩, false),
                (⟨(some 112), none, .call (.c (.fn 63)) [(.t 105), (.t 106), (.t 111)]⟩, true),
                (⟨(some 10), none, .mv (.t 112)⟩, true)])
           (.seq (.reg [114] [⟨(some 113), none, .mv (.t 10)⟩,
                ⟨(some 114), none, .un .not (.t 113)⟩])
           (.cond (.t 114) (.seq (.reg [2] [⟨(some 2), none, .mv (.c (.bool false))⟩])
             .ret)
           .skip))))
         (.reg [9] [⟨(some 103), none, .mv (.t 9)⟩,
             ⟨(some 104), none, .bin .add .other true (.t 103) (.c (.int .i64 1))⟩,
             ⟨(some 9), none, .mv (.t 104)⟩])))))))))))))
     (.reg [5] [⟨(some 40), none, .mv (.t 5)⟩,
         ⟨(some 41), none, .bin .add .other true (.t 40) (.c (.int .i64 1))⟩,
         ⟨(some 5), none, .mv (.t 41)⟩]))))))
  (.seq (.reg [2] [⟨(some 115), none, .mv (.t 3)⟩,
       ⟨(some 116), none, .bin .leq .other true (.t 115) (.c (.int .i64 20000))⟩,
       ⟨(some 2), none, .mv (.t 116)⟩])
  .ret))))))⟩
theorem c44 : compF Try.prog [0, 1, 2, 3, 4, 5, 6, 7, 8, 9, 10, 20, 25, 34, 39, 86, 99, 102, 114] Try.f44 = some a44 := by kernel_rfl

/- bushel/code.Put -/
def a45 : AFun := ⟨118, [.tmp 2, .tmp 3], (.seq (.reg [1, 2, 3] [⟨(some 1), none, .box (.t 0)⟩,
       ⟨(some 2), none, .mv (.c .snil)⟩,
       ⟨(some 3), none, .mv (.c .inil)⟩])
  (.seq (.seq (.reg [4] [⟨(some 17), none, .load (some 3) (.t 1)⟩,
        ⟨(some 18), none, .call (.c (.fn 48)) [(.t 17)]⟩,
        ⟨(some 4), none, .mv (.t 18)⟩])
   (.seq (.reg [20] [⟨(some 19), none, .mv (.t 4)⟩,
        ⟨(some 20), none, .bin .neq .ifc true (.t 19) (.c .inil)⟩])
   (.cond (.t 20) (.seq (.reg [2, 3] [⟨(some 21), none, .mv (.t 4)⟩,
          ⟨(some 2), none, .mv (.c .snil)⟩,
          ⟨(some 3), none, .mv (.t 21)⟩])
     .ret)
   .skip)))
  (.seq (.reg [5] [⟨(some 5), none, .alloc [.snil]⟩])
  (.seq (.reg [6] [⟨(some 22), none, .mkfn 64 [(.t 5)]⟩,
       ⟨(some 6), none, .mv (.t 22)⟩])
  (.seq (.reg [] [⟨(some 23), none, .mv (.t 6)⟩,
       ⟨(some 24), none, .faddr 0 (.t 1)⟩,
       ⟨(some 25), none, .load none (.t 24)⟩,
       ⟨(some 26), none, .len .sl (.t 25)⟩,
       ⟨(some 27), none, .call (.t 23) [(.t 26)]⟩])
  (.seq (.seq (.reg [29, 30, 31] [⟨(some 28), none, .faddr 0 (.t 1)⟩,
        ⟨(some 29), none, .load none (.t 28)⟩,
        ⟨(some 30), none, .len .sl (.t 29)⟩,
        ⟨(some 31), none, .mv (.c (.int .i64 0))⟩])
   (.block 0 (.loop (.seq (.reg [32] [⟨(some 32), none, .bin .lss .other false (.t 31) (.t 30)⟩])
     (.seq (.cond (.t 32) .skip
      (.exit 0))
     (.seq (.block 1 (.seq (.reg [8] [⟨(some 33), none, .iaddr none (.t 29) (.t 31)⟩,
            ⟨(some 34), none, .load none (.t 33)⟩,
            ⟨(some 8), none, .mv (.t 34)⟩])
       (.reg [] [⟨(some 35), none, .load none (.t 5)⟩,
           ⟨(some 36), none, .mv (.t 8)⟩,
           ⟨(some 37), none, .call (.c (.fn 65)) [(.t 35), (.t 36)]⟩,
           ⟨none, none, .store 1 (.t 5) (.t 37)⟩])))
     (.reg [31] [⟨(some 38), none, .bin .add .other true (.t 31) (.c (.int .i64 1))⟩,
         ⟨(some 31), none, .mv (.t 38)⟩])))))))
  (.seq (.reg [] [⟨(some 39), none, .mv (.t 6)⟩,
       ⟨(some 40), none, .faddr 1 (.t 1)⟩,
       ⟨(some 41), none, .load none (.t 40)⟩,
       ⟨(some 42), none, .len .sl (.t 41)⟩,
       ⟨(some 43), none, .call (.t 39) [(.t 42)]⟩])
  (.seq (.seq (.reg [45, 46, 47] [⟨(some 44), none, .faddr 1 (.t 1)⟩,
        ⟨(some 45), none, .load none (.t 44)⟩,
        ⟨(some 46), none, .len .sl (.t 45)⟩,
        ⟨(some 47), none, .mv (.c (.int .i64 0))⟩])
   (.block 2 (.loop (.seq (.reg [48] [⟨(some 48), none, .bin .lss .other false (.t 47) (.t 46)⟩])
     (.seq (.cond (.t 48) .skip
      (.exit 2))
     (.seq (.block 3 (.seq (.reg [10] [⟨(some 49), none, .iaddr none (.t 45) (.t 47)⟩,
            ⟨(some 50), none, .load none (.t 49)⟩,
            ⟨(some 10), none, .mv (.t 50)⟩])
       (.seq (.reg [] [⟨(some 51), none, .mv (.t 6)⟩,
            ⟨(some 52), none, .mv (.t 10)⟩,
            ⟨(some 53), none, .len .str (.t 52)⟩,
            ⟨(some 54), none, .call (.t 51) [(.t 53)]⟩])
       (.reg [] [⟨(some 55), none, .load none (.t 5)⟩,
           ⟨(some 56), none, .mv (.t 10)⟩,
           ⟨(some 57), none, .append none 1 (.t 55) (.t 56)⟩,
           ⟨none, none, .store 1 (.t 5) (.t 57)⟩]))))
     (.reg [47] [⟨(some 58), none, .bin .add .other true (.t 47) (.c (.int .i64 1))⟩,
         ⟨(some 47), none, .mv (.t 58)⟩])))))))
  (.seq (.reg [] [⟨(some 59), none, .mv (.t 6)⟩,
       ⟨(some 60), none, .faddr 2 (.t 1)⟩,
       ⟨(some 61), none, .load none (.t 60)⟩,
       ⟨(some 62), none, .len .sl (.t 61)⟩,
       ⟨(some 63), none, .call (.t 59) [(.t 62)]⟩])
  (.seq (.seq (.reg [65, 66, 67] [⟨(some 64), none, .faddr 2 (.t 1)⟩,
        ⟨(some 65), none, .load none (.t 64)⟩,
        ⟨(some 66), none, .len .sl (.t 65)⟩,
        ⟨(some 67), none, .mv (.c (.int .i64 0))⟩])
   (.block 4 (.loop (.seq (.reg [68] [⟨(some 68), none, .bin .lss .other false (.t 67) (.t 66)⟩])
     (.seq (.cond (.t 68) .skip
      (.exit 4))
     (.seq (.block 5 (.seq (.reg [12] [⟨(some 69), none, .iaddr (some 3) (.t 65) (.t 67)⟩,
            ⟨(some 70), none, .load (some 3) (.t 69)⟩,
            ⟨(some 12), none, .alloc [(.int .i64 0), (.int .i64 0), .snil]⟩,
            ⟨none, none, .store 3 (.t 12) (.t 70)⟩])
       (.seq (.reg [] [⟨(some 71), none, .mv (.t 6)⟩,
            ⟨(some 72), none, .faddr 0 (.t 12)⟩,
            ⟨(some 73), none, .load none (.t 72)⟩,
            ⟨(some 74), none, .call (.t 71) [(.t 73)]⟩])
       (.seq (.reg [] [⟨(some 75), none, .mv (.t 6)⟩,
            ⟨(some 76), none, .faddr 1 (.t 12)⟩,
            ⟨(some 77), none, .load none (.t 76)⟩,
            ⟨(some 78), none, .call (.t 75) [(.t 77)]⟩])
       (.seq (.reg [] [⟨(some 79), none, .mv (.t 6)⟩,
            ⟨(some 80), none, .faddr 2 (.t 12)⟩,
            ⟨(some 81), none, .load none (.t 80)⟩,
            ⟨(some 82), none, .len .sl (.t 81)⟩,
            ⟨(some 83), none, .call (.t 79) [(.t 82)]⟩])
       (.seq (.reg [85, 86, 87] [⟨(some 84), none, .faddr 2 (.t 12)⟩,
            ⟨(some 85), none, .load none (.t 84)⟩,
            ⟨(some 86), none, .len .sl (.t 85)⟩,
            ⟨(some 87), none, .mv (.c (.int .i64 0))⟩])
       (.block 6 (.loop (.seq (.reg [88] [⟨(some 88), none, .bin .lss .other false (.t 87) (.t 86)⟩])
         (.seq (.cond (.t 88) .skip
          (.exit 6))
         (.seq (.block 7 (.seq (.reg [14] [⟨(some 89), none, .iaddr (some 3) (.t 85) (.t 87)⟩,
                ⟨(some 90), none, .load (some 3) (.t 89)⟩,
                ⟨(some 14), none, .alloc [(.int .i64 0), (.int .i64 0), .snil]⟩,
                ⟨none, none, .store 3 (.t 14) (.t 90)⟩])
           (.seq (.reg [] [⟨(some 91), none, .mv (.t 6)⟩,
                ⟨(some 92), none, .faddr 0 (.t 14)⟩,
                ⟨(some 93), none, .load none (.t 92)⟩,
                ⟨(some 94), none, .call (.t 91) [(.t 93)]⟩])
           (.seq (.reg [] [⟨(some 95), none, .mv (.t 6)⟩,
                ⟨(some 96), none, .faddr 1 (.t 14)⟩,
                ⟨(some 97), none, .load none (.t 96)⟩,
                ⟨(some 98), none, .call (.t 95) [(.t 97)]⟩])
           (.seq (.reg [] [⟨(some 99), none, .mv (.t 6)⟩,
                ⟨(some 100), none, .faddr 2 (.t 14)⟩,
                ⟨(some 101), none, .load none (.t 100)⟩,
                ⟨(some 102), none, .len .sl (.t 101)⟩,
                ⟨(some 103), none, .call (.t 99) [(.t 102)]⟩])
           (.seq (.reg [105, 106, 107] [⟨(some 104), none, .faddr 2 (.t 14)⟩,
                ⟨(some 105), none, .load none (.t 104)⟩,
                ⟨(some 106), none, .len .sl (.t 105)⟩,
                ⟨(some 107), none, .mv (.c (.int .i64 0))⟩])
           (.block 8 (.loop (.seq (.reg [108] [⟨(some 108), none, .bin .lss .other false (.t 107) (.t 106)⟩])
             (.seq (.cond (.t 108) .skip
              (.exit 8))
             (.seq (.block 9 (.seq (.reg [16] [⟨(some 109), none, .iaddr none (.t 105) (.t 107)⟩,
                    ⟨(some 110), none, .load none (.t 109)⟩,
                    ⟨(some 16), none, .mv (.t 110)⟩])
               (.reg [] [⟨(some 111), none, .mv (.t 6)⟩,
                   ⟨(some 112), none, .mv (.t 16)⟩,
                   ⟨(some 113), none, .call (.t 111) [(.t 112)]⟩])))
             (.reg [107] [⟨(some 114), none, .bin .add .other true (.t 107) (.c (.int .i64 1))⟩,
                 ⟨(some 107), none, .mv (.t 114)⟩]))))))))))))
         (.reg [87] [⟨(some 115), none, .bin .add .other true (.t 87) (.c (.int .i64 1))⟩,
             ⟨(some 87), none, .mv (.t 115)⟩]))))))))))))
     (.reg [67] [⟨(some 116), none, .bin .add .other true (.t 67) (.c (.int .i64 1))⟩,
         ⟨(some 67), none, .mv (.t 116)⟩])))))))
  (.seq (.reg [2, 3] [⟨(some 117), none, .load none (.t 5)⟩,
       ⟨(some 2), none, .mv (.t 117)⟩,
       ⟨(some 3), none, .mv (.c .inil)⟩])
  .ret)))))))))))⟩
theorem c45 : compF Try.prog [0, 1, 2, 3, 4, 5, 6, 8, 10, 12, 14, 16, 20, 29, 30, 31, 32, 45, 46, 47, 48, 65, 66, 67, 68, 85, 86, 87, 88, 105, 106, 107, 108] Try.f45 = some a45 := by kernel_rfl

/- bushel/code.Same -/
def a46 : AFun := ⟨28, [.tmp 4], (.seq (.reg [2, 3, 4] [⟨(some 2), none, .box (.t 0)⟩,
       ⟨(some 3), none, .box (.t 1)⟩,
       ⟨(some 4), none, .mv (.c (.bool false))⟩])
  (.seq (.reg [5] [⟨(some 5), none, .alloc [.fnil]⟩,
       ⟨none, none, .store 1 (.t 5) (.c (.fn 66))⟩])
  (.seq (.reg [6] [⟨(some 7), none, .mkfn 68 [(.t 5)]⟩,
       ⟨(some 6), none, .mv (.t 7)⟩])
  (.seq (.reg [4] [⟨(some 8), none, .faddr 0 (.t 2)⟩,
       ⟨(some 9), none, .load none (.t 8)⟩,
       ⟨(some 10), none, .faddr 0 (.t 3)⟩,
       ⟨(some 11), none, .load none (.t 10)⟩,
       ⟨(some 12), none, .call (.c (.fn 70)) [(.t 9), (.t 11)]⟩,
       ⟨(some 13), none, .mv (.t 12)⟩,
       ⟨(some 14), (some (13, true)), .faddr 1 (.t 2)⟩,
       ⟨(some 15), (some (13, true)), .load none (.t 14)⟩,
       ⟨(some 16), (some (13, true)), .faddr 1 (.t 3)⟩,
       ⟨(some 17), (some (13, true)), .load none (.t 16)⟩,
       ⟨(some 18), (some (13, true)), .call (.c (.fn 71)) [(.t 15), (.t 17)]⟩,
       ⟨(some 19), none, .pick (.t 13) (.t 18) (.c (.bool false))⟩,
       ⟨(some 20), none, .mv (.t 19)⟩,
       ⟨(some 21), (some (20, true)), .faddr 2 (.t 2)⟩,
       ⟨(some 22), (some (20, true)), .load none (.t 21)⟩,
       ⟨(some 23), (some (20, true)), .faddr 2 (.t 3)⟩,
       ⟨(some 24), (some (20, true)), .load none (.t 23)⟩,
       ⟨(some 25), (some (20, true)), .mv (.t 6)⟩,
       ⟨(some 26), (some (20, true)), .call (.c (.fn 72)) [(.t 22), (.t 24), (.t 25)]⟩,
       ⟨(some 27), none, .pick (.t 20) (.t 26) (.c (.bool false))⟩,
       ⟨(some 4), none, .mv (.t 27)⟩])
  .ret))))⟩
theorem c46 : compF Try.prog [0, 1, 2, 3, 4, 5, 6] Try.f46 = some a46 := by kernel_rfl

/- bushel/bushelref19.Same -/
def a47 : AFun := ⟨169, [.tmp 4], (.seq (.reg [2, 3, 4] [⟨(some 2), none, .box (.t 0)⟩,
       ⟨(some 3), none, .box (.t 1)⟩,
       ⟨(some 4), none, .mv (.c (.bool false))⟩])
  (.seq (.seq (.reg [38] [⟨(some 14), none, .faddr 0 (.t 2)⟩,
        ⟨(some 15), none, .load none (.t 14)⟩,
        ⟨(some 16), none, .len .sl (.t 15)⟩,
        ⟨(some 17), none, .faddr 0 (.t 3)⟩,
        ⟨(some 18), none, .load none (.t 17)⟩,
        ⟨(some 19), none, .len .sl (.t 18)⟩,
        ⟨(some 20), none, .bin .neq .other false (.t 16) (.t 19)⟩,
        ⟨(some 21), none, .mv (.t 20)⟩,
        ⟨(some 22), (some (21, false)), .faddr 1 (.t 2)⟩,
        ⟨(some 23), (some (21, false)), .load none (.t 22)⟩,
        ⟨(some 24), (some (21, false)), .len .sl (.t 23)⟩,
        ⟨(some 25), (some (21, false)), .faddr 1 (.t 3)⟩,
        ⟨(some 26), (some (21, false)), .load none (.t 25)⟩,
        ⟨(some 27), (some (21, false)), .len .sl (.t 26)⟩,
        ⟨(some 28), (some (21, false)), .bin .neq .other false (.t 24) (.t 27)⟩,
        ⟨(some 29), none, .pick (.t 21) (.c (.bool true)) (.t 28)⟩,
        ⟨(some 30), none, .mv (.t 29)⟩,
        ⟨(some 31), (some (30, false)), .faddr 2 (.t 2)⟩,
        ⟨(some 32), (some (30, false)), .load none (.t 31)⟩,
        ⟨(some 33), (some (30, false)), .len .sl (.t 32)⟩,
        ⟨(some 34), (some (30, false)), .faddr 2 (.t 3)⟩,
        ⟨(some 35), (some (30, false)), .load none (.t 34)⟩,
        ⟨(some 36), (some (30, false)), .len .sl (.t 35)⟩,
        ⟨(some 37), (some (30, false)), .bin .neq .other false (.t 33) (.t 36)⟩,
        ⟨(some 38), none, .pick (.t 30) (.c (.bool true)) (.t 37)⟩])
   (.cond (.t 38) (.seq (.reg [4] [⟨(some 4), none, .mv (.c (.bool false))⟩])
     .ret)
   .skip))
  (.seq (.seq (.reg [5] [⟨(some 5), none, .mv (.c (.int .i64 0))⟩])
   (.block 0 (.loop (.seq (.seq (.reg [43] [⟨(some 39), none, .mv (.t 5)⟩,
           ⟨(some 40), none, .faddr 0 (.t 2)⟩,
           ⟨(some 41), none, .load none (.t 40)⟩,
           ⟨(some 42), none, .len .sl (.t 41)⟩,
           ⟨(some 43), none, .bin .lss .other false (.t 39) (.t 42)⟩])
      (.cond (.t 43) .skip
      (.exit 0)))
     (.seq (.block 1 (.seq (.any [56] [(⟨(some 46), none, .faddr 0 (.t 2)⟩, true),
            (⟨(some 47), none, .load none (.t 46)⟩, true),
            (⟨(some 48), none, .mv (.t 5)⟩, false),
            (⟨(some 49), none, .iaddr none (.t 47) (.t 48)⟩, true),
            (⟨(some 50), none, .load none (.t 49)⟩, true),
            (⟨(some 51), none, .faddr 0 (.t 3)⟩, false),
            (⟨(some 52), none, .load none (.t 51)⟩, false),
            (⟨(some 53), none, .mv (.t 5)⟩, false),
            (⟨(some 54), none, .iaddr none (.t 52) (.t 53)⟩, false),
            (⟨(some 55), none, .load none (.t 54)⟩, false),
            (⟨(some 56), none, .bin .neq .other false (.t 50) (.t 55)⟩, true)])
       (.cond (.t 56) (.seq (.reg [4] [⟨(some 4), none, .mv (.c (.bool false))⟩])
         .ret)
       .skip)))
     (.reg [5] [⟨(some 44), none, .mv (.t 5)⟩,
         ⟨(some 45), none, .bin .add .other true (.t 44) (.c (.int .i64 1))⟩,
         ⟨(some 5), none, .mv (.t 45)⟩]))))))
  (.seq (.seq (.reg [6] [⟨(some 6), none, .mv (.c (.int .i64 0))⟩])
   (.block 2 (.loop (.seq (.seq (.reg [61] [⟨(some 57), none, .mv (.t 6)⟩,
           ⟨(some 58), none, .faddr 1 (.t 2)⟩,
           ⟨(some 59), none, .load none (.t 58)⟩,
           ⟨(some 60), none, .len .sl (.t 59)⟩,
           ⟨(some 61), none, .bin .lss .other false (.t 57) (.t 60)⟩])
      (.cond (.t 61) .skip
      (.exit 2)))
     (.seq (.block 3 (.seq (.any [74] [(⟨(some 64), none, .faddr 1 (.t 2)⟩, true),
            (⟨(some 65), none, .load none (.t 64)⟩, true),
            (⟨(some 66), none, .mv (.t 6)⟩, false),
            (⟨(some 67), none, .iaddr none (.t 65) (.t 66)⟩, true),
            (⟨(some 68), none, .load none (.t 67)⟩, true),
            (⟨(some 69), none, .faddr 1 (.t 3)⟩, false),
            (⟨(some 70), none, .load none (.t 69)⟩, false),
            (⟨(some 71), none, .mv (.t 6)⟩, false),
            (⟨(some 72), none, .iaddr none (.t 70) (.t 71)⟩, false),
            (⟨(some 73), none, .load none (.t 72)⟩, false),
            (⟨(some 74), none, .bin .neq .other false (.t 68) (.t 73)⟩, true)])
       (.cond (.t 74) (.seq (.reg [4] [⟨(some 4), none, .mv (.c (.bool false))⟩])
         .ret)
       .skip)))
     (.reg [6] [⟨(some 62), none, .mv (.t 6)⟩,
         ⟨(some 63), none, .bin .add .other true (.t 62) (.c (.int .i64 1))⟩,
         ⟨(some 6), none, .mv (.t 63)⟩]))))))
  (.seq (.seq (.reg [7] [⟨(some 7), none, .mv (.c (.int .i64 0))⟩])
   (.block 4 (.loop (.seq (.seq (.reg [79] [⟨(some 75), none, .mv (.t 7)⟩,
           ⟨(some 76), none, .faddr 2 (.t 2)⟩,
           ⟨(some 77), none, .load none (.t 76)⟩,
           ⟨(some 78), none, .len .sl (.t 77)⟩,
           ⟨(some 79), none, .bin .lss .other false (.t 75) (.t 78)⟩])
      (.cond (.t 79) .skip
      (.exit 4)))
     (.seq (.block 5 (.seq (.reg [8] [⟨(some 82), none, .faddr 2 (.t 2)⟩,
            ⟨(some 83), none, .load none (.t 82)⟩,
            ⟨(some 84), none, .mv (.t 7)⟩,
            ⟨(some 85), none, .iaddr (some 3) (.t 83) (.t 84)⟩,
            ⟨(some 86), none, .load (some 3) (.t 85)⟩,
            ⟨(some 8), none, .alloc [(.int .i64 0), (.int .i64 0), .snil]⟩,
            ⟨none, none, .store 3 (.t 8) (.t 86)⟩])
       (.seq (.reg [9] [⟨(some 87), none, .faddr 2 (.t 3)⟩,
            ⟨(some 88), none, .load none (.t 87)⟩,
            ⟨(some 89), none, .mv (.t 7)⟩,
            ⟨(some 90), none, .iaddr (some 3) (.t 88) (.t 89)⟩,
            ⟨(some 91), none, .load (some 3) (.t 90)⟩,
            ⟨(some 9), none, .alloc [(.int .i64 0), (.int .i64 0), .snil]⟩,
            ⟨none, none, .store 3 (.t 9) (.t 91)⟩])
       (.seq (.seq (.reg [112] [⟨(some 92), none, .faddr 0 (.t 8)⟩,
             ⟨(some 93), none, .load none (.t 92)⟩,
             ⟨(some 94), none, .faddr 0 (.t 9)⟩,
             ⟨(some 95), none, .load none (.t 94)⟩,
             ⟨(some 96), none, .bin .neq .other false (.t 93) (.t 95)⟩,
             ⟨(some 97), none, .mv (.t 96)⟩,
             ⟨(some 98), (some (97, false)), .faddr 1 (.t 8)⟩,
             ⟨(some 99), (some (97, false)), .load none (.t 98)⟩,
             ⟨(some 100), (some (97, false)), .faddr 1 (.t 9)⟩,
             ⟨(some 101), (some (97, false)), .load none (.t 100)⟩,
             ⟨(some 102), (some (97, false)), .bin .neq .other false (.t 99) (.t 101)⟩,
             ⟨(some 103), none, .pick (.t 97) (.c (.bool true)) (.t 102)⟩,
             ⟨(some 104), none, .mv (.t 103)⟩,
             ⟨(some 105), (some (104, false)), .faddr 2 (.t 8)⟩,
             ⟨(some 106), (some (104, false)), .load none (.t 105)⟩,
             ⟨(some 107), (some (104, false)), .len .sl (.t 106)⟩,
             ⟨(some 108), (some (104, false)), .faddr 2 (.t 9)⟩,
             ⟨(some 109), (some (104, false)), .load none (.t 108)⟩,
             ⟨(some 110), (some (104, false)), .len .sl (.t 109)⟩,
             ⟨(some 111), (some (104, false)), .bin .neq .other false (.t 107) (.t 110)⟩,
             ⟨(some 112), none, .pick (.t 104) (.c (.bool true)) (.t 111)⟩])
        (.cond (.t 112) (.seq (.reg [4] [⟨(some 4), none, .mv (.c (.bool false))⟩])
          .ret)
        .skip))
       (.seq (.reg [10] [⟨(some 10), none, .mv (.c (.int .i64 0))⟩])
       (.block 6 (.loop (.seq (.seq (.reg [117] [⟨(some 113), none, .mv (.t 10)⟩,
               ⟨(some 114), none, .faddr 2 (.t 8)⟩,
               ⟨(some 115), none, .load none (.t 114)⟩,
               ⟨(some 116), none, .len .sl (.t 115)⟩,
               ⟨(some 117), none, .bin .lss .other false (.t 113) (.t 116)⟩])
          (.cond (.t 117) .skip
          (.exit 6)))
         (.seq (.block 7 (.seq (.reg [11] [⟨(some 120), none, .faddr 2 (.t 8)⟩,
                ⟨(some 121), none, .load none (.t 120)⟩,
                ⟨(some 122), none, .mv (.t 10)⟩,
                ⟨(some 123), none, .iaddr (some 3) (.t 121) (.t 122)⟩,
                ⟨(some 124), none, .load (some 3) (.t 123)⟩,
                ⟨(some 11), none, .alloc [(.int .i64 0), (.int .i64 0), .snil]⟩,
                ⟨none, none, .store 3 (.t 11) (.t 124)⟩])
           (.seq (.reg [12] [⟨(some 125), none, .faddr 2 (.t 9)⟩,
                ⟨(some 126), none, .load none (.t 125)⟩,
                ⟨(some 127), none, .mv (.t 10)⟩,
                ⟨(some 128), none, .iaddr (some 3) (.t 126) (.t 127)⟩,
                ⟨(some 129), none, .load (some 3) (.t 128)⟩,
                ⟨(some 12), none, .alloc [(.int .i64 0), (.int .i64 0), .snil]⟩,
                ⟨none, none, .store 3 (.t 12) (.t 129)⟩])
           (.seq (.seq (.reg [150] [⟨(some 130), none, .faddr 0 (.t 11)⟩,
                 ⟨(some 131), none, .load none (.t 130)⟩,
                 ⟨(some 132), none, .faddr 0 (.t 12)⟩,
                 ⟨(some 133), none, .load none (.t 132)⟩,
                 ⟨(some 134), none, .bin .neq .other false (.t 131) (.t 133)⟩,
                 ⟨(some 135), none, .mv (.t 134)⟩,
                 ⟨(some 136), (some (135, false)), .faddr 1 (.t 11)⟩,
                 ⟨(some 137), (some (135, false)), .load none (.t 136)⟩,
                 ⟨(some 138), (some (135, false)), .faddr 1 (.t 12)⟩,
                 ⟨(some 139), (some (135, false)), .load none (.t 138)⟩,
                 ⟨(some 140), (some (135, false)), .bin .neq .other false (.t 137) (.t 139)⟩,
                 ⟨(some 141), none, .pick (.t 135) (.c (.bool true)) (.t 140)⟩,
                 ⟨(some 142), none, .mv (.t 141)⟩,
                 ⟨(some 143), (some (142, false)), .faddr 2 (.t 11)⟩,
                 ⟨(some 144), (some (142, false)), .load none (.t 143)⟩,
                 ⟨(some 145), (some (142, false)), .len .sl (.t 144)⟩,
                 ⟨(some 146), (some (142, false)), .faddr 2 (.t 12)⟩,
                 ⟨(some 147), (some (142, false)), .load none (.t 146)⟩,
                 ⟨(some 148), (some (142, false)), .len .sl (.t 147)⟩,
                 ⟨(some 149), (some (142, false)), .bin .neq .other false (.t 145) (.t 148)⟩,
                 ⟨(some 150), none, .pick (.t 142) (.c (.bool true)) (.t 149)⟩])
            (.cond (.t 150) (.seq (.reg [4] [⟨(some 4), none, .mv (.c (.bool false))⟩])
              .ret)
            .skip))
           (.seq (.reg [13] [⟨(some 13), none, .mv (.c (.int .i64 0))⟩])
           (.block 8 (.loop (.seq (.seq (.reg [155] [⟨(some 151), none, .mv (.t 13)⟩,
                   ⟨(some 152), none, .faddr 2 (.t 11)⟩,
                   ⟨(some 153), none, .load none (.t 152)⟩,
                   ⟨(some 154), none, .len .sl (.t 153)⟩,
                   ⟨(some 155), none, .bin .lss .other false (.t 151) (.t 154)⟩])
              (.cond (.t 155) .skip
              (.exit 8)))
             (.seq (.block 9 (.seq (.any [168] [(⟨(some 158), none, .faddr 2 (.t 11)⟩, true),
                    (⟨(some 159), none, .load none (.t 158)⟩, true),
                    (⟨(some 160), none, .mv (.t 13)⟩, false),
                    (⟨(some 161), none, .iaddr none (.t 159) (.t 160)⟩, true),
                    (⟨(some 162), none, .load none (.t 161)⟩, true),
                    (⟨(some 163), none, .faddr 2 (.t 12)⟩, false),
                    (⟨(some 164), none, .load none (.t 163)⟩, false),
                    (⟨(some 165), none, .mv (.t 13)⟩, false),
                    (⟨(some 166), none, .iaddr none (.t 164) (.t 165)⟩, false),
                    (⟨(some 167), none, .load none (.t 166)⟩, false),
                    (⟨(some 168), none, .bin .neq .other false (.t 162) (.t 167)⟩, true)])
               (.cond (.t 168) (.seq (.reg [4] [⟨(some 4), none, .mv (.c (.bool false))⟩])
                 .ret)
               .skip)))
             (.reg [13] [⟨(some 156), none, .mv (.t 13)⟩,
                 ⟨(some 157), none, .bin .add .other true (.t 156) (.c (.int .i64 1))⟩,
                 ⟨(some 13), none, .mv (.t 157)⟩]))))))))))
         (.reg [10] [⟨(some 118), none, .mv (.t 10)⟩,
             ⟨(some 119), none, .bin .add .other true (.t 118) (.c (.int .i64 1))⟩,
             ⟨(some 10), none, .mv (.t 119)⟩]))))))))))
     (.reg [7] [⟨(some 80), none, .mv (.t 7)⟩,
         ⟨(some 81), none, .bin .add .other true (.t 80) (.c (.int .i64 1))⟩,
         ⟨(some 7), none, .mv (.t 81)⟩]))))))
  (.seq (.reg [4] [⟨(some 4), none, .mv (.c (.bool true))⟩])
  .ret))))))⟩
theorem c47 : compF Try.prog [0, 1, 2, 3, 4, 5, 6, 7, 8, 9, 10, 11, 12, 13, 38, 43, 56, 61, 74, 79, 112, 117, 150, 155, 168] Try.f47 = some a47 := by kernel_rfl

/- bushel/code.Check -/
def a48 : AFun := ⟨57, [.tmp 2], (.seq (.reg [1, 2] [⟨(some 1), none, .box (.t 0)⟩,
       ⟨(some 2), none, .mv (.c .inil)⟩])
  (.seq (.reg [3] [⟨(some 3), none, .mv (.c (.int .i64 0))⟩])
  (.seq (.seq (.reg [9, 10, 11] [⟨(some 8), none, .faddr 2 (.t 1)⟩,
        ⟨(some 9), none, .load none (.t 8)⟩,
        ⟨(some 10), none, .len .sl (.t 9)⟩,
        ⟨(some 11), none, .mv (.c (.int .i64 0))⟩])
   (.block 0 (.loop (.seq (.reg [12] [⟨(some 12), none, .bin .lss .other false (.t 11) (.t 10)⟩])
     (.seq (.cond (.t 12) .skip
      (.exit 0))
     (.seq (.block 1 (.seq (.reg [5] [⟨(some 13), none, .iaddr (some 3) (.t 9) (.t 11)⟩,
            ⟨(some 14), none, .load (some 3) (.t 13)⟩,
            ⟨(some 5), none, .alloc [(.int .i64 0), (.int .i64 0), .snil]⟩,
            ⟨none, none, .store 3 (.t 5) (.t 14)⟩])
       (.reg [3] [⟨(some 15), none, .mv (.t 3)⟩,
           ⟨(some 16), none, .faddr 2 (.t 5)⟩,
           ⟨(some 17), none, .load none (.t 16)⟩,
           ⟨(some 18), none, .len .sl (.t 17)⟩,
           ⟨(some 19), none, .bin .add .other false (.t 15) (.t 18)⟩,
           ⟨(some 3), none, .mv (.t 19)⟩])))
     (.reg [11] [⟨(some 20), none, .bin .add .other true (.t 11) (.c (.int .i64 1))⟩,
         ⟨(some 11), none, .mv (.t 20)⟩])))))))
  (.seq (.reg [6] [⟨(some 6), none, .mv (.c (.fn 73))⟩])
  (.seq (.reg [7] [⟨(some 21), none, .mkfn 74 [(.t 1)]⟩,
       ⟨(some 7), none, .mv (.t 21)⟩])
  (.seq (.seq (.reg [55] [⟨(some 22), none, .faddr 2 (.t 1)⟩,
        ⟨(some 23), none, .load none (.t 22)⟩,
        ⟨(some 24), none, .len .sl (.t 23)⟩,
        ⟨(some 25), none, .bin .lss .other true (.t 24) (.c (.int .i64 1))⟩,
        ⟨(some 26), none, .mv (.t 25)⟩,
        ⟨(some 27), (some (26, false)), .faddr 2 (.t 1)⟩,
        ⟨(some 28), (some (26, false)), .load none (.t 27)⟩,
        ⟨(some 29), (some (26, false)), .len .sl (.t 28)⟩,
        ⟨(some 30), (some (26, false)), .bin .gtr .other true (.t 29) (.c (.int .i64 2000))⟩,
        ⟨(some 31), none, .pick (.t 26) (.c (.bool true)) (.t 30)⟩,
        ⟨(some 32), none, .mv (.t 31)⟩,
        ⟨(some 33), (some (32, false)), .mv (.t 3)⟩,
        ⟨(some 34), (some (32, false)), .bin .gtr .other true (.t 33) (.c (.int .i64 20000))⟩,
        ⟨(some 35), none, .pick (.t 32) (.c (.bool true)) (.t 34)⟩,
        ⟨(some 36), none, .mv (.t 35)⟩,
        ⟨(some 37), (some (36, false)), .faddr 2 (.t 1)⟩,
        ⟨(some 38), (some (36, false)), .load none (.t 37)⟩,
        ⟨(some 39), (some (36, false)), .iaddr (some 3) (.t 38) (.c (.int .i64 0))⟩,
        ⟨(some 40), (some (36, false)), .faddr 1 (.t 39)⟩,
        ⟨(some 41), (some (36, false)), .load none (.t 40)⟩,
        ⟨(some 42), (some (36, false)), .bin .neq .other true (.t 41) (.c (.int .i64 0))⟩,
        ⟨(some 43), none, .pick (.t 36) (.c (.bool true)) (.t 42)⟩,
        ⟨(some 44), none, .mv (.t 43)⟩,
        ⟨(some 45), (some (44, false)), .faddr 1 (.t 1)⟩,
        ⟨(some 46), (some (44, false)), .load none (.t 45)⟩,
        ⟨(some 47), (some (44, false)), .mv (.t 6)⟩,
        ⟨(some 48), (some (44, false)), .call (.c (.fn 76)) [(.t 46), (.t 47)]⟩,
        ⟨(some 49), none, .pick (.t 44) (.c (.bool true)) (.t 48)⟩,
        ⟨(some 50), none, .mv (.t 49)⟩,
        ⟨(some 51), (some (50, false)), .faddr 2 (.t 1)⟩,
        ⟨(some 52), (some (50, false)), .load none (.t 51)⟩,
        ⟨(some 53), (some (50, false)), .mv (.t 7)⟩,
        ⟨(some 54), (some (50, false)), .call (.c (.fn 77)) [(.t 52), (.t 53)]⟩,
        ⟨(some 55), none, .pick (.t 50) (.c (.bool true)) (.t 54)⟩])
   (.cond (.t 55) (.seq (.reg [2] [⟨(some 56), none, .mkif 32 (.c (.int .i64 10))⟩,
          ⟨(some 2), none, .mv (.t 56)⟩])
     .ret)
   .skip))
  (.seq (.reg [2] [⟨(some 2), none, .mv (.c .inil)⟩])
  .ret)))))))⟩
theorem c48 : compF Try.prog [0, 1, 2, 3, 5, 6, 7, 9, 10, 11, 12, 55] Try.f48 = some a48 := by kernel_rfl

/- bushel/bushelref19.Put -/
def a49 : AFun := ⟨125, [.tmp 2], (.seq (.reg [1, 2] [⟨(some 1), none, .box (.t 0)⟩,
       ⟨(some 2), none, .mv (.c .snil)⟩])
  (.seq (.reg [3] [⟨(some 11), none, .faddr 0 (.t 1)⟩,
       ⟨(some 12), none, .load none (.t 11)⟩,
       ⟨(some 13), none, .len .sl (.t 12)⟩,
       ⟨(some 14), none, .call (.c (.fn 78)) [(.c .snil), (.t 13)]⟩,
       ⟨(some 3), none, .mv (.t 14)⟩])
  (.seq (.seq (.reg [4] [⟨(some 4), none, .mv (.c (.int .i64 0))⟩])
   (.block 0 (.loop (.seq (.seq (.reg [19] [⟨(some 15), none, .mv (.t 4)⟩,
           ⟨(some 16), none, .faddr 0 (.t 1)⟩,
           ⟨(some 17), none, .load none (.t 16)⟩,
           ⟨(some 18), none, .len .sl (.t 17)⟩,
           ⟨(some 19), none, .bin .lss .other false (.t 15) (.t 18)⟩])
      (.cond (.t 19) .skip
      (.exit 0)))
     (.seq (.block 1 (.reg [3] [⟨(some 22), none, .mv (.t 3)⟩,
           ⟨(some 23), none, .faddr 0 (.t 1)⟩,
           ⟨(some 24), none, .load none (.t 23)⟩,
           ⟨(some 25), none, .mv (.t 4)⟩,
           ⟨(some 26), none, .iaddr none (.t 24) (.t 25)⟩,
           ⟨(some 27), none, .load none (.t 26)⟩,
           ⟨(some 28), none, .call (.c (.fn 78)) [(.t 22), (.t 27)]⟩,
           ⟨(some 3), none, .mv (.t 28)⟩]))
     (.reg [4] [⟨(some 20), none, .mv (.t 4)⟩,
         ⟨(some 21), none, .bin .add .other true (.t 20) (.c (.int .i64 1))⟩,
         ⟨(some 4), none, .mv (.t 21)⟩]))))))
  (.seq (.reg [3] [⟨(some 29), none, .mv (.t 3)⟩,
       ⟨(some 30), none, .faddr 1 (.t 1)⟩,
       ⟨(some 31), none, .load none (.t 30)⟩,
       ⟨(some 32), none, .len .sl (.t 31)⟩,
       ⟨(some 33), none, .call (.c (.fn 78)) [(.t 29), (.t 32)]⟩,
       ⟨(some 3), none, .mv (.t 33)⟩])
  (.seq (.seq (.reg [5] [⟨(some 5), none, .mv (.c (.int .i64 0))⟩])
   (.block 2 (.loop (.seq (.seq (.reg [38] [⟨(some 34), none, .mv (.t 5)⟩,
           ⟨(some 35), none, .faddr 1 (.t 1)⟩,
           ⟨(some 36), none, .load none (.t 35)⟩,
           ⟨(some 37), none, .len .sl (.t 36)⟩,
           ⟨(some 38), none, .bin .lss .other false (.t 34) (.t 37)⟩])
      (.cond (.t 38) .skip
      (.exit 2)))
     (.seq (.block 3 (.any [3] [(⟨(some 41), none, .mv (.t 3)⟩, true),
           (⟨(some 42), none, .faddr 1 (.t 1)⟩, false),
           (⟨(some 43), none, .load none (.t 42)⟩, false),
           (⟨(some 44), none, .mv (.t 5)⟩, false),
           (⟨(some 45), none, .iaddr none (.t 43) (.t 44)⟩, false),
           (⟨(some 46), none, .load none (.t 45)⟩, false),
           (⟨(some 47), none, .len .str (.t 46)⟩, false),
           (⟨(some 49), none, .faddr 1 (.t 1)⟩, false),
           (⟨(some 50), none, .load none (.t 49)⟩, false),
           (⟨(some 51), none, .mv (.t 5)⟩, false),
           (⟨(some 52), none, .iaddr none (.t 50) (.t 51)⟩, false),
           (⟨(some 53), none, .load none (.t 52)⟩, false),
           (⟨(some 48), none, .call (.c (.fn 78)) [(.t 41), (.t 47)]⟩, false),
           (⟨(some 54), none, .append none 1 (.t 48) (.t 53)⟩, true),
           (⟨(some 3), none, .mv (.t 54)⟩, true)]))
     (.reg [5] [⟨(some 39), none, .mv (.t 5)⟩,
         ⟨(some 40), none, .bin .add .other true (.t 39) (.c (.int .i64 1))⟩,
         ⟨(some 5), none, .mv (.t 40)⟩]))))))
  (.seq (.reg [3] [⟨(some 55), none, .mv (.t 3)⟩,
       ⟨(some 56), none, .faddr 2 (.t 1)⟩,
       ⟨(some 57), none, .load none (.t 56)⟩,
       ⟨(some 58), none, .len .sl (.t 57)⟩,
       ⟨(some 59), none, .call (.c (.fn 78)) [(.t 55), (.t 58)]⟩,
       ⟨(some 3), none, .mv (.t 59)⟩])
  (.seq (.seq (.reg [6] [⟨(some 6), none, .mv (.c (.int .i64 0))⟩])
   (.block 4 (.loop (.seq (.seq (.reg [64] [⟨(some 60), none, .mv (.t 6)⟩,
           ⟨(some 61), none, .faddr 2 (.t 1)⟩,
           ⟨(some 62), none, .load none (.t 61)⟩,
           ⟨(some 63), none, .len .sl (.t 62)⟩,
           ⟨(some 64), none, .bin .lss .other false (.t 60) (.t 63)⟩])
      (.cond (.t 64) .skip
      (.exit 4)))
     (.seq (.block 5 (.seq (.reg [7] [⟨(some 67), none, .faddr 2 (.t 1)⟩,
            ⟨(some 68), none, .load none (.t 67)⟩,
            ⟨(some 69), none, .mv (.t 6)⟩,
            ⟨(some 70), none, .iaddr (some 3) (.t 68) (.t 69)⟩,
            ⟨(some 71), none, .load (some 3) (.t 70)⟩,
            ⟨(some 7), none, .alloc [(.int .i64 0), (.int .i64 0), .snil]⟩,
            ⟨none, none, .store 3 (.t 7) (.t 71)⟩])
       (.seq (.reg [3] [⟨(some 72), none, .mv (.t 3)⟩,
            ⟨(some 73), none, .faddr 0 (.t 7)⟩,
            ⟨(some 74), none, .load none (.t 73)⟩,
            ⟨(some 75), none, .call (.c (.fn 78)) [(.t 72), (.t 74)]⟩,
            ⟨(some 3), none, .mv (.t 75)⟩])
       (.seq (.reg [3] [⟨(some 76), none, .mv (.t 3)⟩,
            ⟨(some 77), none, .faddr 1 (.t 7)⟩,
            ⟨(some 78), none, .load none (.t 77)⟩,
            ⟨(some 79), none, .call (.c (.fn 78)) [(.t 76), (.t 78)]⟩,
            ⟨(some 3), none, .mv (.t 79)⟩])
       (.seq (.reg [3] [⟨(some 80), none, .mv (.t 3)⟩,
            ⟨(some 81), none, .faddr 2 (.t 7)⟩,
            ⟨(some 82), none, .load none (.t 81)⟩,
            ⟨(some 83), none, .len .sl (.t 82)⟩,
            ⟨(some 84), none, .call (.c (.fn 78)) [(.t 80), (.t 83)]⟩,
            ⟨(some 3), none, .mv (.t 84)⟩])
       (.seq (.reg [8] [⟨(some 8), none, .mv (.c (.int .i64 0))⟩])
       (.block 6 (.loop (.seq (.seq (.reg [89] [⟨(some 85), none, .mv (.t 8)⟩,
               ⟨(some 86), none, .faddr 2 (.t 7)⟩,
               ⟨(some 87), none, .load none (.t 86)⟩,
               ⟨(some 88), none, .len .sl (.t 87)⟩,
               ⟨(some 89), none, .bin .lss .other false (.t 85) (.t 88)⟩])
          (.cond (.t 89) .skip
          (.exit 6)))
         (.seq (.block 7 (.seq (.reg [9] [⟨(some 92), none, .faddr 2 (.t 7)⟩,
                ⟨(some 93), none, .load none (.t 92)⟩,
                ⟨(some 94), none, .mv (.t 8)⟩,
                ⟨(some 95), none, .iaddr (some 3) (.t 93) (.t 94)⟩,
                ⟨(some 96), none, .load (some 3) (.t 95)⟩,
                ⟨(some 9), none, .alloc [(.int .i64 0), (.int .i64 0), .snil]⟩,
                ⟨none, none, .store 3 (.t 9) (.t 96)⟩])
           (.seq (.reg [3] [⟨(some 97), none, .mv (.t 3)⟩,
                ⟨(some 98), none, .faddr 0 (.t 9)⟩,
                ⟨(some 99), none, .load none (.t 98)⟩,
                ⟨(some 100), none, .call (.c (.fn 78)) [(.t 97), (.t 99)]⟩,
                ⟨(some 3), none, .mv (.t 100)⟩])
           (.seq (.reg [3] [⟨(some 101), none, .mv (.t 3)⟩,
                ⟨(some 102), none, .faddr 1 (.t 9)⟩,
                ⟨(some 103), none, .load none (.t 102)⟩,
                ⟨(some 104), none, .call (.c (.fn 78)) [(.t 101), (.t 103)]⟩,
                ⟨(some 3), none, .mv (.t 104)⟩])
           (.seq (.reg [3] [⟨(some 105), none, .mv (.t 3)⟩,
                ⟨(some 106), none, .faddr 2 (.t 9)⟩,
                ⟨(some 107), none, .load none (.t 106)⟩,
                ⟨(some 108), none, .len .sl (.t 107)⟩,
                ⟨(some 109), none, .call (.c (.fn 78)) [(.t 105), (.t 108)]⟩,
                ⟨(some 3), none, .mv (.t 109)⟩])
           (.seq (.reg [10] [⟨(some 10), none, .mv (.c (.int .i64 0))⟩])
           (.block 8 (.loop (.seq (.seq (.reg [114] [⟨(some 110), none, .mv (.t 10)⟩,
                   ⟨(some 111), none, .faddr 2 (.t 9)⟩,
                   ⟨(some 112), none, .load none (.t 111)⟩,
                   ⟨(some 113), none, .len .sl (.t 112)⟩,
                   ⟨(some 114), none, .bin .lss .other false (.t 110) (.t 113)⟩])
              (.cond (.t 114) .skip
              (.exit 8)))
             (.seq (.block 9 (.reg [3] [⟨(some 117), none, .mv (.t 3)⟩,
                   ⟨(some 118), none, .faddr 2 (.t 9)⟩,
                   ⟨(some 119), none, .load none (.t 118)⟩,
                   ⟨(some 120), none, .mv (.t 10)⟩,
                   ⟨(some 121), none, .iaddr none (.t 119) (.t 120)⟩,
                   ⟨(some 122), none, .load none (.t 121)⟩,
                   ⟨(some 123), none, .call (.c (.fn 78)) [(.t 117), (.t 122)]⟩,
                   ⟨(some 3), none, .mv (.t 123)⟩]))
             (.reg [10] [⟨(some 115), none, .mv (.t 10)⟩,
                 ⟨(some 116), none, .bin .add .other true (.t 115) (.c (.int .i64 1))⟩,
                 ⟨(some 10), none, .mv (.t 116)⟩])))))))))))
         (.reg [8] [⟨(some 90), none, .mv (.t 8)⟩,
             ⟨(some 91), none, .bin .add .other true (.t 90) (.c (.int .i64 1))⟩,
             ⟨(some 8), none, .mv (.t 91)⟩])))))))))))
     (.reg [6] [⟨(some 65), none, .mv (.t 6)⟩,
         ⟨(some 66), none, .bin .add .other true (.t 65) (.c (.int .i64 1))⟩,
         ⟨(some 6), none, .mv (.t 66)⟩]))))))
  (.seq (.reg [2] [⟨(some 124), none, .mv (.t 3)⟩,
       ⟨(some 2), none, .mv (.t 124)⟩])
  .ret))))))))⟩
theorem c49 : compF Try.prog [0, 1, 2, 3, 4, 5, 6, 7, 8, 9, 10, 19, 38, 64, 89, 114] Try.f49 = some a49 := by kernel_rfl

/- bushel/code.Get -/
def a50 : AFun := ⟨84, [.cell 2 (some 3), .tmp 3], (.seq (.reg [2, 3] [⟨(some 2), none, .alloc [.snil, .snil, .snil]⟩,
       ⟨(some 3), none, .mv (.c .inil)⟩])
  (.seq (.reg [4] [⟨(some 8), none, .mv (.t 0)⟩,
       ⟨(some 9), none, .build [.snil, (.bool false)] [(0, 1, (.t 8))]⟩,
       ⟨(some 10), none, .box (.t 9)⟩,
       ⟨(some 4), none, .mv (.t 10)⟩])
  (.seq (.reg [5] [⟨(some 5), none, .alloc [.snil, .snil, .snil]⟩])
  (.seq (.seq (.reg [12, 13] [⟨(some 11), none, .mv (.t 4)⟩,
        ⟨(some 12), none, .call (.c (.fn 79)) [(.t 11)]⟩,
        ⟨(some 13), none, .mv (.c (.int .i64 0))⟩])
   (.block 0 (.loop (.seq (.reg [14] [⟨(some 14), none, .bin .lss .other false (.t 13) (.t 12)⟩])
     (.seq (.cond (.t 14) .skip
      (.exit 0))
     (.seq (.block 1 (.any [] [(⟨(some 15), none, .faddr 0 (.t 5)⟩, true),
           (⟨(some 16), none, .load none (.t 15)⟩, true),
           (⟨(some 17), none, .mv (.t 4)⟩, false),
           (⟨(some 18), none, .call (.c (.fn 80)) [(.t 17)]⟩, false),
           (⟨(some 19), none, .mksl none [(.t 18)]⟩, false),
           (⟨(some 20), none, .append none 8 (.t 16) (.t 19)⟩, true),
           (⟨(some 21), none, .faddr 0 (.t 5)⟩, true),
           (⟨none, none, .store 1 (.t 21) (.t 20)⟩, true)]))
     (.reg [13] [⟨(some 22), none, .bin .add .other true (.t 13) (.c (.int .i64 1))⟩,
         ⟨(some 13), none, .mv (.t 22)⟩])))))))
  (.seq (.seq (.reg [24, 25] [⟨(some 23), none, .mv (.t 4)⟩,
        ⟨(some 24), none, .call (.c (.fn 79)) [(.t 23)]⟩,
        ⟨(some 25), none, .mv (.c (.int .i64 0))⟩])
   (.block 2 (.loop (.seq (.reg [26] [⟨(some 26), none, .bin .lss .other false (.t 25) (.t 24)⟩])
     (.seq (.cond (.t 26) .skip
      (.exit 2))
     (.seq (.block 3 (.seq (.reg [6] [⟨(some 27), none, .mv (.t 4)⟩,
            ⟨(some 28), none, .call (.c (.fn 79)) [(.t 27)]⟩,
            ⟨(some 6), none, .mv (.t 28)⟩])
       (.seq (.any [] [(⟨(some 29), none, .faddr 1 (.t 5)⟩, true),
            (⟨(some 30), none, .load none (.t 29)⟩, true),
            (⟨(some 31), none, .mv (.t 4)⟩, false),
            (⟨(some 32), none, .nilck (.t 31)⟩, false),
            (⟨(some 33), none, .faddr 0 (.t 32)⟩, false),
            (⟨(some 34), none, .load none (.t 33)⟩, false),
            (⟨(some 35), none, .mv (.t 6)⟩, false),
            (⟨(some 36), none, .slice (.sl none) (.t 34) none (some (.t 35)) none⟩, false),
            (⟨(some 37), none, .conv .ofBytes (.t 36)⟩, false),
            (⟨(some 38), none, .mksl none [(.t 37)]⟩, false),
            (⟨(some 39), none, .append none 16 (.t 30) (.t 38)⟩, true),
            (⟨(some 40), none, .faddr 1 (.t 5)⟩, true),
            (⟨none, none, .store 1 (.t 40) (.t 39)⟩, true)])
       (.reg [] [⟨(some 41), none, .mv (.t 4)⟩,
           ⟨(some 42), none, .mv (.t 4)⟩,
           ⟨(some 43), none, .nilck (.t 42)⟩,
           ⟨(some 44), none, .faddr 0 (.t 43)⟩,
           ⟨(some 45), none, .load none (.t 44)⟩,
           ⟨(some 46), none, .mv (.t 6)⟩,
           ⟨(some 47), none, .slice (.sl none) (.t 45) (some (.t 46)) none none⟩,
           ⟨(some 48), none, .nilck (.t 41)⟩,
           ⟨(some 49), none, .faddr 0 (.t 48)⟩,
           ⟨none, none, .store 1 (.t 49) (.t 47)⟩]))))
     (.reg [25] [⟨(some 50), none, .bin .add .other true (.t 25) (.c (.int .i64 1))⟩,
         ⟨(some 25), none, .mv (.t 50)⟩])))))))
  (.seq (.seq (.reg [52, 53] [⟨(some 51), none, .mv (.t 4)⟩,
        ⟨(some 52), none, .call (.c (.fn 79)) [(.t 51)]⟩,
        ⟨(some 53), none, .mv (.c (.int .i64 0))⟩])
   (.block 4 (.loop (.seq (.reg [54] [⟨(some 54), none, .bin .lss .other false (.t 53) (.t 52)⟩])
     (.seq (.cond (.t 54) .skip
      (.exit 4))
     (.seq (.block 5 (.any [] [(⟨(some 55), none, .faddr 2 (.t 5)⟩, true),
           (⟨(some 56), none, .load none (.t 55)⟩, true),
           (⟨(some 57), none, .mv (.t 4)⟩, false),
           (⟨(some 58), none, .call (.c (.fn 81)) [(.t 57)]⟩, false),
           (⟨(some 59), none, .mksl (some 3) [(.t 58)]⟩, false),
           (⟨(some 60), none, .append (some 3) 40 (.t 56) (.t 59)⟩, true),
           (⟨(some 61), none, .faddr 2 (.t 5)⟩, true),
           (⟨none, none, .store 1 (.t 61) (.t 60)⟩, true)]))
     (.reg [53] [⟨(some 62), none, .bin .add .other true (.t 53) (.c (.int .i64 1))⟩,
         ⟨(some 53), none, .mv (.t 62)⟩])))))))
  (.seq (.seq (.reg [74] [⟨(some 63), none, .mv (.t 4)⟩,
        ⟨(some 64), none, .nilck (.t 63)⟩,
        ⟨(some 65), none, .faddr 1 (.t 64)⟩,
        ⟨(some 66), none, .load none (.t 65)⟩,
        ⟨(some 67), none, .mv (.t 66)⟩,
        ⟨(some 68), (some (67, false)), .mv (.t 4)⟩,
        ⟨(some 69), (some (67, false)), .nilck (.t 68)⟩,
        ⟨(some 70), (some (67, false)), .faddr 0 (.t 69)⟩,
        ⟨(some 71), (some (67, false)), .load none (.t 70)⟩,
        ⟨(some 72), (some (67, false)), .len .sl (.t 71)⟩,
        ⟨(some 73), (some (67, false)), .bin .gtr .other true (.t 72) (.c (.int .i64 0))⟩,
        ⟨(some 74), none, .pick (.t 67) (.c (.bool true)) (.t 73)⟩])
   (.cond (.t 74) (.seq (.reg [3] [⟨(some 75), none, .build [.snil, .snil, .snil] []⟩,
          ⟨(some 76), none, .mkif 32 (.c (.int .i64 10))⟩,
          ⟨none, none, .store 3 (.t 2) (.t 75)⟩,
          ⟨(some 3), none, .mv (.t 76)⟩])
     .ret)
   .skip))
  (.seq (.seq (.reg [7] [⟨(some 77), none, .load (some 3) (.t 5)⟩,
        ⟨(some 78), none, .call (.c (.fn 48)) [(.t 77)]⟩,
        ⟨(some 7), none, .mv (.t 78)⟩])
   (.seq (.reg [80] [⟨(some 79), none, .mv (.t 7)⟩,
        ⟨(some 80), none, .bin .neq .ifc true (.t 79) (.c .inil)⟩])
   (.cond (.t 80) (.seq (.reg [3] [⟨(some 81), none, .build [.snil, .snil, .snil] []⟩,
          ⟨(some 82), none, .mv (.t 7)⟩,
          ⟨none, none, .store 3 (.t 2) (.t 81)⟩,
          ⟨(some 3), none, .mv (.t 82)⟩])
     .ret)
   .skip)))
  (.seq (.reg [3] [⟨(some 83), none, .load (some 3) (.t 5)⟩,
       ⟨none, none, .store 3 (.t 2) (.t 83)⟩,
       ⟨(some 3), none, .mv (.c .inil)⟩])
  .ret)))))))))⟩
theorem c50 : compF Try.prog [0, 2, 3, 4, 5, 6, 7, 12, 13, 14, 24, 25, 26, 52, 53, 54, 74, 80] Try.f50 = some a50 := by kernel_rfl

/- bushel/bushellaw00.Code -/
def a35 : AFun := ⟨15, [.tmp 2], (.seq (.reg [2] [⟨(some 2), none, .mv (.c (.int .i64 0))⟩])
  (.seq (.seq (.reg [5] [⟨(some 4), none, .mv (.t 0)⟩,
        ⟨(some 5), none, .bin .eql .ifc true (.t 4) (.c .inil)⟩])
   (.cond (.t 5) (.seq (.reg [2] [⟨(some 2), none, .mv (.c (.int .i64 0))⟩])
     .ret)
   .skip))
  (.seq (.seq (.reg [3] [⟨(some 3), none, .mv (.c (.int .i64 1))⟩])
   (.block 0 (.loop (.seq (.seq (.reg [7] [⟨(some 6), none, .mv (.t 3)⟩,
           ⟨(some 7), none, .bin .leq .other true (.t 6) (.c (.int .i64 11))⟩])
      (.cond (.t 7) .skip
      (.exit 0)))
     (.seq (.block 1 (.seq (.reg [13] [⟨(some 10), none, .mv (.t 0)⟩,
            ⟨(some 11), none, .mv (.t 3)⟩,
            ⟨(some 12), none, .mkif 32 (.t 11)⟩,
            ⟨(some 13), none, .bin .eql .ifc false (.t 10) (.t 12)⟩])
       (.cond (.t 13) (.seq (.reg [2] [⟨(some 14), none, .mv (.t 3)⟩,
              ⟨(some 2), none, .mv (.t 14)⟩])
         .ret)
       .skip)))
     (.reg [3] [⟨(some 8), none, .mv (.t 3)⟩,
         ⟨(some 9), none, .bin .add .other true (.t 8) (.c (.int .i64 1))⟩,
         ⟨(some 3), none, .mv (.t 9)⟩]))))))
  (.seq (.reg [2] [⟨(some 2), none, .mv (.c (.int .i64 (-1)))⟩])
  .ret))))⟩
theorem c35 : compF Try.prog [0, 2, 3, 5, 7, 13] Try.f35 = some a35 := by kernel_rfl

end Go.Proofs.Ytcbdnndgnbgnaaa
