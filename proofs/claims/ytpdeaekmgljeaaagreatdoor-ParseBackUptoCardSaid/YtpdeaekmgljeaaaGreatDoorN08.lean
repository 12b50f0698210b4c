/-
  The bodies of functions, in the small language: printed by program, proved by the kernel's computing. (Own work.)
-/
import Derived.Test.YtpdeaekmgljeaaaGreatDoorN07
import Derived.Test.YtpdeaekmgljeaaaGreatDoorChecked
namespace Go.Proofs.YtpdeaekmgljeaaaGreatDoor
open Go Go.Abs
def a43 : AFun := ⟨10,[.tmp 4],(.seq (.reg [4] [⟨some 4,none,.mv (.c .inil)⟩]) (.seq (.reg [4] [⟨some 5,none,.mv (.t 0)⟩,⟨some 6,none,.mv (.t 1)⟩,⟨some 7,none,.build [.int .i64 0,.int .i64 0] [(0,1,.t 5),(1,1,.t 6)]⟩,⟨some 8,none,.box (.t 7)⟩,⟨some 9,none,.mkif 56 (.t 8)⟩,⟨some 4,none,.mv (.t 9)⟩]) .ret))⟩
theorem c43 : compF Tryz.prog [0, 1, 4] Tryz.f43 = some a43 := by kernel_rfl
def a51 : AFun := ⟨37,[.tmp 2,.tmp 3],(.seq (.reg [2,3] [⟨some 2,none,.mv (.c .snil)⟩,⟨some 3,none,.mv (.c .inil)⟩]) (.seq (.seq (.reg [10] [⟨some 8,none,.mv (.t 0)⟩,⟨some 9,none,.len .sl (.t 8)⟩,⟨some 10,none,.bin .gtr .other true (.t 9) (.c (.int .i64 4000))⟩]) (.cond (.t 10) (.seq (.reg [2,3] [⟨some 11,none,.mkif 32 (.c (.int .i64 6))⟩,⟨some 2,none,.mv (.c .snil)⟩,⟨some 3,none,.mv (.t 11)⟩]) .ret) .skip)) (.seq (.reg [4] [⟨some 12,none,.mv (.t 0)⟩,⟨some 13,none,.build [.snil,.int .i64 0] [(0,1,.t 12)]⟩,⟨some 14,none,.box (.t 13)⟩,⟨some 4,none,.mv (.t 14)⟩]) (.seq (.reg [5] [⟨some 5,none,.mv (.c .snil)⟩]) (.block 0 (.loop (.block 1 (.seq (.reg [] [⟨some 15,none,.mv (.t 4)⟩,⟨some 16,none,.call (.c (.fn 80)) [.t 15,.c (.fn 81)]⟩]) (.seq (.seq (.reg [23] [⟨some 17,none,.mv (.t 4)⟩,⟨some 18,none,.nilck (.t 17)⟩,⟨some 19,none,.faddr 1 (.t 18)⟩,⟨some 20,none,.load none (.t 19)⟩,⟨some 21,none,.mv (.t 0)⟩,⟨some 22,none,.len .sl (.t 21)⟩,⟨some 23,none,.bin .eql .other false (.t 20) (.t 22)⟩]) (.cond (.t 23) (.seq (.reg [2,3] [⟨some 24,none,.mv (.t 5)⟩,⟨some 2,none,.mv (.t 24)⟩,⟨some 3,none,.mv (.c .inil)⟩]) .ret) .skip)) (.seq (.reg [6,7] [⟨some 26,none,.mv (.t 4)⟩,⟨some 27,none,.call (.c (.fn 82)) [.t 26]⟩,⟨some 25,none,.mv (.t 27)⟩,⟨some 28,none,.extract (.t 25) 0⟩,⟨some 29,none,.extract (.t 25) 1⟩,⟨some 6,none,.alloc [.int .i64 0,.int .i64 0,.int .i64 0,.str []]⟩,⟨none,none,.store 4 (.t 6) (.t 28)⟩,⟨some 7,none,.mv (.t 29)⟩]) (.seq (.seq (.reg [31] [⟨some 30,none,.mv (.t 7)⟩,⟨some 31,none,.bin .neq .ifc true (.t 30) (.c .inil)⟩]) (.cond (.t 31) (.seq (.reg [2,3] [⟨some 32,none,.mv (.t 7)⟩,⟨some 2,none,.mv (.c .snil)⟩,⟨some 3,none,.mv (.t 32)⟩]) .ret) .skip)) (.reg [5] [⟨some 33,none,.mv (.t 5)⟩,⟨some 34,none,.load (some 4) (.t 6)⟩,⟨some 35,none,.mksl (some 4) [.t 34]⟩,⟨some 36,none,.append (some 4) 40 (.t 33) (.t 35)⟩,⟨some 5,none,.mv (.t 36)⟩]))))))))))))⟩
theorem c51 : compF Tryz.prog [0, 2, 3, 4, 5, 6, 7, 10, 23, 31] Tryz.f51 = some a51 := by kernel_rfl
def a55 : AFun := ⟨49,[.tmp 2,.tmp 3],(.seq (.reg [2,3] [⟨some 2,none,.mv (.c (.str []))⟩,⟨some 3,none,.mv (.c .inil)⟩]) (.seq (.seq (.reg [9] [⟨some 7,none,.mv (.t 0)⟩,⟨some 8,none,.len .str (.t 7)⟩,⟨some 9,none,.bin .gtr .other true (.t 8) (.c (.int .i64 2000))⟩]) (.cond (.t 9) (.seq (.reg [2,3] [⟨some 10,none,.mkif 32 (.c (.int .i64 1))⟩,⟨some 2,none,.mv (.c (.str []))⟩,⟨some 3,none,.mv (.t 10)⟩]) .ret) .skip)) (.seq (.reg [4] [⟨some 11,none,.mksl none [.c (.int .u8 34)]⟩,⟨some 4,none,.mv (.t 11)⟩]) (.seq (.seq (.reg [13,14,15] [⟨some 12,none,.mv (.t 0)⟩,⟨some 13,none,.conv .toBytes (.t 12)⟩,⟨some 14,none,.len .sl (.t 13)⟩,⟨some 15,none,.mv (.c (.int .i64 0))⟩]) (.block 0 (.loop (.seq (.reg [16] [⟨some 16,none,.bin .lss .other false (.t 15) (.t 14)⟩]) (.seq (.cond (.t 16) .skip (.exit 0)) (.seq (.block 1 (.seq (.reg [6] [⟨some 17,none,.iaddr none (.t 13) (.t 15)⟩,⟨some 18,none,.load none (.t 17)⟩,⟨some 6,none,.mv (.t 18)⟩]) (.block 2 (.seq (.block 6 (.seq (.block 5 (.seq (.block 4 (.seq (.block 3 (.seq (.seq (.seq (.reg [19] [⟨some 20,none,.mv (.t 6)⟩,⟨some 21,none,.bin .eql .other true (.t 20) (.c (.int .u8 10))⟩,⟨some 19,none,.mv (.t 21)⟩]) (.cond (.t 19) (.exit 3) .skip)) (.seq (.seq (.reg [22] [⟨some 23,none,.mv (.t 6)⟩,⟨some 24,none,.call (.c (.fn 89)) [.t 23]⟩,⟨some 25,none,.un .not (.t 24)⟩,⟨some 22,none,.mv (.t 25)⟩]) (.cond (.t 22) (.exit 4) .skip)) (.seq (.reg [26] [⟨some 27,none,.mv (.t 6)⟩,⟨some 28,none,.bin .eql .other true (.t 27) (.c (.int .u8 34))⟩,⟨some 29,none,.mv (.t 28)⟩,⟨some 30,some (29,false),.mv (.t 6)⟩,⟨some 31,some (29,false),.bin .eql .other true (.t 30) (.c (.int .u8 92))⟩,⟨some 32,none,.pick (.t 29) (.c (.bool true)) (.t 31)⟩,⟨some 26,none,.mv (.t 32)⟩]) (.cond (.t 26) (.exit 5) .skip)))) (.exit 6))) (.seq (.reg [4] [⟨some 33,none,.mv (.t 4)⟩,⟨some 34,none,.mksl none [.c (.int .u8 92),.c (.int .u8 110)]⟩,⟨some 35,none,.append none 1 (.t 33) (.t 34)⟩,⟨some 4,none,.mv (.t 35)⟩]) (.exit 2)))) (.seq (.seq (.reg [2,3] [⟨some 36,none,.mkif 32 (.c (.int .i64 1))⟩,⟨some 2,none,.mv (.c (.str []))⟩,⟨some 3,none,.mv (.t 36)⟩]) .ret) (.exit 2)))) (.reg [4] [⟨some 37,none,.mv (.t 4)⟩,⟨some 38,none,.mksl none [.c (.int .u8 92)]⟩,⟨some 39,none,.append none 1 (.t 37) (.t 38)⟩,⟨some 4,none,.mv (.t 39)⟩]))) (.seq (.reg [4] [⟨some 40,none,.mv (.t 4)⟩,⟨some 41,none,.mv (.t 6)⟩,⟨some 42,none,.mksl none [.t 41]⟩,⟨some 43,none,.append none 1 (.t 40) (.t 42)⟩,⟨some 4,none,.mv (.t 43)⟩]) (.exit 2)))))) (.reg [15] [⟨some 44,none,.bin .add .other true (.t 15) (.c (.int .i64 1))⟩,⟨some 15,none,.mv (.t 44)⟩]))))))) (.seq (.reg [2,3] [⟨some 45,none,.mv (.t 4)⟩,⟨some 46,none,.mksl none [.c (.int .u8 34)]⟩,⟨some 47,none,.append none 1 (.t 45) (.t 46)⟩,⟨some 48,none,.conv .ofBytes (.t 47)⟩,⟨some 2,none,.mv (.t 48)⟩,⟨some 3,none,.mv (.c .inil)⟩]) .ret)))))⟩
theorem c55 : compF Tryz.prog [0, 2, 3, 4, 6, 9, 13, 14, 15, 16, 19, 22, 26] Tryz.f55 = some a55 := by kernel_rfl
def a80 : AFun := ⟨52,[.tmp 4],(.seq (.reg [4] [⟨some 4,none,.mv (.c (.str []))⟩]) (.seq (.reg [5] [⟨some 6,none,.mv (.t 0)⟩,⟨some 7,none,.nilck (.t 6)⟩,⟨some 8,none,.faddr 1 (.t 7)⟩,⟨some 9,none,.load none (.t 8)⟩,⟨some 5,none,.mv (.t 9)⟩]) (.seq (.block 0 (.loop (.seq (.seq (.any [33] [(⟨some 10,none,.mv (.t 0)⟩,true),(⟨some 11,none,.nilck (.t 10)⟩,true),(⟨some 12,none,.faddr 1 (.t 11)⟩,true),(⟨some 13,none,.load none (.t 12)⟩,true),(⟨some 14,none,.mv (.t 0)⟩,false),(⟨some 15,none,.nilck (.t 14)⟩,false),(⟨some 16,none,.faddr 0 (.t 15)⟩,false),(⟨some 17,none,.load none (.t 16)⟩,false),(⟨some 18,none,.len .sl (.t 17)⟩,false),(⟨some 19,none,.bin .lss .other false (.t 13) (.t 18)⟩,true),(⟨some 20,none,.mv (.t 19)⟩,true),(⟨some 21,some (20,true),.mv (.t 1)⟩,true),(⟨some 22,some (20,true),.mv (.t 0)⟩,false),(⟨some 23,some (20,true),.nilck (.t 22)⟩,false),(⟨some 24,some (20,true),.faddr 0 (.t 23)⟩,false),(⟨some 25,some (20,true),.load none (.t 24)⟩,false),(⟨some 26,some (20,true),.mv (.t 0)⟩,false),(⟨some 27,some (20,true),.nilck (.t 26)⟩,false),(⟨some 28,some (20,true),.faddr 1 (.t 27)⟩,false),(⟨some 29,some (20,true),.load none (.t 28)⟩,false),(⟨some 30,some (20,true),.iaddr none (.t 25) (.t 29)⟩,false),(⟨some 31,some (20,true),.load none (.t 30)⟩,false),(⟨some 32,some (20,true),.call (.t 21) [.t 31]⟩,true),(⟨some 33,none,.pick (.t 20) (.t 32) (.c (.bool false))⟩,true)]) (.cond (.t 33) .skip (.exit 0))) (.block 1 (.reg [] [⟨some 34,none,.mv (.t 0)⟩,⟨some 35,none,.nilck (.t 34)⟩,⟨some 36,none,.faddr 1 (.t 35)⟩,⟨some 37,none,.load none (.t 36)⟩,⟨some 38,none,.bin .add .other true (.t 37) (.c (.int .i64 1))⟩,⟨some 39,none,.nilck (.t 34)⟩,⟨some 40,none,.faddr 1 (.t 39)⟩,⟨none,none,.store 1 (.t 40) (.t 38)⟩]))))) (.seq (.any [4] [(⟨some 41,none,.mv (.t 0)⟩,true),(⟨some 42,none,.nilck (.t 41)⟩,true),(⟨some 43,none,.faddr 0 (.t 42)⟩,true),(⟨some 44,none,.load none (.t 43)⟩,true),(⟨some 45,none,.mv (.t 5)⟩,false),(⟨some 46,none,.mv (.t 0)⟩,false),(⟨some 47,none,.nilck (.t 46)⟩,false),(⟨some 48,none,.faddr 1 (.t 47)⟩,false),(⟨some 49,none,.load none (.t 48)⟩,false),(⟨some 50,none,.slice (.sl none) (.t 44) (some (.t 45)) (some (.t 49)) none⟩,true),(⟨some 51,none,.conv .ofBytes (.t 50)⟩,true),(⟨some 4,none,.mv (.t 51)⟩,true)]) .ret))))⟩
theorem c80 : compF Tryz.prog [0, 1, 4, 5, 33] Tryz.f80 = some a80 := by kernel_rfl
def a81 : AFun := ⟨13,[.tmp 2],(.seq (.reg [2] [⟨some 2,none,.mv (.c (.bool false))⟩]) (.seq (.reg [2] [⟨some 3,none,.mv (.t 0)⟩,⟨some 4,none,.bin .eql .other true (.t 3) (.c (.int .u8 32))⟩,⟨some 5,none,.mv (.t 4)⟩,⟨some 6,some (5,false),.mv (.t 0)⟩,⟨some 7,some (5,false),.bin .eql .other true (.t 6) (.c (.int .u8 10))⟩,⟨some 8,none,.pick (.t 5) (.c (.bool true)) (.t 7)⟩,⟨some 9,none,.mv (.t 8)⟩,⟨some 10,some (9,false),.mv (.t 0)⟩,⟨some 11,some (9,false),.bin .eql .other true (.t 10) (.c (.int .u8 9))⟩,⟨some 12,none,.pick (.t 9) (.c (.bool true)) (.t 11)⟩,⟨some 2,none,.mv (.t 12)⟩]) .ret))⟩
theorem c81 : compF Tryz.prog [0, 2] Tryz.f81 = some a81 := by kernel_rfl
def a82 : AFun := ⟨126,[.cell 2 (some 4),.tmp 3],(.seq (.reg [2,3] [⟨some 2,none,.alloc [.int .i64 0,.int .i64 0,.int .i64 0,.str []]⟩,⟨some 3,none,.mv (.c .inil)⟩]) (.seq (.reg [4] [⟨some 12,none,.mv (.t 0)⟩,⟨some 13,none,.nilck (.t 12)⟩,⟨some 14,none,.faddr 1 (.t 13)⟩,⟨some 15,none,.load none (.t 14)⟩,⟨some 16,none,.build [.int .i64 0,.int .i64 0,.int .i64 0,.str []] [(1,1,.t 15)]⟩,⟨some 4,none,.alloc [.int .i64 0,.int .i64 0,.int .i64 0,.str []]⟩,⟨none,none,.store 4 (.t 4) (.t 16)⟩]) (.seq (.reg [5] [⟨some 17,none,.mv (.t 0)⟩,⟨some 18,none,.nilck (.t 17)⟩,⟨some 19,none,.faddr 1 (.t 18)⟩,⟨some 20,none,.load none (.t 19)⟩,⟨some 21,none,.call (.c (.fn 43)) [.t 20,.c (.int .i64 2)]⟩,⟨some 5,none,.mv (.t 21)⟩]) (.seq (.seq (.any [6] [(⟨some 22,none,.mv (.t 0)⟩,true),(⟨some 23,none,.nilck (.t 22)⟩,true),(⟨some 24,none,.faddr 0 (.t 23)⟩,true),(⟨some 25,none,.load none (.t 24)⟩,true),(⟨some 26,none,.mv (.t 0)⟩,false),(⟨some 27,none,.nilck (.t 26)⟩,false),(⟨some 28,none,.faddr 1 (.t 27)⟩,false),(⟨some 29,none,.load none (.t 28)⟩,false),(⟨some 30,none,.iaddr none (.t 25) (.t 29)⟩,true),(⟨some 31,none,.load none (.t 30)⟩,true),(⟨some 6,none,.mv (.t 31)⟩,true)]) (.block 0 (.seq (.reg [41] [⟨some 42,none,.mv (.t 6)⟩,⟨some 43,none,.call (.c (.fn 115)) [.t 42]⟩,⟨some 41,none,.mv (.t 43)⟩]) (.cond (.t 41) (.seq (.reg [] [⟨some 44,none,.mv (.t 0)⟩,⟨some 45,none,.call (.c (.fn 80)) [.t 44,.c (.fn 116)]⟩,⟨some 46,none,.faddr 0 (.t 4)⟩,⟨none,none,.store 1 (.t 46) (.c (.int .i64 1))⟩,⟨some 47,none,.faddr 3 (.t 4)⟩,⟨none,none,.store 1 (.t 47) (.t 45)⟩]) (.seq (.any [51] [(⟨some 49,none,.faddr 3 (.t 4)⟩,true),(⟨some 50,none,.load none (.t 49)⟩,true),(⟨some 48,none,.call (.c (.fn 119)) []⟩,false),(⟨some 51,none,.call (.c (.fn 118)) [.t 48,.t 50]⟩,true)]) (.cond (.t 51) (.reg [] [⟨some 52,none,.faddr 0 (.t 4)⟩,⟨none,none,.store 1 (.t 52) (.c (.int .i64 2))⟩]) .skip))) (.seq (.reg [53] [⟨some 54,none,.mv (.t 6)⟩,⟨some 55,none,.call (.c (.fn 120)) [.t 54]⟩,⟨some 53,none,.mv (.t 55)⟩]) (.cond (.t 53) (.reg [] [⟨some 56,none,.mv (.t 0)⟩,⟨some 57,none,.call (.c (.fn 80)) [.t 56,.c (.fn 121)]⟩,⟨some 58,none,.faddr 0 (.t 4)⟩,⟨none,none,.store 1 (.t 58) (.c (.int .i64 3))⟩,⟨some 59,none,.faddr 3 (.t 4)⟩,⟨none,none,.store 1 (.t 59) (.t 57)⟩]) (.seq (.reg [60] [⟨some 61,none,.mv (.t 6)⟩,⟨some 62,none,.call (.c (.fn 117)) [.t 61]⟩,⟨some 60,none,.mv (.t 62)⟩]) (.cond (.t 60) (.seq (.reg [7] [⟨some 63,none,.mv (.t 0)⟩,⟨some 64,none,.call (.c (.fn 80)) [.t 63,.c (.fn 117)]⟩,⟨some 7,none,.mv (.t 64)⟩]) (.seq (.reg [8,9] [⟨some 66,none,.mv (.t 7)⟩,⟨some 67,none,.call (.c (.fn 122)) [.t 66,.c (.int .i64 10),.c (.int .i64 64)]⟩,⟨some 65,none,.mv (.t 67)⟩,⟨some 68,none,.extract (.t 65) 0⟩,⟨some 69,none,.extract (.t 65) 1⟩,⟨some 8,none,.mv (.t 68)⟩,⟨some 9,none,.mv (.t 69)⟩]) (.seq (.seq (.reg [81] [⟨some 70,none,.mv (.t 9)⟩,⟨some 71,none,.bin .neq .ifc true (.t 70) (.c .inil)⟩,⟨some 72,none,.mv (.t 71)⟩,⟨some 73,some (72,false),.mv (.t 7)⟩,⟨some 74,some (72,false),.len .str (.t 73)⟩,⟨some 75,some (72,false),.bin .gtr .other true (.t 74) (.c (.int .i64 1))⟩,⟨some 76,some (72,false),.mv (.t 75)⟩,⟨some 77,some (76,true),.mv (.t 7)⟩,⟨some 78,some (76,true),.index (.t 77) (.c (.int .i64 0))⟩,⟨some 79,some (76,true),.bin .eql .other true (.t 78) (.c (.int .u8 48))⟩,⟨some 80,some (72,false),.pick (.t 76) (.t 79) (.c (.bool false))⟩,⟨some 81,none,.pick (.t 72) (.c (.bool true)) (.t 80)⟩]) (.cond (.t 81) (.seq (.reg [3] [⟨some 82,none,.build [.int .i64 0,.int .i64 0,.int .i64 0,.str []] []⟩,⟨some 83,none,.mv (.t 5)⟩,⟨none,none,.store 4 (.t 2) (.t 82)⟩,⟨some 3,none,.mv (.t 83)⟩]) .ret) .skip)) (.reg [] [⟨some 84,none,.mv (.t 8)⟩,⟨some 85,none,.faddr 0 (.t 4)⟩,⟨none,none,.store 1 (.t 85) (.c (.int .i64 4))⟩,⟨some 86,none,.faddr 2 (.t 4)⟩,⟨none,none,.store 1 (.t 86) (.t 84)⟩])))) (.seq (.reg [87] [⟨some 88,none,.mv (.t 6)⟩,⟨some 89,none,.bin .eql .other true (.t 88) (.c (.int .u8 34))⟩,⟨some 87,none,.mv (.t 89)⟩]) (.cond (.t 87) (.seq (.reg [] [⟨some 90,none,.mv (.t 0)⟩,⟨some 91,none,.nilck (.t 90)⟩,⟨some 92,none,.faddr 1 (.t 91)⟩,⟨some 93,none,.load none (.t 92)⟩,⟨some 94,none,.bin .add .other true (.t 93) (.c (.int .i64 1))⟩,⟨some 95,none,.nilck (.t 90)⟩,⟨some 96,none,.faddr 1 (.t 95)⟩,⟨none,none,.store 1 (.t 96) (.t 94)⟩]) (.seq (.reg [10,11] [⟨some 98,none,.mv (.t 0)⟩,⟨some 99,none,.call (.c (.fn 123)) [.t 98]⟩,⟨some 97,none,.mv (.t 99)⟩,⟨some 100,none,.extract (.t 97) 0⟩,⟨some 101,none,.extract (.t 97) 1⟩,⟨some 10,none,.mv (.t 100)⟩,⟨some 11,none,.mv (.t 101)⟩]) (.seq (.seq (.reg [103] [⟨some 102,none,.mv (.t 11)⟩,⟨some 103,none,.bin .neq .ifc true (.t 102) (.c .inil)⟩]) (.cond (.t 103) (.seq (.reg [3] [⟨some 104,none,.build [.int .i64 0,.int .i64 0,.int .i64 0,.str []] []⟩,⟨some 105,none,.mv (.t 11)⟩,⟨none,none,.store 4 (.t 2) (.t 104)⟩,⟨some 3,none,.mv (.t 105)⟩]) .ret) .skip)) (.seq (.seq (.reg [108] [⟨some 106,none,.mv (.t 10)⟩,⟨some 107,none,.len .str (.t 106)⟩,⟨some 108,none,.bin .gtr .other true (.t 107) (.c (.int .i64 2000))⟩]) (.cond (.t 108) (.seq (.reg [3] [⟨some 109,none,.build [.int .i64 0,.int .i64 0,.int .i64 0,.str []] []⟩,⟨some 110,none,.mv (.t 5)⟩,⟨none,none,.store 4 (.t 2) (.t 109)⟩,⟨some 3,none,.mv (.t 110)⟩]) .ret) .skip)) (.reg [] [⟨some 111,none,.mv (.t 10)⟩,⟨some 112,none,.faddr 0 (.t 4)⟩,⟨none,none,.store 1 (.t 112) (.c (.int .i64 5))⟩,⟨some 113,none,.faddr 3 (.t 4)⟩,⟨none,none,.store 1 (.t 113) (.t 111)⟩]))))) (.seq (.reg [] [⟨some 32,none,.mv (.t 0)⟩,⟨some 33,none,.call (.c (.fn 124)) [.t 32]⟩,⟨some 34,none,.faddr 0 (.t 4)⟩,⟨none,none,.store 1 (.t 34) (.c (.int .i64 6))⟩,⟨some 35,none,.faddr 3 (.t 4)⟩,⟨none,none,.store 1 (.t 35) (.t 33)⟩]) (.seq (.reg [38] [⟨some 36,none,.faddr 3 (.t 4)⟩,⟨some 37,none,.load none (.t 36)⟩,⟨some 38,none,.bin .eql .other true (.t 37) (.c (.str []))⟩]) (.cond (.t 38) (.seq (.reg [3] [⟨some 39,none,.build [.int .i64 0,.int .i64 0,.int .i64 0,.str []] []⟩,⟨some 40,none,.mv (.t 5)⟩,⟨none,none,.store 4 (.t 2) (.t 39)⟩,⟨some 3,none,.mv (.t 40)⟩]) .ret) .skip))))))))))))) (.seq (.seq (.reg [122] [⟨some 114,none,.faddr 0 (.t 4)⟩,⟨some 115,none,.load none (.t 114)⟩,⟨some 116,none,.bin .leq .other true (.t 115) (.c (.int .i64 3))⟩,⟨some 117,none,.mv (.t 116)⟩,⟨some 118,some (117,true),.faddr 3 (.t 4)⟩,⟨some 119,some (117,true),.load none (.t 118)⟩,⟨some 120,some (117,true),.len .str (.t 119)⟩,⟨some 121,some (117,true),.bin .gtr .other true (.t 120) (.c (.int .i64 20))⟩,⟨some 122,none,.pick (.t 117) (.t 121) (.c (.bool false))⟩]) (.cond (.t 122) (.seq (.reg [3] [⟨some 123,none,.build [.int .i64 0,.int .i64 0,.int .i64 0,.str []] []⟩,⟨some 124,none,.mv (.t 5)⟩,⟨none,none,.store 4 (.t 2) (.t 123)⟩,⟨some 3,none,.mv (.t 124)⟩]) .ret) .skip)) (.seq (.reg [3] [⟨some 125,none,.load (some 4) (.t 4)⟩,⟨none,none,.store 4 (.t 2) (.t 125)⟩,⟨some 3,none,.mv (.c .inil)⟩]) .ret))))))⟩
theorem c82 : compF Tryz.prog [0, 2, 3, 4, 5, 6, 7, 8, 9, 10, 11, 38, 41, 51, 53, 60, 81, 87, 103, 108, 122] Tryz.f82 = some a82 := by kernel_rfl
def a89 : AFun := ⟨9,[.tmp 2],(.seq (.reg [2] [⟨some 2,none,.mv (.c (.bool false))⟩]) (.seq (.reg [2] [⟨some 3,none,.mv (.t 0)⟩,⟨some 4,none,.bin .geq .other true (.t 3) (.c (.int .u8 32))⟩,⟨some 5,none,.mv (.t 4)⟩,⟨some 6,some (5,true),.mv (.t 0)⟩,⟨some 7,some (5,true),.bin .leq .other true (.t 6) (.c (.int .u8 126))⟩,⟨some 8,none,.pick (.t 5) (.t 7) (.c (.bool false))⟩,⟨some 2,none,.mv (.t 8)⟩]) .ret))⟩
theorem c89 : compF Tryz.prog [0, 2] Tryz.f89 = some a89 := by kernel_rfl
def a115 : AFun := ⟨9,[.tmp 2],(.seq (.reg [2] [⟨some 2,none,.mv (.c (.bool false))⟩]) (.seq (.reg [2] [⟨some 3,none,.mv (.t 0)⟩,⟨some 4,none,.bin .geq .other true (.t 3) (.c (.int .u8 97))⟩,⟨some 5,none,.mv (.t 4)⟩,⟨some 6,some (5,true),.mv (.t 0)⟩,⟨some 7,some (5,true),.bin .leq .other true (.t 6) (.c (.int .u8 122))⟩,⟨some 8,none,.pick (.t 5) (.t 7) (.c (.bool false))⟩,⟨some 2,none,.mv (.t 8)⟩]) .ret))⟩
theorem c115 : compF Tryz.prog [0, 2] Tryz.f115 = some a115 := by kernel_rfl
def a116 : AFun := ⟨9,[.tmp 2],(.seq (.reg [2] [⟨some 2,none,.mv (.c (.bool false))⟩]) (.seq (.reg [2] [⟨some 3,none,.mv (.t 0)⟩,⟨some 4,none,.call (.c (.fn 115)) [.t 3]⟩,⟨some 5,none,.mv (.t 4)⟩,⟨some 6,some (5,false),.mv (.t 0)⟩,⟨some 7,some (5,false),.call (.c (.fn 117)) [.t 6]⟩,⟨some 8,none,.pick (.t 5) (.c (.bool true)) (.t 7)⟩,⟨some 2,none,.mv (.t 8)⟩]) .ret))⟩
theorem c116 : compF Tryz.prog [0, 2] Tryz.f116 = some a116 := by kernel_rfl
def a117 : AFun := ⟨9,[.tmp 2],(.seq (.reg [2] [⟨some 2,none,.mv (.c (.bool false))⟩]) (.seq (.reg [2] [⟨some 3,none,.mv (.t 0)⟩,⟨some 4,none,.bin .geq .other true (.t 3) (.c (.int .u8 48))⟩,⟨some 5,none,.mv (.t 4)⟩,⟨some 6,some (5,true),.mv (.t 0)⟩,⟨some 7,some (5,true),.bin .leq .other true (.t 6) (.c (.int .u8 57))⟩,⟨some 8,none,.pick (.t 5) (.t 7) (.c (.bool false))⟩,⟨some 2,none,.mv (.t 8)⟩]) .ret))⟩
theorem c117 : compF Tryz.prog [0, 2] Tryz.f117 = some a117 := by kernel_rfl
def a118 : AFun := ⟨9,[.tmp 4],(.seq (.reg [4] [⟨some 4,none,.mv (.c (.bool false))⟩]) (.seq (.reg [4] [⟨some 5,none,.mv (.t 0)⟩,⟨some 6,none,.mv (.t 1)⟩,⟨some 7,none,.call (.c (.fn 155)) [.t 5,.t 6]⟩,⟨some 8,none,.bin .geq .other true (.t 7) (.c (.int .i64 0))⟩,⟨some 4,none,.mv (.t 8)⟩]) .ret))⟩
theorem c118 : compF Tryz.prog [0, 1, 4] Tryz.f118 = some a118 := by kernel_rfl
def a119 : AFun := ⟨2,[.tmp 0],(.seq (.reg [0] [⟨some 0,none,.mv (.c .snil)⟩]) (.seq (.reg [0] [⟨some 1,none,.mksl none [.c (.str [102,110]),.c (.str [108,101,116]),.c (.str [114,101,99]),.c (.str [105,110]),.c (.str [109,97,116,99,104]),.c (.str [119,105,116,104]),.c (.str [101,110,100]),.c (.str [105,102]),.c (.str [116,104,101,110]),.c (.str [101,108,115,101]),.c (.str [114,101,102]),.c (.str [112,114,105,110,116]),.c (.str [115,104,111,119]),.c (.str [114,101,97,100])]⟩,⟨some 0,none,.mv (.t 1)⟩]) .ret))⟩
theorem c119 : compF Tryz.prog [0] Tryz.f119 = some a119 := by kernel_rfl
def a120 : AFun := ⟨9,[.tmp 2],(.seq (.reg [2] [⟨some 2,none,.mv (.c (.bool false))⟩]) (.seq (.reg [2] [⟨some 3,none,.mv (.t 0)⟩,⟨some 4,none,.bin .geq .other true (.t 3) (.c (.int .u8 65))⟩,⟨some 5,none,.mv (.t 4)⟩,⟨some 6,some (5,true),.mv (.t 0)⟩,⟨some 7,some (5,true),.bin .leq .other true (.t 6) (.c (.int .u8 90))⟩,⟨some 8,none,.pick (.t 5) (.t 7) (.c (.bool false))⟩,⟨some 2,none,.mv (.t 8)⟩]) .ret))⟩
theorem c120 : compF Tryz.prog [0, 2] Tryz.f120 = some a120 := by kernel_rfl
def a121 : AFun := ⟨13,[.tmp 2],(.seq (.reg [2] [⟨some 2,none,.mv (.c (.bool false))⟩]) (.seq (.reg [2] [⟨some 3,none,.mv (.t 0)⟩,⟨some 4,none,.call (.c (.fn 115)) [.t 3]⟩,⟨some 5,none,.mv (.t 4)⟩,⟨some 6,some (5,false),.mv (.t 0)⟩,⟨some 7,some (5,false),.call (.c (.fn 120)) [.t 6]⟩,⟨some 8,none,.pick (.t 5) (.c (.bool true)) (.t 7)⟩,⟨some 9,none,.mv (.t 8)⟩,⟨some 10,some (9,false),.mv (.t 0)⟩,⟨some 11,some (9,false),.call (.c (.fn 117)) [.t 10]⟩,⟨some 12,none,.pick (.t 9) (.c (.bool true)) (.t 11)⟩,⟨some 2,none,.mv (.t 12)⟩]) .ret))⟩
theorem c121 : compF Tryz.prog [0, 2] Tryz.f121 = some a121 := by kernel_rfl
def a123 : AFun := ⟨109,[.tmp 2,.tmp 3],(.seq (.reg [2,3] [⟨some 2,none,.mv (.c (.str []))⟩,⟨some 3,none,.mv (.c .inil)⟩]) (.seq (.reg [4] [⟨some 4,none,.mv (.c .snil)⟩]) (.seq (.block 0 (.loop (.seq (.seq (.any [15] [(⟨some 6,none,.mv (.t 0)⟩,true),(⟨some 7,none,.nilck (.t 6)⟩,true),(⟨some 8,none,.faddr 1 (.t 7)⟩,true),(⟨some 9,none,.load none (.t 8)⟩,true),(⟨some 10,none,.mv (.t 0)⟩,false),(⟨some 11,none,.nilck (.t 10)⟩,false),(⟨some 12,none,.faddr 0 (.t 11)⟩,false),(⟨some 13,none,.load none (.t 12)⟩,false),(⟨some 14,none,.len .sl (.t 13)⟩,false),(⟨some 15,none,.bin .lss .other false (.t 9) (.t 14)⟩,true)]) (.cond (.t 15) .skip (.exit 0))) (.seq (.block 1 (.seq (.any [5] [(⟨some 23,none,.mv (.t 0)⟩,true),(⟨some 24,none,.nilck (.t 23)⟩,true),(⟨some 25,none,.faddr 0 (.t 24)⟩,true),(⟨some 26,none,.load none (.t 25)⟩,true),(⟨some 27,none,.mv (.t 0)⟩,false),(⟨some 28,none,.nilck (.t 27)⟩,false),(⟨some 29,none,.faddr 1 (.t 28)⟩,false),(⟨some 30,none,.load none (.t 29)⟩,false),(⟨some 31,none,.iaddr none (.t 26) (.t 30)⟩,true),(⟨some 32,none,.load none (.t 31)⟩,true),(⟨some 5,none,.mv (.t 32)⟩,true)]) (.seq (.block 2 (.seq (.reg [33] [⟨some 34,none,.mv (.t 5)⟩,⟨some 35,none,.bin .eql .other true (.t 34) (.c (.int .u8 34))⟩,⟨some 33,none,.mv (.t 35)⟩]) (.cond (.t 33) (.seq (.reg [] [⟨some 36,none,.mv (.t 0)⟩,⟨some 37,none,.nilck (.t 36)⟩,⟨some 38,none,.faddr 1 (.t 37)⟩,⟨some 39,none,.load none (.t 38)⟩,⟨some 40,none,.bin .add .other true (.t 39) (.c (.int .i64 1))⟩,⟨some 41,none,.nilck (.t 36)⟩,⟨some 42,none,.faddr 1 (.t 41)⟩,⟨none,none,.store 1 (.t 42) (.t 40)⟩]) (.seq (.reg [2,3] [⟨some 43,none,.mv (.t 4)⟩,⟨some 44,none,.conv .ofBytes (.t 43)⟩,⟨some 2,none,.mv (.t 44)⟩,⟨some 3,none,.mv (.c .inil)⟩]) .ret)) (.seq (.reg [45] [⟨some 46,none,.mv (.t 5)⟩,⟨some 47,none,.call (.c (.fn 89)) [.t 46]⟩,⟨some 48,none,.un .not (.t 47)⟩,⟨some 45,none,.mv (.t 48)⟩]) (.cond (.t 45) (.seq (.reg [2,3] [⟨some 49,none,.mv (.t 0)⟩,⟨some 50,none,.nilck (.t 49)⟩,⟨some 51,none,.faddr 1 (.t 50)⟩,⟨some 52,none,.load none (.t 51)⟩,⟨some 53,none,.call (.c (.fn 43)) [.t 52,.c (.int .i64 2)]⟩,⟨some 2,none,.mv (.c (.str []))⟩,⟨some 3,none,.mv (.t 53)⟩]) .ret) (.seq (.reg [54] [⟨some 55,none,.mv (.t 5)⟩,⟨some 56,none,.bin .eql .other true (.t 55) (.c (.int .u8 92))⟩,⟨some 54,none,.mv (.t 56)⟩]) (.cond (.t 54) (.seq (.reg [] [⟨some 57,none,.mv (.t 0)⟩,⟨some 58,none,.nilck (.t 57)⟩,⟨some 59,none,.faddr 1 (.t 58)⟩,⟨some 60,none,.load none (.t 59)⟩,⟨some 61,none,.bin .add .other true (.t 60) (.c (.int .i64 1))⟩,⟨some 62,none,.nilck (.t 57)⟩,⟨some 63,none,.faddr 1 (.t 62)⟩,⟨none,none,.store 1 (.t 63) (.t 61)⟩]) (.seq (.seq (.any [73] [(⟨some 64,none,.mv (.t 0)⟩,true),(⟨some 65,none,.nilck (.t 64)⟩,true),(⟨some 66,none,.faddr 1 (.t 65)⟩,true),(⟨some 67,none,.load none (.t 66)⟩,true),(⟨some 68,none,.mv (.t 0)⟩,false),(⟨some 69,none,.nilck (.t 68)⟩,false),(⟨some 70,none,.faddr 0 (.t 69)⟩,false),(⟨some 71,none,.load none (.t 70)⟩,false),(⟨some 72,none,.len .sl (.t 71)⟩,false),(⟨some 73,none,.bin .eql .other false (.t 67) (.t 72)⟩,true)]) (.cond (.t 73) (.seq (.reg [2,3] [⟨some 74,none,.mv (.t 0)⟩,⟨some 75,none,.nilck (.t 74)⟩,⟨some 76,none,.faddr 1 (.t 75)⟩,⟨some 77,none,.load none (.t 76)⟩,⟨some 78,none,.call (.c (.fn 43)) [.t 77,.c (.int .i64 2)]⟩,⟨some 2,none,.mv (.c (.str []))⟩,⟨some 3,none,.mv (.t 78)⟩]) .ret) .skip)) (.seq (.any [5] [(⟨some 79,none,.mv (.t 0)⟩,true),(⟨some 80,none,.nilck (.t 79)⟩,true),(⟨some 81,none,.faddr 0 (.t 80)⟩,true),(⟨some 82,none,.load none (.t 81)⟩,true),(⟨some 83,none,.mv (.t 0)⟩,false),(⟨some 84,none,.nilck (.t 83)⟩,false),(⟨some 85,none,.faddr 1 (.t 84)⟩,false),(⟨some 86,none,.load none (.t 85)⟩,false),(⟨some 87,none,.iaddr none (.t 82) (.t 86)⟩,true),(⟨some 88,none,.load none (.t 87)⟩,true),(⟨some 5,none,.mv (.t 88)⟩,true)]) (.seq (.reg [89] [⟨some 89,none,.mv (.t 5)⟩]) (.block 3 (.seq (.reg [95] [⟨some 96,none,.bin .eql .other true (.t 89) (.c (.int .u8 110))⟩,⟨some 95,none,.mv (.t 96)⟩]) (.cond (.t 95) (.reg [5] [⟨some 5,none,.mv (.c (.int .u8 10))⟩]) (.seq (.seq (.reg [97] [⟨some 98,none,.bin .eql .other true (.t 89) (.c (.int .u8 34))⟩,⟨some 97,none,.mv (.t 98)⟩]) (.cond (.t 97) .skip (.reg [97] [⟨some 99,none,.bin .eql .other true (.t 89) (.c (.int .u8 92))⟩,⟨some 97,none,.mv (.t 99)⟩]))) (.cond (.t 97) .skip (.seq (.reg [2,3] [⟨some 90,none,.mv (.t 0)⟩,⟨some 91,none,.nilck (.t 90)⟩,⟨some 92,none,.faddr 1 (.t 91)⟩,⟨some 93,none,.load none (.t 92)⟩,⟨some 94,none,.call (.c (.fn 43)) [.t 93,.c (.int .i64 2)]⟩,⟨some 2,none,.mv (.c (.str []))⟩,⟨some 3,none,.mv (.t 94)⟩]) .ret)))))))))) .skip))))))) (.reg [4] [⟨some 100,none,.mv (.t 4)⟩,⟨some 101,none,.mv (.t 5)⟩,⟨some 102,none,.mksl none [.t 101]⟩,⟨some 103,none,.append none 1 (.t 100) (.t 102)⟩,⟨some 4,none,.mv (.t 103)⟩])))) (.reg [] [⟨some 16,none,.mv (.t 0)⟩,⟨some 17,none,.nilck (.t 16)⟩,⟨some 18,none,.faddr 1 (.t 17)⟩,⟨some 19,none,.load none (.t 18)⟩,⟨some 20,none,.bin .add .other true (.t 19) (.c (.int .i64 1))⟩,⟨some 21,none,.nilck (.t 16)⟩,⟨some 22,none,.faddr 1 (.t 21)⟩,⟨none,none,.store 1 (.t 22) (.t 20)⟩]))))) (.seq (.reg [2,3] [⟨some 104,none,.mv (.t 0)⟩,⟨some 105,none,.nilck (.t 104)⟩,⟨some 106,none,.faddr 1 (.t 105)⟩,⟨some 107,none,.load none (.t 106)⟩,⟨some 108,none,.call (.c (.fn 43)) [.t 107,.c (.int .i64 2)]⟩,⟨some 2,none,.mv (.c (.str []))⟩,⟨some 3,none,.mv (.t 108)⟩]) .ret))))⟩
theorem c123 : compF Tryz.prog [0, 2, 3, 4, 5, 15, 33, 45, 54, 73, 89, 95, 97] Tryz.f123 = some a123 := by kernel_rfl
def a124 : AFun := ⟨45,[.tmp 2],(.seq (.reg [2] [⟨some 2,none,.mv (.c (.str []))⟩]) (.seq (.seq (.reg [5,6,7] [⟨some 5,none,.call (.c (.fn 158)) []⟩,⟨some 6,none,.len .sl (.t 5)⟩,⟨some 7,none,.mv (.c (.int .i64 0))⟩]) (.block 0 (.loop (.seq (.reg [8] [⟨some 8,none,.bin .lss .other false (.t 7) (.t 6)⟩]) (.seq (.cond (.t 8) .skip (.exit 0)) (.seq (.block 1 (.seq (.reg [4] [⟨some 9,none,.iaddr none (.t 5) (.t 7)⟩,⟨some 10,none,.load none (.t 9)⟩,⟨some 4,none,.mv (.t 10)⟩]) (.seq (.any [33] [(⟨some 11,none,.mv (.t 0)⟩,true),(⟨some 12,none,.nilck (.t 11)⟩,true),(⟨some 13,none,.faddr 0 (.t 12)⟩,true),(⟨some 14,none,.load none (.t 13)⟩,true),(⟨some 15,none,.mv (.t 0)⟩,false),(⟨some 16,none,.nilck (.t 15)⟩,false),(⟨some 17,none,.faddr 1 (.t 16)⟩,false),(⟨some 18,none,.load none (.t 17)⟩,false),(⟨some 19,none,.mv (.t 0)⟩,false),(⟨some 20,none,.nilck (.t 19)⟩,false),(⟨some 21,none,.faddr 1 (.t 20)⟩,false),(⟨some 22,none,.load none (.t 21)⟩,false),(⟨some 23,none,.bin .add .other true (.t 22) (.c (.int .i64 2))⟩,false),(⟨some 24,none,.mv (.t 0)⟩,false),(⟨some 25,none,.nilck (.t 24)⟩,false),(⟨some 26,none,.faddr 0 (.t 25)⟩,false),(⟨some 27,none,.load none (.t 26)⟩,false),(⟨some 28,none,.len .sl (.t 27)⟩,false),(⟨some 29,none,.min [.t 23,.t 28]⟩,false),(⟨some 30,none,.slice (.sl none) (.t 14) (some (.t 18)) (some (.t 29)) none⟩,true),(⟨some 31,none,.conv .ofBytes (.t 30)⟩,true),(⟨some 32,none,.mv (.t 4)⟩,false),(⟨some 33,none,.call (.c (.fn 159)) [.t 31,.t 32]⟩,true)]) (.cond (.t 33) (.seq (.reg [] [⟨some 34,none,.mv (.t 0)⟩,⟨some 35,none,.nilck (.t 34)⟩,⟨some 36,none,.faddr 1 (.t 35)⟩,⟨some 37,none,.load none (.t 36)⟩,⟨some 38,none,.mv (.t 4)⟩,⟨some 39,none,.len .str (.t 38)⟩,⟨some 40,none,.bin .add .other false (.t 37) (.t 39)⟩,⟨some 41,none,.nilck (.t 34)⟩,⟨some 42,none,.faddr 1 (.t 41)⟩,⟨none,none,.store 1 (.t 42) (.t 40)⟩]) (.seq (.reg [2] [⟨some 43,none,.mv (.t 4)⟩,⟨some 2,none,.mv (.t 43)⟩]) .ret)) .skip)))) (.reg [7] [⟨some 44,none,.bin .add .other true (.t 7) (.c (.int .i64 1))⟩,⟨some 7,none,.mv (.t 44)⟩]))))))) (.seq (.reg [2] [⟨some 2,none,.mv (.c (.str []))⟩]) .ret)))⟩
theorem c124 : compF Tryz.prog [0, 2, 4, 5, 6, 7, 8, 33] Tryz.f124 = some a124 := by kernel_rfl
def a155 : AFun := ⟨19,[.tmp 4],(.seq (.reg [4] [⟨some 4,none,.mv (.c (.int .i64 0))⟩]) (.seq (.seq (.reg [7,8] [⟨some 6,none,.mv (.t 0)⟩,⟨some 7,none,.len .sl (.t 6)⟩,⟨some 8,none,.mv (.c (.int .i64 0))⟩]) (.block 0 (.loop (.seq (.reg [9] [⟨some 9,none,.bin .lss .other false (.t 8) (.t 7)⟩]) (.seq (.cond (.t 9) .skip (.exit 0)) (.seq (.block 1 (.seq (.reg [5] [⟨some 10,none,.mv (.t 8)⟩,⟨some 5,none,.mv (.t 10)⟩]) (.seq (.reg [16] [⟨some 11,none,.mv (.t 1)⟩,⟨some 12,none,.mv (.t 0)⟩,⟨some 13,none,.mv (.t 5)⟩,⟨some 14,none,.iaddr none (.t 12) (.t 13)⟩,⟨some 15,none,.load none (.t 14)⟩,⟨some 16,none,.bin .eql .other false (.t 11) (.t 15)⟩]) (.cond (.t 16) (.seq (.reg [4] [⟨some 17,none,.mv (.t 5)⟩,⟨some 4,none,.mv (.t 17)⟩]) .ret) .skip)))) (.reg [8] [⟨some 18,none,.bin .add .other true (.t 8) (.c (.int .i64 1))⟩,⟨some 8,none,.mv (.t 18)⟩]))))))) (.seq (.reg [4] [⟨some 4,none,.mv (.c (.int .i64 (-1)))⟩]) .ret)))⟩
theorem c155 : compF Tryz.prog [0, 1, 4, 5, 7, 8, 9, 16] Tryz.f155 = some a155 := by kernel_rfl
def a158 : AFun := ⟨2,[.tmp 0],(.seq (.reg [0] [⟨some 0,none,.mv (.c .snil)⟩]) (.seq (.reg [0] [⟨some 1,none,.mksl none [.c (.str [45,62]),.c (.str [61,61]),.c (.str [58,61]),.c (.str [40]),.c (.str [41]),.c (.str [123]),.c (.str [125]),.c (.str [61]),.c (.str [46]),.c (.str [44]),.c (.str [124]),.c (.str [92]),.c (.str [43]),.c (.str [45]),.c (.str [42]),.c (.str [47]),.c (.str [60]),.c (.str [94]),.c (.str [35]),.c (.str [33]),.c (.str [59])]⟩,⟨some 0,none,.mv (.t 1)⟩]) .ret))⟩
theorem c158 : compF Tryz.prog [0] Tryz.f158 = some a158 := by kernel_rfl
def a159 : AFun := ⟨8,[.tmp 4],(.seq (.reg [4] [⟨some 4,none,.mv (.c (.bool false))⟩]) (.seq (.reg [4] [⟨some 5,none,.mv (.t 0)⟩,⟨some 6,none,.mv (.t 1)⟩,⟨some 7,none,.call (.c (.fn 189)) [.t 5,.t 6]⟩,⟨some 4,none,.mv (.t 7)⟩]) .ret))⟩
theorem c159 : compF Tryz.prog [0, 1, 4] Tryz.f159 = some a159 := by kernel_rfl
def a171 : AFun := ⟨9,[.tmp 2],(.seq (.reg [2] [⟨some 2,none,.mv (.c (.bool false))⟩]) (.seq (.reg [2] [⟨some 3,none,.mv (.t 0)⟩,⟨some 4,none,.bin .geq .other true (.t 3) (.c (.int .u8 48))⟩,⟨some 5,none,.mv (.t 4)⟩,⟨some 6,some (5,true),.mv (.t 0)⟩,⟨some 7,some (5,true),.bin .leq .other true (.t 6) (.c (.int .u8 57))⟩,⟨some 8,none,.pick (.t 5) (.t 7) (.c (.bool false))⟩,⟨some 2,none,.mv (.t 8)⟩]) .ret))⟩
theorem c171 : compF Tryz.prog [0, 2] Tryz.f171 = some a171 := by kernel_rfl
def a173 : AFun := ⟨67,[.tmp 4,.tmp 5,.tmp 6],(.seq (.reg [4,5,6] [⟨some 4,none,.mv (.c (.str []))⟩,⟨some 5,none,.mv (.c (.int .i64 0))⟩,⟨some 6,none,.mv (.c (.int .i64 0))⟩]) (.seq (.reg [7] [⟨some 7,none,.mv (.c (.str []))⟩]) (.seq (.block 0 (.loop (.seq (.seq (.reg [12] [⟨some 9,none,.mv (.t 1)⟩,⟨some 10,none,.mv (.t 0)⟩,⟨some 11,none,.len .sl (.t 10)⟩,⟨some 12,none,.bin .lss .other false (.t 9) (.t 11)⟩]) (.cond (.t 12) .skip (.exit 0))) (.block 1 (.seq (.reg [8] [⟨some 13,none,.mv (.t 0)⟩,⟨some 14,none,.mv (.t 1)⟩,⟨some 15,none,.iaddr none (.t 13) (.t 14)⟩,⟨some 16,none,.load none (.t 15)⟩,⟨some 8,none,.mv (.t 16)⟩]) (.seq (.seq (.reg [18] [⟨some 17,none,.mv (.t 8)⟩,⟨some 18,none,.bin .eql .other true (.t 17) (.c (.int .u8 34))⟩]) (.cond (.t 18) (.seq (.reg [4,5,6] [⟨some 19,none,.mv (.t 7)⟩,⟨some 20,none,.mv (.t 1)⟩,⟨some 21,none,.bin .add .other true (.t 20) (.c (.int .i64 1))⟩,⟨some 4,none,.mv (.t 19)⟩,⟨some 5,none,.mv (.t 21)⟩,⟨some 6,none,.mv (.c (.int .i64 (-1)))⟩]) .ret) .skip)) (.seq (.seq (.reg [27] [⟨some 22,none,.mv (.t 8)⟩,⟨some 23,none,.bin .lss .other true (.t 22) (.c (.int .u8 32))⟩,⟨some 24,none,.mv (.t 23)⟩,⟨some 25,some (24,false),.mv (.t 8)⟩,⟨some 26,some (24,false),.bin .gtr .other true (.t 25) (.c (.int .u8 126))⟩,⟨some 27,none,.pick (.t 24) (.c (.bool true)) (.t 26)⟩]) (.cond (.t 27) (.seq (.reg [4,5,6] [⟨some 28,none,.mv (.t 1)⟩,⟨some 29,none,.mv (.t 1)⟩,⟨some 4,none,.mv (.c (.str []))⟩,⟨some 5,none,.mv (.t 28)⟩,⟨some 6,none,.mv (.t 29)⟩]) .ret) .skip)) (.seq (.seq (.reg [31] [⟨some 30,none,.mv (.t 8)⟩,⟨some 31,none,.bin .eql .other true (.t 30) (.c (.int .u8 92))⟩]) (.cond (.t 31) (.seq (.reg [1] [⟨some 32,none,.mv (.t 1)⟩,⟨some 33,none,.bin .add .other true (.t 32) (.c (.int .i64 1))⟩,⟨some 1,none,.mv (.t 33)⟩]) (.seq (.seq (.reg [37] [⟨some 34,none,.mv (.t 1)⟩,⟨some 35,none,.mv (.t 0)⟩,⟨some 36,none,.len .sl (.t 35)⟩,⟨some 37,none,.bin .eql .other false (.t 34) (.t 36)⟩]) (.cond (.t 37) (.seq (.reg [4,5,6] [⟨some 38,none,.mv (.t 1)⟩,⟨some 39,none,.mv (.t 1)⟩,⟨some 4,none,.mv (.c (.str []))⟩,⟨some 5,none,.mv (.t 38)⟩,⟨some 6,none,.mv (.t 39)⟩]) .ret) .skip)) (.seq (.reg [8] [⟨some 40,none,.mv (.t 0)⟩,⟨some 41,none,.mv (.t 1)⟩,⟨some 42,none,.iaddr none (.t 40) (.t 41)⟩,⟨some 43,none,.load none (.t 42)⟩,⟨some 8,none,.mv (.t 43)⟩]) (.seq (.seq (.reg [53] [⟨some 44,none,.mv (.t 8)⟩,⟨some 45,none,.bin .neq .other true (.t 44) (.c (.int .u8 110))⟩,⟨some 46,none,.mv (.t 45)⟩,⟨some 47,some (46,true),.mv (.t 8)⟩,⟨some 48,some (46,true),.bin .neq .other true (.t 47) (.c (.int .u8 34))⟩,⟨some 49,none,.pick (.t 46) (.t 48) (.c (.bool false))⟩,⟨some 50,none,.mv (.t 49)⟩,⟨some 51,some (50,true),.mv (.t 8)⟩,⟨some 52,some (50,true),.bin .neq .other true (.t 51) (.c (.int .u8 92))⟩,⟨some 53,none,.pick (.t 50) (.t 52) (.c (.bool false))⟩]) (.cond (.t 53) (.seq (.reg [4,5,6] [⟨some 54,none,.mv (.t 1)⟩,⟨some 55,none,.mv (.t 1)⟩,⟨some 4,none,.mv (.c (.str []))⟩,⟨some 5,none,.mv (.t 54)⟩,⟨some 6,none,.mv (.t 55)⟩]) .ret) .skip)) (.seq (.reg [57] [⟨some 56,none,.mv (.t 8)⟩,⟨some 57,none,.bin .eql .other true (.t 56) (.c (.int .u8 110))⟩]) (.cond (.t 57) (.reg [8] [⟨some 8,none,.mv (.c (.int .u8 10))⟩]) .skip)))))) .skip)) (.seq (.reg [7] [⟨some 58,none,.mv (.t 7)⟩,⟨some 59,none,.mv (.t 8)⟩,⟨some 60,none,.mksl none [.t 59]⟩,⟨some 61,none,.conv .ofBytes (.t 60)⟩,⟨some 62,none,.bin .add .other false (.t 58) (.t 61)⟩,⟨some 7,none,.mv (.t 62)⟩]) (.reg [1] [⟨some 63,none,.mv (.t 1)⟩,⟨some 64,none,.bin .add .other true (.t 63) (.c (.int .i64 1))⟩,⟨some 1,none,.mv (.t 64)⟩])))))))))) (.seq (.reg [4,5,6] [⟨some 65,none,.mv (.t 1)⟩,⟨some 66,none,.mv (.t 1)⟩,⟨some 4,none,.mv (.c (.str []))⟩,⟨some 5,none,.mv (.t 65)⟩,⟨some 6,none,.mv (.t 66)⟩]) .ret))))⟩
theorem c173 : compF Tryz.prog [0, 1, 4, 5, 6, 7, 8, 12, 18, 27, 31, 37, 53, 57] Tryz.f173 = some a173 := by kernel_rfl
def a189 : AFun := ⟨18,[.tmp 4],(.seq (.reg [4] [⟨some 4,none,.mv (.c (.bool false))⟩]) (.seq (.reg [4] [⟨some 5,none,.mv (.t 0)⟩,⟨some 6,none,.len .str (.t 5)⟩,⟨some 7,none,.mv (.t 1)⟩,⟨some 8,none,.len .str (.t 7)⟩,⟨some 9,none,.bin .geq .other false (.t 6) (.t 8)⟩,⟨some 10,none,.mv (.t 9)⟩,⟨some 11,some (10,true),.mv (.t 0)⟩,⟨some 12,some (10,true),.mv (.t 1)⟩,⟨some 13,some (10,true),.len .str (.t 12)⟩,⟨some 14,some (10,true),.slice .str (.t 11) none (some (.t 13)) none⟩,⟨some 15,some (10,true),.mv (.t 1)⟩,⟨some 16,some (10,true),.bin .eql .other false (.t 14) (.t 15)⟩,⟨some 17,none,.pick (.t 10) (.t 16) (.c (.bool false))⟩,⟨some 4,none,.mv (.t 17)⟩]) .ret))⟩
theorem c189 : compF Tryz.prog [0, 1, 4] Tryz.f189 = some a189 := by kernel_rfl
set_option linter.unusedVariables false
set_option linter.unusedSimpArgs false
def lowB (c : UInt8) : Bool := decide (97 ≤ c.toNat) && decide (c.toNat ≤ 122)
def uppB (c : UInt8) : Bool := decide (65 ≤ c.toNat) && decide (c.toNat ≤ 90)
def digB (c : UInt8) : Bool := decide (48 ≤ c.toNat) && decide (c.toNat ≤ 57)
def plaB (c : UInt8) : Bool := decide (32 ≤ c.toNat) && decide (c.toNat ≤ 126)
def blaB (c : UInt8) : Bool := decide (c.toNat = 32) || (decide (c.toNat = 10) || decide (c.toNat = 9))
def vB (c : UInt8) : D := .v (.int .u8 c.toNat)
theorem k_Lower {c : UInt8} {σ : Sg} : ACalls Tryz.prog 115 [vB c] σ fun r σ' => r = .v (.bool (lowB c)) ∧ σ' = σ := by
 unfold vB
 refine acalls_fit Tryz.func115 (by kernel_rfl) c115 rfl (by simp [a115]) fun hf => ?_
 clear hf
 simp -implicitDefEqProofs (disch := omega) [-getElem?_pos, a115]
 repeat' (first
  | (refine And.intro (by omega) ?_)
  | (refine Br.mk (fun hb => ?_) (fun hb => ?_) <;> simp -implicitDefEqProofs (disch := omega) [-getElem?_pos, hb]))
 all_goals exact .fin _ ⟨by refine congrArg (fun b => D.v (V.bool b)) ?_; rw [Bool.eq_iff_iff]; simp [lowB]; try omega, rfl⟩ (.refl _)
theorem k_Upper {c : UInt8} {σ : Sg} : ACalls Tryz.prog 120 [vB c] σ fun r σ' => r = .v (.bool (uppB c)) ∧ σ' = σ := by
 unfold vB
 refine acalls_fit Tryz.func120 (by kernel_rfl) c120 rfl (by simp [a120]) fun hf => ?_
 clear hf
 simp -implicitDefEqProofs (disch := omega) [-getElem?_pos, a120]
 repeat' (first
  | (refine And.intro (by omega) ?_)
  | (refine Br.mk (fun hb => ?_) (fun hb => ?_) <;> simp -implicitDefEqProofs (disch := omega) [-getElem?_pos, hb]))
 all_goals exact .fin _ ⟨by refine congrArg (fun b => D.v (V.bool b)) ?_; rw [Bool.eq_iff_iff]; simp [uppB]; try omega, rfl⟩ (.refl _)
theorem k_Digit {c : UInt8} {σ : Sg} : ACalls Tryz.prog 117 [vB c] σ fun r σ' => r = .v (.bool (digB c)) ∧ σ' = σ := by
 unfold vB
 refine acalls_fit Tryz.func117 (by kernel_rfl) c117 rfl (by simp [a117]) fun hf => ?_
 clear hf
 simp -implicitDefEqProofs (disch := omega) [-getElem?_pos, a117]
 repeat' (first
  | (refine And.intro (by omega) ?_)
  | (refine Br.mk (fun hb => ?_) (fun hb => ?_) <;> simp -implicitDefEqProofs (disch := omega) [-getElem?_pos, hb]))
 all_goals exact .fin _ ⟨by refine congrArg (fun b => D.v (V.bool b)) ?_; rw [Bool.eq_iff_iff]; simp [digB]; try omega, rfl⟩ (.refl _)
theorem k_Plain {c : UInt8} {σ : Sg} : ACalls Tryz.prog 89 [vB c] σ fun r σ' => r = .v (.bool (plaB c)) ∧ σ' = σ := by
 unfold vB
 refine acalls_fit Tryz.func89 (by kernel_rfl) c89 rfl (by simp [a89]) fun hf => ?_
 clear hf
 simp -implicitDefEqProofs (disch := omega) [-getElem?_pos, a89]
 repeat' (first
  | (refine And.intro (by omega) ?_)
  | (refine Br.mk (fun hb => ?_) (fun hb => ?_) <;> simp -implicitDefEqProofs (disch := omega) [-getElem?_pos, hb]))
 all_goals exact .fin _ ⟨by refine congrArg (fun b => D.v (V.bool b)) ?_; rw [Bool.eq_iff_iff]; simp [plaB]; try omega, rfl⟩ (.refl _)
theorem k_Blank {c : UInt8} {σ : Sg} : ACalls Tryz.prog 81 [vB c] σ fun r σ' => r = .v (.bool (blaB c)) ∧ σ' = σ := by
 unfold vB
 refine acalls_fit Tryz.func81 (by kernel_rfl) c81 rfl (by simp [a81]) fun hf => ?_
 clear hf
 simp -implicitDefEqProofs (disch := omega) [-getElem?_pos, a81]
 repeat' (first
  | (refine And.intro (by omega) ?_)
  | (refine Br.mk (fun hb => ?_) (fun hb => ?_) <;> simp -implicitDefEqProofs (disch := omega) [-getElem?_pos, hb]))
 all_goals exact .fin _ ⟨by refine congrArg (fun b => D.v (V.bool b)) ?_; rw [Bool.eq_iff_iff]; simp [blaB]; try omega, rfl⟩ (.refl _)
theorem k_Next1 {c : UInt8} {σ : Sg} : ACalls Tryz.prog 116 [vB c] σ fun r σ' => r = .v (.bool (lowB c || digB c)) ∧ σ' = σ := by
 have c1 := fun σ => k_Lower (c := c) (σ := σ)
 have c2 := fun σ => k_Digit (c := c) (σ := σ)
 unfold vB at c1 c2 ⊢
 refine acalls_fit Tryz.func116 (by kernel_rfl) c116 rfl (by simp [a116]) fun hf => ?_
 clear hf
 simp -implicitDefEqProofs (disch := omega) [-getElem?_pos, a116]
 refine (c1 _).then fun r hr => ?_
 subst hr
 cases h1 : lowB c
 ·simp -implicitDefEqProofs (disch := omega) [-getElem?_pos]
  refine (c2 _).then fun r hr => ?_
  subst hr
  simp -implicitDefEqProofs (disch := omega) [-getElem?_pos]
  exact .fin _ ⟨by simp, rfl⟩ (.refl _)
 ·simp -implicitDefEqProofs (disch := omega) [-getElem?_pos]
  exact .fin _ ⟨by simp, rfl⟩ (.refl _)
theorem k_Next2 {c : UInt8} {σ : Sg} : ACalls Tryz.prog 121 [vB c] σ fun r σ' => r = .v (.bool (lowB c || (uppB c || digB c))) ∧ σ' = σ := by
 have c1 := fun σ => k_Lower (c := c) (σ := σ)
 have c2 := fun σ => k_Upper (c := c) (σ := σ)
 have c3 := fun σ => k_Digit (c := c) (σ := σ)
 unfold vB at c1 c2 c3 ⊢
 refine acalls_fit Tryz.func121 (by kernel_rfl) c121 rfl (by simp [a121]) fun hf => ?_
 clear hf
 simp -implicitDefEqProofs (disch := omega) [-getElem?_pos, a121]
 refine (c1 _).then fun r hr => ?_
 subst hr
 cases h1 : lowB c
 ·simp -implicitDefEqProofs (disch := omega) [-getElem?_pos]
  refine (c2 _).then fun r hr => ?_
  subst hr
  cases h2 : uppB c
  ·simp -implicitDefEqProofs (disch := omega) [-getElem?_pos]
   refine (c3 _).then fun r hr => ?_
   subst hr
   simp -implicitDefEqProofs (disch := omega) [-getElem?_pos]
   exact .fin _ ⟨by simp, rfl⟩ (.refl _)
  ·simp -implicitDefEqProofs (disch := omega) [-getElem?_pos]
   exact .fin _ ⟨by simp, rfl⟩ (.refl _)
 ·simp -implicitDefEqProofs (disch := omega) [-getElem?_pos]
  exact .fin _ ⟨by simp, rfl⟩ (.refl _)
abbrev Str := List UInt8
@[reducible] def vS (l : List Str) : V := .sl none false (l.map .str)
@[reducible] def vBs (b : Str) : V := .sl none false (bytesV b)
theorem k_HasP2 {a b : Str} {σ : Sg} : ACalls Tryz.prog 189 [.v (.str a), .v (.str b)] σ fun r σ' => r = .v (.bool (decide (a.take b.length = b))) ∧ σ' = σ := by
 refine acalls_fit Tryz.func189 (by kernel_rfl) c189 rfl (by simp [a189]) fun hf => ?_
 simp at hf
 simp -implicitDefEqProofs (disch := omega) [-getElem?_pos, a189]
 refine .mk (fun h => ?_) fun h => ?_
 ·simp -implicitDefEqProofs (disch := omega) [-getElem?_pos]
  exact ⟨by omega, .fin _ ⟨by refine congrArg (fun b => D.v (V.bool b)) ?_; rw [Bool.eq_iff_iff]; simp, rfl⟩ (.refl _)⟩
 ·simp -implicitDefEqProofs (disch := omega) [-getElem?_pos]
  refine .fin _ ⟨?_, rfl⟩ (.refl _)
  rw [decide_eq_false]
  intro he
  have := congrArg List.length he
  simp at this
  omega
theorem k_HasP {a b : Str} {σ : Sg} : ACalls Tryz.prog 159 [.v (.str a), .v (.str b)] σ fun r σ' => r = .v (.bool (decide (a.take b.length = b))) ∧ σ' = σ := by
 refine acalls_fit Tryz.func159 (by kernel_rfl) c159 rfl (by simp [a159]) fun hf => ?_
 clear hf
 simp -implicitDefEqProofs (disch := omega) [-getElem?_pos, a159]
 refine k_HasP2.then fun r hr => ?_
 subst hr
 simp -implicitDefEqProofs (disch := omega) [-getElem?_pos]
 exact .fin _ ⟨rfl, rfl⟩ (.refl _)
def spanE (q : UInt8 → Bool) (b : Str) (i : Nat) : Nat := i + ((b.drop i).takeWhile q).length
theorem spanE_ge (q : UInt8 → Bool) (b : Str) (i : Nat) : i ≤ spanE q b i := by unfold spanE; omega
theorem spanE_le {q : UInt8 → Bool} {b : Str} {i : Nat} (h : i ≤ b.length) : spanE q b i ≤ b.length := by
 unfold spanE
 have h1 : ((b.drop i).takeWhile q).length ≤ (b.drop i).length := (List.takeWhile_prefix q).length_le
 rw [List.length_drop] at h1
 omega
theorem drop_at {b : Str} {i : Nat} {c : UInt8} (h : b[i]? = some c) : b.drop i = c :: b.drop (i + 1) := by
 obtain ⟨hl, rfl⟩ := List.getElem?_eq_some_iff.1 h
 exact List.drop_eq_getElem_cons hl
theorem spanE_hit {q : UInt8 → Bool} {b : Str} {i : Nat} {c : UInt8} (h : b[i]? = some c) (hq : q c = true) : spanE q b i = spanE q b (i + 1) := by
 unfold spanE
 rw [drop_at h, List.takeWhile_cons_of_pos hq]
 simp
 omega
theorem spanE_miss {q : UInt8 → Bool} {b : Str} {i : Nat} {c : UInt8} (h : b[i]? = some c) (hq : q c = false) : spanE q b i = i := by
 unfold spanE
 rw [drop_at h, List.takeWhile_cons_of_neg (by simp [hq])]
 rfl
theorem spanE_end {q : UInt8 → Bool} {b : Str} {i : Nat} (h : b.length ≤ i) : spanE q b i = i := by
 unfold spanE
 rw [List.drop_eq_nil_of_le h]
 rfl
def passS (q : UInt8 → Bool) (b : Str) (i : Nat) : Str := (b.drop i).takeWhile q
theorem passS_eq {q : UInt8 → Bool} {b : Str} {i : Nat} : (b.take (spanE q b i)).drop i = passS q b i := by
 unfold passS spanE
 rw [List.drop_take, Nat.add_sub_cancel_left]
 generalize b.drop i = l
 induction l with
 | nil => rfl
 | cons x l ih =>
  cases hx : q x with
  | true => rw [List.takeWhile_cons_of_pos hx, List.length_cons, List.take_succ_cons, ih]
  | false => rw [List.takeWhile_cons_of_neg (by simp [hx])]; rfl
@[reducible] def cut (b : Str) (i : Nat) : Ob := .cells [.v (vBs b), .v (.int .i64 i)]
theorem k_Pass {fd : D} {q : UInt8 → Bool} {b : Str} {i p : Nat} {σ : Sg} (hp : σ.objs[p]? = some (cut b i)) (hi : i ≤ b.length) (hb : b.length ≤ 1048576) (hfd : ∀ c (τ : Sg), WCall Tryz.prog fd [vB c] τ fun r σ' => r = .v (.bool (q c)) ∧ σ' = τ) (hl : ∀ n k, fd.low n k) :
  ACalls Tryz.prog 80 [.ptr p 0, fd] σ fun r σ' => r = .v (.str (passS q b i)) ∧ σ' = ⟨σ.objs.set p (cut b (spanE q b i)), σ.toks⟩ := by
 have hpl := (List.getElem?_eq_some_iff.1 hp).1
 have hset : σ.objs.set p (cut b i) = σ.objs := by
  apply List.ext_getElem?
  intro j
  by_cases e : p = j
  ·subst e
   rw [List.getElem?_set_self hpl]
   exact hp.symm
  ·rw [List.getElem?_set_ne e]
 unfold vB at hfd
 refine acalls_fit Tryz.func80 (by kernel_rfl) c80 rfl (by simp [a80]) fun hf => ?_
 clear hf
 simp -implicitDefEqProofs (disch := omega) [-getElem?_pos, a80, hp]
 refine W_loop (α := Nat) i (fun k => b.length - k) (fun k => ⟨[(0, .ptr p 0), (1, fd), (5, .v (.int .i64 i))], ⟨σ.objs.set p (cut b k), σ.toks⟩⟩) (fun k => k ≤ b.length ∧ i ≤ k ∧ spanE q b i = spanE q b k) (.eq2 (by rw [hset]) (by simp)) ⟨hi, by omega, rfl⟩ fun k ⟨hk, hik, he⟩ => ?_
 simp -implicitDefEqProofs (disch := omega) [-getElem?_pos, hpl]
 refine .mk (fun h => ?_) fun h => ?_
 ·simp -implicitDefEqProofs (disch := omega) [-getElem?_pos, hpl]
  refine ⟨by omega, fun c hc => ?_⟩
  refine (hfd c _).then fun r hr => ?_
  subst hr
  cases hq : q c with
  | true =>
   simp -implicitDefEqProofs (disch := omega) [-getElem?_pos, hpl]
   exact ⟨k + 1, ⟨by omega, by omega, by rw [he, spanE_hit hc hq]⟩, by show b.length - (k + 1) < b.length - k; omega, .eq2 (by simp [cut]) (by simp)⟩
  | false =>
   have he2 := he.trans (spanE_miss hc hq)
   have hps := passS_eq (q := q) (b := b) (i := i)
   rw [he2] at hps ⊢
   simp -implicitDefEqProofs (disch := omega) [-getElem?_pos, hpl]
   exact ⟨hik, hk, .finS _ ⟨σ.objs.set p (cut b k), σ.toks⟩ ⟨by rw [hps], rfl⟩ (.refl _) (low_set (by simp [cut])) (by simp) (by simp) (by simp) (by simp) (by simp)⟩
 ·have he2 := he.trans (spanE_end (by omega))
  have hps := passS_eq (q := q) (b := b) (i := i)
  rw [he2] at hps ⊢
  simp -implicitDefEqProofs (disch := omega) [-getElem?_pos, hpl]
  exact ⟨hik, hk, .finS _ ⟨σ.objs.set p (cut b k), σ.toks⟩ ⟨by rw [hps], rfl⟩ (.refl _) (low_set (by simp [cut])) (by simp) (by simp) (by simp) (by simp) (by simp)⟩
theorem drop_cons {α : Type} {l : List α} {i : Nat} {x : α} (h : l[i]? = some x) : l.drop i = x :: l.drop (i + 1) := by
 obtain ⟨hlt, he⟩ := List.getElem?_eq_some_iff.1 h
 rw [List.drop_eq_getElem_cons hlt, he]
theorem k_IndexStr {l : List Str} {s : Str} {σ : Sg} : ACalls Tryz.prog 155 [.v (vS l), .v (.str s)] σ fun r σ' => (∃ i : Int, r = .v (.int .i64 i) ∧ (0 ≤ i ↔ s ∈ l)) ∧ σ' = σ := by
 refine acalls_fit Tryz.func155 (by kernel_rfl) c155 rfl (by simp [a155]) fun hf => ?_
 simp at hf
 simp -implicitDefEqProofs (disch := omega) [-getElem?_pos, a155]
 refine W_loop (α := Nat) 0 (fun i => l.length - i) (fun i => ⟨[(0, .v (vS l)), (1, .v (.str s)), (7, .v (.int .i64 l.length)), (8, .v (.int .i64 i))], σ⟩) (fun i => i ≤ l.length ∧ (s ∈ l ↔ s ∈ l.drop i)) (.eq (by simp)) ⟨by simp, by simp⟩ fun i ⟨hi, he⟩ => ?_
 simp -implicitDefEqProofs (disch := omega) [-getElem?_pos]
 refine .mk (fun h => ?_) fun h => ?_
 ·simp -implicitDefEqProofs (disch := omega) [-getElem?_pos]
  refine ⟨by omega, fun x hx => ?_⟩
  rw [drop_cons hx] at he
  refine .mk (fun hq => ?_) fun hq => ?_
  ·simp -implicitDefEqProofs (disch := omega) [-getElem?_pos]
   exact .fin _ ⟨⟨i, rfl, by rw [he, hq]; simp⟩, rfl⟩ (.refl _)
  ·simp -implicitDefEqProofs (disch := omega) [-getElem?_pos]
   refine ⟨i + 1, ⟨by omega, ?_⟩, by show l.length - (i + 1) < l.length - i; omega, .eq (by simp)⟩
   rw [he]
   simp [hq]
 ·simp -implicitDefEqProofs (disch := omega) [-getElem?_pos]
  rw [List.drop_eq_nil_of_le (by omega)] at he
  exact .fin _ ⟨⟨-1, rfl, by rw [he]; simp⟩, rfl⟩ (.refl _)
theorem k_ContainsStr {l : List Str} {s : Str} {σ : Sg} : ACalls Tryz.prog 118 [.v (vS l), .v (.str s)] σ fun r σ' => r = .v (.bool (decide (s ∈ l))) ∧ σ' = σ := by
 refine acalls_fit Tryz.func118 (by kernel_rfl) c118 rfl (by simp [a118]) fun hf => ?_
 clear hf
 simp -implicitDefEqProofs (disch := omega) [-getElem?_pos, a118]
 refine k_IndexStr.then fun r hr => ?_
 obtain ⟨i, rfl, hi⟩ := hr
 simp -implicitDefEqProofs (disch := omega) [-getElem?_pos]
 exact .fin _ ⟨by simp [hi], rfl⟩ (.refl _)
def wordsL : List Str := [[102, 110], [108, 101, 116], [114, 101, 99], [105, 110], [109, 97, 116, 99, 104], [119, 105, 116, 104], [101, 110, 100], [105, 102], [116, 104, 101, 110], [101, 108, 115, 101], [114, 101, 102], [112, 114, 105, 110, 116], [115, 104, 111, 119], [114, 101, 97, 100]]
def onesL : List Str := [[40], [41], [123], [125], [61], [46], [44], [124], [92], [43], [45], [42], [47], [60], [94], [35], [33], [59]]
def signsL : List Str := [[45, 62], [61, 61], [58, 61]] ++ onesL
theorem k_Words {σ : Sg} : ACalls Tryz.prog 119 [] σ fun r σ' => r = .v (vS wordsL) ∧ σ' = σ := by
 refine acalls_fit Tryz.func119 (by kernel_rfl) c119 rfl (by simp [a119]) fun hf => ?_
 clear hf
 simp -implicitDefEqProofs (disch := omega) [-getElem?_pos, a119]
 exact .fin _ ⟨rfl, rfl⟩ VLe.lax.d
theorem k_Signs {σ : Sg} : ACalls Tryz.prog 158 [] σ fun r σ' => r = .v (vS signsL) ∧ σ' = σ := by
 refine acalls_fit Tryz.func158 (by kernel_rfl) c158 rfl (by simp [a158]) fun hf => ?_
 clear hf
 simp -implicitDefEqProofs (disch := omega) [-getElem?_pos, a158]
 exact .fin _ ⟨rfl, rfl⟩ VLe.lax.d
def signF (b : Str) (i : Nat) (l : List Str) : Str := (l.find? fun s => decide (((b.drop i).take 2).take s.length = s)).getD []
theorem k_Sign {b : Str} {i p : Nat} {σ : Sg} (hp : σ.objs[p]? = some (cut b i)) (hi : i ≤ b.length) (hb : b.length ≤ 1048576) :
  ACalls Tryz.prog 124 [.ptr p 0] σ fun r σ' => r = .v (.str (signF b i signsL)) ∧ σ' = ⟨σ.objs.set p (cut b (i + (signF b i signsL).length)), σ.toks⟩ := by
 have hpl := (List.getElem?_eq_some_iff.1 hp).1
 have hset : σ.objs.set p (cut b i) = σ.objs := by
  apply List.ext_getElem?
  intro j
  by_cases e : p = j
  ·subst e
   rw [List.getElem?_set_self hpl]
   exact hp.symm
  ·rw [List.getElem?_set_ne e]
 have h2 : ∀ s ∈ signsL, s.length ≤ 2 := by decide
 have h20 : signsL.length = 21 := rfl
 have htwo : List.drop i (List.take (if (b.length : Int) < (i : Int) + 2 then (b.length : Int) else (i : Int) + 2).toNat b) = (b.drop i).take 2 := by
  split
  ·rw [Int.toNat_natCast, List.take_length, List.take_of_length_le]
   rw [List.length_drop]
   omega
  ·rw [show ((i : Int) + 2).toNat = i + 2 by omega, List.drop_take, Nat.add_sub_cancel_left]
 refine acalls_fit Tryz.func124 (by kernel_rfl) c124 rfl (by simp [a124]) fun hf => ?_
 clear hf
 simp -implicitDefEqProofs (disch := omega) [-getElem?_pos, a124]
 refine k_Signs.then fun r hr => ?_
 subst hr
 simp -implicitDefEqProofs (disch := omega) [-getElem?_pos]
 refine W_loop (α := Nat) 0 (fun k => 21 - k) (fun k => ⟨[(0, .ptr p 0), (2, .v (.str [])), (5, .v (vS signsL)), (6, .v (.int .i64 signsL.length)), (7, .v (.int .i64 k))], σ⟩) (fun k => k ≤ 21 ∧ signF b i signsL = signF b i (signsL.drop k)) (.eq (by simp)) ⟨by omega, rfl⟩ fun k ⟨hk, he⟩ => ?_
 simp -implicitDefEqProofs (disch := omega) [-getElem?_pos]
 refine .mk (fun h => ?_) fun h => ?_
 ·simp -implicitDefEqProofs (disch := omega) [-getElem?_pos]
  refine ⟨by omega, fun x hx => ?_⟩
  have hx2 := h2 x (List.mem_of_getElem? hx)
  rw [drop_cons hx] at he
  simp -implicitDefEqProofs (disch := omega) [-getElem?_pos, hp, htwo]
  refine ⟨by split <;> omega, by split <;> omega, ?_⟩
  refine k_HasP.then fun r hr => ?_
  subst hr
  by_cases hq : ((b.drop i).take 2).take x.length = x
  ·have he2 : signF b i signsL = x := by rw [he]; simp [signF, hq]
   rw [he2]
   simp -implicitDefEqProofs (disch := omega) [-getElem?_pos, hp, hq, hpl]
   refine .finS _ ⟨σ.objs.set p (cut b (i + x.length)), σ.toks⟩ ⟨rfl, rfl⟩ (.refl _) (low_set (by simp [cut])) (by simp) (by simp [cut]) (by simp) (by simp) (by simp)
  ·simp -implicitDefEqProofs (disch := omega) [-getElem?_pos, hp, hq, hpl]
   exact ⟨k + 1, ⟨by omega, by rw [he]; simp [signF, hq]⟩, by show 21 - (k + 1) < 21 - k; omega, .eq (by simp)⟩
 ·have he2 : signF b i signsL = [] := by rw [he, List.drop_eq_nil_of_le (by omega)]; rfl
  rw [he2]
  simp -implicitDefEqProofs (disch := omega) [-getElem?_pos]
  exact .fin _ ⟨rfl, by rw [hset]⟩ (.refl _)
end Go.Proofs.YtpdeaekmgljeaaaGreatDoor
