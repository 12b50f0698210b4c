/-
  The bodies of functions, in the small language: printed by program, proved by the kernel's computing. (Own work.)
-/
import Derived.Test.YtpdeaekmgljeaaaGreatDoorQ04
import Derived.Test.YtpdeaekmgljeaaaGreatDoorChecked
import Derived.Test.YtpdeaekmgljeaaaGreatDoorRows
import Derived.WideKeyArgs
import Derived.WalkKit
import Derived.ProofKit
import Derived.OpenShut
import Derived.JoinedCond
import Derived.Shelf.Strconv.ParseIntPublic10
import Derived.Shelf.Strconv.Itoa3
namespace Go.Proofs.YtpdeaekmgljeaaaGreatDoor
open Go Go.Abs
def a5 : AFun := ⟨130,[.tmp 2],(.seq (.reg [1,2] [⟨some 1,none,.box (.t 0)⟩,⟨some 2,none,.mv (.c (.bool false))⟩]) (.seq (.reg [3] [⟨some 12,none,.call (.c (.fn 22)) []⟩,⟨some 3,none,.mv (.t 12)⟩]) (.seq (.reg [4] [⟨some 13,none,.load (some 8) (.t 1)⟩,⟨some 14,none,.call (.c (.fn 9)) [.t 13]⟩,⟨some 4,none,.mv (.t 14)⟩]) (.seq (.seq (.reg [21] [⟨some 15,none,.mv (.t 4)⟩,⟨some 16,none,.un .not (.t 15)⟩,⟨some 17,none,.mv (.t 16)⟩,⟨some 18,some (17,false),.load (some 8) (.t 1)⟩,⟨some 19,some (17,false),.call (.c (.fn 23)) [.t 18]⟩,⟨some 20,some (17,false),.un .not (.t 19)⟩,⟨some 21,none,.pick (.t 17) (.c (.bool true)) (.t 20)⟩]) (.cond (.t 21) (.seq (.reg [2] [⟨some 22,none,.mv (.t 3)⟩,⟨some 2,none,.mv (.t 22)⟩]) .ret) .skip)) (.seq (.reg [5] [⟨some 23,none,.load (some 8) (.t 1)⟩,⟨some 24,none,.call (.c (.fn 24)) [.t 23]⟩,⟨some 5,none,.mv (.t 24)⟩]) (.seq (.seq (.reg [6] [⟨some 6,none,.mv (.c (.int .i64 0))⟩]) (.block 0 (.loop (.seq (.seq (.reg [29] [⟨some 25,none,.mv (.t 6)⟩,⟨some 26,none,.faddr 7 (.t 1)⟩,⟨some 27,none,.load none (.t 26)⟩,⟨some 28,none,.len .sl (.t 27)⟩,⟨some 29,none,.bin .lss .other false (.t 25) (.t 28)⟩]) (.cond (.t 29) .skip (.exit 0))) (.seq (.block 1 (.seq (.seq (.any [60] [(⟨some 32,none,.faddr 7 (.t 1)⟩,true),(⟨some 33,none,.load none (.t 32)⟩,true),(⟨some 34,none,.mv (.t 6)⟩,false),(⟨some 35,none,.iaddr (some 8) (.t 33) (.t 34)⟩,true),(⟨some 36,none,.load (some 8) (.t 35)⟩,true),(⟨some 37,none,.call (.c (.fn 23)) [.t 36]⟩,true),(⟨some 38,none,.un .not (.t 37)⟩,true),(⟨some 39,none,.mv (.t 38)⟩,true),(⟨some 40,some (39,false),.faddr 7 (.t 1)⟩,true),(⟨some 41,some (39,false),.load none (.t 40)⟩,true),(⟨some 42,some (39,false),.mv (.t 6)⟩,false),(⟨some 43,some (39,false),.iaddr (some 8) (.t 41) (.t 42)⟩,true),(⟨some 44,some (39,false),.load (some 8) (.t 43)⟩,true),(⟨some 46,some (39,false),.load (some 8) (.t 1)⟩,false),(⟨some 45,some (39,false),.call (.c (.fn 25)) [.t 44]⟩,false),(⟨some 47,some (39,false),.call (.c (.fn 25)) [.t 46]⟩,true),(⟨some 48,some (39,false),.bin .geq .other false (.t 45) (.t 47)⟩,true),(⟨some 49,none,.pick (.t 39) (.c (.bool true)) (.t 48)⟩,true),(⟨some 50,none,.mv (.t 49)⟩,true),(⟨some 51,some (50,false),.faddr 7 (.t 1)⟩,true),(⟨some 52,some (50,false),.load none (.t 51)⟩,true),(⟨some 53,some (50,false),.mv (.t 6)⟩,false),(⟨some 54,some (50,false),.iaddr (some 8) (.t 52) (.t 53)⟩,true),(⟨some 55,some (50,false),.load (some 8) (.t 54)⟩,true),(⟨some 57,some (50,false),.load (some 8) (.t 1)⟩,false),(⟨some 56,some (50,false),.call (.c (.fn 26)) [.t 55]⟩,false),(⟨some 58,some (50,false),.call (.c (.fn 26)) [.t 57]⟩,true),(⟨some 59,some (50,false),.bin .geq .other false (.t 56) (.t 58)⟩,true),(⟨some 60,none,.pick (.t 50) (.c (.bool true)) (.t 59)⟩,true)]) (.cond (.t 60) (.seq (.reg [2] [⟨some 2,none,.mv (.c (.bool false))⟩]) .ret) .skip)) (.seq (.reg [7] [⟨some 61,none,.faddr 7 (.t 1)⟩,⟨some 62,none,.load none (.t 61)⟩,⟨some 63,none,.mv (.t 6)⟩,⟨some 64,none,.iaddr (some 8) (.t 62) (.t 63)⟩,⟨some 65,none,.load (some 8) (.t 64)⟩,⟨some 66,none,.call (.c (.fn 24)) [.t 65]⟩,⟨some 7,none,.mv (.t 66)⟩]) (.seq (.reg [8] [⟨some 8,none,.mv (.c (.int .i64 0))⟩]) (.block 2 (.loop (.seq (.seq (.reg [70] [⟨some 67,none,.mv (.t 8)⟩,⟨some 68,none,.mv (.t 7)⟩,⟨some 69,none,.len .sl (.t 68)⟩,⟨some 70,none,.bin .lss .other false (.t 67) (.t 69)⟩]) (.cond (.t 70) .skip (.exit 2))) (.seq (.block 3 (.seq (.any [9] [(⟨some 73,none,.mv (.t 7)⟩,true),(⟨some 74,none,.mv (.t 8)⟩,false),(⟨some 75,none,.iaddr none (.t 73) (.t 74)⟩,true),(⟨some 76,none,.load none (.t 75)⟩,true),(⟨some 77,none,.faddr 3 (.t 1)⟩,false),(⟨some 78,none,.load none (.t 77)⟩,false),(⟨some 79,none,.bin .eql .other false (.t 76) (.t 78)⟩,true),(⟨some 80,none,.mv (.t 79)⟩,true),(⟨some 81,some (80,false),.mv (.t 7)⟩,true),(⟨some 82,some (80,false),.mv (.t 8)⟩,false),(⟨some 83,some (80,false),.iaddr none (.t 81) (.t 82)⟩,true),(⟨some 84,some (80,false),.load none (.t 83)⟩,true),(⟨some 85,some (80,false),.faddr 4 (.t 1)⟩,false),(⟨some 86,some (80,false),.load none (.t 85)⟩,false),(⟨some 87,some (80,false),.bin .eql .other false (.t 84) (.t 86)⟩,true),(⟨some 88,none,.pick (.t 80) (.c (.bool true)) (.t 87)⟩,true),(⟨some 9,none,.mv (.t 88)⟩,true)]) (.seq (.seq (.reg [10] [⟨some 10,none,.mv (.c (.int .i64 0))⟩]) (.block 4 (.loop (.seq (.seq (.reg [92] [⟨some 89,none,.mv (.t 10)⟩,⟨some 90,none,.mv (.t 5)⟩,⟨some 91,none,.len .sl (.t 90)⟩,⟨some 92,none,.bin .lss .other false (.t 89) (.t 91)⟩]) (.cond (.t 92) .skip (.exit 4))) (.seq (.block 5 (.any [9] [(⟨some 95,none,.mv (.t 9)⟩,true),(⟨some 96,none,.mv (.t 95)⟩,true),(⟨some 97,some (96,false),.mv (.t 5)⟩,true),(⟨some 98,some (96,false),.mv (.t 10)⟩,false),(⟨some 99,some (96,false),.iaddr none (.t 97) (.t 98)⟩,true),(⟨some 100,some (96,false),.load none (.t 99)⟩,true),(⟨some 101,some (96,false),.mv (.t 7)⟩,false),(⟨some 102,some (96,false),.mv (.t 8)⟩,false),(⟨some 103,some (96,false),.iaddr none (.t 101) (.t 102)⟩,false),(⟨some 104,some (96,false),.load none (.t 103)⟩,false),(⟨some 105,some (96,false),.bin .eql .other false (.t 100) (.t 104)⟩,true),(⟨some 106,none,.pick (.t 96) (.c (.bool true)) (.t 105)⟩,true),(⟨some 9,none,.mv (.t 106)⟩,true)])) (.reg [10] [⟨some 93,none,.mv (.t 10)⟩,⟨some 94,none,.bin .add .other true (.t 93) (.c (.int .i64 1))⟩,⟨some 10,none,.mv (.t 94)⟩])))))) (.seq (.seq (.reg [11] [⟨some 11,none,.mv (.c (.int .i64 0))⟩]) (.block 6 (.loop (.seq (.seq (.reg [111] [⟨some 107,none,.mv (.t 11)⟩,⟨some 108,none,.faddr 6 (.t 1)⟩,⟨some 109,none,.load none (.t 108)⟩,⟨some 110,none,.len .sl (.t 109)⟩,⟨some 111,none,.bin .lss .other false (.t 107) (.t 110)⟩]) (.cond (.t 111) .skip (.exit 6))) (.seq (.block 7 (.any [9] [(⟨some 114,none,.mv (.t 9)⟩,true),(⟨some 115,none,.mv (.t 114)⟩,true),(⟨some 116,some (115,false),.faddr 6 (.t 1)⟩,true),(⟨some 117,some (115,false),.load none (.t 116)⟩,true),(⟨some 118,some (115,false),.mv (.t 11)⟩,false),(⟨some 119,some (115,false),.iaddr none (.t 117) (.t 118)⟩,true),(⟨some 120,some (115,false),.load none (.t 119)⟩,true),(⟨some 121,some (115,false),.mv (.t 7)⟩,false),(⟨some 122,some (115,false),.mv (.t 8)⟩,false),(⟨some 123,some (115,false),.iaddr none (.t 121) (.t 122)⟩,false),(⟨some 124,some (115,false),.load none (.t 123)⟩,false),(⟨some 125,some (115,false),.bin .eql .other false (.t 120) (.t 124)⟩,true),(⟨some 126,none,.pick (.t 115) (.c (.bool true)) (.t 125)⟩,true),(⟨some 9,none,.mv (.t 126)⟩,true)])) (.reg [11] [⟨some 112,none,.mv (.t 11)⟩,⟨some 113,none,.bin .add .other true (.t 112) (.c (.int .i64 1))⟩,⟨some 11,none,.mv (.t 113)⟩])))))) (.seq (.reg [128] [⟨some 127,none,.mv (.t 9)⟩,⟨some 128,none,.un .not (.t 127)⟩]) (.cond (.t 128) (.seq (.reg [2] [⟨some 2,none,.mv (.c (.bool false))⟩]) .ret) .skip)))))) (.reg [8] [⟨some 71,none,.mv (.t 8)⟩,⟨some 72,none,.bin .add .other true (.t 71) (.c (.int .i64 1))⟩,⟨some 8,none,.mv (.t 72)⟩]))))))))) (.reg [6] [⟨some 30,none,.mv (.t 6)⟩,⟨some 31,none,.bin .add .other true (.t 30) (.c (.int .i64 1))⟩,⟨some 6,none,.mv (.t 31)⟩])))))) (.seq (.reg [2] [⟨some 129,none,.mv (.t 3)⟩,⟨some 2,none,.mv (.t 129)⟩]) .ret)))))))⟩
theorem c5 : compF Tryz.prog [0, 1, 2, 3, 4, 5, 6, 7, 8, 9, 10, 11, 21, 29, 60, 70, 92, 111, 128] Tryz.f5 = some a5 := by kernel_rfl
def a9 : AFun := ⟨6,[.tmp 2],(.seq (.reg [1,2] [⟨some 1,none,.box (.t 0)⟩,⟨some 2,none,.mv (.c (.bool false))⟩]) (.seq (.reg [2] [⟨some 3,none,.load (some 8) (.t 1)⟩,⟨some 4,none,.call (.c (.fn 30)) [.t 3,.c (.int .i64 20000)]⟩,⟨some 5,none,.bin .geq .other true (.t 4) (.c (.int .i64 0))⟩,⟨some 2,none,.mv (.t 5)⟩]) .ret))⟩
theorem c9 : compF Tryz.prog [0, 1, 2] Tryz.f9 = some a9 := by kernel_rfl
def a11 : AFun := ⟨15,[.tmp 2],(.seq (.reg [1,2] [⟨some 1,none,.box (.t 0)⟩,⟨some 2,none,.mv (.c (.bool false))⟩]) (.seq (.reg [2] [⟨some 3,none,.load (some 8) (.t 1)⟩,⟨some 4,none,.call (.c (.fn 32)) [.t 3]⟩,⟨some 5,none,.bin .leq .other true (.t 4) (.c (.int .i64 60))⟩,⟨some 6,none,.mv (.t 5)⟩,⟨some 7,some (6,true),.load (some 8) (.t 1)⟩,⟨some 8,some (6,true),.call (.c (.fn 33)) [.t 7]⟩,⟨some 9,some (6,true),.bin .leq .other true (.t 8) (.c (.int .i64 1500))⟩,⟨some 10,none,.pick (.t 6) (.t 9) (.c (.bool false))⟩,⟨some 11,none,.mv (.t 10)⟩,⟨some 12,some (11,true),.load (some 8) (.t 1)⟩,⟨some 13,some (11,true),.call (.c (.fn 34)) [.t 12]⟩,⟨some 14,none,.pick (.t 11) (.t 13) (.c (.bool false))⟩,⟨some 2,none,.mv (.t 14)⟩]) .ret))⟩
theorem c11 : compF Tryz.prog [0, 1, 2] Tryz.f11 = some a11 := by kernel_rfl
def a19 : AFun := ⟨82,[.tmp 4],(.seq (.reg [2,3,4] [⟨some 2,none,.box (.t 0)⟩,⟨some 3,none,.box (.t 1)⟩,⟨some 4,none,.mv (.c (.bool false))⟩]) (.seq (.reg [5] [⟨some 9,none,.faddr 5 (.t 2)⟩,⟨some 10,none,.load none (.t 9)⟩,⟨some 11,none,.faddr 5 (.t 3)⟩,⟨some 12,none,.load none (.t 11)⟩,⟨some 13,none,.call (.c (.fn 46)) [.t 10,.t 12]⟩,⟨some 5,none,.mv (.t 13)⟩]) (.seq (.reg [6] [⟨some 14,none,.faddr 6 (.t 2)⟩,⟨some 15,none,.load none (.t 14)⟩,⟨some 16,none,.faddr 6 (.t 3)⟩,⟨some 17,none,.load none (.t 16)⟩,⟨some 18,none,.call (.c (.fn 46)) [.t 15,.t 17]⟩,⟨some 6,none,.mv (.t 18)⟩]) (.seq (.seq (.reg [61] [⟨some 19,none,.faddr 0 (.t 2)⟩,⟨some 20,none,.load none (.t 19)⟩,⟨some 21,none,.faddr 0 (.t 3)⟩,⟨some 22,none,.load none (.t 21)⟩,⟨some 23,none,.bin .neq .other false (.t 20) (.t 22)⟩,⟨some 24,none,.mv (.t 23)⟩,⟨some 25,some (24,false),.faddr 2 (.t 2)⟩,⟨some 26,some (24,false),.load none (.t 25)⟩,⟨some 27,some (24,false),.faddr 2 (.t 3)⟩,⟨some 28,some (24,false),.load none (.t 27)⟩,⟨some 29,some (24,false),.bin .neq .other false (.t 26) (.t 28)⟩,⟨some 30,none,.pick (.t 24) (.c (.bool true)) (.t 29)⟩,⟨some 31,none,.mv (.t 30)⟩,⟨some 32,some (31,false),.faddr 3 (.t 2)⟩,⟨some 33,some (31,false),.load none (.t 32)⟩,⟨some 34,some (31,false),.faddr 3 (.t 3)⟩,⟨some 35,some (31,false),.load none (.t 34)⟩,⟨some 36,some (31,false),.bin .neq .other false (.t 33) (.t 35)⟩,⟨some 37,none,.pick (.t 31) (.c (.bool true)) (.t 36)⟩,⟨some 38,none,.mv (.t 37)⟩,⟨some 39,some (38,false),.faddr 4 (.t 2)⟩,⟨some 40,some (38,false),.load none (.t 39)⟩,⟨some 41,some (38,false),.faddr 4 (.t 3)⟩,⟨some 42,some (38,false),.load none (.t 41)⟩,⟨some 43,some (38,false),.bin .neq .other false (.t 40) (.t 42)⟩,⟨some 44,none,.pick (.t 38) (.c (.bool true)) (.t 43)⟩,⟨some 45,none,.mv (.t 44)⟩,⟨some 46,some (45,false),.mv (.t 5)⟩,⟨some 47,some (45,false),.un .not (.t 46)⟩,⟨some 48,none,.pick (.t 45) (.c (.bool true)) (.t 47)⟩,⟨some 49,none,.mv (.t 48)⟩,⟨some 50,some (49,false),.mv (.t 6)⟩,⟨some 51,some (49,false),.un .not (.t 50)⟩,⟨some 52,none,.pick (.t 49) (.c (.bool true)) (.t 51)⟩,⟨some 53,none,.mv (.t 52)⟩,⟨some 54,some (53,false),.faddr 7 (.t 2)⟩,⟨some 55,some (53,false),.load none (.t 54)⟩,⟨some 56,some (53,false),.len .sl (.t 55)⟩,⟨some 57,some (53,false),.faddr 7 (.t 3)⟩,⟨some 58,some (53,false),.load none (.t 57)⟩,⟨some 59,some (53,false),.len .sl (.t 58)⟩,⟨some 60,some (53,false),.bin .neq .other false (.t 56) (.t 59)⟩,⟨some 61,none,.pick (.t 53) (.c (.bool true)) (.t 60)⟩]) (.cond (.t 61) (.seq (.reg [4] [⟨some 4,none,.mv (.c (.bool false))⟩]) .ret) .skip)) (.seq (.seq (.reg [7] [⟨some 7,none,.mv (.c (.int .i64 0))⟩]) (.block 0 (.loop (.seq (.seq (.reg [66] [⟨some 62,none,.mv (.t 7)⟩,⟨some 63,none,.faddr 7 (.t 2)⟩,⟨some 64,none,.load none (.t 63)⟩,⟨some 65,none,.len .sl (.t 64)⟩,⟨some 66,none,.bin .lss .other false (.t 62) (.t 65)⟩]) (.cond (.t 66) .skip (.exit 0))) (.seq (.block 1 (.seq (.any [8] [(⟨some 69,none,.faddr 7 (.t 2)⟩,true),(⟨some 70,none,.load none (.t 69)⟩,true),(⟨some 71,none,.mv (.t 7)⟩,false),(⟨some 72,none,.iaddr (some 8) (.t 70) (.t 71)⟩,true),(⟨some 73,none,.load (some 8) (.t 72)⟩,true),(⟨some 74,none,.faddr 7 (.t 3)⟩,false),(⟨some 75,none,.load none (.t 74)⟩,false),(⟨some 76,none,.mv (.t 7)⟩,false),(⟨some 77,none,.iaddr (some 8) (.t 75) (.t 76)⟩,false),(⟨some 78,none,.load (some 8) (.t 77)⟩,false),(⟨some 79,none,.call (.c (.fn 19)) [.t 73,.t 78]⟩,true),(⟨some 8,none,.mv (.t 79)⟩,true)]) (.seq (.reg [81] [⟨some 80,none,.mv (.t 8)⟩,⟨some 81,none,.un .not (.t 80)⟩]) (.cond (.t 81) (.seq (.reg [4] [⟨some 4,none,.mv (.c (.bool false))⟩]) .ret) .skip)))) (.reg [7] [⟨some 67,none,.mv (.t 7)⟩,⟨some 68,none,.bin .add .other true (.t 67) (.c (.int .i64 1))⟩,⟨some 7,none,.mv (.t 68)⟩])))))) (.seq (.reg [4] [⟨some 4,none,.mv (.c (.bool true))⟩]) .ret))))))⟩
theorem c19 : compF Tryz.prog [0, 1, 2, 3, 4, 5, 6, 7, 8, 61, 66, 81] Tryz.f19 = some a19 := by kernel_rfl
def a20 : AFun := ⟨41,[.tmp 4],(.seq (.reg [2,3,4] [⟨some 2,none,.box (.t 0)⟩,⟨some 3,none,.box (.t 1)⟩,⟨some 4,none,.mv (.c (.bool false))⟩]) (.seq (.seq (.reg [20] [⟨some 7,none,.faddr 1 (.t 2)⟩,⟨some 8,none,.load none (.t 7)⟩,⟨some 9,none,.faddr 1 (.t 3)⟩,⟨some 10,none,.load none (.t 9)⟩,⟨some 11,none,.bin .neq .other false (.t 8) (.t 10)⟩,⟨some 12,none,.mv (.t 11)⟩,⟨some 13,some (12,false),.faddr 7 (.t 2)⟩,⟨some 14,some (12,false),.load none (.t 13)⟩,⟨some 15,some (12,false),.len .sl (.t 14)⟩,⟨some 16,some (12,false),.faddr 7 (.t 3)⟩,⟨some 17,some (12,false),.load none (.t 16)⟩,⟨some 18,some (12,false),.len .sl (.t 17)⟩,⟨some 19,some (12,false),.bin .neq .other false (.t 15) (.t 18)⟩,⟨some 20,none,.pick (.t 12) (.c (.bool true)) (.t 19)⟩]) (.cond (.t 20) (.seq (.reg [4] [⟨some 4,none,.mv (.c (.bool false))⟩]) .ret) .skip)) (.seq (.seq (.reg [5] [⟨some 5,none,.mv (.c (.int .i64 0))⟩]) (.block 0 (.loop (.seq (.seq (.reg [25] [⟨some 21,none,.mv (.t 5)⟩,⟨some 22,none,.faddr 7 (.t 2)⟩,⟨some 23,none,.load none (.t 22)⟩,⟨some 24,none,.len .sl (.t 23)⟩,⟨some 25,none,.bin .lss .other false (.t 21) (.t 24)⟩]) (.cond (.t 25) .skip (.exit 0))) (.seq (.block 1 (.seq (.any [6] [(⟨some 28,none,.faddr 7 (.t 2)⟩,true),(⟨some 29,none,.load none (.t 28)⟩,true),(⟨some 30,none,.mv (.t 5)⟩,false),(⟨some 31,none,.iaddr (some 8) (.t 29) (.t 30)⟩,true),(⟨some 32,none,.load (some 8) (.t 31)⟩,true),(⟨some 33,none,.faddr 7 (.t 3)⟩,false),(⟨some 34,none,.load none (.t 33)⟩,false),(⟨some 35,none,.mv (.t 5)⟩,false),(⟨some 36,none,.iaddr (some 8) (.t 34) (.t 35)⟩,false),(⟨some 37,none,.load (some 8) (.t 36)⟩,false),(⟨some 38,none,.call (.c (.fn 20)) [.t 32,.t 37]⟩,true),(⟨some 6,none,.mv (.t 38)⟩,true)]) (.seq (.reg [40] [⟨some 39,none,.mv (.t 6)⟩,⟨some 40,none,.un .not (.t 39)⟩]) (.cond (.t 40) (.seq (.reg [4] [⟨some 4,none,.mv (.c (.bool false))⟩]) .ret) .skip)))) (.reg [5] [⟨some 26,none,.mv (.t 5)⟩,⟨some 27,none,.bin .add .other true (.t 26) (.c (.int .i64 1))⟩,⟨some 5,none,.mv (.t 27)⟩])))))) (.seq (.reg [4] [⟨some 4,none,.mv (.c (.bool true))⟩]) .ret))))⟩
theorem c20 : compF Tryz.prog [0, 1, 2, 3, 4, 5, 6, 20, 25, 40] Tryz.f20 = some a20 := by kernel_rfl
def a21 : AFun := ⟨8,[.tmp 4],(.seq (.reg [4] [⟨some 4,none,.mv (.c (.bool false))⟩]) (.seq (.reg [4] [⟨some 5,none,.mv (.t 0)⟩,⟨some 6,none,.mv (.t 1)⟩,⟨some 7,none,.call (.c (.fn 46)) [.t 5,.t 6]⟩,⟨some 4,none,.mv (.t 7)⟩]) .ret))⟩
theorem c21 : compF Tryz.prog [0, 1, 4] Tryz.f21 = some a21 := by kernel_rfl
def a23 : AFun := ⟨15,[.tmp 2],(.seq (.reg [1,2] [⟨some 1,none,.box (.t 0)⟩,⟨some 2,none,.mv (.c (.bool false))⟩]) (.seq (.reg [2] [⟨some 3,none,.load (some 8) (.t 1)⟩,⟨some 4,none,.call (.c (.fn 25)) [.t 3]⟩,⟨some 5,none,.bin .leq .other true (.t 4) (.c (.int .i64 60))⟩,⟨some 6,none,.mv (.t 5)⟩,⟨some 7,some (6,true),.load (some 8) (.t 1)⟩,⟨some 8,some (6,true),.call (.c (.fn 26)) [.t 7]⟩,⟨some 9,some (6,true),.bin .leq .other true (.t 8) (.c (.int .i64 1500))⟩,⟨some 10,none,.pick (.t 6) (.t 9) (.c (.bool false))⟩,⟨some 11,none,.mv (.t 10)⟩,⟨some 12,some (11,true),.load (some 8) (.t 1)⟩,⟨some 13,some (11,true),.call (.c (.fn 47)) [.t 12]⟩,⟨some 14,none,.pick (.t 11) (.t 13) (.c (.bool false))⟩,⟨some 2,none,.mv (.t 14)⟩]) .ret))⟩
theorem c23 : compF Tryz.prog [0, 1, 2] Tryz.f23 = some a23 := by kernel_rfl
def a25 : AFun := ⟨20,[.tmp 2],(.seq (.reg [1,2] [⟨some 1,none,.box (.t 0)⟩,⟨some 2,none,.mv (.c (.int .i64 0))⟩]) (.seq (.reg [3] [⟨some 3,none,.mv (.c (.int .i64 0))⟩]) (.seq (.seq (.reg [7,8,9] [⟨some 6,none,.faddr 7 (.t 1)⟩,⟨some 7,none,.load none (.t 6)⟩,⟨some 8,none,.len .sl (.t 7)⟩,⟨some 9,none,.mv (.c (.int .i64 0))⟩]) (.block 0 (.loop (.seq (.reg [10] [⟨some 10,none,.bin .lss .other false (.t 9) (.t 8)⟩]) (.seq (.cond (.t 10) .skip (.exit 0)) (.seq (.block 1 (.seq (.reg [5] [⟨some 11,none,.iaddr (some 8) (.t 7) (.t 9)⟩,⟨some 12,none,.load (some 8) (.t 11)⟩,⟨some 5,none,.alloc [.int .i64 0,.int .i64 0,.int .i64 0,.str [],.str [],.snil,.snil,.snil]⟩,⟨none,none,.store 8 (.t 5) (.t 12)⟩]) (.reg [3] [⟨some 13,none,.mv (.t 3)⟩,⟨some 14,none,.load (some 8) (.t 5)⟩,⟨some 15,none,.call (.c (.fn 25)) [.t 14]⟩,⟨some 16,none,.ext .max [.t 13,.t 15]⟩,⟨some 3,none,.mv (.t 16)⟩]))) (.reg [9] [⟨some 17,none,.bin .add .other true (.t 9) (.c (.int .i64 1))⟩,⟨some 9,none,.mv (.t 17)⟩]))))))) (.seq (.reg [2] [⟨some 18,none,.mv (.t 3)⟩,⟨some 19,none,.bin .add .other true (.t 18) (.c (.int .i64 1))⟩,⟨some 2,none,.mv (.t 19)⟩]) .ret))))⟩
theorem c25 : compF Tryz.prog [0, 1, 2, 3, 5, 7, 8, 9, 10] Tryz.f25 = some a25 := by kernel_rfl
def a26 : AFun := ⟨19,[.tmp 2],(.seq (.reg [1,2] [⟨some 1,none,.box (.t 0)⟩,⟨some 2,none,.mv (.c (.int .i64 0))⟩]) (.seq (.reg [3] [⟨some 3,none,.mv (.c (.int .i64 1))⟩]) (.seq (.seq (.reg [7,8,9] [⟨some 6,none,.faddr 7 (.t 1)⟩,⟨some 7,none,.load none (.t 6)⟩,⟨some 8,none,.len .sl (.t 7)⟩,⟨some 9,none,.mv (.c (.int .i64 0))⟩]) (.block 0 (.loop (.seq (.reg [10] [⟨some 10,none,.bin .lss .other false (.t 9) (.t 8)⟩]) (.seq (.cond (.t 10) .skip (.exit 0)) (.seq (.block 1 (.seq (.reg [5] [⟨some 11,none,.iaddr (some 8) (.t 7) (.t 9)⟩,⟨some 12,none,.load (some 8) (.t 11)⟩,⟨some 5,none,.alloc [.int .i64 0,.int .i64 0,.int .i64 0,.str [],.str [],.snil,.snil,.snil]⟩,⟨none,none,.store 8 (.t 5) (.t 12)⟩]) (.reg [3] [⟨some 13,none,.mv (.t 3)⟩,⟨some 14,none,.load (some 8) (.t 5)⟩,⟨some 15,none,.call (.c (.fn 26)) [.t 14]⟩,⟨some 16,none,.bin .add .other false (.t 13) (.t 15)⟩,⟨some 3,none,.mv (.t 16)⟩]))) (.reg [9] [⟨some 17,none,.bin .add .other true (.t 9) (.c (.int .i64 1))⟩,⟨some 9,none,.mv (.t 17)⟩]))))))) (.seq (.reg [2] [⟨some 18,none,.mv (.t 3)⟩,⟨some 2,none,.mv (.t 18)⟩]) .ret))))⟩
theorem c26 : compF Tryz.prog [0, 1, 2, 3, 5, 7, 8, 9, 10] Tryz.f26 = some a26 := by kernel_rfl
def a30 : AFun := ⟨69,[.tmp 4],(.seq (.reg [2,4] [⟨some 2,none,.box (.t 0)⟩,⟨some 4,none,.mv (.c (.int .i64 0))⟩]) (.seq (.reg [1] [⟨some 8,none,.mv (.t 1)⟩,⟨some 9,none,.bin .sub .other true (.t 8) (.c (.int .i64 1))⟩,⟨some 10,none,.faddr 3 (.t 2)⟩,⟨some 11,none,.load none (.t 10)⟩,⟨some 12,none,.len .str (.t 11)⟩,⟨some 13,none,.bin .sub .other false (.t 9) (.t 12)⟩,⟨some 14,none,.faddr 4 (.t 2)⟩,⟨some 15,none,.load none (.t 14)⟩,⟨some 16,none,.len .str (.t 15)⟩,⟨some 17,none,.bin .sub .other false (.t 13) (.t 16)⟩,⟨some 1,none,.mv (.t 17)⟩]) (.seq (.seq (.reg [5] [⟨some 5,none,.mv (.c (.int .i64 0))⟩]) (.block 0 (.loop (.seq (.seq (.reg [22] [⟨some 18,none,.mv (.t 5)⟩,⟨some 19,none,.faddr 5 (.t 2)⟩,⟨some 20,none,.load none (.t 19)⟩,⟨some 21,none,.len .sl (.t 20)⟩,⟨some 22,none,.bin .lss .other false (.t 18) (.t 21)⟩]) (.cond (.t 22) .skip (.exit 0))) (.seq (.block 1 (.reg [1] [⟨some 25,none,.mv (.t 1)⟩,⟨some 26,none,.bin .sub .other true (.t 25) (.c (.int .i64 1))⟩,⟨some 27,none,.faddr 5 (.t 2)⟩,⟨some 28,none,.load none (.t 27)⟩,⟨some 29,none,.mv (.t 5)⟩,⟨some 30,none,.iaddr none (.t 28) (.t 29)⟩,⟨some 31,none,.load none (.t 30)⟩,⟨some 32,none,.len .str (.t 31)⟩,⟨some 33,none,.bin .sub .other false (.t 26) (.t 32)⟩,⟨some 1,none,.mv (.t 33)⟩])) (.reg [5] [⟨some 23,none,.mv (.t 5)⟩,⟨some 24,none,.bin .add .other true (.t 23) (.c (.int .i64 1))⟩,⟨some 5,none,.mv (.t 24)⟩])))))) (.seq (.seq (.reg [6] [⟨some 6,none,.mv (.c (.int .i64 0))⟩]) (.block 2 (.loop (.seq (.seq (.reg [38] [⟨some 34,none,.mv (.t 6)⟩,⟨some 35,none,.faddr 6 (.t 2)⟩,⟨some 36,none,.load none (.t 35)⟩,⟨some 37,none,.len .sl (.t 36)⟩,⟨some 38,none,.bin .lss .other false (.t 34) (.t 37)⟩]) (.cond (.t 38) .skip (.exit 2))) (.seq (.block 3 (.reg [1] [⟨some 41,none,.mv (.t 1)⟩,⟨some 42,none,.bin .sub .other true (.t 41) (.c (.int .i64 1))⟩,⟨some 43,none,.faddr 6 (.t 2)⟩,⟨some 44,none,.load none (.t 43)⟩,⟨some 45,none,.mv (.t 6)⟩,⟨some 46,none,.iaddr none (.t 44) (.t 45)⟩,⟨some 47,none,.load none (.t 46)⟩,⟨some 48,none,.len .str (.t 47)⟩,⟨some 49,none,.bin .sub .other false (.t 42) (.t 48)⟩,⟨some 1,none,.mv (.t 49)⟩])) (.reg [6] [⟨some 39,none,.mv (.t 6)⟩,⟨some 40,none,.bin .add .other true (.t 39) (.c (.int .i64 1))⟩,⟨some 6,none,.mv (.t 40)⟩])))))) (.seq (.seq (.reg [7] [⟨some 7,none,.mv (.c (.int .i64 0))⟩]) (.block 4 (.loop (.seq (.seq (.reg [58] [⟨some 50,none,.mv (.t 7)⟩,⟨some 51,none,.faddr 7 (.t 2)⟩,⟨some 52,none,.load none (.t 51)⟩,⟨some 53,none,.len .sl (.t 52)⟩,⟨some 54,none,.bin .lss .other false (.t 50) (.t 53)⟩,⟨some 55,none,.mv (.t 54)⟩,⟨some 56,some (55,true),.mv (.t 1)⟩,⟨some 57,some (55,true),.bin .geq .other true (.t 56) (.c (.int .i64 0))⟩,⟨some 58,none,.pick (.t 55) (.t 57) (.c (.bool false))⟩]) (.cond (.t 58) .skip (.exit 4))) (.seq (.block 5 (.reg [1] [⟨some 61,none,.faddr 7 (.t 2)⟩,⟨some 62,none,.load none (.t 61)⟩,⟨some 63,none,.mv (.t 7)⟩,⟨some 64,none,.iaddr (some 8) (.t 62) (.t 63)⟩,⟨some 65,none,.load (some 8) (.t 64)⟩,⟨some 66,none,.mv (.t 1)⟩,⟨some 67,none,.call (.c (.fn 30)) [.t 65,.t 66]⟩,⟨some 1,none,.mv (.t 67)⟩])) (.reg [7] [⟨some 59,none,.mv (.t 7)⟩,⟨some 60,none,.bin .add .other true (.t 59) (.c (.int .i64 1))⟩,⟨some 7,none,.mv (.t 60)⟩])))))) (.seq (.reg [4] [⟨some 68,none,.mv (.t 1)⟩,⟨some 4,none,.mv (.t 68)⟩]) .ret))))))⟩
theorem c30 : compF Tryz.prog [0, 1, 2, 4, 5, 6, 7, 22, 38, 58] Tryz.f30 = some a30 := by kernel_rfl
def a32 : AFun := ⟨25,[.tmp 2],(.seq (.reg [1,2] [⟨some 1,none,.box (.t 0)⟩,⟨some 2,none,.mv (.c (.int .i64 0))⟩]) (.seq (.reg [3] [⟨some 3,none,.mv (.c (.int .i64 0))⟩]) (.seq (.seq (.reg [4] [⟨some 4,none,.mv (.c (.int .i64 0))⟩]) (.block 0 (.loop (.seq (.seq (.reg [10] [⟨some 6,none,.mv (.t 4)⟩,⟨some 7,none,.faddr 7 (.t 1)⟩,⟨some 8,none,.load none (.t 7)⟩,⟨some 9,none,.len .sl (.t 8)⟩,⟨some 10,none,.bin .lss .other false (.t 6) (.t 9)⟩]) (.cond (.t 10) .skip (.exit 0))) (.seq (.block 1 (.seq (.reg [5] [⟨some 13,none,.faddr 7 (.t 1)⟩,⟨some 14,none,.load none (.t 13)⟩,⟨some 15,none,.mv (.t 4)⟩,⟨some 16,none,.iaddr (some 8) (.t 14) (.t 15)⟩,⟨some 17,none,.load (some 8) (.t 16)⟩,⟨some 18,none,.call (.c (.fn 32)) [.t 17]⟩,⟨some 5,none,.mv (.t 18)⟩]) (.seq (.reg [21] [⟨some 19,none,.mv (.t 5)⟩,⟨some 20,none,.mv (.t 3)⟩,⟨some 21,none,.bin .gtr .other false (.t 19) (.t 20)⟩]) (.cond (.t 21) (.reg [3] [⟨some 22,none,.mv (.t 5)⟩,⟨some 3,none,.mv (.t 22)⟩]) .skip)))) (.reg [4] [⟨some 11,none,.mv (.t 4)⟩,⟨some 12,none,.bin .add .other true (.t 11) (.c (.int .i64 1))⟩,⟨some 4,none,.mv (.t 12)⟩])))))) (.seq (.reg [2] [⟨some 23,none,.mv (.t 3)⟩,⟨some 24,none,.bin .add .other true (.t 23) (.c (.int .i64 1))⟩,⟨some 2,none,.mv (.t 24)⟩]) .ret))))⟩
theorem c32 : compF Tryz.prog [0, 1, 2, 3, 4, 5, 10, 21] Tryz.f32 = some a32 := by kernel_rfl
def a33 : AFun := ⟨21,[.tmp 2],(.seq (.reg [1,2] [⟨some 1,none,.box (.t 0)⟩,⟨some 2,none,.mv (.c (.int .i64 0))⟩]) (.seq (.reg [3] [⟨some 3,none,.mv (.c (.int .i64 1))⟩]) (.seq (.seq (.reg [4] [⟨some 4,none,.mv (.c (.int .i64 0))⟩]) (.block 0 (.loop (.seq (.seq (.reg [9] [⟨some 5,none,.mv (.t 4)⟩,⟨some 6,none,.faddr 7 (.t 1)⟩,⟨some 7,none,.load none (.t 6)⟩,⟨some 8,none,.len .sl (.t 7)⟩,⟨some 9,none,.bin .lss .other false (.t 5) (.t 8)⟩]) (.cond (.t 9) .skip (.exit 0))) (.seq (.block 1 (.reg [3] [⟨some 12,none,.mv (.t 3)⟩,⟨some 13,none,.faddr 7 (.t 1)⟩,⟨some 14,none,.load none (.t 13)⟩,⟨some 15,none,.mv (.t 4)⟩,⟨some 16,none,.iaddr (some 8) (.t 14) (.t 15)⟩,⟨some 17,none,.load (some 8) (.t 16)⟩,⟨some 18,none,.call (.c (.fn 33)) [.t 17]⟩,⟨some 19,none,.bin .add .other false (.t 12) (.t 18)⟩,⟨some 3,none,.mv (.t 19)⟩])) (.reg [4] [⟨some 10,none,.mv (.t 4)⟩,⟨some 11,none,.bin .add .other true (.t 10) (.c (.int .i64 1))⟩,⟨some 4,none,.mv (.t 11)⟩])))))) (.seq (.reg [2] [⟨some 20,none,.mv (.t 3)⟩,⟨some 2,none,.mv (.t 20)⟩]) .ret))))⟩
theorem c33 : compF Tryz.prog [0, 1, 2, 3, 4, 9] Tryz.f33 = some a33 := by kernel_rfl
def a34 : AFun := ⟨24,[.tmp 2],(.seq (.reg [1,2] [⟨some 1,none,.box (.t 0)⟩,⟨some 2,none,.mv (.c (.bool false))⟩]) (.seq (.reg [3] [⟨some 5,none,.load (some 8) (.t 1)⟩,⟨some 6,none,.call (.c (.fn 60)) [.t 5]⟩,⟨some 3,none,.mv (.t 6)⟩]) (.seq (.seq (.reg [4] [⟨some 4,none,.mv (.c (.int .i64 0))⟩]) (.block 0 (.loop (.seq (.seq (.reg [14] [⟨some 7,none,.mv (.t 4)⟩,⟨some 8,none,.faddr 7 (.t 1)⟩,⟨some 9,none,.load none (.t 8)⟩,⟨some 10,none,.len .sl (.t 9)⟩,⟨some 11,none,.bin .lss .other false (.t 7) (.t 10)⟩,⟨some 12,none,.mv (.t 11)⟩,⟨some 13,some (12,true),.mv (.t 3)⟩,⟨some 14,none,.pick (.t 12) (.t 13) (.c (.bool false))⟩]) (.cond (.t 14) .skip (.exit 0))) (.seq (.block 1 (.reg [3] [⟨some 17,none,.faddr 7 (.t 1)⟩,⟨some 18,none,.load none (.t 17)⟩,⟨some 19,none,.mv (.t 4)⟩,⟨some 20,none,.iaddr (some 8) (.t 18) (.t 19)⟩,⟨some 21,none,.load (some 8) (.t 20)⟩,⟨some 22,none,.call (.c (.fn 34)) [.t 21]⟩,⟨some 3,none,.mv (.t 22)⟩])) (.reg [4] [⟨some 15,none,.mv (.t 4)⟩,⟨some 16,none,.bin .add .other true (.t 15) (.c (.int .i64 1))⟩,⟨some 4,none,.mv (.t 16)⟩])))))) (.seq (.reg [2] [⟨some 23,none,.mv (.t 3)⟩,⟨some 2,none,.mv (.t 23)⟩]) .ret))))⟩
theorem c34 : compF Tryz.prog [0, 1, 2, 3, 4, 14] Tryz.f34 = some a34 := by kernel_rfl
def a37 : AFun := ⟨19,[.tmp 2],(.seq (.reg [1,2] [⟨some 1,none,.box (.t 0)⟩,⟨some 2,none,.mv (.c (.str []))⟩]) (.seq (.seq (.reg [4] [⟨some 3,none,.faddr 0 (.t 1)⟩,⟨some 4,none,.load none (.t 3)⟩]) (.block 0 (.seq (.seq (.reg [5] [⟨some 6,none,.bin .eql .other true (.t 4) (.c (.int .i64 1))⟩,⟨some 5,none,.mv (.t 6)⟩]) (.cond (.t 5) .skip (.seq (.reg [5] [⟨some 7,none,.bin .eql .other true (.t 4) (.c (.int .i64 2))⟩,⟨some 5,none,.mv (.t 7)⟩]) (.cond (.t 5) .skip (.seq (.reg [5] [⟨some 8,none,.bin .eql .other true (.t 4) (.c (.int .i64 3))⟩,⟨some 5,none,.mv (.t 8)⟩]) (.cond (.t 5) .skip (.seq (.reg [5] [⟨some 9,none,.bin .eql .other true (.t 4) (.c (.int .i64 8))⟩,⟨some 5,none,.mv (.t 9)⟩]) (.cond (.t 5) .skip (.seq (.reg [5] [⟨some 10,none,.bin .eql .other true (.t 4) (.c (.int .i64 10))⟩,⟨some 5,none,.mv (.t 10)⟩]) (.cond (.t 5) .skip (.seq (.reg [5] [⟨some 11,none,.bin .eql .other true (.t 4) (.c (.int .i64 12))⟩,⟨some 5,none,.mv (.t 11)⟩]) (.cond (.t 5) .skip (.reg [5] [⟨some 12,none,.bin .eql .other true (.t 4) (.c (.int .i64 22))⟩,⟨some 5,none,.mv (.t 12)⟩]))))))))))))) (.cond (.t 5) (.seq (.reg [2] [⟨some 13,none,.load (some 8) (.t 1)⟩,⟨some 14,none,.call (.c (.fn 12)) [.t 13]⟩,⟨some 2,none,.mv (.t 14)⟩]) .ret) .skip)))) (.seq (.reg [2] [⟨some 15,none,.load (some 8) (.t 1)⟩,⟨some 16,none,.call (.c (.fn 12)) [.t 15]⟩,⟨some 17,none,.bin .add .other true (.c (.str [40])) (.t 16)⟩,⟨some 18,none,.bin .add .other true (.t 17) (.c (.str [41]))⟩,⟨some 2,none,.mv (.t 18)⟩]) .ret)))⟩
theorem c37 : compF Tryz.prog [0, 1, 2, 4, 5] Tryz.f37 = some a37 := by kernel_rfl
def a46 : AFun := ⟨26,[.tmp 4],(.seq (.reg [4] [⟨some 4,none,.mv (.c (.bool false))⟩]) (.seq (.seq (.reg [10] [⟨some 6,none,.mv (.t 0)⟩,⟨some 7,none,.len .sl (.t 6)⟩,⟨some 8,none,.mv (.t 1)⟩,⟨some 9,none,.len .sl (.t 8)⟩,⟨some 10,none,.bin .neq .other false (.t 7) (.t 9)⟩]) (.cond (.t 10) (.seq (.reg [4] [⟨some 4,none,.mv (.c (.bool false))⟩]) .ret) .skip)) (.seq (.seq (.reg [5] [⟨some 5,none,.mv (.c (.int .i64 0))⟩]) (.block 0 (.loop (.seq (.seq (.reg [14] [⟨some 11,none,.mv (.t 5)⟩,⟨some 12,none,.mv (.t 0)⟩,⟨some 13,none,.len .sl (.t 12)⟩,⟨some 14,none,.bin .lss .other false (.t 11) (.t 13)⟩]) (.cond (.t 14) .skip (.exit 0))) (.seq (.block 1 (.seq (.any [25] [(⟨some 17,none,.mv (.t 0)⟩,true),(⟨some 18,none,.mv (.t 5)⟩,false),(⟨some 19,none,.iaddr none (.t 17) (.t 18)⟩,true),(⟨some 20,none,.load none (.t 19)⟩,true),(⟨some 21,none,.mv (.t 1)⟩,false),(⟨some 22,none,.mv (.t 5)⟩,false),(⟨some 23,none,.iaddr none (.t 21) (.t 22)⟩,false),(⟨some 24,none,.load none (.t 23)⟩,false),(⟨some 25,none,.bin .neq .other false (.t 20) (.t 24)⟩,true)]) (.cond (.t 25) (.seq (.reg [4] [⟨some 4,none,.mv (.c (.bool false))⟩]) .ret) .skip))) (.reg [5] [⟨some 15,none,.mv (.t 5)⟩,⟨some 16,none,.bin .add .other true (.t 15) (.c (.int .i64 1))⟩,⟨some 5,none,.mv (.t 16)⟩])))))) (.seq (.reg [4] [⟨some 4,none,.mv (.c (.bool true))⟩]) .ret))))⟩
theorem c46 : compF Tryz.prog [0, 1, 4, 5, 10, 14, 25] Tryz.f46 = some a46 := by kernel_rfl
def a47 : AFun := ⟨11,[.tmp 2],(.seq (.reg [1,2] [⟨some 1,none,.box (.t 0)⟩,⟨some 2,none,.mv (.c (.bool false))⟩]) (.seq (.reg [2] [⟨some 3,none,.load (some 8) (.t 1)⟩,⟨some 4,none,.call (.c (.fn 72)) [.t 3]⟩,⟨some 5,none,.mv (.t 4)⟩,⟨some 6,some (5,true),.faddr 7 (.t 1)⟩,⟨some 7,some (5,true),.load none (.t 6)⟩,⟨some 8,some (5,true),.call (.c (.fn 73)) [.t 7,.c (.fn 74)]⟩,⟨some 9,some (5,true),.un .not (.t 8)⟩,⟨some 10,none,.pick (.t 5) (.t 9) (.c (.bool false))⟩,⟨some 2,none,.mv (.t 10)⟩]) .ret))⟩
theorem c47 : compF Tryz.prog [0, 1, 2] Tryz.f47 = some a47 := by kernel_rfl
def a60 : AFun := ⟨122,[.tmp 2],(.seq (.reg [1,2] [⟨some 1,none,.box (.t 0)⟩,⟨some 2,none,.mv (.c (.bool false))⟩]) (.seq (.reg [3] [⟨some 6,none,.load (some 8) (.t 1)⟩,⟨some 7,none,.call (.c (.fn 93)) [.t 6]⟩,⟨some 3,none,.mv (.t 7)⟩]) (.seq (.seq (.any [39] [(⟨some 8,none,.faddr 7 (.t 1)⟩,true),(⟨some 9,none,.load none (.t 8)⟩,true),(⟨some 10,none,.len .sl (.t 9)⟩,true),(⟨some 11,none,.faddr 0 (.t 1)⟩,false),(⟨some 12,none,.load none (.t 11)⟩,false),(⟨some 13,none,.faddr 5 (.t 1)⟩,false),(⟨some 14,none,.load none (.t 13)⟩,false),(⟨some 15,none,.len .sl (.t 14)⟩,false),(⟨some 16,none,.faddr 4 (.t 1)⟩,false),(⟨some 17,none,.load none (.t 16)⟩,false),(⟨some 18,none,.bin .neq .other true (.t 17) (.c (.str []))⟩,false),(⟨some 19,none,.call (.c (.fn 94)) [.t 12,.t 15,.t 18]⟩,false),(⟨some 20,none,.bin .neq .other false (.t 10) (.t 19)⟩,true),(⟨some 21,none,.mv (.t 20)⟩,true),(⟨some 22,some (21,false),.faddr 2 (.t 1)⟩,true),(⟨some 23,some (21,false),.load none (.t 22)⟩,true),(⟨some 24,some (21,false),.bin .lss .other true (.t 23) (.c (.int .i64 0))⟩,true),(⟨some 25,none,.pick (.t 21) (.c (.bool true)) (.t 24)⟩,true),(⟨some 26,none,.mv (.t 25)⟩,true),(⟨some 27,some (26,false),.faddr 2 (.t 1)⟩,true),(⟨some 28,some (26,false),.load none (.t 27)⟩,true),(⟨some 29,some (26,false),.bin .neq .other true (.t 28) (.c (.int .i64 0))⟩,true),(⟨some 30,some (26,false),.mv (.t 29)⟩,true),(⟨some 31,some (30,true),.faddr 0 (.t 1)⟩,true),(⟨some 32,some (30,true),.load none (.t 31)⟩,true),(⟨some 33,some (30,true),.bin .neq .other true (.t 32) (.c (.int .i64 1))⟩,true),(⟨some 34,some (26,false),.pick (.t 30) (.t 33) (.c (.bool false))⟩,true),(⟨some 35,none,.pick (.t 26) (.c (.bool true)) (.t 34)⟩,true),(⟨some 36,none,.mv (.t 35)⟩,true),(⟨some 37,some (36,false),.mv (.t 3)⟩,true),(⟨some 38,some (36,false),.un .not (.t 37)⟩,true),(⟨some 39,none,.pick (.t 36) (.c (.bool true)) (.t 38)⟩,true)]) (.cond (.t 39) (.seq (.reg [2] [⟨some 2,none,.mv (.c (.bool false))⟩]) .ret) .skip)) (.seq (.seq (.reg [42] [⟨some 40,none,.faddr 0 (.t 1)⟩,⟨some 41,none,.load none (.t 40)⟩,⟨some 42,none,.bin .eql .other true (.t 41) (.c (.int .i64 8))⟩]) (.cond (.t 42) (.seq (.reg [2] [⟨some 43,none,.faddr 5 (.t 1)⟩,⟨some 44,none,.load none (.t 43)⟩,⟨some 45,none,.call (.c (.fn 95)) [.t 44,.c (.int .i64 1)]⟩,⟨some 46,none,.mv (.t 45)⟩,⟨some 47,some (46,true),.faddr 6 (.t 1)⟩,⟨some 48,some (46,true),.load none (.t 47)⟩,⟨some 49,some (46,true),.len .sl (.t 48)⟩,⟨some 50,some (46,true),.bin .eql .other true (.t 49) (.c (.int .i64 0))⟩,⟨some 51,none,.pick (.t 46) (.t 50) (.c (.bool false))⟩,⟨some 52,none,.mv (.t 51)⟩,⟨some 53,some (52,true),.faddr 4 (.t 1)⟩,⟨some 54,some (52,true),.load none (.t 53)⟩,⟨some 55,some (52,true),.bin .eql .other true (.t 54) (.c (.str []))⟩,⟨some 56,none,.pick (.t 52) (.t 55) (.c (.bool false))⟩,⟨some 2,none,.mv (.t 56)⟩]) .ret) .skip)) (.seq (.seq (.reg [59] [⟨some 57,none,.faddr 0 (.t 1)⟩,⟨some 58,none,.load none (.t 57)⟩,⟨some 59,none,.bin .eql .other true (.t 58) (.c (.int .i64 14))⟩]) (.cond (.t 59) (.seq (.seq (.reg [4] [⟨some 4,none,.mv (.c (.int .i64 0))⟩]) (.block 0 (.loop (.seq (.seq (.reg [64] [⟨some 60,none,.mv (.t 4)⟩,⟨some 61,none,.faddr 6 (.t 1)⟩,⟨some 62,none,.load none (.t 61)⟩,⟨some 63,none,.len .sl (.t 62)⟩,⟨some 64,none,.bin .lss .other false (.t 60) (.t 63)⟩]) (.cond (.t 64) .skip (.exit 0))) (.seq (.block 1 (.seq (.reg [5] [⟨some 67,none,.faddr 6 (.t 1)⟩,⟨some 68,none,.load none (.t 67)⟩,⟨some 69,none,.mv (.t 4)⟩,⟨some 70,none,.iaddr none (.t 68) (.t 69)⟩,⟨some 71,none,.load none (.t 70)⟩,⟨some 72,none,.call (.c (.fn 96)) [.t 71,.c (.int .i64 1)]⟩,⟨some 5,none,.mv (.t 72)⟩]) (.seq (.reg [74] [⟨some 73,none,.mv (.t 5)⟩,⟨some 74,none,.un .not (.t 73)⟩]) (.cond (.t 74) (.seq (.reg [2] [⟨some 2,none,.mv (.c (.bool false))⟩]) .ret) .skip)))) (.reg [4] [⟨some 65,none,.mv (.t 4)⟩,⟨some 66,none,.bin .add .other true (.t 65) (.c (.int .i64 1))⟩,⟨some 4,none,.mv (.t 66)⟩])))))) (.seq (.reg [2] [⟨some 75,none,.faddr 5 (.t 1)⟩,⟨some 76,none,.load none (.t 75)⟩,⟨some 77,none,.call (.c (.fn 95)) [.t 76,.c (.int .i64 3)]⟩,⟨some 78,none,.mv (.t 77)⟩,⟨some 79,some (78,true),.faddr 6 (.t 1)⟩,⟨some 80,some (78,true),.load none (.t 79)⟩,⟨some 81,some (78,true),.len .sl (.t 80)⟩,⟨some 82,some (78,true),.faddr 5 (.t 1)⟩,⟨some 83,some (78,true),.load none (.t 82)⟩,⟨some 84,some (78,true),.len .sl (.t 83)⟩,⟨some 85,some (78,true),.bin .eql .other false (.t 81) (.t 84)⟩,⟨some 86,none,.pick (.t 78) (.t 85) (.c (.bool false))⟩,⟨some 87,none,.mv (.t 86)⟩,⟨some 88,some (87,true),.faddr 7 (.t 1)⟩,⟨some 89,some (87,true),.load none (.t 88)⟩,⟨some 90,some (87,true),.len .sl (.t 89)⟩,⟨some 91,some (87,true),.bin .gtr .other true (.t 90) (.c (.int .i64 1))⟩,⟨some 92,none,.pick (.t 87) (.t 91) (.c (.bool false))⟩,⟨some 93,none,.mv (.t 92)⟩,⟨some 94,some (93,true),.faddr 4 (.t 1)⟩,⟨some 95,some (93,true),.load none (.t 94)⟩,⟨some 96,some (93,true),.bin .eql .other true (.t 95) (.c (.str []))⟩,⟨some 97,some (93,true),.mv (.t 96)⟩,⟨some 98,some (97,false),.faddr 4 (.t 1)⟩,⟨some 99,some (97,false),.load none (.t 98)⟩,⟨some 100,some (97,false),.call (.c (.fn 96)) [.t 99,.c (.int .i64 1)]⟩,⟨some 101,some (93,true),.pick (.t 97) (.c (.bool true)) (.t 100)⟩,⟨some 102,none,.pick (.t 93) (.t 101) (.c (.bool false))⟩,⟨some 2,none,.mv (.t 102)⟩]) .ret)) .skip)) (.seq (.seq (.reg [112] [⟨some 103,none,.faddr 5 (.t 1)⟩,⟨some 104,none,.load none (.t 103)⟩,⟨some 105,none,.len .sl (.t 104)⟩,⟨some 106,none,.bin .gtr .other true (.t 105) (.c (.int .i64 0))⟩,⟨some 107,none,.mv (.t 106)⟩,⟨some 108,some (107,false),.faddr 6 (.t 1)⟩,⟨some 109,some (107,false),.load none (.t 108)⟩,⟨some 110,some (107,false),.len .sl (.t 109)⟩,⟨some 111,some (107,false),.bin .gtr .other true (.t 110) (.c (.int .i64 0))⟩,⟨some 112,none,.pick (.t 107) (.c (.bool true)) (.t 111)⟩]) (.cond (.t 112) (.seq (.reg [2] [⟨some 2,none,.mv (.c (.bool false))⟩]) .ret) .skip)) (.seq (.seq (.reg [115] [⟨some 113,none,.faddr 0 (.t 1)⟩,⟨some 114,none,.load none (.t 113)⟩,⟨some 115,none,.bin .eql .other true (.t 114) (.c (.int .i64 7))⟩]) (.cond (.t 115) (.seq (.reg [2] [⟨some 116,none,.faddr 4 (.t 1)⟩,⟨some 117,none,.load none (.t 116)⟩,⟨some 118,none,.call (.c (.fn 96)) [.t 117,.c (.int .i64 1)]⟩,⟨some 2,none,.mv (.t 118)⟩]) .ret) .skip)) (.seq (.reg [2] [⟨some 119,none,.faddr 4 (.t 1)⟩,⟨some 120,none,.load none (.t 119)⟩,⟨some 121,none,.bin .eql .other true (.t 120) (.c (.str []))⟩,⟨some 2,none,.mv (.t 121)⟩]) .ret))))))))⟩
theorem c60 : compF Tryz.prog [0, 1, 2, 3, 4, 5, 39, 42, 59, 64, 74, 112, 115] Tryz.f60 = some a60 := by kernel_rfl
def a72 : AFun := ⟨134,[.tmp 2],(.seq (.reg [1,2] [⟨some 1,none,.box (.t 0)⟩,⟨some 2,none,.mv (.c (.bool false))⟩]) (.seq (.reg [3] [⟨some 4,none,.faddr 0 (.t 1)⟩,⟨some 5,none,.load none (.t 4)⟩,⟨some 6,none,.bin .eql .other true (.t 5) (.c (.int .i64 14))⟩,⟨some 3,none,.mv (.t 6)⟩]) (.seq (.block 0 (.seq (.any [7] [(⟨some 8,none,.faddr 7 (.t 1)⟩,true),(⟨some 9,none,.load none (.t 8)⟩,true),(⟨some 10,none,.len .sl (.t 9)⟩,true),(⟨some 11,none,.faddr 0 (.t 1)⟩,false),(⟨some 12,none,.load none (.t 11)⟩,false),(⟨some 13,none,.faddr 5 (.t 1)⟩,false),(⟨some 14,none,.load none (.t 13)⟩,false),(⟨some 15,none,.len .sl (.t 14)⟩,false),(⟨some 16,none,.faddr 4 (.t 1)⟩,false),(⟨some 17,none,.load none (.t 16)⟩,false),(⟨some 18,none,.bin .neq .other true (.t 17) (.c (.str []))⟩,false),(⟨some 19,none,.call (.c (.fn 106)) [.t 12,.t 15,.t 18]⟩,false),(⟨some 20,none,.bin .neq .other false (.t 10) (.t 19)⟩,true),(⟨some 21,none,.mv (.t 20)⟩,true),(⟨some 22,some (21,false),.faddr 2 (.t 1)⟩,true),(⟨some 23,some (21,false),.load none (.t 22)⟩,true),(⟨some 24,some (21,false),.bin .lss .other true (.t 23) (.c (.int .i64 0))⟩,true),(⟨some 25,none,.pick (.t 21) (.c (.bool true)) (.t 24)⟩,true),(⟨some 26,none,.mv (.t 25)⟩,true),(⟨some 27,some (26,false),.faddr 2 (.t 1)⟩,true),(⟨some 28,some (26,false),.load none (.t 27)⟩,true),(⟨some 29,some (26,false),.bin .gtr .other true (.t 28) (.c (.int .i64 0))⟩,true),(⟨some 30,some (26,false),.mv (.t 29)⟩,true),(⟨some 31,some (30,true),.faddr 0 (.t 1)⟩,true),(⟨some 32,some (30,true),.load none (.t 31)⟩,true),(⟨some 33,some (30,true),.bin .neq .other true (.t 32) (.c (.int .i64 1))⟩,true),(⟨some 34,some (26,false),.pick (.t 30) (.t 33) (.c (.bool false))⟩,true),(⟨some 35,none,.pick (.t 26) (.c (.bool true)) (.t 34)⟩,true),(⟨some 36,none,.mv (.t 35)⟩,true),(⟨some 37,some (36,false),.load (some 8) (.t 1)⟩,true),(⟨some 38,some (36,false),.call (.c (.fn 107)) [.t 37]⟩,true),(⟨some 39,some (36,false),.un .not (.t 38)⟩,true),(⟨some 40,none,.pick (.t 36) (.c (.bool true)) (.t 39)⟩,true),(⟨some 7,none,.mv (.t 40)⟩,true)]) (.cond (.t 7) (.seq (.reg [2] [⟨some 2,none,.mv (.c (.bool false))⟩]) .ret) (.seq (.reg [41] [⟨some 42,none,.faddr 0 (.t 1)⟩,⟨some 43,none,.load none (.t 42)⟩,⟨some 44,none,.bin .eql .other true (.t 43) (.c (.int .i64 8))⟩,⟨some 41,none,.mv (.t 44)⟩]) (.cond (.t 41) (.seq (.reg [2] [⟨some 45,none,.faddr 5 (.t 1)⟩,⟨some 46,none,.load none (.t 45)⟩,⟨some 47,none,.call (.c (.fn 108)) [.t 46,.c (.int .i64 1)]⟩,⟨some 48,none,.mv (.t 47)⟩,⟨some 49,some (48,true),.faddr 5 (.t 1)⟩,⟨some 50,some (48,true),.load none (.t 49)⟩,⟨some 51,some (48,true),.call (.c (.fn 109)) [.t 50]⟩,⟨some 52,none,.pick (.t 48) (.t 51) (.c (.bool false))⟩,⟨some 53,none,.mv (.t 52)⟩,⟨some 54,some (53,true),.faddr 6 (.t 1)⟩,⟨some 55,some (53,true),.load none (.t 54)⟩,⟨some 56,some (53,true),.len .sl (.t 55)⟩,⟨some 57,some (53,true),.bin .eql .other true (.t 56) (.c (.int .i64 0))⟩,⟨some 58,none,.pick (.t 53) (.t 57) (.c (.bool false))⟩,⟨some 59,none,.mv (.t 58)⟩,⟨some 60,some (59,true),.faddr 4 (.t 1)⟩,⟨some 61,some (59,true),.load none (.t 60)⟩,⟨some 62,some (59,true),.bin .eql .other true (.t 61) (.c (.str []))⟩,⟨some 63,none,.pick (.t 59) (.t 62) (.c (.bool false))⟩,⟨some 2,none,.mv (.t 63)⟩]) .ret) (.seq (.reg [64] [⟨some 65,none,.mv (.t 3)⟩,⟨some 64,none,.mv (.t 65)⟩]) (.cond (.t 64) (.seq (.reg [2] [⟨some 66,none,.faddr 5 (.t 1)⟩,⟨some 67,none,.load none (.t 66)⟩,⟨some 68,none,.call (.c (.fn 108)) [.t 67,.c (.int .i64 3)]⟩,⟨some 69,none,.mv (.t 68)⟩,⟨some 70,some (69,true),.faddr 5 (.t 1)⟩,⟨some 71,some (69,true),.load none (.t 70)⟩,⟨some 72,some (69,true),.call (.c (.fn 109)) [.t 71]⟩,⟨some 73,none,.pick (.t 69) (.t 72) (.c (.bool false))⟩,⟨some 74,none,.mv (.t 73)⟩,⟨some 75,some (74,true),.faddr 6 (.t 1)⟩,⟨some 76,some (74,true),.load none (.t 75)⟩,⟨some 77,some (74,true),.len .sl (.t 76)⟩,⟨some 78,some (74,true),.faddr 5 (.t 1)⟩,⟨some 79,some (74,true),.load none (.t 78)⟩,⟨some 80,some (74,true),.len .sl (.t 79)⟩,⟨some 81,some (74,true),.bin .eql .other false (.t 77) (.t 80)⟩,⟨some 82,none,.pick (.t 74) (.t 81) (.c (.bool false))⟩,⟨some 83,none,.mv (.t 82)⟩,⟨some 84,some (83,true),.faddr 6 (.t 1)⟩,⟨some 85,some (83,true),.load none (.t 84)⟩,⟨some 86,some (83,true),.call (.c (.fn 108)) [.t 85,.c (.int .i64 1)]⟩,⟨some 87,none,.pick (.t 83) (.t 86) (.c (.bool false))⟩,⟨some 88,none,.mv (.t 87)⟩,⟨some 89,some (88,true),.faddr 4 (.t 1)⟩,⟨some 90,some (88,true),.load none (.t 89)⟩,⟨some 91,some (88,true),.bin .eql .other true (.t 90) (.c (.str []))⟩,⟨some 92,some (88,true),.mv (.t 91)⟩,⟨some 93,some (92,false),.faddr 4 (.t 1)⟩,⟨some 94,some (92,false),.load none (.t 93)⟩,⟨some 95,some (92,false),.call (.c (.fn 110)) [.t 94,.c (.int .i64 1)]⟩,⟨some 96,some (88,true),.pick (.t 92) (.c (.bool true)) (.t 95)⟩,⟨some 97,none,.pick (.t 88) (.t 96) (.c (.bool false))⟩,⟨some 98,none,.mv (.t 97)⟩,⟨some 99,some (98,true),.faddr 7 (.t 1)⟩,⟨some 100,some (98,true),.load none (.t 99)⟩,⟨some 101,some (98,true),.len .sl (.t 100)⟩,⟨some 102,some (98,true),.bin .gtr .other true (.t 101) (.c (.int .i64 1))⟩,⟨some 103,none,.pick (.t 98) (.t 102) (.c (.bool false))⟩,⟨some 2,none,.mv (.t 103)⟩]) .ret) (.seq (.reg [104] [⟨some 105,none,.faddr 0 (.t 1)⟩,⟨some 106,none,.load none (.t 105)⟩,⟨some 107,none,.bin .eql .other true (.t 106) (.c (.int .i64 7))⟩,⟨some 104,none,.mv (.t 107)⟩]) (.cond (.t 104) (.seq (.reg [2] [⟨some 108,none,.faddr 4 (.t 1)⟩,⟨some 109,none,.load none (.t 108)⟩,⟨some 110,none,.call (.c (.fn 110)) [.t 109,.c (.int .i64 1)]⟩,⟨some 111,none,.mv (.t 110)⟩,⟨some 112,some (111,true),.faddr 5 (.t 1)⟩,⟨some 113,some (111,true),.load none (.t 112)⟩,⟨some 114,some (111,true),.len .sl (.t 113)⟩,⟨some 115,some (111,true),.faddr 6 (.t 1)⟩,⟨some 116,some (111,true),.load none (.t 115)⟩,⟨some 117,some (111,true),.len .sl (.t 116)⟩,⟨some 118,some (111,true),.bin .add .other false (.t 114) (.t 117)⟩,⟨some 119,some (111,true),.bin .eql .other true (.t 118) (.c (.int .i64 0))⟩,⟨some 120,none,.pick (.t 111) (.t 119) (.c (.bool false))⟩,⟨some 2,none,.mv (.t 120)⟩]) .ret) .skip))))))))) (.seq (.reg [2] [⟨some 121,none,.faddr 4 (.t 1)⟩,⟨some 122,none,.load none (.t 121)⟩,⟨some 123,none,.bin .eql .other true (.t 122) (.c (.str []))⟩,⟨some 124,none,.mv (.t 123)⟩,⟨some 125,some (124,true),.faddr 5 (.t 1)⟩,⟨some 126,some (124,true),.load none (.t 125)⟩,⟨some 127,some (124,true),.len .sl (.t 126)⟩,⟨some 128,some (124,true),.faddr 6 (.t 1)⟩,⟨some 129,some (124,true),.load none (.t 128)⟩,⟨some 130,some (124,true),.len .sl (.t 129)⟩,⟨some 131,some (124,true),.bin .add .other false (.t 127) (.t 130)⟩,⟨some 132,some (124,true),.bin .eql .other true (.t 131) (.c (.int .i64 0))⟩,⟨some 133,none,.pick (.t 124) (.t 132) (.c (.bool false))⟩,⟨some 2,none,.mv (.t 133)⟩]) .ret))))⟩
theorem c72 : compF Tryz.prog [0, 1, 2, 3, 7, 41, 64, 104] Tryz.f72 = some a72 := by kernel_rfl
def a73 : AFun := ⟨9,[.tmp 4],(.seq (.reg [4] [⟨some 4,none,.mv (.c (.bool false))⟩]) (.seq (.reg [4] [⟨some 5,none,.mv (.t 0)⟩,⟨some 6,none,.mv (.t 1)⟩,⟨some 7,none,.call (.c (.fn 111)) [.t 5,.t 6]⟩,⟨some 8,none,.bin .geq .other true (.t 7) (.c (.int .i64 0))⟩,⟨some 4,none,.mv (.t 8)⟩]) .ret))⟩
theorem c73 : compF Tryz.prog [0, 1, 4] Tryz.f73 = some a73 := by kernel_rfl
def a74 : AFun := ⟨6,[.tmp 2],(.seq (.reg [1,2] [⟨some 1,none,.box (.t 0)⟩,⟨some 2,none,.mv (.c (.bool false))⟩]) (.seq (.reg [2] [⟨some 3,none,.load (some 8) (.t 1)⟩,⟨some 4,none,.call (.c (.fn 47)) [.t 3]⟩,⟨some 5,none,.un .not (.t 4)⟩,⟨some 2,none,.mv (.t 5)⟩]) .ret))⟩
theorem c74 : compF Tryz.prog [0, 1, 2] Tryz.f74 = some a74 := by kernel_rfl
def a75 : AFun := ⟨5,[.tmp 2],(.seq (.reg [2] [⟨some 2,none,.mv (.c .snil)⟩]) (.seq (.reg [2] [⟨some 3,none,.mv (.t 0)⟩,⟨some 4,none,.call (.c (.fn 112)) [.c .snil,.t 3]⟩,⟨some 2,none,.mv (.t 4)⟩]) .ret))⟩
theorem c75 : compF Tryz.prog [0, 2] Tryz.f75 = some a75 := by kernel_rfl
def a93 : AFun := ⟨41,[.tmp 2],(.seq (.reg [1,2] [⟨some 1,none,.box (.t 0)⟩,⟨some 2,none,.mv (.c (.bool false))⟩]) (.seq (.seq (.reg [6] [⟨some 5,none,.faddr 0 (.t 1)⟩,⟨some 6,none,.load none (.t 5)⟩]) (.block 0 (.seq (.reg [7] [⟨some 8,none,.bin .eql .other true (.t 6) (.c (.int .i64 2))⟩,⟨some 7,none,.mv (.t 8)⟩]) (.cond (.t 7) (.seq (.reg [4] [⟨some 10,none,.faddr 3 (.t 1)⟩,⟨some 11,none,.load none (.t 10)⟩,⟨some 12,none,.call (.c (.fn 36)) [.t 11]⟩,⟨some 9,none,.mv (.t 12)⟩,⟨some 13,none,.extract (.t 9) 0⟩,⟨some 14,none,.extract (.t 9) 1⟩,⟨some 3,none,.mv (.t 13)⟩,⟨some 4,none,.mv (.t 14)⟩]) (.seq (.reg [2] [⟨some 15,none,.mv (.t 4)⟩,⟨some 2,none,.mv (.t 15)⟩]) .ret)) (.seq (.seq (.reg [16] [⟨some 17,none,.bin .eql .other true (.t 6) (.c (.int .i64 3))⟩,⟨some 16,none,.mv (.t 17)⟩]) (.cond (.t 16) .skip (.seq (.reg [16] [⟨some 18,none,.bin .eql .other true (.t 6) (.c (.int .i64 4))⟩,⟨some 16,none,.mv (.t 18)⟩]) (.cond (.t 16) .skip (.seq (.reg [16] [⟨some 19,none,.bin .eql .other true (.t 6) (.c (.int .i64 6))⟩,⟨some 16,none,.mv (.t 19)⟩]) (.cond (.t 16) .skip (.seq (.reg [16] [⟨some 20,none,.bin .eql .other true (.t 6) (.c (.int .i64 7))⟩,⟨some 16,none,.mv (.t 20)⟩]) (.cond (.t 16) .skip (.seq (.reg [16] [⟨some 21,none,.bin .eql .other true (.t 6) (.c (.int .i64 9))⟩,⟨some 16,none,.mv (.t 21)⟩]) (.cond (.t 16) .skip (.seq (.reg [16] [⟨some 22,none,.bin .eql .other true (.t 6) (.c (.int .i64 10))⟩,⟨some 16,none,.mv (.t 22)⟩]) (.cond (.t 16) .skip (.seq (.reg [16] [⟨some 23,none,.bin .eql .other true (.t 6) (.c (.int .i64 11))⟩,⟨some 16,none,.mv (.t 23)⟩]) (.cond (.t 16) .skip (.reg [16] [⟨some 24,none,.bin .eql .other true (.t 6) (.c (.int .i64 12))⟩,⟨some 16,none,.mv (.t 24)⟩]))))))))))))))) (.cond (.t 16) (.seq (.reg [2] [⟨some 25,none,.faddr 3 (.t 1)⟩,⟨some 26,none,.load none (.t 25)⟩,⟨some 27,none,.call (.c (.fn 96)) [.t 26,.c (.int .i64 1)]⟩,⟨some 2,none,.mv (.t 27)⟩]) .ret) (.seq (.reg [28] [⟨some 29,none,.bin .eql .other true (.t 6) (.c (.int .i64 13))⟩,⟨some 28,none,.mv (.t 29)⟩]) (.cond (.t 28) (.seq (.reg [2] [⟨some 30,none,.faddr 3 (.t 1)⟩,⟨some 31,none,.load none (.t 30)⟩,⟨some 32,none,.call (.c (.fn 96)) [.t 31,.c (.int .i64 3)]⟩,⟨some 2,none,.mv (.t 32)⟩]) .ret) (.seq (.reg [33] [⟨some 34,none,.bin .eql .other true (.t 6) (.c (.int .i64 16))⟩,⟨some 33,none,.mv (.t 34)⟩]) (.cond (.t 33) (.seq (.reg [2] [⟨some 35,none,.faddr 3 (.t 1)⟩,⟨some 36,none,.load none (.t 35)⟩,⟨some 37,none,.call (.c (.fn 134)) [.t 36]⟩,⟨some 2,none,.mv (.t 37)⟩]) .ret) .skip)))))))))) (.seq (.reg [2] [⟨some 38,none,.faddr 3 (.t 1)⟩,⟨some 39,none,.load none (.t 38)⟩,⟨some 40,none,.bin .eql .other true (.t 39) (.c (.str []))⟩,⟨some 2,none,.mv (.t 40)⟩]) .ret)))⟩
theorem c93 : compF Tryz.prog [0, 1, 2, 4, 6, 7, 16, 28, 33] Tryz.f93 = some a93 := by kernel_rfl
def a94 : AFun := ⟨42,[.tmp 6],(.seq (.reg [6] [⟨some 6,none,.mv (.c (.int .i64 0))⟩]) (.seq (.seq (.reg [7] [⟨some 7,none,.mv (.t 0)⟩]) (.block 0 (.seq (.seq (.reg [8] [⟨some 9,none,.bin .eql .other true (.t 7) (.c (.int .i64 1))⟩,⟨some 8,none,.mv (.t 9)⟩]) (.cond (.t 8) .skip (.seq (.reg [8] [⟨some 10,none,.bin .eql .other true (.t 7) (.c (.int .i64 2))⟩,⟨some 8,none,.mv (.t 10)⟩]) (.cond (.t 8) .skip (.seq (.reg [8] [⟨some 11,none,.bin .eql .other true (.t 7) (.c (.int .i64 3))⟩,⟨some 8,none,.mv (.t 11)⟩]) (.cond (.t 8) .skip (.reg [8] [⟨some 12,none,.bin .eql .other true (.t 7) (.c (.int .i64 22))⟩,⟨some 8,none,.mv (.t 12)⟩]))))))) (.cond (.t 8) (.seq (.reg [6] [⟨some 6,none,.mv (.c (.int .i64 0))⟩]) .ret) (.seq (.seq (.reg [13] [⟨some 14,none,.bin .eql .other true (.t 7) (.c (.int .i64 4))⟩,⟨some 13,none,.mv (.t 14)⟩]) (.cond (.t 13) .skip (.seq (.reg [13] [⟨some 15,none,.bin .eql .other true (.t 7) (.c (.int .i64 9))⟩,⟨some 13,none,.mv (.t 15)⟩]) (.cond (.t 13) .skip (.seq (.reg [13] [⟨some 16,none,.bin .eql .other true (.t 7) (.c (.int .i64 11))⟩,⟨some 13,none,.mv (.t 16)⟩]) (.cond (.t 13) .skip (.seq (.reg [13] [⟨some 17,none,.bin .eql .other true (.t 7) (.c (.int .i64 13))⟩,⟨some 13,none,.mv (.t 17)⟩]) (.cond (.t 13) .skip (.seq (.reg [13] [⟨some 18,none,.bin .eql .other true (.t 7) (.c (.int .i64 17))⟩,⟨some 13,none,.mv (.t 18)⟩]) (.cond (.t 13) .skip (.seq (.reg [13] [⟨some 19,none,.bin .eql .other true (.t 7) (.c (.int .i64 18))⟩,⟨some 13,none,.mv (.t 19)⟩]) (.cond (.t 13) .skip (.seq (.reg [13] [⟨some 20,none,.bin .eql .other true (.t 7) (.c (.int .i64 20))⟩,⟨some 13,none,.mv (.t 20)⟩]) (.cond (.t 13) .skip (.reg [13] [⟨some 21,none,.bin .eql .other true (.t 7) (.c (.int .i64 21))⟩,⟨some 13,none,.mv (.t 21)⟩]))))))))))))))) (.cond (.t 13) (.seq (.reg [6] [⟨some 6,none,.mv (.c (.int .i64 1))⟩]) .ret) (.seq (.seq (.reg [22] [⟨some 23,none,.bin .eql .other true (.t 7) (.c (.int .i64 5))⟩,⟨some 22,none,.mv (.t 23)⟩]) (.cond (.t 22) .skip (.seq (.reg [22] [⟨some 24,none,.bin .eql .other true (.t 7) (.c (.int .i64 6))⟩,⟨some 22,none,.mv (.t 24)⟩]) (.cond (.t 22) .skip (.seq (.reg [22] [⟨some 25,none,.bin .eql .other true (.t 7) (.c (.int .i64 7))⟩,⟨some 22,none,.mv (.t 25)⟩]) (.cond (.t 22) .skip (.seq (.reg [22] [⟨some 26,none,.bin .eql .other true (.t 7) (.c (.int .i64 10))⟩,⟨some 22,none,.mv (.t 26)⟩]) (.cond (.t 22) .skip (.seq (.reg [22] [⟨some 27,none,.bin .eql .other true (.t 7) (.c (.int .i64 12))⟩,⟨some 22,none,.mv (.t 27)⟩]) (.cond (.t 22) .skip (.seq (.reg [22] [⟨some 28,none,.bin .eql .other true (.t 7) (.c (.int .i64 16))⟩,⟨some 22,none,.mv (.t 28)⟩]) (.cond (.t 22) .skip (.reg [22] [⟨some 29,none,.bin .eql .other true (.t 7) (.c (.int .i64 19))⟩,⟨some 22,none,.mv (.t 29)⟩]))))))))))))) (.cond (.t 22) (.seq (.reg [6] [⟨some 6,none,.mv (.c (.int .i64 2))⟩]) .ret) (.seq (.reg [30] [⟨some 31,none,.bin .eql .other true (.t 7) (.c (.int .i64 15))⟩,⟨some 30,none,.mv (.t 31)⟩]) (.cond (.t 30) (.seq (.reg [6] [⟨some 6,none,.mv (.c (.int .i64 3))⟩]) .ret) (.seq (.reg [32] [⟨some 33,none,.bin .eql .other true (.t 7) (.c (.int .i64 8))⟩,⟨some 32,none,.mv (.t 33)⟩]) (.cond (.t 32) (.seq (.reg [6] [⟨some 34,none,.mv (.t 1)⟩,⟨some 6,none,.mv (.t 34)⟩]) .ret) (.seq (.reg [35] [⟨some 36,none,.bin .eql .other true (.t 7) (.c (.int .i64 14))⟩,⟨some 35,none,.mv (.t 36)⟩]) (.cond (.t 35) (.seq (.seq (.reg [37] [⟨some 37,none,.mv (.t 2)⟩]) (.cond (.t 37) (.seq (.reg [6] [⟨some 38,none,.mv (.t 1)⟩,⟨some 39,none,.bin .add .other true (.t 38) (.c (.int .i64 2))⟩,⟨some 6,none,.mv (.t 39)⟩]) .ret) .skip)) (.seq (.reg [6] [⟨some 40,none,.mv (.t 1)⟩,⟨some 41,none,.bin .add .other true (.t 40) (.c (.int .i64 1))⟩,⟨some 6,none,.mv (.t 41)⟩]) .ret)) .skip)))))))))))))) (.seq (.reg [6] [⟨some 6,none,.mv (.c (.int .i64 (-1)))⟩]) .ret)))⟩
theorem c94 : compF Tryz.prog [0, 1, 2, 6, 7, 8, 13, 22, 30, 32, 35, 37] Tryz.f94 = some a94 := by kernel_rfl
def a95 : AFun := ⟨40,[.tmp 4],(.seq (.reg [4] [⟨some 4,none,.mv (.c (.bool false))⟩]) (.seq (.seq (.reg [5] [⟨some 5,none,.mv (.c (.int .i64 0))⟩]) (.block 0 (.loop (.seq (.seq (.reg [10] [⟨some 7,none,.mv (.t 5)⟩,⟨some 8,none,.mv (.t 0)⟩,⟨some 9,none,.len .sl (.t 8)⟩,⟨some 10,none,.bin .lss .other false (.t 7) (.t 9)⟩]) (.cond (.t 10) .skip (.exit 0))) (.seq (.block 1 (.seq (.reg [6] [⟨some 13,none,.mv (.t 0)⟩,⟨some 14,none,.mv (.t 5)⟩,⟨some 15,none,.iaddr none (.t 13) (.t 14)⟩,⟨some 16,none,.load none (.t 15)⟩,⟨some 17,none,.mv (.t 1)⟩,⟨some 18,none,.call (.c (.fn 96)) [.t 16,.t 17]⟩,⟨some 6,none,.mv (.t 18)⟩]) (.seq (.any [36] [(⟨some 19,none,.mv (.t 6)⟩,true),(⟨some 20,none,.un .not (.t 19)⟩,true),(⟨some 21,none,.mv (.t 20)⟩,true),(⟨some 22,some (21,false),.mv (.t 5)⟩,true),(⟨some 23,some (21,false),.bin .gtr .other true (.t 22) (.c (.int .i64 0))⟩,true),(⟨some 24,some (21,false),.mv (.t 23)⟩,true),(⟨some 25,some (24,true),.mv (.t 0)⟩,true),(⟨some 26,some (24,true),.mv (.t 5)⟩,false),(⟨some 27,some (24,true),.bin .sub .other true (.t 26) (.c (.int .i64 1))⟩,false),(⟨some 28,some (24,true),.iaddr none (.t 25) (.t 27)⟩,true),(⟨some 29,some (24,true),.load none (.t 28)⟩,true),(⟨some 30,some (24,true),.mv (.t 0)⟩,false),(⟨some 31,some (24,true),.mv (.t 5)⟩,false),(⟨some 32,some (24,true),.iaddr none (.t 30) (.t 31)⟩,false),(⟨some 33,some (24,true),.load none (.t 32)⟩,false),(⟨some 34,some (24,true),.bin .geq .other false (.t 29) (.t 33)⟩,true),(⟨some 35,some (21,false),.pick (.t 24) (.t 34) (.c (.bool false))⟩,true),(⟨some 36,none,.pick (.t 21) (.c (.bool true)) (.t 35)⟩,true)]) (.cond (.t 36) (.seq (.reg [4] [⟨some 4,none,.mv (.c (.bool false))⟩]) .ret) .skip)))) (.reg [5] [⟨some 11,none,.mv (.t 5)⟩,⟨some 12,none,.bin .add .other true (.t 11) (.c (.int .i64 1))⟩,⟨some 5,none,.mv (.t 12)⟩])))))) (.seq (.reg [4] [⟨some 37,none,.mv (.t 0)⟩,⟨some 38,none,.len .sl (.t 37)⟩,⟨some 39,none,.bin .leq .other true (.t 38) (.c (.int .i64 30))⟩,⟨some 4,none,.mv (.t 39)⟩]) .ret)))⟩
theorem c95 : compF Tryz.prog [0, 1, 4, 5, 6, 10, 36] Tryz.f95 = some a95 := by kernel_rfl
def a96 : AFun := ⟨37,[.tmp 4],(.seq (.reg [4] [⟨some 4,none,.mv (.c (.bool false))⟩]) (.seq (.seq (.reg [15] [⟨some 8,none,.mv (.t 0)⟩,⟨some 9,none,.len .str (.t 8)⟩,⟨some 10,none,.bin .eql .other true (.t 9) (.c (.int .i64 0))⟩,⟨some 11,none,.mv (.t 10)⟩,⟨some 12,some (11,false),.mv (.t 0)⟩,⟨some 13,some (11,false),.len .str (.t 12)⟩,⟨some 14,some (11,false),.bin .gtr .other true (.t 13) (.c (.int .i64 20))⟩,⟨some 15,none,.pick (.t 11) (.c (.bool true)) (.t 14)⟩]) (.cond (.t 15) (.seq (.reg [4] [⟨some 4,none,.mv (.c (.bool false))⟩]) .ret) .skip)) (.seq (.reg [5,6,7] [⟨some 17,none,.mv (.t 0)⟩,⟨some 18,none,.conv .toBytes (.t 17)⟩,⟨some 19,none,.call (.c (.fn 135)) [.t 18,.c (.int .i64 0)]⟩,⟨some 16,none,.mv (.t 19)⟩,⟨some 20,none,.extract (.t 16) 0⟩,⟨some 21,none,.extract (.t 16) 1⟩,⟨some 22,none,.extract (.t 16) 2⟩,⟨some 5,none,.alloc [.int .i64 0,.int .i64 0,.int .i64 0,.str []]⟩,⟨none,none,.store 4 (.t 5) (.t 20)⟩,⟨some 6,none,.mv (.t 21)⟩,⟨some 7,none,.mv (.t 22)⟩]) (.seq (.reg [4] [⟨some 23,none,.mv (.t 7)⟩,⟨some 24,none,.bin .lss .other true (.t 23) (.c (.int .i64 0))⟩,⟨some 25,none,.mv (.t 24)⟩,⟨some 26,some (25,true),.mv (.t 6)⟩,⟨some 27,some (25,true),.mv (.t 0)⟩,⟨some 28,some (25,true),.len .str (.t 27)⟩,⟨some 29,some (25,true),.bin .eql .other false (.t 26) (.t 28)⟩,⟨some 30,none,.pick (.t 25) (.t 29) (.c (.bool false))⟩,⟨some 31,none,.mv (.t 30)⟩,⟨some 32,some (31,true),.faddr 0 (.t 5)⟩,⟨some 33,some (31,true),.load none (.t 32)⟩,⟨some 34,some (31,true),.mv (.t 1)⟩,⟨some 35,some (31,true),.bin .eql .other false (.t 33) (.t 34)⟩,⟨some 36,none,.pick (.t 31) (.t 35) (.c (.bool false))⟩,⟨some 4,none,.mv (.t 36)⟩]) .ret))))⟩
theorem c96 : compF Tryz.prog [0, 1, 4, 5, 6, 7, 15] Tryz.f96 = some a96 := by kernel_rfl
def a106 : AFun := ⟨30,[.tmp 6],(.seq (.reg [6] [⟨some 6,none,.mv (.c (.int .i64 0))⟩]) (.seq (.seq (.reg [9] [⟨some 9,none,.mv (.t 0)⟩]) (.block 0 (.seq (.reg [10] [⟨some 11,none,.bin .eql .other true (.t 9) (.c (.int .i64 8))⟩,⟨some 10,none,.mv (.t 11)⟩]) (.cond (.t 10) (.seq (.reg [6] [⟨some 12,none,.mv (.t 1)⟩,⟨some 6,none,.mv (.t 12)⟩]) .ret) (.seq (.reg [13] [⟨some 14,none,.bin .eql .other true (.t 9) (.c (.int .i64 14))⟩,⟨some 13,none,.mv (.t 14)⟩]) (.cond (.t 13) (.seq (.seq (.reg [15] [⟨some 15,none,.mv (.t 2)⟩]) (.cond (.t 15) (.reg [1] [⟨some 16,none,.mv (.t 1)⟩,⟨some 17,none,.bin .add .other true (.t 16) (.c (.int .i64 1))⟩,⟨some 1,none,.mv (.t 17)⟩]) .skip)) (.seq (.reg [6] [⟨some 18,none,.mv (.t 1)⟩,⟨some 19,none,.bin .add .other true (.t 18) (.c (.int .i64 1))⟩,⟨some 6,none,.mv (.t 19)⟩]) .ret)) .skip)))))) (.seq (.reg [7,8] [⟨some 21,none,.call (.c (.fn 142)) []⟩,⟨some 22,none,.mv (.t 0)⟩,⟨some 23,none,.ext (.mget (.int .i64) true (.agg [.int .i64 0,.bool false,.bool false,.bool false,.bool false])) [.t 21,.t 22]⟩,⟨some 20,none,.mv (.t 23)⟩,⟨some 24,none,.extract (.t 20) 0⟩,⟨some 25,none,.extract (.t 20) 1⟩,⟨some 7,none,.alloc [.int .i64 0,.bool false,.bool false,.bool false,.bool false]⟩,⟨none,none,.store 5 (.t 7) (.t 24)⟩,⟨some 8,none,.mv (.t 25)⟩]) (.seq (.seq (.reg [27] [⟨some 26,none,.mv (.t 8)⟩,⟨some 27,none,.un .not (.t 26)⟩]) (.cond (.t 27) (.seq (.reg [6] [⟨some 6,none,.mv (.c (.int .i64 (-1)))⟩]) .ret) .skip)) (.seq (.reg [6] [⟨some 28,none,.faddr 0 (.t 7)⟩,⟨some 29,none,.load none (.t 28)⟩,⟨some 6,none,.mv (.t 29)⟩]) .ret)))))⟩
theorem c106 : compF Tryz.prog [0, 1, 2, 6, 7, 8, 9, 10, 13, 15, 27] Tryz.f106 = some a106 := by kernel_rfl
def a107 : AFun := ⟨48,[.tmp 2],(.seq (.reg [1,2] [⟨some 1,none,.box (.t 0)⟩,⟨some 2,none,.mv (.c (.bool false))⟩]) (.seq (.alt [3] [(⟨some 7,none,.faddr 0 (.t 1)⟩,true),(⟨some 8,none,.load none (.t 7)⟩,true)] (⟨some 6,none,.call (.c (.fn 142)) []⟩,false) (⟨some 3,none,.alloc [.int .i64 0,.bool false,.bool false,.bool false,.bool false]⟩,false) [(⟨some 9,none,.ext (.mget (.int .i64) false (.agg [.int .i64 0,.bool false,.bool false,.bool false,.bool false])) [.t 6,.t 8]⟩,true)] [(⟨none,none,.store 5 (.t 3) (.t 9)⟩,true)]) (.seq (.block 0 (.seq (.reg [10] [⟨some 11,none,.faddr 0 (.t 1)⟩,⟨some 12,none,.load none (.t 11)⟩,⟨some 13,none,.bin .eql .other true (.t 12) (.c (.int .i64 2))⟩,⟨some 10,none,.mv (.t 13)⟩]) (.cond (.t 10) (.seq (.reg [5] [⟨some 15,none,.faddr 3 (.t 1)⟩,⟨some 16,none,.load none (.t 15)⟩,⟨some 17,none,.call (.c (.fn 55)) [.t 16]⟩,⟨some 14,none,.mv (.t 17)⟩,⟨some 18,none,.extract (.t 14) 0⟩,⟨some 19,none,.extract (.t 14) 1⟩,⟨some 4,none,.mv (.t 18)⟩,⟨some 5,none,.mv (.t 19)⟩]) (.seq (.reg [2] [⟨some 20,none,.mv (.t 5)⟩,⟨some 21,none,.bin .eql .ifc true (.t 20) (.c .inil)⟩,⟨some 2,none,.mv (.t 21)⟩]) .ret)) (.seq (.reg [22] [⟨some 23,none,.faddr 1 (.t 3)⟩,⟨some 24,none,.load none (.t 23)⟩,⟨some 25,none,.mv (.t 24)⟩,⟨some 26,some (25,false),.faddr 2 (.t 3)⟩,⟨some 27,some (25,false),.load none (.t 26)⟩,⟨some 28,none,.pick (.t 25) (.c (.bool true)) (.t 27)⟩,⟨some 22,none,.mv (.t 28)⟩]) (.cond (.t 22) (.seq (.reg [2] [⟨some 29,none,.faddr 3 (.t 1)⟩,⟨some 30,none,.load none (.t 29)⟩,⟨some 31,none,.call (.c (.fn 110)) [.t 30,.c (.int .i64 1)]⟩,⟨some 2,none,.mv (.t 31)⟩]) .ret) (.seq (.reg [32] [⟨some 33,none,.faddr 3 (.t 3)⟩,⟨some 34,none,.load none (.t 33)⟩,⟨some 32,none,.mv (.t 34)⟩]) (.cond (.t 32) (.seq (.reg [2] [⟨some 35,none,.faddr 3 (.t 1)⟩,⟨some 36,none,.load none (.t 35)⟩,⟨some 37,none,.call (.c (.fn 110)) [.t 36,.c (.int .i64 3)]⟩,⟨some 2,none,.mv (.t 37)⟩]) .ret) (.seq (.reg [38] [⟨some 39,none,.faddr 4 (.t 3)⟩,⟨some 40,none,.load none (.t 39)⟩,⟨some 38,none,.mv (.t 40)⟩]) (.cond (.t 38) (.seq (.reg [2] [⟨some 41,none,.mksl none [.c (.str [43]),.c (.str [45]),.c (.str [42]),.c (.str [47]),.c (.str [60]),.c (.str [61,61]),.c (.str [94]),.c (.str [35])]⟩,⟨some 42,none,.faddr 3 (.t 1)⟩,⟨some 43,none,.load none (.t 42)⟩,⟨some 44,none,.call (.c (.fn 118)) [.t 41,.t 43]⟩,⟨some 2,none,.mv (.t 44)⟩]) .ret) .skip))))))))) (.seq (.reg [2] [⟨some 45,none,.faddr 3 (.t 1)⟩,⟨some 46,none,.load none (.t 45)⟩,⟨some 47,none,.bin .eql .other true (.t 46) (.c (.str []))⟩,⟨some 2,none,.mv (.t 47)⟩]) .ret))))⟩
theorem c107 : compF Tryz.prog [0, 1, 2, 3, 5, 10, 22, 32, 38] Tryz.f107 = some a107 := by kernel_rfl
def a108 : AFun := ⟨9,[.tmp 4],(.seq (.reg [3,4] [⟨some 3,none,.box (.t 1)⟩,⟨some 4,none,.mv (.c (.bool false))⟩]) (.seq (.reg [4] [⟨some 5,none,.mv (.t 0)⟩,⟨some 6,none,.mkfn 144 [.t 3]⟩,⟨some 7,none,.call (.c (.fn 143)) [.t 5,.t 6]⟩,⟨some 8,none,.un .not (.t 7)⟩,⟨some 4,none,.mv (.t 8)⟩]) .ret))⟩
theorem c108 : compF Tryz.prog [0, 1, 3, 4] Tryz.f108 = some a108 := by kernel_rfl
def a109 : AFun := ⟨27,[.tmp 2],(.seq (.reg [2] [⟨some 2,none,.mv (.c (.bool false))⟩]) (.seq (.seq (.reg [5,6] [⟨some 4,none,.mv (.t 0)⟩,⟨some 5,none,.len .sl (.t 4)⟩,⟨some 6,none,.mv (.c (.int .i64 0))⟩]) (.block 0 (.loop (.seq (.reg [7] [⟨some 7,none,.bin .lss .other false (.t 6) (.t 5)⟩]) (.seq (.cond (.t 7) .skip (.exit 0)) (.seq (.block 1 (.seq (.reg [3] [⟨some 8,none,.mv (.t 6)⟩,⟨some 3,none,.mv (.t 8)⟩]) (.seq (.any [22] [(⟨some 9,none,.mv (.t 3)⟩,true),(⟨some 10,none,.bin .gtr .other true (.t 9) (.c (.int .i64 0))⟩,true),(⟨some 11,none,.mv (.t 10)⟩,true),(⟨some 12,some (11,true),.mv (.t 0)⟩,true),(⟨some 13,some (11,true),.mv (.t 3)⟩,false),(⟨some 14,some (11,true),.bin .sub .other true (.t 13) (.c (.int .i64 1))⟩,false),(⟨some 15,some (11,true),.iaddr none (.t 12) (.t 14)⟩,true),(⟨some 16,some (11,true),.load none (.t 15)⟩,true),(⟨some 17,some (11,true),.mv (.t 0)⟩,false),(⟨some 18,some (11,true),.mv (.t 3)⟩,false),(⟨some 19,some (11,true),.iaddr none (.t 17) (.t 18)⟩,false),(⟨some 20,some (11,true),.load none (.t 19)⟩,false),(⟨some 21,some (11,true),.bin .geq .other false (.t 16) (.t 20)⟩,true),(⟨some 22,none,.pick (.t 11) (.t 21) (.c (.bool false))⟩,true)]) (.cond (.t 22) (.seq (.reg [2] [⟨some 2,none,.mv (.c (.bool false))⟩]) .ret) .skip)))) (.reg [6] [⟨some 23,none,.bin .add .other true (.t 6) (.c (.int .i64 1))⟩,⟨some 6,none,.mv (.t 23)⟩]))))))) (.seq (.reg [2] [⟨some 24,none,.mv (.t 0)⟩,⟨some 25,none,.len .sl (.t 24)⟩,⟨some 26,none,.bin .leq .other true (.t 25) (.c (.int .i64 30))⟩,⟨some 2,none,.mv (.t 26)⟩]) .ret)))⟩
theorem c109 : compF Tryz.prog [0, 2, 3, 5, 6, 7, 22] Tryz.f109 = some a109 := by kernel_rfl
def a110 : AFun := ⟨39,[.tmp 4],(.seq (.reg [4] [⟨some 4,none,.mv (.c (.bool false))⟩]) (.seq (.seq (.reg [9] [⟨some 7,none,.mv (.t 0)⟩,⟨some 8,none,.len .str (.t 7)⟩,⟨some 9,none,.bin .gtr .other true (.t 8) (.c (.int .i64 20))⟩]) (.cond (.t 9) (.seq (.reg [4] [⟨some 4,none,.mv (.c (.bool false))⟩]) .ret) .skip)) (.seq (.reg [5,6] [⟨some 11,none,.mv (.t 0)⟩,⟨some 12,none,.conv .toBytes (.t 11)⟩,⟨some 13,none,.call (.c (.fn 51)) [.t 12]⟩,⟨some 10,none,.mv (.t 13)⟩,⟨some 14,none,.extract (.t 10) 0⟩,⟨some 15,none,.extract (.t 10) 1⟩,⟨some 5,none,.mv (.t 14)⟩,⟨some 6,none,.mv (.t 15)⟩]) (.seq (.reg [4] [⟨some 16,none,.mv (.t 6)⟩,⟨some 17,none,.bin .eql .ifc true (.t 16) (.c .inil)⟩,⟨some 18,none,.mv (.t 17)⟩,⟨some 19,some (18,true),.mv (.t 5)⟩,⟨some 20,some (18,true),.len .sl (.t 19)⟩,⟨some 21,some (18,true),.bin .eql .other true (.t 20) (.c (.int .i64 1))⟩,⟨some 22,none,.pick (.t 18) (.t 21) (.c (.bool false))⟩,⟨some 23,none,.mv (.t 22)⟩,⟨some 24,some (23,true),.mv (.t 5)⟩,⟨some 25,some (23,true),.iaddr (some 4) (.t 24) (.c (.int .i64 0))⟩,⟨some 26,some (23,true),.faddr 0 (.t 25)⟩,⟨some 27,some (23,true),.load none (.t 26)⟩,⟨some 28,some (23,true),.mv (.t 1)⟩,⟨some 29,some (23,true),.bin .eql .other false (.t 27) (.t 28)⟩,⟨some 30,none,.pick (.t 23) (.t 29) (.c (.bool false))⟩,⟨some 31,none,.mv (.t 30)⟩,⟨some 32,some (31,true),.mv (.t 5)⟩,⟨some 33,some (31,true),.iaddr (some 4) (.t 32) (.c (.int .i64 0))⟩,⟨some 34,some (31,true),.faddr 3 (.t 33)⟩,⟨some 35,some (31,true),.load none (.t 34)⟩,⟨some 36,some (31,true),.mv (.t 0)⟩,⟨some 37,some (31,true),.bin .eql .other false (.t 35) (.t 36)⟩,⟨some 38,none,.pick (.t 31) (.t 37) (.c (.bool false))⟩,⟨some 4,none,.mv (.t 38)⟩]) .ret))))⟩
theorem c110 : compF Tryz.prog [0, 1, 4, 5, 6, 9] Tryz.f110 = some a110 := by kernel_rfl
def a111 : AFun := ⟨19,[.tmp 4],(.seq (.reg [4] [⟨some 4,none,.mv (.c (.int .i64 0))⟩]) (.seq (.seq (.reg [7,8] [⟨some 6,none,.mv (.t 0)⟩,⟨some 7,none,.len .sl (.t 6)⟩,⟨some 8,none,.mv (.c (.int .i64 0))⟩]) (.block 0 (.loop (.seq (.reg [9] [⟨some 9,none,.bin .lss .other false (.t 8) (.t 7)⟩]) (.seq (.cond (.t 9) .skip (.exit 0)) (.seq (.block 1 (.seq (.reg [5] [⟨some 10,none,.mv (.t 8)⟩,⟨some 5,none,.mv (.t 10)⟩]) (.seq (.reg [16] [⟨some 11,none,.mv (.t 1)⟩,⟨some 12,none,.mv (.t 0)⟩,⟨some 13,none,.mv (.t 5)⟩,⟨some 14,none,.iaddr (some 8) (.t 12) (.t 13)⟩,⟨some 15,none,.load (some 8) (.t 14)⟩,⟨some 16,none,.call (.t 11) [.t 15]⟩]) (.cond (.t 16) (.seq (.reg [4] [⟨some 17,none,.mv (.t 5)⟩,⟨some 4,none,.mv (.t 17)⟩]) .ret) .skip)))) (.reg [8] [⟨some 18,none,.bin .add .other true (.t 8) (.c (.int .i64 1))⟩,⟨some 8,none,.mv (.t 18)⟩]))))))) (.seq (.reg [4] [⟨some 4,none,.mv (.c (.int .i64 (-1)))⟩]) .ret)))⟩
theorem c111 : compF Tryz.prog [0, 1, 4, 5, 7, 8, 9, 16] Tryz.f111 = some a111 := by kernel_rfl
def a134 : AFun := ⟨33,[.tmp 2],(.seq (.reg [2] [⟨some 2,none,.mv (.c (.bool false))⟩]) (.seq (.reg [2] [⟨some 3,none,.mv (.t 0)⟩,⟨some 4,none,.bin .eql .other true (.t 3) (.c (.str [43]))⟩,⟨some 5,none,.mv (.t 4)⟩,⟨some 6,some (5,false),.mv (.t 0)⟩,⟨some 7,some (5,false),.bin .eql .other true (.t 6) (.c (.str [45]))⟩,⟨some 8,none,.pick (.t 5) (.c (.bool true)) (.t 7)⟩,⟨some 9,none,.mv (.t 8)⟩,⟨some 10,some (9,false),.mv (.t 0)⟩,⟨some 11,some (9,false),.bin .eql .other true (.t 10) (.c (.str [42]))⟩,⟨some 12,none,.pick (.t 9) (.c (.bool true)) (.t 11)⟩,⟨some 13,none,.mv (.t 12)⟩,⟨some 14,some (13,false),.mv (.t 0)⟩,⟨some 15,some (13,false),.bin .eql .other true (.t 14) (.c (.str [47]))⟩,⟨some 16,none,.pick (.t 13) (.c (.bool true)) (.t 15)⟩,⟨some 17,none,.mv (.t 16)⟩,⟨some 18,some (17,false),.mv (.t 0)⟩,⟨some 19,some (17,false),.bin .eql .other true (.t 18) (.c (.str [60]))⟩,⟨some 20,none,.pick (.t 17) (.c (.bool true)) (.t 19)⟩,⟨some 21,none,.mv (.t 20)⟩,⟨some 22,some (21,false),.mv (.t 0)⟩,⟨some 23,some (21,false),.bin .eql .other true (.t 22) (.c (.str [61,61]))⟩,⟨some 24,none,.pick (.t 21) (.c (.bool true)) (.t 23)⟩,⟨some 25,none,.mv (.t 24)⟩,⟨some 26,some (25,false),.mv (.t 0)⟩,⟨some 27,some (25,false),.bin .eql .other true (.t 26) (.c (.str [94]))⟩,⟨some 28,none,.pick (.t 25) (.c (.bool true)) (.t 27)⟩,⟨some 29,none,.mv (.t 28)⟩,⟨some 30,some (29,false),.mv (.t 0)⟩,⟨some 31,some (29,false),.bin .eql .other true (.t 30) (.c (.str [35]))⟩,⟨some 32,none,.pick (.t 29) (.c (.bool true)) (.t 31)⟩,⟨some 2,none,.mv (.t 32)⟩]) .ret))⟩
theorem c134 : compF Tryz.prog [0, 2] Tryz.f134 = some a134 := by kernel_rfl
def a142 : AFun := ⟨23,[.tmp 0],(.seq (.reg [0] [⟨some 0,none,.mv (.c .mnil)⟩]) (.seq (.reg [0] [⟨some 1,none,.ext .mkmap []⟩,⟨some 2,none,.build [.int .i64 0,.bool false,.bool false,.bool false,.bool false] []⟩,⟨none,none,.ext (.mput (.int .i64)) [.t 1,.c (.int .i64 1),.t 2]⟩,⟨some 3,none,.build [.int .i64 0,.bool false,.bool false,.bool false,.bool false] []⟩,⟨none,none,.ext (.mput (.int .i64)) [.t 1,.c (.int .i64 2),.t 3]⟩,⟨some 4,none,.build [.int .i64 0,.bool false,.bool false,.bool false,.bool false] [(1,1,.c (.bool true))]⟩,⟨none,none,.ext (.mput (.int .i64)) [.t 1,.c (.int .i64 3),.t 4]⟩,⟨some 5,none,.build [.int .i64 0,.bool false,.bool false,.bool false,.bool false] []⟩,⟨none,none,.ext (.mput (.int .i64)) [.t 1,.c (.int .i64 22),.t 5]⟩,⟨some 6,none,.build [.int .i64 0,.bool false,.bool false,.bool false,.bool false] [(0,1,.c (.int .i64 1)),(1,1,.c (.bool true))]⟩,⟨none,none,.ext (.mput (.int .i64)) [.t 1,.c (.int .i64 4),.t 6]⟩,⟨some 7,none,.build [.int .i64 0,.bool false,.bool false,.bool false,.bool false] [(0,1,.c (.int .i64 2))]⟩,⟨none,none,.ext (.mput (.int .i64)) [.t 1,.c (.int .i64 5),.t 7]⟩,⟨some 8,none,.build [.int .i64 0,.bool false,.bool false,.bool false,.bool false] [(0,1,.c (.int .i64 2)),(1,1,.c (.bool true))]⟩,⟨none,none,.ext (.mput (.int .i64)) [.t 1,.c (.int .i64 6),.t 8]⟩,⟨some 9,none,.build [.int .i64 0,.bool false,.bool false,.bool false,.bool false] [(0,1,.c (.int .i64 2)),(1,1,.c (.bool true))]⟩,⟨none,none,.ext (.mput (.int .i64)) [.t 1,.c (.int .i64 7),.t 9]⟩,⟨some 10,none,.build [.int .i64 0,.bool false,.bool false,.bool false,.bool false] [(0,1,.c (.int .i64 1)),(2,1,.c (.bool true))]⟩,⟨none,none,.ext (.mput (.int .i64)) [.t 1,.c (.int .i64 9),.t 10]⟩,⟨some 11,none,.build [.int .i64 0,.bool false,.bool false,.bool false,.bool false] [(0,1,.c (.int .i64 2)),(2,1,.c (.bool true))]⟩,⟨none,none,.ext (.mput (.int .i64)) [.t 1,.c (.int .i64 10),.t 11]⟩,⟨some 12,none,.build [.int .i64 0,.bool false,.bool false,.bool false,.bool false] [(0,1,.c (.int .i64 1)),(2,1,.c (.bool true))]⟩,⟨none,none,.ext (.mput (.int .i64)) [.t 1,.c (.int .i64 11),.t 12]⟩,⟨some 13,none,.build [.int .i64 0,.bool false,.bool false,.bool false,.bool false] [(0,1,.c (.int .i64 2)),(2,1,.c (.bool true))]⟩,⟨none,none,.ext (.mput (.int .i64)) [.t 1,.c (.int .i64 12),.t 13]⟩,⟨some 14,none,.build [.int .i64 0,.bool false,.bool false,.bool false,.bool false] [(0,1,.c (.int .i64 1)),(3,1,.c (.bool true))]⟩,⟨none,none,.ext (.mput (.int .i64)) [.t 1,.c (.int .i64 13),.t 14]⟩,⟨some 15,none,.build [.int .i64 0,.bool false,.bool false,.bool false,.bool false] [(0,1,.c (.int .i64 3))]⟩,⟨none,none,.ext (.mput (.int .i64)) [.t 1,.c (.int .i64 15),.t 15]⟩,⟨some 16,none,.build [.int .i64 0,.bool false,.bool false,.bool false,.bool false] [(0,1,.c (.int .i64 2)),(4,1,.c (.bool true))]⟩,⟨none,none,.ext (.mput (.int .i64)) [.t 1,.c (.int .i64 16),.t 16]⟩,⟨some 17,none,.build [.int .i64 0,.bool false,.bool false,.bool false,.bool false] [(0,1,.c (.int .i64 1))]⟩,⟨none,none,.ext (.mput (.int .i64)) [.t 1,.c (.int .i64 17),.t 17]⟩,⟨some 18,none,.build [.int .i64 0,.bool false,.bool false,.bool false,.bool false] [(0,1,.c (.int .i64 1))]⟩,⟨none,none,.ext (.mput (.int .i64)) [.t 1,.c (.int .i64 18),.t 18]⟩,⟨some 19,none,.build [.int .i64 0,.bool false,.bool false,.bool false,.bool false] [(0,1,.c (.int .i64 2))]⟩,⟨none,none,.ext (.mput (.int .i64)) [.t 1,.c (.int .i64 19),.t 19]⟩,⟨some 20,none,.build [.int .i64 0,.bool false,.bool false,.bool false,.bool false] [(0,1,.c (.int .i64 1))]⟩,⟨none,none,.ext (.mput (.int .i64)) [.t 1,.c (.int .i64 20),.t 20]⟩,⟨some 21,none,.build [.int .i64 0,.bool false,.bool false,.bool false,.bool false] [(0,1,.c (.int .i64 1))]⟩,⟨none,none,.ext (.mput (.int .i64)) [.t 1,.c (.int .i64 21),.t 21]⟩,⟨some 22,none,.mv (.t 1)⟩,⟨some 0,none,.mv (.t 22)⟩]) .ret))⟩
theorem c142 : compF Tryz.prog [0] Tryz.f142 = some a142 := by kernel_rfl
def a143 : AFun := ⟨9,[.tmp 4],(.seq (.reg [4] [⟨some 4,none,.mv (.c (.bool false))⟩]) (.seq (.reg [4] [⟨some 5,none,.mv (.t 0)⟩,⟨some 6,none,.mv (.t 1)⟩,⟨some 7,none,.call (.c (.fn 177)) [.t 5,.t 6]⟩,⟨some 8,none,.bin .geq .other true (.t 7) (.c (.int .i64 0))⟩,⟨some 4,none,.mv (.t 8)⟩]) .ret))⟩
theorem c143 : compF Tryz.prog [0, 1, 4] Tryz.f143 = some a143 := by kernel_rfl
def a144 : AFun := ⟨8,[.tmp 3],(.seq (.reg [3] [⟨some 3,none,.mv (.c (.bool false))⟩]) (.seq (.reg [3] [⟨some 4,none,.mv (.t 0)⟩,⟨some 5,none,.load none (.t 1)⟩,⟨some 6,none,.call (.c (.fn 110)) [.t 4,.t 5]⟩,⟨some 7,none,.un .not (.t 6)⟩,⟨some 3,none,.mv (.t 7)⟩]) .ret))⟩
theorem c144 : compF Tryz.prog [0, 1, 3] Tryz.f144 = some a144 := by kernel_rfl
def a177 : AFun := ⟨19,[.tmp 4],(.seq (.reg [4] [⟨some 4,none,.mv (.c (.int .i64 0))⟩]) (.seq (.seq (.reg [7,8] [⟨some 6,none,.mv (.t 0)⟩,⟨some 7,none,.len .sl (.t 6)⟩,⟨some 8,none,.mv (.c (.int .i64 0))⟩]) (.block 0 (.loop (.seq (.reg [9] [⟨some 9,none,.bin .lss .other false (.t 8) (.t 7)⟩]) (.seq (.cond (.t 9) .skip (.exit 0)) (.seq (.block 1 (.seq (.reg [5] [⟨some 10,none,.mv (.t 8)⟩,⟨some 5,none,.mv (.t 10)⟩]) (.seq (.reg [16] [⟨some 11,none,.mv (.t 1)⟩,⟨some 12,none,.mv (.t 0)⟩,⟨some 13,none,.mv (.t 5)⟩,⟨some 14,none,.iaddr none (.t 12) (.t 13)⟩,⟨some 15,none,.load none (.t 14)⟩,⟨some 16,none,.call (.t 11) [.t 15]⟩]) (.cond (.t 16) (.seq (.reg [4] [⟨some 17,none,.mv (.t 5)⟩,⟨some 4,none,.mv (.t 17)⟩]) .ret) .skip)))) (.reg [8] [⟨some 18,none,.bin .add .other true (.t 8) (.c (.int .i64 1))⟩,⟨some 8,none,.mv (.t 18)⟩]))))))) (.seq (.reg [4] [⟨some 4,none,.mv (.c (.int .i64 (-1)))⟩]) .ret)))⟩
theorem c177 : compF Tryz.prog [0, 1, 4, 5, 7, 8, 9, 16] Tryz.f177 = some a177 := by kernel_rfl
end Go.Proofs.YtpdeaekmgljeaaaGreatDoor
set_option linter.unusedVariables false
set_option linter.unusedSimpArgs false
namespace Go.Abs
open Go Go.ChangeShapes Go.WideShapes Go.RowKit
mutual
def V.bulk : V → Nat
  | .str s => s.length + 1
  | .sl _ _ xs => V.bulkL xs + 1
  | .agg cs => V.bulkL cs
  | _ => 1
def V.bulkL : List V → Nat
  | [] => 0
  | x :: xs => x.bulk + V.bulkL xs
end
theorem V.bulkL_append (a b : List V) : V.bulkL (a ++ b) = V.bulkL a + V.bulkL b := by
  induction a with
  | nil => simp [V.bulkL]
  | cons x a ih => simp [V.bulkL, ih, Nat.add_assoc]
theorem V.bulk_cells (x : V) : V.bulkL x.cells = x.bulk := by cases x <;> simp [V.cells, V.bulk, V.bulkL]
inductive Ty (P : Program) : TypeId → List V → Prop where
  | bool (t : TypeId) (h : P.underlying t = some .bool) (b : Bool) : Ty P t [.bool b]
  | int (t : TypeId) (k : IntKind) (h : P.underlying t = some (.int k)) (n : Int) (hn : inR k n) : Ty P t [.int k n]
  | str (t : TypeId) (h : P.underlying t = some .string) (s : List UInt8) (hs : s.length ≤ maxLen) : Ty P t [.str s]
  | sl (t e : TypeId) (sh : Sh) (h : P.underlying t = some (.slice e)) (hsh : tsh P e = some sh) (xs : List V) (hl : xs.length ≤ maxLen) (hs : ∀ x ∈ xs, x.shape = sh) (hx : ∀ x ∈ xs, Ty P e x.cells) : Ty P t [.sl sh false xs]
  | struct (t : TypeId) (fs : Array Field) (h : P.underlying t = some (.struct fs)) (parts : List (List V)) (hl : parts.length = fs.size) (hf : ∀ (i : Nat) f p, fs[i]? = some f → parts[i]? = some p → Ty P f.type p) : Ty P t parts.flatten
def laidFs (P : Program) : Nat → List Field → Nat → Bool
  | off, [], n => off == n
  | off, f :: fs, n => f.offset == off && laidFs P (off + P.cellsOf f.type) fs n
def plainSet (P : Program) (T : List TypeId) : Bool := T.all fun t => match P.underlying t with
  | some .bool => true
  | some (.int _) => true
  | some .string => true
  | some (.slice e) => T.contains e && (match tsh P e with | some sh => decide (0 < shn sh) && decide (shn sh = P.cellsOf e) | none => false)
  | some (.struct fs) => fs.toList.all (fun f => T.contains f.type) && laidFs P 0 fs.toList (P.cellsOf t)
  | _ => false
theorem inR_of_wf {k : IntKind} {n : Int} (h : (Lit.int k n).wf = true) : inR k n := by simpa [Lit.wf, inR] using h
section
variable {H : Type} {enc : TypeId × Value → H} {P : Program} {w : World} {sp : Nat → Bool} {held : Bool}
structure Cs (P : Program) (w : World) (t : TypeId) (cs : List Value) (d : DataW H) (vs : List V) : Prop where
  ty : Ty P t vs
  len : vs.length = cs.length
  one : ∀ c ∈ vs, c.one = true
  rep : ∀ (i : Nat) c u, vs[i]? = some c → cs[i]? = some u → RepV w (fun b _ => b < w.heap.size) c u
  bulk : V.bulkL vs ≤ Go.Proofs.YtpdeaekmgljeaaaGreatDoor.Rows.uptoBulk d
theorem cs_one {t : TypeId} {u : Value} {d : DataW H} {x : V} (h : Ty P t [x]) (h1 : x.one = true) (hr : RepV w (fun b _ => b < w.heap.size) x u) (hb : x.bulk ≤ Go.Proofs.YtpdeaekmgljeaaaGreatDoor.Rows.uptoBulk d) : Cs P w t [u] d [x] :=
  ⟨h, rfl, by simpa using h1, fun i c v hc hv => by
    cases i with
    | zero => simp at hc hv; subst hc hv; exact hr
    | succ i => simp at hc, by simpa [V.bulkL] using hb⟩
theorem mapM_some_get' {α β : Type} {f : α → Option β} : ∀ {l : List α} {r : List β}, l.mapM f = some r → ∀ (i : Nat) a, l[i]? = some a → ∃ b, f a = some b ∧ r[i]? = some b
  | [], r, h, i, a, hi => by simp at hi
  | x :: l, r, h, i, a, hi => by
    simp only [List.mapM_cons, Option.pure_def, Option.bind_eq_bind, Option.bind_eq_some_iff] at h
    obtain ⟨b, hb, rs, hrs, he⟩ := h
    cases he
    cases i with
    | zero => simp at hi; subst hi; exact ⟨b, hb, rfl⟩
    | succ i => simpa using mapM_some_get' hrs i a (by simpa using hi)
theorem cs_fields {n : Nat} {cs : List Value} {all : List TypeId} (ih : ∀ (t : TypeId) (cs : List Value) (x : DataW H × List MemPlace), t ∈ all → DataW.trod enc P w 0 sp held n t cs = some x → ∃ vs, Cs P w t cs x.1 vs) :
    ∀ (fs : List Field) (off : Nat) (xs : List (DataW H × List MemPlace)), (∀ f ∈ fs, f.type ∈ all) → laidFs P off fs cs.length = true → xs.length = fs.length →
      (∀ (i : Nat) (f : Field), fs[i]? = some f → DataW.trod enc P w 0 sp held n f.type ((cs.drop f.offset).take (P.cellsOf f.type)) = xs[i]?) →
      ∃ parts : List (List V), parts.length = fs.length ∧ (∀ (i : Nat) f p, fs[i]? = some f → parts[i]? = some p → Ty P f.type p) ∧ off ≤ cs.length ∧ parts.flatten.length = cs.length - off ∧ (∀ c ∈ parts.flatten, c.one = true) ∧
        (∀ (i : Nat) c u, parts.flatten[i]? = some c → cs[off + i]? = some u → RepV w (fun b _ => b < w.heap.size) c u) ∧ V.bulkL parts.flatten ≤ Go.Proofs.YtpdeaekmgljeaaaGreatDoor.Rows.uptoBulkAll (xs.map (·.1))
  | [], off, xs, _, hl, hx, _ => by
    have hx0 : xs = [] := List.eq_nil_of_length_eq_zero hx
    subst hx0
    have : off = cs.length := by simpa [laidFs] using hl
    exact ⟨[], rfl, by simp, by omega, by simp [this], by simp, by simp, by simp [V.bulkL, Go.Proofs.YtpdeaekmgljeaaaGreatDoor.Rows.uptoBulkAll]⟩
  | f :: fs, off, [], _, _, hx, _ => by simp at hx
  | f :: fs, off, x :: xs, hT, hl, hx, hr => by
    simp only [laidFs, Bool.and_eq_true, beq_iff_eq] at hl
    obtain ⟨ho, hl⟩ := hl
    obtain ⟨parts, p1, p2, p3, p4, p5, p6, p7⟩ := cs_fields ih fs _ xs (fun g hg => hT g (by simp [hg])) hl (by simpa using hx) fun i g hg => by simpa using hr (i + 1) g (by simpa using hg)
    obtain ⟨vs, hvs⟩ := ih f.type _ x (hT f (by simp)) (by simpa using hr 0 f rfl)
    have hlen : vs.length = P.cellsOf f.type := by
      have := hvs.len
      rw [ho] at this
      simp at this
      omega
    refine ⟨vs :: parts, by simp [p1], fun i g p hg hp => ?_, by omega, by simp [p4, hlen]; omega, fun c hc => ?_, fun i c u hc hu => ?_, ?_⟩
    · cases i with
      | zero => simp at hg hp; subst hg hp; exact hvs.ty
      | succ i => exact p2 i g p (by simpa using hg) (by simpa using hp)
    · simp only [List.flatten_cons, List.mem_append] at hc
      rcases hc with hc | hc
      · exact hvs.one c hc
      · exact p5 c hc
    · simp only [List.flatten_cons] at hc
      rcases Nat.lt_or_ge i vs.length with hlt | hge
      · rw [List.getElem?_append_left hlt] at hc
        refine hvs.rep i c u hc ?_
        rw [ho, List.getElem?_take, if_pos (by omega), List.getElem?_drop]
        exact hu
      · rw [List.getElem?_append_right hge] at hc
        refine p6 (i - vs.length) c u hc ?_
        rw [hlen] at hge ⊢
        rw [show off + P.cellsOf f.type + (i - P.cellsOf f.type) = off + i by omega]
        exact hu
    · simp only [List.flatten_cons, V.bulkL_append, List.map_cons, Go.Proofs.YtpdeaekmgljeaaaGreatDoor.Rows.uptoBulkAll]
      have := hvs.bulk
      omega
theorem cells?_get {w : World} {a : Addr} {n : Nat} {cs : List Value} (h : w.cells? 0 a n = some cs) : cs.length = n ∧ ∀ i, i < n → ∃ u, cs[i]? = some u ∧ w.cell? (a.add i) = some u := by
  unfold World.cells? at h
  rw [if_pos (Nat.zero_le _)] at h
  have hl : cs.length = n := by simpa using mapM_some_length h
  refine ⟨hl, fun i hi => ?_⟩
  obtain ⟨u, h1, h2⟩ := mapM_some_get' h i i (List.getElem?_range hi)
  exact ⟨u, h2, h1⟩
theorem cell?_lt {w : World} {a : Addr} {u : Value} (h : w.cell? a = some u) : a.block < w.heap.size ∧ a.spot = none := by
  unfold World.cell? at h
  split at h
  · rename_i hb
    split at h
    · cases h
    · rename_i hs
      refine ⟨(Array.getElem?_eq_some_iff.1 hb).1, ?_⟩
      cases hsp : a.spot with
      | none => rfl
      | some s => rw [hsp] at hs; simp at hs
  · cases h
theorem choose_list {Q : Nat → V → Prop} : ∀ (n : Nat), (∀ i, i < n → ∃ x, Q i x) → ∃ xs : List V, xs.length = n ∧ ∀ (i : Nat) x, xs[i]? = some x → Q i x
  | 0, _ => ⟨[], rfl, by simp⟩
  | n + 1, h => by
    obtain ⟨xs, h1, h2⟩ := choose_list n fun i hi => h i (by omega)
    obtain ⟨x, hx⟩ := h n (by omega)
    refine ⟨xs ++ [x], by simp [h1], fun i y hy => ?_⟩
    rcases Nat.lt_or_ge i xs.length with hlt | hge
    · rw [List.getElem?_append_left hlt] at hy
      exact h2 i y hy
    · rw [List.getElem?_append_right hge] at hy
      have h3 := (List.getElem?_eq_some_iff.1 hy).1
      simp at h3
      have h4 : i = n := by omega
      have h5 : i - xs.length = 0 := by omega
      rw [h5] at hy
      simp at hy
      subst hy h4
      exact hx
theorem addr_eta {a : Addr} (h : a.spot = none) : a = ⟨a.block, a.off, none⟩ := by
  cases a
  simp only at h
  subst h
  rfl
theorem cs_of_trod {T : List TypeId} (hT : plainSet P T = true) : ∀ (n : Nat) (t : TypeId) (cs : List Value) (x : DataW H × List MemPlace), t ∈ T → DataW.trod enc P w 0 (fun _ => true) held n t cs = some x → ∃ vs, Cs P w t cs x.1 vs
  | 0, t, cs, x, _, h => by simp [DataW.trod] at h
  | n + 1, t, cs, x, ht, h => by
    have hp := List.all_eq_true.1 hT t ht
    split at hp
    · rename_i hu
      obtain ⟨b, rfl, rfl⟩ := DataW.trod_bool hu h
      exact ⟨[.bool b], cs_one (.bool t hu b) rfl (.bool b) (by simp [V.bulk, Go.Proofs.YtpdeaekmgljeaaaGreatDoor.Rows.uptoBulk])⟩
    · rename_i k hu
      obtain ⟨z, rfl, rfl, hw⟩ := DataW.trod_int hu h
      exact ⟨[.int k z], cs_one (.int t k hu z (inR_of_wf hw)) rfl (.int k z (inR_of_wf hw)) (by simp [V.bulk, Go.Proofs.YtpdeaekmgljeaaaGreatDoor.Rows.uptoBulk])⟩
    · rename_i hu
      obtain ⟨s, rfl, rfl, hw⟩ := DataW.trod_string hu h
      have hw' : s.data.toList.length ≤ maxLen := hw
      refine ⟨[.str s.data.toList], cs_one (.str t hu _ hw') rfl ?_ (by simp [V.bulk, Go.Proofs.YtpdeaekmgljeaaaGreatDoor.Rows.uptoBulk])⟩
      have := RepV.str (w := w) (F := fun b _ => b < w.heap.size) s.data.toList hw'
      simpa using this
    · rename_i e hu
      simp only [Bool.and_eq_true, List.contains_iff_mem] at hp
      obtain ⟨he, hp⟩ := hp
      split at hp
      · rename_i sh hsh
        simp only [Bool.and_eq_true, decide_eq_true_eq] at hp
        obtain ⟨h0, hc⟩ := hp
        rcases DataW.trod_slice hu h with ⟨rfl, rfl⟩ | ⟨a, len, cap, elems, rest, n', hn, rfl, rfl, _, hl, hm, hlen, hel, hsp, _⟩
        · refine ⟨[.sl sh false []], cs_one (.sl t e sh hu hsh [] (Nat.zero_le _) (by simp) (by simp)) rfl (.slNil sh false none) (by simp [V.bulk, V.bulkL, Go.Proofs.YtpdeaekmgljeaaaGreatDoor.Rows.uptoBulk])⟩
        · cases hn
          have ih := cs_of_trod hT n
          -- the elements, one by one
          have elem : ∀ i, i < len → ∃ x : V, x.shape = sh ∧ Ty P e x.cells ∧ (∀ c ∈ x.cells, c.one = true) ∧ (∃ y, elems[i]? = some y ∧ x.bulk ≤ Go.Proofs.YtpdeaekmgljeaaaGreatDoor.Rows.uptoBulk y.1) ∧
              ∀ j, j < shn sh → ∃ c u, x.cells[j]? = some c ∧ w.cell? ⟨a.block, a.off + (i * shn sh + j), none⟩ = some u ∧ a.spot = none ∧ a.block < w.heap.size ∧ RepV w (fun b _ => b < w.heap.size) c u := by
            intro i hi
            have h1 := hel i hi
            obtain ⟨y, hy⟩ : ∃ y, elems[i]? = some y := ⟨_, List.getElem?_eq_getElem (by omega)⟩
            rw [hy, Option.bind_eq_some_iff] at h1
            obtain ⟨cs', hcs', hrd⟩ := h1
            obtain ⟨vs, hvs⟩ := ih e cs' y he hrd
            obtain ⟨hcl, hcc⟩ := cells?_get hcs'
            have hvl : vs.length = shn sh := by rw [hvs.len, hcl, hc]
            have fin : ∀ x : V, x.cells = vs → x.shape = sh → ∃ x : V, x.shape = sh ∧ Ty P e x.cells ∧ (∀ c ∈ x.cells, c.one = true) ∧ (∃ y, elems[i]? = some y ∧ x.bulk ≤ Go.Proofs.YtpdeaekmgljeaaaGreatDoor.Rows.uptoBulk y.1) ∧
                ∀ j, j < shn sh → ∃ c u, x.cells[j]? = some c ∧ w.cell? ⟨a.block, a.off + (i * shn sh + j), none⟩ = some u ∧ a.spot = none ∧ a.block < w.heap.size ∧ RepV w (fun b _ => b < w.heap.size) c u := by
              intro x hx hxs
              refine ⟨x, hxs, hx ▸ hvs.ty, hx ▸ hvs.one, ⟨y, hy, by rw [← V.bulk_cells, hx]; exact hvs.bulk⟩, fun j hj => ?_⟩
              obtain ⟨u, hu1, hu2⟩ := hcc j (by omega)
              obtain ⟨c, hcj⟩ : ∃ c, vs[j]? = some c := ⟨_, List.getElem?_eq_getElem (by omega)⟩
              have hlt := cell?_lt hu2
              have hspot : a.spot = none := by
                have h2 := hlt.2
                unfold Addr.add at h2
                by_cases hj0 : j = 0
                · subst hj0
                  rw [if_pos rfl] at h2
                  by_cases hi0 : i * P.cellsOf e = 0
                  · rw [if_pos hi0] at h2; exact h2
                  · -- the first cell of all
                    have hi1 : 0 < i := Nat.pos_of_ne_zero fun h => hi0 (by rw [h, Nat.zero_mul])
                    have h3 := hel 0 (by omega)
                    obtain ⟨y0, hy0⟩ : ∃ y, elems[0]? = some y := ⟨_, List.getElem?_eq_getElem (by omega)⟩
                    rw [hy0, Option.bind_eq_some_iff] at h3
                    obtain ⟨cs0, hcs0, _⟩ := h3
                    obtain ⟨u0, _, hu0⟩ := (cells?_get hcs0).2 0 (by omega)
                    have := (cell?_lt hu0).2
                    simpa [Addr.add] using this
                · have h3 := hel 0 (by omega)
                  obtain ⟨y0, hy0⟩ : ∃ y, elems[0]? = some y := ⟨_, List.getElem?_eq_getElem (by omega)⟩
                  rw [hy0, Option.bind_eq_some_iff] at h3
                  obtain ⟨cs0, hcs0, _⟩ := h3
                  obtain ⟨u0, _, hu0⟩ := (cells?_get hcs0).2 0 (by omega)
                  have := (cell?_lt hu0).2
                  simpa [Addr.add] using this
              have ha : (a.add (i * P.cellsOf e)).add j = ⟨a.block, a.off + (i * shn sh + j), none⟩ := by
                rw [← hc]
                cases a with
                | mk b o s =>
                  simp only at hspot
                  subst hspot
                  simp only [Addr.add]
                  split <;> split <;> simp_all <;> omega
              rw [ha] at hu2
              exact ⟨c, u, by rw [hx]; exact hcj, hu2, hspot, (cell?_lt hu2).1, hvs.rep j c u hcj hu1⟩
            cases sh with
            | none =>
              match vs, hvl, hvs with
              | [c], _, hvs =>
                have h1 := hvs.one c (by simp)
                exact fin c (by cases c <;> first | rfl | simp [V.one] at h1) (by cases c <;> first | rfl | simp [V.one] at h1)
            | some k => exact fin (.agg vs) rfl (by simp [V.shape]; exact hvl)
          obtain ⟨xs, hxl, hxs⟩ := choose_list len elem
          have hmemx : ∀ x ∈ xs, ∃ i, i < len ∧ xs[i]? = some x := fun x hx => by
            obtain ⟨i, hi⟩ := List.mem_iff_getElem?.1 hx
            exact ⟨i, by rw [← hxl]; exact (List.getElem?_eq_some_iff.1 hi).1, hi⟩
          have hshape : ∀ x ∈ xs, x.shape = sh := fun x hx => by obtain ⟨i, _, hi⟩ := hmemx x hx; exact (hxs i x hi).1
          have hone : ∀ c ∈ V.flat xs, c.one = true := fun c hc => by
            obtain ⟨x, hx, hcx⟩ := List.mem_flatMap.1 hc
            obtain ⟨i, _, hi⟩ := hmemx x hx
            exact (hxs i x hi).2.2.1 c hcx
          have hty : Ty P t [.sl sh false xs] := .sl t e sh hu hsh xs (by omega) hshape fun x hx => by obtain ⟨i, _, hi⟩ := hmemx x hx; exact (hxs i x hi).2.1
          have hbulk : V.bulkL xs ≤ Go.Proofs.YtpdeaekmgljeaaaGreatDoor.Rows.uptoBulkAll (elems.map (·.1)) := by
            have key : ∀ (xs : List V) (es : List (DataW H × List MemPlace)), xs.length = es.length → (∀ (i : Nat) x, xs[i]? = some x → ∃ y, es[i]? = some y ∧ x.bulk ≤ Go.Proofs.YtpdeaekmgljeaaaGreatDoor.Rows.uptoBulk y.1) → V.bulkL xs ≤ Go.Proofs.YtpdeaekmgljeaaaGreatDoor.Rows.uptoBulkAll (es.map (·.1)) := by
              intro xs
              induction xs with
              | nil => intro es _ _; simp [V.bulkL]
              | cons x xs ih3 =>
                intro es hl hh
                cases es with
                | nil => simp at hl
                | cons y es =>
                  have h1 := ih3 es (by simpa using hl) fun i x hx => by simpa using hh (i + 1) x (by simpa using hx)
                  obtain ⟨y', hy', hb⟩ := hh 0 x rfl
                  simp at hy'
                  subst hy'
                  simp only [V.bulkL, List.map_cons, Go.Proofs.YtpdeaekmgljeaaaGreatDoor.Rows.uptoBulkAll]
                  omega
            exact key xs elems (by omega) fun i x hx => (hxs i x hx).2.2.2.1
          refine ⟨[.sl sh false xs], cs_one hty rfl ?_ ?_⟩
          · by_cases hx0 : xs = []
            · subst hx0
              have hl0 : len = 0 := by simpa using hxl.symm
              subst hl0
              by_cases hc0 : cap = 0
              · subst hc0; exact .slNil sh false (some a)
              · -- room to spare: its first cell is read too
                obtain ⟨hr1, hr2⟩ := hsp rfl
                have h3 := hr2 0 (by omega)
                obtain ⟨y0, hy0⟩ : ∃ y, rest[0]? = some y := ⟨_, List.getElem?_eq_getElem (by omega)⟩
                rw [hy0, Option.bind_eq_some_iff] at h3
                obtain ⟨cs0, hcs0, _⟩ := h3
                obtain ⟨u0, _, hu0⟩ := (cells?_get hcs0).2 0 (by omega)
                have hspot := (cell?_lt hu0).2
                simp only [Nat.zero_add, Nat.zero_mul, Addr.add, if_true] at hspot
                have ha : a = ⟨a.block, a.off, none⟩ := addr_eta hspot
                rw [ha]
                exact .sl sh false [] a.block a.off cap (fun _ => undef) (by simp) (by simp [V.flat]) (by simp) hm (by simp) (by simp) (by simp [V.flat])
            · have hpos : 0 < xs.length := List.length_pos_iff.2 hx0
              obtain ⟨x0, hx0'⟩ : ∃ x, xs[0]? = some x := ⟨_, List.getElem?_eq_getElem hpos⟩
              obtain ⟨_, _, _, _, hspot, _, _⟩ := (hxs 0 x0 hx0').2.2.2.2 0 h0
              have ha : a = ⟨a.block, a.off, none⟩ := addr_eta hspot
              rw [ha, ← hxl]
              have hcell : ∀ k, k < xs.length * shn sh → ∃ c u, (V.flat xs)[k]? = some c ∧ w.cell? ⟨a.block, a.off + k, none⟩ = some u ∧ a.block < w.heap.size ∧ RepV w (fun b _ => b < w.heap.size) c u := by
                intro k hk
                have hi : k / shn sh < xs.length := Nat.div_lt_of_lt_mul (by rw [Nat.mul_comm]; exact hk)
                have hj : k % shn sh < shn sh := Nat.mod_lt _ h0
                obtain ⟨x, hx⟩ : ∃ x, xs[k / shn sh]? = some x := ⟨_, List.getElem?_eq_getElem hi⟩
                obtain ⟨c, u, h1, h2, _, h4, h5⟩ := (hxs _ x hx).2.2.2.2 _ hj
                have hk' : k / shn sh * shn sh + k % shn sh = k := Nat.div_add_mod' k (shn sh)
                rw [hk'] at h2
                refine ⟨c, u, ?_, h2, h4, h5⟩
                have hfl : ∀ (l : List V) (i j : Nat) (x : V), (∀ x ∈ l, x.shape = sh) → l[i]? = some x → j < shn sh → (V.flat l)[i * shn sh + j]? = x.cells[j]? := by
                  intro l
                  induction l with
                  | nil => intro i j x _ h; simp at h
                  | cons y l ih4 =>
                    intro i j x hs h hj
                    have hyl : y.cells.length = shn sh := by rw [V.cells_length, hs y (by simp)]
                    simp only [V.flat, List.flatMap_cons]
                    cases i with
                    | zero => simp at h; subst h; rw [Nat.zero_mul, Nat.zero_add, List.getElem?_append_left (by omega)]
                    | succ i =>
                      rw [List.getElem?_append_right (by rw [hyl, Nat.add_mul]; omega), hyl, show (i + 1) * shn sh + j - shn sh = i * shn sh + j by rw [Nat.add_mul]; omega]
                      exact ih4 i j x (fun z hz => hs z (by simp [hz])) (by simpa using h) hj
                rw [← hk', hfl xs _ _ x hshape hx hj, h1]
              refine .sl sh false xs a.block a.off cap (fun k => (w.cell? ⟨a.block, a.off + k, none⟩).getD undef) hshape hone (by omega) hm (by simp) (fun k hk => ?_) fun k c hk => ?_
              · obtain ⟨c, u, _, h2, h3, _⟩ := hcell k hk
                rw [h2]
                exact ⟨rfl, h3⟩
              · have hlt : k < xs.length * shn sh := by rw [← V.flat_length hshape]; exact (List.getElem?_eq_some_iff.1 hk).1
                obtain ⟨c', u, h1, h2, _, h4⟩ := hcell k hlt
                rw [hk] at h1
                cases h1
                rw [h2]
                exact h4
          · simp only [V.bulk, Go.Proofs.YtpdeaekmgljeaaaGreatDoor.Rows.uptoBulk]
            omega
      · cases hp
    · rename_i fs hu
      simp only [Bool.and_eq_true, List.all_eq_true, List.contains_iff_mem] at hp
      obtain ⟨xs, n', hn, rfl, hlen, hxl, hx⟩ := DataW.trod_struct hu h
      cases hn
      obtain ⟨parts, p1, p2, p3, p4, p5, p6, p7⟩ := cs_fields (cs_of_trod hT n) fs.toList 0 xs hp.1 (by rw [hlen]; exact hp.2) (by simpa using hxl) fun i f hf => hx i f (by simpa using hf)
      exact ⟨parts.flatten, .struct t fs hu parts (by simpa using p1) (fun i f p hf hp' => p2 i f p (by simpa using hf) hp'), by simpa using p4, p5, fun i c u hc hu' => p6 i c u hc (by simpa using hu'), by
        simp only [Go.Proofs.YtpdeaekmgljeaaaGreatDoor.Rows.uptoBulk]; omega⟩
    · cases hp
end
section
variable {P : Program} {t : TypeId} {cs : List V}
theorem Ty.bool_inv (hu : P.underlying t = some .bool) (h : Ty P t cs) : ∃ b, cs = [.bool b] := by
  cases h with
  | bool _ _ b => exact ⟨b, rfl⟩
  | int _ k h => rw [hu] at h; cases h
  | str _ h => rw [hu] at h; cases h
  | sl _ e sh h => rw [hu] at h; cases h
  | struct _ fs h => rw [hu] at h; cases h
theorem Ty.int_inv {k : IntKind} (hu : P.underlying t = some (.int k)) (h : Ty P t cs) : ∃ n, cs = [.int k n] ∧ inR k n := by
  cases h with
  | bool _ h b => rw [hu] at h; cases h
  | int _ k h n hn => rw [hu] at h; cases h; exact ⟨n, rfl, hn⟩
  | str _ h => rw [hu] at h; cases h
  | sl _ e sh h => rw [hu] at h; cases h
  | struct _ fs h => rw [hu] at h; cases h
theorem Ty.str_inv (hu : P.underlying t = some .string) (h : Ty P t cs) : ∃ s, cs = [.str s] ∧ s.length ≤ maxLen := by
  cases h with
  | bool _ h b => rw [hu] at h; cases h
  | int _ k h n hn => rw [hu] at h; cases h
  | str _ h s hs => exact ⟨s, rfl, hs⟩
  | sl _ e sh h => rw [hu] at h; cases h
  | struct _ fs h => rw [hu] at h; cases h
theorem Ty.sl_inv {e : TypeId} {sh : Sh} (hu : P.underlying t = some (.slice e)) (hsh : tsh P e = some sh) (h : Ty P t cs) : ∃ xs, cs = [.sl sh false xs] ∧ xs.length ≤ maxLen ∧ ∀ x ∈ xs, x.shape = sh ∧ Ty P e x.cells := by
  cases h with
  | bool _ h b => rw [hu] at h; cases h
  | int _ k h n hn => rw [hu] at h; cases h
  | str _ h s hs => rw [hu] at h; cases h
  | sl _ e sh h hsh' xs hl hs hx => rw [hu] at h; cases h; rw [hsh] at hsh'; cases hsh'; exact ⟨xs, rfl, hl, fun x hx' => ⟨hs x hx', hx x hx'⟩⟩
  | struct _ fs h => rw [hu] at h; cases h
theorem Ty.struct_inv {fs : Array Field} (hu : P.underlying t = some (.struct fs)) (h : Ty P t cs) : ∃ parts : List (List V), cs = parts.flatten ∧ parts.length = fs.size ∧ ∀ (i : Nat) f p, fs[i]? = some f → parts[i]? = some p → Ty P f.type p := by
  cases h with
  | bool _ h b => rw [hu] at h; cases h
  | int _ k h n hn => rw [hu] at h; cases h
  | str _ h s hs => rw [hu] at h; cases h
  | sl _ e sh h => rw [hu] at h; cases h
  | struct _ fs h parts hl hf => rw [hu] at h; cases h; exact ⟨parts, rfl, hl, hf⟩
end
theorem list_of_all {α : Type} {enc : α → V} : ∀ {xs : List V}, (∀ x ∈ xs, ∃ a, x = enc a) → ∃ l : List α, xs = l.map enc
  | [], _ => ⟨[], rfl⟩
  | x :: xs, h => by
    obtain ⟨a, ha⟩ := h x (by simp)
    obtain ⟨l, hl⟩ := list_of_all (enc := enc) (xs := xs) fun y hy => h y (by simp [hy])
    exact ⟨a :: l, by rw [ha, hl]; rfl⟩
structure Arg (P : Program) (t : TypeId) (x : V) : Prop where
  ty : Ty P t x.cells
  sh : tsh P t = some x.shape
def TyAll (P : Program) : List TypeId → List (List V) → Prop
  | [], [] => True
  | t :: ts, p :: ps => Ty P t p ∧ TyAll P ts ps
  | _, _ => False
section
variable {P : Program} {t : TypeId} {x : V}
theorem Arg.one (hs : tsh P t = some none) (h : Arg P t x) : x.cells = [x] := by
  have h1 := h.sh
  rw [hs] at h1
  exact (shape_none (Option.some.inj h1).symm).1
theorem Arg.int {k : IntKind} (hu : P.underlying t = some (.int k)) (hs : tsh P t = some none) (h : Arg P t x) : ∃ n, x = .int k n ∧ inR k n := by
  have h1 := h.ty
  rw [h.one hs] at h1
  obtain ⟨n, e, hn⟩ := h1.int_inv hu
  exact ⟨n, (List.cons.inj e).1, hn⟩
theorem Arg.bool (hu : P.underlying t = some .bool) (hs : tsh P t = some none) (h : Arg P t x) : ∃ b, x = .bool b := by
  have h1 := h.ty
  rw [h.one hs] at h1
  obtain ⟨n, e⟩ := h1.bool_inv hu
  exact ⟨n, (List.cons.inj e).1⟩
theorem Arg.str (hu : P.underlying t = some .string) (hs : tsh P t = some none) (h : Arg P t x) : ∃ s, x = .str s ∧ s.length ≤ maxLen := by
  have h1 := h.ty
  rw [h.one hs] at h1
  obtain ⟨n, e, hn⟩ := h1.str_inv hu
  exact ⟨n, (List.cons.inj e).1, hn⟩
theorem Arg.sl {e : TypeId} {sh : Sh} (hu : P.underlying t = some (.slice e)) (hs : tsh P t = some none) (he : tsh P e = some sh) (h : Arg P t x) : ∃ xs, x = .sl sh false xs ∧ xs.length ≤ maxLen ∧ ∀ y ∈ xs, Arg P e y := by
  have h1 := h.ty
  rw [h.one hs] at h1
  obtain ⟨xs, e1, hn, hx⟩ := h1.sl_inv hu he
  exact ⟨xs, (List.cons.inj e1).1, hn, fun y hy => ⟨(hx y hy).2, by rw [he, (hx y hy).1]⟩⟩
theorem Arg.struct {fs : Array Field} {n : Nat} {ts : List TypeId} (hu : P.underlying t = some (.struct fs)) (hts : fs.toList.map (·.type) = ts) (hs : tsh P t = some (some n)) (h : Arg P t x) : ∃ parts : List (List V), x = .agg parts.flatten ∧ TyAll P ts parts := by
  have h1 := h.sh
  rw [hs] at h1
  obtain ⟨cs, rfl, _⟩ := agg_of_shape (Option.some.inj h1).symm
  obtain ⟨parts, e1, e2, e3⟩ := h.ty.struct_inv hu
  refine ⟨parts, by rw [← e1]; rfl, ?_⟩
  have key : ∀ (l : List Field) (ps : List (List V)), ps.length = l.length → (∀ (i : Nat) f p, l[i]? = some f → ps[i]? = some p → Ty P f.type p) → TyAll P (l.map (·.type)) ps := by
    intro l
    induction l with
    | nil => intro ps hl _; rw [List.eq_nil_of_length_eq_zero hl]; trivial
    | cons f l ih =>
      intro ps hl hp
      cases ps with
      | nil => simp at hl
      | cons p ps => exact ⟨hp 0 f p rfl rfl, ih ps (by simpa using hl) fun i g q h1 h2 => hp (i + 1) g q (by simpa using h1) (by simpa using h2)⟩
  rw [← hts]
  exact key fs.toList parts (by simpa using e2) fun i f p h1 h2 => e3 i f p (by simpa using h1) h2
end
theorem Arg.bytes {P : Program} {t e : TypeId} {x : V} (hu : P.underlying t = some (.slice e)) (hs : tsh P t = some none) (he : P.underlying e = some (.int .u8)) (hse : tsh P e = some none) (h : Arg P t x) : ∃ bs, x = .sl none false (bytesV bs) ∧ bs.length ≤ maxLen := by
  obtain ⟨xs, rfl, hl, hx⟩ := h.sl hu hs hse
  obtain ⟨bs, hb⟩ := list_of_all (enc := fun b : UInt8 => V.int .u8 b.toNat) (xs := xs) fun y hy => by
    obtain ⟨n, rfl, hn⟩ := (hx y hy).int he hse
    simp at hn
    refine ⟨UInt8.ofNat n.toNat, ?_⟩
    have : (UInt8.ofNat n.toNat).toNat = n.toNat := by simp; omega
    rw [this]
    congr 1
    omega
  subst hb
  exact ⟨bs, rfl, by simpa using hl⟩
def Args (P : Program) : List TypeId → List V → Prop
  | [], [] => True
  | t :: ts, x :: xs => Arg P t x ∧ Args P ts xs
  | _, _ => False
section
variable {H : Type} {enc : TypeId × Value → H} {P : Program} {w : World}
theorem arg_of {T : List TypeId} (hT : plainSet P T = true) {t : TypeId} {v : Value} {d : DataW H} {ps : List MemPlace} {base : Nat} (ht : t ∈ T) (hsh : (tsh P t).isSome = true) (hval : Value.okWide P w .any base t v)
    (h : DataW.Trod enc P w 0 (fun _ => true) true t v d ps) : ∃ x, Arg P t x ∧ RepV w (fun b _ => b < w.heap.size) x v ∧ x.bulk ≤ Go.Proofs.YtpdeaekmgljeaaaGreatDoor.Rows.uptoBulk d := by
  obtain ⟨n, hn⟩ := h
  obtain ⟨vs, hvs⟩ := cs_of_trod hT n t _ _ ht hn
  obtain ⟨sh, hsh⟩ := Option.isSome_iff_exists.1 hsh
  obtain ⟨i, d', hi, hu, hq, hsz⟩ := tsh_spec hsh
  have hp := List.all_eq_true.1 hT t ht
  have scal : (∀ cs, v ≠ .agg cs) → d'.isRow = false → ∃ x, Arg P t x ∧ RepV w (fun b _ => b < w.heap.size) x v ∧ x.bulk ≤ Go.Proofs.YtpdeaekmgljeaaaGreatDoor.Rows.uptoBulk d := by
    intro hv hr
    have hc : v.cells.toList = [v] := by cases v <;> first | rfl | exact absurd rfl (hv _)
    have hlen := hvs.len
    rw [hc] at hlen
    match vs, hlen, hvs with
    | [x], _, hvs =>
      have h1 := hvs.one x (by simp)
      have hxc : x.cells = [x] := by cases x <;> first | rfl | simp [V.one] at h1
      have hxs : x.shape = none := by cases x <;> first | rfl | simp [V.one] at h1
      have hshn : sh = none := by
        cases sh with
        | none => rfl
        | some k => rw [hq.1] at hr; cases hr
      refine ⟨x, ⟨hxc ▸ hvs.ty, by rw [hxs, hsh, hshn]⟩, hvs.rep 0 x v rfl (by rw [hc]; rfl), ?_⟩
      have := hvs.bulk
      simpa [V.bulkL] using this
  have nagg : (∀ fs, P.underlying t ≠ some (.struct fs)) → (∀ n e, P.underlying t ≠ some (.array n e)) → (∀ ms, P.underlying t ≠ some (.interface ms)) → (∀ k e, P.underlying t ≠ some (.map k e)) → ∀ cs, v ≠ .agg cs := by
    rintro h1 h2 h3 h4 cs rfl
    unfold Value.okWide at hval
    rw [hu] at hval h1 h2 h3 h4
    cases d' <;> simp [Cell.okWide, Cell.ok, hu] at hval h1 h2 h3 h4
  split at hp
  · rename_i hu'
    have e : d' = .bool := by rw [hu] at hu'; exact Option.some.inj hu'
    subst e
    exact scal (nagg (by simp [hu]) (by simp [hu]) (by simp [hu]) (by simp [hu])) rfl
  · rename_i k hu'
    have e : d' = .int k := by rw [hu] at hu'; exact Option.some.inj hu'
    subst e
    exact scal (nagg (by simp [hu]) (by simp [hu]) (by simp [hu]) (by simp [hu])) rfl
  · rename_i hu'
    have e : d' = .string := by rw [hu] at hu'; exact Option.some.inj hu'
    subst e
    exact scal (nagg (by simp [hu]) (by simp [hu]) (by simp [hu]) (by simp [hu])) rfl
  · rename_i e0 hu'
    have e : d' = .slice e0 := by rw [hu] at hu'; exact Option.some.inj hu'
    subst e
    exact scal (nagg (by simp [hu]) (by simp [hu]) (by simp [hu]) (by simp [hu])) rfl
  · rename_i fs hu'
    have e : d' = .struct fs := by rw [hu] at hu'; exact Option.some.inj hu'
    subst e
    unfold Value.okWide at hval
    rw [hu] at hval
    obtain ⟨cs, rfl, hcs, _⟩ := hval
    have hshn : sh = some cs.size := by
      cases sh with
      | none => dsimp only at hq; simp [TypeDesc.isRow] at hq
      | some k =>
        rw [← hq.2, hcs]
        simp [Program.cellsOf, hi]
    refine ⟨.agg vs, ⟨hvs.ty, by rw [hsh, hshn]; simp only [V.shape]; rw [hvs.len]; simp [Value.cells]⟩, ?_, ?_⟩
    · have := RepV.agg (w := w) (F := fun b _ => b < w.heap.size) vs cs.toList (by simpa [Value.cells] using hvs.len) hvs.one (fun i c u hc hu => hvs.rep i c u hc (by simpa [Value.cells] using hu))
      simpa using this
    · have := hvs.bulk
      simpa [V.bulk] using this
  · cases hp
theorem args_of {T : List TypeId} (hT : plainSet P T = true) {base : Nat} : ∀ {ts : List TypeId} {vs : List Value} {ds : List (DataW H)} {ps : List MemPlace}, (∀ t ∈ ts, t ∈ T ∧ (tsh P t).isSome = true) →
    (∀ (j : Nat) t v, ts[j]? = some t → vs[j]? = some v → Value.okWide P w .any base t v) → DataW.TrodAll enc P w 0 (fun _ => true) true ts vs ds ps →
    ∃ xs : List V, Args P ts xs ∧ xs.length = vs.length ∧ (∀ (i : Nat) x v, xs[i]? = some x → vs[i]? = some v → RepV w (fun b _ => b < w.heap.size) x v) ∧ V.bulkL xs ≤ Go.Proofs.YtpdeaekmgljeaaaGreatDoor.Rows.uptoBulkAll ds
  | [], [], [], _, _, _, _ => ⟨[], trivial, rfl, by simp, by simp [V.bulkL]⟩
  | t :: ts, v :: vs, d :: ds, _, hm, hval, ⟨p, q, h1, h2, _⟩ => by
    obtain ⟨xs, e1, e2, e3, e4⟩ := args_of hT (fun t ht => hm t (by simp [ht])) (fun j t v h3 h4 => hval (j + 1) t v (by simpa using h3) (by simpa using h4)) h2
    obtain ⟨x, f1, f2, f3⟩ := arg_of hT (hm t (by simp)).1 (hm t (by simp)).2 (hval 0 t v rfl rfl) h1
    refine ⟨x :: xs, ⟨f1, e1⟩, by simp [e2], fun i y u hy hu => ?_, by simp only [V.bulkL, Go.Proofs.YtpdeaekmgljeaaaGreatDoor.Rows.uptoBulkAll]; omega⟩
    cases i with
    | zero => simp at hy hu; subst hy hu; exact f2
    | succ i => exact e3 i y u (by simpa using hy) (by simpa using hu)
theorem trodAll_stays (hl : laidOutB P = true) {w' : World} {sp' : Nat → Bool} : ∀ {ts : List TypeId} {vs : List Value} {ds : List (DataW H)} {ps : List MemPlace}, (∀ t ∈ ts, P.readableRec t = true ∧ t < P.types.size) →
    (∀ p ∈ ps, w.sameAt w' p) → (∀ p ∈ ps, sp' p.block = true) → DataW.TrodAll enc P w 0 (fun _ => true) true ts vs ds ps → DataW.TrodAll enc P w' 0 sp' true ts vs ds ps
  | [], [], [], _, _, _, _, h => h
  | t :: ts, v :: vs, d :: ds, _, hr, hs, hb, ⟨p, q, h1, h2, e⟩ => by
    subst e
    exact ⟨p, q, Go.WideElems.Trod_stays hl (hr t (by simp)).1 (hr t (by simp)).2 h1 (fun x hx => hs x (by simp [hx])) (fun x hx => hb x (by simp [hx])),
      trodAll_stays hl (fun t ht => hr t (by simp [ht])) (fun x hx => hs x (by simp [hx])) (fun x hx => hb x (by simp [hx])) h2, rfl⟩
theorem trodAll_len {sp : Nat → Bool} {held : Bool} : ∀ {ts : List TypeId} {vs : List Value} {ds : List (DataW H)} {ps : List MemPlace}, DataW.TrodAll enc P w 0 sp held ts vs ds ps → ds.length = ts.length
  | [], [], [], _, _ => rfl
  | _ :: _, _ :: _, _ :: _, _, ⟨_, _, _, h, _⟩ => by simp [trodAll_len h]
theorem law_calls {T : List TypeId} (hT : plainSet P T = true) (hl : laidOutB P = true) {f : Nat} {fn : Func} (htsB : (fn.params.toList.all fun t => T.contains t && (tsh P t).isSome && P.readableRec t && decide (t < P.types.size)) = true) {rt : TypeId} (hrt : fn.resultTypes = #[rt])
    (hb : P.underlying rt = some .bool) {W : World} {base : Nat} {args : Array Value} {ds gs : List (DataW H)} {before : List MemPlace}
    (hval : ∀ (j : Nat) t v, fn.params[j]? = some t → args[j]? = some v → Value.okWide P W .any base t v) (s : ChangeSpec) (hsv : s.vars = []) (hW : DataW.Whole enc P fn.params.toList s.vars false W args.toList ds gs before)
    (hs : ∀ ds : List (DataW H), ds.length = fn.params.toList.length → s.fn H ds = { results := [.lit (.bool true)], args := ds })
    (hA : ∀ xs : List V, Args P fn.params.toList xs → V.bulkL xs ≤ Go.Proofs.YtpdeaekmgljeaaaGreatDoor.Rows.uptoBulkAll (ds ++ gs) → ACalls P f (xs.map .v) ⟨[], []⟩ fun r _ => r = .v (.bool true)) (hG : ∀ p ∈ globs, ∃ cs ty fr, W.heap[p.1]? = some (.cells cs ty fr) ∧ p.2 cs := by simp [globs]) :
    Calls P f args W fun e W' => ∃ v, e = .returned v ∧ s.post enc P fn false true false false W args v W' := by
  have hts : ∀ t ∈ fn.params.toList, (t ∈ T ∧ (tsh P t).isSome = true) ∧ P.readableRec t = true ∧ t < P.types.size := by
    intro t ht
    have := List.all_eq_true.1 htsB t ht
    simp only [Bool.and_eq_true, List.contains_iff_mem, decide_eq_true_eq] at this
    exact ⟨this.1.1, this.1.2, this.2⟩
  have hW' := hW
  obtain ⟨p, q, hta, htv, hps, hz, _⟩ := hW
  rw [hsv] at htv
  obtain ⟨rfl, rfl⟩ := trodVars_none htv
  have hs : ([] : List (DataW H)) = [] → s.fn H (ds ++ []) = { results := [.lit (.bool true)], args := ds } := fun _ => by
    rw [List.append_nil]
    exact hs ds (trodAll_len hta)
  obtain ⟨xs, e1, e2, e3, e4⟩ := args_of hT (fun t ht => (hts t ht).1) (fun j t v h1 h2 => hval j t v (by simpa using h1) (by simpa using h2)) hta
  have hI : Inv ⟨[], []⟩ ⟨[], []⟩ W := ⟨rfl, rfl, by simp [Gh.blocks, Gh.ownb, Gh.objb], by simp, by simp, by simp, fun p hp => ⟨hG p hp, by simp [Gh.blocks, Gh.ownb, Gh.objb]⟩⟩
  have hrun := (hA xs e1 (by simpa using e4)).2 ⟨[], []⟩ W args.toList hI (by simp [e2]) fun i d u hd hu => by
    simp only [List.getElem?_map] at hd
    cases hx : xs[i]? with
    | none => rw [hx] at hd; cases hd
    | some x =>
      rw [hx] at hd
      cases hd
      exact .v x u ((e3 i x u hx hu).mono fun b off h => ⟨rfl, h, by rintro (h | ⟨tk, h, _⟩) <;> cases h⟩)
  have hargs : args.toList.toArray = args := by simp
  rw [hargs] at hrun
  refine hrun.mono ?_
  rintro e W' ⟨v, r, σ', m', rfl, rfl, _, hX, hR⟩
  have hv := hR.bool_inv
  subst hv
  have hheap : ∀ b, b < W.heap.size → W'.heap[b]? = W.heap[b]? := fun b hb => (hX.blocks b hb (by simp [Gh.blocks, Gh.ownb, Gh.objb])).1
  have hlt : ∀ x ∈ p, x.block < W.heap.size := fun x hx => DataW.TrodAll.lt hta x hx
  have hsame : ∀ x ∈ p, W.sameAt W' x := by
    intro x hx
    have hb := hheap x.block (hlt x hx)
    cases x with
    | cell b off => exact cell?_of_heap hb
    | map b => exact hb
  refine ⟨_, rfl, ds, [], before, [], p, [], hW', ?_, ?_, ?_, ?_, fun h => by cases h⟩
  · rw [hs rfl, hrt]
    exact trodAll_cons_mk (shut_bool hb _) trodAll_mk0
  · rw [hs rfl]
    exact trodAll_stays hl (fun t ht => (hts t ht).2) hsame (fun x hx => by simpa using hlt x hx) hta
  · rw [hs rfl, hsv]
    exact (rfl : ([] : List MemPlace) = [])
  · refine ⟨hX.os, hX.output, fun i hi => ?_⟩
    rw [hheap i hi]
    cases W.heap[i]? with
    | none => trivial
    | some o => cases o <;> simp
end
end Go.Abs
namespace Go.Proofs.YtpdeaekmgljeaaaGreatDoor
open Go Go.Abs
inductive Ex where
  | mk (k p n : Int) (s t : Str) (ls ns : List Str) (l : List Ex)
mutual
def encE : Ex → V
  | .mk k p n s t ls ns l => .agg [.int .i64 k, .int .i64 p, .int .i64 n, .str s, .str t, .sl none false (ls.map .str), .sl none false (ns.map .str), .sl (some 8) false (encEs l)]
def encEs : List Ex → List V
  | [] => []
  | x :: l => encE x :: encEs l
end
theorem encEs_eq : ∀ l, encEs l = l.map encE
  | [] => by simp [encEs]
  | x :: l => by simp [encEs, encEs_eq l]
theorem encE_mk {k p n : Int} {s t : Str} {ls ns : List Str} {l : List Ex} : encE (.mk k p n s t ls ns l) = .agg [.int .i64 k, .int .i64 p, .int .i64 n, .str s, .str t, .sl none false (ls.map .str), .sl none false (ns.map .str), .sl (some 8) false (l.map encE)] := by
  rw [encE, encEs_eq]
theorem encE_shape (e : Ex) : (encE e).shape = some 8 := by
  cases e
  rw [encE_mk]
  rfl
attribute [irreducible] encE
theorem Ex.ind {P : Ex → Prop} (h : ∀ k p n s t ls ns l, (∀ x ∈ l, P x) → P (.mk k p n s t ls ns l)) (e : Ex) : P e := by
  refine Ex.rec (motive_1 := P) (motive_2 := fun l => ∀ x ∈ l, P x) (fun k p n s t ls ns l ih => h k p n s t ls ns l ih) (by simp) (fun x l h1 h2 y hy => ?_) e
  rcases List.mem_cons.1 hy with rfl | hy
  · exact h1
  · exact h2 y hy
def nsz : List Str → Nat
  | [] => 0
  | x :: l => x.length + 1 + nsz l
mutual
def csz : Ex → Nat
  | .mk _ _ _ s t ls ns l => 8 + s.length + t.length + nsz ls + nsz ns + cszL l
def cszL : List Ex → Nat
  | [] => 0
  | x :: l => csz x + cszL l
end
theorem bulk_strs : ∀ ns : List Str, V.bulkL (ns.map .str) = nsz ns
  | [] => rfl
  | x :: l => by simp [V.bulkL, V.bulk, nsz, bulk_strs l]
theorem bulk_ex (e : Ex) : (encE e).bulk = csz e := by
  refine Ex.ind (P := fun e => (encE e).bulk = csz e) (fun k p n s t ls ns l ih => ?_) e
  have hl : V.bulkL (l.map encE) = cszL l := by
    clear e
    induction l with
    | nil => rfl
    | cons x l ih2 => simp only [List.map_cons, V.bulkL, cszL]; rw [ih x (by simp), ih2 fun y hy => ih y (by simp [hy])]
  rw [encE_mk]
  simp only [V.bulk, V.bulkL, csz, bulk_strs, hl]
  omega
theorem nsz_get {l : List Str} {i : Nat} {x : Str} (h : l[i]? = some x) : nsz (l.take (i + 1)) = nsz (l.take i) + (x.length + 1) := by
  induction l generalizing i with
  | nil => simp at h
  | cons y l ih =>
    cases i with
    | zero => simp at h; subst h; simp [nsz]
    | succ i => have := ih (by simpa using h); simp only [List.take_succ_cons, nsz] at *; omega
theorem cszL_get {l : List Ex} {i : Nat} {x : Ex} (h : l[i]? = some x) : cszL (l.take (i + 1)) = cszL (l.take i) + csz x := by
  induction l generalizing i with
  | nil => simp at h
  | cons y l ih =>
    cases i with
    | zero => simp at h; subst h; simp [cszL]
    | succ i => have := ih (by simpa using h); simp only [List.take_succ_cons, cszL] at *; omega
theorem nsz_take (l : List Str) (i : Nat) : nsz (l.take i) ≤ nsz l := by
  induction l generalizing i with
  | nil => simp
  | cons y l ih =>
    cases i with
    | zero => simp [nsz]
    | succ i => have := ih i; simp only [List.take_succ_cons, nsz]; omega
theorem cszL_take (l : List Ex) (i : Nat) : cszL (l.take i) ≤ cszL l := by
  induction l generalizing i with
  | nil => simp
  | cons y l ih =>
    cases i with
    | zero => simp [cszL]
    | succ i => have := ih i; simp only [List.take_succ_cons, cszL]; omega
theorem nsz_len (l : List Str) : l.length ≤ nsz l := by
  induction l with
  | nil => simp
  | cons y l ih => simp only [nsz, List.length_cons]; omega
theorem csz_pos (e : Ex) : 8 ≤ csz e := by cases e; simp only [csz]; omega
theorem cszL_len (l : List Ex) : 8 * l.length ≤ cszL l := by
  induction l with
  | nil => simp
  | cons y l ih => have := csz_pos y; simp only [cszL, List.length_cons]; omega
theorem cszL_mem {l : List Ex} {x : Ex} (h : x ∈ l) : csz x ≤ cszL l := by
  induction l with
  | nil => cases h
  | cons y l ih =>
    simp only [cszL]
    rcases List.mem_cons.1 h with rfl | h
    · omega
    · have := ih h; omega
structure KSt where
  i : Nat
  m : Int
def obE : Ex → Ob
  | .mk k p n s t ls ns l => .cells [.v (.int .i64 k), .v (.int .i64 p), .v (.int .i64 n), .v (.str s), .v (.str t), .v (.sl none false (ls.map .str)), .v (.sl none false (ns.map .str)), .v (.sl (some 8) false (l.map encE))]
theorem obE_mk {k p n : Int} {s t : Str} {ls ns : List Str} {l : List Ex} : obE (.mk k p n s t ls ns l) = .cells [.v (.int .i64 k), .v (.int .i64 p), .v (.int .i64 n), .v (.str s), .v (.str t), .v (.sl none false (ls.map .str)), .v (.sl none false (ns.map .str)), .v (.sl (some 8) false (l.map encE))] := rfl
end Go.Proofs.YtpdeaekmgljeaaaGreatDoor
namespace Go.Proofs.YtpdeaekmgljeaaaGreatDoor
open Go Go.Abs
mutual
def nds : Ex → Nat
  | .mk _ _ _ _ _ _ _ l => 1 + ndsL l
def ndsL : List Ex → Nat
  | [] => 0
  | x :: l => nds x + ndsL l
end
theorem ndsL_get {l : List Ex} {i : Nat} {x : Ex} (h : l[i]? = some x) : ndsL (l.take (i + 1)) = ndsL (l.take i) + nds x := by
  induction l generalizing i with
  | nil => simp at h
  | cons y l ih =>
    cases i with
    | zero => simp at h; subst h; simp [ndsL]
    | succ i => have := ih (by simpa using h); simp only [List.take_succ_cons, ndsL] at *; omega
theorem ndsL_take (l : List Ex) (i : Nat) : ndsL (l.take i) ≤ ndsL l := by
  induction l generalizing i with
  | nil => simp
  | cons y l ih =>
    cases i with
    | zero => simp [ndsL]
    | succ i => have := ih i; simp only [List.take_succ_cons, ndsL]; omega
theorem nds_le (e : Ex) : nds e ≤ csz e := by
  refine Ex.ind (P := fun e => nds e ≤ csz e) (fun k p n s t ls ns l ih => ?_) e
  have hl : ndsL l ≤ cszL l := by
    clear e
    induction l with
    | nil => simp [ndsL]
    | cons x l ih2 => have h1 := ih x (by simp); have h2 := ih2 fun y hy => ih y (by simp [hy]); simp only [ndsL, cszL]; omega
  simp only [nds, csz]
  omega
theorem k_Nodes (e : Ex) : ∀ {σ : Sg}, csz e ≤ 1048576 → ACalls Tryz.prog 26 [.v (encE e)] σ fun r σ' => r = .v (.int .i64 (nds e)) ∧ σ' = σ := by
  refine Ex.ind (P := fun e => ∀ {σ : Sg}, csz e ≤ 1048576 → ACalls Tryz.prog 26 [.v (encE e)] σ fun r σ' => r = .v (.int .i64 (nds e)) ∧ σ' = σ) (fun k p n s t ls ns l ih => ?_) e
  intro σ he
  have hn := nds_le (.mk k p n s t ls ns l)
  simp only [csz, nds] at he hn ⊢
  rw [encE_mk]
  refine acalls_fit Tryz.func26 (by kernel_rfl) c26 rfl (by simp [a26]) fun hf => ?_
  clear hf
  simp -implicitDefEqProofs (maxSteps := 2000000) (disch := omega) [-getElem?_pos, a26]
  refine W_loop (α := Nat) 0 (fun i => l.length - i) (fun i => ⟨[(1, .ptr σ.objs.length 0), (3, .v (.int .i64 (1 + ndsL (l.take i) : Nat))), (7, .v (.sl (some 8) false (l.map encE))), (8, .v (.int .i64 l.length)), (9, .v (.int .i64 i))], ⟨σ.objs ++ [obE (.mk k p n s t ls ns l)], σ.toks⟩⟩)
    (fun i => i ≤ l.length) (.eq2 (by simp [obE_mk]) (by simp [ndsL])) (by omega) fun i hi => ?_
  have hnt := ndsL_take l i
  simp -implicitDefEqProofs (maxSteps := 2000000) (disch := omega) [-getElem?_pos]
  refine .mk (fun h => ?_) fun h => ?_
  · simp -implicitDefEqProofs (maxSteps := 2000000) (disch := omega) [-getElem?_pos]
    refine ⟨by omega, ?_⟩
    intro x hx
    have hx1 := cszL_mem (List.mem_of_getElem? hx)
    have hx2 := ndsL_get hx
    have hx3 := ndsL_take l (i + 1)
    have hcall := fun σ => ih x (List.mem_of_getElem? hx) (σ := σ) (by omega)
    have hll := cszL_len l
    cases x with
    | mk k2 p2 n2 s2 t2 ls2 ns2 l2 =>
    rw [encE_mk] at hcall ⊢
    simp -implicitDefEqProofs (maxSteps := 2000000) (disch := omega) [-getElem?_pos]
    refine (hcall _).then fun r hr => ?_
    subst hr
    generalize Ex.mk k2 p2 n2 s2 t2 ls2 ns2 l2 = x at *
    simp -implicitDefEqProofs (maxSteps := 2000000) (disch := omega) [-getElem?_pos]
    refine ⟨i + 1, by omega, by dsimp only; omega, .dropX (ys := [obE (.mk k p n s t ls ns l)]) (xs := [_]) rfl rfl (by simp) (by simp [obE_mk]) (by simp [hx2]; omega) (by simp)⟩
  · rw [List.take_of_length_le (by omega)]
    simp -implicitDefEqProofs (maxSteps := 2000000) (disch := omega) [-getElem?_pos]
    exact .fin _ ⟨by simp, rfl⟩ (.refl _)
theorem k_RNodes (e : Ex) : ∀ {σ : Sg}, csz e ≤ 1048576 → ACalls Tryz.prog 33 [.v (encE e)] σ fun r σ' => r = .v (.int .i64 (nds e)) ∧ σ' = σ := by
  refine Ex.ind (P := fun e => ∀ {σ : Sg}, csz e ≤ 1048576 → ACalls Tryz.prog 33 [.v (encE e)] σ fun r σ' => r = .v (.int .i64 (nds e)) ∧ σ' = σ) (fun k p n s t ls ns l ih => ?_) e
  intro σ he
  have hn := nds_le (.mk k p n s t ls ns l)
  simp only [csz, nds] at he hn ⊢
  rw [encE_mk]
  have hll := cszL_len l
  refine acalls_fit Tryz.func33 (by kernel_rfl) c33 rfl (by simp [a33]) fun hf => ?_
  clear hf
  simp -implicitDefEqProofs (maxSteps := 2000000) (disch := omega) [-getElem?_pos, a33]
  refine W_loop (α := Nat) 0 (fun i => l.length - i) (fun i => ⟨[(1, .ptr σ.objs.length 0), (3, .v (.int .i64 (1 + ndsL (l.take i) : Nat))), (4, .v (.int .i64 i))], ⟨σ.objs ++ [obE (.mk k p n s t ls ns l)], σ.toks⟩⟩)
    (fun i => i ≤ l.length) (.eq2 (by simp [obE_mk]) (by simp [ndsL])) (by omega) fun i hi => ?_
  have hnt := ndsL_take l i
  simp -implicitDefEqProofs (maxSteps := 2000000) (disch := omega) [-getElem?_pos, obE_mk]
  refine .mk (fun h => ?_) fun h => ?_
  · simp -implicitDefEqProofs (maxSteps := 2000000) (disch := omega) [-getElem?_pos]
    refine ⟨by omega, ?_⟩
    intro x hx
    have hx1 := cszL_mem (List.mem_of_getElem? hx)
    have hx2 := ndsL_get hx
    have hx3 := ndsL_take l (i + 1)
    refine (ih x (List.mem_of_getElem? hx) (by omega)).then fun r hr => ?_
    subst hr
    simp -implicitDefEqProofs (maxSteps := 2000000) (disch := omega) [-getElem?_pos]
    exact ⟨i + 1, by omega, by dsimp only; omega, .eq2 (by simp [obE_mk]) (by simp [hx2]; omega)⟩
  · rw [List.take_of_length_le (by omega)]
    simp -implicitDefEqProofs (maxSteps := 2000000) (disch := omega) [-getElem?_pos]
    exact .fin _ ⟨by simp, rfl⟩ (.refl _)
mutual
def dep : Ex → Nat
  | .mk _ _ _ _ _ _ _ l => depL l + 1
def depL : List Ex → Nat
  | [] => 0
  | x :: l => max (dep x) (depL l)
end
theorem depL_get {l : List Ex} {i : Nat} {x : Ex} (h : l[i]? = some x) : depL (l.take (i + 1)) = max (depL (l.take i)) (dep x) := by
  induction l generalizing i with
  | nil => simp at h
  | cons y l ih =>
    cases i with
    | zero => simp at h; subst h; simp [depL]
    | succ i => have := ih (by simpa using h); simp only [List.take_succ_cons, depL] at *; omega
theorem dep_le (e : Ex) : dep e ≤ csz e := by
  refine Ex.ind (P := fun e => dep e ≤ csz e) (fun k p n s t ls ns l ih => ?_) e
  have hl : depL l ≤ cszL l := by
    clear e
    induction l with
    | nil => simp [depL]
    | cons x l ih2 => have h1 := ih x (by simp); have h2 := ih2 fun y hy => ih y (by simp [hy]); simp only [depL, cszL]; omega
  simp only [dep, csz]
  omega
theorem depL_take (l : List Ex) (i : Nat) : depL (l.take i) ≤ depL l := by
  induction l generalizing i with
  | nil => simp
  | cons y l ih =>
    cases i with
    | zero => simp [depL]
    | succ i => have := ih i; simp only [List.take_succ_cons, depL]; omega
theorem k_Depth (e : Ex) : ∀ {σ : Sg}, csz e ≤ 1048576 → ACalls Tryz.prog 25 [.v (encE e)] σ fun r σ' => r = .v (.int .i64 (dep e)) ∧ σ' = σ := by
  refine Ex.ind (P := fun e => ∀ {σ : Sg}, csz e ≤ 1048576 → ACalls Tryz.prog 25 [.v (encE e)] σ fun r σ' => r = .v (.int .i64 (dep e)) ∧ σ' = σ) (fun k p n s t ls ns l ih => ?_) e
  intro σ he
  have hn := dep_le (.mk k p n s t ls ns l)
  simp only [csz, dep] at he hn ⊢
  rw [encE_mk]
  refine acalls_fit Tryz.func25 (by kernel_rfl) c25 rfl (by simp [a25]) fun hf => ?_
  clear hf
  simp -implicitDefEqProofs (maxSteps := 2000000) (disch := omega) [-getElem?_pos, a25]
  refine W_loop (α := Nat) 0 (fun i => l.length - i) (fun i => ⟨[(1, .ptr σ.objs.length 0), (3, .v (.int .i64 (depL (l.take i) : Nat))), (7, .v (.sl (some 8) false (l.map encE))), (8, .v (.int .i64 l.length)), (9, .v (.int .i64 i))], ⟨σ.objs ++ [obE (.mk k p n s t ls ns l)], σ.toks⟩⟩)
    (fun i => i ≤ l.length) (.eq2 (by simp [obE_mk]) (by simp [depL])) (by omega) fun i hi => ?_
  have hnt := depL_take l i
  simp -implicitDefEqProofs (maxSteps := 2000000) (disch := omega) [-getElem?_pos]
  refine .mk (fun h => ?_) fun h => ?_
  · simp -implicitDefEqProofs (maxSteps := 2000000) (disch := omega) [-getElem?_pos]
    refine ⟨by omega, ?_⟩
    intro x hx
    have hx1 := cszL_mem (List.mem_of_getElem? hx)
    have hx2 := depL_get hx
    have hx3 := depL_take l (i + 1)
    have hcall := fun σ => ih x (List.mem_of_getElem? hx) (σ := σ) (by omega)
    have hll := cszL_len l
    cases x with
    | mk k2 p2 n2 s2 t2 ls2 ns2 l2 =>
    rw [encE_mk] at hcall ⊢
    simp -implicitDefEqProofs (maxSteps := 2000000) (disch := omega) [-getElem?_pos]
    refine (hcall _).then fun r hr => ?_
    subst hr
    generalize Ex.mk k2 p2 n2 s2 t2 ls2 ns2 l2 = x at *
    simp -implicitDefEqProofs (maxSteps := 2000000) (disch := omega) [-getElem?_pos]
    refine ⟨i + 1, by omega, by dsimp only; omega, .dropX (ys := [obE (.mk k p n s t ls ns l)]) (xs := [_]) rfl rfl (by simp) (by simp [obE_mk]) (by simp [hx2]; omega) (by simp)⟩
  · rw [List.take_of_length_le (by omega)]
    simp -implicitDefEqProofs (maxSteps := 2000000) (disch := omega) [-getElem?_pos]
    exact .fin _ ⟨by simp, rfl⟩ (.refl _)
theorem k_RDepth (e : Ex) : ∀ {σ : Sg}, csz e ≤ 1048576 → ACalls Tryz.prog 32 [.v (encE e)] σ fun r σ' => r = .v (.int .i64 (dep e)) ∧ σ' = σ := by
  refine Ex.ind (P := fun e => ∀ {σ : Sg}, csz e ≤ 1048576 → ACalls Tryz.prog 32 [.v (encE e)] σ fun r σ' => r = .v (.int .i64 (dep e)) ∧ σ' = σ) (fun k p n s t ls ns l ih => ?_) e
  intro σ he
  have hn := dep_le (.mk k p n s t ls ns l)
  simp only [csz, dep] at he hn ⊢
  rw [encE_mk]
  have hll := cszL_len l
  refine acalls_fit Tryz.func32 (by kernel_rfl) c32 rfl (by simp [a32]) fun hf => ?_
  clear hf
  simp -implicitDefEqProofs (maxSteps := 2000000) (disch := omega) [-getElem?_pos, a32]
  refine W_loop (α := Nat) 0 (fun i => l.length - i) (fun i => ⟨[(1, .ptr σ.objs.length 0), (3, .v (.int .i64 (depL (l.take i) : Nat))), (4, .v (.int .i64 i))], ⟨σ.objs ++ [obE (.mk k p n s t ls ns l)], σ.toks⟩⟩)
    (fun i => i ≤ l.length) (.eq2 (by simp [obE_mk]) (by simp [depL])) (by omega) fun i hi => ?_
  have hnt := depL_take l i
  simp -implicitDefEqProofs (maxSteps := 2000000) (disch := omega) [-getElem?_pos, obE_mk]
  refine .mk (fun h => ?_) fun h => ?_
  · simp -implicitDefEqProofs (maxSteps := 2000000) (disch := omega) [-getElem?_pos]
    refine ⟨by omega, ?_⟩
    intro x hx
    have hx1 := cszL_mem (List.mem_of_getElem? hx)
    have hx2 := depL_get hx
    have hx3 := depL_take l (i + 1)
    refine (ih x (List.mem_of_getElem? hx) (by omega)).then fun r hr => ?_
    subst hr
    simp -implicitDefEqProofs (maxSteps := 2000000) (disch := omega) [-getElem?_pos]
    refine .mk (fun hq => ?_) fun hq => ?_
    · simp -implicitDefEqProofs (maxSteps := 2000000) (disch := omega) [-getElem?_pos]
      exact ⟨i + 1, by omega, by dsimp only; omega, .eq2 (by simp [obE_mk]) (by simp [hx2]; omega)⟩
    · simp -implicitDefEqProofs (maxSteps := 2000000) (disch := omega) [-getElem?_pos]
      exact ⟨i + 1, by omega, by dsimp only; omega, .eq2 (by simp [obE_mk]) (by simp [hx2]; omega)⟩
  · rw [List.take_of_length_le (by omega)]
    simp -implicitDefEqProofs (maxSteps := 2000000) (disch := omega) [-getElem?_pos]
    exact .fin _ ⟨by simp, rfl⟩ (.refl _)
@[reducible] def spotO (at_ : Int) (c : Int) : Ob := .cells [.v (.int .i64 at_), .v (.int .i64 c)]
theorem k_SpotAt {i c : Int} {σ : Sg} : ACalls Tryz.prog 43 [.v (.int .i64 i), .v (.int .i64 c)] σ fun r σ' => r = .iface 56 (.ptr σ.objs.length 0) ∧ σ' = ⟨σ.objs ++ [spotO i c], σ.toks⟩ := by
  refine acalls_fit Tryz.func43 (by kernel_rfl) c43 rfl (by simp [a43]) fun hf => ?_
  clear hf
  simp -implicitDefEqProofs (maxSteps := 2000000) (disch := omega) [-getElem?_pos, a43]
  exact ⟨_, _, WeakR.refl _ _ _, rfl, rfl⟩
inductive TR where
  | ok (s : Str) (to : Nat)
  | bad (q : Nat)
def textL : Str → Nat → Str → TR
  | [], k, _ => .bad k
  | c :: r, k, out =>
    if c.toNat = 34 then .ok out (k + 1) else if plaB c = false then .bad k
    else if c.toNat = 92 then (match r with
      | [] => .bad (k + 1)
      | d :: r' => if d.toNat = 110 then textL r' (k + 2) (out ++ [10]) else if d.toNat = 34 ∨ d.toNat = 92 then textL r' (k + 2) (out ++ [d]) else .bad (k + 1))
    else textL r (k + 1) (out ++ [c])
theorem textL_q {c : UInt8} {r : Str} {k : Nat} {out : Str} (h : c.toNat = 34) : textL (c :: r) k out = .ok out (k + 1) := by cases r <;> simp [textL, h]
theorem textL_odd {c : UInt8} {r : Str} {k : Nat} {out : Str} (h : ¬ c.toNat = 34) (h2 : plaB c = false) : textL (c :: r) k out = .bad k := by cases r <;> simp [textL, h, h2]
theorem textL_esc0 {c : UInt8} {k : Nat} {out : Str} (h3 : c.toNat = 92) (h2 : plaB c = true) : textL [c] k out = .bad (k + 1) := by simp [textL, h2, h3]
theorem textL_escn {c d : UInt8} {r : Str} {k : Nat} {out : Str} (h3 : c.toNat = 92) (h2 : plaB c = true) (h : d.toNat = 110) : textL (c :: d :: r) k out = textL r (k + 2) (out ++ [10]) := by simp [textL, h2, h3, h]
theorem textL_escd {c d : UInt8} {r : Str} {k : Nat} {out : Str} (h3 : c.toNat = 92) (h2 : plaB c = true) (h : ¬ d.toNat = 110) (h4 : d.toNat = 34 ∨ d.toNat = 92) : textL (c :: d :: r) k out = textL r (k + 2) (out ++ [d]) := by simp [textL, h2, h3, h, h4]
theorem textL_esco {c d : UInt8} {r : Str} {k : Nat} {out : Str} (h3 : c.toNat = 92) (h2 : plaB c = true) (h : ¬ d.toNat = 110) (h4 : ¬ d.toNat = 34) (h5 : ¬ d.toNat = 92) : textL (c :: d :: r) k out = .bad (k + 1) := by simp [textL, h2, h3, h, h4, h5]
theorem textL_plain {c : UInt8} {r : Str} {k : Nat} {out : Str} (h : ¬ c.toNat = 34) (h2 : plaB c = true) (h3 : ¬ c.toNat = 92) : textL (c :: r) k out = textL r (k + 1) (out ++ [c]) := by cases r <;> simp [textL, h, h2, h3]
def TextPost (σ : Sg) (p : Nat) (b : Str) (t : TR) (r : D) (σ' : Sg) : Prop := match t with
  | .ok s to => r = .tup [.v (.str s), .v .inil] ∧ σ' = ⟨σ.objs.set p (cut b to), σ.toks⟩
  | .bad q => r = .tup [.v (.str []), .iface 56 (.ptr σ.objs.length 0)] ∧ σ' = ⟨σ.objs.set p (cut b q) ++ [spotO q 2], σ.toks⟩
theorem set_same {σ : Sg} {p : Nat} {ob : Ob} (hp : σ.objs[p]? = some ob) : σ.objs.set p ob = σ.objs := by
  have hpl := (List.getElem?_eq_some_iff.1 hp).1
  apply List.ext_getElem?
  intro j
  by_cases e : p = j
  · subst e
    rw [List.getElem?_set_self hpl]
    exact hp.symm
  · rw [List.getElem?_set_ne e]
theorem low_spot {σ : Sg} {p n k : Nat} {b : Str} {q j : Nat} {c : Int} : ∀ ob ∈ σ.objs.set p (cut b q) ++ [spotO j c], ob ∈ σ.objs ∨ ob.low n k := fun ob h => by
  rcases List.mem_append.1 h with h | h
  · exact low_set (by simp [cut]) ob h
  · rw [List.mem_singleton] at h
    subst h
    exact .inr (by simp)
structure TSt where
  k : Nat
  out : Str
theorem k_Text {b : Str} {i p : Nat} {σ : Sg} (hp : σ.objs[p]? = some (cut b i)) (hi : i ≤ b.length) (hb : b.length ≤ 1048576) : ACalls Tryz.prog 123 [.ptr p 0] σ (TextPost σ p b (textL (b.drop i) i [])) := by
  have hpl := (List.getElem?_eq_some_iff.1 hp).1
  have hset := set_same hp
  have cp := fun c σ => k_Plain (c := c) (σ := σ)
  unfold vB at cp
  refine acalls_fit Tryz.func123 (by kernel_rfl) c123 rfl (by simp [a123]) fun hf => ?_
  clear hf
  simp -implicitDefEqProofs (maxSteps := 2000000) (disch := omega) [-getElem?_pos, a123]
  refine W_loop (α := TSt) ⟨i, []⟩ (fun x => b.length - x.k) (fun x => ⟨[(0, .ptr p 0), (4, .tsl σ.toks.length none (bytesV x.out))], ⟨σ.objs.set p (cut b x.k), σ.toks ++ [x.out.length]⟩⟩)
    (fun x => x.k ≤ b.length ∧ x.out.length ≤ x.k ∧ textL (b.drop i) i [] = textL (b.drop x.k) x.k x.out) (.trans (b := ⟨[(0, .ptr p 0), (4, .tsl σ.toks.length none (bytesV []))], _⟩) (.tok (i := 4) (sh := none) (by simp) (by simp)) (.eq2 (by rw [hset]; rfl) (by simp))) ⟨hi, by simp, rfl⟩ fun ⟨k, out⟩ ⟨hk, hol, he⟩ => ?_
  dsimp only at hk hol he ⊢
  simp -implicitDefEqProofs (maxSteps := 2000000) (disch := omega) [-getElem?_pos, hpl]
  refine .mk (fun h => ?_) fun h => ?_
  · simp -implicitDefEqProofs (maxSteps := 2000000) (disch := omega) [-getElem?_pos, hpl]
    refine ⟨by omega, fun c hc => ?_⟩
    rw [drop_cons hc] at he
    have hcp := fun σ => cp c σ
    refine .mk (fun h34 => ?_) fun h34 => ?_
    · have he2 : textL (b.drop i) i [] = .ok out (k + 1) := he.trans (textL_q (by omega))
      rw [he2]
      simp -implicitDefEqProofs (maxSteps := 2000000) (disch := omega) [-getElem?_pos, hpl]
      exact .finS _ ⟨σ.objs.set p (cut b (k + 1)), σ.toks⟩ ⟨rfl, rfl⟩ (.refl _) (low_set (by simp [cut])) (by simp) (by simp [cut]) (by simp) (by simp) (by simp)
    have h34' : ¬ c.toNat = 34 := by omega
    simp -implicitDefEqProofs (maxSteps := 2000000) (disch := omega) [-getElem?_pos, h34]
    refine (hcp _).then fun r hr => ?_
    subst hr
    cases hpc : plaB c with
    | false =>
      have he2 : textL (b.drop i) i [] = .bad k := he.trans (textL_odd h34' hpc)
      rw [he2]
      simp -implicitDefEqProofs (maxSteps := 2000000) (disch := omega) [-getElem?_pos, hpl]
      refine (k_SpotAt (i := k) (c := 2)).mono fun r σ' hr => ?_
      obtain ⟨rfl, rfl⟩ := hr
      simp -implicitDefEqProofs (maxSteps := 2000000) (disch := omega) [-getElem?_pos, hpl]
      exact .finS _ ⟨σ.objs.set p (cut b k) ++ [spotO (k : Nat) 2], σ.toks⟩ ⟨rfl, rfl⟩ (.refl _) low_spot (by simp) (by simp [cut]) (by simp) (by simp) (by simp)
    | true =>
      simp -implicitDefEqProofs (maxSteps := 2000000) (disch := omega) [-getElem?_pos, hpl]
      refine .mk (fun h92 => ?_) fun h92 => ?_
      rotate_left
      · have h92' : ¬ c.toNat = 92 := by omega
        rw [textL_plain h34' hpc h92'] at he
        simp -implicitDefEqProofs (maxSteps := 2000000) (disch := omega) [-getElem?_pos, hpl]
        exact ⟨by omega, ⟨k + 1, out ++ [c]⟩, ⟨by show k + 1 ≤ b.length; omega, by simp; omega, he⟩, by show b.length - (k + 1) < b.length - k; omega, .eq2 (by simp [cut]) (by simp)⟩
      have h92' : c.toNat = 92 := by omega
      simp -implicitDefEqProofs (maxSteps := 2000000) (disch := omega) [-getElem?_pos, hpl]
      refine .mk (fun hl => ?_) fun hl => ?_
      · have hk1 : k + 1 = b.length := by omega
        rw [show b.drop (k + 1) = [] from List.drop_eq_nil_of_le (by omega), textL_esc0 h92' hpc] at he
        rw [he]
        simp -implicitDefEqProofs (maxSteps := 2000000) (disch := omega) [-getElem?_pos, hpl]
        refine (k_SpotAt (i := (k : Int) + 1) (c := 2)).mono fun r σ' hr => ?_
        obtain ⟨rfl, rfl⟩ := hr
        simp -implicitDefEqProofs (maxSteps := 2000000) (disch := omega) [-getElem?_pos, hpl]
        exact .finS _ ⟨σ.objs.set p (cut b (k + 1)) ++ [spotO ((k + 1 : Nat) : Int) 2], σ.toks⟩ ⟨rfl, rfl⟩ (.refl _) low_spot (by simp) (by simp [cut]) (by simp) (by simp) (by simp)
      · simp -implicitDefEqProofs (maxSteps := 2000000) (disch := omega) [-getElem?_pos, hpl]
        have e12 : (k : Int) + 1 + 1 = (k : Int) + 2 := by omega
        have b10 : bytesV out ++ [V.int .u8 10] = bytesV (out ++ [10]) := by simp [bytesV]
        refine ⟨by omega, by omega, fun d hd => ?_⟩
        rw [drop_cons hd] at he
        refine .mk (fun h110 => ?_) fun h110 => ?_
        · rw [textL_escn h92' hpc (by omega)] at he
          simp -implicitDefEqProofs (maxSteps := 2000000) (disch := omega) [-getElem?_pos, hpl]
          exact ⟨by omega, ⟨k + 2, out ++ [10]⟩, ⟨by show k + 2 ≤ b.length; omega, by simp; omega, he⟩, by show b.length - (k + 2) < b.length - k; omega, .eq2 (by simp [cut, e12]) (by simp [b10])⟩
        have h110' : ¬ d.toNat = 110 := by omega
        simp -implicitDefEqProofs (maxSteps := 2000000) (disch := omega) [-getElem?_pos, hpl]
        refine .mk (fun h34 => ?_) fun h34 => ?_
        · rw [textL_escd h92' hpc h110' (.inl (by omega))] at he
          simp -implicitDefEqProofs (maxSteps := 2000000) (disch := omega) [-getElem?_pos, hpl, h34]
          exact ⟨by omega, ⟨k + 2, out ++ [d]⟩, ⟨by show k + 2 ≤ b.length; omega, by simp; omega, he⟩, by show b.length - (k + 2) < b.length - k; omega, .eq2 (by simp [cut, e12]) (by simp [bytesV]; omega)⟩
        simp -implicitDefEqProofs (maxSteps := 2000000) (disch := omega) [-getElem?_pos, hpl, h34]
        refine .mk (fun h92 => ?_) fun h92 => ?_
        · rw [textL_escd h92' hpc h110' (.inr (by omega))] at he
          simp -implicitDefEqProofs (maxSteps := 2000000) (disch := omega) [-getElem?_pos, hpl, h92]
          exact ⟨by omega, ⟨k + 2, out ++ [d]⟩, ⟨by show k + 2 ≤ b.length; omega, by simp; omega, he⟩, by show b.length - (k + 2) < b.length - k; omega, .eq2 (by simp [cut, e12]) (by simp [bytesV]; omega)⟩
        rw [textL_esco h92' hpc h110' (by omega) (by omega)] at he
        rw [he]
        simp -implicitDefEqProofs (maxSteps := 2000000) (disch := omega) [-getElem?_pos, hpl, h92]
        refine (k_SpotAt (i := (k : Int) + 1) (c := 2)).mono fun r σ' hr => ?_
        obtain ⟨rfl, rfl⟩ := hr
        simp -implicitDefEqProofs (maxSteps := 2000000) (disch := omega) [-getElem?_pos, hpl]
        exact .finS _ ⟨σ.objs.set p (cut b (k + 1)) ++ [spotO ((k + 1 : Nat) : Int) 2], σ.toks⟩ ⟨rfl, rfl⟩ (.refl _) low_spot (by simp) (by simp [cut]) (by simp) (by simp) (by simp)
  · rw [show b.drop k = [] from List.drop_eq_nil_of_le (by omega)] at he
    have he2 : textL (b.drop i) i [] = .bad k := he
    rw [he2]
    simp -implicitDefEqProofs (maxSteps := 2000000) (disch := omega) [-getElem?_pos, hpl]
    refine (k_SpotAt (i := k) (c := 2)).mono fun r σ' hr => ?_
    obtain ⟨rfl, rfl⟩ := hr
    simp -implicitDefEqProofs (maxSteps := 2000000) (disch := omega) [-getElem?_pos, hpl]
    exact .finS _ ⟨σ.objs.set p (cut b k) ++ [spotO (k : Nat) 2], σ.toks⟩ ⟨rfl, rfl⟩ (.refl _) low_spot (by simp) (by simp [cut]) (by simp) (by simp) (by simp)
theorem conv1 {sh : Sh} {f : Bool} {c : UInt8} {K : V → Prop} : WConv .ofBytes (.v (.sl sh f [.int .u8 c.toNat])) K = K (.str [c]) := by
  have h := WConv_ofBytes (sh := sh) (f := f) (s := [c]) (K := K)
  rw [show bytesV [c] = [V.int .u8 c.toNat] from rfl] at h
  rw [h]
  apply propext
  constructor
  · rintro ⟨s, hs, hk⟩
    rw [← bytesV_inj (s := [c]) (t := s) hs] at hk
    exact hk
  · exact fun hk => ⟨[c], rfl, hk⟩
theorem conv10 {sh : Sh} {f : Bool} {K : V → Prop} : WConv .ofBytes (.v (.sl sh f [.int .u8 10])) K = K (.str [10]) := conv1 (c := 10)
theorem conv34 {sh : Sh} {f : Bool} {K : V → Prop} : WConv .ofBytes (.v (.sl sh f [.int .u8 34])) K = K (.str [34]) := conv1 (c := 34)
theorem conv92 {sh : Sh} {f : Bool} {K : V → Prop} : WConv .ofBytes (.v (.sl sh f [.int .u8 92])) K = K (.str [92]) := conv1 (c := 92)
def RTextPost (σ : Sg) (t : TR) (r : D) (σ' : Sg) : Prop := (match t with
  | .ok s to => r = .tup [.v (.str s), .v (.int .i64 to), .v (.int .i64 (-1))]
  | .bad q => r = .tup [.v (.str []), .v (.int .i64 q), .v (.int .i64 q)]) ∧ σ' = σ
theorem k_RText {b : Str} {i : Nat} {σ : Sg} (hi : i ≤ b.length) (hb : b.length ≤ 1048576) : ACalls Tryz.prog 173 [.v (vBs b), .v (.int .i64 i)] σ (RTextPost σ (textL (b.drop i) i [])) := by
  refine acalls_fit Tryz.func173 (by kernel_rfl) c173 rfl (by simp [a173]) fun hf => ?_
  clear hf
  simp -implicitDefEqProofs (maxSteps := 2000000) (disch := omega) [-getElem?_pos, a173]
  refine W_loop (α := TSt) ⟨i, []⟩ (fun x => b.length - x.k) (fun x => ⟨[(0, .v (vBs b)), (1, .v (.int .i64 x.k)), (7, .v (.str x.out))], σ⟩)
    (fun x => x.k ≤ b.length ∧ x.out.length ≤ x.k ∧ textL (b.drop i) i [] = textL (b.drop x.k) x.k x.out) (.eq (by simp)) ⟨hi, by simp, rfl⟩ fun ⟨k, out⟩ ⟨hk, hol, he⟩ => ?_
  dsimp only at hk hol he ⊢
  simp -implicitDefEqProofs (maxSteps := 2000000) (disch := omega) [-getElem?_pos]
  refine .mk (fun h => ?_) fun h => ?_
  rotate_left
  · rw [show b.drop k = [] from List.drop_eq_nil_of_le (by omega)] at he
    have he2 : textL (b.drop i) i [] = .bad k := he
    rw [he2]
    simp -implicitDefEqProofs (maxSteps := 2000000) (disch := omega) [-getElem?_pos]
    exact .fin _ ⟨rfl, rfl⟩ (.refl _)
  simp -implicitDefEqProofs (maxSteps := 2000000) (disch := omega) [-getElem?_pos]
  refine ⟨by omega, fun c hc => ?_⟩
  rw [drop_cons hc] at he
  refine .mk (fun h34 => ?_) fun h34 => ?_
  · have he2 : textL (b.drop i) i [] = .ok out (k + 1) := he.trans (textL_q (by omega))
    rw [he2]
    simp -implicitDefEqProofs (maxSteps := 2000000) (disch := omega) [-getElem?_pos]
    exact .fin _ ⟨rfl, rfl⟩ (.refl _)
  have h34' : ¬ c.toNat = 34 := by omega
  have odd : plaB c = false → textL (b.drop i) i [] = .bad k := fun h => he.trans (textL_odd h34' h)
  simp -implicitDefEqProofs (maxSteps := 2000000) (disch := omega) [-getElem?_pos, h34]
  refine .mk (fun h32 => ?_) fun h32 => ?_
  rotate_left
  · rw [odd (by simp [plaB]; omega)]
    simp -implicitDefEqProofs (maxSteps := 2000000) (disch := omega) [-getElem?_pos]
    exact .fin _ ⟨rfl, rfl⟩ (.refl _)
  simp -implicitDefEqProofs (maxSteps := 2000000) (disch := omega) [-getElem?_pos]
  refine .mk (fun h126 => ?_) fun h126 => ?_
  · rw [odd (by simp [plaB]; omega)]
    simp -implicitDefEqProofs (maxSteps := 2000000) (disch := omega) [-getElem?_pos]
    exact .fin _ ⟨rfl, rfl⟩ (.refl _)
  have hpc : plaB c = true := by simp [plaB]; omega
  simp -implicitDefEqProofs (maxSteps := 2000000) (disch := omega) [-getElem?_pos]
  refine .mk (fun h92 => ?_) fun h92 => ?_
  rotate_left
  · rw [textL_plain h34' hpc (by omega)] at he
    simp -implicitDefEqProofs (maxSteps := 2000000) (disch := omega) [-getElem?_pos, conv1]
    exact ⟨by omega, ⟨k + 1, out ++ [c]⟩, ⟨by show k + 1 ≤ b.length; omega, by simp; omega, he⟩, by show b.length - (k + 1) < b.length - k; omega, .eq (by simp)⟩
  have h92' : c.toNat = 92 := by omega
  simp -implicitDefEqProofs (maxSteps := 2000000) (disch := omega) [-getElem?_pos, h92]
  refine .mk (fun hl => ?_) fun hl => ?_
  · rw [show b.drop (k + 1) = [] from List.drop_eq_nil_of_le (by omega), textL_esc0 h92' hpc] at he
    rw [he]
    simp -implicitDefEqProofs (maxSteps := 2000000) (disch := omega) [-getElem?_pos]
    exact .fin _ ⟨by simp, rfl⟩ (.refl _)
  simp -implicitDefEqProofs (maxSteps := 2000000) (disch := omega) [-getElem?_pos]
  have e12 : (k : Int) + 1 + 1 = (k : Int) + 2 := by omega
  refine ⟨by omega, by omega, fun d hd => ?_⟩
  rw [drop_cons hd] at he
  refine .mk (fun h110 => ?_) fun h110 => ?_
  · rw [textL_escn h92' hpc (by omega)] at he
    simp -implicitDefEqProofs (maxSteps := 2000000) (disch := omega) [-getElem?_pos, h110, conv10]
    exact ⟨by omega, ⟨k + 2, out ++ [10]⟩, ⟨by show k + 2 ≤ b.length; omega, by simp; omega, he⟩, by show b.length - (k + 2) < b.length - k; omega, .eq (by simp [e12])⟩
  have h110' : ¬ d.toNat = 110 := by omega
  simp -implicitDefEqProofs (maxSteps := 2000000) (disch := omega) [-getElem?_pos, h110]
  refine .mk (fun h34d => ?_) fun h34d => ?_
  · rw [textL_escd h92' hpc h110' (.inl (by omega))] at he
    obtain rfl : d = 34 := UInt8.toNat_inj.1 (show d.toNat = 34 by omega)
    simp -implicitDefEqProofs (maxSteps := 2000000) (disch := omega) [-getElem?_pos, h110, h34d, conv34]
    exact ⟨by omega, ⟨k + 2, out ++ [34]⟩, ⟨by show k + 2 ≤ b.length; omega, by simp; omega, he⟩, by show b.length - (k + 2) < b.length - k; omega, .eq (by simp [e12])⟩
  simp -implicitDefEqProofs (maxSteps := 2000000) (disch := omega) [-getElem?_pos, h110, h34d]
  refine .mk (fun h92d => ?_) fun h92d => ?_
  · rw [textL_escd h92' hpc h110' (.inr (by omega))] at he
    obtain rfl : d = 92 := UInt8.toNat_inj.1 (show d.toNat = 92 by omega)
    simp -implicitDefEqProofs (maxSteps := 2000000) (disch := omega) [-getElem?_pos, h110, h92d, conv92]
    exact ⟨by omega, ⟨k + 2, out ++ [92]⟩, ⟨by show k + 2 ≤ b.length; omega, by simp; omega, he⟩, by show b.length - (k + 2) < b.length - k; omega, .eq (by simp [e12])⟩
  rw [textL_esco h92' hpc h110' (by omega) (by omega)] at he
  rw [he]
  simp -implicitDefEqProofs (maxSteps := 2000000) (disch := omega) [-getElem?_pos, h110, h34d, h92d]
  exact .fin _ ⟨by simp, rfl⟩ (.refl _)
end Go.Proofs.YtpdeaekmgljeaaaGreatDoor
namespace Go.Proofs.YtpdeaekmgljeaaaGreatDoor
open Go.Shelf
def pintLays_ren : Go.Shelf.Ren := ⟨fun | 174 => 122 | 247 => 156 | 245 => 157 | 287 => 184 | 279 => 185 | 280 => 186 | 281 => 187 | 282 => 188 | 321 => 195 | 322 => 196 | 316 => 197 | 171 => 71 | 205 => 198 | 243 => 105 | 246 => 61 | 283 => 97 | 284 => 98 | 285 => 99 | 286 => 100 | 129 => 137 | 317 => 136 | 318 => 138 | 319 => 139 | 320 => 140 | 337 => 175 | 338 => 176 | n => n, fun | 9 => 9 | 3 => 3 | 2 => 2 | 75 => 29 | 85 => 167 | 4 => 4 | 167 => 227 | 5 => 5 | 53 => 137 | 175 => 228 | 46 => 164 | 168 => 230 | 37 => 48 | 0 => 0 | 210 => 241 | 21 => 21 | 127 => 180 | 145 => 247 | 143 => 245 | 171 => 136 | 173 => 140 | 212 => 186 | 51 => 187 | 20 => 20 | 213 => 188 | 232 => 235 | 233 => 236 | 80 => 132 | n => n, fun | 15 => 5 | 16 => 6 | 17 => 1 | 18 => 3 | 19 => 4 | n => n⟩
theorem pintLays : Go.Proofs.LaysC.n174 Tryz.prog pintLays_ren := {
  mixed := by kernel_rfl
  f129 := Tryz.func137.trans (congrArg some (by kernel_rfl))
  f171 := Tryz.func71.trans (congrArg some (by kernel_rfl))
  f174 := Tryz.func122.trans (congrArg some (by kernel_rfl))
  f205 := Tryz.func198.trans (congrArg some (by kernel_rfl))
  f243 := Tryz.func105.trans (congrArg some (by kernel_rfl))
  f245 := Tryz.func157.trans (congrArg some (by kernel_rfl))
  f246 := Tryz.func61.trans (congrArg some (by kernel_rfl))
  f247 := Tryz.func156.trans (congrArg some (by kernel_rfl))
  f279 := Tryz.func185.trans (congrArg some (by kernel_rfl))
  f280 := Tryz.func186.trans (congrArg some (by kernel_rfl))
  f281 := Tryz.func187.trans (congrArg some (by kernel_rfl))
  f282 := Tryz.func188.trans (congrArg some (by kernel_rfl))
  f283 := Tryz.func97.trans (congrArg some (by kernel_rfl))
  f284 := Tryz.func98.trans (congrArg some (by kernel_rfl))
  f285 := Tryz.func99.trans (congrArg some (by kernel_rfl))
  f286 := Tryz.func100.trans (congrArg some (by kernel_rfl))
  f287 := Tryz.func184.trans (congrArg some (by kernel_rfl))
  f316 := Tryz.func197.trans (congrArg some (by kernel_rfl))
  f317 := Tryz.func136.trans (congrArg some (by kernel_rfl))
  f318 := Tryz.func138.trans (congrArg some (by kernel_rfl))
  f319 := Tryz.func139.trans (congrArg some (by kernel_rfl))
  f320 := Tryz.func140.trans (congrArg some (by kernel_rfl))
  f321 := Tryz.func195.trans (congrArg some (by kernel_rfl))
  f322 := Tryz.func196.trans (congrArg some (by kernel_rfl))
  f337 := Tryz.func175.trans (congrArg some (by kernel_rfl))
  f338 := Tryz.func176.trans (congrArg some (by kernel_rfl))
  t0 := Tryz.underlying0
  a0 := Tryz.isAgg0
  z0 := Tryz.sizeOf0
  v0 := Tryz.zeroValue0
  t2 := Tryz.underlying2
  a2 := Tryz.isAgg2
  z2 := Tryz.sizeOf2
  v2 := Tryz.zeroValue2
  t3 := Tryz.underlying3
  a3 := Tryz.isAgg3
  z3 := Tryz.sizeOf3
  v3 := Tryz.zeroValue3
  t4 := Tryz.underlying4
  a4 := Tryz.isAgg4
  z4 := Tryz.sizeOf4
  v4 := Tryz.zeroValue4
  t5 := Tryz.underlying5
  a5 := Tryz.isAgg5
  z5 := Tryz.sizeOf5
  v5 := Tryz.zeroValue5
  t9 := Tryz.underlying9
  a9 := Tryz.isAgg9
  z9 := Tryz.sizeOf9
  v9 := Tryz.zeroValue9
  t20 := Tryz.underlying20
  a20 := Tryz.isAgg20
  z20 := Tryz.sizeOf20
  v20 := Tryz.zeroValue20
  t21 := Tryz.underlying21
  a21 := Tryz.isAgg21
  z21 := Tryz.sizeOf21
  v21 := Tryz.zeroValue21
  t37 := Tryz.underlying48
  a37 := Tryz.isAgg48
  z37 := Tryz.sizeOf48
  v37 := Tryz.zeroValue48
  t46 := Tryz.underlying164
  a46 := Tryz.isAgg164
  z46 := Tryz.sizeOf164
  v46 := Tryz.zeroValue164
  t51 := Tryz.underlying187
  a51 := Tryz.isAgg187
  z51 := Tryz.sizeOf187
  v51 := Tryz.zeroValue187
  t53 := Tryz.underlying137
  a53 := Tryz.isAgg137
  z53 := Tryz.sizeOf137
  v53 := Tryz.zeroValue137
  t75 := Tryz.underlying29
  a75 := Tryz.isAgg29
  z75 := Tryz.sizeOf29
  v75 := Tryz.zeroValue29
  t85 := Tryz.underlying167
  a85 := Tryz.isAgg167
  z85 := Tryz.sizeOf167
  v85 := Tryz.zeroValue167
  t127 := Tryz.underlying180
  a127 := Tryz.isAgg180
  z127 := Tryz.sizeOf180
  v127 := Tryz.zeroValue180
  t143 := Tryz.underlying245
  a143 := Tryz.isAgg245
  z143 := Tryz.sizeOf245
  v143 := Tryz.zeroValue245
  t145 := Tryz.underlying247
  a145 := Tryz.isAgg247
  z145 := Tryz.sizeOf247
  v145 := Tryz.zeroValue247
  t167 := Tryz.underlying227
  a167 := Tryz.isAgg227
  z167 := Tryz.sizeOf227
  v167 := Tryz.zeroValue227
  t168 := Tryz.underlying230
  a168 := Tryz.isAgg230
  z168 := Tryz.sizeOf230
  v168 := Tryz.zeroValue230
  t171 := Tryz.underlying136
  a171 := Tryz.isAgg136
  z171 := Tryz.sizeOf136
  v171 := Tryz.zeroValue136
  t173 := Tryz.underlying140
  a173 := Tryz.isAgg140
  z173 := Tryz.sizeOf140
  v173 := Tryz.zeroValue140
  t175 := Tryz.underlying228
  a175 := Tryz.isAgg228
  z175 := Tryz.sizeOf228
  v175 := Tryz.zeroValue228
  t210 := Tryz.underlying241
  a210 := Tryz.isAgg241
  z210 := Tryz.sizeOf241
  v210 := Tryz.zeroValue241
  t212 := Tryz.underlying186
  a212 := Tryz.isAgg186
  z212 := Tryz.sizeOf186
  v212 := Tryz.zeroValue186
  t213 := Tryz.underlying188
  a213 := Tryz.isAgg188
  z213 := Tryz.sizeOf188
  t232 := Tryz.underlying235
  a232 := Tryz.isAgg235
  z232 := Tryz.sizeOf235
  v232 := Tryz.zeroValue235
  t233 := Tryz.underlying236
  a233 := Tryz.isAgg236
  z233 := Tryz.sizeOf236
  v233 := Tryz.zeroValue236
  g15 := by kernel_rfl
  g16 := by kernel_rfl
  g17 := by kernel_rfl
  g18 := by kernel_rfl
  g19 := by kernel_rfl
  t80 := Tryz.underlying132
  a80 := Tryz.isAgg132
  z80 := Tryz.sizeOf132
  v80 := Tryz.zeroValue132
  i0 := by kernel_rfl
  i2 := by kernel_rfl
  i3 := by kernel_rfl
  i4 := by kernel_rfl
  i5 := by kernel_rfl
  i9 := by kernel_rfl
  i20 := by kernel_rfl
  i21 := by kernel_rfl
  i37 := by kernel_rfl
  i46 := by kernel_rfl
  i51 := by kernel_rfl
  i53 := by kernel_rfl
  i75 := by kernel_rfl
  i80 := by kernel_rfl
  i85 := by kernel_rfl
  i127 := by kernel_rfl
  i143 := by kernel_rfl
  i145 := by kernel_rfl
  i167 := by kernel_rfl
  i168 := by kernel_rfl
  i171 := by kernel_rfl
  i173 := by kernel_rfl
  i175 := by kernel_rfl
  i210 := by kernel_rfl
  i212 := by kernel_rfl
  i232 := by kernel_rfl
  i233 := by kernel_rfl
  m15 := by kernel_rfl
  m16 := by kernel_rfl
  m17 := by kernel_rfl
  m18 := by kernel_rfl
  m19 := by kernel_rfl
  c0 := by kernel_rfl
  c2 := by kernel_rfl
  c3 := by kernel_rfl
  c4 := by kernel_rfl
  c5 := by kernel_rfl
  c9 := by kernel_rfl
  c20 := by kernel_rfl
  c21 := by kernel_rfl
  c37 := by kernel_rfl
  c46 := by kernel_rfl
  c51 := by kernel_rfl
  c53 := by kernel_rfl
  c75 := by kernel_rfl
  c80 := by kernel_rfl
  c85 := by kernel_rfl
  c127 := by kernel_rfl
  c143 := by kernel_rfl
  c145 := by kernel_rfl
  c167 := by kernel_rfl
  c168 := by kernel_rfl
  c171 := by kernel_rfl
  c173 := by kernel_rfl
  c175 := by kernel_rfl
  c210 := by kernel_rfl
  c212 := by kernel_rfl
  c213 := by kernel_rfl
  c232 := by kernel_rfl
  c233 := by kernel_rfl }
def itoaLays_ren : Go.Shelf.Ren := ⟨fun | 171 => 71 | 243 => 105 | 246 => 61 | 283 => 97 | 284 => 98 | 285 => 99 | 286 => 100 | 129 => 137 | 317 => 136 | 318 => 138 | 319 => 139 | 320 => 140 | 337 => 175 | 338 => 176 | n => n, fun | 3 => 3 | 9 => 9 | 2 => 2 | 4 => 4 | 171 => 136 | 0 => 0 | 53 => 137 | 37 => 48 | 5 => 5 | 173 => 140 | 212 => 186 | 51 => 187 | 20 => 20 | 213 => 188 | 46 => 164 | 232 => 235 | 233 => 236 | n => n, fun | 17 => 1 | 18 => 3 | 19 => 4 | n => n⟩
theorem itoaLays : Go.Proofs.LaysM.n171 Tryz.prog itoaLays_ren := {
  mixed := by kernel_rfl
  f129 := Tryz.func137.trans (congrArg some (by kernel_rfl))
  f171 := Tryz.func71.trans (congrArg some (by kernel_rfl))
  f243 := Tryz.func105.trans (congrArg some (by kernel_rfl))
  f246 := Tryz.func61.trans (congrArg some (by kernel_rfl))
  f283 := Tryz.func97.trans (congrArg some (by kernel_rfl))
  f284 := Tryz.func98.trans (congrArg some (by kernel_rfl))
  f285 := Tryz.func99.trans (congrArg some (by kernel_rfl))
  f286 := Tryz.func100.trans (congrArg some (by kernel_rfl))
  f317 := Tryz.func136.trans (congrArg some (by kernel_rfl))
  f318 := Tryz.func138.trans (congrArg some (by kernel_rfl))
  f319 := Tryz.func139.trans (congrArg some (by kernel_rfl))
  f320 := Tryz.func140.trans (congrArg some (by kernel_rfl))
  f337 := Tryz.func175.trans (congrArg some (by kernel_rfl))
  f338 := Tryz.func176.trans (congrArg some (by kernel_rfl))
  t0 := Tryz.underlying0
  a0 := Tryz.isAgg0
  z0 := Tryz.sizeOf0
  v0 := Tryz.zeroValue0
  t2 := Tryz.underlying2
  a2 := Tryz.isAgg2
  z2 := Tryz.sizeOf2
  v2 := Tryz.zeroValue2
  t3 := Tryz.underlying3
  a3 := Tryz.isAgg3
  z3 := Tryz.sizeOf3
  v3 := Tryz.zeroValue3
  t4 := Tryz.underlying4
  a4 := Tryz.isAgg4
  z4 := Tryz.sizeOf4
  v4 := Tryz.zeroValue4
  t5 := Tryz.underlying5
  a5 := Tryz.isAgg5
  z5 := Tryz.sizeOf5
  v5 := Tryz.zeroValue5
  t9 := Tryz.underlying9
  a9 := Tryz.isAgg9
  z9 := Tryz.sizeOf9
  v9 := Tryz.zeroValue9
  t20 := Tryz.underlying20
  a20 := Tryz.isAgg20
  z20 := Tryz.sizeOf20
  v20 := Tryz.zeroValue20
  t37 := Tryz.underlying48
  a37 := Tryz.isAgg48
  z37 := Tryz.sizeOf48
  v37 := Tryz.zeroValue48
  t46 := Tryz.underlying164
  a46 := Tryz.isAgg164
  z46 := Tryz.sizeOf164
  v46 := Tryz.zeroValue164
  t51 := Tryz.underlying187
  a51 := Tryz.isAgg187
  z51 := Tryz.sizeOf187
  v51 := Tryz.zeroValue187
  t53 := Tryz.underlying137
  a53 := Tryz.isAgg137
  z53 := Tryz.sizeOf137
  v53 := Tryz.zeroValue137
  t171 := Tryz.underlying136
  a171 := Tryz.isAgg136
  z171 := Tryz.sizeOf136
  v171 := Tryz.zeroValue136
  t173 := Tryz.underlying140
  a173 := Tryz.isAgg140
  z173 := Tryz.sizeOf140
  v173 := Tryz.zeroValue140
  t212 := Tryz.underlying186
  a212 := Tryz.isAgg186
  z212 := Tryz.sizeOf186
  v212 := Tryz.zeroValue186
  t213 := Tryz.underlying188
  a213 := Tryz.isAgg188
  z213 := Tryz.sizeOf188
  t232 := Tryz.underlying235
  a232 := Tryz.isAgg235
  z232 := Tryz.sizeOf235
  v232 := Tryz.zeroValue235
  t233 := Tryz.underlying236
  a233 := Tryz.isAgg236
  z233 := Tryz.sizeOf236
  v233 := Tryz.zeroValue236
  g17 := by kernel_rfl
  g18 := by kernel_rfl
  g19 := by kernel_rfl
  i0 := by kernel_rfl
  i2 := by kernel_rfl
  i3 := by kernel_rfl
  i4 := by kernel_rfl
  i5 := by kernel_rfl
  i9 := by kernel_rfl
  i20 := by kernel_rfl
  i37 := by kernel_rfl
  i46 := by kernel_rfl
  i51 := by kernel_rfl
  i53 := by kernel_rfl
  i171 := by kernel_rfl
  i173 := by kernel_rfl
  i212 := by kernel_rfl
  i232 := by kernel_rfl
  i233 := by kernel_rfl
  m17 := by kernel_rfl
  m18 := by kernel_rfl
  m19 := by kernel_rfl }
end Go.Proofs.YtpdeaekmgljeaaaGreatDoor
namespace Go.Proofs.YtpdeaekmgljeaaaGreatDoor
open Go Go.Abs Go.RowKit
theorem Inv.below {σ : Sg} {m : Gh} {w w' : World} (h : Go.Abs.Inv σ m w) (b : Below w.heap.size w w') : Go.Abs.Inv σ m w' ∧ Ext m w m w' := by
  have e : Ext m w m w' := by
    refine ⟨b.os, b.tape, b.output, b.size, fun _ _ h => .inl h, fun _ tk h => ⟨tk, h, rfl, Nat.le_refl _, fun _ => rfl⟩, fun c off f => ⟨cell?_of_heap (b.block c f.1), f.2⟩, fun c hc hn => ⟨b.block c hc, hn⟩⟩
  refine ⟨⟨h.lobj, h.ltok, h.nodup, fun o ob c ho hc => (h.ob o ob c ho hc).mono e (b.block c (h.lt_obj (Gh.mem_objb.2 (List.mem_of_getElem? hc)))), h.gone, fun tk htk => ?_, h.glob.mono e⟩, e⟩
  obtain ⟨h1, h2, h3, h4⟩ := h.tk tk htk
  refine ⟨h1, h2, h3, fun c hc => ?_⟩
  obtain ⟨us, ty, h5, h6⟩ := h4 c hc
  exact ⟨us, ty, (b.block c (Array.getElem?_eq_some_iff.1 h5).1).trans h5, h6⟩
def numV : Str → Nat → Nat
  | [], n => n
  | c :: r, n => numV r (n * 10 + (c.toNat - 48))
theorem numV_nil (n : Nat) : numV [] n = n := rfl
theorem numV_cons (c : UInt8) (r : Str) (n : Nat) : numV (c :: r) n = numV r (n * 10 + (c.toNat - 48)) := rfl
theorem numV_ge : ∀ (s : Str) (n : Nat), n ≤ numV s n
  | [], n => by rw [numV_nil]; exact Nat.le_refl _
  | c :: r, n => by
    have := numV_ge r (n * 10 + (c.toNat - 48))
    rw [numV_cons]
    omega
theorem pu_ok {M : Nat} (hM : M < 18446744073709551620) : ∀ (s : Str) (n : Nat), (∀ c ∈ s, digB c = true) → numV s n ≤ M → Lib.parseUintM M n s = .ok (numV s n)
  | [], n, _, _ => rfl
  | c :: r, n, h, hle => by
    have hc := h c (by simp)
    simp only [digB, Bool.and_eq_true, decide_eq_true_eq] at hc
    have hg := numV_ge r (n * 10 + (c.toNat - 48))
    rw [numV_cons] at hle ⊢
    have h1 : ¬ 1844674407370955162 ≤ n := by omega
    have h2 : ¬ M < n * 10 + (c.toNat - 48) := by omega
    rw [Lib.parseUintM, if_pos hc, if_neg h1, if_neg h2]
    exact pu_ok hM r _ (fun x hx => h x (by simp [hx])) hle
theorem pu_range {M : Nat} (hM : M < 18446744073709551620) : ∀ (s : Str) (n : Nat), (∀ c ∈ s, digB c = true) → n ≤ M → ¬ numV s n ≤ M → Lib.parseUintM M n s = .range
  | [], n, _, hn, hle => absurd hn hle
  | c :: r, n, h, hn, hle => by
    have hc := h c (by simp)
    simp only [digB, Bool.and_eq_true, decide_eq_true_eq] at hc
    rw [numV_cons] at hle
    rw [Lib.parseUintM, if_pos hc]
    by_cases h1 : 1844674407370955162 ≤ n
    · rw [if_pos h1]
    · rw [if_neg h1]
      by_cases h2 : M < n * 10 + (c.toNat - 48)
      · rw [if_pos h2]
      · rw [if_neg h2]
        exact pu_range hM r _ (fun x hx => h x (by simp [hx])) (by omega) hle
theorem pi_eq {s : Str} (h : ∀ c ∈ s, digB c = true) (hne : s ≠ []) : Lib.parseIntB 64 s = if numV s 0 ≤ 9223372036854775807 then .ok (numV s 0 : Nat) else .range := by
  cases s with
  | nil => exact absurd rfl hne
  | cons c r =>
    have hc := h c (by simp)
    simp only [digB, Bool.and_eq_true, decide_eq_true_eq] at hc
    have h43 : ¬ (c.toNat = 43 ∨ c.toNat = 45) := by omega
    have h45 : ¬ c.toNat = 45 := by omega
    have hM : (2 ^ 64 - 1 : Nat) < 18446744073709551620 := by decide
    simp only [Lib.parseIntB]
    rw [if_neg h43]
    unfold Lib.parseUintB
    rw [if_neg (by simp)]
    generalize hN : numV (c :: r) 0 = N
    by_cases h1 : N ≤ 2 ^ 64 - 1
    · rw [pu_ok hM (c :: r) 0 h (by rw [hN]; exact h1), hN]
      dsimp only
      by_cases h2 : N ≤ 9223372036854775807
      · rw [if_pos h2, if_neg (by omega), if_neg (by omega), if_neg h45]
      · rw [if_neg h2, if_pos ⟨h45, by omega⟩]
    · rw [pu_range hM (c :: r) 0 h (Nat.zero_le _) (by rw [hN]; exact h1), if_neg (by omega)]
theorem k_PInt {s : Str} {σ : Sg} (h : ∀ c ∈ s, digB c = true) (hne : s ≠ []) (hl : s.length ≤ 1048576) : ACalls Tryz.prog 122 [.v (.str s), .v (.int .i64 10), .v (.int .i64 64)] σ fun r σ' =>
    ((numV s 0 ≤ 9223372036854775807 → r = .tup [.v (.int .i64 (numV s 0 : Nat)), .v .inil]) ∧ (¬ numV s 0 ≤ 9223372036854775807 → ∃ v t, r = .tup [.v (.int .i64 v), .iface t .junk])) ∧ σ' = σ := by
  have hp := pi_eq h hne
  refine ⟨⟨_, Tryz.func122, by kernel_rfl, by kernel_rfl⟩, fun m w us hI hlen hr => ?_⟩
  match us, hlen with
  | [u1, u2, u3], _ =>
  have g1 := (hr 0 _ _ rfl rfl).v_inv
  have g2 := (hr 1 _ _ rfl rfl).v_inv
  have g3 := (hr 2 _ _ rfl rfl).v_inv
  cases g1 with
  | str _ _ =>
  cases g2 with
  | int _ _ _ =>
  cases g3 with
  | int _ _ _ =>
  by_cases hM : numV s 0 ≤ 9223372036854775807
  · rw [if_pos hM] at hp
    refine (Go.Proofs.Any.strconv_ParseInt_10_at64_ok pintLays ⟨s.toArray⟩ (by simp [ByteArray.size]; omega) _ hp w).mono fun e w' ⟨he, hw⟩ => ?_
    have hB : Below w.heap.size w w' := by
      rcases hw with rfl | ⟨t, rfl⟩
      · exact .refl _ _
      · exact Lib.bytesWorld_below _ _ _
    obtain ⟨hI', hX⟩ := Inv.below hI hB
    refine ⟨_, _, σ, m, he, ⟨⟨fun _ => rfl, fun h => absurd hM h⟩, rfl⟩, hI', hX, .tup _ _ rfl fun i c u h1 h2 => ?_⟩
    match i with
    | 0 => cases h1; cases h2; exact .v _ _ (.int _ _ ⟨by show -9223372036854775808 ≤ ((numV s 0 : Nat) : Int); omega, by show ((numV s 0 : Nat) : Int) ≤ 9223372036854775807; omega⟩)
    | 1 => cases h1; cases h2; exact .v _ _ .inil
    | j + 2 => simp at h1
  · rw [if_neg hM] at hp
    obtain ⟨⟨cs, ty, fr, hh, te, pe, rfl⟩, _⟩ := hI.glob (6, fun cs => ∃ te pe, cs = #[.iface te pe]) (by simp [globs])
    have hv : w.cell? ⟨6, 0, none⟩ = some (.iface te pe) := by rw [cell_of_row w 6 0 _ ty fr hh]; rfl
    refine (Go.Proofs.Any.strconv_ParseInt_10_at64_range pintLays ⟨s.toArray⟩ (by simp [ByteArray.size]; omega) hp _ w hv (.inr ⟨_, _, rfl⟩)).mono fun e w' ⟨N, he, hN, hN2, hB⟩ => ?_
    obtain ⟨hI', hX⟩ := Inv.below hI hB
    refine ⟨_, .tup [.v (.int .i64 (Lib.intSat 64 s)), .iface 230 .junk], σ, m, he, ⟨⟨fun h => absurd h hM, fun _ => ⟨_, _, rfl⟩⟩, rfl⟩, hI', hX, .tup _ _ rfl fun i c u h1 h2 => ?_⟩
    match i with
    | 0 =>
      cases h1; cases h2
      refine .v _ _ (.int _ _ ?_)
      unfold Lib.intSat
      split <;> decide
    | 1 => cases h1; cases h2; exact .iface _ _ _ (.junk _)
    | j + 2 => simp at h1
end Go.Proofs.YtpdeaekmgljeaaaGreatDoor
namespace Go.Proofs.YtpdeaekmgljeaaaGreatDoor
open Go Go.Abs
structure Tk where
  k : Int
  i : Nat
  n : Nat
  s : Str
def encK (t : Tk) : V := .agg [.int .i64 t.k, .int .i64 t.i, .int .i64 t.n, .str t.s]
inductive NR where
  | tok (t : Tk) (to : Nat)
  | bad (q : Nat)
def ldB (c : UInt8) : Bool := lowB c || digB c
def ludB (c : UInt8) : Bool := lowB c || (uppB c || digB c)
def nameN (b : Str) (i : Nat) (k : Int) (q : UInt8 → Bool) : NR := if 20 < (passS q b i).length then .bad i else .tok ⟨k, i, 0, passS q b i⟩ (spanE q b i)
def numN (b : Str) (i : Nat) (c : UInt8) : NR := if 9223372036854775807 < numV (passS digB b i) 0 ∨ (1 < (passS digB b i).length ∧ c.toNat = 48) then .bad i else .tok ⟨4, i, numV (passS digB b i) 0, []⟩ (spanE digB b i)
def textN (i : Nat) : TR → NR
  | .bad q => .bad q
  | .ok s to => if 2000 < s.length then .bad i else .tok ⟨5, i, 0, s⟩ to
def signN (i : Nat) (s : Str) : NR := if s = [] then .bad i else .tok ⟨6, i, 0, s⟩ (i + s.length)
def oneL (b : Str) (i : Nat) (c : UInt8) : NR :=
  if lowB c = true then nameN b i (if passS ldB b i ∈ wordsL then 2 else 1) ldB
  else if uppB c = true then nameN b i 3 ludB
  else if digB c = true then numN b i c
  else if c.toNat = 34 then textN i (textL (b.drop (i + 1)) (i + 1) [])
  else signN i (signF b i signsL)
@[reducible] def zTok : V := .agg [.int .i64 0, .int .i64 0, .int .i64 0, .str []]
def NextPost (σ : Sg) (p : Nat) (b : Str) (x : NR) (r : D) (σ' : Sg) : Prop := match x with
  | .tok t to => r = .tup [.v (encK t), .v .inil] ∧ σ' = ⟨σ.objs.set p (cut b to), σ.toks⟩
  | .bad q => ∃ o xs ts e, r = .tup [.v zTok, .iface 56 (.ptr (σ.objs.length + o) 0)] ∧ σ' = ⟨σ.objs.set p (cut b e) ++ xs, σ.toks ++ ts⟩ ∧ xs[o]? = some (spotO q 2)
theorem passS_len {q : UInt8 → Bool} {b : Str} {i : Nat} : (passS q b i).length ≤ b.length := by
  unfold passS
  have h1 : ((b.drop i).takeWhile q).length ≤ (b.drop i).length := (List.takeWhile_prefix q).length_le
  rw [List.length_drop] at h1
  omega
theorem passS_all {q : UInt8 → Bool} {b : Str} {i : Nat} : ∀ c ∈ passS q b i, q c = true := by
  unfold passS
  generalize b.drop i = l
  intro c hc
  induction l with
  | nil => simp at hc
  | cons x l ih =>
    cases hx : q x with
    | true =>
      rw [List.takeWhile_cons_of_pos hx] at hc
      rcases List.mem_cons.1 hc with rfl | hc
      · exact hx
      · exact ih hc
    | false => rw [List.takeWhile_cons_of_neg (by simp [hx])] at hc; cases hc
theorem passS_head {q : UInt8 → Bool} {b : Str} {i : Nat} {c : UInt8} (h : b[i]? = some c) (hq : q c = true) : ∃ r, passS q b i = c :: r := by
  unfold passS
  rw [drop_cons h, List.takeWhile_cons_of_pos hq]
  exact ⟨_, rfl⟩
set_option maxHeartbeats 1000000 in
theorem k_Next {b : Str} {i p : Nat} {c : UInt8} {σ : Sg} (hp : σ.objs[p]? = some (cut b i)) (hc : b[i]? = some c) (hb : b.length ≤ 1048576) : ACalls Tryz.prog 82 [.ptr p 0] σ (NextPost σ p b (oneL b i c)) := by
  have hi : i < b.length := (List.getElem?_eq_some_iff.1 hc).1
  have hpl := (List.getElem?_eq_some_iff.1 hp).1
  have gp : ∀ r, (σ.objs ++ r)[p]? = some (cut b i) := fun r => by rw [List.getElem?_append_left hpl]; exact hp
  have cs := fun σ => k_SpotAt (i := i) (c := 2) (σ := σ)
  have cl := fun σ => k_Lower (c := c) (σ := σ)
  have cu := fun σ => k_Upper (c := c) (σ := σ)
  have cd := fun σ => k_Digit (c := c) (σ := σ)
  have p1 := fun r tk => k_Pass (fd := .v (.fn 116)) (q := ldB) (b := b) (i := i) (p := p) (σ := ⟨σ.objs ++ r, tk⟩) (gp r) (by omega) hb (fun c τ => by rw [WCall_fn]; exact k_Next1) (fun n k => trivial)
  have p2 := fun r tk => k_Pass (fd := .v (.fn 121)) (q := ludB) (b := b) (i := i) (p := p) (σ := ⟨σ.objs ++ r, tk⟩) (gp r) (by omega) hb (fun c τ => by rw [WCall_fn]; exact k_Next2) (fun n k => trivial)
  have p3 := fun r tk => k_Pass (fd := .v (.fn 117)) (q := digB) (b := b) (i := i) (p := p) (σ := ⟨σ.objs ++ r, tk⟩) (gp r) (by omega) hb (fun c τ => by rw [WCall_fn]; exact k_Digit) (fun n k => trivial)
  have hsa : ∀ r C, (σ.objs ++ r).set p C = σ.objs.set p C ++ r := fun r C => List.set_append_left _ _ hpl
  simp only [hsa] at p1 p2 p3
  unfold vB at cl cu cd
  obtain ⟨X, hX⟩ : ∃ X, X = oneL b i c := ⟨_, rfl⟩
  rw [← hX]
  unfold oneL at hX
  refine acalls_fit Tryz.func82 (by kernel_rfl) c82 rfl (by simp [a82]) fun hf => ?_
  clear hf
  simp -implicitDefEqProofs (maxSteps := 2000000) (disch := omega) [-getElem?_pos, a82, gp, hp]
  refine (cs _).mono fun r σ' hr => ?_
  obtain ⟨rfl, rfl⟩ := hr
  simp -implicitDefEqProofs (maxSteps := 2000000) (disch := omega) [-getElem?_pos, gp, hi]
  intro c' hc'
  rw [hc] at hc'
  cases hc'
  refine (cl _).then fun r hr => ?_
  subst hr
  cases hlo : lowB c with
  | true =>
    rw [if_pos hlo] at hX
    simp -implicitDefEqProofs (maxSteps := 2000000) (disch := omega) [-getElem?_pos]
    refine (p1 _ _).mono fun r σ' hr => ?_
    obtain ⟨rfl, rfl⟩ := hr
    simp -implicitDefEqProofs (maxSteps := 2000000) (disch := omega) [-getElem?_pos, hpl]
    refine k_Words.then fun r hr => ?_
    subst hr
    simp -implicitDefEqProofs (maxSteps := 2000000) (disch := omega) [-getElem?_pos, hpl]
    refine k_ContainsStr.then fun r hr => ?_
    subst hr
    have hl := passS_len (q := ldB) (b := b) (i := i)
    by_cases hw : passS ldB b i ∈ wordsL
    · rw [if_pos hw] at hX
      simp -implicitDefEqProofs (maxSteps := 2000000) (disch := omega) [-getElem?_pos, hpl, hw]
      refine .mk (fun h20 => ?_) fun h20 => ?_
      · rw [show X = NR.bad i from by rw [hX, nameN, if_pos (by omega)]]
        simp -implicitDefEqProofs (maxSteps := 2000000) (disch := omega) [-getElem?_pos, hpl]
        exact ⟨_, _, WeakR.refl _ _ _, 2, _, [], _, rfl, by simp; rfl, rfl⟩
      · rw [show X = NR.tok ⟨2, i, 0, passS ldB b i⟩ (spanE ldB b i) from by rw [hX, nameN, if_neg (by omega)]]
        simp -implicitDefEqProofs (maxSteps := 2000000) (disch := omega) [-getElem?_pos, hpl]
        exact .finS _ ⟨σ.objs.set p (cut b (spanE ldB b i)), σ.toks⟩ ⟨rfl, rfl⟩ (.refl _) (low_set (by simp [cut])) (by simp [encK]) (by simp) (by simp) (by simp) (by simp)
    · rw [if_neg hw] at hX
      simp -implicitDefEqProofs (maxSteps := 2000000) (disch := omega) [-getElem?_pos, hpl, hw]
      refine .mk (fun h20 => ?_) fun h20 => ?_
      · rw [show X = NR.bad i from by rw [hX, nameN, if_pos (by omega)]]
        simp -implicitDefEqProofs (maxSteps := 2000000) (disch := omega) [-getElem?_pos, hpl]
        exact ⟨_, _, WeakR.refl _ _ _, 2, _, [], _, rfl, by simp; rfl, rfl⟩
      · rw [show X = NR.tok ⟨1, i, 0, passS ldB b i⟩ (spanE ldB b i) from by rw [hX, nameN, if_neg (by omega)]]
        simp -implicitDefEqProofs (maxSteps := 2000000) (disch := omega) [-getElem?_pos, hpl]
        exact .finS _ ⟨σ.objs.set p (cut b (spanE ldB b i)), σ.toks⟩ ⟨rfl, rfl⟩ (.refl _) (low_set (by simp [cut])) (by simp [encK]) (by simp) (by simp) (by simp) (by simp)
  | false =>
    rw [if_neg (by simp [hlo])] at hX
    simp -implicitDefEqProofs (maxSteps := 2000000) (disch := omega) [-getElem?_pos]
    refine (cu _).then fun r hr => ?_
    subst hr
    cases hup : uppB c with
    | true =>
      rw [if_pos hup] at hX
      simp -implicitDefEqProofs (maxSteps := 2000000) (disch := omega) [-getElem?_pos]
      refine (p2 _ _).mono fun r σ' hr => ?_
      obtain ⟨rfl, rfl⟩ := hr
      simp -implicitDefEqProofs (maxSteps := 2000000) (disch := omega) [-getElem?_pos, hpl]
      have hl := passS_len (q := ludB) (b := b) (i := i)
      refine .mk (fun h20 => ?_) fun h20 => ?_
      · rw [show X = NR.bad i from by rw [hX, nameN, if_pos (by omega)]]
        simp -implicitDefEqProofs (maxSteps := 2000000) (disch := omega) [-getElem?_pos, hpl]
        exact ⟨_, _, WeakR.refl _ _ _, 2, _, [], _, rfl, by simp; rfl, rfl⟩
      · rw [show X = NR.tok ⟨3, i, 0, passS ludB b i⟩ (spanE ludB b i) from by rw [hX, nameN, if_neg (by omega)]]
        simp -implicitDefEqProofs (maxSteps := 2000000) (disch := omega) [-getElem?_pos, hpl]
        exact .finS _ ⟨σ.objs.set p (cut b (spanE ludB b i)), σ.toks⟩ ⟨rfl, rfl⟩ (.refl _) (low_set (by simp [cut])) (by simp [encK]) (by simp) (by simp) (by simp) (by simp)
    | false =>
      rw [if_neg (by simp [hup])] at hX
      simp -implicitDefEqProofs (maxSteps := 2000000) (disch := omega) [-getElem?_pos]
      refine (cd _).then fun r hr => ?_
      subst hr
      cases hdi : digB c with
      | true =>
        rw [if_pos hdi] at hX
        simp -implicitDefEqProofs (maxSteps := 2000000) (disch := omega) [-getElem?_pos]
        refine (p3 _ _).mono fun r σ' hr => ?_
        obtain ⟨rfl, rfl⟩ := hr
        simp -implicitDefEqProofs (maxSteps := 2000000) (disch := omega) [-getElem?_pos, hpl]
        have hl := passS_len (q := digB) (b := b) (i := i)
        obtain ⟨rr, hrr⟩ := passS_head hc hdi
        refine (k_PInt (passS_all) (by rw [hrr]; simp) (by omega)).then fun r hr => ?_
        obtain ⟨hr1, hr2⟩ := hr
        by_cases hM : numV (passS digB b i) 0 ≤ 9223372036854775807
        · obtain rfl := hr1 hM
          have hz : (passS digB b i)[0]? = some c := by rw [hrr]; rfl
          simp -implicitDefEqProofs (maxSteps := 2000000) (disch := omega) [-getElem?_pos, hpl]
          refine .mk (fun h1 => ?_) fun h1 => ?_
          · simp -implicitDefEqProofs (maxSteps := 2000000) (disch := omega) [-getElem?_pos, hpl, hz]
            refine ⟨by omega, ?_⟩
            refine .mk (fun h48 => ?_) fun h48 => ?_
            · rw [show X = NR.bad i from by rw [hX, numN, if_pos (.inr ⟨by omega, by omega⟩)]]
              simp -implicitDefEqProofs (maxSteps := 2000000) (disch := omega) [-getElem?_pos, hpl]
              exact ⟨_, _, WeakR.refl _ _ _, 2, _, [], _, rfl, by simp; rfl, rfl⟩
            · rw [show X = NR.tok ⟨4, i, numV (passS digB b i) 0, []⟩ (spanE digB b i) from by rw [hX, numN, if_neg (by omega)]]
              simp -implicitDefEqProofs (maxSteps := 2000000) (disch := omega) [-getElem?_pos, hpl]
              exact .finS _ ⟨σ.objs.set p (cut b (spanE digB b i)), σ.toks⟩ ⟨rfl, rfl⟩ (.refl _) (low_set (by simp [cut])) (by simp [encK]) (by simp) (by simp) (by simp) (by simp)
          · rw [show X = NR.tok ⟨4, i, numV (passS digB b i) 0, []⟩ (spanE digB b i) from by rw [hX, numN, if_neg (by omega)]]
            simp -implicitDefEqProofs (maxSteps := 2000000) (disch := omega) [-getElem?_pos, hpl]
            exact .finS _ ⟨σ.objs.set p (cut b (spanE digB b i)), σ.toks⟩ ⟨rfl, rfl⟩ (.refl _) (low_set (by simp [cut])) (by simp [encK]) (by simp) (by simp) (by simp) (by simp)
        · obtain ⟨v, t, rfl⟩ := hr2 hM
          rw [show X = NR.bad i from by rw [hX, numN, if_pos (.inl (by omega))]]
          simp -implicitDefEqProofs (maxSteps := 2000000) (disch := omega) [-getElem?_pos, hpl]
          exact ⟨_, _, WeakR.refl _ _ _, 2, _, [], _, rfl, by simp; rfl, rfl⟩
      | false =>
        rw [if_neg (by simp [hdi])] at hX
        simp -implicitDefEqProofs (maxSteps := 2000000) (disch := omega) [-getElem?_pos]
        refine .mk (fun h34 => ?_) fun h34 => ?_
        · rw [if_pos (by omega)] at hX
          simp -implicitDefEqProofs (maxSteps := 2000000) (disch := omega) [-getElem?_pos, gp, hpl, hsa]
          refine (k_Text (b := b) (i := i + 1) (p := p) (by dsimp only; exact get_app_set hpl) (by omega) hb).mono fun r σ' hr => ?_
          cases ht : textL (b.drop (i + 1)) (i + 1) [] with
          | ok st to =>
            rw [ht] at hX hr
            obtain ⟨rfl, rfl⟩ := hr
            simp -implicitDefEqProofs (maxSteps := 2000000) (disch := omega) [-getElem?_pos, hpl]
            refine .mk (fun h2 => ?_) fun h2 => ?_
            · rw [show X = NR.bad i from by rw [hX, textN, if_pos (by omega)]]
              simp -implicitDefEqProofs (maxSteps := 2000000) (disch := omega) [-getElem?_pos, hpl]
              exact ⟨_, _, WeakR.refl _ _ _, 2, _, [], _, rfl, by simp; rfl, rfl⟩
            · rw [show X = NR.tok ⟨5, i, 0, st⟩ (to) from by rw [hX, textN, if_neg (by omega)]]
              simp -implicitDefEqProofs (maxSteps := 2000000) (disch := omega) [-getElem?_pos, hpl]
              exact .finS _ ⟨σ.objs.set p (cut b (to)), σ.toks⟩ ⟨rfl, rfl⟩ (.refl _) (low_set (by simp [cut])) (by simp [encK]) (by simp) (by simp) (by simp) (by simp)
          | bad q =>
            rw [ht] at hX hr
            obtain ⟨rfl, rfl⟩ := hr
            rw [show X = NR.bad q from hX]
            simp -implicitDefEqProofs (maxSteps := 2000000) (disch := omega) [-getElem?_pos, hpl]
            exact ⟨_, _, WeakR.refl _ _ _, 3, _, [], _, rfl, by simp; rfl, rfl⟩
        · rw [if_neg (by omega)] at hX
          simp -implicitDefEqProofs (maxSteps := 2000000) (disch := omega) [-getElem?_pos, gp, hpl, hsa]
          have cg := fun r tk => k_Sign (b := b) (i := i) (p := p) (σ := ⟨σ.objs ++ r, tk⟩) (gp r) (by omega) hb
          simp only [hsa] at cg
          refine (cg _ _).mono fun r σ' hr => ?_
          obtain ⟨rfl, rfl⟩ := hr
          generalize signF b i signsL = sg at *
          simp -implicitDefEqProofs (maxSteps := 2000000) (disch := omega) [-getElem?_pos, hpl]
          refine .mk (fun hsg => ?_) fun hsg => ?_
          · rw [show X = NR.bad i from by rw [hX, signN, if_pos hsg]]
            simp -implicitDefEqProofs (maxSteps := 2000000) (disch := omega) [-getElem?_pos, hpl]
            exact ⟨_, _, WeakR.refl _ _ _, 2, _, [], _, rfl, by simp; rfl, rfl⟩
          · rw [show X = NR.tok ⟨6, i, 0, sg⟩ (i + sg.length) from by rw [hX, signN, if_neg hsg]]
            simp -implicitDefEqProofs (maxSteps := 2000000) (disch := omega) [-getElem?_pos, hpl]
            exact .finS _ ⟨σ.objs.set p (cut b (i + sg.length)), σ.toks⟩ ⟨rfl, rfl⟩ (.refl _) (low_set (by simp [cut])) (by simp [encK]) (by simp) (by simp) (by simp) (by simp)
theorem span_lt {q : UInt8 → Bool} {b : Str} {i : Nat} {c : UInt8} (h : b[i]? = some c) (hq : q c = true) : i < spanE q b i ∧ spanE q b i ≤ b.length := by
  have hl := (List.getElem?_eq_some_iff.1 h).1
  have h1 := spanE_ge q b (i + 1)
  have h2 := spanE_le (q := q) (b := b) (i := i) (by omega)
  rw [← spanE_hit h hq] at h1
  omega
theorem textL_to : ∀ (n : Nat) (r : Str) (k : Nat) (out s : Str) (to : Nat), r.length ≤ n → textL r k out = .ok s to → k < to ∧ to ≤ k + r.length
  | n, [], k, out, s, to, _, h => by simp [textL] at h
  | 0, c :: r, k, out, s, to, hn, h => by simp at hn
  | n + 1, c :: r, k, out, s, to, hn, h => by
    simp only [List.length_cons] at hn
    by_cases h34 : c.toNat = 34
    · rw [textL_q h34] at h
      cases h
      simp
    · cases hp : plaB c with
      | false => rw [textL_odd h34 hp] at h; cases h
      | true =>
        by_cases h92 : c.toNat = 92
        · cases r with
          | nil => rw [textL_esc0 h92 hp] at h; cases h
          | cons d r =>
            simp only [List.length_cons] at hn
            by_cases h110 : d.toNat = 110
            · rw [textL_escn h92 hp h110] at h
              have := textL_to n r _ _ _ _ (by omega) h
              simp only [List.length_cons]
              omega
            · by_cases hd : d.toNat = 34 ∨ d.toNat = 92
              · rw [textL_escd h92 hp h110 hd] at h
                have := textL_to n r _ _ _ _ (by omega) h
                simp only [List.length_cons]
                omega
              · rw [textL_esco h92 hp h110 (fun h => hd (.inl h)) (fun h => hd (.inr h))] at h
                cases h
        · rw [textL_plain h34 hp h92] at h
          have := textL_to n r _ _ _ _ (by omega) h
          simp only [List.length_cons]
          omega
theorem sign_le {b : Str} {i : Nat} {l : List Str} (hi : i < b.length) (h : signF b i l ≠ []) : i + (signF b i l).length ≤ b.length := by
  unfold signF at h ⊢
  cases hf : l.find? fun s => decide (((b.drop i).take 2).take s.length = s) with
  | none => rw [hf] at h; simp at h
  | some s =>
    have := List.find?_some hf
    simp only [decide_eq_true_eq] at this
    have hl := congrArg List.length this
    simp only [List.length_take, List.length_drop] at hl
    simp only [Option.getD_some]
    omega
theorem oneL_to {b : Str} {i : Nat} {c : UInt8} {t : Tk} {to : Nat} (hc : b[i]? = some c) (h : oneL b i c = .tok t to) : i < to ∧ to ≤ b.length := by
  have hl := (List.getElem?_eq_some_iff.1 hc).1
  unfold oneL at h
  split at h
  · rename_i hlo
    unfold nameN at h
    split at h
    · cases h
    · cases h; exact span_lt hc (by simp [ldB, hlo])
  · split at h
    · rename_i hup
      unfold nameN at h
      split at h
      · cases h
      · cases h; exact span_lt hc (by simp [ludB, hup])
    · split at h
      · rename_i hdi
        unfold numN at h
        split at h
        · cases h
        · cases h; exact span_lt hc hdi
      · split at h
        · cases ht : textL (b.drop (i + 1)) (i + 1) [] with
          | bad q => rw [ht] at h; cases h
          | ok s e =>
            rw [ht] at h
            have h1 := textL_to _ _ _ _ _ _ (Nat.le_refl _) ht
            unfold textN at h
            split at h
            · cases h
            · rename_i heq
              split at h
              · cases h
              · cases h
                cases heq
                rw [List.length_drop] at h1
                omega
        · unfold signN at h
          split at h
          · cases h
          · rename_i hne
            cases h
            have := sign_le hl hne
            have h0 : (signF b i signsL).length ≠ 0 := fun h => hne (List.length_eq_zero_iff.1 h)
            omega
inductive CR where
  | ok (l : List Tk)
  | bad (q : Nat)
  | great
def cutF : Nat → Str → Nat → List Tk → CR
  | 0, _, _, _ => .great
  | f + 1, b, i, acc => match b[spanE blaB b i]? with
    | none => .ok acc
    | some c => match oneL b (spanE blaB b i) c with
      | .tok t to => cutF f b to (acc ++ [t])
      | .bad q => .bad q
def cutL (b : Str) : CR := if 4000 < b.length then .great else cutF (b.length + 1) b 0 []
def CutPost (σ : Sg) (x : CR) (r : D) (σ' : Sg) : Prop := match x with
  | .ok l => r = .tup [.v (.sl (some 4) false (l.map encK)), .v .inil] ∧ σ' = σ
  | .bad q => ∃ o xs ts, r = .tup [.v .snil, .iface 56 (.ptr (σ.objs.length + o) 0)] ∧ σ' = ⟨σ.objs ++ xs, σ.toks ++ ts⟩ ∧ xs[o]? = some (spotO q 2)
  | .great => r = .tup [.v .snil, .v (.iface 32 (.int .i64 6))] ∧ σ' = σ
structure CSt where
  i : Nat
  acc : List Tk
structure CIn (b : Str) (x : CSt) : Prop where
  hi : x.i ≤ b.length
  ha : x.acc.length ≤ x.i
  he : ∃ f, b.length - x.i < f ∧ cutF (b.length + 1) b 0 [] = cutF f b x.i x.acc
theorem k_Cut {b : Str} {σ : Sg} (hb : b.length ≤ 1048576) : ACalls Tryz.prog 51 [.v (vBs b)] σ (CutPost σ (cutL b)) := by
  unfold cutL
  refine acalls_fit Tryz.func51 (by kernel_rfl) c51 rfl (by simp [a51]) fun hf => ?_
  clear hf
  simp -implicitDefEqProofs (maxSteps := 2000000) (disch := omega) [-getElem?_pos, a51]
  refine .mk (fun h => ?_) fun h => ?_
  · rw [if_pos (by omega)]
    simp -implicitDefEqProofs (maxSteps := 2000000) (disch := omega) [-getElem?_pos]
    exact .fin _ ⟨rfl, rfl⟩ (.refl _)
  rw [if_neg (by omega)]
  simp -implicitDefEqProofs (maxSteps := 2000000) (disch := omega) [-getElem?_pos]
  refine W_loop (α := CSt) ⟨0, []⟩ (fun x => b.length - x.i) (fun x => ⟨[(0, .v (vBs b)), (4, .ptr σ.objs.length 0), (5, .tsl σ.toks.length (some 4) (x.acc.map encK))], ⟨σ.objs ++ [cut b x.i], σ.toks ++ [x.acc.length]⟩⟩)
    (fun x => CIn b x) (.trans (b := ⟨[(0, .v (vBs b)), (4, .ptr σ.objs.length 0), (5, .tsl σ.toks.length (some 4) [])], _⟩) (.tok (i := 5) (sh := some 4) (by simp) (by simp)) (.eq2 rfl (by simp))) ⟨Nat.zero_le _, by simp, _, by omega, rfl⟩ fun ⟨i, acc⟩ ⟨hi, ha, f, hf, he⟩ => ?_
  dsimp only at hi ha hf he ⊢
  rw [he]
  obtain ⟨f, rfl⟩ : ∃ f', f = f' + 1 := ⟨f - 1, by omega⟩
  have hpg := k_Pass (fd := .v (.fn 81)) (q := blaB) (b := b) (i := i) (p := σ.objs.length) (σ := ⟨σ.objs ++ [cut b i], σ.toks ++ [acc.length]⟩) (by simp) hi hb (fun c τ => by rw [WCall_fn]; exact k_Blank) (fun n k => trivial)
  have hj := spanE_le (q := blaB) hi
  have hij := spanE_ge blaB b i
  rw [cutF]
  obtain ⟨j, hjd⟩ : ∃ j, spanE blaB b i = j := ⟨_, rfl⟩
  rw [hjd] at hpg hj hij ⊢
  simp -implicitDefEqProofs (maxSteps := 2000000) (disch := omega) [-getElem?_pos]
  refine hpg.mono fun r σ' hr => ?_
  obtain ⟨rfl, rfl⟩ := hr
  simp -implicitDefEqProofs (maxSteps := 2000000) (disch := omega) [-getElem?_pos]
  refine .mk (fun h => ?_) fun h => ?_
  · have hn : b[j]? = none := by rw [List.getElem?_eq_none_iff]; omega
    rw [hn]
    simp -implicitDefEqProofs (maxSteps := 2000000) (disch := omega) [-getElem?_pos, hn]
    exact .fin _ ⟨rfl, rfl⟩ (.tup2 .tsl (.refl _))
  · obtain ⟨c, hc⟩ : ∃ c, b[j]? = some c := ⟨b[j]'(by omega), List.getElem?_eq_getElem _⟩
    rw [hc]
    dsimp only
    simp -implicitDefEqProofs (maxSteps := 2000000) (disch := omega) [-getElem?_pos]
    refine (k_Next (b := b) (i := j) (p := σ.objs.length) (c := c) (σ := ⟨σ.objs ++ [cut b j], σ.toks ++ [acc.length]⟩) (by simp) hc hb).mono fun r σ' hr => ?_
    cases hx : oneL b j c with
    | tok t to =>
      rw [hx] at hr
      obtain ⟨rfl, rfl⟩ := hr
      have ht := oneL_to hc hx
      dsimp only
      have he' : cutF (b.length + 1) b 0 [] = cutF f b to (acc ++ [t]) := by
        rw [he, cutF, hjd, hc]
        dsimp only
        rw [hx]
      simp -implicitDefEqProofs (maxSteps := 2000000) (disch := omega) [-getElem?_pos, encK]
      refine ⟨by omega, ⟨to, acc ++ [t]⟩, ⟨ht.2, by simp; omega, f, by dsimp only; omega, he'⟩, by dsimp only; omega, .dropX (ys := [cut b to]) rfl (by simp) (by simp) (by simp [cut]) (by simp [encK]) (by simp)⟩
    | bad q =>
      rw [hx] at hr
      obtain ⟨o, xs, ts, e, rfl, rfl, hxs⟩ := hr
      dsimp only
      simp -implicitDefEqProofs (maxSteps := 2000000) (disch := omega) [-getElem?_pos]
      refine ⟨_, _, WeakR.refl _ _ _, 1 + o, cut b e :: (xs ++ [.cells [.v (.int .i64 0), .v (.int .i64 0), .v (.int .i64 0), .v (.str [])]]), acc.length :: ts, by rw [Nat.add_assoc], rfl, ?_⟩
      have hl : o < xs.length := (List.getElem?_eq_some_iff.1 hxs).1
      rw [Nat.add_comm, List.getElem?_cons_succ, List.getElem?_append_left hl]
      exact hxs
end Go.Proofs.YtpdeaekmgljeaaaGreatDoor
