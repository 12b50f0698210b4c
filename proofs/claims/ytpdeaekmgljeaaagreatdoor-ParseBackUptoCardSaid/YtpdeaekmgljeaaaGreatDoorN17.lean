/-
  The bodies of functions, in the small language: printed by program, proved by the kernel's computing. (Own work.)
-/
import Derived.Test.YtpdeaekmgljeaaaGreatDoorN16
import Derived.Test.YtpdeaekmgljeaaaGreatDoorChecked
namespace Go.Proofs.YtpdeaekmgljeaaaGreatDoor
open Go Go.Abs
def a3 : AFun := ⟨44,[.tmp 2],(.seq (.reg [1,2] [⟨some 1,none,.box (.t 0)⟩,⟨some 2,none,.mv (.c (.bool false))⟩]) (.seq (.reg [3] [⟨some 8,none,.call (.c (.fn 8)) []⟩,⟨some 3,none,.mv (.t 8)⟩]) (.seq (.reg [4] [⟨some 9,none,.load (some 8) (.t 1)⟩,⟨some 10,none,.call (.c (.fn 9)) [.t 9]⟩,⟨some 4,none,.mv (.t 10)⟩]) (.seq (.seq (.reg [12] [⟨some 11,none,.mv (.t 4)⟩,⟨some 12,none,.un .not (.t 11)⟩]) (.cond (.t 12) (.seq (.reg [2] [⟨some 13,none,.mv (.t 3)⟩,⟨some 2,none,.mv (.t 13)⟩]) .ret) .skip)) (.seq (.reg [5,6] [⟨some 15,none,.load (some 8) (.t 1)⟩,⟨some 16,none,.call (.c (.fn 10)) [.t 15]⟩,⟨some 14,none,.mv (.t 16)⟩,⟨some 17,none,.extract (.t 14) 0⟩,⟨some 18,none,.extract (.t 14) 1⟩,⟨some 5,none,.mv (.t 17)⟩,⟨some 6,none,.mv (.t 18)⟩]) (.seq (.reg [7] [⟨some 19,none,.load (some 8) (.t 1)⟩,⟨some 20,none,.call (.c (.fn 11)) [.t 19]⟩,⟨some 7,none,.mv (.t 20)⟩]) (.seq (.seq (.reg [22] [⟨some 21,none,.mv (.t 7)⟩,⟨some 22,none,.un .not (.t 21)⟩]) (.cond (.t 22) (.seq (.reg [2] [⟨some 23,none,.mv (.t 3)⟩,⟨some 24,none,.mv (.t 23)⟩,⟨some 25,some (24,true),.mv (.t 6)⟩,⟨some 26,some (24,true),.mkif 32 (.c (.int .i64 1))⟩,⟨some 27,some (24,true),.bin .eql .ifc false (.t 25) (.t 26)⟩,⟨some 28,none,.pick (.t 24) (.t 27) (.c (.bool false))⟩,⟨some 29,none,.mv (.t 28)⟩,⟨some 30,some (29,true),.mv (.t 5)⟩,⟨some 31,some (29,true),.bin .eql .other true (.t 30) (.c (.str []))⟩,⟨some 32,none,.pick (.t 29) (.t 31) (.c (.bool false))⟩,⟨some 2,none,.mv (.t 32)⟩]) .ret) .skip)) (.seq (.reg [2] [⟨some 33,none,.mv (.t 3)⟩,⟨some 34,none,.mv (.t 33)⟩,⟨some 35,some (34,true),.mv (.t 6)⟩,⟨some 36,some (34,true),.bin .eql .ifc true (.t 35) (.c .inil)⟩,⟨some 37,none,.pick (.t 34) (.t 36) (.c (.bool false))⟩,⟨some 38,none,.mv (.t 37)⟩,⟨some 39,some (38,true),.mv (.t 5)⟩,⟨some 40,some (38,true),.load (some 8) (.t 1)⟩,⟨some 41,some (38,true),.call (.c (.fn 12)) [.t 40]⟩,⟨some 42,some (38,true),.bin .eql .other false (.t 39) (.t 41)⟩,⟨some 43,none,.pick (.t 38) (.t 42) (.c (.bool false))⟩,⟨some 2,none,.mv (.t 43)⟩]) .ret))))))))⟩
theorem c3 : compF Tryz.prog [0, 1, 2, 3, 4, 5, 6, 7, 12, 22] Tryz.f3 = some a3 := by kernel_rfl
def a10 : AFun := ⟨10,[.tmp 2,.tmp 3],(.seq (.reg [1,2,3] [⟨some 1,none,.box (.t 0)⟩,⟨some 2,none,.mv (.c (.str []))⟩,⟨some 3,none,.mv (.c .inil)⟩]) (.seq (.seq (.reg [6] [⟨some 4,none,.load (some 8) (.t 1)⟩,⟨some 5,none,.call (.c (.fn 23)) [.t 4]⟩,⟨some 6,none,.un .not (.t 5)⟩]) (.cond (.t 6) (.seq (.reg [2,3] [⟨some 7,none,.mkif 32 (.c (.int .i64 1))⟩,⟨some 2,none,.mv (.c (.str []))⟩,⟨some 3,none,.mv (.t 7)⟩]) .ret) .skip)) (.seq (.reg [2,3] [⟨some 8,none,.load (some 8) (.t 1)⟩,⟨some 9,none,.call (.c (.fn 31)) [.t 8]⟩,⟨some 2,none,.mv (.t 9)⟩,⟨some 3,none,.mv (.c .inil)⟩]) .ret)))⟩
theorem c10 : compF Tryz.prog [0, 1, 2, 3, 6] Tryz.f10 = some a10 := by kernel_rfl
def a31 : AFun := ⟨255,[.tmp 2],(.seq (.reg [1,2] [⟨some 1,none,.box (.t 0)⟩,⟨some 2,none,.mv (.c (.str []))⟩]) (.seq (.seq (.reg [9] [⟨some 8,none,.faddr 0 (.t 1)⟩,⟨some 9,none,.load none (.t 8)⟩]) (.block 0 (.seq (.reg [10] [⟨some 11,none,.bin .eql .other true (.t 9) (.c (.int .i64 1))⟩,⟨some 10,none,.mv (.t 11)⟩]) (.cond (.t 10) (.seq (.reg [2] [⟨some 12,none,.faddr 2 (.t 1)⟩,⟨some 13,none,.load none (.t 12)⟩,⟨some 14,none,.call (.c (.fn 35)) [.t 13,.c (.int .i64 10)]⟩,⟨some 2,none,.mv (.t 14)⟩]) .ret) (.seq (.reg [15] [⟨some 16,none,.bin .eql .other true (.t 9) (.c (.int .i64 2))⟩,⟨some 15,none,.mv (.t 16)⟩]) (.cond (.t 15) (.seq (.reg [3,4] [⟨some 18,none,.faddr 3 (.t 1)⟩,⟨some 19,none,.load none (.t 18)⟩,⟨some 20,none,.call (.c (.fn 55)) [.t 19]⟩,⟨some 17,none,.mv (.t 20)⟩,⟨some 21,none,.extract (.t 17) 0⟩,⟨some 22,none,.extract (.t 17) 1⟩,⟨some 3,none,.mv (.t 21)⟩,⟨some 4,none,.mv (.t 22)⟩]) (.seq (.seq (.reg [24] [⟨some 23,none,.mv (.t 4)⟩,⟨some 24,none,.bin .neq .ifc true (.t 23) (.c .inil)⟩]) (.cond (.t 24) (.seq (.reg [2] [⟨some 2,none,.mv (.c (.str []))⟩]) .ret) .skip)) (.seq (.reg [2] [⟨some 25,none,.mv (.t 3)⟩,⟨some 2,none,.mv (.t 25)⟩]) .ret))) (.seq (.reg [26] [⟨some 27,none,.bin .eql .other true (.t 9) (.c (.int .i64 3))⟩,⟨some 26,none,.mv (.t 27)⟩]) (.cond (.t 26) (.seq (.reg [2] [⟨some 28,none,.faddr 3 (.t 1)⟩,⟨some 29,none,.load none (.t 28)⟩,⟨some 2,none,.mv (.t 29)⟩]) .ret) (.seq (.reg [30] [⟨some 31,none,.bin .eql .other true (.t 9) (.c (.int .i64 4))⟩,⟨some 30,none,.mv (.t 31)⟩]) (.cond (.t 30) (.seq (.any [2] [(⟨some 32,none,.faddr 3 (.t 1)⟩,true),(⟨some 33,none,.load none (.t 32)⟩,true),(⟨some 34,none,.bin .add .other true (.c (.str [102,110,32])) (.t 33)⟩,true),(⟨some 35,none,.bin .add .other true (.t 34) (.c (.str [32,45,62,32]))⟩,true),(⟨some 36,none,.faddr 7 (.t 1)⟩,false),(⟨some 37,none,.load none (.t 36)⟩,false),(⟨some 38,none,.iaddr (some 8) (.t 37) (.c (.int .i64 0))⟩,false),(⟨some 39,none,.load (some 8) (.t 38)⟩,false),(⟨some 40,none,.call (.c (.fn 31)) [.t 39]⟩,false),(⟨some 41,none,.bin .add .other false (.t 35) (.t 40)⟩,true),(⟨some 2,none,.mv (.t 41)⟩,true)]) .ret) (.seq (.reg [42] [⟨some 43,none,.bin .eql .other true (.t 9) (.c (.int .i64 5))⟩,⟨some 42,none,.mv (.t 43)⟩]) (.cond (.t 42) (.seq (.any [2] [(⟨some 44,none,.faddr 7 (.t 1)⟩,true),(⟨some 45,none,.load none (.t 44)⟩,true),(⟨some 46,none,.iaddr (some 8) (.t 45) (.c (.int .i64 0))⟩,true),(⟨some 47,none,.load (some 8) (.t 46)⟩,true),(⟨some 50,none,.faddr 7 (.t 1)⟩,false),(⟨some 51,none,.load none (.t 50)⟩,false),(⟨some 52,none,.iaddr (some 8) (.t 51) (.c (.int .i64 1))⟩,false),(⟨some 53,none,.load (some 8) (.t 52)⟩,false),(⟨some 48,none,.call (.c (.fn 56)) [.t 47]⟩,false),(⟨some 49,none,.bin .add .other true (.t 48) (.c (.str [32]))⟩,false),(⟨some 54,none,.call (.c (.fn 56)) [.t 53]⟩,false),(⟨some 55,none,.bin .add .other false (.t 49) (.t 54)⟩,true),(⟨some 2,none,.mv (.t 55)⟩,true)]) .ret) (.seq (.reg [56] [⟨some 57,none,.bin .eql .other true (.t 9) (.c (.int .i64 6))⟩,⟨some 56,none,.mv (.t 57)⟩]) (.cond (.t 56) (.seq (.any [2] [(⟨some 58,none,.faddr 3 (.t 1)⟩,true),(⟨some 59,none,.load none (.t 58)⟩,true),(⟨some 60,none,.bin .add .other true (.c (.str [108,101,116,32])) (.t 59)⟩,true),(⟨some 61,none,.bin .add .other true (.t 60) (.c (.str [32,61,32]))⟩,true),(⟨some 62,none,.faddr 7 (.t 1)⟩,false),(⟨some 63,none,.load none (.t 62)⟩,false),(⟨some 64,none,.iaddr (some 8) (.t 63) (.c (.int .i64 0))⟩,false),(⟨some 65,none,.load (some 8) (.t 64)⟩,false),(⟨some 69,none,.faddr 7 (.t 1)⟩,false),(⟨some 70,none,.load none (.t 69)⟩,false),(⟨some 71,none,.iaddr (some 8) (.t 70) (.c (.int .i64 1))⟩,false),(⟨some 72,none,.load (some 8) (.t 71)⟩,false),(⟨some 66,none,.call (.c (.fn 31)) [.t 65]⟩,false),(⟨some 67,none,.bin .add .other false (.t 61) (.t 66)⟩,false),(⟨some 68,none,.bin .add .other true (.t 67) (.c (.str [32,105,110,32]))⟩,false),(⟨some 73,none,.call (.c (.fn 31)) [.t 72]⟩,false),(⟨some 74,none,.bin .add .other false (.t 68) (.t 73)⟩,true),(⟨some 2,none,.mv (.t 74)⟩,true)]) .ret) (.seq (.reg [75] [⟨some 76,none,.bin .eql .other true (.t 9) (.c (.int .i64 7))⟩,⟨some 75,none,.mv (.t 76)⟩]) (.cond (.t 75) (.seq (.any [2] [(⟨some 77,none,.faddr 3 (.t 1)⟩,true),(⟨some 78,none,.load none (.t 77)⟩,true),(⟨some 79,none,.bin .add .other true (.c (.str [108,101,116,32,114,101,99,32])) (.t 78)⟩,true),(⟨some 80,none,.bin .add .other true (.t 79) (.c (.str [32]))⟩,true),(⟨some 81,none,.faddr 4 (.t 1)⟩,false),(⟨some 82,none,.load none (.t 81)⟩,false),(⟨some 83,none,.bin .add .other false (.t 80) (.t 82)⟩,true),(⟨some 84,none,.bin .add .other true (.t 83) (.c (.str [32,61,32]))⟩,true),(⟨some 85,none,.faddr 7 (.t 1)⟩,false),(⟨some 86,none,.load none (.t 85)⟩,false),(⟨some 87,none,.iaddr (some 8) (.t 86) (.c (.int .i64 0))⟩,false),(⟨some 88,none,.load (some 8) (.t 87)⟩,false),(⟨some 92,none,.faddr 7 (.t 1)⟩,false),(⟨some 93,none,.load none (.t 92)⟩,false),(⟨some 94,none,.iaddr (some 8) (.t 93) (.c (.int .i64 1))⟩,false),(⟨some 95,none,.load (some 8) (.t 94)⟩,false),(⟨some 89,none,.call (.c (.fn 31)) [.t 88]⟩,false),(⟨some 90,none,.bin .add .other false (.t 84) (.t 89)⟩,false),(⟨some 91,none,.bin .add .other true (.t 90) (.c (.str [32,105,110,32]))⟩,false),(⟨some 96,none,.call (.c (.fn 31)) [.t 95]⟩,false),(⟨some 97,none,.bin .add .other false (.t 91) (.t 96)⟩,true),(⟨some 2,none,.mv (.t 97)⟩,true)]) .ret) (.seq (.reg [98] [⟨some 99,none,.bin .eql .other true (.t 9) (.c (.int .i64 8))⟩,⟨some 98,none,.mv (.t 99)⟩]) (.cond (.t 98) (.seq (.reg [5] [⟨some 5,none,.mv (.c .snil)⟩]) (.seq (.seq (.reg [101,102,103] [⟨some 100,none,.faddr 5 (.t 1)⟩,⟨some 101,none,.load none (.t 100)⟩,⟨some 102,none,.len .sl (.t 101)⟩,⟨some 103,none,.mv (.c (.int .i64 0))⟩]) (.block 1 (.loop (.seq (.reg [104] [⟨some 104,none,.bin .lss .other false (.t 103) (.t 102)⟩]) (.seq (.cond (.t 104) .skip (.exit 1)) (.seq (.block 2 (.seq (.reg [6,7] [⟨some 105,none,.mv (.t 103)⟩,⟨some 106,none,.iaddr none (.t 101) (.t 103)⟩,⟨some 107,none,.load none (.t 106)⟩,⟨some 6,none,.mv (.t 105)⟩,⟨some 7,none,.mv (.t 107)⟩]) (.reg [5] [⟨some 108,none,.mv (.t 5)⟩,⟨some 109,none,.mv (.t 7)⟩,⟨some 110,none,.bin .add .other true (.t 109) (.c (.str [32,61,32]))⟩,⟨some 111,none,.faddr 7 (.t 1)⟩,⟨some 112,none,.load none (.t 111)⟩,⟨some 113,none,.mv (.t 6)⟩,⟨some 114,none,.iaddr (some 8) (.t 112) (.t 113)⟩,⟨some 115,none,.load (some 8) (.t 114)⟩,⟨some 116,none,.call (.c (.fn 31)) [.t 115]⟩,⟨some 117,none,.bin .add .other false (.t 110) (.t 116)⟩,⟨some 118,none,.mksl none [.t 117]⟩,⟨some 119,none,.append none 16 (.t 108) (.t 118)⟩,⟨some 5,none,.mv (.t 119)⟩]))) (.reg [103] [⟨some 120,none,.bin .add .other true (.t 103) (.c (.int .i64 1))⟩,⟨some 103,none,.mv (.t 120)⟩]))))))) (.seq (.reg [2] [⟨some 121,none,.mv (.t 5)⟩,⟨some 122,none,.call (.c (.fn 57)) [.t 121,.c (.str [44,32])]⟩,⟨some 123,none,.bin .add .other true (.c (.str [123])) (.t 122)⟩,⟨some 124,none,.bin .add .other true (.t 123) (.c (.str [125]))⟩,⟨some 2,none,.mv (.t 124)⟩]) .ret))) (.seq (.reg [125] [⟨some 126,none,.bin .eql .other true (.t 9) (.c (.int .i64 9))⟩,⟨some 125,none,.mv (.t 126)⟩]) (.cond (.t 125) (.seq (.any [2] [(⟨some 127,none,.faddr 7 (.t 1)⟩,true),(⟨some 128,none,.load none (.t 127)⟩,true),(⟨some 129,none,.iaddr (some 8) (.t 128) (.c (.int .i64 0))⟩,true),(⟨some 130,none,.load (some 8) (.t 129)⟩,true),(⟨some 133,none,.faddr 3 (.t 1)⟩,false),(⟨some 134,none,.load none (.t 133)⟩,false),(⟨some 131,none,.call (.c (.fn 56)) [.t 130]⟩,false),(⟨some 132,none,.bin .add .other true (.t 131) (.c (.str [46]))⟩,false),(⟨some 135,none,.bin .add .other false (.t 132) (.t 134)⟩,true),(⟨some 2,none,.mv (.t 135)⟩,true)]) .ret) (.seq (.reg [136] [⟨some 137,none,.bin .eql .other true (.t 9) (.c (.int .i64 10))⟩,⟨some 136,none,.mv (.t 137)⟩]) (.cond (.t 136) (.seq (.any [2] [(⟨some 138,none,.faddr 3 (.t 1)⟩,true),(⟨some 139,none,.load none (.t 138)⟩,true),(⟨some 140,none,.bin .add .other true (.c (.str [123])) (.t 139)⟩,true),(⟨some 141,none,.bin .add .other true (.t 140) (.c (.str [32,61,32]))⟩,true),(⟨some 142,none,.faddr 7 (.t 1)⟩,false),(⟨some 143,none,.load none (.t 142)⟩,false),(⟨some 144,none,.iaddr (some 8) (.t 143) (.c (.int .i64 0))⟩,false),(⟨some 145,none,.load (some 8) (.t 144)⟩,false),(⟨some 149,none,.faddr 7 (.t 1)⟩,false),(⟨some 150,none,.load none (.t 149)⟩,false),(⟨some 151,none,.iaddr (some 8) (.t 150) (.c (.int .i64 1))⟩,false),(⟨some 152,none,.load (some 8) (.t 151)⟩,false),(⟨some 146,none,.call (.c (.fn 31)) [.t 145]⟩,false),(⟨some 147,none,.bin .add .other false (.t 141) (.t 146)⟩,false),(⟨some 148,none,.bin .add .other true (.t 147) (.c (.str [32,124,32]))⟩,false),(⟨some 153,none,.call (.c (.fn 31)) [.t 152]⟩,false),(⟨some 154,none,.bin .add .other false (.t 148) (.t 153)⟩,true),(⟨some 155,none,.bin .add .other true (.t 154) (.c (.str [125]))⟩,true),(⟨some 2,none,.mv (.t 155)⟩,true)]) .ret) (.seq (.reg [156] [⟨some 157,none,.bin .eql .other true (.t 9) (.c (.int .i64 11))⟩,⟨some 156,none,.mv (.t 157)⟩]) (.cond (.t 156) (.seq (.any [2] [(⟨some 158,none,.faddr 7 (.t 1)⟩,true),(⟨some 159,none,.load none (.t 158)⟩,true),(⟨some 160,none,.iaddr (some 8) (.t 159) (.c (.int .i64 0))⟩,true),(⟨some 161,none,.load (some 8) (.t 160)⟩,true),(⟨some 164,none,.faddr 3 (.t 1)⟩,false),(⟨some 165,none,.load none (.t 164)⟩,false),(⟨some 162,none,.call (.c (.fn 56)) [.t 161]⟩,false),(⟨some 163,none,.bin .add .other true (.t 162) (.c (.str [92]))⟩,false),(⟨some 166,none,.bin .add .other false (.t 163) (.t 165)⟩,true),(⟨some 2,none,.mv (.t 166)⟩,true)]) .ret) (.seq (.reg [167] [⟨some 168,none,.bin .eql .other true (.t 9) (.c (.int .i64 12))⟩,⟨some 167,none,.mv (.t 168)⟩]) (.cond (.t 167) (.seq (.any [2] [(⟨some 169,none,.faddr 7 (.t 1)⟩,true),(⟨some 170,none,.load none (.t 169)⟩,true),(⟨some 171,none,.iaddr (some 8) (.t 170) (.c (.int .i64 1))⟩,true),(⟨some 172,none,.load (some 8) (.t 171)⟩,true),(⟨some 176,none,.faddr 3 (.t 1)⟩,false),(⟨some 177,none,.load none (.t 176)⟩,false),(⟨some 180,none,.faddr 7 (.t 1)⟩,false),(⟨some 181,none,.load none (.t 180)⟩,false),(⟨some 182,none,.iaddr (some 8) (.t 181) (.c (.int .i64 0))⟩,false),(⟨some 183,none,.load (some 8) (.t 182)⟩,false),(⟨some 173,none,.call (.c (.fn 56)) [.t 172]⟩,false),(⟨some 174,none,.bin .add .other true (.c (.str [123])) (.t 173)⟩,false),(⟨some 175,none,.bin .add .other true (.t 174) (.c (.str [32,119,105,116,104,32]))⟩,false),(⟨some 178,none,.bin .add .other false (.t 175) (.t 177)⟩,false),(⟨some 179,none,.bin .add .other true (.t 178) (.c (.str [32,61,32]))⟩,false),(⟨some 184,none,.call (.c (.fn 31)) [.t 183]⟩,false),(⟨some 185,none,.bin .add .other false (.t 179) (.t 184)⟩,true),(⟨some 186,none,.bin .add .other true (.t 185) (.c (.str [125]))⟩,true),(⟨some 2,none,.mv (.t 186)⟩,true)]) .ret) (.seq (.reg [187] [⟨some 188,none,.bin .eql .other true (.t 9) (.c (.int .i64 14))⟩,⟨some 187,none,.mv (.t 188)⟩]) (.cond (.t 187) (.seq (.reg [2] [⟨some 189,none,.load (some 8) (.t 1)⟩,⟨some 190,none,.call (.c (.fn 58)) [.t 189]⟩,⟨some 2,none,.mv (.t 190)⟩]) .ret) (.seq (.reg [191] [⟨some 192,none,.bin .eql .other true (.t 9) (.c (.int .i64 15))⟩,⟨some 191,none,.mv (.t 192)⟩]) (.cond (.t 191) (.seq (.any [2] [(⟨some 193,none,.faddr 7 (.t 1)⟩,true),(⟨some 194,none,.load none (.t 193)⟩,true),(⟨some 195,none,.iaddr (some 8) (.t 194) (.c (.int .i64 0))⟩,true),(⟨some 196,none,.load (some 8) (.t 195)⟩,true),(⟨some 200,none,.faddr 7 (.t 1)⟩,false),(⟨some 201,none,.load none (.t 200)⟩,false),(⟨some 202,none,.iaddr (some 8) (.t 201) (.c (.int .i64 1))⟩,false),(⟨some 203,none,.load (some 8) (.t 202)⟩,false),(⟨some 207,none,.faddr 7 (.t 1)⟩,false),(⟨some 208,none,.load none (.t 207)⟩,false),(⟨some 209,none,.iaddr (some 8) (.t 208) (.c (.int .i64 2))⟩,false),(⟨some 210,none,.load (some 8) (.t 209)⟩,false),(⟨some 197,none,.call (.c (.fn 31)) [.t 196]⟩,false),(⟨some 198,none,.bin .add .other true (.c (.str [105,102,32])) (.t 197)⟩,false),(⟨some 199,none,.bin .add .other true (.t 198) (.c (.str [32,116,104,101,110,32]))⟩,false),(⟨some 204,none,.call (.c (.fn 31)) [.t 203]⟩,false),(⟨some 205,none,.bin .add .other false (.t 199) (.t 204)⟩,false),(⟨some 206,none,.bin .add .other true (.t 205) (.c (.str [32,101,108,115,101,32]))⟩,false),(⟨some 211,none,.call (.c (.fn 31)) [.t 210]⟩,false),(⟨some 212,none,.bin .add .other false (.t 206) (.t 211)⟩,true),(⟨some 2,none,.mv (.t 212)⟩,true)]) .ret) (.seq (.reg [213] [⟨some 214,none,.bin .eql .other true (.t 9) (.c (.int .i64 16))⟩,⟨some 213,none,.mv (.t 214)⟩]) (.cond (.t 213) (.seq (.any [2] [(⟨some 215,none,.faddr 7 (.t 1)⟩,true),(⟨some 216,none,.load none (.t 215)⟩,true),(⟨some 217,none,.iaddr (some 8) (.t 216) (.c (.int .i64 0))⟩,true),(⟨some 218,none,.load (some 8) (.t 217)⟩,true),(⟨some 221,none,.faddr 3 (.t 1)⟩,false),(⟨some 222,none,.load none (.t 221)⟩,false),(⟨some 225,none,.faddr 7 (.t 1)⟩,false),(⟨some 226,none,.load none (.t 225)⟩,false),(⟨some 227,none,.iaddr (some 8) (.t 226) (.c (.int .i64 1))⟩,false),(⟨some 228,none,.load (some 8) (.t 227)⟩,false),(⟨some 219,none,.call (.c (.fn 56)) [.t 218]⟩,false),(⟨some 220,none,.bin .add .other true (.t 219) (.c (.str [32]))⟩,false),(⟨some 223,none,.bin .add .other false (.t 220) (.t 222)⟩,false),(⟨some 224,none,.bin .add .other true (.t 223) (.c (.str [32]))⟩,false),(⟨some 229,none,.call (.c (.fn 56)) [.t 228]⟩,false),(⟨some 230,none,.bin .add .other false (.t 224) (.t 229)⟩,true),(⟨some 2,none,.mv (.t 230)⟩,true)]) .ret) (.seq (.reg [231] [⟨some 232,none,.bin .eql .other true (.t 9) (.c (.int .i64 19))⟩,⟨some 231,none,.mv (.t 232)⟩]) (.cond (.t 231) (.seq (.any [2] [(⟨some 233,none,.faddr 7 (.t 1)⟩,true),(⟨some 234,none,.load none (.t 233)⟩,true),(⟨some 235,none,.iaddr (some 8) (.t 234) (.c (.int .i64 0))⟩,true),(⟨some 236,none,.load (some 8) (.t 235)⟩,true),(⟨some 239,none,.faddr 7 (.t 1)⟩,false),(⟨some 240,none,.load none (.t 239)⟩,false),(⟨some 241,none,.iaddr (some 8) (.t 240) (.c (.int .i64 1))⟩,false),(⟨some 242,none,.load (some 8) (.t 241)⟩,false),(⟨some 237,none,.call (.c (.fn 56)) [.t 236]⟩,false),(⟨some 238,none,.bin .add .other true (.t 237) (.c (.str [32,58,61,32]))⟩,false),(⟨some 243,none,.call (.c (.fn 56)) [.t 242]⟩,false),(⟨some 244,none,.bin .add .other false (.t 238) (.t 243)⟩,true),(⟨some 2,none,.mv (.t 244)⟩,true)]) .ret) (.seq (.reg [245] [⟨some 246,none,.bin .eql .other true (.t 9) (.c (.int .i64 22))⟩,⟨some 245,none,.mv (.t 246)⟩]) (.cond (.t 245) (.seq (.reg [2] [⟨some 2,none,.mv (.c (.str [114,101,97,100]))⟩]) .ret) .skip)))))))))))))))))))))))))))))))))))) (.seq (.any [2] [(⟨some 247,none,.load (some 8) (.t 1)⟩,true),(⟨some 249,none,.faddr 7 (.t 1)⟩,false),(⟨some 250,none,.load none (.t 249)⟩,false),(⟨some 251,none,.iaddr (some 8) (.t 250) (.c (.int .i64 0))⟩,false),(⟨some 252,none,.load (some 8) (.t 251)⟩,false),(⟨some 248,none,.call (.c (.fn 59)) [.t 247]⟩,false),(⟨some 253,none,.call (.c (.fn 56)) [.t 252]⟩,true),(⟨some 254,none,.bin .add .other false (.t 248) (.t 253)⟩,true),(⟨some 2,none,.mv (.t 254)⟩,true)]) .ret)))⟩
theorem c31 : compF Tryz.prog [0, 1, 2, 3, 4, 5, 6, 7, 9, 10, 15, 24, 26, 30, 42, 56, 75, 98, 101, 102, 103, 104, 125, 136, 156, 167, 187, 191, 213, 231, 245] Tryz.f31 = some a31 := by kernel_rfl
def a56 : AFun := ⟨19,[.tmp 2],(.seq (.reg [1,2] [⟨some 1,none,.box (.t 0)⟩,⟨some 2,none,.mv (.c (.str []))⟩]) (.seq (.seq (.reg [4] [⟨some 3,none,.faddr 0 (.t 1)⟩,⟨some 4,none,.load none (.t 3)⟩]) (.block 0 (.seq (.seq (.reg [5] [⟨some 6,none,.bin .eql .other true (.t 4) (.c (.int .i64 1))⟩,⟨some 5,none,.mv (.t 6)⟩]) (.cond (.t 5) .skip (.seq (.reg [5] [⟨some 7,none,.bin .eql .other true (.t 4) (.c (.int .i64 2))⟩,⟨some 5,none,.mv (.t 7)⟩]) (.cond (.t 5) .skip (.seq (.reg [5] [⟨some 8,none,.bin .eql .other true (.t 4) (.c (.int .i64 3))⟩,⟨some 5,none,.mv (.t 8)⟩]) (.cond (.t 5) .skip (.seq (.reg [5] [⟨some 9,none,.bin .eql .other true (.t 4) (.c (.int .i64 8))⟩,⟨some 5,none,.mv (.t 9)⟩]) (.cond (.t 5) .skip (.seq (.reg [5] [⟨some 10,none,.bin .eql .other true (.t 4) (.c (.int .i64 10))⟩,⟨some 5,none,.mv (.t 10)⟩]) (.cond (.t 5) .skip (.seq (.reg [5] [⟨some 11,none,.bin .eql .other true (.t 4) (.c (.int .i64 12))⟩,⟨some 5,none,.mv (.t 11)⟩]) (.cond (.t 5) .skip (.reg [5] [⟨some 12,none,.bin .eql .other true (.t 4) (.c (.int .i64 22))⟩,⟨some 5,none,.mv (.t 12)⟩]))))))))))))) (.cond (.t 5) (.seq (.reg [2] [⟨some 13,none,.load (some 8) (.t 1)⟩,⟨some 14,none,.call (.c (.fn 31)) [.t 13]⟩,⟨some 2,none,.mv (.t 14)⟩]) .ret) .skip)))) (.seq (.reg [2] [⟨some 15,none,.load (some 8) (.t 1)⟩,⟨some 16,none,.call (.c (.fn 31)) [.t 15]⟩,⟨some 17,none,.bin .add .other true (.c (.str [40])) (.t 16)⟩,⟨some 18,none,.bin .add .other true (.t 17) (.c (.str [41]))⟩,⟨some 2,none,.mv (.t 18)⟩]) .ret)))⟩
theorem c56 : compF Tryz.prog [0, 1, 2, 4, 5] Tryz.f56 = some a56 := by kernel_rfl
def a58 : AFun := ⟨63,[.tmp 2],(.seq (.reg [1,2] [⟨some 1,none,.box (.t 0)⟩,⟨some 2,none,.mv (.c (.str []))⟩]) (.seq (.reg [3] [⟨some 6,none,.faddr 7 (.t 1)⟩,⟨some 7,none,.load none (.t 6)⟩,⟨some 8,none,.iaddr (some 8) (.t 7) (.c (.int .i64 0))⟩,⟨some 9,none,.load (some 8) (.t 8)⟩,⟨some 10,none,.call (.c (.fn 31)) [.t 9]⟩,⟨some 11,none,.bin .add .other true (.c (.str [109,97,116,99,104,32])) (.t 10)⟩,⟨some 12,none,.bin .add .other true (.t 11) (.c (.str [32,119,105,116,104]))⟩,⟨some 3,none,.mv (.t 12)⟩]) (.seq (.seq (.reg [14,15,16] [⟨some 13,none,.faddr 5 (.t 1)⟩,⟨some 14,none,.load none (.t 13)⟩,⟨some 15,none,.len .sl (.t 14)⟩,⟨some 16,none,.mv (.c (.int .i64 0))⟩]) (.block 0 (.loop (.seq (.reg [17] [⟨some 17,none,.bin .lss .other false (.t 16) (.t 15)⟩]) (.seq (.cond (.t 17) .skip (.exit 0)) (.seq (.block 1 (.seq (.reg [4,5] [⟨some 18,none,.mv (.t 16)⟩,⟨some 19,none,.iaddr none (.t 14) (.t 16)⟩,⟨some 20,none,.load none (.t 19)⟩,⟨some 4,none,.mv (.t 18)⟩,⟨some 5,none,.mv (.t 20)⟩]) (.any [3] [(⟨some 21,none,.mv (.t 3)⟩,true),(⟨some 22,none,.mv (.t 5)⟩,false),(⟨some 23,none,.bin .add .other true (.c (.str [32,124,32])) (.t 22)⟩,false),(⟨some 24,none,.bin .add .other true (.t 23) (.c (.str [32]))⟩,false),(⟨some 25,none,.faddr 6 (.t 1)⟩,false),(⟨some 26,none,.load none (.t 25)⟩,false),(⟨some 27,none,.mv (.t 4)⟩,false),(⟨some 28,none,.iaddr none (.t 26) (.t 27)⟩,false),(⟨some 29,none,.load none (.t 28)⟩,false),(⟨some 30,none,.bin .add .other false (.t 24) (.t 29)⟩,false),(⟨some 31,none,.bin .add .other true (.t 30) (.c (.str [32,45,62,32]))⟩,false),(⟨some 32,none,.faddr 7 (.t 1)⟩,false),(⟨some 33,none,.load none (.t 32)⟩,false),(⟨some 34,none,.mv (.t 4)⟩,false),(⟨some 35,none,.bin .add .other true (.t 34) (.c (.int .i64 1))⟩,false),(⟨some 36,none,.iaddr (some 8) (.t 33) (.t 35)⟩,false),(⟨some 37,none,.load (some 8) (.t 36)⟩,false),(⟨some 38,none,.call (.c (.fn 31)) [.t 37]⟩,false),(⟨some 39,none,.bin .add .other false (.t 31) (.t 38)⟩,false),(⟨some 40,none,.bin .add .other false (.t 21) (.t 39)⟩,true),(⟨some 3,none,.mv (.t 40)⟩,true)]))) (.reg [16] [⟨some 41,none,.bin .add .other true (.t 16) (.c (.int .i64 1))⟩,⟨some 16,none,.mv (.t 41)⟩]))))))) (.seq (.seq (.reg [44] [⟨some 42,none,.faddr 4 (.t 1)⟩,⟨some 43,none,.load none (.t 42)⟩,⟨some 44,none,.bin .neq .other true (.t 43) (.c (.str []))⟩]) (.cond (.t 44) (.any [3] [(⟨some 45,none,.mv (.t 3)⟩,true),(⟨some 46,none,.faddr 4 (.t 1)⟩,false),(⟨some 47,none,.load none (.t 46)⟩,false),(⟨some 48,none,.bin .add .other true (.c (.str [32,124,32])) (.t 47)⟩,false),(⟨some 49,none,.bin .add .other true (.t 48) (.c (.str [32,45,62,32]))⟩,false),(⟨some 50,none,.faddr 7 (.t 1)⟩,false),(⟨some 51,none,.load none (.t 50)⟩,false),(⟨some 52,none,.faddr 7 (.t 1)⟩,false),(⟨some 53,none,.load none (.t 52)⟩,false),(⟨some 54,none,.len .sl (.t 53)⟩,false),(⟨some 55,none,.bin .sub .other true (.t 54) (.c (.int .i64 1))⟩,false),(⟨some 56,none,.iaddr (some 8) (.t 51) (.t 55)⟩,false),(⟨some 57,none,.load (some 8) (.t 56)⟩,false),(⟨some 58,none,.call (.c (.fn 31)) [.t 57]⟩,false),(⟨some 59,none,.bin .add .other false (.t 49) (.t 58)⟩,false),(⟨some 60,none,.bin .add .other false (.t 45) (.t 59)⟩,true),(⟨some 3,none,.mv (.t 60)⟩,true)]) .skip)) (.seq (.reg [2] [⟨some 61,none,.mv (.t 3)⟩,⟨some 62,none,.bin .add .other true (.t 61) (.c (.str [32,101,110,100]))⟩,⟨some 2,none,.mv (.t 62)⟩]) .ret)))))⟩
theorem c58 : compF Tryz.prog [0, 1, 2, 3, 4, 5, 14, 15, 16, 17, 44] Tryz.f58 = some a58 := by kernel_rfl
def a59 : AFun := ⟨16,[.tmp 2],(.seq (.reg [1,2] [⟨some 1,none,.box (.t 0)⟩,⟨some 2,none,.mv (.c (.str []))⟩]) (.seq (.seq (.reg [4] [⟨some 3,none,.faddr 0 (.t 1)⟩,⟨some 4,none,.load none (.t 3)⟩]) (.block 0 (.seq (.reg [5] [⟨some 6,none,.bin .eql .other true (.t 4) (.c (.int .i64 17))⟩,⟨some 5,none,.mv (.t 6)⟩]) (.cond (.t 5) (.seq (.reg [2] [⟨some 2,none,.mv (.c (.str [114,101,102,32]))⟩]) .ret) (.seq (.reg [7] [⟨some 8,none,.bin .eql .other true (.t 4) (.c (.int .i64 20))⟩,⟨some 7,none,.mv (.t 8)⟩]) (.cond (.t 7) (.seq (.reg [2] [⟨some 2,none,.mv (.c (.str [112,114,105,110,116,32]))⟩]) .ret) (.seq (.reg [9] [⟨some 10,none,.bin .eql .other true (.t 4) (.c (.int .i64 21))⟩,⟨some 9,none,.mv (.t 10)⟩]) (.cond (.t 9) (.seq (.reg [2] [⟨some 2,none,.mv (.c (.str [115,104,111,119,32]))⟩]) .ret) (.seq (.reg [11] [⟨some 12,none,.bin .eql .other true (.t 4) (.c (.int .i64 18))⟩,⟨some 11,none,.mv (.t 12)⟩]) (.cond (.t 11) (.seq (.reg [2] [⟨some 2,none,.mv (.c (.str [33]))⟩]) .ret) .skip)))))))))) (.seq (.reg [2] [⟨some 13,none,.faddr 3 (.t 1)⟩,⟨some 14,none,.load none (.t 13)⟩,⟨some 15,none,.bin .add .other true (.t 14) (.c (.str [32]))⟩,⟨some 2,none,.mv (.t 15)⟩]) .ret)))⟩
theorem c59 : compF Tryz.prog [0, 1, 2, 4, 5, 7, 9, 11] Tryz.f59 = some a59 := by kernel_rfl
set_option linter.unusedVariables false
set_option linter.unusedSimpArgs false
theorem k_Small {e : Ex} {T : Str} {σ : Sg} (hT : T.length ≤ 100000000) (h : ∀ σ, ACalls Tryz.prog 31 [.v (encE e)] σ fun r σ' => r = .v (.str T) ∧ σ' = σ) : ACalls Tryz.prog 56 [.v (encE e)] σ fun r σ' => r = .v (.str (smallT (kdE e, T))) ∧ σ' = σ := by
 cases e with
 | mk k p n s t ls ns l =>
 rw [encE_mk] at h ⊢
 have hE : kdE (.mk k p n s t ls ns l) = k := rfl
 rw [hE]
 refine acalls_fit Tryz.func56 (by kernel_rfl) c56 rfl (by simp [a56]) fun hf => ?_
 clear hf
 unfold smallT soleK
 by_cases h1 : k = 1 ∨ k = 2 ∨ k = 3 ∨ k = 8 ∨ k = 10 ∨ k = 12 ∨ k = 22
 ·rcases h1 with rfl | rfl | rfl | rfl | rfl | rfl | rfl
  all_goals
   simp -implicitDefEqProofs (disch := omega) [-getElem?_pos, a56]
   refine (h _).then fun r hr => ?_
   subst hr
   simp -implicitDefEqProofs (disch := omega) [-getElem?_pos]
   exact .fin _ ⟨rfl, rfl⟩ (by simp)
 ·simp only [not_or] at h1
  obtain ⟨h1, h2, h3, h4, h5, h6, h7⟩ := h1
  simp -implicitDefEqProofs (disch := omega) [-getElem?_pos, a56, h1, h2, h3, h4, h5, h6, h7]
  refine (h _).then fun r hr => ?_
  subst hr
  simp -implicitDefEqProofs (disch := omega) [-getElem?_pos]
  refine ⟨by omega, by omega, ?_⟩
  exact .fin (.v (.str ([40] ++ T ++ [41]))) ⟨by simp [h1, h2, h3, h4, h5, h6, h7], rfl⟩ (.refl _)
theorem k_Head {k p n : Int} {s t : Str} {ls ns : List Str} {l : List Ex} {σ : Sg} (hs : s.length ≤ 1048576) : ACalls Tryz.prog 59 [.v (encE (.mk k p n s t ls ns l))] σ fun r σ' => r = .v (.str (headK k s)) ∧ σ' = σ := by
 rw [encE_mk]
 refine acalls_fit Tryz.func59 (by kernel_rfl) c59 rfl (by simp [a59]) fun hf => ?_
 clear hf
 by_cases h1 : k = 17 ∨ k = 20 ∨ k = 21 ∨ k = 18
 ·rcases h1 with rfl | rfl | rfl | rfl
  all_goals
   simp -implicitDefEqProofs (disch := omega) [-getElem?_pos, a59]
   exact .fin _ ⟨rfl, rfl⟩ (.refl _)
 ·simp only [not_or] at h1
  obtain ⟨h1, h2, h3, h4⟩ := h1
  simp -implicitDefEqProofs (disch := omega) [-getElem?_pos, a59, h1, h2, h3, h4]
  refine ⟨by omega, ?_⟩
  exact .fin (.v (.str (s ++ [32]))) ⟨by simp [headK, h1, h2, h3, h4], rfl⟩ (.refl _)
theorem armL_len : ∀ (ls ns ys : List Str), ns.length = ls.length → ls.length ≤ ys.length → (armL ls ns ys).length = ls.length
 | [], ns, ys, _, _ => rfl
 | a :: ls, [], ys, h, _ => by simp at h
 | a :: ls, n :: ns, [], _, h => by simp at h
 | a :: ls, n :: ns, x :: xs, h1, h2 => by simp [armL, armL_len ls ns xs (by simpa using h1) (by simpa using h2)]
theorem armL_get : ∀ (ls ns ys : List Str) (i : Nat) (a n x : Str), ls[i]? = some a → ns[i]? = some n → ys[i]? = some x → (armL ls ns ys)[i]? = some ([32, 124, 32] ++ a ++ [32] ++ n ++ [32, 45, 62, 32] ++ x)
 | [], _, _, i, a, n, x, h, _, _ => by simp at h
 | _ :: _, [], _, i, a, n, x, _, h, _ => by simp at h
 | _ :: _, _ :: _, [], i, a, n, x, _, _, h => by simp at h
 | a :: ls, b :: ns, c :: xs, 0, s, n, x, h1, h2, h3 => by simp at h1 h2 h3; subst h1 h2 h3; simp [armL]
 | a :: ls, b :: ns, c :: xs, i + 1, s, n, x, h1, h2, h3 => by
  have := armL_get ls ns xs i s n x (by simpa using h1) (by simpa using h2) (by simpa using h3)
  simpa [armL] using this
def armTo (ls ns ys : List Str) (i : Nat) : Str := ((armL ls ns ys).take i).flatten
theorem armTo_zero (ls ns ys : List Str) : armTo ls ns ys 0 = [] := rfl
theorem armTo_step {ls ns ys : List Str} {i : Nat} {a n x : Str} (h1 : ls[i]? = some a) (h2 : ns[i]? = some n) (h3 : ys[i]? = some x) : armTo ls ns ys (i + 1) = armTo ls ns ys i ++ ([32, 124, 32] ++ a ++ [32] ++ n ++ [32, 45, 62, 32] ++ x) := by
 unfold armTo
 rw [List.take_add_one, armL_get ls ns ys i a n x h1 h2 h3]
 simp
theorem flat_take : ∀ (L : List Str) (i : Nat), (L.take i).flatten.length ≤ L.flatten.length
 | [], i => by simp
 | x :: L, 0 => by simp
 | x :: L, i + 1 => by
  have := flat_take L i
  simp only [List.take_succ_cons, List.flatten_cons, List.length_append]
  omega
theorem armTo_all {ls ns ys : List Str} {i : Nat} (h : (armL ls ns ys).length ≤ i) : armTo ls ns ys i = (armL ls ns ys).flatten := by
 unfold armTo
 rw [List.take_of_length_le h]
theorem lenL_show {l : List Ex} (h : ∀ x ∈ l, (showL x).length ≤ 8 * csz x) : lenL ((showQ l).map (·.2)) ≤ 8 * cszL l := by
 induction l with
 | nil => simp [lenL, showQ]
 | cons x l ih =>
  have h1 := h x (by simp)
  have h2 := ih fun y hy => h y (by simp [hy])
  simp only [showQ, List.map_cons, lenL, cszL]
  omega
theorem k_Match {k p n : Int} {s t : Str} {ls ns : List Str} {l : List Ex} {σ : Sg} (he : csz (.mk k p n s t ls ns l) ≤ 1048576) (hns : ns.length = ls.length) (hl : l.length = ls.length + 1 + (if t = [] then 0 else 1))
  (hsh : ∀ x ∈ l, (showL x).length ≤ 8 * csz x)
  (ih : ∀ x ∈ l, ∀ σ, ACalls Tryz.prog 31 [.v (encE x)] σ fun r σ' => r = .v (.str (showL x)) ∧ σ' = σ) :
  ACalls Tryz.prog 58 [.v (encE (.mk k p n s t ls ns l))] σ fun r σ' => r = .v (.str (showK 14 n s t ls ns (showQ l))) ∧ σ' = σ := by
 simp only [csz] at he
 have hl1 := cszL_len l
 have hn1 := nsz_len ls
 have hLL := lenL_show hsh
 rw [encE_mk]
 obtain ⟨x0, hx0⟩ : ∃ x, l[0]? = some x := ⟨_, List.getElem?_eq_getElem (by omega)⟩
 have hb0 := hsh x0 (List.mem_of_getElem? hx0)
 have hc0 := cszL_mem (List.mem_of_getElem? hx0)
 have ht0 := txQ_get hx0
 have hab := arm_len ls ns (((showQ l).map (·.2)).drop 1)
 have hdr : lenL (((showQ l).map (·.2)).drop 1) ≤ lenL ((showQ l).map (·.2)) := by
  cases (showQ l).map (·.2) with
  | nil => simp
  | cons x q => simp [lenL]
 have hyl : (((showQ l).map (·.2)).drop 1).length = l.length - 1 := by rw [List.length_drop, List.length_map, showQ_eq, List.length_map]
 have hget : ∀ i x, l[i + 1]? = some x → (((showQ l).map (·.2)).drop 1)[i]? = some (showL x) := fun i x hx => by
  rw [List.getElem?_drop, List.getElem?_map, Nat.add_comm 1 i, showQ_get hx]; rfl
 obtain ⟨ys, hys⟩ : ∃ ys, ys = ((showQ l).map (·.2)).drop 1 := ⟨_, rfl⟩
 have hK : showK 14 n s t ls ns (showQ l) = [109, 97, 116, 99, 104, 32] ++ showL x0 ++ [32, 119, 105, 116, 104] ++ (armL ls ns ys).flatten ++ elseT t (txQ (showQ l) (ls.length + 1)) ++ [32, 101, 110, 100] := by rw [hys, ← ht0]; rfl
 rw [hK]
 rw [← hys] at hab hdr hyl hget
 clear hK hys ht0
 refine acalls_fit Tryz.func58 (by kernel_rfl) c58 rfl (by simp [a58]) fun hf => ?_
 clear hf
 simp -implicitDefEqProofs (disch := omega) [-getElem?_pos, a58]
 refine ⟨by omega, fun x hx => ?_⟩
 obtain rfl : x0 = x := Option.some.inj (hx0.symm.trans hx)
 refine (ih x0 (List.mem_of_getElem? hx0) _).then fun r hr => ?_
 subst hr
 obtain ⟨T0, hT0⟩ : ∃ T0, T0 = showL x0 := ⟨_, rfl⟩
 rw [← hT0] at hb0 ⊢
 simp -implicitDefEqProofs (disch := omega) [-getElem?_pos]
 refine ⟨by omega, by omega, ?_⟩
 refine W_loop (α := Nat) 0 (fun i => ls.length - i) (fun i => ⟨[(1, .ptr σ.objs.length 0), (2, .v (.str [])), (3, .v (.str ([109, 97, 116, 99, 104, 32] ++ T0 ++ [32, 119, 105, 116, 104] ++ armTo ls ns ys i))), (14, .v (.sl none false (ls.map .str))), (15, .v (.int .i64 ls.length)), (16, .v (.int .i64 i))], ⟨σ.objs ++ [.cells [.v (.int .i64 k), .v (.int .i64 p), .v (.int .i64 n), .v (.str s), .v (.str t), .v (.sl none false (ls.map .str)), .v (.sl none false (ns.map .str)), .v (.sl (some 8) false (l.map encE))]], σ.toks⟩⟩)
  (fun i => i ≤ ls.length) (.eq (by simp [armTo_zero])) (by omega) fun i hi => ?_
 have hft := flat_take (armL ls ns ys) i
 simp -implicitDefEqProofs (disch := omega) [-getElem?_pos]
 refine .mk (fun h => ?_) fun h => ?_
 ·simp -implicitDefEqProofs (disch := omega) [-getElem?_pos]
  refine ⟨by omega, fun a ha => ?_⟩
  have ha1 := nsz_mem (List.mem_of_getElem? ha)
  refine ⟨by omega, by omega, by omega, fun b hb => ?_⟩
  have hb1 := nsz_mem (List.mem_of_getElem? hb)
  refine ⟨by omega, by omega, by omega, by omega, fun x hx1 => ?_⟩
  have hx2 := hsh x (List.mem_of_getElem? hx1)
  have hx3 := cszL_mem (List.mem_of_getElem? hx1)
  have hst := armTo_step ha hb (hget i x hx1)
  refine (ih x (List.mem_of_getElem? hx1) _).then fun r hr => ?_
  subst hr
  generalize showL x = X at *
  simp only [List.append_assoc, List.cons_append, List.nil_append] at hst
  have hft' : (armTo ls ns ys i).length ≤ (armL ls ns ys).flatten.length := hft
  simp -implicitDefEqProofs (disch := omega) [-getElem?_pos]
  exact ⟨by omega, by omega, i + 1, by omega, by dsimp only; omega, .eq (by simp [hst])⟩
 ·obtain rfl : i = ls.length := by omega
  rw [armTo_all (by rw [armL_len ls ns ys hns (by split at hl <;> omega)]; omega)]
  clear hft
  generalize (armL ls ns ys).flatten = A at *
  by_cases ht : t = []
  ·subst ht
   simp -implicitDefEqProofs (disch := omega) [-getElem?_pos]
   exact ⟨by omega, .fin _ ⟨by simp [elseT], rfl⟩ (.refl _)⟩
  ·have hl2 : l.length = ls.length + 1 + 1 := by simpa [ht] using hl
   have hlc : l.length - 1 = ls.length + 1 := by omega
   simp -implicitDefEqProofs (disch := omega) [-getElem?_pos, ht]
   refine ⟨by omega, by omega, by omega, by omega, fun x hx1 => ?_⟩
   rw [hlc] at hx1
   have hx2 := hsh x (List.mem_of_getElem? hx1)
   have hx3 := cszL_mem (List.mem_of_getElem? hx1)
   have htx := txQ_get hx1
   refine (ih x (List.mem_of_getElem? hx1) _).then fun r hr => ?_
   subst hr
   rw [htx]
   generalize showL x = X at *
   simp -implicitDefEqProofs (disch := omega) [-getElem?_pos]
   refine ⟨by omega, by omega, by omega, ?_⟩
   exact .fin _ ⟨by simp [elseT, ht], rfl⟩ (.refl _)
theorem len1 {α : Type} {l : List α} (h : l.length = 1) : ∃ x, l = [x] := by
 match l, h with
 | [x], _ => exact ⟨x, rfl⟩
theorem len2 {α : Type} {l : List α} (h : l.length = 2) : ∃ x y, l = [x, y] := by
 match l, h with
 | [x, y], _ => exact ⟨x, y, rfl⟩
theorem len3 {α : Type} {l : List α} (h : l.length = 3) : ∃ x y z, l = [x, y, z] := by
 match l, h with
 | [x, y, z], _ => exact ⟨x, y, z, rfl⟩
theorem tx_4 {p n : Int} {s t : Str} {ls ns : List Str} {l : List Ex} {σ : Sg} (he : csz (.mk 4 p n s t ls ns l) ≤ 1048576) (hl : l.length = 1)
  (hsh : ∀ x ∈ l, (showL x).length ≤ 8 * csz x)
  (ih : ∀ x ∈ l, ∀ σ, ACalls Tryz.prog 31 [.v (encE x)] σ fun r σ' => r = .v (.str (showL x)) ∧ σ' = σ)
  (ihs : ∀ x ∈ l, ∀ σ, ACalls Tryz.prog 56 [.v (encE x)] σ fun r σ' => r = .v (.str (smallT (kdE x, showL x))) ∧ σ' = σ) :
  ACalls Tryz.prog 31 [.v (encE (.mk 4 p n s t ls ns l))] σ fun r σ' => r = .v (.str (showK 4 n s t ls ns (showQ l))) ∧ σ' = σ := by
 obtain ⟨x0, rfl⟩ := len1 hl
 have h0 := ih x0 (by simp)
 have b0 := hsh x0 (by simp)
 have s0 : (smallT (kdE x0, showL x0)).length ≤ (showL x0).length + 2 := small_len _
 simp only [csz, cszL] at he
 rw [encE_mk]
 obtain ⟨Z, hZ⟩ : ∃ Z, Z = showK 4 n s t ls ns (showQ [x0]) := ⟨_, rfl⟩
 rw [← hZ]
 simp [showK, showQ, txQ, smQ, headK] at hZ
 clear ih ihs hsh
 generalize showL x0 = X0 at *
 refine acalls_fit Tryz.func31 (by kernel_rfl) c31 rfl (by simp [a31]) fun hf => ?_
 clear hf
 simp -implicitDefEqProofs (disch := omega) [-getElem?_pos, a31]
 repeat refine ⟨by omega, ?_⟩
 refine (h0 _).then fun r hr => ?_
 subst hr
 simp -implicitDefEqProofs (disch := omega) [-getElem?_pos]
 repeat refine ⟨by omega, ?_⟩
 exact .fin _ ⟨by rw [hZ] <;> simp, rfl⟩ (.refl _)
theorem tx_5 {p n : Int} {s t : Str} {ls ns : List Str} {l : List Ex} {σ : Sg} (he : csz (.mk 5 p n s t ls ns l) ≤ 1048576) (hl : l.length = 2)
  (hsh : ∀ x ∈ l, (showL x).length ≤ 8 * csz x)
  (ih : ∀ x ∈ l, ∀ σ, ACalls Tryz.prog 31 [.v (encE x)] σ fun r σ' => r = .v (.str (showL x)) ∧ σ' = σ)
  (ihs : ∀ x ∈ l, ∀ σ, ACalls Tryz.prog 56 [.v (encE x)] σ fun r σ' => r = .v (.str (smallT (kdE x, showL x))) ∧ σ' = σ) :
  ACalls Tryz.prog 31 [.v (encE (.mk 5 p n s t ls ns l))] σ fun r σ' => r = .v (.str (showK 5 n s t ls ns (showQ l))) ∧ σ' = σ := by
 obtain ⟨x0, x1, rfl⟩ := len2 hl
 have h0 := ihs x0 (by simp)
 have b0 := hsh x0 (by simp)
 have s0 : (smallT (kdE x0, showL x0)).length ≤ (showL x0).length + 2 := small_len _
 have h1 := ihs x1 (by simp)
 have b1 := hsh x1 (by simp)
 have s1 : (smallT (kdE x1, showL x1)).length ≤ (showL x1).length + 2 := small_len _
 simp only [csz, cszL] at he
 rw [encE_mk]
 obtain ⟨Z, hZ⟩ : ∃ Z, Z = showK 5 n s t ls ns (showQ [x0, x1]) := ⟨_, rfl⟩
 rw [← hZ]
 simp [showK, showQ, txQ, smQ, headK] at hZ
 clear ih ihs hsh
 generalize smallT (kdE x0, showL x0) = X0 at *
 generalize smallT (kdE x1, showL x1) = X1 at *
 refine acalls_fit Tryz.func31 (by kernel_rfl) c31 rfl (by simp [a31]) fun hf => ?_
 clear hf
 simp -implicitDefEqProofs (disch := omega) [-getElem?_pos, a31]
 repeat refine ⟨by omega, ?_⟩
 refine (h0 _).then fun r hr => ?_
 subst hr
 simp -implicitDefEqProofs (disch := omega) [-getElem?_pos]
 repeat refine ⟨by omega, ?_⟩
 refine (h1 _).then fun r hr => ?_
 subst hr
 simp -implicitDefEqProofs (disch := omega) [-getElem?_pos]
 repeat refine ⟨by omega, ?_⟩
 exact .fin _ ⟨by rw [hZ] <;> simp, rfl⟩ (.refl _)
theorem tx_6 {p n : Int} {s t : Str} {ls ns : List Str} {l : List Ex} {σ : Sg} (he : csz (.mk 6 p n s t ls ns l) ≤ 1048576) (hl : l.length = 2)
  (hsh : ∀ x ∈ l, (showL x).length ≤ 8 * csz x)
  (ih : ∀ x ∈ l, ∀ σ, ACalls Tryz.prog 31 [.v (encE x)] σ fun r σ' => r = .v (.str (showL x)) ∧ σ' = σ)
  (ihs : ∀ x ∈ l, ∀ σ, ACalls Tryz.prog 56 [.v (encE x)] σ fun r σ' => r = .v (.str (smallT (kdE x, showL x))) ∧ σ' = σ) :
  ACalls Tryz.prog 31 [.v (encE (.mk 6 p n s t ls ns l))] σ fun r σ' => r = .v (.str (showK 6 n s t ls ns (showQ l))) ∧ σ' = σ := by
 obtain ⟨x0, x1, rfl⟩ := len2 hl
 have h0 := ih x0 (by simp)
 have b0 := hsh x0 (by simp)
 have s0 : (smallT (kdE x0, showL x0)).length ≤ (showL x0).length + 2 := small_len _
 have h1 := ih x1 (by simp)
 have b1 := hsh x1 (by simp)
 have s1 : (smallT (kdE x1, showL x1)).length ≤ (showL x1).length + 2 := small_len _
 simp only [csz, cszL] at he
 rw [encE_mk]
 obtain ⟨Z, hZ⟩ : ∃ Z, Z = showK 6 n s t ls ns (showQ [x0, x1]) := ⟨_, rfl⟩
 rw [← hZ]
 simp [showK, showQ, txQ, smQ, headK] at hZ
 clear ih ihs hsh
 generalize showL x0 = X0 at *
 generalize showL x1 = X1 at *
 refine acalls_fit Tryz.func31 (by kernel_rfl) c31 rfl (by simp [a31]) fun hf => ?_
 clear hf
 simp -implicitDefEqProofs (disch := omega) [-getElem?_pos, a31]
 repeat refine ⟨by omega, ?_⟩
 refine (h0 _).then fun r hr => ?_
 subst hr
 simp -implicitDefEqProofs (disch := omega) [-getElem?_pos]
 repeat refine ⟨by omega, ?_⟩
 refine (h1 _).then fun r hr => ?_
 subst hr
 simp -implicitDefEqProofs (disch := omega) [-getElem?_pos]
 repeat refine ⟨by omega, ?_⟩
 exact .fin _ ⟨by rw [hZ] <;> simp, rfl⟩ (.refl _)
theorem tx_7 {p n : Int} {s t : Str} {ls ns : List Str} {l : List Ex} {σ : Sg} (he : csz (.mk 7 p n s t ls ns l) ≤ 1048576) (hl : l.length = 2)
  (hsh : ∀ x ∈ l, (showL x).length ≤ 8 * csz x)
  (ih : ∀ x ∈ l, ∀ σ, ACalls Tryz.prog 31 [.v (encE x)] σ fun r σ' => r = .v (.str (showL x)) ∧ σ' = σ)
  (ihs : ∀ x ∈ l, ∀ σ, ACalls Tryz.prog 56 [.v (encE x)] σ fun r σ' => r = .v (.str (smallT (kdE x, showL x))) ∧ σ' = σ) :
  ACalls Tryz.prog 31 [.v (encE (.mk 7 p n s t ls ns l))] σ fun r σ' => r = .v (.str (showK 7 n s t ls ns (showQ l))) ∧ σ' = σ := by
 obtain ⟨x0, x1, rfl⟩ := len2 hl
 have h0 := ih x0 (by simp)
 have b0 := hsh x0 (by simp)
 have s0 : (smallT (kdE x0, showL x0)).length ≤ (showL x0).length + 2 := small_len _
 have h1 := ih x1 (by simp)
 have b1 := hsh x1 (by simp)
 have s1 : (smallT (kdE x1, showL x1)).length ≤ (showL x1).length + 2 := small_len _
 simp only [csz, cszL] at he
 rw [encE_mk]
 obtain ⟨Z, hZ⟩ : ∃ Z, Z = showK 7 n s t ls ns (showQ [x0, x1]) := ⟨_, rfl⟩
 rw [← hZ]
 simp [showK, showQ, txQ, smQ, headK] at hZ
 clear ih ihs hsh
 generalize showL x0 = X0 at *
 generalize showL x1 = X1 at *
 refine acalls_fit Tryz.func31 (by kernel_rfl) c31 rfl (by simp [a31]) fun hf => ?_
 clear hf
 simp -implicitDefEqProofs (disch := omega) [-getElem?_pos, a31]
 repeat refine ⟨by omega, ?_⟩
 refine (h0 _).then fun r hr => ?_
 subst hr
 simp -implicitDefEqProofs (disch := omega) [-getElem?_pos]
 repeat refine ⟨by omega, ?_⟩
 refine (h1 _).then fun r hr => ?_
 subst hr
 simp -implicitDefEqProofs (disch := omega) [-getElem?_pos]
 repeat refine ⟨by omega, ?_⟩
 exact .fin _ ⟨by rw [hZ] <;> simp, rfl⟩ (.refl _)
theorem tx_9 {p n : Int} {s t : Str} {ls ns : List Str} {l : List Ex} {σ : Sg} (he : csz (.mk 9 p n s t ls ns l) ≤ 1048576) (hl : l.length = 1)
  (hsh : ∀ x ∈ l, (showL x).length ≤ 8 * csz x)
  (ih : ∀ x ∈ l, ∀ σ, ACalls Tryz.prog 31 [.v (encE x)] σ fun r σ' => r = .v (.str (showL x)) ∧ σ' = σ)
  (ihs : ∀ x ∈ l, ∀ σ, ACalls Tryz.prog 56 [.v (encE x)] σ fun r σ' => r = .v (.str (smallT (kdE x, showL x))) ∧ σ' = σ) :
  ACalls Tryz.prog 31 [.v (encE (.mk 9 p n s t ls ns l))] σ fun r σ' => r = .v (.str (showK 9 n s t ls ns (showQ l))) ∧ σ' = σ := by
 obtain ⟨x0, rfl⟩ := len1 hl
 have h0 := ihs x0 (by simp)
 have b0 := hsh x0 (by simp)
 have s0 : (smallT (kdE x0, showL x0)).length ≤ (showL x0).length + 2 := small_len _
 simp only [csz, cszL] at he
 rw [encE_mk]
 obtain ⟨Z, hZ⟩ : ∃ Z, Z = showK 9 n s t ls ns (showQ [x0]) := ⟨_, rfl⟩
 rw [← hZ]
 simp [showK, showQ, txQ, smQ, headK] at hZ
 clear ih ihs hsh
 generalize smallT (kdE x0, showL x0) = X0 at *
 refine acalls_fit Tryz.func31 (by kernel_rfl) c31 rfl (by simp [a31]) fun hf => ?_
 clear hf
 simp -implicitDefEqProofs (disch := omega) [-getElem?_pos, a31]
 repeat refine ⟨by omega, ?_⟩
 refine (h0 _).then fun r hr => ?_
 subst hr
 simp -implicitDefEqProofs (disch := omega) [-getElem?_pos]
 repeat refine ⟨by omega, ?_⟩
 exact .fin _ ⟨by rw [hZ] <;> simp, rfl⟩ (.refl _)
theorem tx_10 {p n : Int} {s t : Str} {ls ns : List Str} {l : List Ex} {σ : Sg} (he : csz (.mk 10 p n s t ls ns l) ≤ 1048576) (hl : l.length = 2)
  (hsh : ∀ x ∈ l, (showL x).length ≤ 8 * csz x)
  (ih : ∀ x ∈ l, ∀ σ, ACalls Tryz.prog 31 [.v (encE x)] σ fun r σ' => r = .v (.str (showL x)) ∧ σ' = σ)
  (ihs : ∀ x ∈ l, ∀ σ, ACalls Tryz.prog 56 [.v (encE x)] σ fun r σ' => r = .v (.str (smallT (kdE x, showL x))) ∧ σ' = σ) :
  ACalls Tryz.prog 31 [.v (encE (.mk 10 p n s t ls ns l))] σ fun r σ' => r = .v (.str (showK 10 n s t ls ns (showQ l))) ∧ σ' = σ := by
 obtain ⟨x0, x1, rfl⟩ := len2 hl
 have h0 := ih x0 (by simp)
 have b0 := hsh x0 (by simp)
 have s0 : (smallT (kdE x0, showL x0)).length ≤ (showL x0).length + 2 := small_len _
 have h1 := ih x1 (by simp)
 have b1 := hsh x1 (by simp)
 have s1 : (smallT (kdE x1, showL x1)).length ≤ (showL x1).length + 2 := small_len _
 simp only [csz, cszL] at he
 rw [encE_mk]
 obtain ⟨Z, hZ⟩ : ∃ Z, Z = showK 10 n s t ls ns (showQ [x0, x1]) := ⟨_, rfl⟩
 rw [← hZ]
 simp [showK, showQ, txQ, smQ, headK] at hZ
 clear ih ihs hsh
 generalize showL x0 = X0 at *
 generalize showL x1 = X1 at *
 refine acalls_fit Tryz.func31 (by kernel_rfl) c31 rfl (by simp [a31]) fun hf => ?_
 clear hf
 simp -implicitDefEqProofs (disch := omega) [-getElem?_pos, a31]
 repeat refine ⟨by omega, ?_⟩
 refine (h0 _).then fun r hr => ?_
 subst hr
 simp -implicitDefEqProofs (disch := omega) [-getElem?_pos]
 repeat refine ⟨by omega, ?_⟩
 refine (h1 _).then fun r hr => ?_
 subst hr
 simp -implicitDefEqProofs (disch := omega) [-getElem?_pos]
 repeat refine ⟨by omega, ?_⟩
 exact .fin _ ⟨by rw [hZ] <;> simp, rfl⟩ (.refl _)
theorem tx_11 {p n : Int} {s t : Str} {ls ns : List Str} {l : List Ex} {σ : Sg} (he : csz (.mk 11 p n s t ls ns l) ≤ 1048576) (hl : l.length = 1)
  (hsh : ∀ x ∈ l, (showL x).length ≤ 8 * csz x)
  (ih : ∀ x ∈ l, ∀ σ, ACalls Tryz.prog 31 [.v (encE x)] σ fun r σ' => r = .v (.str (showL x)) ∧ σ' = σ)
  (ihs : ∀ x ∈ l, ∀ σ, ACalls Tryz.prog 56 [.v (encE x)] σ fun r σ' => r = .v (.str (smallT (kdE x, showL x))) ∧ σ' = σ) :
  ACalls Tryz.prog 31 [.v (encE (.mk 11 p n s t ls ns l))] σ fun r σ' => r = .v (.str (showK 11 n s t ls ns (showQ l))) ∧ σ' = σ := by
 obtain ⟨x0, rfl⟩ := len1 hl
 have h0 := ihs x0 (by simp)
 have b0 := hsh x0 (by simp)
 have s0 : (smallT (kdE x0, showL x0)).length ≤ (showL x0).length + 2 := small_len _
 simp only [csz, cszL] at he
 rw [encE_mk]
 obtain ⟨Z, hZ⟩ : ∃ Z, Z = showK 11 n s t ls ns (showQ [x0]) := ⟨_, rfl⟩
 rw [← hZ]
 simp [showK, showQ, txQ, smQ, headK] at hZ
 clear ih ihs hsh
 generalize smallT (kdE x0, showL x0) = X0 at *
 refine acalls_fit Tryz.func31 (by kernel_rfl) c31 rfl (by simp [a31]) fun hf => ?_
 clear hf
 simp -implicitDefEqProofs (disch := omega) [-getElem?_pos, a31]
 repeat refine ⟨by omega, ?_⟩
 refine (h0 _).then fun r hr => ?_
 subst hr
 simp -implicitDefEqProofs (disch := omega) [-getElem?_pos]
 repeat refine ⟨by omega, ?_⟩
 exact .fin _ ⟨by rw [hZ] <;> simp, rfl⟩ (.refl _)
theorem tx_12 {p n : Int} {s t : Str} {ls ns : List Str} {l : List Ex} {σ : Sg} (he : csz (.mk 12 p n s t ls ns l) ≤ 1048576) (hl : l.length = 2)
  (hsh : ∀ x ∈ l, (showL x).length ≤ 8 * csz x)
  (ih : ∀ x ∈ l, ∀ σ, ACalls Tryz.prog 31 [.v (encE x)] σ fun r σ' => r = .v (.str (showL x)) ∧ σ' = σ)
  (ihs : ∀ x ∈ l, ∀ σ, ACalls Tryz.prog 56 [.v (encE x)] σ fun r σ' => r = .v (.str (smallT (kdE x, showL x))) ∧ σ' = σ) :
  ACalls Tryz.prog 31 [.v (encE (.mk 12 p n s t ls ns l))] σ fun r σ' => r = .v (.str (showK 12 n s t ls ns (showQ l))) ∧ σ' = σ := by
 obtain ⟨x0, x1, rfl⟩ := len2 hl
 have h1 := ihs x1 (by simp)
 have b1 := hsh x1 (by simp)
 have s1 : (smallT (kdE x1, showL x1)).length ≤ (showL x1).length + 2 := small_len _
 have h0 := ih x0 (by simp)
 have b0 := hsh x0 (by simp)
 have s0 : (smallT (kdE x0, showL x0)).length ≤ (showL x0).length + 2 := small_len _
 simp only [csz, cszL] at he
 rw [encE_mk]
 obtain ⟨Z, hZ⟩ : ∃ Z, Z = showK 12 n s t ls ns (showQ [x0, x1]) := ⟨_, rfl⟩
 rw [← hZ]
 simp [showK, showQ, txQ, smQ, headK] at hZ
 clear ih ihs hsh
 generalize smallT (kdE x1, showL x1) = X1 at *
 generalize showL x0 = X0 at *
 refine acalls_fit Tryz.func31 (by kernel_rfl) c31 rfl (by simp [a31]) fun hf => ?_
 clear hf
 simp -implicitDefEqProofs (disch := omega) [-getElem?_pos, a31]
 repeat refine ⟨by omega, ?_⟩
 refine (h1 _).then fun r hr => ?_
 subst hr
 simp -implicitDefEqProofs (disch := omega) [-getElem?_pos]
 repeat refine ⟨by omega, ?_⟩
 refine (h0 _).then fun r hr => ?_
 subst hr
 simp -implicitDefEqProofs (disch := omega) [-getElem?_pos]
 repeat refine ⟨by omega, ?_⟩
 exact .fin _ ⟨by rw [hZ] <;> simp, rfl⟩ (.refl _)
theorem tx_15 {p n : Int} {s t : Str} {ls ns : List Str} {l : List Ex} {σ : Sg} (he : csz (.mk 15 p n s t ls ns l) ≤ 1048576) (hl : l.length = 3)
  (hsh : ∀ x ∈ l, (showL x).length ≤ 8 * csz x)
  (ih : ∀ x ∈ l, ∀ σ, ACalls Tryz.prog 31 [.v (encE x)] σ fun r σ' => r = .v (.str (showL x)) ∧ σ' = σ)
  (ihs : ∀ x ∈ l, ∀ σ, ACalls Tryz.prog 56 [.v (encE x)] σ fun r σ' => r = .v (.str (smallT (kdE x, showL x))) ∧ σ' = σ) :
  ACalls Tryz.prog 31 [.v (encE (.mk 15 p n s t ls ns l))] σ fun r σ' => r = .v (.str (showK 15 n s t ls ns (showQ l))) ∧ σ' = σ := by
 obtain ⟨x0, x1, x2, rfl⟩ := len3 hl
 have h0 := ih x0 (by simp)
 have b0 := hsh x0 (by simp)
 have s0 : (smallT (kdE x0, showL x0)).length ≤ (showL x0).length + 2 := small_len _
 have h1 := ih x1 (by simp)
 have b1 := hsh x1 (by simp)
 have s1 : (smallT (kdE x1, showL x1)).length ≤ (showL x1).length + 2 := small_len _
 have h2 := ih x2 (by simp)
 have b2 := hsh x2 (by simp)
 have s2 : (smallT (kdE x2, showL x2)).length ≤ (showL x2).length + 2 := small_len _
 simp only [csz, cszL] at he
 rw [encE_mk]
 obtain ⟨Z, hZ⟩ : ∃ Z, Z = showK 15 n s t ls ns (showQ [x0, x1, x2]) := ⟨_, rfl⟩
 rw [← hZ]
 simp [showK, showQ, txQ, smQ, headK] at hZ
 clear ih ihs hsh
 generalize showL x0 = X0 at *
 generalize showL x1 = X1 at *
 generalize showL x2 = X2 at *
 refine acalls_fit Tryz.func31 (by kernel_rfl) c31 rfl (by simp [a31]) fun hf => ?_
 clear hf
 simp -implicitDefEqProofs (disch := omega) [-getElem?_pos, a31]
 repeat refine ⟨by omega, ?_⟩
 refine (h0 _).then fun r hr => ?_
 subst hr
 simp -implicitDefEqProofs (disch := omega) [-getElem?_pos]
 repeat refine ⟨by omega, ?_⟩
 refine (h1 _).then fun r hr => ?_
 subst hr
 simp -implicitDefEqProofs (disch := omega) [-getElem?_pos]
 repeat refine ⟨by omega, ?_⟩
 refine (h2 _).then fun r hr => ?_
 subst hr
 simp -implicitDefEqProofs (disch := omega) [-getElem?_pos]
 repeat refine ⟨by omega, ?_⟩
 exact .fin _ ⟨by rw [hZ] <;> simp, rfl⟩ (.refl _)
theorem tx_16 {p n : Int} {s t : Str} {ls ns : List Str} {l : List Ex} {σ : Sg} (he : csz (.mk 16 p n s t ls ns l) ≤ 1048576) (hl : l.length = 2)
  (hsh : ∀ x ∈ l, (showL x).length ≤ 8 * csz x)
  (ih : ∀ x ∈ l, ∀ σ, ACalls Tryz.prog 31 [.v (encE x)] σ fun r σ' => r = .v (.str (showL x)) ∧ σ' = σ)
  (ihs : ∀ x ∈ l, ∀ σ, ACalls Tryz.prog 56 [.v (encE x)] σ fun r σ' => r = .v (.str (smallT (kdE x, showL x))) ∧ σ' = σ) :
  ACalls Tryz.prog 31 [.v (encE (.mk 16 p n s t ls ns l))] σ fun r σ' => r = .v (.str (showK 16 n s t ls ns (showQ l))) ∧ σ' = σ := by
 obtain ⟨x0, x1, rfl⟩ := len2 hl
 have h0 := ihs x0 (by simp)
 have b0 := hsh x0 (by simp)
 have s0 : (smallT (kdE x0, showL x0)).length ≤ (showL x0).length + 2 := small_len _
 have h1 := ihs x1 (by simp)
 have b1 := hsh x1 (by simp)
 have s1 : (smallT (kdE x1, showL x1)).length ≤ (showL x1).length + 2 := small_len _
 simp only [csz, cszL] at he
 rw [encE_mk]
 obtain ⟨Z, hZ⟩ : ∃ Z, Z = showK 16 n s t ls ns (showQ [x0, x1]) := ⟨_, rfl⟩
 rw [← hZ]
 simp [showK, showQ, txQ, smQ, headK] at hZ
 clear ih ihs hsh
 generalize smallT (kdE x0, showL x0) = X0 at *
 generalize smallT (kdE x1, showL x1) = X1 at *
 refine acalls_fit Tryz.func31 (by kernel_rfl) c31 rfl (by simp [a31]) fun hf => ?_
 clear hf
 simp -implicitDefEqProofs (disch := omega) [-getElem?_pos, a31]
 repeat refine ⟨by omega, ?_⟩
 refine (h0 _).then fun r hr => ?_
 subst hr
 simp -implicitDefEqProofs (disch := omega) [-getElem?_pos]
 repeat refine ⟨by omega, ?_⟩
 refine (h1 _).then fun r hr => ?_
 subst hr
 simp -implicitDefEqProofs (disch := omega) [-getElem?_pos]
 repeat refine ⟨by omega, ?_⟩
 exact .fin _ ⟨by rw [hZ] <;> simp, rfl⟩ (.refl _)
theorem tx_19 {p n : Int} {s t : Str} {ls ns : List Str} {l : List Ex} {σ : Sg} (he : csz (.mk 19 p n s t ls ns l) ≤ 1048576) (hl : l.length = 2)
  (hsh : ∀ x ∈ l, (showL x).length ≤ 8 * csz x)
  (ih : ∀ x ∈ l, ∀ σ, ACalls Tryz.prog 31 [.v (encE x)] σ fun r σ' => r = .v (.str (showL x)) ∧ σ' = σ)
  (ihs : ∀ x ∈ l, ∀ σ, ACalls Tryz.prog 56 [.v (encE x)] σ fun r σ' => r = .v (.str (smallT (kdE x, showL x))) ∧ σ' = σ) :
  ACalls Tryz.prog 31 [.v (encE (.mk 19 p n s t ls ns l))] σ fun r σ' => r = .v (.str (showK 19 n s t ls ns (showQ l))) ∧ σ' = σ := by
 obtain ⟨x0, x1, rfl⟩ := len2 hl
 have h0 := ihs x0 (by simp)
 have b0 := hsh x0 (by simp)
 have s0 : (smallT (kdE x0, showL x0)).length ≤ (showL x0).length + 2 := small_len _
 have h1 := ihs x1 (by simp)
 have b1 := hsh x1 (by simp)
 have s1 : (smallT (kdE x1, showL x1)).length ≤ (showL x1).length + 2 := small_len _
 simp only [csz, cszL] at he
 rw [encE_mk]
 obtain ⟨Z, hZ⟩ : ∃ Z, Z = showK 19 n s t ls ns (showQ [x0, x1]) := ⟨_, rfl⟩
 rw [← hZ]
 simp [showK, showQ, txQ, smQ, headK] at hZ
 clear ih ihs hsh
 generalize smallT (kdE x0, showL x0) = X0 at *
 generalize smallT (kdE x1, showL x1) = X1 at *
 refine acalls_fit Tryz.func31 (by kernel_rfl) c31 rfl (by simp [a31]) fun hf => ?_
 clear hf
 simp -implicitDefEqProofs (disch := omega) [-getElem?_pos, a31]
 repeat refine ⟨by omega, ?_⟩
 refine (h0 _).then fun r hr => ?_
 subst hr
 simp -implicitDefEqProofs (disch := omega) [-getElem?_pos]
 repeat refine ⟨by omega, ?_⟩
 refine (h1 _).then fun r hr => ?_
 subst hr
 simp -implicitDefEqProofs (disch := omega) [-getElem?_pos]
 repeat refine ⟨by omega, ?_⟩
 exact .fin _ ⟨by rw [hZ] <;> simp, rfl⟩ (.refl _)
theorem tx_13 {p n : Int} {s t : Str} {ls ns : List Str} {l : List Ex} {σ : Sg} (he : csz (.mk 13 p n s t ls ns l) ≤ 1048576) (hl : l.length = 1)
  (hsh : ∀ x ∈ l, (showL x).length ≤ 8 * csz x)
  (ih : ∀ x ∈ l, ∀ σ, ACalls Tryz.prog 31 [.v (encE x)] σ fun r σ' => r = .v (.str (showL x)) ∧ σ' = σ)
  (ihs : ∀ x ∈ l, ∀ σ, ACalls Tryz.prog 56 [.v (encE x)] σ fun r σ' => r = .v (.str (smallT (kdE x, showL x))) ∧ σ' = σ) :
  ACalls Tryz.prog 31 [.v (encE (.mk 13 p n s t ls ns l))] σ fun r σ' => r = .v (.str (showK 13 n s t ls ns (showQ l))) ∧ σ' = σ := by
 obtain ⟨x0, rfl⟩ := len1 hl
 have h0 := ihs x0 (by simp)
 have b0 := hsh x0 (by simp)
 have s0 : (smallT (kdE x0, showL x0)).length ≤ (showL x0).length + 2 := small_len _
 simp only [csz, cszL] at he
 rw [encE_mk]
 obtain ⟨Z, hZ⟩ : ∃ Z, Z = showK 13 n s t ls ns (showQ [x0]) := ⟨_, rfl⟩
 rw [← hZ]
 simp [showK, showQ, txQ, smQ, headK] at hZ
 clear ih ihs hsh
 generalize smallT (kdE x0, showL x0) = X0 at *
 have kh := fun σ => k_Head (k := 13) (p := p) (n := n) (s := s) (t := t) (ls := ls) (ns := ns) (l := [x0]) (σ := σ) (by omega)
 rw [encE_mk] at kh
 simp [headK] at kh
 refine acalls_fit Tryz.func31 (by kernel_rfl) c31 rfl (by simp [a31]) fun hf => ?_
 clear hf
 simp -implicitDefEqProofs (disch := omega) [-getElem?_pos, a31]
 refine (kh _).then fun r hr => ?_
 subst hr
 simp -implicitDefEqProofs (disch := omega) [-getElem?_pos]
 repeat refine ⟨by omega, ?_⟩
 refine (h0 _).then fun r hr => ?_
 subst hr
 simp -implicitDefEqProofs (disch := omega) [-getElem?_pos]
 repeat refine ⟨by omega, ?_⟩
 exact .fin _ ⟨by rw [hZ] <;> simp, rfl⟩ (.refl _)
theorem tx_17 {p n : Int} {s t : Str} {ls ns : List Str} {l : List Ex} {σ : Sg} (he : csz (.mk 17 p n s t ls ns l) ≤ 1048576) (hl : l.length = 1)
  (hsh : ∀ x ∈ l, (showL x).length ≤ 8 * csz x)
  (ih : ∀ x ∈ l, ∀ σ, ACalls Tryz.prog 31 [.v (encE x)] σ fun r σ' => r = .v (.str (showL x)) ∧ σ' = σ)
  (ihs : ∀ x ∈ l, ∀ σ, ACalls Tryz.prog 56 [.v (encE x)] σ fun r σ' => r = .v (.str (smallT (kdE x, showL x))) ∧ σ' = σ) :
  ACalls Tryz.prog 31 [.v (encE (.mk 17 p n s t ls ns l))] σ fun r σ' => r = .v (.str (showK 17 n s t ls ns (showQ l))) ∧ σ' = σ := by
 obtain ⟨x0, rfl⟩ := len1 hl
 have h0 := ihs x0 (by simp)
 have b0 := hsh x0 (by simp)
 have s0 : (smallT (kdE x0, showL x0)).length ≤ (showL x0).length + 2 := small_len _
 simp only [csz, cszL] at he
 rw [encE_mk]
 obtain ⟨Z, hZ⟩ : ∃ Z, Z = showK 17 n s t ls ns (showQ [x0]) := ⟨_, rfl⟩
 rw [← hZ]
 simp [showK, showQ, txQ, smQ, headK] at hZ
 clear ih ihs hsh
 generalize smallT (kdE x0, showL x0) = X0 at *
 have kh := fun σ => k_Head (k := 17) (p := p) (n := n) (s := s) (t := t) (ls := ls) (ns := ns) (l := [x0]) (σ := σ) (by omega)
 rw [encE_mk] at kh
 simp [headK] at kh
 refine acalls_fit Tryz.func31 (by kernel_rfl) c31 rfl (by simp [a31]) fun hf => ?_
 clear hf
 simp -implicitDefEqProofs (disch := omega) [-getElem?_pos, a31]
 refine (kh _).then fun r hr => ?_
 subst hr
 simp -implicitDefEqProofs (disch := omega) [-getElem?_pos]
 repeat refine ⟨by omega, ?_⟩
 refine (h0 _).then fun r hr => ?_
 subst hr
 simp -implicitDefEqProofs (disch := omega) [-getElem?_pos]
 repeat refine ⟨by omega, ?_⟩
 exact .fin _ ⟨by rw [hZ] <;> simp, rfl⟩ (.refl _)
theorem tx_18 {p n : Int} {s t : Str} {ls ns : List Str} {l : List Ex} {σ : Sg} (he : csz (.mk 18 p n s t ls ns l) ≤ 1048576) (hl : l.length = 1)
  (hsh : ∀ x ∈ l, (showL x).length ≤ 8 * csz x)
  (ih : ∀ x ∈ l, ∀ σ, ACalls Tryz.prog 31 [.v (encE x)] σ fun r σ' => r = .v (.str (showL x)) ∧ σ' = σ)
  (ihs : ∀ x ∈ l, ∀ σ, ACalls Tryz.prog 56 [.v (encE x)] σ fun r σ' => r = .v (.str (smallT (kdE x, showL x))) ∧ σ' = σ) :
  ACalls Tryz.prog 31 [.v (encE (.mk 18 p n s t ls ns l))] σ fun r σ' => r = .v (.str (showK 18 n s t ls ns (showQ l))) ∧ σ' = σ := by
 obtain ⟨x0, rfl⟩ := len1 hl
 have h0 := ihs x0 (by simp)
 have b0 := hsh x0 (by simp)
 have s0 : (smallT (kdE x0, showL x0)).length ≤ (showL x0).length + 2 := small_len _
 simp only [csz, cszL] at he
 rw [encE_mk]
 obtain ⟨Z, hZ⟩ : ∃ Z, Z = showK 18 n s t ls ns (showQ [x0]) := ⟨_, rfl⟩
 rw [← hZ]
 simp [showK, showQ, txQ, smQ, headK] at hZ
 clear ih ihs hsh
 generalize smallT (kdE x0, showL x0) = X0 at *
 have kh := fun σ => k_Head (k := 18) (p := p) (n := n) (s := s) (t := t) (ls := ls) (ns := ns) (l := [x0]) (σ := σ) (by omega)
 rw [encE_mk] at kh
 simp [headK] at kh
 refine acalls_fit Tryz.func31 (by kernel_rfl) c31 rfl (by simp [a31]) fun hf => ?_
 clear hf
 simp -implicitDefEqProofs (disch := omega) [-getElem?_pos, a31]
 refine (kh _).then fun r hr => ?_
 subst hr
 simp -implicitDefEqProofs (disch := omega) [-getElem?_pos]
 repeat refine ⟨by omega, ?_⟩
 refine (h0 _).then fun r hr => ?_
 subst hr
 simp -implicitDefEqProofs (disch := omega) [-getElem?_pos]
 repeat refine ⟨by omega, ?_⟩
 exact .fin _ ⟨by rw [hZ] <;> simp, rfl⟩ (.refl _)
theorem tx_20 {p n : Int} {s t : Str} {ls ns : List Str} {l : List Ex} {σ : Sg} (he : csz (.mk 20 p n s t ls ns l) ≤ 1048576) (hl : l.length = 1)
  (hsh : ∀ x ∈ l, (showL x).length ≤ 8 * csz x)
  (ih : ∀ x ∈ l, ∀ σ, ACalls Tryz.prog 31 [.v (encE x)] σ fun r σ' => r = .v (.str (showL x)) ∧ σ' = σ)
  (ihs : ∀ x ∈ l, ∀ σ, ACalls Tryz.prog 56 [.v (encE x)] σ fun r σ' => r = .v (.str (smallT (kdE x, showL x))) ∧ σ' = σ) :
  ACalls Tryz.prog 31 [.v (encE (.mk 20 p n s t ls ns l))] σ fun r σ' => r = .v (.str (showK 20 n s t ls ns (showQ l))) ∧ σ' = σ := by
 obtain ⟨x0, rfl⟩ := len1 hl
 have h0 := ihs x0 (by simp)
 have b0 := hsh x0 (by simp)
 have s0 : (smallT (kdE x0, showL x0)).length ≤ (showL x0).length + 2 := small_len _
 simp only [csz, cszL] at he
 rw [encE_mk]
 obtain ⟨Z, hZ⟩ : ∃ Z, Z = showK 20 n s t ls ns (showQ [x0]) := ⟨_, rfl⟩
 rw [← hZ]
 simp [showK, showQ, txQ, smQ, headK] at hZ
 clear ih ihs hsh
 generalize smallT (kdE x0, showL x0) = X0 at *
 have kh := fun σ => k_Head (k := 20) (p := p) (n := n) (s := s) (t := t) (ls := ls) (ns := ns) (l := [x0]) (σ := σ) (by omega)
 rw [encE_mk] at kh
 simp [headK] at kh
 refine acalls_fit Tryz.func31 (by kernel_rfl) c31 rfl (by simp [a31]) fun hf => ?_
 clear hf
 simp -implicitDefEqProofs (disch := omega) [-getElem?_pos, a31]
 refine (kh _).then fun r hr => ?_
 subst hr
 simp -implicitDefEqProofs (disch := omega) [-getElem?_pos]
 repeat refine ⟨by omega, ?_⟩
 refine (h0 _).then fun r hr => ?_
 subst hr
 simp -implicitDefEqProofs (disch := omega) [-getElem?_pos]
 repeat refine ⟨by omega, ?_⟩
 exact .fin _ ⟨by rw [hZ] <;> simp, rfl⟩ (.refl _)
theorem tx_21 {p n : Int} {s t : Str} {ls ns : List Str} {l : List Ex} {σ : Sg} (he : csz (.mk 21 p n s t ls ns l) ≤ 1048576) (hl : l.length = 1)
  (hsh : ∀ x ∈ l, (showL x).length ≤ 8 * csz x)
  (ih : ∀ x ∈ l, ∀ σ, ACalls Tryz.prog 31 [.v (encE x)] σ fun r σ' => r = .v (.str (showL x)) ∧ σ' = σ)
  (ihs : ∀ x ∈ l, ∀ σ, ACalls Tryz.prog 56 [.v (encE x)] σ fun r σ' => r = .v (.str (smallT (kdE x, showL x))) ∧ σ' = σ) :
  ACalls Tryz.prog 31 [.v (encE (.mk 21 p n s t ls ns l))] σ fun r σ' => r = .v (.str (showK 21 n s t ls ns (showQ l))) ∧ σ' = σ := by
 obtain ⟨x0, rfl⟩ := len1 hl
 have h0 := ihs x0 (by simp)
 have b0 := hsh x0 (by simp)
 have s0 : (smallT (kdE x0, showL x0)).length ≤ (showL x0).length + 2 := small_len _
 simp only [csz, cszL] at he
 rw [encE_mk]
 obtain ⟨Z, hZ⟩ : ∃ Z, Z = showK 21 n s t ls ns (showQ [x0]) := ⟨_, rfl⟩
 rw [← hZ]
 simp [showK, showQ, txQ, smQ, headK] at hZ
 clear ih ihs hsh
 generalize smallT (kdE x0, showL x0) = X0 at *
 have kh := fun σ => k_Head (k := 21) (p := p) (n := n) (s := s) (t := t) (ls := ls) (ns := ns) (l := [x0]) (σ := σ) (by omega)
 rw [encE_mk] at kh
 simp [headK] at kh
 refine acalls_fit Tryz.func31 (by kernel_rfl) c31 rfl (by simp [a31]) fun hf => ?_
 clear hf
 simp -implicitDefEqProofs (disch := omega) [-getElem?_pos, a31]
 refine (kh _).then fun r hr => ?_
 subst hr
 simp -implicitDefEqProofs (disch := omega) [-getElem?_pos]
 repeat refine ⟨by omega, ?_⟩
 refine (h0 _).then fun r hr => ?_
 subst hr
 simp -implicitDefEqProofs (disch := omega) [-getElem?_pos]
 repeat refine ⟨by omega, ?_⟩
 exact .fin _ ⟨by rw [hZ] <;> simp, rfl⟩ (.refl _)
theorem tx_3 {p n : Int} {s t : Str} {ls ns : List Str} {l : List Ex} {σ : Sg} (he : csz (.mk 3 p n s t ls ns l) ≤ 1048576) (hl : l.length = 0)
  (hsh : ∀ x ∈ l, (showL x).length ≤ 8 * csz x)
  (ih : ∀ x ∈ l, ∀ σ, ACalls Tryz.prog 31 [.v (encE x)] σ fun r σ' => r = .v (.str (showL x)) ∧ σ' = σ)
  (ihs : ∀ x ∈ l, ∀ σ, ACalls Tryz.prog 56 [.v (encE x)] σ fun r σ' => r = .v (.str (smallT (kdE x, showL x))) ∧ σ' = σ) :
  ACalls Tryz.prog 31 [.v (encE (.mk 3 p n s t ls ns l))] σ fun r σ' => r = .v (.str (showK 3 n s t ls ns (showQ l))) ∧ σ' = σ := by
 obtain rfl := List.length_eq_zero_iff.1 hl
 simp only [csz, cszL] at he
 rw [encE_mk]
 obtain ⟨Z, hZ⟩ : ∃ Z, Z = showK 3 n s t ls ns (showQ []) := ⟨_, rfl⟩
 rw [← hZ]
 simp [showK, showQ, txQ, smQ, headK] at hZ
 clear ih ihs hsh
 refine acalls_fit Tryz.func31 (by kernel_rfl) c31 rfl (by simp [a31]) fun hf => ?_
 clear hf
 simp -implicitDefEqProofs (disch := omega) [-getElem?_pos, a31]
 repeat refine ⟨by omega, ?_⟩
 exact .fin _ ⟨by rw [hZ] <;> simp, rfl⟩ (.refl _)
theorem tx_22 {p n : Int} {s t : Str} {ls ns : List Str} {l : List Ex} {σ : Sg} (he : csz (.mk 22 p n s t ls ns l) ≤ 1048576) (hl : l.length = 0)
  (hsh : ∀ x ∈ l, (showL x).length ≤ 8 * csz x)
  (ih : ∀ x ∈ l, ∀ σ, ACalls Tryz.prog 31 [.v (encE x)] σ fun r σ' => r = .v (.str (showL x)) ∧ σ' = σ)
  (ihs : ∀ x ∈ l, ∀ σ, ACalls Tryz.prog 56 [.v (encE x)] σ fun r σ' => r = .v (.str (smallT (kdE x, showL x))) ∧ σ' = σ) :
  ACalls Tryz.prog 31 [.v (encE (.mk 22 p n s t ls ns l))] σ fun r σ' => r = .v (.str (showK 22 n s t ls ns (showQ l))) ∧ σ' = σ := by
 obtain rfl := List.length_eq_zero_iff.1 hl
 simp only [csz, cszL] at he
 rw [encE_mk]
 obtain ⟨Z, hZ⟩ : ∃ Z, Z = showK 22 n s t ls ns (showQ []) := ⟨_, rfl⟩
 rw [← hZ]
 simp [showK, showQ, txQ, smQ, headK] at hZ
 clear ih ihs hsh
 refine acalls_fit Tryz.func31 (by kernel_rfl) c31 rfl (by simp [a31]) fun hf => ?_
 clear hf
 simp -implicitDefEqProofs (disch := omega) [-getElem?_pos, a31]
 repeat refine ⟨by omega, ?_⟩
 exact .fin _ ⟨by rw [hZ] <;> simp, rfl⟩ (.refl _)
theorem tx_1 {p n : Int} {s t : Str} {ls ns : List Str} {l : List Ex} {σ : Sg} : ACalls Tryz.prog 31 [.v (encE (.mk 1 p n s t ls ns l))] σ fun r σ' => r = .v (.str (showK 1 n s t ls ns (showQ l))) ∧ σ' = σ := by
 rw [encE_mk]
 have hZ : showK 1 n s t ls ns (showQ l) = Lib.itoa n := rfl
 rw [hZ]
 refine acalls_fit Tryz.func31 (by kernel_rfl) c31 rfl (by simp [a31]) fun hf => ?_
 clear hf
 simp -implicitDefEqProofs (disch := omega) [-getElem?_pos, a31]
 refine k_Fmt.then fun r hr => ?_
 obtain ⟨rfl, hlen⟩ := hr
 simp -implicitDefEqProofs (disch := omega) [-getElem?_pos]
 exact .fin _ ⟨rfl, rfl⟩ (.refl _)
theorem tx_2 {p n : Int} {s t : Str} {ls ns : List Str} {l : List Ex} {σ : Sg} (hs : s.length ≤ 1048576) (hq : (quoteE s).isSome = true) : ACalls Tryz.prog 31 [.v (encE (.mk 2 p n s t ls ns l))] σ fun r σ' => r = .v (.str (showK 2 n s t ls ns (showQ l))) ∧ σ' = σ := by
 have kq := fun σ => k_Quote (b := s) (σ := σ) hs
 rw [encE_mk]
 have hZ : showK 2 n s t ls ns (showQ l) = (quoteE s).getD [] := rfl
 rw [hZ]
 obtain ⟨z, hz⟩ := Option.isSome_iff_exists.1 hq
 rw [hz] at kq ⊢
 refine acalls_fit Tryz.func31 (by kernel_rfl) c31 rfl (by simp [a31]) fun hf => ?_
 clear hf
 simp -implicitDefEqProofs (disch := omega) [-getElem?_pos, a31]
 refine (kq _).then fun r hr => ?_
 replace hr : r = .tup [.v (.str z), .v .inil] := hr
 subst hr
 simp -implicitDefEqProofs (disch := omega) [-getElem?_pos]
 exact .fin _ ⟨rfl, rfl⟩ (.refl _)
theorem tx_14 {p n : Int} {s t : Str} {ls ns : List Str} {l : List Ex} {σ : Sg} (he : csz (.mk 14 p n s t ls ns l) ≤ 1048576) (hns : ns.length = ls.length) (hl : l.length = ls.length + 1 + (if t = [] then 0 else 1))
  (hsh : ∀ x ∈ l, (showL x).length ≤ 8 * csz x)
  (ih : ∀ x ∈ l, ∀ σ, ACalls Tryz.prog 31 [.v (encE x)] σ fun r σ' => r = .v (.str (showL x)) ∧ σ' = σ) :
  ACalls Tryz.prog 31 [.v (encE (.mk 14 p n s t ls ns l))] σ fun r σ' => r = .v (.str (showK 14 n s t ls ns (showQ l))) ∧ σ' = σ := by
 have km := fun σ => k_Match (σ := σ) he hns hl hsh ih
 obtain ⟨Z, hZ⟩ : ∃ Z, Z = showK 14 n s t ls ns (showQ l) := ⟨_, rfl⟩
 rw [← hZ] at km ⊢
 rw [encE_mk] at km ⊢
 refine acalls_fit Tryz.func31 (by kernel_rfl) c31 rfl (by simp [a31]) fun hf => ?_
 clear hf
 simp -implicitDefEqProofs (disch := omega) [-getElem?_pos, a31]
 refine (km _).then fun r hr => ?_
 subst hr
 simp -implicitDefEqProofs (disch := omega) [-getElem?_pos]
 exact .fin _ ⟨rfl, rfl⟩ (.refl _)
theorem tx_8 {p n : Int} {s t : Str} {ls ns : List Str} {l : List Ex} {σ : Sg} (he : csz (.mk 8 p n s t ls ns l) ≤ 1048576) (hl : l.length = ls.length)
  (hsh : ∀ x ∈ l, (showL x).length ≤ 8 * csz x)
  (ih : ∀ x ∈ l, ∀ σ, ACalls Tryz.prog 31 [.v (encE x)] σ fun r σ' => r = .v (.str (showL x)) ∧ σ' = σ) :
  ACalls Tryz.prog 31 [.v (encE (.mk 8 p n s t ls ns l))] σ fun r σ' => r = .v (.str (showK 8 n s t ls ns (showQ l))) ∧ σ' = σ := by
 have hLL := lenL_show hsh
 have hb := joinTo_len ls ((showQ l).map (·.2)) (items ls ((showQ l).map (·.2))).length
 rw [joinTo_all (Nat.le_refl _)] at hb
 have hZ : showK 8 n s t ls ns (showQ l) = [123] ++ Lib.join (items ls ((showQ l).map (·.2))) [44, 32] ++ [125] := rfl
 rw [hZ]
 simp only [csz] at he
 have hl1 := cszL_len l
 have hn1 := nsz_len ls
 have hyl : ((showQ l).map (·.2)).length = l.length := by rw [List.length_map, showQ_eq, List.length_map]
 have hget : ∀ i x, l[i]? = some x → ((showQ l).map (·.2))[i]? = some (showL x) := fun i x hx => by
  rw [List.getElem?_map, showQ_get hx]; rfl
 obtain ⟨ys, hys⟩ : ∃ ys, ys = (showQ l).map (·.2) := ⟨_, rfl⟩
 rw [← hys] at hyl hget hLL hb ⊢
 clear hys
 rw [encE_mk]
 refine acalls_fit Tryz.func31 (by kernel_rfl) c31 rfl (by simp [a31]) fun hf => ?_
 clear hf
 simp -implicitDefEqProofs (disch := omega) [-getElem?_pos, a31]
 refine W_loop (α := Nat) 0 (fun i => ls.length - i) (fun i => ⟨[(1, .ptr σ.objs.length 0), (2, .v (.str [])), (5, .tsl σ.toks.length none (itemsO ls ys i)), (101, .v (.sl none false (ls.map .str))), (102, .v (.int .i64 ls.length)), (103, .v (.int .i64 i))], ⟨σ.objs ++ [.cells [.v (.int .i64 8), .v (.int .i64 p), .v (.int .i64 n), .v (.str s), .v (.str t), .v (.sl none false (ls.map .str)), .v (.sl none false (ns.map .str)), .v (.sl (some 8) false (l.map encE))]], σ.toks ++ [i]⟩⟩)
  (fun i => i ≤ ls.length) (.tok (i := 5) (sh := none) (by simp [itemsO]) (by simp)) (by omega) fun i hi => ?_
 have hil := itemsO_len (ls := ls) (xs := ys) (by omega) (i := i) (by omega)
 simp -implicitDefEqProofs (disch := omega) [-getElem?_pos]
 refine .mk (fun h => ?_) fun h => ?_
 ·simp -implicitDefEqProofs (disch := omega) [-getElem?_pos]
  repeat refine ⟨by omega, ?_⟩
  intro a ha
  have ha1 := nsz_mem (List.mem_of_getElem? ha)
  repeat refine ⟨by omega, ?_⟩
  intro x hx1
  have hx2 := hsh x (List.mem_of_getElem? hx1)
  have hx3 := cszL_mem (List.mem_of_getElem? hx1)
  have hst := itemsO_step ha (hget i x hx1)
  refine (ih x (List.mem_of_getElem? hx1) _).then fun r hr => ?_
  subst hr
  generalize showL x = X at *
  simp only [List.append_assoc, List.cons_append, List.nil_append] at hst
  simp -implicitDefEqProofs (disch := omega) [-getElem?_pos, hil, hst]
  exact ⟨by omega, by omega, i + 1, by omega, by dsimp only; omega, .eq (by simp)⟩
 ·obtain rfl : i = ls.length := by omega
  have hL := items_len ls ys (by omega)
  rw [itemsO_all (by omega) (by omega)] at hil ⊢
  obtain ⟨J, hJ⟩ : ∃ J, J = Lib.join (items ls ys) [44, 32] := ⟨_, rfl⟩
  have hj := k_Join (L := items ls ys) (sep := [44, 32]) (σ := ⟨σ.objs ++ [.cells [.v (.int .i64 8), .v (.int .i64 p), .v (.int .i64 n), .v (.str s), .v (.str t), .v (.sl none false (ls.map .str)), .v (.sl none false (ns.map .str)), .v (.sl (some 8) false (l.map encE))]], σ.toks ++ [ls.length]⟩) (by omega) (by omega)
  rw [← hJ] at hj hb ⊢
  generalize items ls ys = I at *
  simp -implicitDefEqProofs (disch := omega) [-getElem?_pos]
  refine (ACalls.argA hj .tsl).then fun r hr => ?_
  subst hr
  simp -implicitDefEqProofs (disch := omega) [-getElem?_pos]
  repeat refine ⟨by omega, ?_⟩
  exact .finS _ σ ⟨by simp, rfl⟩ (.refl _) (fun ob h => .inl h) (by simp) (by simp) (by simp) (by simp) (by simp)
theorem fineLB_mem : ∀ {l : List Ex} {x : Ex}, fineLB l = true → x ∈ l → fineB x = true
 | y :: l, x, h, hx => by
  rw [fineLB, Bool.and_eq_true] at h
  rcases List.mem_cons.1 hx with rfl | hx
  ·exact h.1
  ·exact fineLB_mem h.2 hx
theorem intsL_mem : ∀ {l : List Ex} {x : Ex}, intsL l → x ∈ l → intsE x
 | y :: l, x, h, hx => by
  rw [intsL] at h
  rcases List.mem_cons.1 hx with rfl | hx
  ·exact h.1
  ·exact intsL_mem h.2 hx
structure Own (k : Int) (s t : Str) (ls ns : List Str) (l : List Ex) : Prop where
 parts : (l.length : Int) = partsN k ls.length (decide (t ≠ []))
 text : textB k s = true
 match14 : k = 14 → ns.length = ls.length
theorem own_is {k p n : Int} {s t : Str} {ls ns : List Str} {l : List Ex} (h : ownB (.mk k p n s t ls ns l) = true) : Own k s t ls ns l := by
 rw [ownB] at h
 by_cases h0 : (l.length : Int) ≠ partsN k ls.length (decide (t ≠ [])) ∨ n < 0 ∨ (0 < n ∧ k ≠ 1) ∨ textB k s = false
 ·rw [if_pos h0] at h; cases h
 ·rw [if_neg h0] at h
  simp only [not_or] at h0
  refine ⟨Classical.byContradiction fun hh => h0.1 hh, by simpa using h0.2.2.2, fun h14 => ?_⟩
  subst h14
  simp at h
  omega
theorem kinds_of {k m : Int} {o : Bool} {len : Nat} (h : (len : Int) = partsN k m o) : k ∈ [1, 2, 3, 4, 5, 6, 7, 8, 9, 10, 11, 12, 13, 14, 15, 16, 17, 18, 19, 20, 21, (22 : Int)] := by
 apply Classical.byContradiction
 intro hn
 simp only [List.mem_cons, List.not_mem_nil, or_false, not_or] at hn
 unfold partsN at h
 rw [if_neg (by omega), if_neg (by omega), form_none (by
  intro j hj
  simp only [formsT, List.map_cons, List.map_nil, List.mem_cons, List.not_mem_nil, or_false] at hj
  omega)] at h
 simp at h
theorem k_TextE (e : Ex) : ∀ {σ : Sg}, csz e ≤ 1048576 → intsE e → fineB e = true → ACalls Tryz.prog 31 [.v (encE e)] σ fun r σ' => r = .v (.str (showL e)) ∧ σ' = σ := by
 refine Ex.ind (P := fun e => ∀ {σ : Sg}, csz e ≤ 1048576 → intsE e → fineB e = true → ACalls Tryz.prog 31 [.v (encE e)] σ fun r σ' => r = .v (.str (showL e)) ∧ σ' = σ) (fun k p n s t ls ns l ih0 => ?_) e
 intro σ he hi hf
 rw [fineB, Bool.and_eq_true] at hf
 rw [intsE] at hi
 have hO := own_is hf.1
 have hc : ∀ x ∈ l, csz x ≤ 1048576 := fun x hx => by
  have := cszL_mem hx
  simp only [csz] at he
  omega
 have hs : s.length ≤ 1048576 := by simp only [csz] at he; omega
 have hsh : ∀ x ∈ l, (showL x).length ≤ 8 * csz x := fun x hx => show_len x (intsL_mem hi.2 hx)
 have ih : ∀ x ∈ l, ∀ σ, ACalls Tryz.prog 31 [.v (encE x)] σ fun r σ' => r = .v (.str (showL x)) ∧ σ' = σ := fun x hx σ => ih0 x hx (hc x hx) (intsL_mem hi.2 hx) (fineLB_mem hf.2 hx)
 have ihs : ∀ x ∈ l, ∀ σ, ACalls Tryz.prog 56 [.v (encE x)] σ fun r σ' => r = .v (.str (smallT (kdE x, showL x))) ∧ σ' = σ := fun x hx σ => k_Small (by have := hsh x hx; have := hc x hx; omega) (ih x hx)
 have hp := hO.parts
 have hk := kinds_of hp
 rw [show showL (.mk k p n s t ls ns l) = showK k n s t ls ns (showQ l) by rw [showL]]
 simp only [List.mem_cons, List.not_mem_nil, or_false] at hk
 rcases hk with rfl | rfl | rfl | rfl | rfl | rfl | rfl | rfl | rfl | rfl | rfl | rfl | rfl | rfl | rfl | rfl | rfl | rfl | rfl | rfl | rfl | rfl
 ·exact tx_1
 ·exact tx_2 hs hO.text
 ·exact tx_3 he (Int.ofNat_inj.1 hp) hsh ih ihs
 ·exact tx_4 he (Int.ofNat_inj.1 hp) hsh ih ihs
 ·exact tx_5 he (Int.ofNat_inj.1 hp) hsh ih ihs
 ·exact tx_6 he (Int.ofNat_inj.1 hp) hsh ih ihs
 ·exact tx_7 he (Int.ofNat_inj.1 hp) hsh ih ihs
 ·exact tx_8 he (Int.ofNat_inj.1 hp) hsh ih
 ·exact tx_9 he (Int.ofNat_inj.1 hp) hsh ih ihs
 ·exact tx_10 he (Int.ofNat_inj.1 hp) hsh ih ihs
 ·exact tx_11 he (Int.ofNat_inj.1 hp) hsh ih ihs
 ·exact tx_12 he (Int.ofNat_inj.1 hp) hsh ih ihs
 ·exact tx_13 he (Int.ofNat_inj.1 hp) hsh ih ihs
 ·refine tx_14 he (hO.match14 rfl) ?_ hsh ih
  by_cases ht : t = []
  ·rw [if_pos ht]; simp [partsN, ht] at hp; omega
  ·rw [if_neg ht]; simp [partsN, ht] at hp; omega
 ·exact tx_15 he (Int.ofNat_inj.1 hp) hsh ih ihs
 ·exact tx_16 he (Int.ofNat_inj.1 hp) hsh ih ihs
 ·exact tx_17 he (Int.ofNat_inj.1 hp) hsh ih ihs
 ·exact tx_18 he (Int.ofNat_inj.1 hp) hsh ih ihs
 ·exact tx_19 he (Int.ofNat_inj.1 hp) hsh ih ihs
 ·exact tx_20 he (Int.ofNat_inj.1 hp) hsh ih ihs
 ·exact tx_21 he (Int.ofNat_inj.1 hp) hsh ih ihs
 ·exact tx_22 he (Int.ofNat_inj.1 hp) hsh ih ihs
def textR (e : Ex) : D := if mayB e = true then .tup [.v (.str (showL e)), .v .inil] else .tup [.v (.str []), .v (.iface 32 (.int .i64 1))]
theorem k_ShText {e : Ex} {σ : Sg} (he : csz e ≤ 1048576) (hi : intsE e) : ACalls Tryz.prog 10 [.v (encE e)] σ fun r σ' => r = textR e ∧ σ' = σ := by
 have km := fun σ => k_May (e := e) (σ := σ) he
 have kt := fun h σ => k_TextE e (σ := σ) he hi h
 unfold textR
 cases hm : mayB e with
 | false =>
  rw [hm] at km
  cases e with
  | mk k p n s t ls ns l =>
  rw [encE_mk] at km ⊢
  refine acalls_fit Tryz.func10 (by kernel_rfl) c10 rfl (by simp [a10]) fun hf => ?_
  clear hf
  simp -implicitDefEqProofs (disch := omega) [-getElem?_pos, a10]
  refine (km _).then fun r hr => ?_
  subst hr
  simp -implicitDefEqProofs (disch := omega) [-getElem?_pos]
  exact .fin _ ⟨rfl, rfl⟩ (.refl _)
 | true =>
  rw [hm] at km
  have hfine : fineB e = true := by
   unfold mayB at hm
   simp only [Bool.and_eq_true] at hm
   exact hm.2.2
  replace kt := kt hfine
  obtain ⟨Z, hZ⟩ : ∃ Z, Z = showL e := ⟨_, rfl⟩
  rw [← hZ] at kt ⊢
  clear hZ
  cases e with
  | mk k p n s t ls ns l =>
  rw [encE_mk] at km kt ⊢
  refine acalls_fit Tryz.func10 (by kernel_rfl) c10 rfl (by simp [a10]) fun hf => ?_
  clear hf
  simp -implicitDefEqProofs (disch := omega) [-getElem?_pos, a10]
  refine (km _).then fun r hr => ?_
  subst hr
  simp -implicitDefEqProofs (disch := omega) [-getElem?_pos]
  refine (kt _).then fun r hr => ?_
  subst hr
  simp -implicitDefEqProofs (disch := omega) [-getElem?_pos]
  exact .fin _ ⟨rfl, rfl⟩ (.refl _)
set_option maxHeartbeats 4000000
def IsErr (d : D) : Prop := (∃ t d', d = .iface t d') ∨ ∃ t v, d = .v (.iface t v)
theorem k_LawP {a : Ex} {b : Str} {σ : Sg} (ha : csz a ≤ 1048576) (hb : b.length ≤ 1048576) (ia : intsE a) : ACalls Tryz.prog 7 [.v (encE a), .v (vBs b)] σ fun r σ' => r = .v (.bool true) := by
 have ku := fun σ => k_Up7 (σ := σ)
 have kfa := fun σ => k_Few (e := a) (σ := σ) ha
 have kta := fun σ => k_ShText (e := a) (σ := σ) ha ia
 have kpb := fun σ => k_Program (b := b) (σ := σ) hb
 have hpa := fun h h2 => show_prog (e := a) h ia h2
 have ksa := fun y σ => k_Same5 a y (σ := σ) ha
 unfold textR at kta
 have kpa : ∀ σ, (showL a).length ≤ 4000 → ACalls Tryz.prog 29 [.v (vBs (showL a))] σ (ProgPost σ (progR (showL a))) := fun σ h => k_Program (by omega)
 have hb2 : (∃ y, progR b = .ok y ∧ mayB y = true ∧ csz y ≤ 1000000 ∧ intsE y) ∨ ∀ r σ σ', ProgPost σ (progR b) r σ' → ∃ d xs ts, r = .tup [.v zV, d] ∧ IsErr d ∧ σ' = ⟨σ.objs ++ xs, σ.toks ++ ts⟩ := by
  cases hp : progR b with
  | ok y => exact .inl ⟨y, rfl, prog_may hp⟩
  | spot q c => exact .inr fun r σ σ' h => ⟨_, [], [], h.1, .inl ⟨_, _, rfl⟩, by rw [h.2]; simp⟩
  | lex q => exact .inr fun r σ σ' h => by obtain ⟨d, xs, ts, h1, h2⟩ := h; exact ⟨_, xs, ts, h1, .inl ⟨_, _, rfl⟩, h2⟩
  | great => exact .inr fun r σ σ' h => ⟨_, [], [], h.1, .inr ⟨_, _, rfl⟩, by rw [h.2]; simp⟩
 generalize mayB a = ma at *
 generalize showL a = Za at *
 cases a with
 | mk k p n s t ls ns l =>
 rw [encE_mk] at kfa kta ⊢
 simp only [encE_mk (k := k)] at ksa
 refine acalls_fit Tryz.func7 (by kernel_rfl) c7 rfl (by simp [a7]) fun hf => ?_
 clear hf
 simp -implicitDefEqProofs (disch := omega) [-getElem?_pos, a7]
 refine (ku _).then fun r hr => ?_
 subst hr
 simp -implicitDefEqProofs (disch := omega) [-getElem?_pos]
 refine (kfa _).then fun r hr => ?_
 obtain ⟨x, rfl⟩ := hr
 cases x with
 | false =>
  simp -implicitDefEqProofs (disch := omega) [-getElem?_pos]
  exact .fin _ rfl (.refl _)
 | true =>
 simp -implicitDefEqProofs (disch := omega) [-getElem?_pos]
 refine .mk (fun h => ?_) fun hb4 => ?_
 ·simp -implicitDefEqProofs (disch := omega) [-getElem?_pos]
  exact .fin _ rfl (.refl _)
 simp -implicitDefEqProofs (disch := omega) [-getElem?_pos]
 refine (kta _).then fun r hr => ?_
 subst hr
 cases ma with
 | false =>
  simp -implicitDefEqProofs (disch := omega) [-getElem?_pos]
  rcases hb2 with ⟨y, hy, hmy, hcy, hiy⟩ | herr
  ·rw [hy] at kpb
   have kty := fun σ => k_ShText (e := y) (σ := σ) (by omega) hiy
   have hpy := fun h2 => show_prog (e := y) hmy hiy h2
   have kpy : ∀ σ, (showL y).length ≤ 4000 → ACalls Tryz.prog 29 [.v (vBs (showL y))] σ (ProgPost σ (progR (showL y))) := fun σ h => k_Program (by omega)
   have ksy := fun z σ => k_Same5 y z (σ := σ) (by omega)
   unfold textR at kty
   rw [hmy, if_pos rfl] at kty
   generalize showL y = Y at *
   cases y with
   | mk k9 p9 n9 s9 t9 ls9 ns9 l9 =>
   unfold ProgPost at kpb
   dsimp only at kpb
   rw [encE_mk] at kpb kty
   simp only [encE_mk (k := k9)] at ksy
   refine (kpb _).then fun r hr => ?_
   subst hr
   simp -implicitDefEqProofs (disch := omega) [-getElem?_pos]
   refine (kty _).then fun r hr => ?_
   subst hr
   simp -implicitDefEqProofs (disch := omega) [-getElem?_pos]
   refine .mk (fun h => ?_) fun h => ?_
   ·simp -implicitDefEqProofs (disch := omega) [-getElem?_pos]
    exact .fin _ rfl (.refl _)
   ·obtain ⟨z, hz, hzs⟩ := hpy (by omega)
    have kpy := fun σ => kpy σ (by omega)
    rw [hz] at kpy
    have ksz := ksy z
    rw [hzs] at ksz
    cases z with
    | mk k8 p8 n8 s8 t8 ls8 ns8 l8 =>
    unfold ProgPost at kpy
    dsimp only at kpy
    rw [encE_mk] at kpy
    simp only [encE_mk (k := k8)] at ksz
    unfold vBs at kpy
    simp -implicitDefEqProofs (disch := omega) [-getElem?_pos]
    refine ⟨by omega, ?_⟩
    refine (kpy _).then fun r hr => ?_
    subst hr
    simp -implicitDefEqProofs (disch := omega) [-getElem?_pos]
    refine (ksz _).then fun r hr => ?_
    subst hr
    simp -implicitDefEqProofs (disch := omega) [-getElem?_pos]
    exact .fin _ rfl (.refl _)
  ·refine (kpb _).mono fun r σ' hr => ?_
   obtain ⟨d, xs, ts, rfl, hd, rfl⟩ := herr _ _ _ hr
   rcases hd with ⟨t9, d, rfl⟩ | ⟨t9, d, rfl⟩
   ·simp -implicitDefEqProofs (disch := omega) [-getElem?_pos]
    exact .fin _ rfl (.refl _)
   ·simp -implicitDefEqProofs (disch := omega) [-getElem?_pos]
    exact .fin _ rfl (.refl _)
 | true =>
 simp -implicitDefEqProofs (disch := omega) [-getElem?_pos]
 refine .mk (fun h4 => ?_) fun h4 => ?_
 ·obtain ⟨z, hz, hzs⟩ := hpa rfl (by omega)
  have kpa := fun σ => kpa σ (by omega)
  rw [hz] at kpa
  have ksz := ksa z
  rw [hzs] at ksz
  cases z with
  | mk k8 p8 n8 s8 t8 ls8 ns8 l8 =>
  unfold ProgPost at kpa
  dsimp only at kpa
  rw [encE_mk] at kpa
  simp only [encE_mk (k := k8)] at ksz
  unfold vBs at kpa
  simp -implicitDefEqProofs (disch := omega) [-getElem?_pos]
  refine ⟨by omega, ?_⟩
  refine (kpa _).then fun r hr => ?_
  subst hr
  simp -implicitDefEqProofs (disch := omega) [-getElem?_pos]
  refine (ksz _).then fun r hr => ?_
  subst hr
  simp -implicitDefEqProofs (disch := omega) [-getElem?_pos]
  rcases hb2 with ⟨y, hy, hmy, hcy, hiy⟩ | herr
  ·rw [hy] at kpb
   have kty := fun σ => k_ShText (e := y) (σ := σ) (by omega) hiy
   have hpy := fun h2 => show_prog (e := y) hmy hiy h2
   have kpy : ∀ σ, (showL y).length ≤ 4000 → ACalls Tryz.prog 29 [.v (vBs (showL y))] σ (ProgPost σ (progR (showL y))) := fun σ h => k_Program (by omega)
   have ksy := fun z σ => k_Same5 y z (σ := σ) (by omega)
   unfold textR at kty
   rw [hmy, if_pos rfl] at kty
   generalize showL y = Y at *
   cases y with
   | mk k9 p9 n9 s9 t9 ls9 ns9 l9 =>
   unfold ProgPost at kpb
   dsimp only at kpb
   rw [encE_mk] at kpb kty
   simp only [encE_mk (k := k9)] at ksy
   refine (kpb _).then fun r hr => ?_
   subst hr
   simp -implicitDefEqProofs (disch := omega) [-getElem?_pos]
   refine (kty _).then fun r hr => ?_
   subst hr
   simp -implicitDefEqProofs (disch := omega) [-getElem?_pos]
   refine .mk (fun h => ?_) fun h => ?_
   ·simp -implicitDefEqProofs (disch := omega) [-getElem?_pos]
    exact .fin _ rfl (.refl _)
   ·obtain ⟨z, hz, hzs⟩ := hpy (by omega)
    have kpy := fun σ => kpy σ (by omega)
    rw [hz] at kpy
    have ksz := ksy z
    rw [hzs] at ksz
    cases z with
    | mk k8 p8 n8 s8 t8 ls8 ns8 l8 =>
    unfold ProgPost at kpy
    dsimp only at kpy
    rw [encE_mk] at kpy
    simp only [encE_mk (k := k8)] at ksz
    unfold vBs at kpy
    simp -implicitDefEqProofs (disch := omega) [-getElem?_pos]
    refine ⟨by omega, ?_⟩
    refine (kpy _).then fun r hr => ?_
    subst hr
    simp -implicitDefEqProofs (disch := omega) [-getElem?_pos]
    refine (ksz _).then fun r hr => ?_
    subst hr
    simp -implicitDefEqProofs (disch := omega) [-getElem?_pos]
    exact .fin _ rfl (.refl _)
  ·refine (kpb _).mono fun r σ' hr => ?_
   obtain ⟨d, xs, ts, rfl, hd, rfl⟩ := herr _ _ _ hr
   rcases hd with ⟨t9, d, rfl⟩ | ⟨t9, d, rfl⟩
   ·simp -implicitDefEqProofs (disch := omega) [-getElem?_pos]
    exact .fin _ rfl (.refl _)
   ·simp -implicitDefEqProofs (disch := omega) [-getElem?_pos]
    exact .fin _ rfl (.refl _)
 ·simp -implicitDefEqProofs (disch := omega) [-getElem?_pos]
  rcases hb2 with ⟨y, hy, hmy, hcy, hiy⟩ | herr
  ·rw [hy] at kpb
   have kty := fun σ => k_ShText (e := y) (σ := σ) (by omega) hiy
   have hpy := fun h2 => show_prog (e := y) hmy hiy h2
   have kpy : ∀ σ, (showL y).length ≤ 4000 → ACalls Tryz.prog 29 [.v (vBs (showL y))] σ (ProgPost σ (progR (showL y))) := fun σ h => k_Program (by omega)
   have ksy := fun z σ => k_Same5 y z (σ := σ) (by omega)
   unfold textR at kty
   rw [hmy, if_pos rfl] at kty
   generalize showL y = Y at *
   cases y with
   | mk k9 p9 n9 s9 t9 ls9 ns9 l9 =>
   unfold ProgPost at kpb
   dsimp only at kpb
   rw [encE_mk] at kpb kty
   simp only [encE_mk (k := k9)] at ksy
   refine (kpb _).then fun r hr => ?_
   subst hr
   simp -implicitDefEqProofs (disch := omega) [-getElem?_pos]
   refine (kty _).then fun r hr => ?_
   subst hr
   simp -implicitDefEqProofs (disch := omega) [-getElem?_pos]
   refine .mk (fun h => ?_) fun h => ?_
   ·simp -implicitDefEqProofs (disch := omega) [-getElem?_pos]
    exact .fin _ rfl (.refl _)
   ·obtain ⟨z, hz, hzs⟩ := hpy (by omega)
    have kpy := fun σ => kpy σ (by omega)
    rw [hz] at kpy
    have ksz := ksy z
    rw [hzs] at ksz
    cases z with
    | mk k8 p8 n8 s8 t8 ls8 ns8 l8 =>
    unfold ProgPost at kpy
    dsimp only at kpy
    rw [encE_mk] at kpy
    simp only [encE_mk (k := k8)] at ksz
    unfold vBs at kpy
    simp -implicitDefEqProofs (disch := omega) [-getElem?_pos]
    refine ⟨by omega, ?_⟩
    refine (kpy _).then fun r hr => ?_
    subst hr
    simp -implicitDefEqProofs (disch := omega) [-getElem?_pos]
    refine (ksz _).then fun r hr => ?_
    subst hr
    simp -implicitDefEqProofs (disch := omega) [-getElem?_pos]
    exact .fin _ rfl (.refl _)
  ·refine (kpb _).mono fun r σ' hr => ?_
   obtain ⟨d, xs, ts, rfl, hd, rfl⟩ := herr _ _ _ hr
   rcases hd with ⟨t9, d, rfl⟩ | ⟨t9, d, rfl⟩
   ·simp -implicitDefEqProofs (disch := omega) [-getElem?_pos]
    exact .fin _ rfl (.refl _)
   ·simp -implicitDefEqProofs (disch := omega) [-getElem?_pos]
    exact .fin _ rfl (.refl _)
end Go.Proofs.YtpdeaekmgljeaaaGreatDoor
