/- The program's functions as abstract texts, each held against the program by the kernel. -/
import Derived.Test.YtmdjimkndeklmaaBa
import Derived.Test.YtmdjimkndeklmaaChecked
namespace Go.Proofs.Ytmdjimkndeklmaa.WL
open Go
theorem mix : Try.prog.follows .mixedOrders = true := by kernel_rfl
def fn_l09_RequestSames : Nat := 3
def fn_l12_BlockFollows : Nat := 4
def fn_l09_RequestAnswers : Nat := 5
def fn_l09_RequestReads : Nat := 6
def fn_l12_BlockReads : Nat := 7
def fn_l12_BlockCuts : Nat := 8
def fn_l09_alive : Nat := 9
def fn_l09_large : Nat := 10
def fn_request_WriteReply : Nat := 11
def fn_request_Same : Nat := 12
def fn_code_Writer_Bytes : Nat := 13
def fn_l12_alive : Nat := 14
def fn_r12_Great : Nat := 15
def fn_r12_Good : Nat := 16
def fn_block_Follows : Nat := 17
def fn_r09_ReplyBytes : Nat := 18
def fn_r09_Same : Nat := 19
def fn_code_Read : Nat := 20
def fn_request_ReadReply : Nat := 21
def fn_r09_ReadReply : Nat := 22
def fn_code_Reader_Good : Nat := 23
def fn_r01_Reader_Good : Nat := 24
def fn_code_Reader_End : Nat := 25
def fn_r01_Reader_End : Nat := 26
def fn_l09_long : Nat := 27
def fn_request_Read : Nat := 28
def fn_r09_Read : Nat := 29
def fn_request_Write : Nat := 30
def fn_r09_Good : Nat := 31
def fn_r12_Same : Nat := 32
def fn_block_Read : Nat := 33
def fn_r12_Read : Nat := 34
def fn_block_Write : Nat := 35
def fn_l09_put : Nat := 36
def fn_request_Good : Nat := 37
def fn_code_Writer_Num : Nat := 38
def fn_code_Writer_Text : Nat := 39
def fn_block_Good : Nat := 40
def fn_r09_nums : Nat := 41
def fn_r01_Text : Nat := 42
def fn_r09_Texts : Nat := 43
def fn_code_Reader_In : Nat := 44
def fn_code_Reader_Text : Nat := 45
def fn_r01_Reader_In : Nat := 46
def fn_r01_Reader_Text : Nat := 47
def fn_code_Reader_Num : Nat := 48
def fn_code_Reader_Digest : Nat := 49
def fn_r01_Reader_Num : Nat := 50
def fn_r01_Reader_Digest : Nat := 51
def fn_code_Writer_Digest : Nat := 52
def fn_request_short : Nat := 53
def fn_r01_Num : Nat := 54
def fn_code_Reader_take : Nat := 55
def fn_r01_Reader_Take : Nat := 56
/-! wapentake/wapentakelaw09.RequestSames -/
@[simp] def a_l09_RequestSames_r0 : List COper := [
  ⟨(some 2), .box, [.t 0], none⟩,
  ⟨(some 3), .box, [.t 1], none⟩,
  ⟨(some 4), .mov, [.c (.bool false)], none⟩]
def c_l09_RequestSames_r0 : List COper := a_l09_RequestSames_r0
instance : Reg c_l09_RequestSames_r0 a_l09_RequestSames_r0 3 := ⟨rfl, rfl⟩
@[simp] def a_l09_RequestSames_r1 : List COper := [
  ⟨(some 7), .call fn_l09_alive, [], none⟩,
  ⟨(some 8), .not, [.t 7], none⟩]
def c_l09_RequestSames_r1 : List COper := a_l09_RequestSames_r1
instance : Reg c_l09_RequestSames_r1 a_l09_RequestSames_r1 2 := ⟨rfl, rfl⟩
@[simp] def a_l09_RequestSames_r2 : List COper := [
  ⟨(some 4), .mov, [.c (.bool false)], none⟩]
def c_l09_RequestSames_r2 : List COper := a_l09_RequestSames_r2
instance : Reg c_l09_RequestSames_r2 a_l09_RequestSames_r2 1 := ⟨rfl, rfl⟩
@[simp] def a_l09_RequestSames_r3 : List COper := [
  ⟨(some 9), .load true 4, [.t 2], none⟩,
  ⟨(some 10), .call fn_l09_large, [.t 9], none⟩,
  ⟨(some 11), .mov, [.t 10], none⟩,
  ⟨(some 12), .load true 4, [.t 3], (some (11, false))⟩,
  ⟨(some 13), .call fn_l09_large, [.t 12], (some (11, false))⟩,
  ⟨(some 14), .pick, [.t 11, .c (.bool true), .t 13], none⟩]
def c_l09_RequestSames_r3 : List COper := a_l09_RequestSames_r3
instance : Reg c_l09_RequestSames_r3 a_l09_RequestSames_r3 6 := ⟨rfl, rfl⟩
@[simp] def a_l09_RequestSames_r4 : List COper := [
  ⟨(some 4), .mov, [.c (.bool true)], none⟩]
def c_l09_RequestSames_r4 : List COper := a_l09_RequestSames_r4
instance : Reg c_l09_RequestSames_r4 a_l09_RequestSames_r4 1 := ⟨rfl, rfl⟩
@[simp] def a_l09_RequestSames_r5 : List COper := [
  ⟨(some 15), .build [.v (.slice none 0 0)] [], [], none⟩,
  ⟨(some 16), .box, [.t 15], none⟩,
  ⟨(some 17), .build [.v (.slice none 0 0)] [], [], none⟩,
  ⟨(some 18), .box, [.t 17], none⟩,
  ⟨(some 5), .mov, [.t 16], none⟩,
  ⟨(some 6), .mov, [.t 18], none⟩]
def c_l09_RequestSames_r5 : List COper := a_l09_RequestSames_r5
instance : Reg c_l09_RequestSames_r5 a_l09_RequestSames_r5 6 := ⟨rfl, rfl⟩
@[simp] def a_l09_RequestSames_r6 : List COper := [
  ⟨(some 19), .mov, [.t 5], none⟩,
  ⟨(some 20), .load true 4, [.t 2], none⟩,
  ⟨(some 21), .call fn_request_WriteReply, [.t 19, .t 20], none⟩]
def c_l09_RequestSames_r6 : List COper := a_l09_RequestSames_r6
instance : Reg c_l09_RequestSames_r6 a_l09_RequestSames_r6 3 := ⟨rfl, rfl⟩
@[simp] def a_l09_RequestSames_r7 : List COper := [
  ⟨(some 22), .mov, [.t 6], none⟩,
  ⟨(some 23), .load true 4, [.t 3], none⟩,
  ⟨(some 24), .call fn_request_WriteReply, [.t 22, .t 23], none⟩]
def c_l09_RequestSames_r7 : List COper := a_l09_RequestSames_r7
instance : Reg c_l09_RequestSames_r7 a_l09_RequestSames_r7 3 := ⟨rfl, rfl⟩
@[simp] def a_l09_RequestSames_r8 : List COper := [
  ⟨(some 25), .load true 4, [.t 2], none⟩,
  ⟨(some 26), .load true 4, [.t 3], none⟩,
  ⟨(some 27), .call fn_request_Same, [.t 25, .t 26], none⟩,
  ⟨(some 28), .mov, [.t 5], none⟩,
  ⟨(some 29), .call fn_code_Writer_Bytes, [.t 28], none⟩,
  ⟨(some 30), .convS, [.t 29], none⟩,
  ⟨(some 31), .mov, [.t 6], none⟩,
  ⟨(some 32), .call fn_code_Writer_Bytes, [.t 31], none⟩,
  ⟨(some 33), .convS, [.t 32], none⟩,
  ⟨(some 34), .bin .eql, [.t 30, .t 33], none⟩,
  ⟨(some 35), .eqb false, [.t 27, .t 34], none⟩,
  ⟨(some 36), .mov, [.t 35], none⟩,
  ⟨(some 37), .load true 4, [.t 2], (some (36, true))⟩,
  ⟨(some 38), .load true 4, [.t 3], (some (36, true))⟩,
  ⟨(some 39), .call fn_request_Same, [.t 37, .t 38], (some (36, true))⟩,
  ⟨(some 40), .load true 4, [.t 3], (some (36, true))⟩,
  ⟨(some 41), .load true 4, [.t 2], (some (36, true))⟩,
  ⟨(some 42), .call fn_request_Same, [.t 40, .t 41], (some (36, true))⟩,
  ⟨(some 43), .eqb false, [.t 39, .t 42], (some (36, true))⟩,
  ⟨(some 44), .pick, [.t 36, .t 43, .c (.bool false)], none⟩,
  ⟨(some 45), .mov, [.t 44], none⟩,
  ⟨(some 46), .load true 4, [.t 3], (some (45, true))⟩,
  ⟨(some 47), .load true 4, [.t 3], (some (45, true))⟩,
  ⟨(some 48), .call fn_request_Same, [.t 46, .t 47], (some (45, true))⟩,
  ⟨(some 49), .pick, [.t 45, .t 48, .c (.bool false)], none⟩,
  ⟨(some 4), .mov, [.t 49], none⟩]
def c_l09_RequestSames_r8 : List COper := a_l09_RequestSames_r8
instance : Reg c_l09_RequestSames_r8 a_l09_RequestSames_r8 26 := ⟨rfl, rfl⟩
@[simp] def c_l09_RequestSames : CCode :=
  .seq (.region c_l09_RequestSames_r0 none [2, 3]) (.seq (.seq (.region c_l09_RequestSames_r1 none [2, 3, 8]) (.cond (.t 8) (.seq (.region c_l09_RequestSames_r2 none [4]) (.ret)) (.skip))) (.seq (.seq (.region c_l09_RequestSames_r3 none [2, 3, 14]) (.cond (.t 14) (.seq (.region c_l09_RequestSames_r4 none [4]) (.ret)) (.skip))) (.seq (.region c_l09_RequestSames_r5 none [2, 3, 5, 6]) (.seq (.region c_l09_RequestSames_r6 none [2, 3, 5, 6]) (.seq (.region c_l09_RequestSames_r7 none [2, 3, 5, 6]) (.seq (.region c_l09_RequestSames_r8 (some ([0, 0, 3, 0, 15, 31, 0, 95, 223, 511, 1023, 2047, 4095, 4095, 16383, 4095, 4095, 131071, 262143, 524287, 1048575, 2097151, 2097151, 8388607, 16777215, 33554431], [(5, 7), (14, 15), (14, 16)])) [4]) (.ret)))))))
@[simp] def R_l09_RequestSames : List CRes := [.tmp 4]
theorem k_l09_RequestSames : chkFn Try.prog fn_l09_RequestSames c_l09_RequestSames R_l09_RequestSames 2 = true := by kernel_rfl
/-! wapentake/wapentakelaw12.BlockFollows -/
@[simp] def a_l12_BlockFollows_r0 : List COper := [
  ⟨(some 5), .box, [.t 0], none⟩,
  ⟨(some 8), .box, [.t 3], none⟩,
  ⟨(some 9), .box, [.t 4], none⟩,
  ⟨(some 10), .mov, [.c (.bool false)], none⟩]
def c_l12_BlockFollows_r0 : List COper := a_l12_BlockFollows_r0
instance : Reg c_l12_BlockFollows_r0 a_l12_BlockFollows_r0 4 := ⟨rfl, rfl⟩
@[simp] def a_l12_BlockFollows_r1 : List COper := [
  ⟨(some 12), .call fn_l12_alive, [], none⟩,
  ⟨(some 13), .not, [.t 12], none⟩]
def c_l12_BlockFollows_r1 : List COper := a_l12_BlockFollows_r1
instance : Reg c_l12_BlockFollows_r1 a_l12_BlockFollows_r1 2 := ⟨rfl, rfl⟩
@[simp] def a_l12_BlockFollows_r2 : List COper := [
  ⟨(some 10), .mov, [.c (.bool false)], none⟩]
def c_l12_BlockFollows_r2 : List COper := a_l12_BlockFollows_r2
instance : Reg c_l12_BlockFollows_r2 a_l12_BlockFollows_r2 1 := ⟨rfl, rfl⟩
@[simp] def a_l12_BlockFollows_r3 : List COper := [
  ⟨(some 14), .load true 99, [.t 5], none⟩,
  ⟨(some 15), .call fn_r12_Great, [.t 14, .c (.int .i64 8192)], none⟩]
def c_l12_BlockFollows_r3 : List COper := a_l12_BlockFollows_r3
instance : Reg c_l12_BlockFollows_r3 a_l12_BlockFollows_r3 2 := ⟨rfl, rfl⟩
@[simp] def a_l12_BlockFollows_r4 : List COper := [
  ⟨(some 10), .mov, [.c (.bool true)], none⟩]
def c_l12_BlockFollows_r4 : List COper := a_l12_BlockFollows_r4
instance : Reg c_l12_BlockFollows_r4 a_l12_BlockFollows_r4 1 := ⟨rfl, rfl⟩
@[simp] def a_l12_BlockFollows_r5 : List COper := [
  ⟨(some 16), .load true 99, [.t 5], none⟩,
  ⟨(some 17), .call fn_r12_Good, [.t 16], none⟩,
  ⟨(some 18), .mov, [.t 17], none⟩,
  ⟨(some 19), .faddr 0 1 false, [.t 5], (some (18, true))⟩,
  ⟨(some 20), .load false 1, [.t 19], (some (18, true))⟩,
  ⟨(some 21), .mov, [.t 1], (some (18, true))⟩,
  ⟨(some 22), .bin .eql, [.t 20, .t 21], (some (18, true))⟩,
  ⟨(some 23), .pick, [.t 18, .t 22, .c (.bool false)], none⟩,
  ⟨(some 24), .mov, [.t 23], none⟩,
  ⟨(some 25), .faddr 1 1 false, [.t 5], (some (24, true))⟩,
  ⟨(some 26), .load false 1, [.t 25], (some (24, true))⟩,
  ⟨(some 27), .mov, [.t 2], (some (24, true))⟩,
  ⟨(some 28), .bin .eql, [.t 26, .t 27], (some (24, true))⟩,
  ⟨(some 29), .pick, [.t 24, .t 28, .c (.bool false)], none⟩,
  ⟨(some 30), .mov, [.t 29], none⟩,
  ⟨(some 31), .faddr 2 32 true, [.t 5], (some (30, true))⟩,
  ⟨(some 32), .load true 32, [.t 31], (some (30, true))⟩,
  ⟨(some 33), .load true 32, [.t 8], (some (30, true))⟩,
  ⟨(some 34), .eqa false .u8 32, [.t 32, .t 33], (some (30, true))⟩,
  ⟨(some 35), .pick, [.t 30, .t 34, .c (.bool false)], none⟩,
  ⟨(some 36), .mov, [.t 35], none⟩,
  ⟨(some 37), .faddr 34 32 true, [.t 5], (some (36, true))⟩,
  ⟨(some 38), .load true 32, [.t 37], (some (36, true))⟩,
  ⟨(some 39), .load true 32, [.t 9], (some (36, true))⟩,
  ⟨(some 40), .eqa false .u8 32, [.t 38, .t 39], (some (36, true))⟩,
  ⟨(some 41), .pick, [.t 36, .t 40, .c (.bool false)], none⟩,
  ⟨(some 11), .mov, [.t 41], none⟩]
def c_l12_BlockFollows_r5 : List COper := a_l12_BlockFollows_r5
instance : Reg c_l12_BlockFollows_r5 a_l12_BlockFollows_r5 27 := ⟨rfl, rfl⟩
@[simp] def a_l12_BlockFollows_r6 : List COper := [
  ⟨(some 42), .load true 99, [.t 5], none⟩,
  ⟨(some 43), .mov, [.t 1], none⟩,
  ⟨(some 44), .mov, [.t 2], none⟩,
  ⟨(some 45), .load true 32, [.t 8], none⟩,
  ⟨(some 46), .load true 32, [.t 9], none⟩,
  ⟨(some 47), .call fn_block_Follows, [.t 42, .t 43, .t 44, .t 45, .t 46], none⟩,
  ⟨(some 48), .mov, [.t 11], none⟩,
  ⟨(some 49), .eqb false, [.t 47, .t 48], none⟩,
  ⟨(some 50), .mov, [.t 49], none⟩,
  ⟨(some 51), .load true 99, [.t 5], (some (50, true))⟩,
  ⟨(some 52), .faddr 0 1 false, [.t 5], (some (50, true))⟩,
  ⟨(some 53), .load false 1, [.t 52], (some (50, true))⟩,
  ⟨(some 54), .faddr 1 1 false, [.t 5], (some (50, true))⟩,
  ⟨(some 55), .load false 1, [.t 54], (some (50, true))⟩,
  ⟨(some 56), .faddr 2 32 true, [.t 5], (some (50, true))⟩,
  ⟨(some 57), .load true 32, [.t 56], (some (50, true))⟩,
  ⟨(some 58), .faddr 34 32 true, [.t 5], (some (50, true))⟩,
  ⟨(some 59), .load true 32, [.t 58], (some (50, true))⟩,
  ⟨(some 60), .call fn_block_Follows, [.t 51, .t 53, .t 55, .t 57, .t 59], (some (50, true))⟩,
  ⟨(some 61), .load true 99, [.t 5], (some (50, true))⟩,
  ⟨(some 62), .call fn_r12_Good, [.t 61], (some (50, true))⟩,
  ⟨(some 63), .eqb false, [.t 60, .t 62], (some (50, true))⟩,
  ⟨(some 64), .pick, [.t 50, .t 63, .c (.bool false)], none⟩,
  ⟨(some 10), .mov, [.t 64], none⟩]
def c_l12_BlockFollows_r6 : List COper := a_l12_BlockFollows_r6
instance : Reg c_l12_BlockFollows_r6 a_l12_BlockFollows_r6 24 := ⟨rfl, rfl⟩
@[simp] def c_l12_BlockFollows : CCode :=
  .seq (.region c_l12_BlockFollows_r0 none [1, 2, 5, 8, 9]) (.seq (.seq (.region c_l12_BlockFollows_r1 none [1, 2, 5, 8, 9, 13]) (.cond (.t 13) (.seq (.region c_l12_BlockFollows_r2 none [10]) (.ret)) (.skip))) (.seq (.seq (.region c_l12_BlockFollows_r3 none [1, 2, 5, 8, 9, 15]) (.cond (.t 15) (.seq (.region c_l12_BlockFollows_r4 none [10]) (.ret)) (.skip))) (.seq (.region c_l12_BlockFollows_r5 none [1, 2, 5, 8, 9, 11]) (.seq (.region c_l12_BlockFollows_r6 (some ([0, 0, 0, 0, 0, 31, 0, 127, 255, 511, 511, 1535, 511, 4607, 511, 16895, 511, 66047, 262143, 511, 1048575, 2097151, 4194303, 8388607], [(18, 19)])) [10]) (.ret)))))
@[simp] def R_l12_BlockFollows : List CRes := [.tmp 10]
theorem k_l12_BlockFollows : chkFn Try.prog fn_l12_BlockFollows c_l12_BlockFollows R_l12_BlockFollows 5 = true := by kernel_rfl
/-! wapentake/wapentakelaw09.RequestAnswers -/
@[simp] def a_l09_RequestAnswers_r0 : List COper := [
  ⟨(some 3), .box, [.t 0], none⟩,
  ⟨(some 4), .box, [.t 1], none⟩,
  ⟨(some 6), .mov, [.c (.bool false)], none⟩]
def c_l09_RequestAnswers_r0 : List COper := a_l09_RequestAnswers_r0
instance : Reg c_l09_RequestAnswers_r0 a_l09_RequestAnswers_r0 3 := ⟨rfl, rfl⟩
@[simp] def a_l09_RequestAnswers_r1 : List COper := [
  ⟨(some 14), .call fn_l09_alive, [], none⟩,
  ⟨(some 15), .not, [.t 14], none⟩]
def c_l09_RequestAnswers_r1 : List COper := a_l09_RequestAnswers_r1
instance : Reg c_l09_RequestAnswers_r1 a_l09_RequestAnswers_r1 2 := ⟨rfl, rfl⟩
@[simp] def a_l09_RequestAnswers_r2 : List COper := [
  ⟨(some 6), .mov, [.c (.bool false)], none⟩]
def c_l09_RequestAnswers_r2 : List COper := a_l09_RequestAnswers_r2
instance : Reg c_l09_RequestAnswers_r2 a_l09_RequestAnswers_r2 1 := ⟨rfl, rfl⟩
@[simp] def a_l09_RequestAnswers_r3 : List COper := [
  ⟨(some 16), .load true 4, [.t 3], none⟩,
  ⟨(some 17), .call fn_l09_large, [.t 16], none⟩,
  ⟨(some 18), .mov, [.t 17], none⟩,
  ⟨(some 19), .load true 4, [.t 4], (some (18, false))⟩,
  ⟨(some 20), .call fn_l09_large, [.t 19], (some (18, false))⟩,
  ⟨(some 21), .pick, [.t 18, .c (.bool true), .t 20], none⟩,
  ⟨(some 22), .mov, [.t 21], none⟩,
  ⟨(some 23), .mov, [.t 2], (some (22, false))⟩,
  ⟨(some 24), .len, [.t 23], (some (22, false))⟩,
  ⟨(some 25), .bin .gtr, [.t 24, .c (.int .i64 16384)], (some (22, false))⟩,
  ⟨(some 26), .pick, [.t 22, .c (.bool true), .t 25], none⟩]
def c_l09_RequestAnswers_r3 : List COper := a_l09_RequestAnswers_r3
instance : Reg c_l09_RequestAnswers_r3 a_l09_RequestAnswers_r3 11 := ⟨rfl, rfl⟩
@[simp] def a_l09_RequestAnswers_r4 : List COper := [
  ⟨(some 6), .mov, [.c (.bool true)], none⟩]
def c_l09_RequestAnswers_r4 : List COper := a_l09_RequestAnswers_r4
instance : Reg c_l09_RequestAnswers_r4 a_l09_RequestAnswers_r4 1 := ⟨rfl, rfl⟩
@[simp] def a_l09_RequestAnswers_r5 : List COper := [
  ⟨(some 27), .build [.v (.slice none 0 0)] [], [], none⟩,
  ⟨(some 28), .box, [.t 27], none⟩,
  ⟨(some 7), .mov, [.t 28], none⟩]
def c_l09_RequestAnswers_r5 : List COper := a_l09_RequestAnswers_r5
instance : Reg c_l09_RequestAnswers_r5 a_l09_RequestAnswers_r5 3 := ⟨rfl, rfl⟩
@[simp] def a_l09_RequestAnswers_r6 : List COper := [
  ⟨(some 29), .mov, [.t 7], none⟩,
  ⟨(some 30), .load true 4, [.t 3], none⟩,
  ⟨(some 31), .call fn_request_WriteReply, [.t 29, .t 30], none⟩]
def c_l09_RequestAnswers_r6 : List COper := a_l09_RequestAnswers_r6
instance : Reg c_l09_RequestAnswers_r6 a_l09_RequestAnswers_r6 3 := ⟨rfl, rfl⟩
@[simp] def a_l09_RequestAnswers_r7 : List COper := [
  ⟨(some 32), .mov, [.t 7], none⟩,
  ⟨(some 33), .call fn_code_Writer_Bytes, [.t 32], none⟩,
  ⟨(some 34), .convS, [.t 33], none⟩,
  ⟨(some 35), .load true 4, [.t 3], none⟩,
  ⟨(some 36), .call fn_r09_ReplyBytes, [.t 35], none⟩,
  ⟨(some 37), .bin .neq, [.t 34, .t 36], none⟩,
  ⟨(some 38), .mov, [.t 37], none⟩,
  ⟨(some 39), .load true 4, [.t 3], (some (38, false))⟩,
  ⟨(some 40), .load true 4, [.t 4], (some (38, false))⟩,
  ⟨(some 41), .call fn_request_Same, [.t 39, .t 40], (some (38, false))⟩,
  ⟨(some 42), .load true 4, [.t 3], (some (38, false))⟩,
  ⟨(some 43), .load true 4, [.t 4], (some (38, false))⟩,
  ⟨(some 44), .call fn_r09_Same, [.t 42, .t 43], (some (38, false))⟩,
  ⟨(some 45), .eqb true, [.t 41, .t 44], (some (38, false))⟩,
  ⟨(some 46), .pick, [.t 38, .c (.bool true), .t 45], none⟩,
  ⟨(some 47), .mov, [.t 46], none⟩,
  ⟨(some 48), .load true 4, [.t 3], (some (47, false))⟩,
  ⟨(some 49), .load true 4, [.t 3], (some (47, false))⟩,
  ⟨(some 50), .call fn_request_Same, [.t 48, .t 49], (some (47, false))⟩,
  ⟨(some 51), .not, [.t 50], (some (47, false))⟩,
  ⟨(some 52), .pick, [.t 47, .c (.bool true), .t 51], none⟩]
def c_l09_RequestAnswers_r7 : List COper := a_l09_RequestAnswers_r7
instance : Reg c_l09_RequestAnswers_r7 a_l09_RequestAnswers_r7 21 := ⟨rfl, rfl⟩
@[simp] def a_l09_RequestAnswers_r8 : List COper := [
  ⟨(some 6), .mov, [.c (.bool false)], none⟩]
def c_l09_RequestAnswers_r8 : List COper := a_l09_RequestAnswers_r8
instance : Reg c_l09_RequestAnswers_r8 a_l09_RequestAnswers_r8 1 := ⟨rfl, rfl⟩
@[simp] def a_l09_RequestAnswers_r9 : List COper := [
  ⟨(some 53), .mov, [.t 2], none⟩,
  ⟨(some 54), .convS, [.t 53], none⟩,
  ⟨(some 55), .load true 4, [.t 3], none⟩,
  ⟨(some 56), .call fn_r09_ReplyBytes, [.t 55], none⟩,
  ⟨(some 57), .buildA 1 (rep 2 (.v (.string (mkS [])))) [0, 1], [.t 54, .t 56], none⟩,
  ⟨(some 58), .mov, [.c (.int .i64 0)], none⟩]
def c_l09_RequestAnswers_r9 : List COper := a_l09_RequestAnswers_r9
instance : Reg c_l09_RequestAnswers_r9 a_l09_RequestAnswers_r9 6 := ⟨rfl, rfl⟩
@[simp] def a_l09_RequestAnswers_r10 : List COper := [
  ⟨(some 59), .bin .lss, [.t 58, .c (.int .i64 2)], none⟩]
def c_l09_RequestAnswers_r10 : List COper := a_l09_RequestAnswers_r10
instance : Reg c_l09_RequestAnswers_r10 a_l09_RequestAnswers_r10 1 := ⟨rfl, rfl⟩
@[simp] def a_l09_RequestAnswers_r11 : List COper := [
  ⟨(some 60), .idx false 2 1, [.t 57, .t 58], none⟩,
  ⟨(some 9), .mov, [.t 60], none⟩]
def c_l09_RequestAnswers_r11 : List COper := a_l09_RequestAnswers_r11
instance : Reg c_l09_RequestAnswers_r11 a_l09_RequestAnswers_r11 2 := ⟨rfl, rfl⟩
@[simp] def a_l09_RequestAnswers_r12 : List COper := [
  ⟨(some 61), .mov, [.t 9], none⟩,
  ⟨(some 62), .convB, [.t 61], none⟩,
  ⟨(some 63), .call fn_code_Read, [.t 62], none⟩,
  ⟨(some 64), .mov, [.t 9], none⟩,
  ⟨(some 65), .build [.v (.string (mkS [])), .v (.bool false)] [0], [.t 64], none⟩,
  ⟨(some 66), .box, [.t 65], none⟩,
  ⟨(some 10), .mov, [.t 63], none⟩,
  ⟨(some 11), .mov, [.t 66], none⟩]
def c_l09_RequestAnswers_r12 : List COper := a_l09_RequestAnswers_r12
instance : Reg c_l09_RequestAnswers_r12 a_l09_RequestAnswers_r12 8 := ⟨rfl, rfl⟩
@[simp] def a_l09_RequestAnswers_r13 : List COper := [
  ⟨(some 67), .mov, [.t 10], none⟩,
  ⟨(some 68), .call fn_request_ReadReply, [.t 67], none⟩,
  ⟨(some 69), .mov, [.t 11], none⟩,
  ⟨(some 70), .call fn_r09_ReadReply, [.t 69], none⟩,
  ⟨(some 12), .alloc (.node [.v (.int .i64 0), .v (.int .i64 0), .v (.int .i64 0), .v (.slice none 0 0)]), [], none⟩,
  ⟨(some 13), .alloc (.node [.v (.int .i64 0), .v (.int .i64 0), .v (.int .i64 0), .v (.slice none 0 0)]), [], none⟩,
  ⟨none, .store true 4, [.t 12, .t 68], none⟩,
  ⟨none, .store true 4, [.t 13, .t 70], none⟩]
def c_l09_RequestAnswers_r13 : List COper := a_l09_RequestAnswers_r13
instance : Reg c_l09_RequestAnswers_r13 a_l09_RequestAnswers_r13 8 := ⟨rfl, rfl⟩
@[simp] def a_l09_RequestAnswers_r14 : List COper := [
  ⟨(some 71), .load true 4, [.t 12], none⟩,
  ⟨(some 72), .load true 4, [.t 13], none⟩,
  ⟨(some 73), .call fn_r09_Same, [.t 71, .t 72], none⟩,
  ⟨(some 74), .not, [.t 73], none⟩,
  ⟨(some 75), .mov, [.t 74], none⟩,
  ⟨(some 76), .mov, [.t 10], (some (75, false))⟩,
  ⟨(some 77), .call fn_code_Reader_Good, [.t 76], (some (75, false))⟩,
  ⟨(some 78), .mov, [.t 11], (some (75, false))⟩,
  ⟨(some 79), .call fn_r01_Reader_Good, [.t 78], (some (75, false))⟩,
  ⟨(some 80), .eqb true, [.t 77, .t 79], (some (75, false))⟩,
  ⟨(some 81), .pick, [.t 75, .c (.bool true), .t 80], none⟩,
  ⟨(some 82), .mov, [.t 81], none⟩,
  ⟨(some 83), .mov, [.t 10], (some (82, false))⟩,
  ⟨(some 84), .call fn_code_Reader_End, [.t 83], (some (82, false))⟩,
  ⟨(some 85), .mov, [.t 11], (some (82, false))⟩,
  ⟨(some 86), .call fn_r01_Reader_End, [.t 85], (some (82, false))⟩,
  ⟨(some 87), .eqb true, [.t 84, .t 86], (some (82, false))⟩,
  ⟨(some 88), .pick, [.t 82, .c (.bool true), .t 87], none⟩]
def c_l09_RequestAnswers_r14 : List COper := a_l09_RequestAnswers_r14
instance : Reg c_l09_RequestAnswers_r14 a_l09_RequestAnswers_r14 18 := ⟨rfl, rfl⟩
@[simp] def a_l09_RequestAnswers_r15 : List COper := [
  ⟨(some 6), .mov, [.c (.bool false)], none⟩]
def c_l09_RequestAnswers_r15 : List COper := a_l09_RequestAnswers_r15
instance : Reg c_l09_RequestAnswers_r15 a_l09_RequestAnswers_r15 1 := ⟨rfl, rfl⟩
@[simp] def a_l09_RequestAnswers_r16 : List COper := [
  ⟨(some 89), .bin .add, [.t 58, .c (.int .i64 1)], none⟩,
  ⟨(some 58), .mov, [.t 89], none⟩]
def c_l09_RequestAnswers_r16 : List COper := a_l09_RequestAnswers_r16
instance : Reg c_l09_RequestAnswers_r16 a_l09_RequestAnswers_r16 2 := ⟨rfl, rfl⟩
@[simp] def a_l09_RequestAnswers_r17 : List COper := [
  ⟨(some 6), .mov, [.c (.bool true)], none⟩]
def c_l09_RequestAnswers_r17 : List COper := a_l09_RequestAnswers_r17
instance : Reg c_l09_RequestAnswers_r17 a_l09_RequestAnswers_r17 1 := ⟨rfl, rfl⟩
@[simp] def c_l09_RequestAnswers : CCode :=
  .seq (.region c_l09_RequestAnswers_r0 none [2, 3, 4]) (.seq (.seq (.region c_l09_RequestAnswers_r1 none [2, 3, 4, 15]) (.cond (.t 15) (.seq (.region c_l09_RequestAnswers_r2 none [6]) (.ret)) (.skip))) (.seq (.seq (.region c_l09_RequestAnswers_r3 none [2, 3, 4, 26]) (.cond (.t 26) (.seq (.region c_l09_RequestAnswers_r4 none [6]) (.ret)) (.skip))) (.seq (.region c_l09_RequestAnswers_r5 none [2, 3, 4, 7]) (.seq (.region c_l09_RequestAnswers_r6 none [2, 3, 4, 7]) (.seq (.seq (.region c_l09_RequestAnswers_r7 (some ([0, 1, 3, 0, 11, 31, 63, 127, 127, 511, 127, 127, 4095, 8191, 16383, 32767, 65535, 65535, 262143, 524287, 1048575], [(1, 3), (2, 4), (9, 10), (9, 11)])) [2, 3, 52]) (.cond (.t 52) (.seq (.region c_l09_RequestAnswers_r8 none [6]) (.ret)) (.skip))) (.seq (.seq (.region c_l09_RequestAnswers_r9 (some ([0, 1, 0, 4, 15, 0], [(1, 3)])) [57, 58]) (.block 0 (.loop (.seq (.region c_l09_RequestAnswers_r10 none [57, 58, 59]) (.seq (.cond (.t 59) (.skip) (.exit 0)) (.seq (.block 1 (.seq (.region c_l09_RequestAnswers_r11 none [9, 57, 58]) (.seq (.region c_l09_RequestAnswers_r12 none [10, 11, 57, 58]) (.seq (.region c_l09_RequestAnswers_r13 none [10, 11, 12, 13, 57, 58]) (.seq (.region c_l09_RequestAnswers_r14 none [57, 58, 88]) (.cond (.t 88) (.seq (.region c_l09_RequestAnswers_r15 none [6]) (.ret)) (.skip))))))) (.region c_l09_RequestAnswers_r16 none [57, 58]))))))) (.seq (.region c_l09_RequestAnswers_r17 none [6]) (.ret))))))))
@[simp] def R_l09_RequestAnswers : List CRes := [.tmp 6]
theorem k_l09_RequestAnswers : chkFn Try.prog fn_l09_RequestAnswers c_l09_RequestAnswers R_l09_RequestAnswers 3 = true := by kernel_rfl
/-! wapentake/wapentakelaw09.RequestReads -/
@[simp] def a_l09_RequestReads_r0 : List COper := [
  ⟨(some 2), .box, [.t 0], none⟩,
  ⟨(some 4), .mov, [.c (.bool false)], none⟩]
def c_l09_RequestReads_r0 : List COper := a_l09_RequestReads_r0
instance : Reg c_l09_RequestReads_r0 a_l09_RequestReads_r0 2 := ⟨rfl, rfl⟩
@[simp] def a_l09_RequestReads_r1 : List COper := [
  ⟨(some 9), .call fn_l09_alive, [], none⟩,
  ⟨(some 10), .not, [.t 9], none⟩]
def c_l09_RequestReads_r1 : List COper := a_l09_RequestReads_r1
instance : Reg c_l09_RequestReads_r1 a_l09_RequestReads_r1 2 := ⟨rfl, rfl⟩
@[simp] def a_l09_RequestReads_r2 : List COper := [
  ⟨(some 4), .mov, [.c (.bool false)], none⟩]
def c_l09_RequestReads_r2 : List COper := a_l09_RequestReads_r2
instance : Reg c_l09_RequestReads_r2 a_l09_RequestReads_r2 1 := ⟨rfl, rfl⟩
@[simp] def a_l09_RequestReads_r3 : List COper := [
  ⟨(some 11), .load true 42, [.t 2], none⟩,
  ⟨(some 12), .call fn_l09_long, [.t 11], none⟩,
  ⟨(some 13), .mov, [.t 12], none⟩,
  ⟨(some 14), .mov, [.t 1], (some (13, false))⟩,
  ⟨(some 15), .len, [.t 14], (some (13, false))⟩,
  ⟨(some 16), .bin .gtr, [.t 15, .c (.int .i64 8192)], (some (13, false))⟩,
  ⟨(some 17), .pick, [.t 13, .c (.bool true), .t 16], none⟩]
def c_l09_RequestReads_r3 : List COper := a_l09_RequestReads_r3
instance : Reg c_l09_RequestReads_r3 a_l09_RequestReads_r3 7 := ⟨rfl, rfl⟩
@[simp] def a_l09_RequestReads_r4 : List COper := [
  ⟨(some 4), .mov, [.c (.bool true)], none⟩]
def c_l09_RequestReads_r4 : List COper := a_l09_RequestReads_r4
instance : Reg c_l09_RequestReads_r4 a_l09_RequestReads_r4 1 := ⟨rfl, rfl⟩
@[simp] def a_l09_RequestReads_r5 : List COper := [
  ⟨(some 18), .mov, [.t 1], none⟩,
  ⟨(some 19), .call fn_code_Read, [.t 18], none⟩,
  ⟨(some 20), .mov, [.t 1], none⟩,
  ⟨(some 21), .convS, [.t 20], none⟩,
  ⟨(some 22), .build [.v (.string (mkS [])), .v (.bool false)] [0], [.t 21], none⟩,
  ⟨(some 23), .box, [.t 22], none⟩,
  ⟨(some 5), .mov, [.t 19], none⟩,
  ⟨(some 6), .mov, [.t 23], none⟩]
def c_l09_RequestReads_r5 : List COper := a_l09_RequestReads_r5
instance : Reg c_l09_RequestReads_r5 a_l09_RequestReads_r5 8 := ⟨rfl, rfl⟩
@[simp] def a_l09_RequestReads_r6 : List COper := [
  ⟨(some 24), .mov, [.t 5], none⟩,
  ⟨(some 25), .call fn_request_Read, [.t 24], none⟩,
  ⟨(some 26), .mov, [.t 6], none⟩,
  ⟨(some 27), .call fn_r09_Read, [.t 26], none⟩,
  ⟨(some 28), .eqs true (.st [.int .i64, .int .i64, .st [.int .i64, .str, .str, .str, .st [.int .i64, .int .i64, .int .i64, .st [.ints .u8 32, .int .i64]]]]), [.t 25, .t 27], none⟩,
  ⟨(some 29), .mov, [.t 28], none⟩,
  ⟨(some 30), .mov, [.t 5], (some (29, false))⟩,
  ⟨(some 31), .call fn_code_Reader_Good, [.t 30], (some (29, false))⟩,
  ⟨(some 32), .mov, [.t 6], (some (29, false))⟩,
  ⟨(some 33), .call fn_r01_Reader_Good, [.t 32], (some (29, false))⟩,
  ⟨(some 34), .eqb true, [.t 31, .t 33], (some (29, false))⟩,
  ⟨(some 35), .pick, [.t 29, .c (.bool true), .t 34], none⟩,
  ⟨(some 36), .mov, [.t 35], none⟩,
  ⟨(some 37), .mov, [.t 5], (some (36, false))⟩,
  ⟨(some 38), .call fn_code_Reader_End, [.t 37], (some (36, false))⟩,
  ⟨(some 39), .mov, [.t 6], (some (36, false))⟩,
  ⟨(some 40), .call fn_r01_Reader_End, [.t 39], (some (36, false))⟩,
  ⟨(some 41), .eqb true, [.t 38, .t 40], (some (36, false))⟩,
  ⟨(some 42), .pick, [.t 36, .c (.bool true), .t 41], none⟩]
def c_l09_RequestReads_r6 : List COper := a_l09_RequestReads_r6
instance : Reg c_l09_RequestReads_r6 a_l09_RequestReads_r6 19 := ⟨rfl, rfl⟩
@[simp] def a_l09_RequestReads_r7 : List COper := [
  ⟨(some 4), .mov, [.c (.bool false)], none⟩]
def c_l09_RequestReads_r7 : List COper := a_l09_RequestReads_r7
instance : Reg c_l09_RequestReads_r7 a_l09_RequestReads_r7 1 := ⟨rfl, rfl⟩
@[simp] def a_l09_RequestReads_r8 : List COper := [
  ⟨(some 43), .build [.v (.slice none 0 0)] [], [], none⟩,
  ⟨(some 44), .box, [.t 43], none⟩,
  ⟨(some 7), .mov, [.t 44], none⟩]
def c_l09_RequestReads_r8 : List COper := a_l09_RequestReads_r8
instance : Reg c_l09_RequestReads_r8 a_l09_RequestReads_r8 3 := ⟨rfl, rfl⟩
@[simp] def a_l09_RequestReads_r9 : List COper := [
  ⟨(some 45), .mov, [.t 7], none⟩,
  ⟨(some 46), .load true 42, [.t 2], none⟩,
  ⟨(some 47), .call fn_request_Write, [.t 45, .t 46], none⟩]
def c_l09_RequestReads_r9 : List COper := a_l09_RequestReads_r9
instance : Reg c_l09_RequestReads_r9 a_l09_RequestReads_r9 3 := ⟨rfl, rfl⟩
@[simp] def a_l09_RequestReads_r10 : List COper := [
  ⟨(some 48), .mov, [.t 7], none⟩,
  ⟨(some 49), .call fn_code_Writer_Bytes, [.t 48], none⟩,
  ⟨(some 50), .call fn_code_Read, [.t 49], none⟩,
  ⟨(some 5), .mov, [.t 50], none⟩]
def c_l09_RequestReads_r10 : List COper := a_l09_RequestReads_r10
instance : Reg c_l09_RequestReads_r10 a_l09_RequestReads_r10 4 := ⟨rfl, rfl⟩
@[simp] def a_l09_RequestReads_r11 : List COper := [
  ⟨(some 51), .mov, [.t 5], none⟩,
  ⟨(some 52), .call fn_request_Read, [.t 51], none⟩,
  ⟨(some 8), .alloc (.node [.v (.int .i64 0), .v (.int .i64 0), .node [.v (.int .i64 0), .v (.string (mkS [])), .v (.string (mkS [])), .v (.string (mkS [])), .node [.v (.int .i64 0), .v (.int .i64 0), .v (.int .i64 0), .node [.arr 1 (rep 32 (.v (.int .u8 0))), .v (.int .i64 0)]]]]), [], none⟩,
  ⟨none, .store true 42, [.t 8, .t 52], none⟩]
def c_l09_RequestReads_r11 : List COper := a_l09_RequestReads_r11
instance : Reg c_l09_RequestReads_r11 a_l09_RequestReads_r11 4 := ⟨rfl, rfl⟩
@[simp] def a_l09_RequestReads_r12 : List COper := [
  ⟨(some 53), .mov, [.t 5], none⟩,
  ⟨(some 54), .call fn_code_Reader_End, [.t 53], none⟩,
  ⟨(some 55), .load true 42, [.t 2], none⟩,
  ⟨(some 56), .call fn_r09_Good, [.t 55], none⟩,
  ⟨(some 57), .eqb false, [.t 54, .t 56], none⟩,
  ⟨(some 58), .mov, [.t 57], none⟩,
  ⟨(some 59), .mov, [.t 5], (some (58, true))⟩,
  ⟨(some 60), .call fn_code_Reader_End, [.t 59], (some (58, true))⟩,
  ⟨(some 61), .not, [.t 60], (some (58, true))⟩,
  ⟨(some 62), .mov, [.t 61], (some (58, true))⟩,
  ⟨(some 63), .load true 42, [.t 8], (some (62, false))⟩,
  ⟨(some 64), .load true 42, [.t 2], (some (62, false))⟩,
  ⟨(some 65), .eqs false (.st [.int .i64, .int .i64, .st [.int .i64, .str, .str, .str, .st [.int .i64, .int .i64, .int .i64, .st [.ints .u8 32, .int .i64]]]]), [.t 63, .t 64], (some (62, false))⟩,
  ⟨(some 66), .pick, [.t 62, .c (.bool true), .t 65], (some (58, true))⟩,
  ⟨(some 67), .pick, [.t 58, .t 66, .c (.bool false)], none⟩,
  ⟨(some 4), .mov, [.t 67], none⟩]
def c_l09_RequestReads_r12 : List COper := a_l09_RequestReads_r12
instance : Reg c_l09_RequestReads_r12 a_l09_RequestReads_r12 16 := ⟨rfl, rfl⟩
@[simp] def c_l09_RequestReads : CCode :=
  .seq (.region c_l09_RequestReads_r0 none [1, 2]) (.seq (.seq (.region c_l09_RequestReads_r1 none [1, 2, 10]) (.cond (.t 10) (.seq (.region c_l09_RequestReads_r2 none [4]) (.ret)) (.skip))) (.seq (.seq (.region c_l09_RequestReads_r3 none [1, 2, 17]) (.cond (.t 17) (.seq (.region c_l09_RequestReads_r4 none [4]) (.ret)) (.skip))) (.seq (.region c_l09_RequestReads_r5 (some ([0, 1, 0, 4, 12, 28, 3, 127], [(1, 3), (1, 5)])) [2, 5, 6]) (.seq (.seq (.region c_l09_RequestReads_r6 none [2, 42]) (.cond (.t 42) (.seq (.region c_l09_RequestReads_r7 none [4]) (.ret)) (.skip))) (.seq (.region c_l09_RequestReads_r8 none [2, 7]) (.seq (.region c_l09_RequestReads_r9 none [2, 7]) (.seq (.region c_l09_RequestReads_r10 none [2, 5]) (.seq (.region c_l09_RequestReads_r11 none [2, 5, 8]) (.seq (.region c_l09_RequestReads_r12 (some ([0, 1, 0, 7, 15, 31, 63, 127, 255, 511, 1023, 1023, 4095, 8191, 16383, 32767], [(1, 2)])) [4]) (.ret))))))))))
@[simp] def R_l09_RequestReads : List CRes := [.tmp 4]
theorem k_l09_RequestReads : chkFn Try.prog fn_l09_RequestReads c_l09_RequestReads R_l09_RequestReads 2 = true := by kernel_rfl
/-! wapentake/wapentakelaw12.BlockReads -/
@[simp] def a_l12_BlockReads_r0 : List COper := [
  ⟨(some 2), .box, [.t 0], none⟩,
  ⟨(some 4), .mov, [.c (.bool false)], none⟩]
def c_l12_BlockReads_r0 : List COper := a_l12_BlockReads_r0
instance : Reg c_l12_BlockReads_r0 a_l12_BlockReads_r0 2 := ⟨rfl, rfl⟩
@[simp] def a_l12_BlockReads_r1 : List COper := [
  ⟨(some 9), .call fn_l12_alive, [], none⟩,
  ⟨(some 10), .not, [.t 9], none⟩]
def c_l12_BlockReads_r1 : List COper := a_l12_BlockReads_r1
instance : Reg c_l12_BlockReads_r1 a_l12_BlockReads_r1 2 := ⟨rfl, rfl⟩
@[simp] def a_l12_BlockReads_r2 : List COper := [
  ⟨(some 4), .mov, [.c (.bool false)], none⟩]
def c_l12_BlockReads_r2 : List COper := a_l12_BlockReads_r2
instance : Reg c_l12_BlockReads_r2 a_l12_BlockReads_r2 1 := ⟨rfl, rfl⟩
@[simp] def a_l12_BlockReads_r3 : List COper := [
  ⟨(some 11), .load true 99, [.t 2], none⟩,
  ⟨(some 12), .call fn_r12_Great, [.t 11, .c (.int .i64 8192)], none⟩,
  ⟨(some 13), .mov, [.t 12], none⟩,
  ⟨(some 14), .mov, [.t 1], (some (13, false))⟩,
  ⟨(some 15), .len, [.t 14], (some (13, false))⟩,
  ⟨(some 16), .bin .gtr, [.t 15, .c (.int .i64 8192)], (some (13, false))⟩,
  ⟨(some 17), .pick, [.t 13, .c (.bool true), .t 16], none⟩]
def c_l12_BlockReads_r3 : List COper := a_l12_BlockReads_r3
instance : Reg c_l12_BlockReads_r3 a_l12_BlockReads_r3 7 := ⟨rfl, rfl⟩
@[simp] def a_l12_BlockReads_r4 : List COper := [
  ⟨(some 4), .mov, [.c (.bool true)], none⟩]
def c_l12_BlockReads_r4 : List COper := a_l12_BlockReads_r4
instance : Reg c_l12_BlockReads_r4 a_l12_BlockReads_r4 1 := ⟨rfl, rfl⟩
@[simp] def a_l12_BlockReads_r5 : List COper := [
  ⟨(some 18), .mov, [.t 1], none⟩,
  ⟨(some 19), .call fn_code_Read, [.t 18], none⟩,
  ⟨(some 20), .mov, [.t 1], none⟩,
  ⟨(some 21), .convS, [.t 20], none⟩,
  ⟨(some 22), .build [.v (.string (mkS [])), .v (.bool false)] [0], [.t 21], none⟩,
  ⟨(some 23), .box, [.t 22], none⟩,
  ⟨(some 5), .mov, [.t 19], none⟩,
  ⟨(some 6), .mov, [.t 23], none⟩]
def c_l12_BlockReads_r5 : List COper := a_l12_BlockReads_r5
instance : Reg c_l12_BlockReads_r5 a_l12_BlockReads_r5 8 := ⟨rfl, rfl⟩
@[simp] def a_l12_BlockReads_r6 : List COper := [
  ⟨(some 24), .mov, [.t 5], none⟩,
  ⟨(some 25), .call fn_block_Read, [.t 24], none⟩,
  ⟨(some 26), .mov, [.t 6], none⟩,
  ⟨(some 27), .call fn_r12_Read, [.t 26], none⟩,
  ⟨(some 28), .call fn_r12_Same, [.t 25, .t 27], none⟩,
  ⟨(some 29), .not, [.t 28], none⟩,
  ⟨(some 30), .mov, [.t 29], none⟩,
  ⟨(some 31), .mov, [.t 5], (some (30, false))⟩,
  ⟨(some 32), .call fn_code_Reader_Good, [.t 31], (some (30, false))⟩,
  ⟨(some 33), .mov, [.t 6], (some (30, false))⟩,
  ⟨(some 34), .call fn_r01_Reader_Good, [.t 33], (some (30, false))⟩,
  ⟨(some 35), .eqb true, [.t 32, .t 34], (some (30, false))⟩,
  ⟨(some 36), .pick, [.t 30, .c (.bool true), .t 35], none⟩,
  ⟨(some 37), .mov, [.t 36], none⟩,
  ⟨(some 38), .mov, [.t 5], (some (37, false))⟩,
  ⟨(some 39), .call fn_code_Reader_End, [.t 38], (some (37, false))⟩,
  ⟨(some 40), .mov, [.t 6], (some (37, false))⟩,
  ⟨(some 41), .call fn_r01_Reader_End, [.t 40], (some (37, false))⟩,
  ⟨(some 42), .eqb true, [.t 39, .t 41], (some (37, false))⟩,
  ⟨(some 43), .pick, [.t 37, .c (.bool true), .t 42], none⟩]
def c_l12_BlockReads_r6 : List COper := a_l12_BlockReads_r6
instance : Reg c_l12_BlockReads_r6 a_l12_BlockReads_r6 20 := ⟨rfl, rfl⟩
@[simp] def a_l12_BlockReads_r7 : List COper := [
  ⟨(some 4), .mov, [.c (.bool false)], none⟩]
def c_l12_BlockReads_r7 : List COper := a_l12_BlockReads_r7
instance : Reg c_l12_BlockReads_r7 a_l12_BlockReads_r7 1 := ⟨rfl, rfl⟩
@[simp] def a_l12_BlockReads_r8 : List COper := [
  ⟨(some 44), .build [.v (.slice none 0 0)] [], [], none⟩,
  ⟨(some 45), .box, [.t 44], none⟩,
  ⟨(some 7), .mov, [.t 45], none⟩]
def c_l12_BlockReads_r8 : List COper := a_l12_BlockReads_r8
instance : Reg c_l12_BlockReads_r8 a_l12_BlockReads_r8 3 := ⟨rfl, rfl⟩
@[simp] def a_l12_BlockReads_r9 : List COper := [
  ⟨(some 46), .mov, [.t 7], none⟩,
  ⟨(some 47), .load true 99, [.t 2], none⟩,
  ⟨(some 48), .call fn_block_Write, [.t 46, .t 47], none⟩]
def c_l12_BlockReads_r9 : List COper := a_l12_BlockReads_r9
instance : Reg c_l12_BlockReads_r9 a_l12_BlockReads_r9 3 := ⟨rfl, rfl⟩
@[simp] def a_l12_BlockReads_r10 : List COper := [
  ⟨(some 49), .mov, [.t 7], none⟩,
  ⟨(some 50), .call fn_code_Writer_Bytes, [.t 49], none⟩,
  ⟨(some 51), .call fn_code_Read, [.t 50], none⟩,
  ⟨(some 5), .mov, [.t 51], none⟩]
def c_l12_BlockReads_r10 : List COper := a_l12_BlockReads_r10
instance : Reg c_l12_BlockReads_r10 a_l12_BlockReads_r10 4 := ⟨rfl, rfl⟩
@[simp] def a_l12_BlockReads_r11 : List COper := [
  ⟨(some 52), .mov, [.t 5], none⟩,
  ⟨(some 53), .call fn_block_Read, [.t 52], none⟩,
  ⟨(some 8), .alloc (.node [.v (.int .i64 0), .v (.int .i64 0), .arr 1 (rep 32 (.v (.int .u8 0))), .arr 1 (rep 32 (.v (.int .u8 0))), .arr 1 (rep 32 (.v (.int .u8 0))), .v (.slice none 0 0)]), [], none⟩,
  ⟨none, .store true 99, [.t 8, .t 53], none⟩]
def c_l12_BlockReads_r11 : List COper := a_l12_BlockReads_r11
instance : Reg c_l12_BlockReads_r11 a_l12_BlockReads_r11 4 := ⟨rfl, rfl⟩
@[simp] def a_l12_BlockReads_r12 : List COper := [
  ⟨(some 54), .mov, [.t 5], none⟩,
  ⟨(some 55), .call fn_code_Reader_End, [.t 54], none⟩,
  ⟨(some 56), .load true 99, [.t 2], none⟩,
  ⟨(some 57), .call fn_r12_Good, [.t 56], none⟩,
  ⟨(some 58), .eqb false, [.t 55, .t 57], none⟩,
  ⟨(some 59), .mov, [.t 58], none⟩,
  ⟨(some 60), .mov, [.t 5], (some (59, true))⟩,
  ⟨(some 61), .call fn_code_Reader_End, [.t 60], (some (59, true))⟩,
  ⟨(some 62), .not, [.t 61], (some (59, true))⟩,
  ⟨(some 63), .mov, [.t 62], (some (59, true))⟩,
  ⟨(some 64), .load true 99, [.t 8], (some (63, false))⟩,
  ⟨(some 65), .load true 99, [.t 2], (some (63, false))⟩,
  ⟨(some 66), .call fn_r12_Same, [.t 64, .t 65], (some (63, false))⟩,
  ⟨(some 67), .pick, [.t 63, .c (.bool true), .t 66], (some (59, true))⟩,
  ⟨(some 68), .pick, [.t 59, .t 67, .c (.bool false)], none⟩,
  ⟨(some 4), .mov, [.t 68], none⟩]
def c_l12_BlockReads_r12 : List COper := a_l12_BlockReads_r12
instance : Reg c_l12_BlockReads_r12 a_l12_BlockReads_r12 16 := ⟨rfl, rfl⟩
@[simp] def c_l12_BlockReads : CCode :=
  .seq (.region c_l12_BlockReads_r0 none [1, 2]) (.seq (.seq (.region c_l12_BlockReads_r1 none [1, 2, 10]) (.cond (.t 10) (.seq (.region c_l12_BlockReads_r2 none [4]) (.ret)) (.skip))) (.seq (.seq (.region c_l12_BlockReads_r3 none [1, 2, 17]) (.cond (.t 17) (.seq (.region c_l12_BlockReads_r4 none [4]) (.ret)) (.skip))) (.seq (.region c_l12_BlockReads_r5 (some ([0, 1, 0, 4, 12, 28, 3, 127], [(1, 3), (1, 5)])) [2, 5, 6]) (.seq (.seq (.region c_l12_BlockReads_r6 none [2, 43]) (.cond (.t 43) (.seq (.region c_l12_BlockReads_r7 none [4]) (.ret)) (.skip))) (.seq (.region c_l12_BlockReads_r8 none [2, 7]) (.seq (.region c_l12_BlockReads_r9 none [2, 7]) (.seq (.region c_l12_BlockReads_r10 none [2, 5]) (.seq (.region c_l12_BlockReads_r11 none [2, 5, 8]) (.seq (.region c_l12_BlockReads_r12 (some ([0, 1, 0, 7, 15, 31, 63, 127, 255, 511, 1023, 1023, 4095, 8191, 16383, 32767], [(1, 2)])) [4]) (.ret))))))))))
@[simp] def R_l12_BlockReads : List CRes := [.tmp 4]
theorem k_l12_BlockReads : chkFn Try.prog fn_l12_BlockReads c_l12_BlockReads R_l12_BlockReads 2 = true := by kernel_rfl
/-! wapentake/wapentakelaw12.BlockCuts -/
@[simp] def a_l12_BlockCuts_r0 : List COper := [
  ⟨(some 2), .box, [.t 0], none⟩,
  ⟨(some 4), .mov, [.c (.bool false)], none⟩]
def c_l12_BlockCuts_r0 : List COper := a_l12_BlockCuts_r0
instance : Reg c_l12_BlockCuts_r0 a_l12_BlockCuts_r0 2 := ⟨rfl, rfl⟩
@[simp] def a_l12_BlockCuts_r1 : List COper := [
  ⟨(some 11), .call fn_l12_alive, [], none⟩,
  ⟨(some 12), .not, [.t 11], none⟩]
def c_l12_BlockCuts_r1 : List COper := a_l12_BlockCuts_r1
instance : Reg c_l12_BlockCuts_r1 a_l12_BlockCuts_r1 2 := ⟨rfl, rfl⟩
@[simp] def a_l12_BlockCuts_r2 : List COper := [
  ⟨(some 4), .mov, [.c (.bool false)], none⟩]
def c_l12_BlockCuts_r2 : List COper := a_l12_BlockCuts_r2
instance : Reg c_l12_BlockCuts_r2 a_l12_BlockCuts_r2 1 := ⟨rfl, rfl⟩
@[simp] def a_l12_BlockCuts_r3 : List COper := [
  ⟨(some 13), .load true 99, [.t 2], none⟩,
  ⟨(some 14), .call fn_r12_Great, [.t 13, .c (.int .i64 8192)], none⟩,
  ⟨(some 15), .mov, [.t 14], none⟩,
  ⟨(some 16), .load true 99, [.t 2], (some (15, false))⟩,
  ⟨(some 17), .call fn_r12_Good, [.t 16], (some (15, false))⟩,
  ⟨(some 18), .not, [.t 17], (some (15, false))⟩,
  ⟨(some 19), .pick, [.t 15, .c (.bool true), .t 18], none⟩]
def c_l12_BlockCuts_r3 : List COper := a_l12_BlockCuts_r3
instance : Reg c_l12_BlockCuts_r3 a_l12_BlockCuts_r3 7 := ⟨rfl, rfl⟩
@[simp] def a_l12_BlockCuts_r4 : List COper := [
  ⟨(some 4), .mov, [.c (.bool true)], none⟩]
def c_l12_BlockCuts_r4 : List COper := a_l12_BlockCuts_r4
instance : Reg c_l12_BlockCuts_r4 a_l12_BlockCuts_r4 1 := ⟨rfl, rfl⟩
@[simp] def a_l12_BlockCuts_r5 : List COper := [
  ⟨(some 20), .build [.v (.slice none 0 0)] [], [], none⟩,
  ⟨(some 21), .box, [.t 20], none⟩,
  ⟨(some 5), .mov, [.t 21], none⟩]
def c_l12_BlockCuts_r5 : List COper := a_l12_BlockCuts_r5
instance : Reg c_l12_BlockCuts_r5 a_l12_BlockCuts_r5 3 := ⟨rfl, rfl⟩
@[simp] def a_l12_BlockCuts_r6 : List COper := [
  ⟨(some 22), .mov, [.t 5], none⟩,
  ⟨(some 23), .load true 99, [.t 2], none⟩,
  ⟨(some 24), .call fn_block_Write, [.t 22, .t 23], none⟩]
def c_l12_BlockCuts_r6 : List COper := a_l12_BlockCuts_r6
instance : Reg c_l12_BlockCuts_r6 a_l12_BlockCuts_r6 3 := ⟨rfl, rfl⟩
@[simp] def a_l12_BlockCuts_r7 : List COper := [
  ⟨(some 25), .mov, [.t 5], none⟩,
  ⟨(some 26), .call fn_code_Writer_Bytes, [.t 25], none⟩,
  ⟨(some 6), .mov, [.t 26], none⟩]
def c_l12_BlockCuts_r7 : List COper := a_l12_BlockCuts_r7
instance : Reg c_l12_BlockCuts_r7 a_l12_BlockCuts_r7 3 := ⟨rfl, rfl⟩
@[simp] def a_l12_BlockCuts_r8 : List COper := [
  ⟨(some 27), .mov, [.t 1], none⟩,
  ⟨(some 28), .bin .lss, [.t 27, .c (.int .i64 0)], none⟩,
  ⟨(some 29), .mov, [.t 28], none⟩,
  ⟨(some 30), .mov, [.t 1], (some (29, false))⟩,
  ⟨(some 31), .mov, [.t 6], (some (29, false))⟩,
  ⟨(some 32), .len, [.t 31], (some (29, false))⟩,
  ⟨(some 33), .bin .geq, [.t 30, .t 32], (some (29, false))⟩,
  ⟨(some 34), .pick, [.t 29, .c (.bool true), .t 33], none⟩]
def c_l12_BlockCuts_r8 : List COper := a_l12_BlockCuts_r8
instance : Reg c_l12_BlockCuts_r8 a_l12_BlockCuts_r8 8 := ⟨rfl, rfl⟩
@[simp] def a_l12_BlockCuts_r9 : List COper := [
  ⟨(some 4), .mov, [.c (.bool true)], none⟩]
def c_l12_BlockCuts_r9 : List COper := a_l12_BlockCuts_r9
instance : Reg c_l12_BlockCuts_r9 a_l12_BlockCuts_r9 1 := ⟨rfl, rfl⟩
@[simp] def a_l12_BlockCuts_r10 : List COper := [
  ⟨(some 35), .mov, [.t 6], none⟩,
  ⟨(some 36), .mov, [.t 1], none⟩,
  ⟨(some 37), .slice 1 false true, [.t 35, .t 36], none⟩,
  ⟨(some 38), .call fn_code_Read, [.t 37], none⟩,
  ⟨(some 39), .bslice 1 0 (.v (.int .u8 0)) [], [], none⟩,
  ⟨(some 40), .mov, [.t 6], none⟩,
  ⟨(some 41), .app 1 1, [.t 39, .t 40], none⟩,
  ⟨(some 42), .bslice 1 1 (.v (.int .u8 0)) [0], [.c (.int .u8 7)], none⟩,
  ⟨(some 43), .app 1 1, [.t 41, .t 42], none⟩,
  ⟨(some 44), .call fn_code_Read, [.t 43], none⟩,
  ⟨(some 7), .mov, [.t 38], none⟩,
  ⟨(some 8), .mov, [.t 44], none⟩]
def c_l12_BlockCuts_r10 : List COper := a_l12_BlockCuts_r10
instance : Reg c_l12_BlockCuts_r10 a_l12_BlockCuts_r10 12 := ⟨rfl, rfl⟩
@[simp] def a_l12_BlockCuts_r11 : List COper := [
  ⟨(some 45), .mov, [.t 7], none⟩,
  ⟨(some 46), .call fn_block_Read, [.t 45], none⟩,
  ⟨(some 47), .mov, [.t 8], none⟩,
  ⟨(some 48), .call fn_block_Read, [.t 47], none⟩,
  ⟨(some 9), .alloc (.node [.v (.int .i64 0), .v (.int .i64 0), .arr 1 (rep 32 (.v (.int .u8 0))), .arr 1 (rep 32 (.v (.int .u8 0))), .arr 1 (rep 32 (.v (.int .u8 0))), .v (.slice none 0 0)]), [], none⟩,
  ⟨(some 10), .alloc (.node [.v (.int .i64 0), .v (.int .i64 0), .arr 1 (rep 32 (.v (.int .u8 0))), .arr 1 (rep 32 (.v (.int .u8 0))), .arr 1 (rep 32 (.v (.int .u8 0))), .v (.slice none 0 0)]), [], none⟩,
  ⟨none, .store true 99, [.t 9, .t 46], none⟩,
  ⟨none, .store true 99, [.t 10, .t 48], none⟩]
def c_l12_BlockCuts_r11 : List COper := a_l12_BlockCuts_r11
instance : Reg c_l12_BlockCuts_r11 a_l12_BlockCuts_r11 8 := ⟨rfl, rfl⟩
@[simp] def a_l12_BlockCuts_r12 : List COper := [
  ⟨(some 49), .load true 99, [.t 9], none⟩,
  ⟨(some 50), .build [.v (.int .i64 0), .v (.int .i64 0), .arr 1 (rep 32 (.v (.int .u8 0))), .arr 1 (rep 32 (.v (.int .u8 0))), .arr 1 (rep 32 (.v (.int .u8 0))), .v (.slice none 0 0)] [], [], none⟩,
  ⟨(some 51), .call fn_r12_Same, [.t 49, .t 50], none⟩,
  ⟨(some 52), .mov, [.t 51], none⟩,
  ⟨(some 53), .mov, [.t 7], (some (52, true))⟩,
  ⟨(some 54), .call fn_code_Reader_Good, [.t 53], (some (52, true))⟩,
  ⟨(some 55), .not, [.t 54], (some (52, true))⟩,
  ⟨(some 56), .pick, [.t 52, .t 55, .c (.bool false)], none⟩,
  ⟨(some 57), .mov, [.t 56], none⟩,
  ⟨(some 58), .load true 99, [.t 10], (some (57, true))⟩,
  ⟨(some 59), .load true 99, [.t 2], (some (57, true))⟩,
  ⟨(some 60), .call fn_r12_Same, [.t 58, .t 59], (some (57, true))⟩,
  ⟨(some 61), .pick, [.t 57, .t 60, .c (.bool false)], none⟩,
  ⟨(some 62), .mov, [.t 61], none⟩,
  ⟨(some 63), .mov, [.t 8], (some (62, true))⟩,
  ⟨(some 64), .call fn_code_Reader_Good, [.t 63], (some (62, true))⟩,
  ⟨(some 65), .pick, [.t 62, .t 64, .c (.bool false)], none⟩,
  ⟨(some 66), .mov, [.t 65], none⟩,
  ⟨(some 67), .mov, [.t 8], (some (66, true))⟩,
  ⟨(some 68), .call fn_code_Reader_End, [.t 67], (some (66, true))⟩,
  ⟨(some 69), .not, [.t 68], (some (66, true))⟩,
  ⟨(some 70), .pick, [.t 66, .t 69, .c (.bool false)], none⟩,
  ⟨(some 4), .mov, [.t 70], none⟩]
def c_l12_BlockCuts_r12 : List COper := a_l12_BlockCuts_r12
instance : Reg c_l12_BlockCuts_r12 a_l12_BlockCuts_r12 23 := ⟨rfl, rfl⟩
@[simp] def c_l12_BlockCuts : CCode :=
  .seq (.region c_l12_BlockCuts_r0 none [1, 2]) (.seq (.seq (.region c_l12_BlockCuts_r1 none [1, 2, 12]) (.cond (.t 12) (.seq (.region c_l12_BlockCuts_r2 none [4]) (.ret)) (.skip))) (.seq (.seq (.region c_l12_BlockCuts_r3 none [1, 2, 19]) (.cond (.t 19) (.seq (.region c_l12_BlockCuts_r4 none [4]) (.ret)) (.skip))) (.seq (.region c_l12_BlockCuts_r5 none [1, 2, 5]) (.seq (.region c_l12_BlockCuts_r6 none [1, 2, 5]) (.seq (.region c_l12_BlockCuts_r7 none [1, 2, 6]) (.seq (.seq (.region c_l12_BlockCuts_r8 none [1, 2, 6, 34]) (.cond (.t 34) (.seq (.region c_l12_BlockCuts_r9 none [4]) (.ret)) (.skip))) (.seq (.region c_l12_BlockCuts_r10 none [2, 7, 8]) (.seq (.region c_l12_BlockCuts_r11 none [2, 7, 8, 9, 10]) (.seq (.region c_l12_BlockCuts_r12 none [4]) (.ret))))))))))
@[simp] def R_l12_BlockCuts : List CRes := [.tmp 4]
theorem k_l12_BlockCuts : chkFn Try.prog fn_l12_BlockCuts c_l12_BlockCuts R_l12_BlockCuts 2 = true := by kernel_rfl
/-! wapentake/wapentakelaw09.alive -/
@[simp] def a_l09_alive_r0 : List COper := [
  ⟨(some 0), .mov, [.c (.bool false)], none⟩]
def c_l09_alive_r0 : List COper := a_l09_alive_r0
instance : Reg c_l09_alive_r0 a_l09_alive_r0 1 := ⟨rfl, rfl⟩
@[simp] def a_l09_alive_r1 : List COper := [
  ⟨(some 2), .build [.v (.slice none 0 0)] [], [], none⟩,
  ⟨(some 3), .box, [.t 2], none⟩,
  ⟨(some 1), .mov, [.t 3], none⟩]
def c_l09_alive_r1 : List COper := a_l09_alive_r1
instance : Reg c_l09_alive_r1 a_l09_alive_r1 3 := ⟨rfl, rfl⟩
@[simp] def a_l09_alive_r2 : List COper := [
  ⟨(some 4), .mov, [.t 1], none⟩,
  ⟨(some 5), .call fn_l09_put, [], none⟩,
  ⟨(some 6), .call fn_request_Write, [.t 4, .t 5], none⟩]
def c_l09_alive_r2 : List COper := a_l09_alive_r2
instance : Reg c_l09_alive_r2 a_l09_alive_r2 3 := ⟨rfl, rfl⟩
@[simp] def a_l09_alive_r3 : List COper := [
  ⟨(some 7), .call fn_l09_put, [], none⟩,
  ⟨(some 8), .call fn_request_Good, [.t 7], none⟩,
  ⟨(some 9), .mov, [.t 8], none⟩,
  ⟨(some 10), .mov, [.t 1], (some (9, true))⟩,
  ⟨(some 11), .call fn_code_Writer_Bytes, [.t 10], (some (9, true))⟩,
  ⟨(some 12), .len, [.t 11], (some (9, true))⟩,
  ⟨(some 13), .bin .eql, [.t 12, .c (.int .i64 102)], (some (9, true))⟩,
  ⟨(some 14), .pick, [.t 9, .t 13, .c (.bool false)], none⟩,
  ⟨(some 15), .mov, [.t 14], none⟩,
  ⟨(some 16), .build [.v (.int .i64 0), .v (.int .i64 0), .v (.int .i64 0), .v (.slice none 0 0)] [1], [.c (.int .i64 1)], (some (15, true))⟩,
  ⟨(some 17), .build [.v (.int .i64 0), .v (.int .i64 0), .v (.int .i64 0), .v (.slice none 0 0)] [1], [.c (.int .i64 1)], (some (15, true))⟩,
  ⟨(some 18), .call fn_request_Same, [.t 16, .t 17], (some (15, true))⟩,
  ⟨(some 19), .pick, [.t 15, .t 18, .c (.bool false)], none⟩,
  ⟨(some 0), .mov, [.t 19], none⟩]
def c_l09_alive_r3 : List COper := a_l09_alive_r3
instance : Reg c_l09_alive_r3 a_l09_alive_r3 14 := ⟨rfl, rfl⟩
@[simp] def c_l09_alive : CCode :=
  .seq (.region c_l09_alive_r0 none []) (.seq (.region c_l09_alive_r1 none [1]) (.seq (.region c_l09_alive_r2 none [1]) (.seq (.region c_l09_alive_r3 none [0]) (.ret))))
@[simp] def R_l09_alive : List CRes := [.tmp 0]
theorem k_l09_alive : chkFn Try.prog fn_l09_alive c_l09_alive R_l09_alive 0 = true := by kernel_rfl
/-! wapentake/wapentakelaw09.large -/
@[simp] def a_l09_large_r0 : List COper := [
  ⟨(some 1), .box, [.t 0], none⟩,
  ⟨(some 2), .mov, [.c (.bool false)], none⟩]
def c_l09_large_r0 : List COper := a_l09_large_r0
instance : Reg c_l09_large_r0 a_l09_large_r0 2 := ⟨rfl, rfl⟩
@[simp] def a_l09_large_r1 : List COper := [
  ⟨(some 3), .mov, [.c (.int .i64 0)], none⟩]
def c_l09_large_r1 : List COper := a_l09_large_r1
instance : Reg c_l09_large_r1 a_l09_large_r1 1 := ⟨rfl, rfl⟩
@[simp] def a_l09_large_r2 : List COper := [
  ⟨(some 6), .faddr 3 1 false, [.t 1], none⟩,
  ⟨(some 7), .load false 1, [.t 6], none⟩,
  ⟨(some 8), .len, [.t 7], none⟩,
  ⟨(some 9), .bin .gtr, [.t 8, .c (.int .i64 400)], none⟩]
def c_l09_large_r2 : List COper := a_l09_large_r2
instance : Reg c_l09_large_r2 a_l09_large_r2 4 := ⟨rfl, rfl⟩
@[simp] def a_l09_large_r3 : List COper := [
  ⟨(some 2), .mov, [.c (.bool true)], none⟩]
def c_l09_large_r3 : List COper := a_l09_large_r3
instance : Reg c_l09_large_r3 a_l09_large_r3 1 := ⟨rfl, rfl⟩
@[simp] def a_l09_large_r4 : List COper := [
  ⟨(some 10), .faddr 3 1 false, [.t 1], none⟩,
  ⟨(some 11), .load false 1, [.t 10], none⟩,
  ⟨(some 12), .len, [.t 11], none⟩,
  ⟨(some 13), .mov, [.c (.int .i64 0)], none⟩]
def c_l09_large_r4 : List COper := a_l09_large_r4
instance : Reg c_l09_large_r4 a_l09_large_r4 4 := ⟨rfl, rfl⟩
@[simp] def a_l09_large_r5 : List COper := [
  ⟨(some 14), .bin .lss, [.t 13, .t 12], none⟩]
def c_l09_large_r5 : List COper := a_l09_large_r5
instance : Reg c_l09_large_r5 a_l09_large_r5 1 := ⟨rfl, rfl⟩
@[simp] def a_l09_large_r6 : List COper := [
  ⟨(some 15), .iaddr 1, [.t 11, .t 13], none⟩,
  ⟨(some 16), .load false 1, [.t 15], none⟩,
  ⟨(some 5), .mov, [.t 16], none⟩]
def c_l09_large_r6 : List COper := a_l09_large_r6
instance : Reg c_l09_large_r6 a_l09_large_r6 3 := ⟨rfl, rfl⟩
@[simp] def a_l09_large_r7 : List COper := [
  ⟨(some 17), .mov, [.t 3], none⟩,
  ⟨(some 18), .mov, [.t 5], none⟩,
  ⟨(some 19), .lenS, [.t 18], none⟩,
  ⟨(some 20), .bin .add, [.t 17, .t 19], none⟩,
  ⟨(some 3), .mov, [.t 20], none⟩]
def c_l09_large_r7 : List COper := a_l09_large_r7
instance : Reg c_l09_large_r7 a_l09_large_r7 5 := ⟨rfl, rfl⟩
@[simp] def a_l09_large_r8 : List COper := [
  ⟨(some 21), .mov, [.t 3], none⟩,
  ⟨(some 22), .bin .gtr, [.t 21, .c (.int .i64 16384)], none⟩]
def c_l09_large_r8 : List COper := a_l09_large_r8
instance : Reg c_l09_large_r8 a_l09_large_r8 2 := ⟨rfl, rfl⟩
@[simp] def a_l09_large_r9 : List COper := [
  ⟨(some 2), .mov, [.c (.bool true)], none⟩]
def c_l09_large_r9 : List COper := a_l09_large_r9
instance : Reg c_l09_large_r9 a_l09_large_r9 1 := ⟨rfl, rfl⟩
@[simp] def a_l09_large_r10 : List COper := [
  ⟨(some 23), .bin .add, [.t 13, .c (.int .i64 1)], none⟩,
  ⟨(some 13), .mov, [.t 23], none⟩]
def c_l09_large_r10 : List COper := a_l09_large_r10
instance : Reg c_l09_large_r10 a_l09_large_r10 2 := ⟨rfl, rfl⟩
@[simp] def a_l09_large_r11 : List COper := [
  ⟨(some 2), .mov, [.c (.bool false)], none⟩]
def c_l09_large_r11 : List COper := a_l09_large_r11
instance : Reg c_l09_large_r11 a_l09_large_r11 1 := ⟨rfl, rfl⟩
@[simp] def c_l09_large : CCode :=
  .seq (.region c_l09_large_r0 none [1]) (.seq (.region c_l09_large_r1 none [1, 3]) (.seq (.seq (.region c_l09_large_r2 none [1, 3, 9]) (.cond (.t 9) (.seq (.region c_l09_large_r3 none [2]) (.ret)) (.skip))) (.seq (.seq (.region c_l09_large_r4 none [3, 11, 12, 13]) (.block 0 (.loop (.seq (.region c_l09_large_r5 none [3, 11, 12, 13, 14]) (.seq (.cond (.t 14) (.skip) (.exit 0)) (.seq (.block 1 (.seq (.region c_l09_large_r6 none [3, 5, 11, 12, 13]) (.seq (.region c_l09_large_r7 none [3, 11, 12, 13]) (.seq (.region c_l09_large_r8 none [3, 11, 12, 13, 22]) (.cond (.t 22) (.seq (.region c_l09_large_r9 none [2]) (.ret)) (.skip)))))) (.region c_l09_large_r10 none [3, 11, 12, 13]))))))) (.seq (.region c_l09_large_r11 none [2]) (.ret)))))
@[simp] def R_l09_large : List CRes := [.tmp 2]
theorem k_l09_large : chkFn Try.prog fn_l09_large c_l09_large R_l09_large 1 = true := by kernel_rfl
/-! wapentake/request.WriteReply -/
@[simp] def a_request_WriteReply_r0 : List COper := [
  ⟨(some 3), .box, [.t 1], none⟩]
def c_request_WriteReply_r0 : List COper := a_request_WriteReply_r0
instance : Reg c_request_WriteReply_r0 a_request_WriteReply_r0 1 := ⟨rfl, rfl⟩
@[simp] def a_request_WriteReply_r1 : List COper := [
  ⟨(some 4), .mov, [.t 0], none⟩,
  ⟨(some 5), .faddr 0 1 false, [.t 3], none⟩,
  ⟨(some 6), .load false 1, [.t 5], none⟩,
  ⟨(some 7), .faddr 1 1 false, [.t 3], none⟩,
  ⟨(some 8), .load false 1, [.t 7], none⟩,
  ⟨(some 9), .faddr 2 1 false, [.t 3], none⟩,
  ⟨(some 10), .load false 1, [.t 9], none⟩,
  ⟨(some 11), .faddr 3 1 false, [.t 3], none⟩,
  ⟨(some 12), .load false 1, [.t 11], none⟩,
  ⟨(some 13), .len, [.t 12], none⟩,
  ⟨(some 14), .bslice 1 4 (.v (.int .i64 0)) [0, 1, 2, 3], [.t 6, .t 8, .t 10, .t 13], none⟩,
  ⟨(some 15), .call fn_code_Writer_Num, [.t 4, .t 14], none⟩]
def c_request_WriteReply_r1 : List COper := a_request_WriteReply_r1
instance : Reg c_request_WriteReply_r1 a_request_WriteReply_r1 12 := ⟨rfl, rfl⟩
@[simp] def a_request_WriteReply_r2 : List COper := [
  ⟨(some 16), .mov, [.t 0], none⟩,
  ⟨(some 17), .faddr 3 1 false, [.t 3], none⟩,
  ⟨(some 18), .load false 1, [.t 17], none⟩,
  ⟨(some 19), .call fn_code_Writer_Text, [.t 16, .t 18], none⟩]
def c_request_WriteReply_r2 : List COper := a_request_WriteReply_r2
instance : Reg c_request_WriteReply_r2 a_request_WriteReply_r2 4 := ⟨rfl, rfl⟩
@[simp] def c_request_WriteReply : CCode :=
  .seq (.region c_request_WriteReply_r0 none [0, 3]) (.seq (.region c_request_WriteReply_r1 none [0, 3]) (.region c_request_WriteReply_r2 none []))
@[simp] def R_request_WriteReply : List CRes := []
theorem k_request_WriteReply : chkFn Try.prog fn_request_WriteReply c_request_WriteReply R_request_WriteReply 2 = true := by kernel_rfl
/-! wapentake/request.Same -/
@[simp] def a_request_Same_r0 : List COper := [
  ⟨(some 2), .box, [.t 0], none⟩,
  ⟨(some 3), .box, [.t 1], none⟩,
  ⟨(some 4), .mov, [.c (.bool false)], none⟩]
def c_request_Same_r0 : List COper := a_request_Same_r0
instance : Reg c_request_Same_r0 a_request_Same_r0 3 := ⟨rfl, rfl⟩
@[simp] def a_request_Same_r1 : List COper := [
  ⟨(some 7), .build [.v (.slice none 0 0)] [], [], none⟩,
  ⟨(some 8), .box, [.t 7], none⟩,
  ⟨(some 9), .build [.v (.slice none 0 0)] [], [], none⟩,
  ⟨(some 10), .box, [.t 9], none⟩,
  ⟨(some 5), .mov, [.t 8], none⟩,
  ⟨(some 6), .mov, [.t 10], none⟩]
def c_request_Same_r1 : List COper := a_request_Same_r1
instance : Reg c_request_Same_r1 a_request_Same_r1 6 := ⟨rfl, rfl⟩
@[simp] def a_request_Same_r2 : List COper := [
  ⟨(some 11), .mov, [.t 5], none⟩,
  ⟨(some 12), .load true 4, [.t 2], none⟩,
  ⟨(some 13), .call fn_request_WriteReply, [.t 11, .t 12], none⟩]
def c_request_Same_r2 : List COper := a_request_Same_r2
instance : Reg c_request_Same_r2 a_request_Same_r2 3 := ⟨rfl, rfl⟩
@[simp] def a_request_Same_r3 : List COper := [
  ⟨(some 14), .mov, [.t 6], none⟩,
  ⟨(some 15), .load true 4, [.t 3], none⟩,
  ⟨(some 16), .call fn_request_WriteReply, [.t 14, .t 15], none⟩]
def c_request_Same_r3 : List COper := a_request_Same_r3
instance : Reg c_request_Same_r3 a_request_Same_r3 3 := ⟨rfl, rfl⟩
@[simp] def a_request_Same_r4 : List COper := [
  ⟨(some 17), .mov, [.t 5], none⟩,
  ⟨(some 18), .call fn_code_Writer_Bytes, [.t 17], none⟩,
  ⟨(some 19), .convS, [.t 18], none⟩,
  ⟨(some 20), .mov, [.t 6], none⟩,
  ⟨(some 21), .call fn_code_Writer_Bytes, [.t 20], none⟩,
  ⟨(some 22), .convS, [.t 21], none⟩,
  ⟨(some 23), .bin .eql, [.t 19, .t 22], none⟩,
  ⟨(some 4), .mov, [.t 23], none⟩]
def c_request_Same_r4 : List COper := a_request_Same_r4
instance : Reg c_request_Same_r4 a_request_Same_r4 8 := ⟨rfl, rfl⟩
@[simp] def c_request_Same : CCode :=
  .seq (.region c_request_Same_r0 none [2, 3]) (.seq (.region c_request_Same_r1 none [2, 3, 5, 6]) (.seq (.region c_request_Same_r2 none [3, 5, 6]) (.seq (.region c_request_Same_r3 none [5, 6]) (.seq (.region c_request_Same_r4 (some ([0, 1, 3, 0, 11, 27, 63, 127], [(2, 4)])) [4]) (.ret)))))
@[simp] def R_request_Same : List CRes := [.tmp 4]
theorem k_request_Same : chkFn Try.prog fn_request_Same c_request_Same R_request_Same 2 = true := by kernel_rfl
/-! (*wapentake/code.Writer).Bytes -/
@[simp] def a_code_Writer_Bytes_r0 : List COper := [
  ⟨(some 2), .mov, [.c (.slice none 0 0)], none⟩]
def c_code_Writer_Bytes_r0 : List COper := a_code_Writer_Bytes_r0
instance : Reg c_code_Writer_Bytes_r0 a_code_Writer_Bytes_r0 1 := ⟨rfl, rfl⟩
@[simp] def a_code_Writer_Bytes_r1 : List COper := [
  ⟨(some 3), .mov, [.t 0], none⟩,
  ⟨(some 4), .eqp false, [.t 3, .c (.pointer none)], none⟩]
def c_code_Writer_Bytes_r1 : List COper := a_code_Writer_Bytes_r1
instance : Reg c_code_Writer_Bytes_r1 a_code_Writer_Bytes_r1 2 := ⟨rfl, rfl⟩
@[simp] def a_code_Writer_Bytes_r2 : List COper := [
  ⟨(some 2), .mov, [.c (.slice none 0 0)], none⟩]
def c_code_Writer_Bytes_r2 : List COper := a_code_Writer_Bytes_r2
instance : Reg c_code_Writer_Bytes_r2 a_code_Writer_Bytes_r2 1 := ⟨rfl, rfl⟩
@[simp] def a_code_Writer_Bytes_r3 : List COper := [
  ⟨(some 5), .mov, [.t 0], none⟩,
  ⟨(some 6), .nilc, [.t 5], none⟩,
  ⟨(some 7), .faddr 0 1 false, [.t 6], none⟩,
  ⟨(some 8), .load false 1, [.t 7], none⟩,
  ⟨(some 9), .slice0 1, [.t 8], none⟩,
  ⟨(some 10), .mov, [.t 0], none⟩,
  ⟨(some 11), .nilc, [.t 10], none⟩,
  ⟨(some 12), .faddr 0 1 false, [.t 11], none⟩,
  ⟨(some 13), .load false 1, [.t 12], none⟩,
  ⟨(some 14), .app 1 1, [.t 9, .t 13], none⟩,
  ⟨(some 2), .mov, [.t 14], none⟩]
def c_code_Writer_Bytes_r3 : List COper := a_code_Writer_Bytes_r3
instance : Reg c_code_Writer_Bytes_r3 a_code_Writer_Bytes_r3 11 := ⟨rfl, rfl⟩
@[simp] def c_code_Writer_Bytes : CCode :=
  .seq (.region c_code_Writer_Bytes_r0 none [0]) (.seq (.seq (.region c_code_Writer_Bytes_r1 none [0, 4]) (.cond (.t 4) (.seq (.region c_code_Writer_Bytes_r2 none [2]) (.ret)) (.skip))) (.seq (.region c_code_Writer_Bytes_r3 (some ([0, 1, 3, 7, 15, 0, 32, 96, 224, 511, 1023], [(4, 8)])) [2]) (.ret)))
@[simp] def R_code_Writer_Bytes : List CRes := [.tmp 2]
theorem k_code_Writer_Bytes : chkFn Try.prog fn_code_Writer_Bytes c_code_Writer_Bytes R_code_Writer_Bytes 1 = true := by kernel_rfl
/-! wapentake/wapentakelaw12.alive -/
@[simp] def a_l12_alive_r0 : List COper := [
  ⟨(some 0), .mov, [.c (.bool false)], none⟩]
def c_l12_alive_r0 : List COper := a_l12_alive_r0
instance : Reg c_l12_alive_r0 a_l12_alive_r0 1 := ⟨rfl, rfl⟩
@[simp] def a_l12_alive_r1 : List COper := [
  ⟨(some 3), .build [.v (.int .i64 0), .v (.int .i64 0), .arr 1 (rep 32 (.v (.int .u8 0))), .arr 1 (rep 32 (.v (.int .u8 0))), .arr 1 (rep 32 (.v (.int .u8 0))), .v (.slice none 0 0)] [1], [.c (.int .i64 1)], none⟩,
  ⟨(some 1), .alloc (.node [.v (.int .i64 0), .v (.int .i64 0), .arr 1 (rep 32 (.v (.int .u8 0))), .arr 1 (rep 32 (.v (.int .u8 0))), .arr 1 (rep 32 (.v (.int .u8 0))), .v (.slice none 0 0)]), [], none⟩,
  ⟨none, .store true 99, [.t 1, .t 3], none⟩]
def c_l12_alive_r1 : List COper := a_l12_alive_r1
instance : Reg c_l12_alive_r1 a_l12_alive_r1 3 := ⟨rfl, rfl⟩
@[simp] def a_l12_alive_r2 : List COper := [
  ⟨(some 4), .build [.v (.slice none 0 0)] [], [], none⟩,
  ⟨(some 5), .box, [.t 4], none⟩,
  ⟨(some 2), .mov, [.t 5], none⟩]
def c_l12_alive_r2 : List COper := a_l12_alive_r2
instance : Reg c_l12_alive_r2 a_l12_alive_r2 3 := ⟨rfl, rfl⟩
@[simp] def a_l12_alive_r3 : List COper := [
  ⟨(some 6), .mov, [.t 2], none⟩,
  ⟨(some 7), .load true 99, [.t 1], none⟩,
  ⟨(some 8), .call fn_block_Write, [.t 6, .t 7], none⟩]
def c_l12_alive_r3 : List COper := a_l12_alive_r3
instance : Reg c_l12_alive_r3 a_l12_alive_r3 3 := ⟨rfl, rfl⟩
@[simp] def a_l12_alive_r4 : List COper := [
  ⟨(some 9), .load true 99, [.t 1], none⟩,
  ⟨(some 10), .call fn_block_Good, [.t 9], none⟩,
  ⟨(some 11), .mov, [.t 10], none⟩,
  ⟨(some 12), .mov, [.t 2], (some (11, true))⟩,
  ⟨(some 13), .call fn_code_Writer_Bytes, [.t 12], (some (11, true))⟩,
  ⟨(some 14), .len, [.t 13], (some (11, true))⟩,
  ⟨(some 15), .bin .eql, [.t 14, .c (.int .i64 120)], (some (11, true))⟩,
  ⟨(some 16), .pick, [.t 11, .t 15, .c (.bool false)], none⟩,
  ⟨(some 17), .mov, [.t 16], none⟩,
  ⟨(some 18), .load true 99, [.t 1], (some (17, true))⟩,
  ⟨(some 19), .buildA 1 (rep 32 (.v (.int .u8 0))) [], [], (some (17, true))⟩,
  ⟨(some 20), .buildA 1 (rep 32 (.v (.int .u8 0))) [], [], (some (17, true))⟩,
  ⟨(some 21), .call fn_block_Follows, [.t 18, .c (.int .i64 0), .c (.int .i64 1), .t 19, .t 20], (some (17, true))⟩,
  ⟨(some 22), .pick, [.t 17, .t 21, .c (.bool false)], none⟩,
  ⟨(some 0), .mov, [.t 22], none⟩]
def c_l12_alive_r4 : List COper := a_l12_alive_r4
instance : Reg c_l12_alive_r4 a_l12_alive_r4 15 := ⟨rfl, rfl⟩
@[simp] def c_l12_alive : CCode :=
  .seq (.region c_l12_alive_r0 none []) (.seq (.region c_l12_alive_r1 none [1]) (.seq (.region c_l12_alive_r2 none [1, 2]) (.seq (.region c_l12_alive_r3 none [1, 2]) (.seq (.region c_l12_alive_r4 none [0]) (.ret)))))
@[simp] def R_l12_alive : List CRes := [.tmp 0]
theorem k_l12_alive : chkFn Try.prog fn_l12_alive c_l12_alive R_l12_alive 0 = true := by kernel_rfl
/-! wapentake/wapentakeref12.Great -/
@[simp] def a_r12_Great_r0 : List COper := [
  ⟨(some 2), .box, [.t 0], none⟩,
  ⟨(some 4), .mov, [.c (.bool false)], none⟩]
def c_r12_Great_r0 : List COper := a_r12_Great_r0
instance : Reg c_r12_Great_r0 a_r12_Great_r0 2 := ⟨rfl, rfl⟩
@[simp] def a_r12_Great_r1 : List COper := [
  ⟨(some 5), .mov, [.c (.int .i64 0)], none⟩]
def c_r12_Great_r1 : List COper := a_r12_Great_r1
instance : Reg c_r12_Great_r1 a_r12_Great_r1 1 := ⟨rfl, rfl⟩
@[simp] def a_r12_Great_r2 : List COper := [
  ⟨(some 10), .faddr 98 1 false, [.t 2], none⟩,
  ⟨(some 11), .load false 1, [.t 10], none⟩,
  ⟨(some 12), .len, [.t 11], none⟩,
  ⟨(some 13), .bin .gtr, [.t 12, .c (.int .i64 40)], none⟩]
def c_r12_Great_r2 : List COper := a_r12_Great_r2
instance : Reg c_r12_Great_r2 a_r12_Great_r2 4 := ⟨rfl, rfl⟩
@[simp] def a_r12_Great_r3 : List COper := [
  ⟨(some 4), .mov, [.c (.bool true)], none⟩]
def c_r12_Great_r3 : List COper := a_r12_Great_r3
instance : Reg c_r12_Great_r3 a_r12_Great_r3 1 := ⟨rfl, rfl⟩
@[simp] def a_r12_Great_r4 : List COper := [
  ⟨(some 14), .faddr 98 1 false, [.t 2], none⟩,
  ⟨(some 15), .load false 1, [.t 14], none⟩,
  ⟨(some 16), .len, [.t 15], none⟩,
  ⟨(some 17), .mov, [.c (.int .i64 0)], none⟩]
def c_r12_Great_r4 : List COper := a_r12_Great_r4
instance : Reg c_r12_Great_r4 a_r12_Great_r4 4 := ⟨rfl, rfl⟩
@[simp] def a_r12_Great_r5 : List COper := [
  ⟨(some 18), .bin .lss, [.t 17, .t 16], none⟩]
def c_r12_Great_r5 : List COper := a_r12_Great_r5
instance : Reg c_r12_Great_r5 a_r12_Great_r5 1 := ⟨rfl, rfl⟩
@[simp] def a_r12_Great_r6 : List COper := [
  ⟨(some 19), .iaddr 42, [.t 15, .t 17], none⟩,
  ⟨(some 20), .load true 42, [.t 19], none⟩,
  ⟨(some 7), .alloc (.node [.v (.int .i64 0), .v (.int .i64 0), .node [.v (.int .i64 0), .v (.string (mkS [])), .v (.string (mkS [])), .v (.string (mkS [])), .node [.v (.int .i64 0), .v (.int .i64 0), .v (.int .i64 0), .node [.arr 1 (rep 32 (.v (.int .u8 0))), .v (.int .i64 0)]]]]), [], none⟩,
  ⟨none, .store true 42, [.t 7, .t 20], none⟩]
def c_r12_Great_r6 : List COper := a_r12_Great_r6
instance : Reg c_r12_Great_r6 a_r12_Great_r6 4 := ⟨rfl, rfl⟩
@[simp] def a_r12_Great_r7 : List COper := [
  ⟨(some 21), .mov, [.t 5], none⟩,
  ⟨(some 22), .bin .add, [.t 21, .c (.int .i64 100)], none⟩,
  ⟨(some 5), .mov, [.t 22], none⟩]
def c_r12_Great_r7 : List COper := a_r12_Great_r7
instance : Reg c_r12_Great_r7 a_r12_Great_r7 3 := ⟨rfl, rfl⟩
@[simp] def a_r12_Great_r8 : List COper := [
  ⟨(some 23), .faddr 2 40 true, [.t 7], none⟩,
  ⟨(some 24), .faddr 1 1 false, [.t 23], none⟩,
  ⟨(some 25), .load false 1, [.t 24], none⟩,
  ⟨(some 26), .faddr 2 40 true, [.t 7], none⟩,
  ⟨(some 27), .faddr 2 1 false, [.t 26], none⟩,
  ⟨(some 28), .load false 1, [.t 27], none⟩,
  ⟨(some 29), .faddr 2 40 true, [.t 7], none⟩,
  ⟨(some 30), .faddr 3 1 false, [.t 29], none⟩,
  ⟨(some 31), .load false 1, [.t 30], none⟩,
  ⟨(some 32), .buildA 1 (rep 3 (.v (.string (mkS [])))) (upTo 3), [.t 25, .t 28, .t 31], none⟩,
  ⟨(some 33), .mov, [.c (.int .i64 0)], none⟩]
def c_r12_Great_r8 : List COper := a_r12_Great_r8
instance : Reg c_r12_Great_r8 a_r12_Great_r8 11 := ⟨rfl, rfl⟩
@[simp] def a_r12_Great_r9 : List COper := [
  ⟨(some 34), .bin .lss, [.t 33, .c (.int .i64 3)], none⟩]
def c_r12_Great_r9 : List COper := a_r12_Great_r9
instance : Reg c_r12_Great_r9 a_r12_Great_r9 1 := ⟨rfl, rfl⟩
@[simp] def a_r12_Great_r10 : List COper := [
  ⟨(some 35), .idx false 3 1, [.t 32, .t 33], none⟩,
  ⟨(some 9), .mov, [.t 35], none⟩]
def c_r12_Great_r10 : List COper := a_r12_Great_r10
instance : Reg c_r12_Great_r10 a_r12_Great_r10 2 := ⟨rfl, rfl⟩
@[simp] def a_r12_Great_r11 : List COper := [
  ⟨(some 36), .mov, [.t 5], none⟩,
  ⟨(some 37), .mov, [.t 9], none⟩,
  ⟨(some 38), .lenS, [.t 37], none⟩,
  ⟨(some 39), .bin .add, [.t 36, .t 38], none⟩,
  ⟨(some 5), .mov, [.t 39], none⟩]
def c_r12_Great_r11 : List COper := a_r12_Great_r11
instance : Reg c_r12_Great_r11 a_r12_Great_r11 5 := ⟨rfl, rfl⟩
@[simp] def a_r12_Great_r12 : List COper := [
  ⟨(some 40), .mov, [.t 5], none⟩,
  ⟨(some 41), .mov, [.t 1], none⟩,
  ⟨(some 42), .bin .gtr, [.t 40, .t 41], none⟩]
def c_r12_Great_r12 : List COper := a_r12_Great_r12
instance : Reg c_r12_Great_r12 a_r12_Great_r12 3 := ⟨rfl, rfl⟩
@[simp] def a_r12_Great_r13 : List COper := [
  ⟨(some 4), .mov, [.c (.bool true)], none⟩]
def c_r12_Great_r13 : List COper := a_r12_Great_r13
instance : Reg c_r12_Great_r13 a_r12_Great_r13 1 := ⟨rfl, rfl⟩
@[simp] def a_r12_Great_r14 : List COper := [
  ⟨(some 43), .bin .add, [.t 33, .c (.int .i64 1)], none⟩,
  ⟨(some 33), .mov, [.t 43], none⟩]
def c_r12_Great_r14 : List COper := a_r12_Great_r14
instance : Reg c_r12_Great_r14 a_r12_Great_r14 2 := ⟨rfl, rfl⟩
@[simp] def a_r12_Great_r15 : List COper := [
  ⟨(some 44), .bin .add, [.t 17, .c (.int .i64 1)], none⟩,
  ⟨(some 17), .mov, [.t 44], none⟩]
def c_r12_Great_r15 : List COper := a_r12_Great_r15
instance : Reg c_r12_Great_r15 a_r12_Great_r15 2 := ⟨rfl, rfl⟩
@[simp] def a_r12_Great_r16 : List COper := [
  ⟨(some 45), .mov, [.t 5], none⟩,
  ⟨(some 46), .mov, [.t 1], none⟩,
  ⟨(some 47), .bin .gtr, [.t 45, .t 46], none⟩,
  ⟨(some 4), .mov, [.t 47], none⟩]
def c_r12_Great_r16 : List COper := a_r12_Great_r16
instance : Reg c_r12_Great_r16 a_r12_Great_r16 4 := ⟨rfl, rfl⟩
@[simp] def c_r12_Great : CCode :=
  .seq (.region c_r12_Great_r0 none [1, 2]) (.seq (.region c_r12_Great_r1 none [1, 2, 5]) (.seq (.seq (.region c_r12_Great_r2 none [1, 2, 5, 13]) (.cond (.t 13) (.seq (.region c_r12_Great_r3 none [4]) (.ret)) (.skip))) (.seq (.seq (.region c_r12_Great_r4 none [1, 5, 15, 16, 17]) (.block 0 (.loop (.seq (.region c_r12_Great_r5 none [1, 5, 15, 16, 17, 18]) (.seq (.cond (.t 18) (.skip) (.exit 0)) (.seq (.block 1 (.seq (.region c_r12_Great_r6 none [1, 5, 7, 15, 16, 17]) (.seq (.region c_r12_Great_r7 none [1, 5, 7, 15, 16, 17]) (.seq (.region c_r12_Great_r8 none [1, 5, 15, 16, 17, 32, 33]) (.block 2 (.loop (.seq (.region c_r12_Great_r9 none [1, 5, 15, 16, 17, 32, 33, 34]) (.seq (.cond (.t 34) (.skip) (.exit 2)) (.seq (.block 3 (.seq (.region c_r12_Great_r10 none [1, 5, 9, 15, 16, 17, 32, 33]) (.seq (.region c_r12_Great_r11 none [1, 5, 15, 16, 17, 32, 33]) (.seq (.region c_r12_Great_r12 none [1, 5, 15, 16, 17, 32, 33, 42]) (.cond (.t 42) (.seq (.region c_r12_Great_r13 none [4]) (.ret)) (.skip)))))) (.region c_r12_Great_r14 none [1, 5, 15, 16, 17, 32, 33])))))))))) (.region c_r12_Great_r15 none [1, 5, 15, 16, 17]))))))) (.seq (.region c_r12_Great_r16 none [4]) (.ret)))))
@[simp] def R_r12_Great : List CRes := [.tmp 4]
theorem k_r12_Great : chkFn Try.prog fn_r12_Great c_r12_Great R_r12_Great 2 = true := by kernel_rfl
/-! wapentake/wapentakeref12.Good -/
@[simp] def a_r12_Good_r0 : List COper := [
  ⟨(some 1), .box, [.t 0], none⟩,
  ⟨(some 2), .mov, [.c (.bool false)], none⟩]
def c_r12_Good_r0 : List COper := a_r12_Good_r0
instance : Reg c_r12_Good_r0 a_r12_Good_r0 2 := ⟨rfl, rfl⟩
@[simp] def a_r12_Good_r1 : List COper := [
  ⟨(some 5), .faddr 0 1 false, [.t 1], none⟩,
  ⟨(some 6), .load false 1, [.t 5], none⟩,
  ⟨(some 7), .bin .lss, [.t 6, .c (.int .i64 0)], none⟩,
  ⟨(some 8), .mov, [.t 7], none⟩,
  ⟨(some 9), .faddr 0 1 false, [.t 1], (some (8, false))⟩,
  ⟨(some 10), .load false 1, [.t 9], (some (8, false))⟩,
  ⟨(some 11), .bin .gtr, [.t 10, .c (.int .i64 1073741824)], (some (8, false))⟩,
  ⟨(some 12), .pick, [.t 8, .c (.bool true), .t 11], none⟩,
  ⟨(some 13), .mov, [.t 12], none⟩,
  ⟨(some 14), .faddr 1 1 false, [.t 1], (some (13, false))⟩,
  ⟨(some 15), .load false 1, [.t 14], (some (13, false))⟩,
  ⟨(some 16), .bin .lss, [.t 15, .c (.int .i64 1)], (some (13, false))⟩,
  ⟨(some 17), .pick, [.t 13, .c (.bool true), .t 16], none⟩,
  ⟨(some 18), .mov, [.t 17], none⟩,
  ⟨(some 19), .faddr 1 1 false, [.t 1], (some (18, false))⟩,
  ⟨(some 20), .load false 1, [.t 19], (some (18, false))⟩,
  ⟨(some 21), .bin .gtr, [.t 20, .c (.int .i64 1024)], (some (18, false))⟩,
  ⟨(some 22), .pick, [.t 18, .c (.bool true), .t 21], none⟩,
  ⟨(some 23), .mov, [.t 22], none⟩,
  ⟨(some 24), .faddr 98 1 false, [.t 1], (some (23, false))⟩,
  ⟨(some 25), .load false 1, [.t 24], (some (23, false))⟩,
  ⟨(some 26), .len, [.t 25], (some (23, false))⟩,
  ⟨(some 27), .bin .gtr, [.t 26, .c (.int .i64 8)], (some (23, false))⟩,
  ⟨(some 28), .pick, [.t 23, .c (.bool true), .t 27], none⟩]
def c_r12_Good_r1 : List COper := a_r12_Good_r1
instance : Reg c_r12_Good_r1 a_r12_Good_r1 24 := ⟨rfl, rfl⟩
@[simp] def a_r12_Good_r2 : List COper := [
  ⟨(some 2), .mov, [.c (.bool false)], none⟩]
def c_r12_Good_r2 : List COper := a_r12_Good_r2
instance : Reg c_r12_Good_r2 a_r12_Good_r2 1 := ⟨rfl, rfl⟩
@[simp] def a_r12_Good_r3 : List COper := [
  ⟨(some 29), .faddr 98 1 false, [.t 1], none⟩,
  ⟨(some 30), .load false 1, [.t 29], none⟩,
  ⟨(some 31), .len, [.t 30], none⟩,
  ⟨(some 32), .mov, [.c (.int .i64 0)], none⟩]
def c_r12_Good_r3 : List COper := a_r12_Good_r3
instance : Reg c_r12_Good_r3 a_r12_Good_r3 4 := ⟨rfl, rfl⟩
@[simp] def a_r12_Good_r4 : List COper := [
  ⟨(some 33), .bin .lss, [.t 32, .t 31], none⟩]
def c_r12_Good_r4 : List COper := a_r12_Good_r4
instance : Reg c_r12_Good_r4 a_r12_Good_r4 1 := ⟨rfl, rfl⟩
@[simp] def a_r12_Good_r5 : List COper := [
  ⟨(some 34), .iaddr 42, [.t 30, .t 32], none⟩,
  ⟨(some 35), .load true 42, [.t 34], none⟩,
  ⟨(some 4), .alloc (.node [.v (.int .i64 0), .v (.int .i64 0), .node [.v (.int .i64 0), .v (.string (mkS [])), .v (.string (mkS [])), .v (.string (mkS [])), .node [.v (.int .i64 0), .v (.int .i64 0), .v (.int .i64 0), .node [.arr 1 (rep 32 (.v (.int .u8 0))), .v (.int .i64 0)]]]]), [], none⟩,
  ⟨none, .store true 42, [.t 4, .t 35], none⟩]
def c_r12_Good_r5 : List COper := a_r12_Good_r5
instance : Reg c_r12_Good_r5 a_r12_Good_r5 4 := ⟨rfl, rfl⟩
@[simp] def a_r12_Good_r6 : List COper := [
  ⟨(some 36), .load true 42, [.t 4], none⟩,
  ⟨(some 37), .call fn_r09_Good, [.t 36], none⟩,
  ⟨(some 38), .not, [.t 37], none⟩]
def c_r12_Good_r6 : List COper := a_r12_Good_r6
instance : Reg c_r12_Good_r6 a_r12_Good_r6 3 := ⟨rfl, rfl⟩
@[simp] def a_r12_Good_r7 : List COper := [
  ⟨(some 2), .mov, [.c (.bool false)], none⟩]
def c_r12_Good_r7 : List COper := a_r12_Good_r7
instance : Reg c_r12_Good_r7 a_r12_Good_r7 1 := ⟨rfl, rfl⟩
@[simp] def a_r12_Good_r8 : List COper := [
  ⟨(some 39), .bin .add, [.t 32, .c (.int .i64 1)], none⟩,
  ⟨(some 32), .mov, [.t 39], none⟩]
def c_r12_Good_r8 : List COper := a_r12_Good_r8
instance : Reg c_r12_Good_r8 a_r12_Good_r8 2 := ⟨rfl, rfl⟩
@[simp] def a_r12_Good_r9 : List COper := [
  ⟨(some 2), .mov, [.c (.bool true)], none⟩]
def c_r12_Good_r9 : List COper := a_r12_Good_r9
instance : Reg c_r12_Good_r9 a_r12_Good_r9 1 := ⟨rfl, rfl⟩
@[simp] def c_r12_Good : CCode :=
  .seq (.region c_r12_Good_r0 none [1]) (.seq (.seq (.region c_r12_Good_r1 none [1, 28]) (.cond (.t 28) (.seq (.region c_r12_Good_r2 none [2]) (.ret)) (.skip))) (.seq (.seq (.region c_r12_Good_r3 none [30, 31, 32]) (.block 0 (.loop (.seq (.region c_r12_Good_r4 none [30, 31, 32, 33]) (.seq (.cond (.t 33) (.skip) (.exit 0)) (.seq (.block 1 (.seq (.region c_r12_Good_r5 none [4, 30, 31, 32]) (.seq (.region c_r12_Good_r6 none [30, 31, 32, 38]) (.cond (.t 38) (.seq (.region c_r12_Good_r7 none [2]) (.ret)) (.skip))))) (.region c_r12_Good_r8 none [30, 31, 32]))))))) (.seq (.region c_r12_Good_r9 none [2]) (.ret))))
@[simp] def R_r12_Good : List CRes := [.tmp 2]
theorem k_r12_Good : chkFn Try.prog fn_r12_Good c_r12_Good R_r12_Good 1 = true := by kernel_rfl
/-! wapentake/block.Follows -/
@[simp] def a_block_Follows_r0 : List COper := [
  ⟨(some 5), .box, [.t 0], none⟩,
  ⟨(some 8), .box, [.t 3], none⟩,
  ⟨(some 9), .box, [.t 4], none⟩,
  ⟨(some 10), .mov, [.c (.bool false)], none⟩]
def c_block_Follows_r0 : List COper := a_block_Follows_r0
instance : Reg c_block_Follows_r0 a_block_Follows_r0 4 := ⟨rfl, rfl⟩
@[simp] def a_block_Follows_r1 : List COper := [
  ⟨(some 11), .load true 99, [.t 5], none⟩,
  ⟨(some 12), .call fn_block_Good, [.t 11], none⟩,
  ⟨(some 13), .mov, [.t 12], none⟩,
  ⟨(some 14), .faddr 0 1 false, [.t 5], (some (13, true))⟩,
  ⟨(some 15), .load false 1, [.t 14], (some (13, true))⟩,
  ⟨(some 16), .mov, [.t 1], (some (13, true))⟩,
  ⟨(some 17), .bin .eql, [.t 15, .t 16], (some (13, true))⟩,
  ⟨(some 18), .pick, [.t 13, .t 17, .c (.bool false)], none⟩,
  ⟨(some 19), .mov, [.t 18], none⟩,
  ⟨(some 20), .faddr 1 1 false, [.t 5], (some (19, true))⟩,
  ⟨(some 21), .load false 1, [.t 20], (some (19, true))⟩,
  ⟨(some 22), .mov, [.t 2], (some (19, true))⟩,
  ⟨(some 23), .bin .eql, [.t 21, .t 22], (some (19, true))⟩,
  ⟨(some 24), .pick, [.t 19, .t 23, .c (.bool false)], none⟩,
  ⟨(some 25), .mov, [.t 24], none⟩,
  ⟨(some 26), .faddr 2 32 true, [.t 5], (some (25, true))⟩,
  ⟨(some 27), .load true 32, [.t 26], (some (25, true))⟩,
  ⟨(some 28), .load true 32, [.t 8], (some (25, true))⟩,
  ⟨(some 29), .eqa false .u8 32, [.t 27, .t 28], (some (25, true))⟩,
  ⟨(some 30), .pick, [.t 25, .t 29, .c (.bool false)], none⟩,
  ⟨(some 31), .mov, [.t 30], none⟩,
  ⟨(some 32), .faddr 34 32 true, [.t 5], (some (31, true))⟩,
  ⟨(some 33), .load true 32, [.t 32], (some (31, true))⟩,
  ⟨(some 34), .load true 32, [.t 9], (some (31, true))⟩,
  ⟨(some 35), .eqa false .u8 32, [.t 33, .t 34], (some (31, true))⟩,
  ⟨(some 36), .pick, [.t 31, .t 35, .c (.bool false)], none⟩,
  ⟨(some 10), .mov, [.t 36], none⟩]
def c_block_Follows_r1 : List COper := a_block_Follows_r1
instance : Reg c_block_Follows_r1 a_block_Follows_r1 27 := ⟨rfl, rfl⟩
@[simp] def c_block_Follows : CCode :=
  .seq (.region c_block_Follows_r0 none [1, 2, 5, 8, 9]) (.seq (.region c_block_Follows_r1 none [10]) (.ret))
@[simp] def R_block_Follows : List CRes := [.tmp 10]
theorem k_block_Follows : chkFn Try.prog fn_block_Follows c_block_Follows R_block_Follows 5 = true := by kernel_rfl
/-! wapentake/wapentakeref09.ReplyBytes -/
@[simp] def a_r09_ReplyBytes_r0 : List COper := [
  ⟨(some 1), .box, [.t 0], none⟩,
  ⟨(some 2), .mov, [.c (.string (mkS []))], none⟩]
def c_r09_ReplyBytes_r0 : List COper := a_r09_ReplyBytes_r0
instance : Reg c_r09_ReplyBytes_r0 a_r09_ReplyBytes_r0 2 := ⟨rfl, rfl⟩
@[simp] def a_r09_ReplyBytes_r1 : List COper := [
  ⟨(some 6), .faddr 0 1 false, [.t 1], none⟩,
  ⟨(some 7), .load false 1, [.t 6], none⟩,
  ⟨(some 8), .faddr 1 1 false, [.t 1], none⟩,
  ⟨(some 9), .load false 1, [.t 8], none⟩,
  ⟨(some 10), .faddr 2 1 false, [.t 1], none⟩,
  ⟨(some 11), .load false 1, [.t 10], none⟩,
  ⟨(some 12), .faddr 3 1 false, [.t 1], none⟩,
  ⟨(some 13), .load false 1, [.t 12], none⟩,
  ⟨(some 14), .len, [.t 13], none⟩,
  ⟨(some 15), .bslice 1 4 (.v (.int .i64 0)) [0, 1, 2, 3], [.t 7, .t 9, .t 11, .t 14], none⟩,
  ⟨(some 16), .call fn_r09_nums, [.t 15], none⟩,
  ⟨(some 3), .mov, [.t 16], none⟩]
def c_r09_ReplyBytes_r1 : List COper := a_r09_ReplyBytes_r1
instance : Reg c_r09_ReplyBytes_r1 a_r09_ReplyBytes_r1 12 := ⟨rfl, rfl⟩
@[simp] def a_r09_ReplyBytes_r2 : List COper := [
  ⟨(some 17), .faddr 3 1 false, [.t 1], none⟩,
  ⟨(some 18), .load false 1, [.t 17], none⟩,
  ⟨(some 19), .len, [.t 18], none⟩,
  ⟨(some 20), .mov, [.c (.int .i64 0)], none⟩]
def c_r09_ReplyBytes_r2 : List COper := a_r09_ReplyBytes_r2
instance : Reg c_r09_ReplyBytes_r2 a_r09_ReplyBytes_r2 4 := ⟨rfl, rfl⟩
@[simp] def a_r09_ReplyBytes_r3 : List COper := [
  ⟨(some 21), .bin .lss, [.t 20, .t 19], none⟩]
def c_r09_ReplyBytes_r3 : List COper := a_r09_ReplyBytes_r3
instance : Reg c_r09_ReplyBytes_r3 a_r09_ReplyBytes_r3 1 := ⟨rfl, rfl⟩
@[simp] def a_r09_ReplyBytes_r4 : List COper := [
  ⟨(some 22), .iaddr 1, [.t 18, .t 20], none⟩,
  ⟨(some 23), .load false 1, [.t 22], none⟩,
  ⟨(some 5), .mov, [.t 23], none⟩]
def c_r09_ReplyBytes_r4 : List COper := a_r09_ReplyBytes_r4
instance : Reg c_r09_ReplyBytes_r4 a_r09_ReplyBytes_r4 3 := ⟨rfl, rfl⟩
@[simp] def a_r09_ReplyBytes_r5 : List COper := [
  ⟨(some 24), .mov, [.t 3], none⟩,
  ⟨(some 25), .mov, [.t 5], none⟩,
  ⟨(some 26), .call fn_r01_Text, [.t 25], none⟩,
  ⟨(some 27), .bin .add, [.t 24, .t 26], none⟩,
  ⟨(some 3), .mov, [.t 27], none⟩]
def c_r09_ReplyBytes_r5 : List COper := a_r09_ReplyBytes_r5
instance : Reg c_r09_ReplyBytes_r5 a_r09_ReplyBytes_r5 5 := ⟨rfl, rfl⟩
@[simp] def a_r09_ReplyBytes_r6 : List COper := [
  ⟨(some 28), .bin .add, [.t 20, .c (.int .i64 1)], none⟩,
  ⟨(some 20), .mov, [.t 28], none⟩]
def c_r09_ReplyBytes_r6 : List COper := a_r09_ReplyBytes_r6
instance : Reg c_r09_ReplyBytes_r6 a_r09_ReplyBytes_r6 2 := ⟨rfl, rfl⟩
@[simp] def a_r09_ReplyBytes_r7 : List COper := [
  ⟨(some 29), .mov, [.t 3], none⟩,
  ⟨(some 2), .mov, [.t 29], none⟩]
def c_r09_ReplyBytes_r7 : List COper := a_r09_ReplyBytes_r7
instance : Reg c_r09_ReplyBytes_r7 a_r09_ReplyBytes_r7 2 := ⟨rfl, rfl⟩
@[simp] def c_r09_ReplyBytes : CCode :=
  .seq (.region c_r09_ReplyBytes_r0 none [1]) (.seq (.region c_r09_ReplyBytes_r1 none [1, 3]) (.seq (.seq (.region c_r09_ReplyBytes_r2 none [3, 18, 19, 20]) (.block 0 (.loop (.seq (.region c_r09_ReplyBytes_r3 none [3, 18, 19, 20, 21]) (.seq (.cond (.t 21) (.skip) (.exit 0)) (.seq (.block 1 (.seq (.region c_r09_ReplyBytes_r4 none [3, 5, 18, 19, 20]) (.region c_r09_ReplyBytes_r5 none [3, 18, 19, 20]))) (.region c_r09_ReplyBytes_r6 none [3, 18, 19, 20]))))))) (.seq (.region c_r09_ReplyBytes_r7 none [2]) (.ret))))
@[simp] def R_r09_ReplyBytes : List CRes := [.tmp 2]
theorem k_r09_ReplyBytes : chkFn Try.prog fn_r09_ReplyBytes c_r09_ReplyBytes R_r09_ReplyBytes 1 = true := by kernel_rfl
/-! wapentake/wapentakeref09.Same -/
@[simp] def a_r09_Same_r0 : List COper := [
  ⟨(some 2), .box, [.t 0], none⟩,
  ⟨(some 3), .box, [.t 1], none⟩,
  ⟨(some 4), .mov, [.c (.bool false)], none⟩]
def c_r09_Same_r0 : List COper := a_r09_Same_r0
instance : Reg c_r09_Same_r0 a_r09_Same_r0 3 := ⟨rfl, rfl⟩
@[simp] def a_r09_Same_r1 : List COper := [
  ⟨(some 5), .faddr 0 1 false, [.t 2], none⟩,
  ⟨(some 6), .load false 1, [.t 5], none⟩,
  ⟨(some 7), .faddr 0 1 false, [.t 3], none⟩,
  ⟨(some 8), .load false 1, [.t 7], none⟩,
  ⟨(some 9), .bin .eql, [.t 6, .t 8], none⟩,
  ⟨(some 10), .mov, [.t 9], none⟩,
  ⟨(some 11), .faddr 1 1 false, [.t 2], (some (10, true))⟩,
  ⟨(some 12), .load false 1, [.t 11], (some (10, true))⟩,
  ⟨(some 13), .faddr 1 1 false, [.t 3], (some (10, true))⟩,
  ⟨(some 14), .load false 1, [.t 13], (some (10, true))⟩,
  ⟨(some 15), .bin .eql, [.t 12, .t 14], (some (10, true))⟩,
  ⟨(some 16), .pick, [.t 10, .t 15, .c (.bool false)], none⟩,
  ⟨(some 17), .mov, [.t 16], none⟩,
  ⟨(some 18), .faddr 2 1 false, [.t 2], (some (17, true))⟩,
  ⟨(some 19), .load false 1, [.t 18], (some (17, true))⟩,
  ⟨(some 20), .faddr 2 1 false, [.t 3], (some (17, true))⟩,
  ⟨(some 21), .load false 1, [.t 20], (some (17, true))⟩,
  ⟨(some 22), .bin .eql, [.t 19, .t 21], (some (17, true))⟩,
  ⟨(some 23), .pick, [.t 17, .t 22, .c (.bool false)], none⟩,
  ⟨(some 24), .mov, [.t 23], none⟩,
  ⟨(some 25), .faddr 3 1 false, [.t 2], (some (24, true))⟩,
  ⟨(some 26), .load false 1, [.t 25], (some (24, true))⟩,
  ⟨(some 27), .faddr 3 1 false, [.t 3], (some (24, true))⟩,
  ⟨(some 28), .load false 1, [.t 27], (some (24, true))⟩,
  ⟨(some 29), .call fn_r09_Texts, [.t 26, .t 28], (some (24, true))⟩,
  ⟨(some 30), .pick, [.t 24, .t 29, .c (.bool false)], none⟩,
  ⟨(some 4), .mov, [.t 30], none⟩]
def c_r09_Same_r1 : List COper := a_r09_Same_r1
instance : Reg c_r09_Same_r1 a_r09_Same_r1 27 := ⟨rfl, rfl⟩
@[simp] def c_r09_Same : CCode :=
  .seq (.region c_r09_Same_r0 none [2, 3]) (.seq (.region c_r09_Same_r1 none [4]) (.ret))
@[simp] def R_r09_Same : List CRes := [.tmp 4]
theorem k_r09_Same : chkFn Try.prog fn_r09_Same c_r09_Same R_r09_Same 2 = true := by kernel_rfl
/-! wapentake/code.Read -/
@[simp] def a_code_Read_r0 : List COper := [
  ⟨(some 2), .mov, [.c (.pointer none)], none⟩]
def c_code_Read_r0 : List COper := a_code_Read_r0
instance : Reg c_code_Read_r0 a_code_Read_r0 1 := ⟨rfl, rfl⟩
@[simp] def a_code_Read_r1 : List COper := [
  ⟨(some 3), .bslice 1 0 (.v (.int .u8 0)) [], [], none⟩,
  ⟨(some 4), .mov, [.t 0], none⟩,
  ⟨(some 5), .app 1 1, [.t 3, .t 4], none⟩,
  ⟨(some 6), .build [.v (.slice none 0 0), .v (.bool false)] [0], [.t 5], none⟩,
  ⟨(some 7), .box, [.t 6], none⟩,
  ⟨(some 2), .mov, [.t 7], none⟩]
def c_code_Read_r1 : List COper := a_code_Read_r1
instance : Reg c_code_Read_r1 a_code_Read_r1 6 := ⟨rfl, rfl⟩
@[simp] def c_code_Read : CCode :=
  .seq (.region c_code_Read_r0 none [0]) (.seq (.region c_code_Read_r1 none [2]) (.ret))
@[simp] def R_code_Read : List CRes := [.tmp 2]
theorem k_code_Read : chkFn Try.prog fn_code_Read c_code_Read R_code_Read 1 = true := by kernel_rfl
/-! wapentake/request.ReadReply -/
@[simp] def a_request_ReadReply_r0 : List COper := [
  ⟨(some 2), .alloc (.node [.v (.int .i64 0), .v (.int .i64 0), .v (.int .i64 0), .v (.slice none 0 0)]), [], none⟩]
def c_request_ReadReply_r0 : List COper := a_request_ReadReply_r0
instance : Reg c_request_ReadReply_r0 a_request_ReadReply_r0 1 := ⟨rfl, rfl⟩
@[simp] def a_request_ReadReply_r1 : List COper := [
  ⟨(some 4), .mov, [.t 0], none⟩,
  ⟨(some 5), .call fn_code_Reader_In, [.t 4, .c (.int .i64 1), .c (.int .i64 64)], none⟩,
  ⟨(some 6), .mov, [.t 0], none⟩,
  ⟨(some 7), .call fn_code_Reader_In, [.t 6, .c (.int .i64 1), .c (.int .i64 1099511627776)], none⟩,
  ⟨(some 8), .mov, [.t 0], none⟩,
  ⟨(some 9), .call fn_code_Reader_In, [.t 8, .c (.int .i64 0), .c (.int .i64 1024)], none⟩,
  ⟨(some 10), .build [.v (.int .i64 0), .v (.int .i64 0), .v (.int .i64 0), .v (.slice none 0 0)] [0, 1, 2], [.t 5, .t 7, .t 9], none⟩,
  ⟨(some 3), .alloc (.node [.v (.int .i64 0), .v (.int .i64 0), .v (.int .i64 0), .v (.slice none 0 0)]), [], none⟩,
  ⟨none, .store true 4, [.t 3, .t 10], none⟩]
def c_request_ReadReply_r1 : List COper := a_request_ReadReply_r1
instance : Reg c_request_ReadReply_r1 a_request_ReadReply_r1 9 := ⟨rfl, rfl⟩
@[simp] def a_request_ReadReply_r2 : List COper := [
  ⟨(some 11), .mov, [.t 0], none⟩,
  ⟨(some 12), .call fn_code_Reader_In, [.t 11, .c (.int .i64 0), .c (.int .i64 256)], none⟩,
  ⟨(some 13), .mov, [.c (.int .i64 0)], none⟩]
def c_request_ReadReply_r2 : List COper := a_request_ReadReply_r2
instance : Reg c_request_ReadReply_r2 a_request_ReadReply_r2 3 := ⟨rfl, rfl⟩
@[simp] def a_request_ReadReply_r3 : List COper := [
  ⟨(some 14), .bin .lss, [.t 13, .t 12], none⟩]
def c_request_ReadReply_r3 : List COper := a_request_ReadReply_r3
instance : Reg c_request_ReadReply_r3 a_request_ReadReply_r3 1 := ⟨rfl, rfl⟩
@[simp] def a_request_ReadReply_r4 : List COper := [
  ⟨(some 15), .faddr 3 1 false, [.t 3], none⟩,
  ⟨(some 16), .load false 1, [.t 15], none⟩,
  ⟨(some 17), .mov, [.t 0], none⟩,
  ⟨(some 18), .call fn_code_Reader_Text, [.t 17, .c (.int .i64 1024)], none⟩,
  ⟨(some 19), .bslice 1 1 (.v (.string (mkS []))) [0], [.t 18], none⟩,
  ⟨(some 20), .app 1 16, [.t 16, .t 19], none⟩,
  ⟨(some 21), .faddr 3 1 false, [.t 3], none⟩,
  ⟨none, .store false 1, [.t 21, .t 20], none⟩]
def c_request_ReadReply_r4 : List COper := a_request_ReadReply_r4
instance : Reg c_request_ReadReply_r4 a_request_ReadReply_r4 8 := ⟨rfl, rfl⟩
@[simp] def a_request_ReadReply_r5 : List COper := [
  ⟨(some 22), .bin .add, [.t 13, .c (.int .i64 1)], none⟩,
  ⟨(some 13), .mov, [.t 22], none⟩]
def c_request_ReadReply_r5 : List COper := a_request_ReadReply_r5
instance : Reg c_request_ReadReply_r5 a_request_ReadReply_r5 2 := ⟨rfl, rfl⟩
@[simp] def a_request_ReadReply_r6 : List COper := [
  ⟨(some 23), .mov, [.t 0], none⟩,
  ⟨(some 24), .call fn_code_Reader_Good, [.t 23], none⟩,
  ⟨(some 25), .not, [.t 24], none⟩]
def c_request_ReadReply_r6 : List COper := a_request_ReadReply_r6
instance : Reg c_request_ReadReply_r6 a_request_ReadReply_r6 3 := ⟨rfl, rfl⟩
@[simp] def a_request_ReadReply_r7 : List COper := [
  ⟨(some 26), .build [.v (.int .i64 0), .v (.int .i64 0), .v (.int .i64 0), .v (.slice none 0 0)] [], [], none⟩,
  ⟨none, .store true 4, [.t 2, .t 26], none⟩]
def c_request_ReadReply_r7 : List COper := a_request_ReadReply_r7
instance : Reg c_request_ReadReply_r7 a_request_ReadReply_r7 2 := ⟨rfl, rfl⟩
@[simp] def a_request_ReadReply_r8 : List COper := [
  ⟨(some 27), .load true 4, [.t 3], none⟩,
  ⟨none, .store true 4, [.t 2, .t 27], none⟩]
def c_request_ReadReply_r8 : List COper := a_request_ReadReply_r8
instance : Reg c_request_ReadReply_r8 a_request_ReadReply_r8 2 := ⟨rfl, rfl⟩
@[simp] def c_request_ReadReply : CCode :=
  .seq (.region c_request_ReadReply_r0 none [0, 2]) (.seq (.region c_request_ReadReply_r1 none [0, 2, 3]) (.seq (.seq (.region c_request_ReadReply_r2 none [0, 2, 3, 12, 13]) (.block 0 (.loop (.seq (.region c_request_ReadReply_r3 none [0, 2, 3, 12, 13, 14]) (.seq (.cond (.t 14) (.skip) (.exit 0)) (.seq (.block 1 (.region c_request_ReadReply_r4 (some ([0, 1, 0, 4, 12, 31, 63, 127], [(1, 3), (1, 4)])) [0, 2, 3, 12, 13])) (.region c_request_ReadReply_r5 none [0, 2, 3, 12, 13]))))))) (.seq (.seq (.region c_request_ReadReply_r6 none [2, 3, 25]) (.cond (.t 25) (.seq (.region c_request_ReadReply_r7 none [2]) (.ret)) (.skip))) (.seq (.region c_request_ReadReply_r8 none [2]) (.ret)))))
@[simp] def R_request_ReadReply : List CRes := [.cell 2 true 4]
theorem k_request_ReadReply : chkFn Try.prog fn_request_ReadReply c_request_ReadReply R_request_ReadReply 1 = true := by kernel_rfl
/-! wapentake/wapentakeref09.ReadReply -/
@[simp] def a_r09_ReadReply_r0 : List COper := [
  ⟨(some 2), .alloc (.node [.v (.int .i64 0), .v (.int .i64 0), .v (.int .i64 0), .v (.slice none 0 0)]), [], none⟩]
def c_r09_ReadReply_r0 : List COper := a_r09_ReadReply_r0
instance : Reg c_r09_ReadReply_r0 a_r09_ReadReply_r0 1 := ⟨rfl, rfl⟩
@[simp] def a_r09_ReadReply_r1 : List COper := [
  ⟨(some 3), .alloc (.node [.v (.int .i64 0), .v (.int .i64 0), .v (.int .i64 0), .v (.slice none 0 0)]), [], none⟩]
def c_r09_ReadReply_r1 : List COper := a_r09_ReadReply_r1
instance : Reg c_r09_ReadReply_r1 a_r09_ReadReply_r1 1 := ⟨rfl, rfl⟩
@[simp] def a_r09_ReadReply_r2 : List COper := [
  ⟨(some 6), .mov, [.t 0], none⟩,
  ⟨(some 7), .call fn_r01_Reader_In, [.t 6, .c (.int .i64 1), .c (.int .i64 64)], none⟩,
  ⟨(some 8), .faddr 0 1 false, [.t 3], none⟩,
  ⟨none, .store false 1, [.t 8, .t 7], none⟩]
def c_r09_ReadReply_r2 : List COper := a_r09_ReadReply_r2
instance : Reg c_r09_ReadReply_r2 a_r09_ReadReply_r2 4 := ⟨rfl, rfl⟩
@[simp] def a_r09_ReadReply_r3 : List COper := [
  ⟨(some 9), .mov, [.t 0], none⟩,
  ⟨(some 10), .call fn_r01_Reader_In, [.t 9, .c (.int .i64 1), .c (.int .i64 1099511627776)], none⟩,
  ⟨(some 11), .faddr 1 1 false, [.t 3], none⟩,
  ⟨none, .store false 1, [.t 11, .t 10], none⟩]
def c_r09_ReadReply_r3 : List COper := a_r09_ReadReply_r3
instance : Reg c_r09_ReadReply_r3 a_r09_ReadReply_r3 4 := ⟨rfl, rfl⟩
@[simp] def a_r09_ReadReply_r4 : List COper := [
  ⟨(some 12), .mov, [.t 0], none⟩,
  ⟨(some 13), .call fn_r01_Reader_In, [.t 12, .c (.int .i64 0), .c (.int .i64 1024)], none⟩,
  ⟨(some 14), .faddr 2 1 false, [.t 3], none⟩,
  ⟨none, .store false 1, [.t 14, .t 13], none⟩]
def c_r09_ReadReply_r4 : List COper := a_r09_ReadReply_r4
instance : Reg c_r09_ReadReply_r4 a_r09_ReadReply_r4 4 := ⟨rfl, rfl⟩
@[simp] def a_r09_ReadReply_r5 : List COper := [
  ⟨(some 15), .mov, [.t 0], none⟩,
  ⟨(some 16), .call fn_r01_Reader_In, [.t 15, .c (.int .i64 0), .c (.int .i64 256)], none⟩,
  ⟨(some 4), .mov, [.t 16], none⟩]
def c_r09_ReadReply_r5 : List COper := a_r09_ReadReply_r5
instance : Reg c_r09_ReadReply_r5 a_r09_ReadReply_r5 3 := ⟨rfl, rfl⟩
@[simp] def a_r09_ReadReply_r6 : List COper := [
  ⟨(some 5), .mov, [.c (.int .i64 0)], none⟩]
def c_r09_ReadReply_r6 : List COper := a_r09_ReadReply_r6
instance : Reg c_r09_ReadReply_r6 a_r09_ReadReply_r6 1 := ⟨rfl, rfl⟩
@[simp] def a_r09_ReadReply_r7 : List COper := [
  ⟨(some 17), .mov, [.t 5], none⟩,
  ⟨(some 18), .mov, [.t 4], none⟩,
  ⟨(some 19), .bin .lss, [.t 17, .t 18], none⟩,
  ⟨(some 20), .mov, [.t 19], none⟩,
  ⟨(some 21), .mov, [.t 0], (some (20, true))⟩,
  ⟨(some 22), .call fn_r01_Reader_Good, [.t 21], (some (20, true))⟩,
  ⟨(some 23), .pick, [.t 20, .t 22, .c (.bool false)], none⟩]
def c_r09_ReadReply_r7 : List COper := a_r09_ReadReply_r7
instance : Reg c_r09_ReadReply_r7 a_r09_ReadReply_r7 7 := ⟨rfl, rfl⟩
@[simp] def a_r09_ReadReply_r9 : List COper := [
  ⟨(some 26), .faddr 3 1 false, [.t 3], none⟩,
  ⟨(some 27), .load false 1, [.t 26], none⟩,
  ⟨(some 28), .mov, [.t 0], none⟩,
  ⟨(some 29), .call fn_r01_Reader_Text, [.t 28, .c (.int .i64 1024)], none⟩,
  ⟨(some 30), .bslice 1 1 (.v (.string (mkS []))) [0], [.t 29], none⟩,
  ⟨(some 31), .app 1 16, [.t 27, .t 30], none⟩,
  ⟨(some 32), .faddr 3 1 false, [.t 3], none⟩,
  ⟨none, .store false 1, [.t 32, .t 31], none⟩]
def c_r09_ReadReply_r9 : List COper := a_r09_ReadReply_r9
instance : Reg c_r09_ReadReply_r9 a_r09_ReadReply_r9 8 := ⟨rfl, rfl⟩
@[simp] def a_r09_ReadReply_r8 : List COper := [
  ⟨(some 24), .mov, [.t 5], none⟩,
  ⟨(some 25), .bin .add, [.t 24, .c (.int .i64 1)], none⟩,
  ⟨(some 5), .mov, [.t 25], none⟩]
def c_r09_ReadReply_r8 : List COper := a_r09_ReadReply_r8
instance : Reg c_r09_ReadReply_r8 a_r09_ReadReply_r8 3 := ⟨rfl, rfl⟩
@[simp] def a_r09_ReadReply_r10 : List COper := [
  ⟨(some 33), .mov, [.t 0], none⟩,
  ⟨(some 34), .call fn_r01_Reader_Good, [.t 33], none⟩,
  ⟨(some 35), .not, [.t 34], none⟩]
def c_r09_ReadReply_r10 : List COper := a_r09_ReadReply_r10
instance : Reg c_r09_ReadReply_r10 a_r09_ReadReply_r10 3 := ⟨rfl, rfl⟩
@[simp] def a_r09_ReadReply_r11 : List COper := [
  ⟨(some 36), .build [.v (.int .i64 0), .v (.int .i64 0), .v (.int .i64 0), .v (.slice none 0 0)] [], [], none⟩,
  ⟨none, .store true 4, [.t 2, .t 36], none⟩]
def c_r09_ReadReply_r11 : List COper := a_r09_ReadReply_r11
instance : Reg c_r09_ReadReply_r11 a_r09_ReadReply_r11 2 := ⟨rfl, rfl⟩
@[simp] def a_r09_ReadReply_r12 : List COper := [
  ⟨(some 37), .load true 4, [.t 3], none⟩,
  ⟨none, .store true 4, [.t 2, .t 37], none⟩]
def c_r09_ReadReply_r12 : List COper := a_r09_ReadReply_r12
instance : Reg c_r09_ReadReply_r12 a_r09_ReadReply_r12 2 := ⟨rfl, rfl⟩
@[simp] def c_r09_ReadReply : CCode :=
  .seq (.region c_r09_ReadReply_r0 none [0, 2]) (.seq (.region c_r09_ReadReply_r1 none [0, 2, 3]) (.seq (.region c_r09_ReadReply_r2 none [0, 2, 3]) (.seq (.region c_r09_ReadReply_r3 none [0, 2, 3]) (.seq (.region c_r09_ReadReply_r4 none [0, 2, 3]) (.seq (.region c_r09_ReadReply_r5 none [0, 2, 3, 4]) (.seq (.seq (.region c_r09_ReadReply_r6 none [0, 2, 3, 4, 5]) (.block 0 (.loop (.seq (.seq (.region c_r09_ReadReply_r7 none [0, 2, 3, 4, 5, 23]) (.cond (.t 23) (.skip) (.exit 0))) (.seq (.block 1 (.region c_r09_ReadReply_r9 (some ([0, 1, 0, 4, 12, 31, 63, 127], [(1, 3), (1, 4)])) [0, 2, 3, 4, 5])) (.region c_r09_ReadReply_r8 none [0, 2, 3, 4, 5])))))) (.seq (.seq (.region c_r09_ReadReply_r10 none [2, 3, 35]) (.cond (.t 35) (.seq (.region c_r09_ReadReply_r11 none [2]) (.ret)) (.skip))) (.seq (.region c_r09_ReadReply_r12 none [2]) (.ret)))))))))
@[simp] def R_r09_ReadReply : List CRes := [.cell 2 true 4]
theorem k_r09_ReadReply : chkFn Try.prog fn_r09_ReadReply c_r09_ReadReply R_r09_ReadReply 1 = true := by kernel_rfl
/-! (*wapentake/code.Reader).Good -/
@[simp] def a_code_Reader_Good_r0 : List COper := [
  ⟨(some 2), .mov, [.c (.bool false)], none⟩]
def c_code_Reader_Good_r0 : List COper := a_code_Reader_Good_r0
instance : Reg c_code_Reader_Good_r0 a_code_Reader_Good_r0 1 := ⟨rfl, rfl⟩
@[simp] def a_code_Reader_Good_r1 : List COper := [
  ⟨(some 3), .mov, [.t 0], none⟩,
  ⟨(some 4), .eqp true, [.t 3, .c (.pointer none)], none⟩,
  ⟨(some 5), .mov, [.t 4], none⟩,
  ⟨(some 6), .mov, [.t 0], (some (5, true))⟩,
  ⟨(some 7), .nilc, [.t 6], (some (5, true))⟩,
  ⟨(some 8), .faddr 1 1 false, [.t 7], (some (5, true))⟩,
  ⟨(some 9), .load false 1, [.t 8], (some (5, true))⟩,
  ⟨(some 10), .not, [.t 9], (some (5, true))⟩,
  ⟨(some 11), .pick, [.t 5, .t 10, .c (.bool false)], none⟩,
  ⟨(some 2), .mov, [.t 11], none⟩]
def c_code_Reader_Good_r1 : List COper := a_code_Reader_Good_r1
instance : Reg c_code_Reader_Good_r1 a_code_Reader_Good_r1 10 := ⟨rfl, rfl⟩
@[simp] def c_code_Reader_Good : CCode :=
  .seq (.region c_code_Reader_Good_r0 none [0]) (.seq (.region c_code_Reader_Good_r1 none [2]) (.ret))
@[simp] def R_code_Reader_Good : List CRes := [.tmp 2]
theorem k_code_Reader_Good : chkFn Try.prog fn_code_Reader_Good c_code_Reader_Good R_code_Reader_Good 1 = true := by kernel_rfl
/-! (*wapentake/wapentakeref01.Reader).Good -/
@[simp] def a_r01_Reader_Good_r0 : List COper := [
  ⟨(some 2), .mov, [.c (.bool false)], none⟩]
def c_r01_Reader_Good_r0 : List COper := a_r01_Reader_Good_r0
instance : Reg c_r01_Reader_Good_r0 a_r01_Reader_Good_r0 1 := ⟨rfl, rfl⟩
@[simp] def a_r01_Reader_Good_r1 : List COper := [
  ⟨(some 3), .mov, [.t 0], none⟩,
  ⟨(some 4), .nilc, [.t 3], none⟩,
  ⟨(some 5), .faddr 1 1 false, [.t 4], none⟩,
  ⟨(some 6), .load false 1, [.t 5], none⟩,
  ⟨(some 7), .not, [.t 6], none⟩,
  ⟨(some 2), .mov, [.t 7], none⟩]
def c_r01_Reader_Good_r1 : List COper := a_r01_Reader_Good_r1
instance : Reg c_r01_Reader_Good_r1 a_r01_Reader_Good_r1 6 := ⟨rfl, rfl⟩
@[simp] def c_r01_Reader_Good : CCode :=
  .seq (.region c_r01_Reader_Good_r0 none [0]) (.seq (.region c_r01_Reader_Good_r1 none [2]) (.ret))
@[simp] def R_r01_Reader_Good : List CRes := [.tmp 2]
theorem k_r01_Reader_Good : chkFn Try.prog fn_r01_Reader_Good c_r01_Reader_Good R_r01_Reader_Good 1 = true := by kernel_rfl
/-! (*wapentake/code.Reader).End -/
@[simp] def a_code_Reader_End_r0 : List COper := [
  ⟨(some 2), .mov, [.c (.bool false)], none⟩]
def c_code_Reader_End_r0 : List COper := a_code_Reader_End_r0
instance : Reg c_code_Reader_End_r0 a_code_Reader_End_r0 1 := ⟨rfl, rfl⟩
@[simp] def a_code_Reader_End_r1 : List COper := [
  ⟨(some 3), .mov, [.t 0], none⟩,
  ⟨(some 4), .call fn_code_Reader_Good, [.t 3], none⟩,
  ⟨(some 5), .mov, [.t 4], none⟩,
  ⟨(some 6), .mov, [.t 0], (some (5, true))⟩,
  ⟨(some 7), .nilc, [.t 6], (some (5, true))⟩,
  ⟨(some 8), .faddr 0 1 false, [.t 7], (some (5, true))⟩,
  ⟨(some 9), .load false 1, [.t 8], (some (5, true))⟩,
  ⟨(some 10), .len, [.t 9], (some (5, true))⟩,
  ⟨(some 11), .bin .eql, [.t 10, .c (.int .i64 0)], (some (5, true))⟩,
  ⟨(some 12), .pick, [.t 5, .t 11, .c (.bool false)], none⟩,
  ⟨(some 2), .mov, [.t 12], none⟩]
def c_code_Reader_End_r1 : List COper := a_code_Reader_End_r1
instance : Reg c_code_Reader_End_r1 a_code_Reader_End_r1 11 := ⟨rfl, rfl⟩
@[simp] def c_code_Reader_End : CCode :=
  .seq (.region c_code_Reader_End_r0 none [0]) (.seq (.region c_code_Reader_End_r1 none [2]) (.ret))
@[simp] def R_code_Reader_End : List CRes := [.tmp 2]
theorem k_code_Reader_End : chkFn Try.prog fn_code_Reader_End c_code_Reader_End R_code_Reader_End 1 = true := by kernel_rfl
/-! (*wapentake/wapentakeref01.Reader).End -/
@[simp] def a_r01_Reader_End_r0 : List COper := [
  ⟨(some 2), .mov, [.c (.bool false)], none⟩]
def c_r01_Reader_End_r0 : List COper := a_r01_Reader_End_r0
instance : Reg c_r01_Reader_End_r0 a_r01_Reader_End_r0 1 := ⟨rfl, rfl⟩
@[simp] def a_r01_Reader_End_r1 : List COper := [
  ⟨(some 3), .mov, [.t 0], none⟩,
  ⟨(some 4), .nilc, [.t 3], none⟩,
  ⟨(some 5), .faddr 1 1 false, [.t 4], none⟩,
  ⟨(some 6), .load false 1, [.t 5], none⟩,
  ⟨(some 7), .not, [.t 6], none⟩,
  ⟨(some 8), .mov, [.t 7], none⟩,
  ⟨(some 9), .mov, [.t 0], (some (8, true))⟩,
  ⟨(some 10), .nilc, [.t 9], (some (8, true))⟩,
  ⟨(some 11), .faddr 0 1 false, [.t 10], (some (8, true))⟩,
  ⟨(some 12), .load false 1, [.t 11], (some (8, true))⟩,
  ⟨(some 13), .bin .eql, [.t 12, .c (.string (mkS []))], (some (8, true))⟩,
  ⟨(some 14), .pick, [.t 8, .t 13, .c (.bool false)], none⟩,
  ⟨(some 2), .mov, [.t 14], none⟩]
def c_r01_Reader_End_r1 : List COper := a_r01_Reader_End_r1
instance : Reg c_r01_Reader_End_r1 a_r01_Reader_End_r1 13 := ⟨rfl, rfl⟩
@[simp] def c_r01_Reader_End : CCode :=
  .seq (.region c_r01_Reader_End_r0 none [0]) (.seq (.region c_r01_Reader_End_r1 none [2]) (.ret))
@[simp] def R_r01_Reader_End : List CRes := [.tmp 2]
theorem k_r01_Reader_End : chkFn Try.prog fn_r01_Reader_End c_r01_Reader_End R_r01_Reader_End 1 = true := by kernel_rfl
/-! wapentake/wapentakelaw09.long -/
@[simp] def a_l09_long_r0 : List COper := [
  ⟨(some 1), .box, [.t 0], none⟩,
  ⟨(some 2), .mov, [.c (.bool false)], none⟩]
def c_l09_long_r0 : List COper := a_l09_long_r0
instance : Reg c_l09_long_r0 a_l09_long_r0 2 := ⟨rfl, rfl⟩
@[simp] def a_l09_long_r1 : List COper := [
  ⟨(some 3), .faddr 2 40 true, [.t 1], none⟩,
  ⟨(some 4), .faddr 1 1 false, [.t 3], none⟩,
  ⟨(some 5), .load false 1, [.t 4], none⟩,
  ⟨(some 6), .lenS, [.t 5], none⟩,
  ⟨(some 7), .bin .gtr, [.t 6, .c (.int .i64 4096)], none⟩,
  ⟨(some 8), .mov, [.t 7], none⟩,
  ⟨(some 9), .faddr 2 40 true, [.t 1], (some (8, false))⟩,
  ⟨(some 10), .faddr 2 1 false, [.t 9], (some (8, false))⟩,
  ⟨(some 11), .load false 1, [.t 10], (some (8, false))⟩,
  ⟨(some 12), .lenS, [.t 11], (some (8, false))⟩,
  ⟨(some 13), .bin .gtr, [.t 12, .c (.int .i64 4096)], (some (8, false))⟩,
  ⟨(some 14), .pick, [.t 8, .c (.bool true), .t 13], none⟩,
  ⟨(some 15), .mov, [.t 14], none⟩,
  ⟨(some 16), .faddr 2 40 true, [.t 1], (some (15, false))⟩,
  ⟨(some 17), .faddr 3 1 false, [.t 16], (some (15, false))⟩,
  ⟨(some 18), .load false 1, [.t 17], (some (15, false))⟩,
  ⟨(some 19), .lenS, [.t 18], (some (15, false))⟩,
  ⟨(some 20), .bin .gtr, [.t 19, .c (.int .i64 4096)], (some (15, false))⟩,
  ⟨(some 21), .pick, [.t 15, .c (.bool true), .t 20], none⟩,
  ⟨(some 2), .mov, [.t 21], none⟩]
def c_l09_long_r1 : List COper := a_l09_long_r1
instance : Reg c_l09_long_r1 a_l09_long_r1 20 := ⟨rfl, rfl⟩
@[simp] def c_l09_long : CCode :=
  .seq (.region c_l09_long_r0 none [1]) (.seq (.region c_l09_long_r1 none [2]) (.ret))
@[simp] def R_l09_long : List CRes := [.tmp 2]
theorem k_l09_long : chkFn Try.prog fn_l09_long c_l09_long R_l09_long 1 = true := by kernel_rfl
/-! wapentake/request.Read -/
@[simp] def a_request_Read_r0 : List COper := [
  ⟨(some 2), .alloc (.node [.v (.int .i64 0), .v (.int .i64 0), .node [.v (.int .i64 0), .v (.string (mkS [])), .v (.string (mkS [])), .v (.string (mkS [])), .node [.v (.int .i64 0), .v (.int .i64 0), .v (.int .i64 0), .node [.arr 1 (rep 32 (.v (.int .u8 0))), .v (.int .i64 0)]]]]), [], none⟩]
def c_request_Read_r0 : List COper := a_request_Read_r0
instance : Reg c_request_Read_r0 a_request_Read_r0 1 := ⟨rfl, rfl⟩
@[simp] def a_request_Read_r1 : List COper := [
  ⟨(some 4), .mov, [.t 0], none⟩,
  ⟨(some 5), .call fn_code_Reader_In, [.t 4, .c (.int .i64 1), .c (.int .i64 64)], none⟩,
  ⟨(some 6), .mov, [.t 0], none⟩,
  ⟨(some 7), .call fn_code_Reader_In, [.t 6, .c (.int .i64 1), .c (.int .i64 1099511627776)], none⟩,
  ⟨(some 8), .build [.v (.int .i64 0), .v (.int .i64 0), .node [.v (.int .i64 0), .v (.string (mkS [])), .v (.string (mkS [])), .v (.string (mkS [])), .node [.v (.int .i64 0), .v (.int .i64 0), .v (.int .i64 0), .node [.arr 1 (rep 32 (.v (.int .u8 0))), .v (.int .i64 0)]]]] [0, 1], [.t 5, .t 7], none⟩,
  ⟨(some 3), .alloc (.node [.v (.int .i64 0), .v (.int .i64 0), .node [.v (.int .i64 0), .v (.string (mkS [])), .v (.string (mkS [])), .v (.string (mkS [])), .node [.v (.int .i64 0), .v (.int .i64 0), .v (.int .i64 0), .node [.arr 1 (rep 32 (.v (.int .u8 0))), .v (.int .i64 0)]]]]), [], none⟩,
  ⟨none, .store true 42, [.t 3, .t 8], none⟩]
def c_request_Read_r1 : List COper := a_request_Read_r1
instance : Reg c_request_Read_r1 a_request_Read_r1 7 := ⟨rfl, rfl⟩
@[simp] def a_request_Read_r2 : List COper := [
  ⟨(some 9), .mov, [.t 0], none⟩,
  ⟨(some 10), .call fn_code_Reader_In, [.t 9, .c (.int .i64 1), .c (.int .i64 7)], none⟩,
  ⟨(some 11), .faddr 2 40 true, [.t 3], none⟩,
  ⟨(some 12), .faddr 0 1 false, [.t 11], none⟩,
  ⟨none, .store false 1, [.t 12, .t 10], none⟩]
def c_request_Read_r2 : List COper := a_request_Read_r2
instance : Reg c_request_Read_r2 a_request_Read_r2 5 := ⟨rfl, rfl⟩
@[simp] def a_request_Read_r3 : List COper := [
  ⟨(some 13), .mov, [.t 0], none⟩,
  ⟨(some 14), .call fn_code_Reader_Text, [.t 13, .c (.int .i64 1024)], none⟩,
  ⟨(some 15), .mov, [.t 0], none⟩,
  ⟨(some 16), .call fn_code_Reader_Text, [.t 15, .c (.int .i64 1024)], none⟩,
  ⟨(some 17), .mov, [.t 0], none⟩,
  ⟨(some 18), .call fn_code_Reader_Text, [.t 17, .c (.int .i64 1024)], none⟩,
  ⟨(some 19), .faddr 2 40 true, [.t 3], none⟩,
  ⟨(some 20), .faddr 1 1 false, [.t 19], none⟩,
  ⟨none, .store false 1, [.t 20, .t 14], none⟩,
  ⟨(some 21), .faddr 2 40 true, [.t 3], none⟩,
  ⟨(some 22), .faddr 2 1 false, [.t 21], none⟩,
  ⟨none, .store false 1, [.t 22, .t 16], none⟩,
  ⟨(some 23), .faddr 2 40 true, [.t 3], none⟩,
  ⟨(some 24), .faddr 3 1 false, [.t 23], none⟩,
  ⟨none, .store false 1, [.t 24, .t 18], none⟩]
def c_request_Read_r3 : List COper := a_request_Read_r3
instance : Reg c_request_Read_r3 a_request_Read_r3 15 := ⟨rfl, rfl⟩
@[simp] def a_request_Read_r4 : List COper := [
  ⟨(some 25), .mov, [.t 0], none⟩,
  ⟨(some 26), .call fn_code_Reader_Num, [.t 25], none⟩,
  ⟨(some 27), .mov, [.t 0], none⟩,
  ⟨(some 28), .call fn_code_Reader_Num, [.t 27], none⟩,
  ⟨(some 29), .mov, [.t 0], none⟩,
  ⟨(some 30), .call fn_code_Reader_Num, [.t 29], none⟩,
  ⟨(some 31), .mov, [.t 0], none⟩,
  ⟨(some 32), .call fn_code_Reader_Num, [.t 31], none⟩,
  ⟨(some 33), .build [.arr 1 (rep 32 (.v (.int .u8 0))), .v (.int .i64 0)] [1], [.t 32], none⟩,
  ⟨(some 34), .build [.v (.int .i64 0), .v (.int .i64 0), .v (.int .i64 0), .node [.arr 1 (rep 32 (.v (.int .u8 0))), .v (.int .i64 0)]] [0, 1, 2, 3], [.t 26, .t 28, .t 30, .t 33], none⟩,
  ⟨(some 35), .faddr 2 40 true, [.t 3], none⟩,
  ⟨(some 36), .faddr 4 36 true, [.t 35], none⟩,
  ⟨none, .store true 36, [.t 36, .t 34], none⟩]
def c_request_Read_r4 : List COper := a_request_Read_r4
instance : Reg c_request_Read_r4 a_request_Read_r4 13 := ⟨rfl, rfl⟩
@[simp] def a_request_Read_r5 : List COper := [
  ⟨(some 37), .mov, [.t 0], none⟩,
  ⟨(some 38), .call fn_code_Reader_Digest, [.t 37], none⟩,
  ⟨(some 39), .faddr 2 40 true, [.t 3], none⟩,
  ⟨(some 40), .faddr 4 36 true, [.t 39], none⟩,
  ⟨(some 41), .faddr 3 33 true, [.t 40], none⟩,
  ⟨(some 42), .faddr 0 32 true, [.t 41], none⟩,
  ⟨none, .store true 32, [.t 42, .t 38], none⟩]
def c_request_Read_r5 : List COper := a_request_Read_r5
instance : Reg c_request_Read_r5 a_request_Read_r5 7 := ⟨rfl, rfl⟩
@[simp] def a_request_Read_r6 : List COper := [
  ⟨(some 43), .mov, [.t 0], none⟩,
  ⟨(some 44), .call fn_code_Reader_Good, [.t 43], none⟩,
  ⟨(some 45), .not, [.t 44], none⟩]
def c_request_Read_r6 : List COper := a_request_Read_r6
instance : Reg c_request_Read_r6 a_request_Read_r6 3 := ⟨rfl, rfl⟩
@[simp] def a_request_Read_r7 : List COper := [
  ⟨(some 46), .build [.v (.int .i64 0), .v (.int .i64 0), .node [.v (.int .i64 0), .v (.string (mkS [])), .v (.string (mkS [])), .v (.string (mkS [])), .node [.v (.int .i64 0), .v (.int .i64 0), .v (.int .i64 0), .node [.arr 1 (rep 32 (.v (.int .u8 0))), .v (.int .i64 0)]]]] [], [], none⟩,
  ⟨none, .store true 42, [.t 2, .t 46], none⟩]
def c_request_Read_r7 : List COper := a_request_Read_r7
instance : Reg c_request_Read_r7 a_request_Read_r7 2 := ⟨rfl, rfl⟩
@[simp] def a_request_Read_r8 : List COper := [
  ⟨(some 47), .load true 42, [.t 3], none⟩,
  ⟨none, .store true 42, [.t 2, .t 47], none⟩]
def c_request_Read_r8 : List COper := a_request_Read_r8
instance : Reg c_request_Read_r8 a_request_Read_r8 2 := ⟨rfl, rfl⟩
@[simp] def c_request_Read : CCode :=
  .seq (.region c_request_Read_r0 none [0, 2]) (.seq (.region c_request_Read_r1 none [0, 2, 3]) (.seq (.region c_request_Read_r2 none [0, 2, 3]) (.seq (.region c_request_Read_r3 none [0, 2, 3]) (.seq (.region c_request_Read_r4 none [0, 2, 3]) (.seq (.region c_request_Read_r5 none [0, 2, 3]) (.seq (.seq (.region c_request_Read_r6 none [2, 3, 45]) (.cond (.t 45) (.seq (.region c_request_Read_r7 none [2]) (.ret)) (.skip))) (.seq (.region c_request_Read_r8 none [2]) (.ret))))))))
@[simp] def R_request_Read : List CRes := [.cell 2 true 42]
theorem k_request_Read : chkFn Try.prog fn_request_Read c_request_Read R_request_Read 1 = true := by kernel_rfl
/-! wapentake/wapentakeref09.Read -/
@[simp] def a_r09_Read_r0 : List COper := [
  ⟨(some 2), .alloc (.node [.v (.int .i64 0), .v (.int .i64 0), .node [.v (.int .i64 0), .v (.string (mkS [])), .v (.string (mkS [])), .v (.string (mkS [])), .node [.v (.int .i64 0), .v (.int .i64 0), .v (.int .i64 0), .node [.arr 1 (rep 32 (.v (.int .u8 0))), .v (.int .i64 0)]]]]), [], none⟩]
def c_r09_Read_r0 : List COper := a_r09_Read_r0
instance : Reg c_r09_Read_r0 a_r09_Read_r0 1 := ⟨rfl, rfl⟩
@[simp] def a_r09_Read_r1 : List COper := [
  ⟨(some 3), .alloc (.node [.v (.int .i64 0), .v (.int .i64 0), .node [.v (.int .i64 0), .v (.string (mkS [])), .v (.string (mkS [])), .v (.string (mkS [])), .node [.v (.int .i64 0), .v (.int .i64 0), .v (.int .i64 0), .node [.arr 1 (rep 32 (.v (.int .u8 0))), .v (.int .i64 0)]]]]), [], none⟩]
def c_r09_Read_r1 : List COper := a_r09_Read_r1
instance : Reg c_r09_Read_r1 a_r09_Read_r1 1 := ⟨rfl, rfl⟩
@[simp] def a_r09_Read_r2 : List COper := [
  ⟨(some 4), .mov, [.t 0], none⟩,
  ⟨(some 5), .call fn_r01_Reader_In, [.t 4, .c (.int .i64 1), .c (.int .i64 64)], none⟩,
  ⟨(some 6), .faddr 0 1 false, [.t 3], none⟩,
  ⟨none, .store false 1, [.t 6, .t 5], none⟩]
def c_r09_Read_r2 : List COper := a_r09_Read_r2
instance : Reg c_r09_Read_r2 a_r09_Read_r2 4 := ⟨rfl, rfl⟩
@[simp] def a_r09_Read_r3 : List COper := [
  ⟨(some 7), .mov, [.t 0], none⟩,
  ⟨(some 8), .call fn_r01_Reader_In, [.t 7, .c (.int .i64 1), .c (.int .i64 1099511627776)], none⟩,
  ⟨(some 9), .faddr 1 1 false, [.t 3], none⟩,
  ⟨none, .store false 1, [.t 9, .t 8], none⟩]
def c_r09_Read_r3 : List COper := a_r09_Read_r3
instance : Reg c_r09_Read_r3 a_r09_Read_r3 4 := ⟨rfl, rfl⟩
@[simp] def a_r09_Read_r4 : List COper := [
  ⟨(some 10), .mov, [.t 0], none⟩,
  ⟨(some 11), .call fn_r01_Reader_In, [.t 10, .c (.int .i64 1), .c (.int .i64 7)], none⟩,
  ⟨(some 12), .faddr 2 40 true, [.t 3], none⟩,
  ⟨(some 13), .faddr 0 1 false, [.t 12], none⟩,
  ⟨none, .store false 1, [.t 13, .t 11], none⟩]
def c_r09_Read_r4 : List COper := a_r09_Read_r4
instance : Reg c_r09_Read_r4 a_r09_Read_r4 5 := ⟨rfl, rfl⟩
@[simp] def a_r09_Read_r5 : List COper := [
  ⟨(some 14), .mov, [.t 0], none⟩,
  ⟨(some 15), .call fn_r01_Reader_Text, [.t 14, .c (.int .i64 1024)], none⟩,
  ⟨(some 16), .faddr 2 40 true, [.t 3], none⟩,
  ⟨(some 17), .faddr 1 1 false, [.t 16], none⟩,
  ⟨none, .store false 1, [.t 17, .t 15], none⟩]
def c_r09_Read_r5 : List COper := a_r09_Read_r5
instance : Reg c_r09_Read_r5 a_r09_Read_r5 5 := ⟨rfl, rfl⟩
@[simp] def a_r09_Read_r6 : List COper := [
  ⟨(some 18), .mov, [.t 0], none⟩,
  ⟨(some 19), .call fn_r01_Reader_Text, [.t 18, .c (.int .i64 1024)], none⟩,
  ⟨(some 20), .faddr 2 40 true, [.t 3], none⟩,
  ⟨(some 21), .faddr 2 1 false, [.t 20], none⟩,
  ⟨none, .store false 1, [.t 21, .t 19], none⟩]
def c_r09_Read_r6 : List COper := a_r09_Read_r6
instance : Reg c_r09_Read_r6 a_r09_Read_r6 5 := ⟨rfl, rfl⟩
@[simp] def a_r09_Read_r7 : List COper := [
  ⟨(some 22), .mov, [.t 0], none⟩,
  ⟨(some 23), .call fn_r01_Reader_Text, [.t 22, .c (.int .i64 1024)], none⟩,
  ⟨(some 24), .faddr 2 40 true, [.t 3], none⟩,
  ⟨(some 25), .faddr 3 1 false, [.t 24], none⟩,
  ⟨none, .store false 1, [.t 25, .t 23], none⟩]
def c_r09_Read_r7 : List COper := a_r09_Read_r7
instance : Reg c_r09_Read_r7 a_r09_Read_r7 5 := ⟨rfl, rfl⟩
@[simp] def a_r09_Read_r8 : List COper := [
  ⟨(some 26), .mov, [.t 0], none⟩,
  ⟨(some 27), .call fn_r01_Reader_Num, [.t 26], none⟩,
  ⟨(some 28), .faddr 2 40 true, [.t 3], none⟩,
  ⟨(some 29), .faddr 4 36 true, [.t 28], none⟩,
  ⟨(some 30), .faddr 0 1 false, [.t 29], none⟩,
  ⟨none, .store false 1, [.t 30, .t 27], none⟩]
def c_r09_Read_r8 : List COper := a_r09_Read_r8
instance : Reg c_r09_Read_r8 a_r09_Read_r8 6 := ⟨rfl, rfl⟩
@[simp] def a_r09_Read_r9 : List COper := [
  ⟨(some 31), .mov, [.t 0], none⟩,
  ⟨(some 32), .call fn_r01_Reader_Num, [.t 31], none⟩,
  ⟨(some 33), .faddr 2 40 true, [.t 3], none⟩,
  ⟨(some 34), .faddr 4 36 true, [.t 33], none⟩,
  ⟨(some 35), .faddr 1 1 false, [.t 34], none⟩,
  ⟨none, .store false 1, [.t 35, .t 32], none⟩]
def c_r09_Read_r9 : List COper := a_r09_Read_r9
instance : Reg c_r09_Read_r9 a_r09_Read_r9 6 := ⟨rfl, rfl⟩
@[simp] def a_r09_Read_r10 : List COper := [
  ⟨(some 36), .mov, [.t 0], none⟩,
  ⟨(some 37), .call fn_r01_Reader_Num, [.t 36], none⟩,
  ⟨(some 38), .faddr 2 40 true, [.t 3], none⟩,
  ⟨(some 39), .faddr 4 36 true, [.t 38], none⟩,
  ⟨(some 40), .faddr 2 1 false, [.t 39], none⟩,
  ⟨none, .store false 1, [.t 40, .t 37], none⟩]
def c_r09_Read_r10 : List COper := a_r09_Read_r10
instance : Reg c_r09_Read_r10 a_r09_Read_r10 6 := ⟨rfl, rfl⟩
@[simp] def a_r09_Read_r11 : List COper := [
  ⟨(some 41), .mov, [.t 0], none⟩,
  ⟨(some 42), .call fn_r01_Reader_Num, [.t 41], none⟩,
  ⟨(some 43), .faddr 2 40 true, [.t 3], none⟩,
  ⟨(some 44), .faddr 4 36 true, [.t 43], none⟩,
  ⟨(some 45), .faddr 3 33 true, [.t 44], none⟩,
  ⟨(some 46), .faddr 32 1 false, [.t 45], none⟩,
  ⟨none, .store false 1, [.t 46, .t 42], none⟩]
def c_r09_Read_r11 : List COper := a_r09_Read_r11
instance : Reg c_r09_Read_r11 a_r09_Read_r11 7 := ⟨rfl, rfl⟩
@[simp] def a_r09_Read_r12 : List COper := [
  ⟨(some 47), .mov, [.t 0], none⟩,
  ⟨(some 48), .call fn_r01_Reader_Digest, [.t 47], none⟩,
  ⟨(some 49), .faddr 2 40 true, [.t 3], none⟩,
  ⟨(some 50), .faddr 4 36 true, [.t 49], none⟩,
  ⟨(some 51), .faddr 3 33 true, [.t 50], none⟩,
  ⟨(some 52), .faddr 0 32 true, [.t 51], none⟩,
  ⟨none, .store true 32, [.t 52, .t 48], none⟩]
def c_r09_Read_r12 : List COper := a_r09_Read_r12
instance : Reg c_r09_Read_r12 a_r09_Read_r12 7 := ⟨rfl, rfl⟩
@[simp] def a_r09_Read_r13 : List COper := [
  ⟨(some 53), .mov, [.t 0], none⟩,
  ⟨(some 54), .call fn_r01_Reader_Good, [.t 53], none⟩,
  ⟨(some 55), .not, [.t 54], none⟩]
def c_r09_Read_r13 : List COper := a_r09_Read_r13
instance : Reg c_r09_Read_r13 a_r09_Read_r13 3 := ⟨rfl, rfl⟩
@[simp] def a_r09_Read_r14 : List COper := [
  ⟨(some 56), .build [.v (.int .i64 0), .v (.int .i64 0), .node [.v (.int .i64 0), .v (.string (mkS [])), .v (.string (mkS [])), .v (.string (mkS [])), .node [.v (.int .i64 0), .v (.int .i64 0), .v (.int .i64 0), .node [.arr 1 (rep 32 (.v (.int .u8 0))), .v (.int .i64 0)]]]] [], [], none⟩,
  ⟨none, .store true 42, [.t 2, .t 56], none⟩]
def c_r09_Read_r14 : List COper := a_r09_Read_r14
instance : Reg c_r09_Read_r14 a_r09_Read_r14 2 := ⟨rfl, rfl⟩
@[simp] def a_r09_Read_r15 : List COper := [
  ⟨(some 57), .load true 42, [.t 3], none⟩,
  ⟨none, .store true 42, [.t 2, .t 57], none⟩]
def c_r09_Read_r15 : List COper := a_r09_Read_r15
instance : Reg c_r09_Read_r15 a_r09_Read_r15 2 := ⟨rfl, rfl⟩
@[simp] def c_r09_Read : CCode :=
  .seq (.region c_r09_Read_r0 none [0, 2]) (.seq (.region c_r09_Read_r1 none [0, 2, 3]) (.seq (.region c_r09_Read_r2 none [0, 2, 3]) (.seq (.region c_r09_Read_r3 none [0, 2, 3]) (.seq (.region c_r09_Read_r4 none [0, 2, 3]) (.seq (.region c_r09_Read_r5 none [0, 2, 3]) (.seq (.region c_r09_Read_r6 none [0, 2, 3]) (.seq (.region c_r09_Read_r7 none [0, 2, 3]) (.seq (.region c_r09_Read_r8 none [0, 2, 3]) (.seq (.region c_r09_Read_r9 none [0, 2, 3]) (.seq (.region c_r09_Read_r10 none [0, 2, 3]) (.seq (.region c_r09_Read_r11 none [0, 2, 3]) (.seq (.region c_r09_Read_r12 none [0, 2, 3]) (.seq (.seq (.region c_r09_Read_r13 none [2, 3, 55]) (.cond (.t 55) (.seq (.region c_r09_Read_r14 none [2]) (.ret)) (.skip))) (.seq (.region c_r09_Read_r15 none [2]) (.ret)))))))))))))))
@[simp] def R_r09_Read : List CRes := [.cell 2 true 42]
theorem k_r09_Read : chkFn Try.prog fn_r09_Read c_r09_Read R_r09_Read 1 = true := by kernel_rfl
/-! wapentake/request.Write -/
@[simp] def a_request_Write_r0 : List COper := [
  ⟨(some 3), .box, [.t 1], none⟩]
def c_request_Write_r0 : List COper := a_request_Write_r0
instance : Reg c_request_Write_r0 a_request_Write_r0 1 := ⟨rfl, rfl⟩
@[simp] def a_request_Write_r1 : List COper := [
  ⟨(some 5), .faddr 2 40 true, [.t 3], none⟩,
  ⟨(some 6), .faddr 4 36 true, [.t 5], none⟩,
  ⟨(some 7), .load true 36, [.t 6], none⟩,
  ⟨(some 4), .alloc (.node [.v (.int .i64 0), .v (.int .i64 0), .v (.int .i64 0), .node [.arr 1 (rep 32 (.v (.int .u8 0))), .v (.int .i64 0)]]), [], none⟩,
  ⟨none, .store true 36, [.t 4, .t 7], none⟩]
def c_request_Write_r1 : List COper := a_request_Write_r1
instance : Reg c_request_Write_r1 a_request_Write_r1 5 := ⟨rfl, rfl⟩
@[simp] def a_request_Write_r2 : List COper := [
  ⟨(some 8), .mov, [.t 0], none⟩,
  ⟨(some 9), .faddr 0 1 false, [.t 3], none⟩,
  ⟨(some 10), .load false 1, [.t 9], none⟩,
  ⟨(some 11), .faddr 1 1 false, [.t 3], none⟩,
  ⟨(some 12), .load false 1, [.t 11], none⟩,
  ⟨(some 13), .faddr 2 40 true, [.t 3], none⟩,
  ⟨(some 14), .faddr 0 1 false, [.t 13], none⟩,
  ⟨(some 15), .load false 1, [.t 14], none⟩,
  ⟨(some 16), .bslice 1 3 (.v (.int .i64 0)) [0, 1, 2], [.t 10, .t 12, .t 15], none⟩,
  ⟨(some 17), .call fn_code_Writer_Num, [.t 8, .t 16], none⟩]
def c_request_Write_r2 : List COper := a_request_Write_r2
instance : Reg c_request_Write_r2 a_request_Write_r2 10 := ⟨rfl, rfl⟩
@[simp] def a_request_Write_r3 : List COper := [
  ⟨(some 18), .mov, [.t 0], none⟩,
  ⟨(some 19), .faddr 2 40 true, [.t 3], none⟩,
  ⟨(some 20), .faddr 1 1 false, [.t 19], none⟩,
  ⟨(some 21), .load false 1, [.t 20], none⟩,
  ⟨(some 22), .faddr 2 40 true, [.t 3], none⟩,
  ⟨(some 23), .faddr 2 1 false, [.t 22], none⟩,
  ⟨(some 24), .load false 1, [.t 23], none⟩,
  ⟨(some 25), .faddr 2 40 true, [.t 3], none⟩,
  ⟨(some 26), .faddr 3 1 false, [.t 25], none⟩,
  ⟨(some 27), .load false 1, [.t 26], none⟩,
  ⟨(some 28), .bslice 1 3 (.v (.string (mkS []))) [0, 1, 2], [.t 21, .t 24, .t 27], none⟩,
  ⟨(some 29), .call fn_code_Writer_Text, [.t 18, .t 28], none⟩]
def c_request_Write_r3 : List COper := a_request_Write_r3
instance : Reg c_request_Write_r3 a_request_Write_r3 12 := ⟨rfl, rfl⟩
@[simp] def a_request_Write_r4 : List COper := [
  ⟨(some 30), .mov, [.t 0], none⟩,
  ⟨(some 31), .faddr 0 1 false, [.t 4], none⟩,
  ⟨(some 32), .load false 1, [.t 31], none⟩,
  ⟨(some 33), .faddr 1 1 false, [.t 4], none⟩,
  ⟨(some 34), .load false 1, [.t 33], none⟩,
  ⟨(some 35), .faddr 2 1 false, [.t 4], none⟩,
  ⟨(some 36), .load false 1, [.t 35], none⟩,
  ⟨(some 37), .faddr 3 33 true, [.t 4], none⟩,
  ⟨(some 38), .faddr 32 1 false, [.t 37], none⟩,
  ⟨(some 39), .load false 1, [.t 38], none⟩,
  ⟨(some 40), .bslice 1 4 (.v (.int .i64 0)) [0, 1, 2, 3], [.t 32, .t 34, .t 36, .t 39], none⟩,
  ⟨(some 41), .call fn_code_Writer_Num, [.t 30, .t 40], none⟩]
def c_request_Write_r4 : List COper := a_request_Write_r4
instance : Reg c_request_Write_r4 a_request_Write_r4 12 := ⟨rfl, rfl⟩
@[simp] def a_request_Write_r5 : List COper := [
  ⟨(some 42), .mov, [.t 0], none⟩,
  ⟨(some 43), .faddr 3 33 true, [.t 4], none⟩,
  ⟨(some 44), .faddr 0 32 true, [.t 43], none⟩,
  ⟨(some 45), .load true 32, [.t 44], none⟩,
  ⟨(some 46), .bslice 32 1 (.arr 1 (rep 32 (.v (.int .u8 0)))) [0], [.t 45], none⟩,
  ⟨(some 47), .call fn_code_Writer_Digest, [.t 42, .t 46], none⟩]
def c_request_Write_r5 : List COper := a_request_Write_r5
instance : Reg c_request_Write_r5 a_request_Write_r5 6 := ⟨rfl, rfl⟩
@[simp] def c_request_Write : CCode :=
  .seq (.region c_request_Write_r0 none [0, 3]) (.seq (.region c_request_Write_r1 none [0, 3, 4]) (.seq (.region c_request_Write_r2 none [0, 3, 4]) (.seq (.region c_request_Write_r3 none [0, 4]) (.seq (.region c_request_Write_r4 none [0, 4]) (.region c_request_Write_r5 none [])))))
@[simp] def R_request_Write : List CRes := []
theorem k_request_Write : chkFn Try.prog fn_request_Write c_request_Write R_request_Write 2 = true := by kernel_rfl
/-! wapentake/wapentakeref09.Good -/
@[simp] def a_r09_Good_r0 : List COper := [
  ⟨(some 1), .box, [.t 0], none⟩,
  ⟨(some 2), .mov, [.c (.bool false)], none⟩]
def c_r09_Good_r0 : List COper := a_r09_Good_r0
instance : Reg c_r09_Good_r0 a_r09_Good_r0 2 := ⟨rfl, rfl⟩
@[simp] def a_r09_Good_r1 : List COper := [
  ⟨(some 3), .faddr 0 1 false, [.t 1], none⟩,
  ⟨(some 4), .load false 1, [.t 3], none⟩,
  ⟨(some 5), .bin .lss, [.t 4, .c (.int .i64 1)], none⟩,
  ⟨(some 6), .mov, [.t 5], none⟩,
  ⟨(some 7), .faddr 0 1 false, [.t 1], (some (6, false))⟩,
  ⟨(some 8), .load false 1, [.t 7], (some (6, false))⟩,
  ⟨(some 9), .bin .gtr, [.t 8, .c (.int .i64 64)], (some (6, false))⟩,
  ⟨(some 10), .pick, [.t 6, .c (.bool true), .t 9], none⟩,
  ⟨(some 11), .mov, [.t 10], none⟩,
  ⟨(some 12), .faddr 1 1 false, [.t 1], (some (11, false))⟩,
  ⟨(some 13), .load false 1, [.t 12], (some (11, false))⟩,
  ⟨(some 14), .bin .lss, [.t 13, .c (.int .i64 1)], (some (11, false))⟩,
  ⟨(some 15), .pick, [.t 11, .c (.bool true), .t 14], none⟩,
  ⟨(some 16), .mov, [.t 15], none⟩,
  ⟨(some 17), .faddr 1 1 false, [.t 1], (some (16, false))⟩,
  ⟨(some 18), .load false 1, [.t 17], (some (16, false))⟩,
  ⟨(some 19), .bin .gtr, [.t 18, .c (.int .i64 1099511627776)], (some (16, false))⟩,
  ⟨(some 20), .pick, [.t 16, .c (.bool true), .t 19], none⟩,
  ⟨(some 21), .mov, [.t 20], none⟩,
  ⟨(some 22), .faddr 2 40 true, [.t 1], (some (21, false))⟩,
  ⟨(some 23), .faddr 0 1 false, [.t 22], (some (21, false))⟩,
  ⟨(some 24), .load false 1, [.t 23], (some (21, false))⟩,
  ⟨(some 25), .bin .lss, [.t 24, .c (.int .i64 1)], (some (21, false))⟩,
  ⟨(some 26), .pick, [.t 21, .c (.bool true), .t 25], none⟩,
  ⟨(some 27), .mov, [.t 26], none⟩,
  ⟨(some 28), .faddr 2 40 true, [.t 1], (some (27, false))⟩,
  ⟨(some 29), .faddr 0 1 false, [.t 28], (some (27, false))⟩,
  ⟨(some 30), .load false 1, [.t 29], (some (27, false))⟩,
  ⟨(some 31), .bin .gtr, [.t 30, .c (.int .i64 7)], (some (27, false))⟩,
  ⟨(some 32), .pick, [.t 27, .c (.bool true), .t 31], none⟩]
def c_r09_Good_r1 : List COper := a_r09_Good_r1
instance : Reg c_r09_Good_r1 a_r09_Good_r1 30 := ⟨rfl, rfl⟩
@[simp] def a_r09_Good_r2 : List COper := [
  ⟨(some 2), .mov, [.c (.bool false)], none⟩]
def c_r09_Good_r2 : List COper := a_r09_Good_r2
instance : Reg c_r09_Good_r2 a_r09_Good_r2 1 := ⟨rfl, rfl⟩
@[simp] def a_r09_Good_r3 : List COper := [
  ⟨(some 33), .faddr 2 40 true, [.t 1], none⟩,
  ⟨(some 34), .faddr 1 1 false, [.t 33], none⟩,
  ⟨(some 35), .load false 1, [.t 34], none⟩,
  ⟨(some 36), .lenS, [.t 35], none⟩,
  ⟨(some 37), .bin .leq, [.t 36, .c (.int .i64 1024)], none⟩,
  ⟨(some 38), .mov, [.t 37], none⟩,
  ⟨(some 39), .faddr 2 40 true, [.t 1], (some (38, true))⟩,
  ⟨(some 40), .faddr 2 1 false, [.t 39], (some (38, true))⟩,
  ⟨(some 41), .load false 1, [.t 40], (some (38, true))⟩,
  ⟨(some 42), .lenS, [.t 41], (some (38, true))⟩,
  ⟨(some 43), .bin .leq, [.t 42, .c (.int .i64 1024)], (some (38, true))⟩,
  ⟨(some 44), .pick, [.t 38, .t 43, .c (.bool false)], none⟩,
  ⟨(some 45), .mov, [.t 44], none⟩,
  ⟨(some 46), .faddr 2 40 true, [.t 1], (some (45, true))⟩,
  ⟨(some 47), .faddr 3 1 false, [.t 46], (some (45, true))⟩,
  ⟨(some 48), .load false 1, [.t 47], (some (45, true))⟩,
  ⟨(some 49), .lenS, [.t 48], (some (45, true))⟩,
  ⟨(some 50), .bin .leq, [.t 49, .c (.int .i64 1024)], (some (45, true))⟩,
  ⟨(some 51), .pick, [.t 45, .t 50, .c (.bool false)], none⟩,
  ⟨(some 2), .mov, [.t 51], none⟩]
def c_r09_Good_r3 : List COper := a_r09_Good_r3
instance : Reg c_r09_Good_r3 a_r09_Good_r3 20 := ⟨rfl, rfl⟩
@[simp] def c_r09_Good : CCode :=
  .seq (.region c_r09_Good_r0 none [1]) (.seq (.seq (.region c_r09_Good_r1 none [1, 32]) (.cond (.t 32) (.seq (.region c_r09_Good_r2 none [2]) (.ret)) (.skip))) (.seq (.region c_r09_Good_r3 none [2]) (.ret)))
@[simp] def R_r09_Good : List CRes := [.tmp 2]
theorem k_r09_Good : chkFn Try.prog fn_r09_Good c_r09_Good R_r09_Good 1 = true := by kernel_rfl
/-! wapentake/wapentakeref12.Same -/
@[simp] def a_r12_Same_r0 : List COper := [
  ⟨(some 2), .box, [.t 0], none⟩,
  ⟨(some 3), .box, [.t 1], none⟩,
  ⟨(some 4), .mov, [.c (.bool false)], none⟩]
def c_r12_Same_r0 : List COper := a_r12_Same_r0
instance : Reg c_r12_Same_r0 a_r12_Same_r0 3 := ⟨rfl, rfl⟩
@[simp] def a_r12_Same_r1 : List COper := [
  ⟨(some 6), .faddr 0 1 false, [.t 2], none⟩,
  ⟨(some 7), .load false 1, [.t 6], none⟩,
  ⟨(some 8), .faddr 0 1 false, [.t 3], none⟩,
  ⟨(some 9), .load false 1, [.t 8], none⟩,
  ⟨(some 10), .bin .neq, [.t 7, .t 9], none⟩,
  ⟨(some 11), .mov, [.t 10], none⟩,
  ⟨(some 12), .faddr 1 1 false, [.t 2], (some (11, false))⟩,
  ⟨(some 13), .load false 1, [.t 12], (some (11, false))⟩,
  ⟨(some 14), .faddr 1 1 false, [.t 3], (some (11, false))⟩,
  ⟨(some 15), .load false 1, [.t 14], (some (11, false))⟩,
  ⟨(some 16), .bin .neq, [.t 13, .t 15], (some (11, false))⟩,
  ⟨(some 17), .pick, [.t 11, .c (.bool true), .t 16], none⟩,
  ⟨(some 18), .mov, [.t 17], none⟩,
  ⟨(some 19), .faddr 2 32 true, [.t 2], (some (18, false))⟩,
  ⟨(some 20), .load true 32, [.t 19], (some (18, false))⟩,
  ⟨(some 21), .faddr 2 32 true, [.t 3], (some (18, false))⟩,
  ⟨(some 22), .load true 32, [.t 21], (some (18, false))⟩,
  ⟨(some 23), .eqa true .u8 32, [.t 20, .t 22], (some (18, false))⟩,
  ⟨(some 24), .pick, [.t 18, .c (.bool true), .t 23], none⟩,
  ⟨(some 25), .mov, [.t 24], none⟩,
  ⟨(some 26), .faddr 34 32 true, [.t 2], (some (25, false))⟩,
  ⟨(some 27), .load true 32, [.t 26], (some (25, false))⟩,
  ⟨(some 28), .faddr 34 32 true, [.t 3], (some (25, false))⟩,
  ⟨(some 29), .load true 32, [.t 28], (some (25, false))⟩,
  ⟨(some 30), .eqa true .u8 32, [.t 27, .t 29], (some (25, false))⟩,
  ⟨(some 31), .pick, [.t 25, .c (.bool true), .t 30], none⟩,
  ⟨(some 32), .mov, [.t 31], none⟩,
  ⟨(some 33), .faddr 66 32 true, [.t 2], (some (32, false))⟩,
  ⟨(some 34), .load true 32, [.t 33], (some (32, false))⟩,
  ⟨(some 35), .faddr 66 32 true, [.t 3], (some (32, false))⟩,
  ⟨(some 36), .load true 32, [.t 35], (some (32, false))⟩,
  ⟨(some 37), .eqa true .u8 32, [.t 34, .t 36], (some (32, false))⟩,
  ⟨(some 38), .pick, [.t 32, .c (.bool true), .t 37], none⟩,
  ⟨(some 39), .mov, [.t 38], none⟩,
  ⟨(some 40), .faddr 98 1 false, [.t 2], (some (39, false))⟩,
  ⟨(some 41), .load false 1, [.t 40], (some (39, false))⟩,
  ⟨(some 42), .len, [.t 41], (some (39, false))⟩,
  ⟨(some 43), .faddr 98 1 false, [.t 3], (some (39, false))⟩,
  ⟨(some 44), .load false 1, [.t 43], (some (39, false))⟩,
  ⟨(some 45), .len, [.t 44], (some (39, false))⟩,
  ⟨(some 46), .bin .neq, [.t 42, .t 45], (some (39, false))⟩,
  ⟨(some 47), .pick, [.t 39, .c (.bool true), .t 46], none⟩]
def c_r12_Same_r1 : List COper := a_r12_Same_r1
instance : Reg c_r12_Same_r1 a_r12_Same_r1 42 := ⟨rfl, rfl⟩
@[simp] def a_r12_Same_r2 : List COper := [
  ⟨(some 4), .mov, [.c (.bool false)], none⟩]
def c_r12_Same_r2 : List COper := a_r12_Same_r2
instance : Reg c_r12_Same_r2 a_r12_Same_r2 1 := ⟨rfl, rfl⟩
@[simp] def a_r12_Same_r3 : List COper := [
  ⟨(some 48), .faddr 98 1 false, [.t 2], none⟩,
  ⟨(some 49), .load false 1, [.t 48], none⟩,
  ⟨(some 50), .len, [.t 49], none⟩,
  ⟨(some 51), .mov, [.c (.int .i64 0)], none⟩]
def c_r12_Same_r3 : List COper := a_r12_Same_r3
instance : Reg c_r12_Same_r3 a_r12_Same_r3 4 := ⟨rfl, rfl⟩
@[simp] def a_r12_Same_r4 : List COper := [
  ⟨(some 52), .bin .lss, [.t 51, .t 50], none⟩]
def c_r12_Same_r4 : List COper := a_r12_Same_r4
instance : Reg c_r12_Same_r4 a_r12_Same_r4 1 := ⟨rfl, rfl⟩
@[simp] def a_r12_Same_r5 : List COper := [
  ⟨(some 53), .mov, [.t 51], none⟩,
  ⟨(some 5), .mov, [.t 53], none⟩]
def c_r12_Same_r5 : List COper := a_r12_Same_r5
instance : Reg c_r12_Same_r5 a_r12_Same_r5 2 := ⟨rfl, rfl⟩
@[simp] def a_r12_Same_r6 : List COper := [
  ⟨(some 54), .faddr 98 1 false, [.t 2], none⟩,
  ⟨(some 55), .load false 1, [.t 54], none⟩,
  ⟨(some 56), .mov, [.t 5], none⟩,
  ⟨(some 57), .iaddr 42, [.t 55, .t 56], none⟩,
  ⟨(some 58), .load true 42, [.t 57], none⟩,
  ⟨(some 59), .faddr 98 1 false, [.t 3], none⟩,
  ⟨(some 60), .load false 1, [.t 59], none⟩,
  ⟨(some 61), .mov, [.t 5], none⟩,
  ⟨(some 62), .iaddr 42, [.t 60, .t 61], none⟩,
  ⟨(some 63), .load true 42, [.t 62], none⟩,
  ⟨(some 64), .eqs true (.st [.int .i64, .int .i64, .st [.int .i64, .str, .str, .str, .st [.int .i64, .int .i64, .int .i64, .st [.ints .u8 32, .int .i64]]]]), [.t 58, .t 63], none⟩]
def c_r12_Same_r6 : List COper := a_r12_Same_r6
instance : Reg c_r12_Same_r6 a_r12_Same_r6 11 := ⟨rfl, rfl⟩
@[simp] def a_r12_Same_r7 : List COper := [
  ⟨(some 4), .mov, [.c (.bool false)], none⟩]
def c_r12_Same_r7 : List COper := a_r12_Same_r7
instance : Reg c_r12_Same_r7 a_r12_Same_r7 1 := ⟨rfl, rfl⟩
@[simp] def a_r12_Same_r8 : List COper := [
  ⟨(some 65), .bin .add, [.t 51, .c (.int .i64 1)], none⟩,
  ⟨(some 51), .mov, [.t 65], none⟩]
def c_r12_Same_r8 : List COper := a_r12_Same_r8
instance : Reg c_r12_Same_r8 a_r12_Same_r8 2 := ⟨rfl, rfl⟩
@[simp] def a_r12_Same_r9 : List COper := [
  ⟨(some 4), .mov, [.c (.bool true)], none⟩]
def c_r12_Same_r9 : List COper := a_r12_Same_r9
instance : Reg c_r12_Same_r9 a_r12_Same_r9 1 := ⟨rfl, rfl⟩
@[simp] def c_r12_Same : CCode :=
  .seq (.region c_r12_Same_r0 none [2, 3]) (.seq (.seq (.region c_r12_Same_r1 none [2, 3, 47]) (.cond (.t 47) (.seq (.region c_r12_Same_r2 none [4]) (.ret)) (.skip))) (.seq (.seq (.region c_r12_Same_r3 none [2, 3, 50, 51]) (.block 0 (.loop (.seq (.region c_r12_Same_r4 none [2, 3, 50, 51, 52]) (.seq (.cond (.t 52) (.skip) (.exit 0)) (.seq (.block 1 (.seq (.region c_r12_Same_r5 none [2, 3, 5, 50, 51]) (.seq (.region c_r12_Same_r6 (some ([0, 1, 0, 7, 15, 0, 32, 0, 224, 480, 1023], [])) [2, 3, 50, 51, 64]) (.cond (.t 64) (.seq (.region c_r12_Same_r7 none [4]) (.ret)) (.skip))))) (.region c_r12_Same_r8 none [2, 3, 50, 51]))))))) (.seq (.region c_r12_Same_r9 none [4]) (.ret))))
@[simp] def R_r12_Same : List CRes := [.tmp 4]
theorem k_r12_Same : chkFn Try.prog fn_r12_Same c_r12_Same R_r12_Same 2 = true := by kernel_rfl
/-! wapentake/block.Read -/
@[simp] def a_block_Read_r0 : List COper := [
  ⟨(some 2), .alloc (.node [.v (.int .i64 0), .v (.int .i64 0), .arr 1 (rep 32 (.v (.int .u8 0))), .arr 1 (rep 32 (.v (.int .u8 0))), .arr 1 (rep 32 (.v (.int .u8 0))), .v (.slice none 0 0)]), [], none⟩]
def c_block_Read_r0 : List COper := a_block_Read_r0
instance : Reg c_block_Read_r0 a_block_Read_r0 1 := ⟨rfl, rfl⟩
@[simp] def a_block_Read_r1 : List COper := [
  ⟨(some 4), .mov, [.t 0], none⟩,
  ⟨(some 5), .call fn_code_Reader_In, [.t 4, .c (.int .i64 0), .c (.int .i64 1073741824)], none⟩,
  ⟨(some 6), .mov, [.t 0], none⟩,
  ⟨(some 7), .call fn_code_Reader_In, [.t 6, .c (.int .i64 1), .c (.int .i64 1024)], none⟩,
  ⟨(some 8), .mov, [.t 0], none⟩,
  ⟨(some 9), .call fn_code_Reader_Digest, [.t 8], none⟩,
  ⟨(some 10), .mov, [.t 0], none⟩,
  ⟨(some 11), .call fn_code_Reader_Digest, [.t 10], none⟩,
  ⟨(some 12), .mov, [.t 0], none⟩,
  ⟨(some 13), .call fn_code_Reader_Digest, [.t 12], none⟩,
  ⟨(some 14), .build [.v (.int .i64 0), .v (.int .i64 0), .arr 1 (rep 32 (.v (.int .u8 0))), .arr 1 (rep 32 (.v (.int .u8 0))), .arr 1 (rep 32 (.v (.int .u8 0))), .v (.slice none 0 0)] [0, 1, 2, 3, 4], [.t 5, .t 7, .t 9, .t 11, .t 13], none⟩,
  ⟨(some 3), .alloc (.node [.v (.int .i64 0), .v (.int .i64 0), .arr 1 (rep 32 (.v (.int .u8 0))), .arr 1 (rep 32 (.v (.int .u8 0))), .arr 1 (rep 32 (.v (.int .u8 0))), .v (.slice none 0 0)]), [], none⟩,
  ⟨none, .store true 99, [.t 3, .t 14], none⟩]
def c_block_Read_r1 : List COper := a_block_Read_r1
instance : Reg c_block_Read_r1 a_block_Read_r1 13 := ⟨rfl, rfl⟩
@[simp] def a_block_Read_r2 : List COper := [
  ⟨(some 15), .mov, [.t 0], none⟩,
  ⟨(some 16), .call fn_code_Reader_In, [.t 15, .c (.int .i64 0), .c (.int .i64 8)], none⟩,
  ⟨(some 17), .mov, [.c (.int .i64 0)], none⟩]
def c_block_Read_r2 : List COper := a_block_Read_r2
instance : Reg c_block_Read_r2 a_block_Read_r2 3 := ⟨rfl, rfl⟩
@[simp] def a_block_Read_r3 : List COper := [
  ⟨(some 18), .bin .lss, [.t 17, .t 16], none⟩]
def c_block_Read_r3 : List COper := a_block_Read_r3
instance : Reg c_block_Read_r3 a_block_Read_r3 1 := ⟨rfl, rfl⟩
@[simp] def a_block_Read_r4 : List COper := [
  ⟨(some 19), .faddr 98 1 false, [.t 3], none⟩,
  ⟨(some 20), .load false 1, [.t 19], none⟩,
  ⟨(some 21), .mov, [.t 0], none⟩,
  ⟨(some 22), .call fn_request_Read, [.t 21], none⟩,
  ⟨(some 23), .bslice 42 1 (.node [.v (.int .i64 0), .v (.int .i64 0), .node [.v (.int .i64 0), .v (.string (mkS [])), .v (.string (mkS [])), .v (.string (mkS [])), .node [.v (.int .i64 0), .v (.int .i64 0), .v (.int .i64 0), .node [.arr 1 (rep 32 (.v (.int .u8 0))), .v (.int .i64 0)]]]]) [0], [.t 22], none⟩,
  ⟨(some 24), .app 42 136, [.t 20, .t 23], none⟩,
  ⟨(some 25), .faddr 98 1 false, [.t 3], none⟩,
  ⟨none, .store false 1, [.t 25, .t 24], none⟩]
def c_block_Read_r4 : List COper := a_block_Read_r4
instance : Reg c_block_Read_r4 a_block_Read_r4 8 := ⟨rfl, rfl⟩
@[simp] def a_block_Read_r5 : List COper := [
  ⟨(some 26), .bin .add, [.t 17, .c (.int .i64 1)], none⟩,
  ⟨(some 17), .mov, [.t 26], none⟩]
def c_block_Read_r5 : List COper := a_block_Read_r5
instance : Reg c_block_Read_r5 a_block_Read_r5 2 := ⟨rfl, rfl⟩
@[simp] def a_block_Read_r6 : List COper := [
  ⟨(some 27), .mov, [.t 0], none⟩,
  ⟨(some 28), .call fn_code_Reader_Good, [.t 27], none⟩,
  ⟨(some 29), .not, [.t 28], none⟩]
def c_block_Read_r6 : List COper := a_block_Read_r6
instance : Reg c_block_Read_r6 a_block_Read_r6 3 := ⟨rfl, rfl⟩
@[simp] def a_block_Read_r7 : List COper := [
  ⟨(some 30), .build [.v (.int .i64 0), .v (.int .i64 0), .arr 1 (rep 32 (.v (.int .u8 0))), .arr 1 (rep 32 (.v (.int .u8 0))), .arr 1 (rep 32 (.v (.int .u8 0))), .v (.slice none 0 0)] [], [], none⟩,
  ⟨none, .store true 99, [.t 2, .t 30], none⟩]
def c_block_Read_r7 : List COper := a_block_Read_r7
instance : Reg c_block_Read_r7 a_block_Read_r7 2 := ⟨rfl, rfl⟩
@[simp] def a_block_Read_r8 : List COper := [
  ⟨(some 31), .load true 99, [.t 3], none⟩,
  ⟨none, .store true 99, [.t 2, .t 31], none⟩]
def c_block_Read_r8 : List COper := a_block_Read_r8
instance : Reg c_block_Read_r8 a_block_Read_r8 2 := ⟨rfl, rfl⟩
@[simp] def c_block_Read : CCode :=
  .seq (.region c_block_Read_r0 none [0, 2]) (.seq (.region c_block_Read_r1 none [0, 2, 3]) (.seq (.seq (.region c_block_Read_r2 none [0, 2, 3, 16, 17]) (.block 0 (.loop (.seq (.region c_block_Read_r3 none [0, 2, 3, 16, 17, 18]) (.seq (.cond (.t 18) (.skip) (.exit 0)) (.seq (.block 1 (.region c_block_Read_r4 (some ([0, 1, 0, 4, 12, 31, 63, 127], [(1, 3), (1, 4)])) [0, 2, 3, 16, 17])) (.region c_block_Read_r5 none [0, 2, 3, 16, 17]))))))) (.seq (.seq (.region c_block_Read_r6 none [2, 3, 29]) (.cond (.t 29) (.seq (.region c_block_Read_r7 none [2]) (.ret)) (.skip))) (.seq (.region c_block_Read_r8 none [2]) (.ret)))))
@[simp] def R_block_Read : List CRes := [.cell 2 true 99]
theorem k_block_Read : chkFn Try.prog fn_block_Read c_block_Read R_block_Read 1 = true := by kernel_rfl
/-! wapentake/wapentakeref12.Read -/
@[simp] def a_r12_Read_r0 : List COper := [
  ⟨(some 2), .alloc (.node [.v (.int .i64 0), .v (.int .i64 0), .arr 1 (rep 32 (.v (.int .u8 0))), .arr 1 (rep 32 (.v (.int .u8 0))), .arr 1 (rep 32 (.v (.int .u8 0))), .v (.slice none 0 0)]), [], none⟩]
def c_r12_Read_r0 : List COper := a_r12_Read_r0
instance : Reg c_r12_Read_r0 a_r12_Read_r0 1 := ⟨rfl, rfl⟩
@[simp] def a_r12_Read_r1 : List COper := [
  ⟨(some 3), .alloc (.node [.v (.int .i64 0), .v (.int .i64 0), .arr 1 (rep 32 (.v (.int .u8 0))), .arr 1 (rep 32 (.v (.int .u8 0))), .arr 1 (rep 32 (.v (.int .u8 0))), .v (.slice none 0 0)]), [], none⟩]
def c_r12_Read_r1 : List COper := a_r12_Read_r1
instance : Reg c_r12_Read_r1 a_r12_Read_r1 1 := ⟨rfl, rfl⟩
@[simp] def a_r12_Read_r2 : List COper := [
  ⟨(some 6), .mov, [.t 0], none⟩,
  ⟨(some 7), .call fn_r01_Reader_In, [.t 6, .c (.int .i64 0), .c (.int .i64 1073741824)], none⟩,
  ⟨(some 8), .faddr 0 1 false, [.t 3], none⟩,
  ⟨none, .store false 1, [.t 8, .t 7], none⟩]
def c_r12_Read_r2 : List COper := a_r12_Read_r2
instance : Reg c_r12_Read_r2 a_r12_Read_r2 4 := ⟨rfl, rfl⟩
@[simp] def a_r12_Read_r3 : List COper := [
  ⟨(some 9), .mov, [.t 0], none⟩,
  ⟨(some 10), .call fn_r01_Reader_In, [.t 9, .c (.int .i64 1), .c (.int .i64 1024)], none⟩,
  ⟨(some 11), .faddr 1 1 false, [.t 3], none⟩,
  ⟨none, .store false 1, [.t 11, .t 10], none⟩]
def c_r12_Read_r3 : List COper := a_r12_Read_r3
instance : Reg c_r12_Read_r3 a_r12_Read_r3 4 := ⟨rfl, rfl⟩
@[simp] def a_r12_Read_r4 : List COper := [
  ⟨(some 12), .mov, [.t 0], none⟩,
  ⟨(some 13), .call fn_r01_Reader_Digest, [.t 12], none⟩,
  ⟨(some 14), .faddr 2 32 true, [.t 3], none⟩,
  ⟨none, .store true 32, [.t 14, .t 13], none⟩]
def c_r12_Read_r4 : List COper := a_r12_Read_r4
instance : Reg c_r12_Read_r4 a_r12_Read_r4 4 := ⟨rfl, rfl⟩
@[simp] def a_r12_Read_r5 : List COper := [
  ⟨(some 15), .mov, [.t 0], none⟩,
  ⟨(some 16), .call fn_r01_Reader_Digest, [.t 15], none⟩,
  ⟨(some 17), .faddr 34 32 true, [.t 3], none⟩,
  ⟨none, .store true 32, [.t 17, .t 16], none⟩]
def c_r12_Read_r5 : List COper := a_r12_Read_r5
instance : Reg c_r12_Read_r5 a_r12_Read_r5 4 := ⟨rfl, rfl⟩
@[simp] def a_r12_Read_r6 : List COper := [
  ⟨(some 18), .mov, [.t 0], none⟩,
  ⟨(some 19), .call fn_r01_Reader_Digest, [.t 18], none⟩,
  ⟨(some 20), .faddr 66 32 true, [.t 3], none⟩,
  ⟨none, .store true 32, [.t 20, .t 19], none⟩]
def c_r12_Read_r6 : List COper := a_r12_Read_r6
instance : Reg c_r12_Read_r6 a_r12_Read_r6 4 := ⟨rfl, rfl⟩
@[simp] def a_r12_Read_r7 : List COper := [
  ⟨(some 21), .mov, [.t 0], none⟩,
  ⟨(some 22), .call fn_r01_Reader_In, [.t 21, .c (.int .i64 0), .c (.int .i64 8)], none⟩,
  ⟨(some 4), .mov, [.t 22], none⟩]
def c_r12_Read_r7 : List COper := a_r12_Read_r7
instance : Reg c_r12_Read_r7 a_r12_Read_r7 3 := ⟨rfl, rfl⟩
@[simp] def a_r12_Read_r8 : List COper := [
  ⟨(some 5), .mov, [.c (.int .i64 0)], none⟩]
def c_r12_Read_r8 : List COper := a_r12_Read_r8
instance : Reg c_r12_Read_r8 a_r12_Read_r8 1 := ⟨rfl, rfl⟩
@[simp] def a_r12_Read_r9 : List COper := [
  ⟨(some 23), .mov, [.t 5], none⟩,
  ⟨(some 24), .mov, [.t 4], none⟩,
  ⟨(some 25), .bin .lss, [.t 23, .t 24], none⟩,
  ⟨(some 26), .mov, [.t 25], none⟩,
  ⟨(some 27), .mov, [.t 0], (some (26, true))⟩,
  ⟨(some 28), .call fn_r01_Reader_Good, [.t 27], (some (26, true))⟩,
  ⟨(some 29), .pick, [.t 26, .t 28, .c (.bool false)], none⟩]
def c_r12_Read_r9 : List COper := a_r12_Read_r9
instance : Reg c_r12_Read_r9 a_r12_Read_r9 7 := ⟨rfl, rfl⟩
@[simp] def a_r12_Read_r11 : List COper := [
  ⟨(some 32), .faddr 98 1 false, [.t 3], none⟩,
  ⟨(some 33), .load false 1, [.t 32], none⟩,
  ⟨(some 34), .mov, [.t 0], none⟩,
  ⟨(some 35), .call fn_r09_Read, [.t 34], none⟩,
  ⟨(some 36), .bslice 42 1 (.node [.v (.int .i64 0), .v (.int .i64 0), .node [.v (.int .i64 0), .v (.string (mkS [])), .v (.string (mkS [])), .v (.string (mkS [])), .node [.v (.int .i64 0), .v (.int .i64 0), .v (.int .i64 0), .node [.arr 1 (rep 32 (.v (.int .u8 0))), .v (.int .i64 0)]]]]) [0], [.t 35], none⟩,
  ⟨(some 37), .app 42 136, [.t 33, .t 36], none⟩,
  ⟨(some 38), .faddr 98 1 false, [.t 3], none⟩,
  ⟨none, .store false 1, [.t 38, .t 37], none⟩]
def c_r12_Read_r11 : List COper := a_r12_Read_r11
instance : Reg c_r12_Read_r11 a_r12_Read_r11 8 := ⟨rfl, rfl⟩
@[simp] def a_r12_Read_r10 : List COper := [
  ⟨(some 30), .mov, [.t 5], none⟩,
  ⟨(some 31), .bin .add, [.t 30, .c (.int .i64 1)], none⟩,
  ⟨(some 5), .mov, [.t 31], none⟩]
def c_r12_Read_r10 : List COper := a_r12_Read_r10
instance : Reg c_r12_Read_r10 a_r12_Read_r10 3 := ⟨rfl, rfl⟩
@[simp] def a_r12_Read_r12 : List COper := [
  ⟨(some 39), .mov, [.t 0], none⟩,
  ⟨(some 40), .call fn_r01_Reader_Good, [.t 39], none⟩,
  ⟨(some 41), .not, [.t 40], none⟩]
def c_r12_Read_r12 : List COper := a_r12_Read_r12
instance : Reg c_r12_Read_r12 a_r12_Read_r12 3 := ⟨rfl, rfl⟩
@[simp] def a_r12_Read_r13 : List COper := [
  ⟨(some 42), .build [.v (.int .i64 0), .v (.int .i64 0), .arr 1 (rep 32 (.v (.int .u8 0))), .arr 1 (rep 32 (.v (.int .u8 0))), .arr 1 (rep 32 (.v (.int .u8 0))), .v (.slice none 0 0)] [], [], none⟩,
  ⟨none, .store true 99, [.t 2, .t 42], none⟩]
def c_r12_Read_r13 : List COper := a_r12_Read_r13
instance : Reg c_r12_Read_r13 a_r12_Read_r13 2 := ⟨rfl, rfl⟩
@[simp] def a_r12_Read_r14 : List COper := [
  ⟨(some 43), .load true 99, [.t 3], none⟩,
  ⟨none, .store true 99, [.t 2, .t 43], none⟩]
def c_r12_Read_r14 : List COper := a_r12_Read_r14
instance : Reg c_r12_Read_r14 a_r12_Read_r14 2 := ⟨rfl, rfl⟩
@[simp] def c_r12_Read : CCode :=
  .seq (.region c_r12_Read_r0 none [0, 2]) (.seq (.region c_r12_Read_r1 none [0, 2, 3]) (.seq (.region c_r12_Read_r2 none [0, 2, 3]) (.seq (.region c_r12_Read_r3 none [0, 2, 3]) (.seq (.region c_r12_Read_r4 none [0, 2, 3]) (.seq (.region c_r12_Read_r5 none [0, 2, 3]) (.seq (.region c_r12_Read_r6 none [0, 2, 3]) (.seq (.region c_r12_Read_r7 none [0, 2, 3, 4]) (.seq (.seq (.region c_r12_Read_r8 none [0, 2, 3, 4, 5]) (.block 0 (.loop (.seq (.seq (.region c_r12_Read_r9 none [0, 2, 3, 4, 5, 29]) (.cond (.t 29) (.skip) (.exit 0))) (.seq (.block 1 (.region c_r12_Read_r11 (some ([0, 1, 0, 4, 12, 31, 63, 127], [(1, 3), (1, 4)])) [0, 2, 3, 4, 5])) (.region c_r12_Read_r10 none [0, 2, 3, 4, 5])))))) (.seq (.seq (.region c_r12_Read_r12 none [2, 3, 41]) (.cond (.t 41) (.seq (.region c_r12_Read_r13 none [2]) (.ret)) (.skip))) (.seq (.region c_r12_Read_r14 none [2]) (.ret)))))))))))
@[simp] def R_r12_Read : List CRes := [.cell 2 true 99]
theorem k_r12_Read : chkFn Try.prog fn_r12_Read c_r12_Read R_r12_Read 1 = true := by kernel_rfl
/-! wapentake/block.Write -/
@[simp] def a_block_Write_r0 : List COper := [
  ⟨(some 3), .box, [.t 1], none⟩]
def c_block_Write_r0 : List COper := a_block_Write_r0
instance : Reg c_block_Write_r0 a_block_Write_r0 1 := ⟨rfl, rfl⟩
@[simp] def a_block_Write_r1 : List COper := [
  ⟨(some 6), .mov, [.t 0], none⟩,
  ⟨(some 7), .faddr 0 1 false, [.t 3], none⟩,
  ⟨(some 8), .load false 1, [.t 7], none⟩,
  ⟨(some 9), .faddr 1 1 false, [.t 3], none⟩,
  ⟨(some 10), .load false 1, [.t 9], none⟩,
  ⟨(some 11), .bslice 1 2 (.v (.int .i64 0)) [0, 1], [.t 8, .t 10], none⟩,
  ⟨(some 12), .call fn_code_Writer_Num, [.t 6, .t 11], none⟩]
def c_block_Write_r1 : List COper := a_block_Write_r1
instance : Reg c_block_Write_r1 a_block_Write_r1 7 := ⟨rfl, rfl⟩
@[simp] def a_block_Write_r2 : List COper := [
  ⟨(some 13), .mov, [.t 0], none⟩,
  ⟨(some 14), .faddr 2 32 true, [.t 3], none⟩,
  ⟨(some 15), .load true 32, [.t 14], none⟩,
  ⟨(some 16), .faddr 34 32 true, [.t 3], none⟩,
  ⟨(some 17), .load true 32, [.t 16], none⟩,
  ⟨(some 18), .faddr 66 32 true, [.t 3], none⟩,
  ⟨(some 19), .load true 32, [.t 18], none⟩,
  ⟨(some 20), .bslice 32 3 (.arr 1 (rep 32 (.v (.int .u8 0)))) [0, 1, 2], [.t 15, .t 17, .t 19], none⟩,
  ⟨(some 21), .call fn_code_Writer_Digest, [.t 13, .t 20], none⟩]
def c_block_Write_r2 : List COper := a_block_Write_r2
instance : Reg c_block_Write_r2 a_block_Write_r2 9 := ⟨rfl, rfl⟩
@[simp] def a_block_Write_r3 : List COper := [
  ⟨(some 22), .mov, [.t 0], none⟩,
  ⟨(some 23), .faddr 98 1 false, [.t 3], none⟩,
  ⟨(some 24), .load false 1, [.t 23], none⟩,
  ⟨(some 25), .len, [.t 24], none⟩,
  ⟨(some 26), .bslice 1 1 (.v (.int .i64 0)) [0], [.t 25], none⟩,
  ⟨(some 27), .call fn_code_Writer_Num, [.t 22, .t 26], none⟩]
def c_block_Write_r3 : List COper := a_block_Write_r3
instance : Reg c_block_Write_r3 a_block_Write_r3 6 := ⟨rfl, rfl⟩
@[simp] def a_block_Write_r4 : List COper := [
  ⟨(some 28), .faddr 98 1 false, [.t 3], none⟩,
  ⟨(some 29), .load false 1, [.t 28], none⟩,
  ⟨(some 30), .len, [.t 29], none⟩,
  ⟨(some 31), .mov, [.c (.int .i64 0)], none⟩]
def c_block_Write_r4 : List COper := a_block_Write_r4
instance : Reg c_block_Write_r4 a_block_Write_r4 4 := ⟨rfl, rfl⟩
@[simp] def a_block_Write_r5 : List COper := [
  ⟨(some 32), .bin .lss, [.t 31, .t 30], none⟩]
def c_block_Write_r5 : List COper := a_block_Write_r5
instance : Reg c_block_Write_r5 a_block_Write_r5 1 := ⟨rfl, rfl⟩
@[simp] def a_block_Write_r6 : List COper := [
  ⟨(some 33), .iaddr 42, [.t 29, .t 31], none⟩,
  ⟨(some 34), .load true 42, [.t 33], none⟩,
  ⟨(some 5), .alloc (.node [.v (.int .i64 0), .v (.int .i64 0), .node [.v (.int .i64 0), .v (.string (mkS [])), .v (.string (mkS [])), .v (.string (mkS [])), .node [.v (.int .i64 0), .v (.int .i64 0), .v (.int .i64 0), .node [.arr 1 (rep 32 (.v (.int .u8 0))), .v (.int .i64 0)]]]]), [], none⟩,
  ⟨none, .store true 42, [.t 5, .t 34], none⟩]
def c_block_Write_r6 : List COper := a_block_Write_r6
instance : Reg c_block_Write_r6 a_block_Write_r6 4 := ⟨rfl, rfl⟩
@[simp] def a_block_Write_r7 : List COper := [
  ⟨(some 35), .mov, [.t 0], none⟩,
  ⟨(some 36), .load true 42, [.t 5], none⟩,
  ⟨(some 37), .call fn_request_Write, [.t 35, .t 36], none⟩]
def c_block_Write_r7 : List COper := a_block_Write_r7
instance : Reg c_block_Write_r7 a_block_Write_r7 3 := ⟨rfl, rfl⟩
@[simp] def a_block_Write_r8 : List COper := [
  ⟨(some 38), .bin .add, [.t 31, .c (.int .i64 1)], none⟩,
  ⟨(some 31), .mov, [.t 38], none⟩]
def c_block_Write_r8 : List COper := a_block_Write_r8
instance : Reg c_block_Write_r8 a_block_Write_r8 2 := ⟨rfl, rfl⟩
@[simp] def c_block_Write : CCode :=
  .seq (.region c_block_Write_r0 none [0, 3]) (.seq (.region c_block_Write_r1 none [0, 3]) (.seq (.region c_block_Write_r2 none [0, 3]) (.seq (.region c_block_Write_r3 none [0, 3]) (.seq (.region c_block_Write_r4 none [0, 29, 30, 31]) (.block 0 (.loop (.seq (.region c_block_Write_r5 none [0, 29, 30, 31, 32]) (.seq (.cond (.t 32) (.skip) (.exit 0)) (.seq (.block 1 (.seq (.region c_block_Write_r6 none [0, 5, 29, 30, 31]) (.region c_block_Write_r7 none [0, 29, 30, 31]))) (.region c_block_Write_r8 none [0, 29, 30, 31]))))))))))
@[simp] def R_block_Write : List CRes := []
theorem k_block_Write : chkFn Try.prog fn_block_Write c_block_Write R_block_Write 2 = true := by kernel_rfl
/-! wapentake/wapentakelaw09.put -/
@[simp] def a_l09_put_r0 : List COper := [
  ⟨(some 0), .alloc (.node [.v (.int .i64 0), .v (.int .i64 0), .node [.v (.int .i64 0), .v (.string (mkS [])), .v (.string (mkS [])), .v (.string (mkS [])), .node [.v (.int .i64 0), .v (.int .i64 0), .v (.int .i64 0), .node [.arr 1 (rep 32 (.v (.int .u8 0))), .v (.int .i64 0)]]]]), [], none⟩]
def c_l09_put_r0 : List COper := a_l09_put_r0
instance : Reg c_l09_put_r0 a_l09_put_r0 1 := ⟨rfl, rfl⟩
@[simp] def a_l09_put_r1 : List COper := [
  ⟨(some 1), .build [.v (.int .i64 0), .v (.string (mkS [])), .v (.string (mkS [])), .v (.string (mkS [])), .node [.v (.int .i64 0), .v (.int .i64 0), .v (.int .i64 0), .node [.arr 1 (rep 32 (.v (.int .u8 0))), .v (.int .i64 0)]]] [0, 1, 2], [.c (.int .i64 2), .c (.string (mkS [107])), .c (.string (mkS [118]))], none⟩,
  ⟨(some 2), .build [.v (.int .i64 0), .v (.int .i64 0), .node [.v (.int .i64 0), .v (.string (mkS [])), .v (.string (mkS [])), .v (.string (mkS [])), .node [.v (.int .i64 0), .v (.int .i64 0), .v (.int .i64 0), .node [.arr 1 (rep 32 (.v (.int .u8 0))), .v (.int .i64 0)]]]] [0, 1, 2], [.c (.int .i64 1), .c (.int .i64 1), .t 1], none⟩,
  ⟨none, .store true 42, [.t 0, .t 2], none⟩]
def c_l09_put_r1 : List COper := a_l09_put_r1
instance : Reg c_l09_put_r1 a_l09_put_r1 3 := ⟨rfl, rfl⟩
@[simp] def c_l09_put : CCode :=
  .seq (.region c_l09_put_r0 none [0]) (.seq (.region c_l09_put_r1 none [0]) (.ret))
@[simp] def R_l09_put : List CRes := [.cell 0 true 42]
theorem k_l09_put : chkFn Try.prog fn_l09_put c_l09_put R_l09_put 0 = true := by kernel_rfl
/-! wapentake/request.Good -/
@[simp] def a_request_Good_r0 : List COper := [
  ⟨(some 1), .box, [.t 0], none⟩,
  ⟨(some 2), .mov, [.c (.bool false)], none⟩]
def c_request_Good_r0 : List COper := a_request_Good_r0
instance : Reg c_request_Good_r0 a_request_Good_r0 2 := ⟨rfl, rfl⟩
@[simp] def a_request_Good_r1 : List COper := [
  ⟨(some 4), .faddr 2 40 true, [.t 1], none⟩,
  ⟨(some 5), .load true 40, [.t 4], none⟩,
  ⟨(some 3), .alloc (.node [.v (.int .i64 0), .v (.string (mkS [])), .v (.string (mkS [])), .v (.string (mkS [])), .node [.v (.int .i64 0), .v (.int .i64 0), .v (.int .i64 0), .node [.arr 1 (rep 32 (.v (.int .u8 0))), .v (.int .i64 0)]]]), [], none⟩,
  ⟨none, .store true 40, [.t 3, .t 5], none⟩]
def c_request_Good_r1 : List COper := a_request_Good_r1
instance : Reg c_request_Good_r1 a_request_Good_r1 4 := ⟨rfl, rfl⟩
@[simp] def a_request_Good_r2 : List COper := [
  ⟨(some 6), .faddr 0 1 false, [.t 1], none⟩,
  ⟨(some 7), .load false 1, [.t 6], none⟩,
  ⟨(some 8), .bin .geq, [.t 7, .c (.int .i64 1)], none⟩,
  ⟨(some 9), .mov, [.t 8], none⟩,
  ⟨(some 10), .faddr 0 1 false, [.t 1], (some (9, true))⟩,
  ⟨(some 11), .load false 1, [.t 10], (some (9, true))⟩,
  ⟨(some 12), .bin .leq, [.t 11, .c (.int .i64 64)], (some (9, true))⟩,
  ⟨(some 13), .pick, [.t 9, .t 12, .c (.bool false)], none⟩,
  ⟨(some 14), .mov, [.t 13], none⟩,
  ⟨(some 15), .faddr 1 1 false, [.t 1], (some (14, true))⟩,
  ⟨(some 16), .load false 1, [.t 15], (some (14, true))⟩,
  ⟨(some 17), .bin .geq, [.t 16, .c (.int .i64 1)], (some (14, true))⟩,
  ⟨(some 18), .pick, [.t 14, .t 17, .c (.bool false)], none⟩,
  ⟨(some 19), .mov, [.t 18], none⟩,
  ⟨(some 20), .faddr 1 1 false, [.t 1], (some (19, true))⟩,
  ⟨(some 21), .load false 1, [.t 20], (some (19, true))⟩,
  ⟨(some 22), .bin .leq, [.t 21, .c (.int .i64 1099511627776)], (some (19, true))⟩,
  ⟨(some 23), .pick, [.t 19, .t 22, .c (.bool false)], none⟩,
  ⟨(some 24), .mov, [.t 23], none⟩,
  ⟨(some 25), .faddr 0 1 false, [.t 3], (some (24, true))⟩,
  ⟨(some 26), .load false 1, [.t 25], (some (24, true))⟩,
  ⟨(some 27), .bin .geq, [.t 26, .c (.int .i64 1)], (some (24, true))⟩,
  ⟨(some 28), .pick, [.t 24, .t 27, .c (.bool false)], none⟩,
  ⟨(some 29), .mov, [.t 28], none⟩,
  ⟨(some 30), .faddr 0 1 false, [.t 3], (some (29, true))⟩,
  ⟨(some 31), .load false 1, [.t 30], (some (29, true))⟩,
  ⟨(some 32), .bin .leq, [.t 31, .c (.int .i64 7)], (some (29, true))⟩,
  ⟨(some 33), .pick, [.t 29, .t 32, .c (.bool false)], none⟩,
  ⟨(some 34), .mov, [.t 33], none⟩,
  ⟨(some 35), .faddr 1 1 false, [.t 3], (some (34, true))⟩,
  ⟨(some 36), .load false 1, [.t 35], (some (34, true))⟩,
  ⟨(some 37), .faddr 2 1 false, [.t 3], (some (34, true))⟩,
  ⟨(some 38), .load false 1, [.t 37], (some (34, true))⟩,
  ⟨(some 39), .faddr 3 1 false, [.t 3], (some (34, true))⟩,
  ⟨(some 40), .load false 1, [.t 39], (some (34, true))⟩,
  ⟨(some 41), .bslice 1 3 (.v (.string (mkS []))) [0, 1, 2], [.t 36, .t 38, .t 40], (some (34, true))⟩,
  ⟨(some 42), .call fn_request_short, [.t 41], (some (34, true))⟩,
  ⟨(some 43), .pick, [.t 34, .t 42, .c (.bool false)], none⟩,
  ⟨(some 2), .mov, [.t 43], none⟩]
def c_request_Good_r2 : List COper := a_request_Good_r2
instance : Reg c_request_Good_r2 a_request_Good_r2 39 := ⟨rfl, rfl⟩
@[simp] def c_request_Good : CCode :=
  .seq (.region c_request_Good_r0 none [1]) (.seq (.region c_request_Good_r1 none [1, 3]) (.seq (.region c_request_Good_r2 none [2]) (.ret)))
@[simp] def R_request_Good : List CRes := [.tmp 2]
theorem k_request_Good : chkFn Try.prog fn_request_Good c_request_Good R_request_Good 1 = true := by kernel_rfl
/-! (*wapentake/code.Writer).Num -/
@[simp] def a_code_Writer_Num_r0 : List COper := [
  ⟨(some 7), .mov, [.t 0], none⟩,
  ⟨(some 8), .eqp false, [.t 7, .c (.pointer none)], none⟩]
def c_code_Writer_Num_r0 : List COper := a_code_Writer_Num_r0
instance : Reg c_code_Writer_Num_r0 a_code_Writer_Num_r0 2 := ⟨rfl, rfl⟩
@[simp] def a_code_Writer_Num_r1 : List COper := [
  ⟨(some 9), .mov, [.t 1], none⟩,
  ⟨(some 10), .len, [.t 9], none⟩,
  ⟨(some 11), .mov, [.c (.int .i64 0)], none⟩]
def c_code_Writer_Num_r1 : List COper := a_code_Writer_Num_r1
instance : Reg c_code_Writer_Num_r1 a_code_Writer_Num_r1 3 := ⟨rfl, rfl⟩
@[simp] def a_code_Writer_Num_r2 : List COper := [
  ⟨(some 12), .bin .lss, [.t 11, .t 10], none⟩]
def c_code_Writer_Num_r2 : List COper := a_code_Writer_Num_r2
instance : Reg c_code_Writer_Num_r2 a_code_Writer_Num_r2 1 := ⟨rfl, rfl⟩
@[simp] def a_code_Writer_Num_r3 : List COper := [
  ⟨(some 13), .iaddr 1, [.t 9, .t 11], none⟩,
  ⟨(some 14), .load false 1, [.t 13], none⟩,
  ⟨(some 5), .mov, [.t 14], none⟩]
def c_code_Writer_Num_r3 : List COper := a_code_Writer_Num_r3
instance : Reg c_code_Writer_Num_r3 a_code_Writer_Num_r3 3 := ⟨rfl, rfl⟩
@[simp] def a_code_Writer_Num_r4 : List COper := [
  ⟨(some 6), .mov, [.c (.int .i64 56)], none⟩]
def c_code_Writer_Num_r4 : List COper := a_code_Writer_Num_r4
instance : Reg c_code_Writer_Num_r4 a_code_Writer_Num_r4 1 := ⟨rfl, rfl⟩
@[simp] def a_code_Writer_Num_r5 : List COper := [
  ⟨(some 15), .mov, [.t 6], none⟩,
  ⟨(some 16), .bin .geq, [.t 15, .c (.int .i64 0)], none⟩]
def c_code_Writer_Num_r5 : List COper := a_code_Writer_Num_r5
instance : Reg c_code_Writer_Num_r5 a_code_Writer_Num_r5 2 := ⟨rfl, rfl⟩
@[simp] def a_code_Writer_Num_r7 : List COper := [
  ⟨(some 19), .mov, [.t 0], none⟩,
  ⟨(some 20), .mov, [.t 0], none⟩,
  ⟨(some 21), .nilc, [.t 20], none⟩,
  ⟨(some 22), .faddr 0 1 false, [.t 21], none⟩,
  ⟨(some 23), .load false 1, [.t 22], none⟩,
  ⟨(some 24), .mov, [.t 5], none⟩,
  ⟨(some 25), .convI .u64, [.t 24], none⟩,
  ⟨(some 26), .mov, [.t 6], none⟩,
  ⟨(some 27), .bin .shr, [.t 25, .t 26], none⟩,
  ⟨(some 28), .convI .u8, [.t 27], none⟩,
  ⟨(some 29), .bslice 1 1 (.v (.int .u8 0)) [0], [.t 28], none⟩,
  ⟨(some 30), .app 1 1, [.t 23, .t 29], none⟩,
  ⟨(some 31), .nilc, [.t 19], none⟩,
  ⟨(some 32), .faddr 0 1 false, [.t 31], none⟩,
  ⟨none, .store false 1, [.t 32, .t 30], none⟩]
def c_code_Writer_Num_r7 : List COper := a_code_Writer_Num_r7
instance : Reg c_code_Writer_Num_r7 a_code_Writer_Num_r7 15 := ⟨rfl, rfl⟩
@[simp] def a_code_Writer_Num_r6 : List COper := [
  ⟨(some 17), .mov, [.t 6], none⟩,
  ⟨(some 18), .bin .sub, [.t 17, .c (.int .i64 8)], none⟩,
  ⟨(some 6), .mov, [.t 18], none⟩]
def c_code_Writer_Num_r6 : List COper := a_code_Writer_Num_r6
instance : Reg c_code_Writer_Num_r6 a_code_Writer_Num_r6 3 := ⟨rfl, rfl⟩
@[simp] def a_code_Writer_Num_r8 : List COper := [
  ⟨(some 33), .bin .add, [.t 11, .c (.int .i64 1)], none⟩,
  ⟨(some 11), .mov, [.t 33], none⟩]
def c_code_Writer_Num_r8 : List COper := a_code_Writer_Num_r8
instance : Reg c_code_Writer_Num_r8 a_code_Writer_Num_r8 2 := ⟨rfl, rfl⟩
@[simp] def c_code_Writer_Num : CCode :=
  .seq (.seq (.region c_code_Writer_Num_r0 none [0, 1, 8]) (.cond (.t 8) (.ret) (.skip))) (.seq (.region c_code_Writer_Num_r1 none [0, 9, 10, 11]) (.block 0 (.loop (.seq (.region c_code_Writer_Num_r2 none [0, 9, 10, 11, 12]) (.seq (.cond (.t 12) (.skip) (.exit 0)) (.seq (.block 1 (.seq (.region c_code_Writer_Num_r3 none [0, 5, 9, 10, 11]) (.seq (.region c_code_Writer_Num_r4 none [0, 5, 6, 9, 10, 11]) (.block 2 (.loop (.seq (.seq (.region c_code_Writer_Num_r5 none [0, 5, 6, 9, 10, 11, 16]) (.cond (.t 16) (.skip) (.exit 2))) (.seq (.block 3 (.region c_code_Writer_Num_r7 (some ([0, 0, 2, 6, 14, 0, 32, 0, 224, 480, 992, 2046, 4095, 8191, 16383], [(4, 10)])) [0, 5, 6, 9, 10, 11])) (.region c_code_Writer_Num_r6 none [0, 5, 6, 9, 10, 11])))))))) (.region c_code_Writer_Num_r8 none [0, 9, 10, 11])))))))
@[simp] def R_code_Writer_Num : List CRes := []
theorem k_code_Writer_Num : chkFn Try.prog fn_code_Writer_Num c_code_Writer_Num R_code_Writer_Num 2 = true := by kernel_rfl
/-! (*wapentake/code.Writer).Text -/
@[simp] def a_code_Writer_Text_r0 : List COper := [
  ⟨(some 7), .mov, [.t 0], none⟩,
  ⟨(some 8), .eqp false, [.t 7, .c (.pointer none)], none⟩]
def c_code_Writer_Text_r0 : List COper := a_code_Writer_Text_r0
instance : Reg c_code_Writer_Text_r0 a_code_Writer_Text_r0 2 := ⟨rfl, rfl⟩
@[simp] def a_code_Writer_Text_r1 : List COper := [
  ⟨(some 9), .mov, [.t 1], none⟩,
  ⟨(some 10), .len, [.t 9], none⟩,
  ⟨(some 11), .mov, [.c (.int .i64 0)], none⟩]
def c_code_Writer_Text_r1 : List COper := a_code_Writer_Text_r1
instance : Reg c_code_Writer_Text_r1 a_code_Writer_Text_r1 3 := ⟨rfl, rfl⟩
@[simp] def a_code_Writer_Text_r2 : List COper := [
  ⟨(some 12), .bin .lss, [.t 11, .t 10], none⟩]
def c_code_Writer_Text_r2 : List COper := a_code_Writer_Text_r2
instance : Reg c_code_Writer_Text_r2 a_code_Writer_Text_r2 1 := ⟨rfl, rfl⟩
@[simp] def a_code_Writer_Text_r3 : List COper := [
  ⟨(some 13), .iaddr 1, [.t 9, .t 11], none⟩,
  ⟨(some 14), .load false 1, [.t 13], none⟩,
  ⟨(some 5), .mov, [.t 14], none⟩]
def c_code_Writer_Text_r3 : List COper := a_code_Writer_Text_r3
instance : Reg c_code_Writer_Text_r3 a_code_Writer_Text_r3 3 := ⟨rfl, rfl⟩
@[simp] def a_code_Writer_Text_r4 : List COper := [
  ⟨(some 15), .mov, [.t 5], none⟩,
  ⟨(some 16), .lenS, [.t 15], none⟩,
  ⟨(some 6), .mov, [.t 16], none⟩]
def c_code_Writer_Text_r4 : List COper := a_code_Writer_Text_r4
instance : Reg c_code_Writer_Text_r4 a_code_Writer_Text_r4 3 := ⟨rfl, rfl⟩
@[simp] def a_code_Writer_Text_r5 : List COper := [
  ⟨(some 17), .mov, [.t 0], none⟩,
  ⟨(some 18), .mov, [.t 0], none⟩,
  ⟨(some 19), .nilc, [.t 18], none⟩,
  ⟨(some 20), .faddr 0 1 false, [.t 19], none⟩,
  ⟨(some 21), .load false 1, [.t 20], none⟩,
  ⟨(some 22), .mov, [.t 6], none⟩,
  ⟨(some 23), .bin .shr, [.t 22, .c (.int .u64 24)], none⟩,
  ⟨(some 24), .convI .u8, [.t 23], none⟩,
  ⟨(some 25), .mov, [.t 6], none⟩,
  ⟨(some 26), .bin .shr, [.t 25, .c (.int .u64 16)], none⟩,
  ⟨(some 27), .convI .u8, [.t 26], none⟩,
  ⟨(some 28), .mov, [.t 6], none⟩,
  ⟨(some 29), .bin .shr, [.t 28, .c (.int .u64 8)], none⟩,
  ⟨(some 30), .convI .u8, [.t 29], none⟩,
  ⟨(some 31), .mov, [.t 6], none⟩,
  ⟨(some 32), .convI .u8, [.t 31], none⟩,
  ⟨(some 33), .bslice 1 4 (.v (.int .u8 0)) [0, 1, 2, 3], [.t 24, .t 27, .t 30, .t 32], none⟩,
  ⟨(some 34), .app 1 1, [.t 21, .t 33], none⟩,
  ⟨(some 35), .nilc, [.t 17], none⟩,
  ⟨(some 36), .faddr 0 1 false, [.t 35], none⟩,
  ⟨none, .store false 1, [.t 36, .t 34], none⟩]
def c_code_Writer_Text_r5 : List COper := a_code_Writer_Text_r5
instance : Reg c_code_Writer_Text_r5 a_code_Writer_Text_r5 21 := ⟨rfl, rfl⟩
@[simp] def a_code_Writer_Text_r6 : List COper := [
  ⟨(some 37), .mov, [.t 0], none⟩,
  ⟨(some 38), .mov, [.t 0], none⟩,
  ⟨(some 39), .nilc, [.t 38], none⟩,
  ⟨(some 40), .faddr 0 1 false, [.t 39], none⟩,
  ⟨(some 41), .load false 1, [.t 40], none⟩,
  ⟨(some 42), .mov, [.t 5], none⟩,
  ⟨(some 43), .appS 1, [.t 41, .t 42], none⟩,
  ⟨(some 44), .nilc, [.t 37], none⟩,
  ⟨(some 45), .faddr 0 1 false, [.t 44], none⟩,
  ⟨none, .store false 1, [.t 45, .t 43], none⟩]
def c_code_Writer_Text_r6 : List COper := a_code_Writer_Text_r6
instance : Reg c_code_Writer_Text_r6 a_code_Writer_Text_r6 10 := ⟨rfl, rfl⟩
@[simp] def a_code_Writer_Text_r7 : List COper := [
  ⟨(some 46), .bin .add, [.t 11, .c (.int .i64 1)], none⟩,
  ⟨(some 11), .mov, [.t 46], none⟩]
def c_code_Writer_Text_r7 : List COper := a_code_Writer_Text_r7
instance : Reg c_code_Writer_Text_r7 a_code_Writer_Text_r7 2 := ⟨rfl, rfl⟩
@[simp] def c_code_Writer_Text : CCode :=
  .seq (.seq (.region c_code_Writer_Text_r0 none [0, 1, 8]) (.cond (.t 8) (.ret) (.skip))) (.seq (.region c_code_Writer_Text_r1 none [0, 9, 10, 11]) (.block 0 (.loop (.seq (.region c_code_Writer_Text_r2 none [0, 9, 10, 11, 12]) (.seq (.cond (.t 12) (.skip) (.exit 0)) (.seq (.block 1 (.seq (.region c_code_Writer_Text_r3 none [0, 5, 9, 10, 11]) (.seq (.region c_code_Writer_Text_r4 none [0, 5, 6, 9, 10, 11]) (.seq (.region c_code_Writer_Text_r5 none [0, 5, 9, 10, 11]) (.region c_code_Writer_Text_r6 none [0, 9, 10, 11]))))) (.region c_code_Writer_Text_r7 none [0, 9, 10, 11])))))))
@[simp] def R_code_Writer_Text : List CRes := []
theorem k_code_Writer_Text : chkFn Try.prog fn_code_Writer_Text c_code_Writer_Text R_code_Writer_Text 2 = true := by kernel_rfl
/-! wapentake/block.Good -/
@[simp] def a_block_Good_r0 : List COper := [
  ⟨(some 1), .box, [.t 0], none⟩,
  ⟨(some 2), .mov, [.c (.bool false)], none⟩]
def c_block_Good_r0 : List COper := a_block_Good_r0
instance : Reg c_block_Good_r0 a_block_Good_r0 2 := ⟨rfl, rfl⟩
@[simp] def a_block_Good_r1 : List COper := [
  ⟨(some 5), .faddr 0 1 false, [.t 1], none⟩,
  ⟨(some 6), .load false 1, [.t 5], none⟩,
  ⟨(some 7), .bin .lss, [.t 6, .c (.int .i64 0)], none⟩,
  ⟨(some 8), .mov, [.t 7], none⟩,
  ⟨(some 9), .faddr 0 1 false, [.t 1], (some (8, false))⟩,
  ⟨(some 10), .load false 1, [.t 9], (some (8, false))⟩,
  ⟨(some 11), .bin .gtr, [.t 10, .c (.int .i64 1073741824)], (some (8, false))⟩,
  ⟨(some 12), .pick, [.t 8, .c (.bool true), .t 11], none⟩,
  ⟨(some 13), .mov, [.t 12], none⟩,
  ⟨(some 14), .faddr 1 1 false, [.t 1], (some (13, false))⟩,
  ⟨(some 15), .load false 1, [.t 14], (some (13, false))⟩,
  ⟨(some 16), .bin .lss, [.t 15, .c (.int .i64 1)], (some (13, false))⟩,
  ⟨(some 17), .pick, [.t 13, .c (.bool true), .t 16], none⟩,
  ⟨(some 18), .mov, [.t 17], none⟩,
  ⟨(some 19), .faddr 1 1 false, [.t 1], (some (18, false))⟩,
  ⟨(some 20), .load false 1, [.t 19], (some (18, false))⟩,
  ⟨(some 21), .bin .gtr, [.t 20, .c (.int .i64 1024)], (some (18, false))⟩,
  ⟨(some 22), .pick, [.t 18, .c (.bool true), .t 21], none⟩,
  ⟨(some 23), .mov, [.t 22], none⟩,
  ⟨(some 24), .faddr 98 1 false, [.t 1], (some (23, false))⟩,
  ⟨(some 25), .load false 1, [.t 24], (some (23, false))⟩,
  ⟨(some 26), .len, [.t 25], (some (23, false))⟩,
  ⟨(some 27), .bin .gtr, [.t 26, .c (.int .i64 8)], (some (23, false))⟩,
  ⟨(some 28), .pick, [.t 23, .c (.bool true), .t 27], none⟩]
def c_block_Good_r1 : List COper := a_block_Good_r1
instance : Reg c_block_Good_r1 a_block_Good_r1 24 := ⟨rfl, rfl⟩
@[simp] def a_block_Good_r2 : List COper := [
  ⟨(some 2), .mov, [.c (.bool false)], none⟩]
def c_block_Good_r2 : List COper := a_block_Good_r2
instance : Reg c_block_Good_r2 a_block_Good_r2 1 := ⟨rfl, rfl⟩
@[simp] def a_block_Good_r3 : List COper := [
  ⟨(some 29), .faddr 98 1 false, [.t 1], none⟩,
  ⟨(some 30), .load false 1, [.t 29], none⟩,
  ⟨(some 31), .len, [.t 30], none⟩,
  ⟨(some 32), .mov, [.c (.int .i64 0)], none⟩]
def c_block_Good_r3 : List COper := a_block_Good_r3
instance : Reg c_block_Good_r3 a_block_Good_r3 4 := ⟨rfl, rfl⟩
@[simp] def a_block_Good_r4 : List COper := [
  ⟨(some 33), .bin .lss, [.t 32, .t 31], none⟩]
def c_block_Good_r4 : List COper := a_block_Good_r4
instance : Reg c_block_Good_r4 a_block_Good_r4 1 := ⟨rfl, rfl⟩
@[simp] def a_block_Good_r5 : List COper := [
  ⟨(some 34), .iaddr 42, [.t 30, .t 32], none⟩,
  ⟨(some 35), .load true 42, [.t 34], none⟩,
  ⟨(some 4), .alloc (.node [.v (.int .i64 0), .v (.int .i64 0), .node [.v (.int .i64 0), .v (.string (mkS [])), .v (.string (mkS [])), .v (.string (mkS [])), .node [.v (.int .i64 0), .v (.int .i64 0), .v (.int .i64 0), .node [.arr 1 (rep 32 (.v (.int .u8 0))), .v (.int .i64 0)]]]]), [], none⟩,
  ⟨none, .store true 42, [.t 4, .t 35], none⟩]
def c_block_Good_r5 : List COper := a_block_Good_r5
instance : Reg c_block_Good_r5 a_block_Good_r5 4 := ⟨rfl, rfl⟩
@[simp] def a_block_Good_r6 : List COper := [
  ⟨(some 36), .load true 42, [.t 4], none⟩,
  ⟨(some 37), .call fn_request_Good, [.t 36], none⟩,
  ⟨(some 38), .not, [.t 37], none⟩]
def c_block_Good_r6 : List COper := a_block_Good_r6
instance : Reg c_block_Good_r6 a_block_Good_r6 3 := ⟨rfl, rfl⟩
@[simp] def a_block_Good_r7 : List COper := [
  ⟨(some 2), .mov, [.c (.bool false)], none⟩]
def c_block_Good_r7 : List COper := a_block_Good_r7
instance : Reg c_block_Good_r7 a_block_Good_r7 1 := ⟨rfl, rfl⟩
@[simp] def a_block_Good_r8 : List COper := [
  ⟨(some 39), .bin .add, [.t 32, .c (.int .i64 1)], none⟩,
  ⟨(some 32), .mov, [.t 39], none⟩]
def c_block_Good_r8 : List COper := a_block_Good_r8
instance : Reg c_block_Good_r8 a_block_Good_r8 2 := ⟨rfl, rfl⟩
@[simp] def a_block_Good_r9 : List COper := [
  ⟨(some 2), .mov, [.c (.bool true)], none⟩]
def c_block_Good_r9 : List COper := a_block_Good_r9
instance : Reg c_block_Good_r9 a_block_Good_r9 1 := ⟨rfl, rfl⟩
@[simp] def c_block_Good : CCode :=
  .seq (.region c_block_Good_r0 none [1]) (.seq (.seq (.region c_block_Good_r1 none [1, 28]) (.cond (.t 28) (.seq (.region c_block_Good_r2 none [2]) (.ret)) (.skip))) (.seq (.seq (.region c_block_Good_r3 none [30, 31, 32]) (.block 0 (.loop (.seq (.region c_block_Good_r4 none [30, 31, 32, 33]) (.seq (.cond (.t 33) (.skip) (.exit 0)) (.seq (.block 1 (.seq (.region c_block_Good_r5 none [4, 30, 31, 32]) (.seq (.region c_block_Good_r6 none [30, 31, 32, 38]) (.cond (.t 38) (.seq (.region c_block_Good_r7 none [2]) (.ret)) (.skip))))) (.region c_block_Good_r8 none [30, 31, 32]))))))) (.seq (.region c_block_Good_r9 none [2]) (.ret))))
@[simp] def R_block_Good : List CRes := [.tmp 2]
theorem k_block_Good : chkFn Try.prog fn_block_Good c_block_Good R_block_Good 1 = true := by kernel_rfl
/-! wapentake/wapentakeref09.nums -/
@[simp] def a_r09_nums_r0 : List COper := [
  ⟨(some 2), .mov, [.c (.string (mkS []))], none⟩]
def c_r09_nums_r0 : List COper := a_r09_nums_r0
instance : Reg c_r09_nums_r0 a_r09_nums_r0 1 := ⟨rfl, rfl⟩
@[simp] def a_r09_nums_r1 : List COper := [
  ⟨(some 3), .mov, [.c (.string (mkS []))], none⟩]
def c_r09_nums_r1 : List COper := a_r09_nums_r1
instance : Reg c_r09_nums_r1 a_r09_nums_r1 1 := ⟨rfl, rfl⟩
@[simp] def a_r09_nums_r2 : List COper := [
  ⟨(some 6), .mov, [.t 0], none⟩,
  ⟨(some 7), .len, [.t 6], none⟩,
  ⟨(some 8), .mov, [.c (.int .i64 0)], none⟩]
def c_r09_nums_r2 : List COper := a_r09_nums_r2
instance : Reg c_r09_nums_r2 a_r09_nums_r2 3 := ⟨rfl, rfl⟩
@[simp] def a_r09_nums_r3 : List COper := [
  ⟨(some 9), .bin .lss, [.t 8, .t 7], none⟩]
def c_r09_nums_r3 : List COper := a_r09_nums_r3
instance : Reg c_r09_nums_r3 a_r09_nums_r3 1 := ⟨rfl, rfl⟩
@[simp] def a_r09_nums_r4 : List COper := [
  ⟨(some 10), .iaddr 1, [.t 6, .t 8], none⟩,
  ⟨(some 11), .load false 1, [.t 10], none⟩,
  ⟨(some 5), .mov, [.t 11], none⟩]
def c_r09_nums_r4 : List COper := a_r09_nums_r4
instance : Reg c_r09_nums_r4 a_r09_nums_r4 3 := ⟨rfl, rfl⟩
@[simp] def a_r09_nums_r5 : List COper := [
  ⟨(some 12), .mov, [.t 3], none⟩,
  ⟨(some 13), .mov, [.t 5], none⟩,
  ⟨(some 14), .call fn_r01_Num, [.t 13], none⟩,
  ⟨(some 15), .bin .add, [.t 12, .t 14], none⟩,
  ⟨(some 3), .mov, [.t 15], none⟩]
def c_r09_nums_r5 : List COper := a_r09_nums_r5
instance : Reg c_r09_nums_r5 a_r09_nums_r5 5 := ⟨rfl, rfl⟩
@[simp] def a_r09_nums_r6 : List COper := [
  ⟨(some 16), .bin .add, [.t 8, .c (.int .i64 1)], none⟩,
  ⟨(some 8), .mov, [.t 16], none⟩]
def c_r09_nums_r6 : List COper := a_r09_nums_r6
instance : Reg c_r09_nums_r6 a_r09_nums_r6 2 := ⟨rfl, rfl⟩
@[simp] def a_r09_nums_r7 : List COper := [
  ⟨(some 17), .mov, [.t 3], none⟩,
  ⟨(some 2), .mov, [.t 17], none⟩]
def c_r09_nums_r7 : List COper := a_r09_nums_r7
instance : Reg c_r09_nums_r7 a_r09_nums_r7 2 := ⟨rfl, rfl⟩
@[simp] def c_r09_nums : CCode :=
  .seq (.region c_r09_nums_r0 none [0]) (.seq (.region c_r09_nums_r1 none [0, 3]) (.seq (.seq (.region c_r09_nums_r2 none [3, 6, 7, 8]) (.block 0 (.loop (.seq (.region c_r09_nums_r3 none [3, 6, 7, 8, 9]) (.seq (.cond (.t 9) (.skip) (.exit 0)) (.seq (.block 1 (.seq (.region c_r09_nums_r4 none [3, 5, 6, 7, 8]) (.region c_r09_nums_r5 none [3, 6, 7, 8]))) (.region c_r09_nums_r6 none [3, 6, 7, 8]))))))) (.seq (.region c_r09_nums_r7 none [2]) (.ret))))
@[simp] def R_r09_nums : List CRes := [.tmp 2]
theorem k_r09_nums : chkFn Try.prog fn_r09_nums c_r09_nums R_r09_nums 1 = true := by kernel_rfl
/-! wapentake/wapentakeref01.Text -/
@[simp] def a_r01_Text_r0 : List COper := [
  ⟨(some 2), .mov, [.c (.string (mkS []))], none⟩]
def c_r01_Text_r0 : List COper := a_r01_Text_r0
instance : Reg c_r01_Text_r0 a_r01_Text_r0 1 := ⟨rfl, rfl⟩
@[simp] def a_r01_Text_r1 : List COper := [
  ⟨(some 3), .mov, [.t 0], none⟩,
  ⟨(some 4), .lenS, [.t 3], none⟩,
  ⟨(some 5), .call fn_r01_Num, [.t 4], none⟩,
  ⟨(some 6), .sliceStr true false, [.t 5, .c (.int .i64 4)], none⟩,
  ⟨(some 7), .mov, [.t 0], none⟩,
  ⟨(some 8), .bin .add, [.t 6, .t 7], none⟩,
  ⟨(some 2), .mov, [.t 8], none⟩]
def c_r01_Text_r1 : List COper := a_r01_Text_r1
instance : Reg c_r01_Text_r1 a_r01_Text_r1 7 := ⟨rfl, rfl⟩
@[simp] def c_r01_Text : CCode :=
  .seq (.region c_r01_Text_r0 none [0]) (.seq (.region c_r01_Text_r1 none [2]) (.ret))
@[simp] def R_r01_Text : List CRes := [.tmp 2]
theorem k_r01_Text : chkFn Try.prog fn_r01_Text c_r01_Text R_r01_Text 1 = true := by kernel_rfl
/-! wapentake/wapentakeref09.Texts -/
@[simp] def a_r09_Texts_r0 : List COper := [
  ⟨(some 4), .mov, [.c (.bool false)], none⟩]
def c_r09_Texts_r0 : List COper := a_r09_Texts_r0
instance : Reg c_r09_Texts_r0 a_r09_Texts_r0 1 := ⟨rfl, rfl⟩
@[simp] def a_r09_Texts_r1 : List COper := [
  ⟨(some 6), .mov, [.t 0], none⟩,
  ⟨(some 7), .len, [.t 6], none⟩,
  ⟨(some 8), .mov, [.t 1], none⟩,
  ⟨(some 9), .len, [.t 8], none⟩,
  ⟨(some 10), .bin .neq, [.t 7, .t 9], none⟩]
def c_r09_Texts_r1 : List COper := a_r09_Texts_r1
instance : Reg c_r09_Texts_r1 a_r09_Texts_r1 5 := ⟨rfl, rfl⟩
@[simp] def a_r09_Texts_r2 : List COper := [
  ⟨(some 4), .mov, [.c (.bool false)], none⟩]
def c_r09_Texts_r2 : List COper := a_r09_Texts_r2
instance : Reg c_r09_Texts_r2 a_r09_Texts_r2 1 := ⟨rfl, rfl⟩
@[simp] def a_r09_Texts_r3 : List COper := [
  ⟨(some 11), .mov, [.t 0], none⟩,
  ⟨(some 12), .len, [.t 11], none⟩,
  ⟨(some 13), .mov, [.c (.int .i64 0)], none⟩]
def c_r09_Texts_r3 : List COper := a_r09_Texts_r3
instance : Reg c_r09_Texts_r3 a_r09_Texts_r3 3 := ⟨rfl, rfl⟩
@[simp] def a_r09_Texts_r4 : List COper := [
  ⟨(some 14), .bin .lss, [.t 13, .t 12], none⟩]
def c_r09_Texts_r4 : List COper := a_r09_Texts_r4
instance : Reg c_r09_Texts_r4 a_r09_Texts_r4 1 := ⟨rfl, rfl⟩
@[simp] def a_r09_Texts_r5 : List COper := [
  ⟨(some 15), .mov, [.t 13], none⟩,
  ⟨(some 5), .mov, [.t 15], none⟩]
def c_r09_Texts_r5 : List COper := a_r09_Texts_r5
instance : Reg c_r09_Texts_r5 a_r09_Texts_r5 2 := ⟨rfl, rfl⟩
@[simp] def a_r09_Texts_r6 : List COper := [
  ⟨(some 16), .mov, [.t 0], none⟩,
  ⟨(some 17), .mov, [.t 5], none⟩,
  ⟨(some 18), .iaddr 1, [.t 16, .t 17], none⟩,
  ⟨(some 19), .load false 1, [.t 18], none⟩,
  ⟨(some 20), .mov, [.t 1], none⟩,
  ⟨(some 21), .mov, [.t 5], none⟩,
  ⟨(some 22), .iaddr 1, [.t 20, .t 21], none⟩,
  ⟨(some 23), .load false 1, [.t 22], none⟩,
  ⟨(some 24), .bin .neq, [.t 19, .t 23], none⟩]
def c_r09_Texts_r6 : List COper := a_r09_Texts_r6
instance : Reg c_r09_Texts_r6 a_r09_Texts_r6 9 := ⟨rfl, rfl⟩
@[simp] def a_r09_Texts_r7 : List COper := [
  ⟨(some 4), .mov, [.c (.bool false)], none⟩]
def c_r09_Texts_r7 : List COper := a_r09_Texts_r7
instance : Reg c_r09_Texts_r7 a_r09_Texts_r7 1 := ⟨rfl, rfl⟩
@[simp] def a_r09_Texts_r8 : List COper := [
  ⟨(some 25), .bin .add, [.t 13, .c (.int .i64 1)], none⟩,
  ⟨(some 13), .mov, [.t 25], none⟩]
def c_r09_Texts_r8 : List COper := a_r09_Texts_r8
instance : Reg c_r09_Texts_r8 a_r09_Texts_r8 2 := ⟨rfl, rfl⟩
@[simp] def a_r09_Texts_r9 : List COper := [
  ⟨(some 4), .mov, [.c (.bool true)], none⟩]
def c_r09_Texts_r9 : List COper := a_r09_Texts_r9
instance : Reg c_r09_Texts_r9 a_r09_Texts_r9 1 := ⟨rfl, rfl⟩
@[simp] def c_r09_Texts : CCode :=
  .seq (.region c_r09_Texts_r0 none [0, 1]) (.seq (.seq (.region c_r09_Texts_r1 none [0, 1, 10]) (.cond (.t 10) (.seq (.region c_r09_Texts_r2 none [4]) (.ret)) (.skip))) (.seq (.seq (.region c_r09_Texts_r3 none [0, 1, 12, 13]) (.block 0 (.loop (.seq (.region c_r09_Texts_r4 none [0, 1, 12, 13, 14]) (.seq (.cond (.t 14) (.skip) (.exit 0)) (.seq (.block 1 (.seq (.region c_r09_Texts_r5 none [0, 1, 5, 12, 13]) (.seq (.region c_r09_Texts_r6 (some ([0, 0, 3, 7, 0, 0, 48, 112, 255], [])) [0, 1, 12, 13, 24]) (.cond (.t 24) (.seq (.region c_r09_Texts_r7 none [4]) (.ret)) (.skip))))) (.region c_r09_Texts_r8 none [0, 1, 12, 13]))))))) (.seq (.region c_r09_Texts_r9 none [4]) (.ret))))
@[simp] def R_r09_Texts : List CRes := [.tmp 4]
theorem k_r09_Texts : chkFn Try.prog fn_r09_Texts c_r09_Texts R_r09_Texts 2 = true := by kernel_rfl
/-! (*wapentake/code.Reader).In -/
@[simp] def a_code_Reader_In_r0 : List COper := [
  ⟨(some 6), .mov, [.c (.int .i64 0)], none⟩]
def c_code_Reader_In_r0 : List COper := a_code_Reader_In_r0
instance : Reg c_code_Reader_In_r0 a_code_Reader_In_r0 1 := ⟨rfl, rfl⟩
@[simp] def a_code_Reader_In_r1 : List COper := [
  ⟨(some 8), .mov, [.t 0], none⟩,
  ⟨(some 9), .call fn_code_Reader_Num, [.t 8], none⟩,
  ⟨(some 7), .mov, [.t 9], none⟩]
def c_code_Reader_In_r1 : List COper := a_code_Reader_In_r1
instance : Reg c_code_Reader_In_r1 a_code_Reader_In_r1 3 := ⟨rfl, rfl⟩
@[simp] def a_code_Reader_In_r2 : List COper := [
  ⟨(some 10), .mov, [.t 0], none⟩,
  ⟨(some 11), .eqp false, [.t 10, .c (.pointer none)], none⟩,
  ⟨(some 12), .mov, [.t 11], none⟩,
  ⟨(some 13), .mov, [.t 7], (some (12, false))⟩,
  ⟨(some 14), .mov, [.t 1], (some (12, false))⟩,
  ⟨(some 15), .bin .geq, [.t 13, .t 14], (some (12, false))⟩,
  ⟨(some 16), .mov, [.t 15], (some (12, false))⟩,
  ⟨(some 17), .mov, [.t 7], (some (16, true))⟩,
  ⟨(some 18), .mov, [.t 2], (some (16, true))⟩,
  ⟨(some 19), .bin .leq, [.t 17, .t 18], (some (16, true))⟩,
  ⟨(some 20), .pick, [.t 16, .t 19, .c (.bool false)], (some (12, false))⟩,
  ⟨(some 21), .mov, [.t 20], (some (12, false))⟩,
  ⟨(some 22), .mov, [.t 0], (some (21, true))⟩,
  ⟨(some 23), .nilc, [.t 22], (some (21, true))⟩,
  ⟨(some 24), .faddr 1 1 false, [.t 23], (some (21, true))⟩,
  ⟨(some 25), .load false 1, [.t 24], (some (21, true))⟩,
  ⟨(some 26), .not, [.t 25], (some (21, true))⟩,
  ⟨(some 27), .pick, [.t 21, .t 26, .c (.bool false)], (some (12, false))⟩,
  ⟨(some 28), .pick, [.t 12, .c (.bool true), .t 27], none⟩]
def c_code_Reader_In_r2 : List COper := a_code_Reader_In_r2
instance : Reg c_code_Reader_In_r2 a_code_Reader_In_r2 19 := ⟨rfl, rfl⟩
@[simp] def a_code_Reader_In_r3 : List COper := [
  ⟨(some 29), .mov, [.t 7], none⟩,
  ⟨(some 6), .mov, [.t 29], none⟩]
def c_code_Reader_In_r3 : List COper := a_code_Reader_In_r3
instance : Reg c_code_Reader_In_r3 a_code_Reader_In_r3 2 := ⟨rfl, rfl⟩
@[simp] def a_code_Reader_In_r4 : List COper := [
  ⟨(some 30), .mov, [.t 0], none⟩,
  ⟨(some 31), .mov, [.t 0], none⟩,
  ⟨(some 32), .nilc, [.t 30], none⟩,
  ⟨(some 33), .faddr 1 1 false, [.t 32], none⟩,
  ⟨none, .store false 1, [.t 33, .c (.bool true)], none⟩,
  ⟨(some 34), .nilc, [.t 31], none⟩,
  ⟨(some 35), .faddr 0 1 false, [.t 34], none⟩,
  ⟨none, .store false 1, [.t 35, .c (.slice none 0 0)], none⟩]
def c_code_Reader_In_r4 : List COper := a_code_Reader_In_r4
instance : Reg c_code_Reader_In_r4 a_code_Reader_In_r4 8 := ⟨rfl, rfl⟩
@[simp] def a_code_Reader_In_r5 : List COper := [
  ⟨(some 6), .mov, [.c (.int .i64 0)], none⟩]
def c_code_Reader_In_r5 : List COper := a_code_Reader_In_r5
instance : Reg c_code_Reader_In_r5 a_code_Reader_In_r5 1 := ⟨rfl, rfl⟩
@[simp] def c_code_Reader_In : CCode :=
  .seq (.region c_code_Reader_In_r0 none [0, 1, 2]) (.seq (.region c_code_Reader_In_r1 none [0, 1, 2, 7]) (.seq (.seq (.region c_code_Reader_In_r2 none [0, 7, 28]) (.cond (.t 28) (.seq (.region c_code_Reader_In_r3 none [6]) (.ret)) (.skip))) (.seq (.region c_code_Reader_In_r4 none []) (.seq (.region c_code_Reader_In_r5 none [6]) (.ret)))))
@[simp] def R_code_Reader_In : List CRes := [.tmp 6]
theorem k_code_Reader_In : chkFn Try.prog fn_code_Reader_In c_code_Reader_In R_code_Reader_In 3 = true := by kernel_rfl
/-! (*wapentake/code.Reader).Text -/
@[simp] def a_code_Reader_Text_r0 : List COper := [
  ⟨(some 4), .mov, [.c (.string (mkS []))], none⟩]
def c_code_Reader_Text_r0 : List COper := a_code_Reader_Text_r0
instance : Reg c_code_Reader_Text_r0 a_code_Reader_Text_r0 1 := ⟨rfl, rfl⟩
@[simp] def a_code_Reader_Text_r1 : List COper := [
  ⟨(some 5), .mov, [.c (.int .i64 0)], none⟩]
def c_code_Reader_Text_r1 : List COper := a_code_Reader_Text_r1
instance : Reg c_code_Reader_Text_r1 a_code_Reader_Text_r1 1 := ⟨rfl, rfl⟩
@[simp] def a_code_Reader_Text_r2 : List COper := [
  ⟨(some 8), .mov, [.t 0], none⟩,
  ⟨(some 9), .call fn_code_Reader_take, [.t 8, .c (.int .i64 4)], none⟩,
  ⟨(some 10), .len, [.t 9], none⟩,
  ⟨(some 11), .mov, [.c (.int .i64 0)], none⟩]
def c_code_Reader_Text_r2 : List COper := a_code_Reader_Text_r2
instance : Reg c_code_Reader_Text_r2 a_code_Reader_Text_r2 4 := ⟨rfl, rfl⟩
@[simp] def a_code_Reader_Text_r3 : List COper := [
  ⟨(some 12), .bin .lss, [.t 11, .t 10], none⟩]
def c_code_Reader_Text_r3 : List COper := a_code_Reader_Text_r3
instance : Reg c_code_Reader_Text_r3 a_code_Reader_Text_r3 1 := ⟨rfl, rfl⟩
@[simp] def a_code_Reader_Text_r4 : List COper := [
  ⟨(some 13), .iaddr 1, [.t 9, .t 11], none⟩,
  ⟨(some 14), .load false 1, [.t 13], none⟩,
  ⟨(some 7), .mov, [.t 14], none⟩]
def c_code_Reader_Text_r4 : List COper := a_code_Reader_Text_r4
instance : Reg c_code_Reader_Text_r4 a_code_Reader_Text_r4 3 := ⟨rfl, rfl⟩
@[simp] def a_code_Reader_Text_r5 : List COper := [
  ⟨(some 15), .mov, [.t 5], none⟩,
  ⟨(some 16), .bin .shl, [.t 15, .c (.int .u64 8)], none⟩,
  ⟨(some 17), .mov, [.t 7], none⟩,
  ⟨(some 18), .convI .i64, [.t 17], none⟩,
  ⟨(some 19), .bin .or, [.t 16, .t 18], none⟩,
  ⟨(some 5), .mov, [.t 19], none⟩]
def c_code_Reader_Text_r5 : List COper := a_code_Reader_Text_r5
instance : Reg c_code_Reader_Text_r5 a_code_Reader_Text_r5 6 := ⟨rfl, rfl⟩
@[simp] def a_code_Reader_Text_r6 : List COper := [
  ⟨(some 20), .bin .add, [.t 11, .c (.int .i64 1)], none⟩,
  ⟨(some 11), .mov, [.t 20], none⟩]
def c_code_Reader_Text_r6 : List COper := a_code_Reader_Text_r6
instance : Reg c_code_Reader_Text_r6 a_code_Reader_Text_r6 2 := ⟨rfl, rfl⟩
@[simp] def a_code_Reader_Text_r7 : List COper := [
  ⟨(some 21), .mov, [.t 5], none⟩,
  ⟨(some 22), .mov, [.t 1], none⟩,
  ⟨(some 23), .bin .gtr, [.t 21, .t 22], none⟩]
def c_code_Reader_Text_r7 : List COper := a_code_Reader_Text_r7
instance : Reg c_code_Reader_Text_r7 a_code_Reader_Text_r7 3 := ⟨rfl, rfl⟩
@[simp] def a_code_Reader_Text_r8 : List COper := [
  ⟨(some 5), .mov, [.c (.int .i64 (-1))], none⟩]
def c_code_Reader_Text_r8 : List COper := a_code_Reader_Text_r8
instance : Reg c_code_Reader_Text_r8 a_code_Reader_Text_r8 1 := ⟨rfl, rfl⟩
@[simp] def a_code_Reader_Text_r9 : List COper := [
  ⟨(some 24), .mov, [.t 0], none⟩,
  ⟨(some 25), .mov, [.t 5], none⟩,
  ⟨(some 26), .call fn_code_Reader_take, [.t 24, .t 25], none⟩,
  ⟨(some 27), .convS, [.t 26], none⟩,
  ⟨(some 4), .mov, [.t 27], none⟩]
def c_code_Reader_Text_r9 : List COper := a_code_Reader_Text_r9
instance : Reg c_code_Reader_Text_r9 a_code_Reader_Text_r9 5 := ⟨rfl, rfl⟩
@[simp] def c_code_Reader_Text : CCode :=
  .seq (.region c_code_Reader_Text_r0 none [0, 1]) (.seq (.region c_code_Reader_Text_r1 none [0, 1, 5]) (.seq (.seq (.region c_code_Reader_Text_r2 none [0, 1, 5, 9, 10, 11]) (.block 0 (.loop (.seq (.region c_code_Reader_Text_r3 none [0, 1, 5, 9, 10, 11, 12]) (.seq (.cond (.t 12) (.skip) (.exit 0)) (.seq (.block 1 (.seq (.region c_code_Reader_Text_r4 none [0, 1, 5, 7, 9, 10, 11]) (.region c_code_Reader_Text_r5 none [0, 1, 5, 9, 10, 11]))) (.region c_code_Reader_Text_r6 none [0, 1, 5, 9, 10, 11]))))))) (.seq (.seq (.region c_code_Reader_Text_r7 none [0, 5, 23]) (.cond (.t 23) (.region c_code_Reader_Text_r8 none [0, 5]) (.skip))) (.seq (.region c_code_Reader_Text_r9 none [4]) (.ret)))))
@[simp] def R_code_Reader_Text : List CRes := [.tmp 4]
theorem k_code_Reader_Text : chkFn Try.prog fn_code_Reader_Text c_code_Reader_Text R_code_Reader_Text 2 = true := by kernel_rfl
/-! (*wapentake/wapentakeref01.Reader).In -/
@[simp] def a_r01_Reader_In_r0 : List COper := [
  ⟨(some 6), .mov, [.c (.int .i64 0)], none⟩]
def c_r01_Reader_In_r0 : List COper := a_r01_Reader_In_r0
instance : Reg c_r01_Reader_In_r0 a_r01_Reader_In_r0 1 := ⟨rfl, rfl⟩
@[simp] def a_r01_Reader_In_r1 : List COper := [
  ⟨(some 8), .mov, [.t 0], none⟩,
  ⟨(some 9), .call fn_r01_Reader_Num, [.t 8], none⟩,
  ⟨(some 7), .mov, [.t 9], none⟩]
def c_r01_Reader_In_r1 : List COper := a_r01_Reader_In_r1
instance : Reg c_r01_Reader_In_r1 a_r01_Reader_In_r1 3 := ⟨rfl, rfl⟩
@[simp] def a_r01_Reader_In_r2 : List COper := [
  ⟨(some 10), .mov, [.t 0], none⟩,
  ⟨(some 11), .nilc, [.t 10], none⟩,
  ⟨(some 12), .faddr 1 1 false, [.t 11], none⟩,
  ⟨(some 13), .load false 1, [.t 12], none⟩,
  ⟨(some 14), .mov, [.t 13], none⟩,
  ⟨(some 15), .mov, [.t 7], (some (14, false))⟩,
  ⟨(some 16), .mov, [.t 1], (some (14, false))⟩,
  ⟨(some 17), .bin .lss, [.t 15, .t 16], (some (14, false))⟩,
  ⟨(some 18), .pick, [.t 14, .c (.bool true), .t 17], none⟩,
  ⟨(some 19), .mov, [.t 18], none⟩,
  ⟨(some 20), .mov, [.t 7], (some (19, false))⟩,
  ⟨(some 21), .mov, [.t 2], (some (19, false))⟩,
  ⟨(some 22), .bin .gtr, [.t 20, .t 21], (some (19, false))⟩,
  ⟨(some 23), .pick, [.t 19, .c (.bool true), .t 22], none⟩]
def c_r01_Reader_In_r2 : List COper := a_r01_Reader_In_r2
instance : Reg c_r01_Reader_In_r2 a_r01_Reader_In_r2 14 := ⟨rfl, rfl⟩
@[simp] def a_r01_Reader_In_r3 : List COper := [
  ⟨(some 24), .mov, [.t 0], none⟩,
  ⟨(some 25), .call fn_r01_Reader_Take, [.t 24, .c (.int .i64 (-1))], none⟩]
def c_r01_Reader_In_r3 : List COper := a_r01_Reader_In_r3
instance : Reg c_r01_Reader_In_r3 a_r01_Reader_In_r3 2 := ⟨rfl, rfl⟩
@[simp] def a_r01_Reader_In_r4 : List COper := [
  ⟨(some 6), .mov, [.c (.int .i64 0)], none⟩]
def c_r01_Reader_In_r4 : List COper := a_r01_Reader_In_r4
instance : Reg c_r01_Reader_In_r4 a_r01_Reader_In_r4 1 := ⟨rfl, rfl⟩
@[simp] def a_r01_Reader_In_r5 : List COper := [
  ⟨(some 26), .mov, [.t 7], none⟩,
  ⟨(some 6), .mov, [.t 26], none⟩]
def c_r01_Reader_In_r5 : List COper := a_r01_Reader_In_r5
instance : Reg c_r01_Reader_In_r5 a_r01_Reader_In_r5 2 := ⟨rfl, rfl⟩
@[simp] def c_r01_Reader_In : CCode :=
  .seq (.region c_r01_Reader_In_r0 none [0, 1, 2]) (.seq (.region c_r01_Reader_In_r1 none [0, 1, 2, 7]) (.seq (.seq (.region c_r01_Reader_In_r2 none [0, 7, 23]) (.cond (.t 23) (.seq (.region c_r01_Reader_In_r3 none []) (.seq (.region c_r01_Reader_In_r4 none [6]) (.ret))) (.skip))) (.seq (.region c_r01_Reader_In_r5 none [6]) (.ret))))
@[simp] def R_r01_Reader_In : List CRes := [.tmp 6]
theorem k_r01_Reader_In : chkFn Try.prog fn_r01_Reader_In c_r01_Reader_In R_r01_Reader_In 3 = true := by kernel_rfl
/-! (*wapentake/wapentakeref01.Reader).Text -/
@[simp] def a_r01_Reader_Text_r0 : List COper := [
  ⟨(some 4), .mov, [.c (.string (mkS []))], none⟩]
def c_r01_Reader_Text_r0 : List COper := a_r01_Reader_Text_r0
instance : Reg c_r01_Reader_Text_r0 a_r01_Reader_Text_r0 1 := ⟨rfl, rfl⟩
@[simp] def a_r01_Reader_Text_r1 : List COper := [
  ⟨(some 8), .mov, [.t 0], none⟩,
  ⟨(some 9), .call fn_r01_Reader_Take, [.t 8, .c (.int .i64 4)], none⟩,
  ⟨(some 5), .mov, [.t 9], none⟩]
def c_r01_Reader_Text_r1 : List COper := a_r01_Reader_Text_r1
instance : Reg c_r01_Reader_Text_r1 a_r01_Reader_Text_r1 3 := ⟨rfl, rfl⟩
@[simp] def a_r01_Reader_Text_r2 : List COper := [
  ⟨(some 6), .mov, [.c (.int .i64 0)], none⟩]
def c_r01_Reader_Text_r2 : List COper := a_r01_Reader_Text_r2
instance : Reg c_r01_Reader_Text_r2 a_r01_Reader_Text_r2 1 := ⟨rfl, rfl⟩
@[simp] def a_r01_Reader_Text_r3 : List COper := [
  ⟨(some 7), .mov, [.c (.int .i64 0)], none⟩]
def c_r01_Reader_Text_r3 : List COper := a_r01_Reader_Text_r3
instance : Reg c_r01_Reader_Text_r3 a_r01_Reader_Text_r3 1 := ⟨rfl, rfl⟩
@[simp] def a_r01_Reader_Text_r4 : List COper := [
  ⟨(some 10), .mov, [.t 7], none⟩,
  ⟨(some 11), .mov, [.t 5], none⟩,
  ⟨(some 12), .lenS, [.t 11], none⟩,
  ⟨(some 13), .bin .lss, [.t 10, .t 12], none⟩]
def c_r01_Reader_Text_r4 : List COper := a_r01_Reader_Text_r4
instance : Reg c_r01_Reader_Text_r4 a_r01_Reader_Text_r4 4 := ⟨rfl, rfl⟩
@[simp] def a_r01_Reader_Text_r6 : List COper := [
  ⟨(some 16), .mov, [.t 6], none⟩,
  ⟨(some 17), .bin .mul, [.t 16, .c (.int .i64 256)], none⟩,
  ⟨(some 18), .mov, [.t 5], none⟩,
  ⟨(some 19), .mov, [.t 7], none⟩,
  ⟨(some 20), .idxS, [.t 18, .t 19], none⟩,
  ⟨(some 21), .convI .i64, [.t 20], none⟩,
  ⟨(some 22), .bin .add, [.t 17, .t 21], none⟩,
  ⟨(some 6), .mov, [.t 22], none⟩]
def c_r01_Reader_Text_r6 : List COper := a_r01_Reader_Text_r6
instance : Reg c_r01_Reader_Text_r6 a_r01_Reader_Text_r6 8 := ⟨rfl, rfl⟩
@[simp] def a_r01_Reader_Text_r5 : List COper := [
  ⟨(some 14), .mov, [.t 7], none⟩,
  ⟨(some 15), .bin .add, [.t 14, .c (.int .i64 1)], none⟩,
  ⟨(some 7), .mov, [.t 15], none⟩]
def c_r01_Reader_Text_r5 : List COper := a_r01_Reader_Text_r5
instance : Reg c_r01_Reader_Text_r5 a_r01_Reader_Text_r5 3 := ⟨rfl, rfl⟩
@[simp] def a_r01_Reader_Text_r7 : List COper := [
  ⟨(some 23), .mov, [.t 6], none⟩,
  ⟨(some 24), .mov, [.t 1], none⟩,
  ⟨(some 25), .bin .gtr, [.t 23, .t 24], none⟩]
def c_r01_Reader_Text_r7 : List COper := a_r01_Reader_Text_r7
instance : Reg c_r01_Reader_Text_r7 a_r01_Reader_Text_r7 3 := ⟨rfl, rfl⟩
@[simp] def a_r01_Reader_Text_r8 : List COper := [
  ⟨(some 26), .mov, [.t 0], none⟩,
  ⟨(some 27), .call fn_r01_Reader_Take, [.t 26, .c (.int .i64 (-1))], none⟩,
  ⟨(some 4), .mov, [.t 27], none⟩]
def c_r01_Reader_Text_r8 : List COper := a_r01_Reader_Text_r8
instance : Reg c_r01_Reader_Text_r8 a_r01_Reader_Text_r8 3 := ⟨rfl, rfl⟩
@[simp] def a_r01_Reader_Text_r9 : List COper := [
  ⟨(some 28), .mov, [.t 0], none⟩,
  ⟨(some 29), .mov, [.t 6], none⟩,
  ⟨(some 30), .call fn_r01_Reader_Take, [.t 28, .t 29], none⟩,
  ⟨(some 4), .mov, [.t 30], none⟩]
def c_r01_Reader_Text_r9 : List COper := a_r01_Reader_Text_r9
instance : Reg c_r01_Reader_Text_r9 a_r01_Reader_Text_r9 4 := ⟨rfl, rfl⟩
@[simp] def c_r01_Reader_Text : CCode :=
  .seq (.region c_r01_Reader_Text_r0 none [0, 1]) (.seq (.region c_r01_Reader_Text_r1 none [0, 1, 5]) (.seq (.region c_r01_Reader_Text_r2 none [0, 1, 5, 6]) (.seq (.seq (.region c_r01_Reader_Text_r3 none [0, 1, 5, 6, 7]) (.block 0 (.loop (.seq (.seq (.region c_r01_Reader_Text_r4 none [0, 1, 5, 6, 7, 13]) (.cond (.t 13) (.skip) (.exit 0))) (.seq (.block 1 (.region c_r01_Reader_Text_r6 none [0, 1, 5, 6, 7])) (.region c_r01_Reader_Text_r5 none [0, 1, 5, 6, 7])))))) (.seq (.seq (.region c_r01_Reader_Text_r7 none [0, 6, 25]) (.cond (.t 25) (.seq (.region c_r01_Reader_Text_r8 none [4]) (.ret)) (.skip))) (.seq (.region c_r01_Reader_Text_r9 none [4]) (.ret))))))
@[simp] def R_r01_Reader_Text : List CRes := [.tmp 4]
theorem k_r01_Reader_Text : chkFn Try.prog fn_r01_Reader_Text c_r01_Reader_Text R_r01_Reader_Text 2 = true := by kernel_rfl
/-! (*wapentake/code.Reader).Num -/
@[simp] def a_code_Reader_Num_r0 : List COper := [
  ⟨(some 2), .mov, [.c (.int .i64 0)], none⟩]
def c_code_Reader_Num_r0 : List COper := a_code_Reader_Num_r0
instance : Reg c_code_Reader_Num_r0 a_code_Reader_Num_r0 1 := ⟨rfl, rfl⟩
@[simp] def a_code_Reader_Num_r1 : List COper := [
  ⟨(some 3), .mov, [.c (.int .u64 0)], none⟩]
def c_code_Reader_Num_r1 : List COper := a_code_Reader_Num_r1
instance : Reg c_code_Reader_Num_r1 a_code_Reader_Num_r1 1 := ⟨rfl, rfl⟩
@[simp] def a_code_Reader_Num_r2 : List COper := [
  ⟨(some 6), .mov, [.t 0], none⟩,
  ⟨(some 7), .call fn_code_Reader_take, [.t 6, .c (.int .i64 8)], none⟩,
  ⟨(some 8), .len, [.t 7], none⟩,
  ⟨(some 9), .mov, [.c (.int .i64 0)], none⟩]
def c_code_Reader_Num_r2 : List COper := a_code_Reader_Num_r2
instance : Reg c_code_Reader_Num_r2 a_code_Reader_Num_r2 4 := ⟨rfl, rfl⟩
@[simp] def a_code_Reader_Num_r3 : List COper := [
  ⟨(some 10), .bin .lss, [.t 9, .t 8], none⟩]
def c_code_Reader_Num_r3 : List COper := a_code_Reader_Num_r3
instance : Reg c_code_Reader_Num_r3 a_code_Reader_Num_r3 1 := ⟨rfl, rfl⟩
@[simp] def a_code_Reader_Num_r4 : List COper := [
  ⟨(some 11), .iaddr 1, [.t 7, .t 9], none⟩,
  ⟨(some 12), .load false 1, [.t 11], none⟩,
  ⟨(some 5), .mov, [.t 12], none⟩]
def c_code_Reader_Num_r4 : List COper := a_code_Reader_Num_r4
instance : Reg c_code_Reader_Num_r4 a_code_Reader_Num_r4 3 := ⟨rfl, rfl⟩
@[simp] def a_code_Reader_Num_r5 : List COper := [
  ⟨(some 13), .mov, [.t 3], none⟩,
  ⟨(some 14), .bin .shl, [.t 13, .c (.int .u64 8)], none⟩,
  ⟨(some 15), .mov, [.t 5], none⟩,
  ⟨(some 16), .convI .u64, [.t 15], none⟩,
  ⟨(some 17), .bin .or, [.t 14, .t 16], none⟩,
  ⟨(some 3), .mov, [.t 17], none⟩]
def c_code_Reader_Num_r5 : List COper := a_code_Reader_Num_r5
instance : Reg c_code_Reader_Num_r5 a_code_Reader_Num_r5 6 := ⟨rfl, rfl⟩
@[simp] def a_code_Reader_Num_r6 : List COper := [
  ⟨(some 18), .bin .add, [.t 9, .c (.int .i64 1)], none⟩,
  ⟨(some 9), .mov, [.t 18], none⟩]
def c_code_Reader_Num_r6 : List COper := a_code_Reader_Num_r6
instance : Reg c_code_Reader_Num_r6 a_code_Reader_Num_r6 2 := ⟨rfl, rfl⟩
@[simp] def a_code_Reader_Num_r7 : List COper := [
  ⟨(some 19), .mov, [.t 3], none⟩,
  ⟨(some 20), .convI .i64, [.t 19], none⟩,
  ⟨(some 2), .mov, [.t 20], none⟩]
def c_code_Reader_Num_r7 : List COper := a_code_Reader_Num_r7
instance : Reg c_code_Reader_Num_r7 a_code_Reader_Num_r7 3 := ⟨rfl, rfl⟩
@[simp] def c_code_Reader_Num : CCode :=
  .seq (.region c_code_Reader_Num_r0 none [0]) (.seq (.region c_code_Reader_Num_r1 none [0, 3]) (.seq (.seq (.region c_code_Reader_Num_r2 none [3, 7, 8, 9]) (.block 0 (.loop (.seq (.region c_code_Reader_Num_r3 none [3, 7, 8, 9, 10]) (.seq (.cond (.t 10) (.skip) (.exit 0)) (.seq (.block 1 (.seq (.region c_code_Reader_Num_r4 none [3, 5, 7, 8, 9]) (.region c_code_Reader_Num_r5 none [3, 7, 8, 9]))) (.region c_code_Reader_Num_r6 none [3, 7, 8, 9]))))))) (.seq (.region c_code_Reader_Num_r7 none [2]) (.ret))))
@[simp] def R_code_Reader_Num : List CRes := [.tmp 2]
theorem k_code_Reader_Num : chkFn Try.prog fn_code_Reader_Num c_code_Reader_Num R_code_Reader_Num 1 = true := by kernel_rfl
/-! (*wapentake/code.Reader).Digest -/
@[simp] def a_code_Reader_Digest_r0 : List COper := [
  ⟨(some 2), .alloc (.arr 1 (rep 32 (.v (.int .u8 0)))), [], none⟩]
def c_code_Reader_Digest_r0 : List COper := a_code_Reader_Digest_r0
instance : Reg c_code_Reader_Digest_r0 a_code_Reader_Digest_r0 1 := ⟨rfl, rfl⟩
@[simp] def a_code_Reader_Digest_r1 : List COper := [
  ⟨(some 3), .alloc (.arr 1 (rep 32 (.v (.int .u8 0)))), [], none⟩]
def c_code_Reader_Digest_r1 : List COper := a_code_Reader_Digest_r1
instance : Reg c_code_Reader_Digest_r1 a_code_Reader_Digest_r1 1 := ⟨rfl, rfl⟩
@[simp] def a_code_Reader_Digest_r2 : List COper := [
  ⟨(some 4), .sliceArr 32 1 false false, [.t 3], none⟩,
  ⟨(some 5), .mov, [.t 0], none⟩,
  ⟨(some 6), .call fn_code_Reader_take, [.t 5, .c (.int .i64 32)], none⟩,
  ⟨(some 7), .copy 1, [.t 4, .t 6], none⟩]
def c_code_Reader_Digest_r2 : List COper := a_code_Reader_Digest_r2
instance : Reg c_code_Reader_Digest_r2 a_code_Reader_Digest_r2 4 := ⟨rfl, rfl⟩
@[simp] def a_code_Reader_Digest_r3 : List COper := [
  ⟨(some 8), .load true 32, [.t 3], none⟩,
  ⟨none, .store true 32, [.t 2, .t 8], none⟩]
def c_code_Reader_Digest_r3 : List COper := a_code_Reader_Digest_r3
instance : Reg c_code_Reader_Digest_r3 a_code_Reader_Digest_r3 2 := ⟨rfl, rfl⟩
@[simp] def c_code_Reader_Digest : CCode :=
  .seq (.region c_code_Reader_Digest_r0 none [0, 2]) (.seq (.region c_code_Reader_Digest_r1 none [0, 2, 3]) (.seq (.region c_code_Reader_Digest_r2 (some ([0, 0, 2, 7], [])) [2, 3]) (.seq (.region c_code_Reader_Digest_r3 none [2]) (.ret))))
@[simp] def R_code_Reader_Digest : List CRes := [.cell 2 true 32]
theorem k_code_Reader_Digest : chkFn Try.prog fn_code_Reader_Digest c_code_Reader_Digest R_code_Reader_Digest 1 = true := by kernel_rfl
/-! (*wapentake/wapentakeref01.Reader).Num -/
@[simp] def a_r01_Reader_Num_r0 : List COper := [
  ⟨(some 2), .mov, [.c (.int .i64 0)], none⟩]
def c_r01_Reader_Num_r0 : List COper := a_r01_Reader_Num_r0
instance : Reg c_r01_Reader_Num_r0 a_r01_Reader_Num_r0 1 := ⟨rfl, rfl⟩
@[simp] def a_r01_Reader_Num_r1 : List COper := [
  ⟨(some 6), .mov, [.t 0], none⟩,
  ⟨(some 7), .call fn_r01_Reader_Take, [.t 6, .c (.int .i64 8)], none⟩,
  ⟨(some 3), .mov, [.t 7], none⟩]
def c_r01_Reader_Num_r1 : List COper := a_r01_Reader_Num_r1
instance : Reg c_r01_Reader_Num_r1 a_r01_Reader_Num_r1 3 := ⟨rfl, rfl⟩
@[simp] def a_r01_Reader_Num_r2 : List COper := [
  ⟨(some 4), .mov, [.c (.int .i64 0)], none⟩]
def c_r01_Reader_Num_r2 : List COper := a_r01_Reader_Num_r2
instance : Reg c_r01_Reader_Num_r2 a_r01_Reader_Num_r2 1 := ⟨rfl, rfl⟩
@[simp] def a_r01_Reader_Num_r3 : List COper := [
  ⟨(some 5), .mov, [.c (.int .i64 0)], none⟩]
def c_r01_Reader_Num_r3 : List COper := a_r01_Reader_Num_r3
instance : Reg c_r01_Reader_Num_r3 a_r01_Reader_Num_r3 1 := ⟨rfl, rfl⟩
@[simp] def a_r01_Reader_Num_r4 : List COper := [
  ⟨(some 8), .mov, [.t 5], none⟩,
  ⟨(some 9), .mov, [.t 3], none⟩,
  ⟨(some 10), .lenS, [.t 9], none⟩,
  ⟨(some 11), .bin .lss, [.t 8, .t 10], none⟩]
def c_r01_Reader_Num_r4 : List COper := a_r01_Reader_Num_r4
instance : Reg c_r01_Reader_Num_r4 a_r01_Reader_Num_r4 4 := ⟨rfl, rfl⟩
@[simp] def a_r01_Reader_Num_r6 : List COper := [
  ⟨(some 14), .mov, [.t 4], none⟩,
  ⟨(some 15), .bin .shl, [.t 14, .c (.int .u64 8)], none⟩,
  ⟨(some 16), .mov, [.t 3], none⟩,
  ⟨(some 17), .mov, [.t 5], none⟩,
  ⟨(some 18), .idxS, [.t 16, .t 17], none⟩,
  ⟨(some 19), .convI .i64, [.t 18], none⟩,
  ⟨(some 20), .bin .or, [.t 15, .t 19], none⟩,
  ⟨(some 4), .mov, [.t 20], none⟩]
def c_r01_Reader_Num_r6 : List COper := a_r01_Reader_Num_r6
instance : Reg c_r01_Reader_Num_r6 a_r01_Reader_Num_r6 8 := ⟨rfl, rfl⟩
@[simp] def a_r01_Reader_Num_r5 : List COper := [
  ⟨(some 12), .mov, [.t 5], none⟩,
  ⟨(some 13), .bin .add, [.t 12, .c (.int .i64 1)], none⟩,
  ⟨(some 5), .mov, [.t 13], none⟩]
def c_r01_Reader_Num_r5 : List COper := a_r01_Reader_Num_r5
instance : Reg c_r01_Reader_Num_r5 a_r01_Reader_Num_r5 3 := ⟨rfl, rfl⟩
@[simp] def a_r01_Reader_Num_r7 : List COper := [
  ⟨(some 21), .mov, [.t 4], none⟩,
  ⟨(some 2), .mov, [.t 21], none⟩]
def c_r01_Reader_Num_r7 : List COper := a_r01_Reader_Num_r7
instance : Reg c_r01_Reader_Num_r7 a_r01_Reader_Num_r7 2 := ⟨rfl, rfl⟩
@[simp] def c_r01_Reader_Num : CCode :=
  .seq (.region c_r01_Reader_Num_r0 none [0]) (.seq (.region c_r01_Reader_Num_r1 none [3]) (.seq (.region c_r01_Reader_Num_r2 none [3, 4]) (.seq (.seq (.region c_r01_Reader_Num_r3 none [3, 4, 5]) (.block 0 (.loop (.seq (.seq (.region c_r01_Reader_Num_r4 none [3, 4, 5, 11]) (.cond (.t 11) (.skip) (.exit 0))) (.seq (.block 1 (.region c_r01_Reader_Num_r6 none [3, 4, 5])) (.region c_r01_Reader_Num_r5 none [3, 4, 5])))))) (.seq (.region c_r01_Reader_Num_r7 none [2]) (.ret)))))
@[simp] def R_r01_Reader_Num : List CRes := [.tmp 2]
theorem k_r01_Reader_Num : chkFn Try.prog fn_r01_Reader_Num c_r01_Reader_Num R_r01_Reader_Num 1 = true := by kernel_rfl
/-! (*wapentake/wapentakeref01.Reader).Digest -/
@[simp] def a_r01_Reader_Digest_r0 : List COper := [
  ⟨(some 2), .alloc (.arr 1 (rep 32 (.v (.int .u8 0)))), [], none⟩]
def c_r01_Reader_Digest_r0 : List COper := a_r01_Reader_Digest_r0
instance : Reg c_r01_Reader_Digest_r0 a_r01_Reader_Digest_r0 1 := ⟨rfl, rfl⟩
@[simp] def a_r01_Reader_Digest_r1 : List COper := [
  ⟨(some 3), .alloc (.arr 1 (rep 32 (.v (.int .u8 0)))), [], none⟩]
def c_r01_Reader_Digest_r1 : List COper := a_r01_Reader_Digest_r1
instance : Reg c_r01_Reader_Digest_r1 a_r01_Reader_Digest_r1 1 := ⟨rfl, rfl⟩
@[simp] def a_r01_Reader_Digest_r2 : List COper := [
  ⟨(some 6), .mov, [.t 0], none⟩,
  ⟨(some 7), .call fn_r01_Reader_Take, [.t 6, .c (.int .i64 32)], none⟩,
  ⟨(some 4), .mov, [.t 7], none⟩]
def c_r01_Reader_Digest_r2 : List COper := a_r01_Reader_Digest_r2
instance : Reg c_r01_Reader_Digest_r2 a_r01_Reader_Digest_r2 3 := ⟨rfl, rfl⟩
@[simp] def a_r01_Reader_Digest_r3 : List COper := [
  ⟨(some 5), .mov, [.c (.int .i64 0)], none⟩]
def c_r01_Reader_Digest_r3 : List COper := a_r01_Reader_Digest_r3
instance : Reg c_r01_Reader_Digest_r3 a_r01_Reader_Digest_r3 1 := ⟨rfl, rfl⟩
@[simp] def a_r01_Reader_Digest_r4 : List COper := [
  ⟨(some 8), .mov, [.t 5], none⟩,
  ⟨(some 9), .mov, [.t 4], none⟩,
  ⟨(some 10), .lenS, [.t 9], none⟩,
  ⟨(some 11), .bin .lss, [.t 8, .t 10], none⟩]
def c_r01_Reader_Digest_r4 : List COper := a_r01_Reader_Digest_r4
instance : Reg c_r01_Reader_Digest_r4 a_r01_Reader_Digest_r4 4 := ⟨rfl, rfl⟩
@[simp] def a_r01_Reader_Digest_r6 : List COper := [
  ⟨(some 14), .mov, [.t 5], none⟩,
  ⟨(some 15), .mov, [.t 4], none⟩,
  ⟨(some 16), .mov, [.t 5], none⟩,
  ⟨(some 17), .idxS, [.t 15, .t 16], none⟩,
  ⟨(some 18), .iaddrArr 32 1 false, [.t 3, .t 14], none⟩,
  ⟨none, .store false 1, [.t 18, .t 17], none⟩]
def c_r01_Reader_Digest_r6 : List COper := a_r01_Reader_Digest_r6
instance : Reg c_r01_Reader_Digest_r6 a_r01_Reader_Digest_r6 6 := ⟨rfl, rfl⟩
@[simp] def a_r01_Reader_Digest_r5 : List COper := [
  ⟨(some 12), .mov, [.t 5], none⟩,
  ⟨(some 13), .bin .add, [.t 12, .c (.int .i64 1)], none⟩,
  ⟨(some 5), .mov, [.t 13], none⟩]
def c_r01_Reader_Digest_r5 : List COper := a_r01_Reader_Digest_r5
instance : Reg c_r01_Reader_Digest_r5 a_r01_Reader_Digest_r5 3 := ⟨rfl, rfl⟩
@[simp] def a_r01_Reader_Digest_r7 : List COper := [
  ⟨(some 19), .load true 32, [.t 3], none⟩,
  ⟨none, .store true 32, [.t 2, .t 19], none⟩]
def c_r01_Reader_Digest_r7 : List COper := a_r01_Reader_Digest_r7
instance : Reg c_r01_Reader_Digest_r7 a_r01_Reader_Digest_r7 2 := ⟨rfl, rfl⟩
@[simp] def c_r01_Reader_Digest : CCode :=
  .seq (.region c_r01_Reader_Digest_r0 none [0, 2]) (.seq (.region c_r01_Reader_Digest_r1 none [0, 2, 3]) (.seq (.region c_r01_Reader_Digest_r2 none [2, 3, 4]) (.seq (.seq (.region c_r01_Reader_Digest_r3 none [2, 3, 4, 5]) (.block 0 (.loop (.seq (.seq (.region c_r01_Reader_Digest_r4 none [2, 3, 4, 5, 11]) (.cond (.t 11) (.skip) (.exit 0))) (.seq (.block 1 (.region c_r01_Reader_Digest_r6 none [2, 3, 4, 5])) (.region c_r01_Reader_Digest_r5 none [2, 3, 4, 5])))))) (.seq (.region c_r01_Reader_Digest_r7 none [2]) (.ret)))))
@[simp] def R_r01_Reader_Digest : List CRes := [.cell 2 true 32]
theorem k_r01_Reader_Digest : chkFn Try.prog fn_r01_Reader_Digest c_r01_Reader_Digest R_r01_Reader_Digest 1 = true := by kernel_rfl
/-! (*wapentake/code.Writer).Digest -/
@[simp] def a_code_Writer_Digest_r0 : List COper := [
  ⟨(some 6), .mov, [.t 0], none⟩,
  ⟨(some 7), .eqp false, [.t 6, .c (.pointer none)], none⟩]
def c_code_Writer_Digest_r0 : List COper := a_code_Writer_Digest_r0
instance : Reg c_code_Writer_Digest_r0 a_code_Writer_Digest_r0 2 := ⟨rfl, rfl⟩
@[simp] def a_code_Writer_Digest_r1 : List COper := [
  ⟨(some 8), .mov, [.t 1], none⟩,
  ⟨(some 9), .len, [.t 8], none⟩,
  ⟨(some 10), .mov, [.c (.int .i64 0)], none⟩]
def c_code_Writer_Digest_r1 : List COper := a_code_Writer_Digest_r1
instance : Reg c_code_Writer_Digest_r1 a_code_Writer_Digest_r1 3 := ⟨rfl, rfl⟩
@[simp] def a_code_Writer_Digest_r2 : List COper := [
  ⟨(some 11), .bin .lss, [.t 10, .t 9], none⟩]
def c_code_Writer_Digest_r2 : List COper := a_code_Writer_Digest_r2
instance : Reg c_code_Writer_Digest_r2 a_code_Writer_Digest_r2 1 := ⟨rfl, rfl⟩
@[simp] def a_code_Writer_Digest_r3 : List COper := [
  ⟨(some 12), .iaddr 32, [.t 8, .t 10], none⟩,
  ⟨(some 13), .load true 32, [.t 12], none⟩,
  ⟨(some 5), .alloc (.arr 1 (rep 32 (.v (.int .u8 0)))), [], none⟩,
  ⟨none, .store true 32, [.t 5, .t 13], none⟩]
def c_code_Writer_Digest_r3 : List COper := a_code_Writer_Digest_r3
instance : Reg c_code_Writer_Digest_r3 a_code_Writer_Digest_r3 4 := ⟨rfl, rfl⟩
@[simp] def a_code_Writer_Digest_r4 : List COper := [
  ⟨(some 14), .mov, [.t 0], none⟩,
  ⟨(some 15), .mov, [.t 0], none⟩,
  ⟨(some 16), .nilc, [.t 15], none⟩,
  ⟨(some 17), .faddr 0 1 false, [.t 16], none⟩,
  ⟨(some 18), .load false 1, [.t 17], none⟩,
  ⟨(some 19), .sliceArr 32 1 false false, [.t 5], none⟩,
  ⟨(some 20), .app 1 1, [.t 18, .t 19], none⟩,
  ⟨(some 21), .nilc, [.t 14], none⟩,
  ⟨(some 22), .faddr 0 1 false, [.t 21], none⟩,
  ⟨none, .store false 1, [.t 22, .t 20], none⟩]
def c_code_Writer_Digest_r4 : List COper := a_code_Writer_Digest_r4
instance : Reg c_code_Writer_Digest_r4 a_code_Writer_Digest_r4 10 := ⟨rfl, rfl⟩
@[simp] def a_code_Writer_Digest_r5 : List COper := [
  ⟨(some 23), .bin .add, [.t 10, .c (.int .i64 1)], none⟩,
  ⟨(some 10), .mov, [.t 23], none⟩]
def c_code_Writer_Digest_r5 : List COper := a_code_Writer_Digest_r5
instance : Reg c_code_Writer_Digest_r5 a_code_Writer_Digest_r5 2 := ⟨rfl, rfl⟩
@[simp] def c_code_Writer_Digest : CCode :=
  .seq (.seq (.region c_code_Writer_Digest_r0 none [0, 1, 7]) (.cond (.t 7) (.ret) (.skip))) (.seq (.region c_code_Writer_Digest_r1 none [0, 8, 9, 10]) (.block 0 (.loop (.seq (.region c_code_Writer_Digest_r2 none [0, 8, 9, 10, 11]) (.seq (.cond (.t 11) (.skip) (.exit 0)) (.seq (.block 1 (.seq (.region c_code_Writer_Digest_r3 none [0, 5, 8, 9, 10]) (.region c_code_Writer_Digest_r4 (some ([0, 0, 2, 6, 14, 0, 62, 127, 255, 511], [])) [0, 8, 9, 10]))) (.region c_code_Writer_Digest_r5 none [0, 8, 9, 10])))))))
@[simp] def R_code_Writer_Digest : List CRes := []
theorem k_code_Writer_Digest : chkFn Try.prog fn_code_Writer_Digest c_code_Writer_Digest R_code_Writer_Digest 2 = true := by kernel_rfl
/-! wapentake/request.short -/
@[simp] def a_request_short_r0 : List COper := [
  ⟨(some 2), .mov, [.c (.bool false)], none⟩]
def c_request_short_r0 : List COper := a_request_short_r0
instance : Reg c_request_short_r0 a_request_short_r0 1 := ⟨rfl, rfl⟩
@[simp] def a_request_short_r1 : List COper := [
  ⟨(some 5), .mov, [.t 0], none⟩,
  ⟨(some 6), .len, [.t 5], none⟩,
  ⟨(some 7), .mov, [.c (.int .i64 0)], none⟩]
def c_request_short_r1 : List COper := a_request_short_r1
instance : Reg c_request_short_r1 a_request_short_r1 3 := ⟨rfl, rfl⟩
@[simp] def a_request_short_r2 : List COper := [
  ⟨(some 8), .bin .lss, [.t 7, .t 6], none⟩]
def c_request_short_r2 : List COper := a_request_short_r2
instance : Reg c_request_short_r2 a_request_short_r2 1 := ⟨rfl, rfl⟩
@[simp] def a_request_short_r3 : List COper := [
  ⟨(some 9), .iaddr 1, [.t 5, .t 7], none⟩,
  ⟨(some 10), .load false 1, [.t 9], none⟩,
  ⟨(some 4), .mov, [.t 10], none⟩]
def c_request_short_r3 : List COper := a_request_short_r3
instance : Reg c_request_short_r3 a_request_short_r3 3 := ⟨rfl, rfl⟩
@[simp] def a_request_short_r4 : List COper := [
  ⟨(some 11), .mov, [.t 4], none⟩,
  ⟨(some 12), .lenS, [.t 11], none⟩,
  ⟨(some 13), .bin .gtr, [.t 12, .c (.int .i64 1024)], none⟩]
def c_request_short_r4 : List COper := a_request_short_r4
instance : Reg c_request_short_r4 a_request_short_r4 3 := ⟨rfl, rfl⟩
@[simp] def a_request_short_r5 : List COper := [
  ⟨(some 2), .mov, [.c (.bool false)], none⟩]
def c_request_short_r5 : List COper := a_request_short_r5
instance : Reg c_request_short_r5 a_request_short_r5 1 := ⟨rfl, rfl⟩
@[simp] def a_request_short_r6 : List COper := [
  ⟨(some 14), .bin .add, [.t 7, .c (.int .i64 1)], none⟩,
  ⟨(some 7), .mov, [.t 14], none⟩]
def c_request_short_r6 : List COper := a_request_short_r6
instance : Reg c_request_short_r6 a_request_short_r6 2 := ⟨rfl, rfl⟩
@[simp] def a_request_short_r7 : List COper := [
  ⟨(some 2), .mov, [.c (.bool true)], none⟩]
def c_request_short_r7 : List COper := a_request_short_r7
instance : Reg c_request_short_r7 a_request_short_r7 1 := ⟨rfl, rfl⟩
@[simp] def c_request_short : CCode :=
  .seq (.region c_request_short_r0 none [0]) (.seq (.seq (.region c_request_short_r1 none [5, 6, 7]) (.block 0 (.loop (.seq (.region c_request_short_r2 none [5, 6, 7, 8]) (.seq (.cond (.t 8) (.skip) (.exit 0)) (.seq (.block 1 (.seq (.region c_request_short_r3 none [4, 5, 6, 7]) (.seq (.region c_request_short_r4 none [5, 6, 7, 13]) (.cond (.t 13) (.seq (.region c_request_short_r5 none [2]) (.ret)) (.skip))))) (.region c_request_short_r6 none [5, 6, 7]))))))) (.seq (.region c_request_short_r7 none [2]) (.ret)))
@[simp] def R_request_short : List CRes := [.tmp 2]
theorem k_request_short : chkFn Try.prog fn_request_short c_request_short R_request_short 1 = true := by kernel_rfl
/-! wapentake/wapentakeref01.Num -/
@[simp] def a_r01_Num_r0 : List COper := [
  ⟨(some 2), .mov, [.c (.string (mkS []))], none⟩]
def c_r01_Num_r0 : List COper := a_r01_Num_r0
instance : Reg c_r01_Num_r0 a_r01_Num_r0 1 := ⟨rfl, rfl⟩
@[simp] def a_r01_Num_r1 : List COper := [
  ⟨(some 3), .alloc (.arr 1 (rep 8 (.v (.int .u8 0)))), [], none⟩]
def c_r01_Num_r1 : List COper := a_r01_Num_r1
instance : Reg c_r01_Num_r1 a_r01_Num_r1 1 := ⟨rfl, rfl⟩
@[simp] def a_r01_Num_r2 : List COper := [
  ⟨(some 4), .mov, [.c (.int .i64 0)], none⟩]
def c_r01_Num_r2 : List COper := a_r01_Num_r2
instance : Reg c_r01_Num_r2 a_r01_Num_r2 1 := ⟨rfl, rfl⟩
@[simp] def a_r01_Num_r3 : List COper := [
  ⟨(some 5), .mov, [.t 4], none⟩,
  ⟨(some 6), .bin .lss, [.t 5, .c (.int .i64 8)], none⟩]
def c_r01_Num_r3 : List COper := a_r01_Num_r3
instance : Reg c_r01_Num_r3 a_r01_Num_r3 2 := ⟨rfl, rfl⟩
@[simp] def a_r01_Num_r5 : List COper := [
  ⟨(some 9), .mov, [.t 4], none⟩,
  ⟨(some 10), .bin .sub, [.c (.int .i64 7), .t 9], none⟩,
  ⟨(some 11), .mov, [.t 0], none⟩,
  ⟨(some 12), .mov, [.t 4], none⟩,
  ⟨(some 13), .bin .mul, [.c (.int .i64 8), .t 12], none⟩,
  ⟨(some 14), .convI .u64, [.t 13], none⟩,
  ⟨(some 15), .bin .shr, [.t 11, .t 14], none⟩,
  ⟨(some 16), .convI .u8, [.t 15], none⟩,
  ⟨(some 17), .iaddrArr 8 1 false, [.t 3, .t 10], none⟩,
  ⟨none, .store false 1, [.t 17, .t 16], none⟩]
def c_r01_Num_r5 : List COper := a_r01_Num_r5
instance : Reg c_r01_Num_r5 a_r01_Num_r5 10 := ⟨rfl, rfl⟩
@[simp] def a_r01_Num_r4 : List COper := [
  ⟨(some 7), .mov, [.t 4], none⟩,
  ⟨(some 8), .bin .add, [.t 7, .c (.int .i64 1)], none⟩,
  ⟨(some 4), .mov, [.t 8], none⟩]
def c_r01_Num_r4 : List COper := a_r01_Num_r4
instance : Reg c_r01_Num_r4 a_r01_Num_r4 3 := ⟨rfl, rfl⟩
@[simp] def a_r01_Num_r6 : List COper := [
  ⟨(some 18), .sliceArr 8 1 false false, [.t 3], none⟩,
  ⟨(some 19), .convS, [.t 18], none⟩,
  ⟨(some 2), .mov, [.t 19], none⟩]
def c_r01_Num_r6 : List COper := a_r01_Num_r6
instance : Reg c_r01_Num_r6 a_r01_Num_r6 3 := ⟨rfl, rfl⟩
@[simp] def c_r01_Num : CCode :=
  .seq (.region c_r01_Num_r0 none [0]) (.seq (.region c_r01_Num_r1 none [0, 3]) (.seq (.seq (.region c_r01_Num_r2 none [0, 3, 4]) (.block 0 (.loop (.seq (.seq (.region c_r01_Num_r3 none [0, 3, 4, 6]) (.cond (.t 6) (.skip) (.exit 0))) (.seq (.block 1 (.region c_r01_Num_r5 none [0, 3, 4])) (.region c_r01_Num_r4 none [0, 3, 4])))))) (.seq (.region c_r01_Num_r6 none [2]) (.ret))))
@[simp] def R_r01_Num : List CRes := [.tmp 2]
theorem k_r01_Num : chkFn Try.prog fn_r01_Num c_r01_Num R_r01_Num 1 = true := by kernel_rfl
/-! (*wapentake/code.Reader).take -/
@[simp] def a_code_Reader_take_r0 : List COper := [
  ⟨(some 4), .mov, [.c (.slice none 0 0)], none⟩]
def c_code_Reader_take_r0 : List COper := a_code_Reader_take_r0
instance : Reg c_code_Reader_take_r0 a_code_Reader_take_r0 1 := ⟨rfl, rfl⟩
@[simp] def a_code_Reader_take_r1 : List COper := [
  ⟨(some 6), .mov, [.t 0], none⟩,
  ⟨(some 7), .eqp false, [.t 6, .c (.pointer none)], none⟩]
def c_code_Reader_take_r1 : List COper := a_code_Reader_take_r1
instance : Reg c_code_Reader_take_r1 a_code_Reader_take_r1 2 := ⟨rfl, rfl⟩
@[simp] def a_code_Reader_take_r2 : List COper := [
  ⟨(some 4), .mov, [.c (.slice none 0 0)], none⟩]
def c_code_Reader_take_r2 : List COper := a_code_Reader_take_r2
instance : Reg c_code_Reader_take_r2 a_code_Reader_take_r2 1 := ⟨rfl, rfl⟩
@[simp] def a_code_Reader_take_r3 : List COper := [
  ⟨(some 8), .mov, [.t 0], none⟩,
  ⟨(some 9), .nilc, [.t 8], none⟩,
  ⟨(some 10), .faddr 1 1 false, [.t 9], none⟩,
  ⟨(some 11), .load false 1, [.t 10], none⟩,
  ⟨(some 12), .mov, [.t 11], none⟩,
  ⟨(some 13), .mov, [.t 1], (some (12, false))⟩,
  ⟨(some 14), .bin .lss, [.t 13, .c (.int .i64 0)], (some (12, false))⟩,
  ⟨(some 15), .pick, [.t 12, .c (.bool true), .t 14], none⟩,
  ⟨(some 16), .mov, [.t 15], none⟩,
  ⟨(some 17), .mov, [.t 1], (some (16, false))⟩,
  ⟨(some 18), .mov, [.t 0], (some (16, false))⟩,
  ⟨(some 19), .nilc, [.t 18], (some (16, false))⟩,
  ⟨(some 20), .faddr 0 1 false, [.t 19], (some (16, false))⟩,
  ⟨(some 21), .load false 1, [.t 20], (some (16, false))⟩,
  ⟨(some 22), .len, [.t 21], (some (16, false))⟩,
  ⟨(some 23), .bin .gtr, [.t 17, .t 22], (some (16, false))⟩,
  ⟨(some 24), .pick, [.t 16, .c (.bool true), .t 23], none⟩]
def c_code_Reader_take_r3 : List COper := a_code_Reader_take_r3
instance : Reg c_code_Reader_take_r3 a_code_Reader_take_r3 17 := ⟨rfl, rfl⟩
@[simp] def a_code_Reader_take_r4 : List COper := [
  ⟨(some 25), .mov, [.t 0], none⟩,
  ⟨(some 26), .nilc, [.t 25], none⟩,
  ⟨(some 27), .faddr 0 1 false, [.t 26], none⟩,
  ⟨(some 28), .load false 1, [.t 27], none⟩,
  ⟨(some 29), .mov, [.t 1], none⟩,
  ⟨(some 30), .slice 1 false true, [.t 28, .t 29], none⟩,
  ⟨(some 5), .mov, [.t 30], none⟩]
def c_code_Reader_take_r4 : List COper := a_code_Reader_take_r4
instance : Reg c_code_Reader_take_r4 a_code_Reader_take_r4 7 := ⟨rfl, rfl⟩
@[simp] def a_code_Reader_take_r5 : List COper := [
  ⟨(some 31), .mov, [.t 0], none⟩,
  ⟨(some 32), .mov, [.t 0], none⟩,
  ⟨(some 33), .nilc, [.t 32], none⟩,
  ⟨(some 34), .faddr 0 1 false, [.t 33], none⟩,
  ⟨(some 35), .load false 1, [.t 34], none⟩,
  ⟨(some 36), .mov, [.t 1], none⟩,
  ⟨(some 37), .slice 1 true false, [.t 35, .t 36], none⟩,
  ⟨(some 38), .nilc, [.t 31], none⟩,
  ⟨(some 39), .faddr 0 1 false, [.t 38], none⟩,
  ⟨none, .store false 1, [.t 39, .t 37], none⟩]
def c_code_Reader_take_r5 : List COper := a_code_Reader_take_r5
instance : Reg c_code_Reader_take_r5 a_code_Reader_take_r5 10 := ⟨rfl, rfl⟩
@[simp] def a_code_Reader_take_r6 : List COper := [
  ⟨(some 40), .mov, [.t 5], none⟩,
  ⟨(some 4), .mov, [.t 40], none⟩]
def c_code_Reader_take_r6 : List COper := a_code_Reader_take_r6
instance : Reg c_code_Reader_take_r6 a_code_Reader_take_r6 2 := ⟨rfl, rfl⟩
@[simp] def a_code_Reader_take_r7 : List COper := [
  ⟨(some 41), .mov, [.t 0], none⟩,
  ⟨(some 42), .mov, [.t 0], none⟩,
  ⟨(some 43), .nilc, [.t 41], none⟩,
  ⟨(some 44), .faddr 1 1 false, [.t 43], none⟩,
  ⟨none, .store false 1, [.t 44, .c (.bool true)], none⟩,
  ⟨(some 45), .nilc, [.t 42], none⟩,
  ⟨(some 46), .faddr 0 1 false, [.t 45], none⟩,
  ⟨none, .store false 1, [.t 46, .c (.slice none 0 0)], none⟩]
def c_code_Reader_take_r7 : List COper := a_code_Reader_take_r7
instance : Reg c_code_Reader_take_r7 a_code_Reader_take_r7 8 := ⟨rfl, rfl⟩
@[simp] def a_code_Reader_take_r8 : List COper := [
  ⟨(some 4), .mov, [.c (.slice none 0 0)], none⟩]
def c_code_Reader_take_r8 : List COper := a_code_Reader_take_r8
instance : Reg c_code_Reader_take_r8 a_code_Reader_take_r8 1 := ⟨rfl, rfl⟩
@[simp] def c_code_Reader_take : CCode :=
  .seq (.region c_code_Reader_take_r0 none [0, 1]) (.scope 0 (.seq (.seq (.region c_code_Reader_take_r1 none [0, 1, 7]) (.cond (.t 7) (.seq (.region c_code_Reader_take_r2 none [4]) (.ret)) (.skip))) (.seq (.seq (.region c_code_Reader_take_r3 none [0, 1, 24]) (.cond (.t 24) (.goto 0) (.skip))) (.seq (.seq (.region c_code_Reader_take_r4 none [0, 1, 5]) (.seq (.region c_code_Reader_take_r5 none [5]) (.seq (.region c_code_Reader_take_r6 none [4]) (.ret)))) (.seq (.label 0) (.seq (.region c_code_Reader_take_r7 none []) (.seq (.region c_code_Reader_take_r8 none [4]) (.ret))))))) (.seq (.skip) (.seq (.region c_code_Reader_take_r7 none []) (.seq (.region c_code_Reader_take_r8 none [4]) (.ret)))))
@[simp] def R_code_Reader_take : List CRes := [.tmp 4]
theorem k_code_Reader_take : chkFn Try.prog fn_code_Reader_take c_code_Reader_take R_code_Reader_take 2 = true := by kernel_rfl
/-! (*wapentake/wapentakeref01.Reader).Take -/
@[simp] def a_r01_Reader_Take_r0 : List COper := [
  ⟨(some 4), .mov, [.c (.string (mkS []))], none⟩]
def c_r01_Reader_Take_r0 : List COper := a_r01_Reader_Take_r0
instance : Reg c_r01_Reader_Take_r0 a_r01_Reader_Take_r0 1 := ⟨rfl, rfl⟩
@[simp] def a_r01_Reader_Take_r1 : List COper := [
  ⟨(some 6), .mov, [.t 0], none⟩,
  ⟨(some 7), .nilc, [.t 6], none⟩,
  ⟨(some 8), .faddr 1 1 false, [.t 7], none⟩,
  ⟨(some 9), .load false 1, [.t 8], none⟩,
  ⟨(some 10), .mov, [.t 9], none⟩,
  ⟨(some 11), .mov, [.t 1], (some (10, false))⟩,
  ⟨(some 12), .bin .lss, [.t 11, .c (.int .i64 0)], (some (10, false))⟩,
  ⟨(some 13), .pick, [.t 10, .c (.bool true), .t 12], none⟩,
  ⟨(some 14), .mov, [.t 13], none⟩,
  ⟨(some 15), .mov, [.t 1], (some (14, false))⟩,
  ⟨(some 16), .mov, [.t 0], (some (14, false))⟩,
  ⟨(some 17), .nilc, [.t 16], (some (14, false))⟩,
  ⟨(some 18), .faddr 0 1 false, [.t 17], (some (14, false))⟩,
  ⟨(some 19), .load false 1, [.t 18], (some (14, false))⟩,
  ⟨(some 20), .lenS, [.t 19], (some (14, false))⟩,
  ⟨(some 21), .bin .gtr, [.t 15, .t 20], (some (14, false))⟩,
  ⟨(some 22), .pick, [.t 14, .c (.bool true), .t 21], none⟩]
def c_r01_Reader_Take_r1 : List COper := a_r01_Reader_Take_r1
instance : Reg c_r01_Reader_Take_r1 a_r01_Reader_Take_r1 17 := ⟨rfl, rfl⟩
@[simp] def a_r01_Reader_Take_r2 : List COper := [
  ⟨(some 23), .mov, [.t 0], none⟩,
  ⟨(some 24), .nilc, [.t 23], none⟩,
  ⟨(some 25), .faddr 1 1 false, [.t 24], none⟩,
  ⟨none, .store false 1, [.t 25, .c (.bool true)], none⟩]
def c_r01_Reader_Take_r2 : List COper := a_r01_Reader_Take_r2
instance : Reg c_r01_Reader_Take_r2 a_r01_Reader_Take_r2 4 := ⟨rfl, rfl⟩
@[simp] def a_r01_Reader_Take_r3 : List COper := [
  ⟨(some 26), .mov, [.t 0], none⟩,
  ⟨(some 27), .nilc, [.t 26], none⟩,
  ⟨(some 28), .faddr 0 1 false, [.t 27], none⟩,
  ⟨none, .store false 1, [.t 28, .c (.string (mkS []))], none⟩]
def c_r01_Reader_Take_r3 : List COper := a_r01_Reader_Take_r3
instance : Reg c_r01_Reader_Take_r3 a_r01_Reader_Take_r3 4 := ⟨rfl, rfl⟩
@[simp] def a_r01_Reader_Take_r4 : List COper := [
  ⟨(some 4), .mov, [.c (.string (mkS []))], none⟩]
def c_r01_Reader_Take_r4 : List COper := a_r01_Reader_Take_r4
instance : Reg c_r01_Reader_Take_r4 a_r01_Reader_Take_r4 1 := ⟨rfl, rfl⟩
@[simp] def a_r01_Reader_Take_r5 : List COper := [
  ⟨(some 29), .mov, [.t 0], none⟩,
  ⟨(some 30), .nilc, [.t 29], none⟩,
  ⟨(some 31), .faddr 0 1 false, [.t 30], none⟩,
  ⟨(some 32), .load false 1, [.t 31], none⟩,
  ⟨(some 33), .mov, [.t 1], none⟩,
  ⟨(some 34), .sliceStr false true, [.t 32, .t 33], none⟩,
  ⟨(some 5), .mov, [.t 34], none⟩]
def c_r01_Reader_Take_r5 : List COper := a_r01_Reader_Take_r5
instance : Reg c_r01_Reader_Take_r5 a_r01_Reader_Take_r5 7 := ⟨rfl, rfl⟩
@[simp] def a_r01_Reader_Take_r6 : List COper := [
  ⟨(some 35), .mov, [.t 0], none⟩,
  ⟨(some 36), .mov, [.t 0], none⟩,
  ⟨(some 37), .nilc, [.t 36], none⟩,
  ⟨(some 38), .faddr 0 1 false, [.t 37], none⟩,
  ⟨(some 39), .load false 1, [.t 38], none⟩,
  ⟨(some 40), .mov, [.t 1], none⟩,
  ⟨(some 41), .sliceStr true false, [.t 39, .t 40], none⟩,
  ⟨(some 42), .nilc, [.t 35], none⟩,
  ⟨(some 43), .faddr 0 1 false, [.t 42], none⟩,
  ⟨none, .store false 1, [.t 43, .t 41], none⟩]
def c_r01_Reader_Take_r6 : List COper := a_r01_Reader_Take_r6
instance : Reg c_r01_Reader_Take_r6 a_r01_Reader_Take_r6 10 := ⟨rfl, rfl⟩
@[simp] def a_r01_Reader_Take_r7 : List COper := [
  ⟨(some 44), .mov, [.t 5], none⟩,
  ⟨(some 4), .mov, [.t 44], none⟩]
def c_r01_Reader_Take_r7 : List COper := a_r01_Reader_Take_r7
instance : Reg c_r01_Reader_Take_r7 a_r01_Reader_Take_r7 2 := ⟨rfl, rfl⟩
@[simp] def c_r01_Reader_Take : CCode :=
  .seq (.region c_r01_Reader_Take_r0 none [0, 1]) (.seq (.seq (.region c_r01_Reader_Take_r1 none [0, 1, 22]) (.cond (.t 22) (.seq (.region c_r01_Reader_Take_r2 none [0]) (.seq (.region c_r01_Reader_Take_r3 none []) (.seq (.region c_r01_Reader_Take_r4 none [4]) (.ret)))) (.skip))) (.seq (.region c_r01_Reader_Take_r5 none [0, 1, 5]) (.seq (.region c_r01_Reader_Take_r6 none [5]) (.seq (.region c_r01_Reader_Take_r7 none [4]) (.ret)))))
@[simp] def R_r01_Reader_Take : List CRes := [.tmp 4]
theorem k_r01_Reader_Take : chkFn Try.prog fn_r01_Reader_Take c_r01_Reader_Take R_r01_Reader_Take 2 = true := by kernel_rfl
end Go.Proofs.Ytmdjimkndeklmaa.WL
