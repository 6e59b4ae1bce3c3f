/- The program's functions as abstract texts, each held against the program by the kernel. -/
import Derived.Test.YtmdjimkndeklmaaDoorBa
import Derived.Test.YtmdjimkndeklmaaDoorChecked
namespace Go.Proofs.YtmdjimkndeklmaaDoor.WL
open Go
theorem mix : Tryd.prog.follows .mixedOrders = true := by kernel_rfl
def fn_l09_RequestParts : Nat := 3
def fn_l12_BlockParts : Nat := 4
def fn_l05_KeysSign : Nat := 5
def fn_l05_KeysCheck : Nat := 6
def fn_l05_KeysKeep : Nat := 7
def fn_l05_KeysWrite : Nat := 8
def fn_l09_alive : Nat := 9
def fn_l09_long : Nat := 10
def fn_request_Write : Nat := 11
def fn_code_Writer_Bytes : Nat := 12
def fn_request_Digest : Nat := 13
def fn_l12_alive : Nat := 14
def fn_r12_Great : Nat := 15
def fn_block_Write : Nat := 16
def fn_r12_Same : Nat := 17
def fn_block_Digest : Nat := 18
def fn_l05_alive : Nat := 19
def fn_keys_Tree_Sign : Nat := 20
def fn_keys_Tree_Key : Nat := 21
def fn_keys_New : Nat := 22
def fn_r05_Leaves : Nat := 23
def fn_r05_Key : Nat := 24
def fn_r05_Same : Nat := 25
def fn_r05_Sign : Nat := 26
def fn_l05_great : Nat := 27
def fn_keys_Check : Nat := 28
def fn_r05_Check : Nat := 29
def fn_keys_Write : Nat := 30
def fn_r05_Write : Nat := 31
def fn_code_Read : Nat := 32
def fn_keys_Read : Nat := 33
def fn_r05_Read : Nat := 34
def fn_code_Reader_Good : Nat := 35
def fn_r01_Reader_Good : Nat := 36
def fn_code_Reader_End : Nat := 37
def fn_r01_Reader_End : Nat := 38
def fn_l09_put : Nat := 39
def fn_request_Good : Nat := 40
def fn_request_Same : Nat := 41
def fn_code_Writer_Num : Nat := 42
def fn_code_Writer_Text : Nat := 43
def fn_code_Writer_Digest : Nat := 44
def fn_sha_Of : Nat := 45
def fn_block_Good : Nat := 46
def fn_block_Follows : Nat := 47
def fn_tree_Path : Nat := 48
def fn_once_Sign : Nat := 49
def fn_tree_Root : Nat := 50
def fn_keys_leaf : Nat := 51
def fn_once_Public : Nat := 52
def fn_r03_Leaf : Nat := 53
def fn_r01_Digest : Nat := 54
def fn_r04_Public : Nat := 55
def fn_r03_Root : Nat := 56
def fn_r04_Same : Nat := 57
def fn_r03_Same : Nat := 58
def fn_r04_Sign : Nat := 59
def fn_r03_Path : Nat := 60
def fn_once_Of : Nat := 61
def fn_tree_Check : Nat := 62
def fn_r04_Of : Nat := 63
def fn_r03_Check : Nat := 64
def fn_r01_Num : Nat := 65
def fn_code_Reader_Num : Nat := 66
def fn_code_Reader_In : Nat := 67
def fn_code_Reader_Digest : Nat := 68
def fn_r01_Reader_Num : Nat := 69
def fn_r01_Reader_In : Nat := 70
def fn_r01_Reader_Digest : Nat := 71
def fn_request_short : Nat := 72
def fn_request_WriteReply : Nat := 73
def fn_sha_state_block : Nat := 74
def fn_tree_up : Nat := 75
def fn_once_bit : Nat := 76
def fn_once_secret : Nat := 77
def fn_once_shut : Nat := 78
def fn_tree_Leaf : Nat := 79
def fn_once_whole : Nat := 80
def fn_r02_Text : Nat := 81
def fn_r04_Shut : Nat := 82
def fn_r04_Secret : Nat := 83
def fn_r03_Above : Nat := 84
def fn_r04_Bit : Nat := 85
def fn_sha_Pair : Nat := 86
def fn_r03_Pair : Nat := 87
def fn_code_Reader_take : Nat := 88
def fn_r01_Reader_Take : Nat := 89
def fn_sha_word : Nat := 90
def fn_bits_RotateLeft32 : Nat := 91
def fn_r02_Of : Nat := 92
def fn_r02_Padded : Nat := 93
def fn_r02_Numbers : Nat := 94
def fn_r02_Next : Nat := 95
def fn_r02_turn : Nat := 96
def fn_r02_three : Nat := 97
/-! wapentake/wapentakelaw09.RequestParts -/
@[simp] def a_l09_RequestParts_r0 : List COper := [
  ⟨(some 2), .box, [.t 0], none⟩,
  ⟨(some 3), .box, [.t 1], none⟩,
  ⟨(some 4), .mov, [.c (.bool false)], none⟩]
def c_l09_RequestParts_r0 : List COper := a_l09_RequestParts_r0
instance : Reg c_l09_RequestParts_r0 a_l09_RequestParts_r0 3 := ⟨rfl, rfl⟩
@[simp] def a_l09_RequestParts_r1 : List COper := [
  ⟨(some 7), .call fn_l09_alive, [], none⟩,
  ⟨(some 8), .not, [.t 7], none⟩]
def c_l09_RequestParts_r1 : List COper := a_l09_RequestParts_r1
instance : Reg c_l09_RequestParts_r1 a_l09_RequestParts_r1 2 := ⟨rfl, rfl⟩
@[simp] def a_l09_RequestParts_r2 : List COper := [
  ⟨(some 4), .mov, [.c (.bool false)], none⟩]
def c_l09_RequestParts_r2 : List COper := a_l09_RequestParts_r2
instance : Reg c_l09_RequestParts_r2 a_l09_RequestParts_r2 1 := ⟨rfl, rfl⟩
@[simp] def a_l09_RequestParts_r3 : List COper := [
  ⟨(some 9), .load true 42, [.t 2], none⟩,
  ⟨(some 10), .call fn_l09_long, [.t 9], none⟩,
  ⟨(some 11), .mov, [.t 10], none⟩,
  ⟨(some 12), .load true 42, [.t 3], (some (11, false))⟩,
  ⟨(some 13), .call fn_l09_long, [.t 12], (some (11, false))⟩,
  ⟨(some 14), .pick, [.t 11, .c (.bool true), .t 13], none⟩]
def c_l09_RequestParts_r3 : List COper := a_l09_RequestParts_r3
instance : Reg c_l09_RequestParts_r3 a_l09_RequestParts_r3 6 := ⟨rfl, rfl⟩
@[simp] def a_l09_RequestParts_r4 : List COper := [
  ⟨(some 4), .mov, [.c (.bool true)], none⟩]
def c_l09_RequestParts_r4 : List COper := a_l09_RequestParts_r4
instance : Reg c_l09_RequestParts_r4 a_l09_RequestParts_r4 1 := ⟨rfl, rfl⟩
@[simp] def a_l09_RequestParts_r5 : List COper := [
  ⟨(some 15), .build [.v (.slice none 0 0)] [], [], none⟩,
  ⟨(some 16), .box, [.t 15], none⟩,
  ⟨(some 17), .build [.v (.slice none 0 0)] [], [], none⟩,
  ⟨(some 18), .box, [.t 17], none⟩,
  ⟨(some 5), .mov, [.t 16], none⟩,
  ⟨(some 6), .mov, [.t 18], none⟩]
def c_l09_RequestParts_r5 : List COper := a_l09_RequestParts_r5
instance : Reg c_l09_RequestParts_r5 a_l09_RequestParts_r5 6 := ⟨rfl, rfl⟩
@[simp] def a_l09_RequestParts_r6 : List COper := [
  ⟨(some 19), .mov, [.t 5], none⟩,
  ⟨(some 20), .load true 42, [.t 2], none⟩,
  ⟨(some 21), .call fn_request_Write, [.t 19, .t 20], none⟩]
def c_l09_RequestParts_r6 : List COper := a_l09_RequestParts_r6
instance : Reg c_l09_RequestParts_r6 a_l09_RequestParts_r6 3 := ⟨rfl, rfl⟩
@[simp] def a_l09_RequestParts_r7 : List COper := [
  ⟨(some 22), .mov, [.t 6], none⟩,
  ⟨(some 23), .load true 42, [.t 3], none⟩,
  ⟨(some 24), .call fn_request_Write, [.t 22, .t 23], none⟩]
def c_l09_RequestParts_r7 : List COper := a_l09_RequestParts_r7
instance : Reg c_l09_RequestParts_r7 a_l09_RequestParts_r7 3 := ⟨rfl, rfl⟩
@[simp] def a_l09_RequestParts_r8 : List COper := [
  ⟨(some 25), .mov, [.t 5], none⟩,
  ⟨(some 26), .call fn_code_Writer_Bytes, [.t 25], none⟩,
  ⟨(some 27), .convS, [.t 26], none⟩,
  ⟨(some 28), .mov, [.t 6], none⟩,
  ⟨(some 29), .call fn_code_Writer_Bytes, [.t 28], none⟩,
  ⟨(some 30), .convS, [.t 29], none⟩,
  ⟨(some 31), .bin .eql, [.t 27, .t 30], none⟩,
  ⟨(some 32), .load true 42, [.t 2], none⟩,
  ⟨(some 33), .load true 42, [.t 3], none⟩,
  ⟨(some 34), .eqs false (.st [.int .i64, .int .i64, .st [.int .i64, .str, .str, .str, .st [.int .i64, .int .i64, .int .i64, .st [.ints .u8 32, .int .i64]]]]), [.t 32, .t 33], none⟩,
  ⟨(some 35), .eqb false, [.t 31, .t 34], none⟩,
  ⟨(some 36), .mov, [.t 35], none⟩,
  ⟨(some 37), .load true 42, [.t 2], (some (36, true))⟩,
  ⟨(some 38), .load true 42, [.t 3], (some (36, true))⟩,
  ⟨(some 39), .eqs true (.st [.int .i64, .int .i64, .st [.int .i64, .str, .str, .str, .st [.int .i64, .int .i64, .int .i64, .st [.ints .u8 32, .int .i64]]]]), [.t 37, .t 38], (some (36, true))⟩,
  ⟨(some 40), .mov, [.t 39], (some (36, true))⟩,
  ⟨(some 41), .load true 42, [.t 2], (some (40, false))⟩,
  ⟨(some 42), .call fn_request_Digest, [.t 41], (some (40, false))⟩,
  ⟨(some 43), .load true 42, [.t 3], (some (40, false))⟩,
  ⟨(some 44), .call fn_request_Digest, [.t 43], (some (40, false))⟩,
  ⟨(some 45), .eqa false .u8 32, [.t 42, .t 44], (some (40, false))⟩,
  ⟨(some 46), .pick, [.t 40, .c (.bool true), .t 45], (some (36, true))⟩,
  ⟨(some 47), .pick, [.t 36, .t 46, .c (.bool false)], none⟩,
  ⟨(some 4), .mov, [.t 47], none⟩]
def c_l09_RequestParts_r8 : List COper := a_l09_RequestParts_r8
instance : Reg c_l09_RequestParts_r8 a_l09_RequestParts_r8 24 := ⟨rfl, rfl⟩
@[simp] def c_l09_RequestParts : CCode :=
  .seq (.region c_l09_RequestParts_r0 none [2, 3]) (.seq (.seq (.region c_l09_RequestParts_r1 none [2, 3, 8]) (.cond (.t 8) (.seq (.region c_l09_RequestParts_r2 none [4]) (.ret)) (.skip))) (.seq (.seq (.region c_l09_RequestParts_r3 none [2, 3, 14]) (.cond (.t 14) (.seq (.region c_l09_RequestParts_r4 none [4]) (.ret)) (.skip))) (.seq (.region c_l09_RequestParts_r5 none [2, 3, 5, 6]) (.seq (.region c_l09_RequestParts_r6 none [2, 3, 5, 6]) (.seq (.region c_l09_RequestParts_r7 none [2, 3, 5, 6]) (.seq (.region c_l09_RequestParts_r8 (some ([0, 1, 3, 0, 11, 27, 63, 0, 0, 384, 1023, 2047, 4095, 4095, 16383, 32767, 65535, 131071, 65535, 524287, 1048575, 2097151, 4194303, 8388607], [(2, 4), (1, 7), (4, 7), (1, 8), (4, 8), (17, 18)])) [4]) (.ret)))))))
@[simp] def R_l09_RequestParts : List CRes := [.tmp 4]
theorem k_l09_RequestParts : chkFn Tryd.prog fn_l09_RequestParts c_l09_RequestParts R_l09_RequestParts 2 = true := by kernel_rfl
/-! wapentake/wapentakelaw12.BlockParts -/
@[simp] def a_l12_BlockParts_r0 : List COper := [
  ⟨(some 2), .box, [.t 0], none⟩,
  ⟨(some 3), .box, [.t 1], none⟩,
  ⟨(some 4), .mov, [.c (.bool false)], none⟩]
def c_l12_BlockParts_r0 : List COper := a_l12_BlockParts_r0
instance : Reg c_l12_BlockParts_r0 a_l12_BlockParts_r0 3 := ⟨rfl, rfl⟩
@[simp] def a_l12_BlockParts_r1 : List COper := [
  ⟨(some 8), .call fn_l12_alive, [], none⟩,
  ⟨(some 9), .not, [.t 8], none⟩]
def c_l12_BlockParts_r1 : List COper := a_l12_BlockParts_r1
instance : Reg c_l12_BlockParts_r1 a_l12_BlockParts_r1 2 := ⟨rfl, rfl⟩
@[simp] def a_l12_BlockParts_r2 : List COper := [
  ⟨(some 4), .mov, [.c (.bool false)], none⟩]
def c_l12_BlockParts_r2 : List COper := a_l12_BlockParts_r2
instance : Reg c_l12_BlockParts_r2 a_l12_BlockParts_r2 1 := ⟨rfl, rfl⟩
@[simp] def a_l12_BlockParts_r3 : List COper := [
  ⟨(some 10), .load true 99, [.t 2], none⟩,
  ⟨(some 11), .call fn_r12_Great, [.t 10, .c (.int .i64 8192)], none⟩,
  ⟨(some 12), .mov, [.t 11], none⟩,
  ⟨(some 13), .load true 99, [.t 3], (some (12, false))⟩,
  ⟨(some 14), .call fn_r12_Great, [.t 13, .c (.int .i64 8192)], (some (12, false))⟩,
  ⟨(some 15), .pick, [.t 12, .c (.bool true), .t 14], none⟩]
def c_l12_BlockParts_r3 : List COper := a_l12_BlockParts_r3
instance : Reg c_l12_BlockParts_r3 a_l12_BlockParts_r3 6 := ⟨rfl, rfl⟩
@[simp] def a_l12_BlockParts_r4 : List COper := [
  ⟨(some 4), .mov, [.c (.bool true)], none⟩]
def c_l12_BlockParts_r4 : List COper := a_l12_BlockParts_r4
instance : Reg c_l12_BlockParts_r4 a_l12_BlockParts_r4 1 := ⟨rfl, rfl⟩
@[simp] def a_l12_BlockParts_r5 : List COper := [
  ⟨(some 16), .build [.v (.slice none 0 0)] [], [], none⟩,
  ⟨(some 17), .box, [.t 16], none⟩,
  ⟨(some 18), .build [.v (.slice none 0 0)] [], [], none⟩,
  ⟨(some 19), .box, [.t 18], none⟩,
  ⟨(some 5), .mov, [.t 17], none⟩,
  ⟨(some 6), .mov, [.t 19], none⟩]
def c_l12_BlockParts_r5 : List COper := a_l12_BlockParts_r5
instance : Reg c_l12_BlockParts_r5 a_l12_BlockParts_r5 6 := ⟨rfl, rfl⟩
@[simp] def a_l12_BlockParts_r6 : List COper := [
  ⟨(some 20), .mov, [.t 5], none⟩,
  ⟨(some 21), .load true 99, [.t 2], none⟩,
  ⟨(some 22), .call fn_block_Write, [.t 20, .t 21], none⟩]
def c_l12_BlockParts_r6 : List COper := a_l12_BlockParts_r6
instance : Reg c_l12_BlockParts_r6 a_l12_BlockParts_r6 3 := ⟨rfl, rfl⟩
@[simp] def a_l12_BlockParts_r7 : List COper := [
  ⟨(some 23), .mov, [.t 6], none⟩,
  ⟨(some 24), .load true 99, [.t 3], none⟩,
  ⟨(some 25), .call fn_block_Write, [.t 23, .t 24], none⟩]
def c_l12_BlockParts_r7 : List COper := a_l12_BlockParts_r7
instance : Reg c_l12_BlockParts_r7 a_l12_BlockParts_r7 3 := ⟨rfl, rfl⟩
@[simp] def a_l12_BlockParts_r8 : List COper := [
  ⟨(some 26), .load true 99, [.t 2], none⟩,
  ⟨(some 27), .load true 99, [.t 3], none⟩,
  ⟨(some 28), .call fn_r12_Same, [.t 26, .t 27], none⟩,
  ⟨(some 7), .mov, [.t 28], none⟩]
def c_l12_BlockParts_r8 : List COper := a_l12_BlockParts_r8
instance : Reg c_l12_BlockParts_r8 a_l12_BlockParts_r8 4 := ⟨rfl, rfl⟩
@[simp] def a_l12_BlockParts_r9 : List COper := [
  ⟨(some 29), .mov, [.t 5], none⟩,
  ⟨(some 30), .call fn_code_Writer_Bytes, [.t 29], none⟩,
  ⟨(some 31), .convS, [.t 30], none⟩,
  ⟨(some 32), .mov, [.t 6], none⟩,
  ⟨(some 33), .call fn_code_Writer_Bytes, [.t 32], none⟩,
  ⟨(some 34), .convS, [.t 33], none⟩,
  ⟨(some 35), .bin .eql, [.t 31, .t 34], none⟩,
  ⟨(some 36), .mov, [.t 7], none⟩,
  ⟨(some 37), .eqb false, [.t 35, .t 36], none⟩,
  ⟨(some 38), .mov, [.t 37], none⟩,
  ⟨(some 39), .mov, [.t 7], (some (38, true))⟩,
  ⟨(some 40), .not, [.t 39], (some (38, true))⟩,
  ⟨(some 41), .mov, [.t 40], (some (38, true))⟩,
  ⟨(some 42), .load true 99, [.t 2], (some (41, false))⟩,
  ⟨(some 43), .call fn_block_Digest, [.t 42], (some (41, false))⟩,
  ⟨(some 44), .load true 99, [.t 3], (some (41, false))⟩,
  ⟨(some 45), .call fn_block_Digest, [.t 44], (some (41, false))⟩,
  ⟨(some 46), .eqa false .u8 32, [.t 43, .t 45], (some (41, false))⟩,
  ⟨(some 47), .pick, [.t 41, .c (.bool true), .t 46], (some (38, true))⟩,
  ⟨(some 48), .pick, [.t 38, .t 47, .c (.bool false)], none⟩,
  ⟨(some 4), .mov, [.t 48], none⟩]
def c_l12_BlockParts_r9 : List COper := a_l12_BlockParts_r9
instance : Reg c_l12_BlockParts_r9 a_l12_BlockParts_r9 21 := ⟨rfl, rfl⟩
@[simp] def c_l12_BlockParts : CCode :=
  .seq (.region c_l12_BlockParts_r0 none [2, 3]) (.seq (.seq (.region c_l12_BlockParts_r1 none [2, 3, 9]) (.cond (.t 9) (.seq (.region c_l12_BlockParts_r2 none [4]) (.ret)) (.skip))) (.seq (.seq (.region c_l12_BlockParts_r3 none [2, 3, 15]) (.cond (.t 15) (.seq (.region c_l12_BlockParts_r4 none [4]) (.ret)) (.skip))) (.seq (.region c_l12_BlockParts_r5 none [2, 3, 5, 6]) (.seq (.region c_l12_BlockParts_r6 none [2, 3, 5, 6]) (.seq (.region c_l12_BlockParts_r7 none [2, 3, 5, 6]) (.seq (.region c_l12_BlockParts_r8 none [2, 3, 5, 6, 7]) (.seq (.region c_l12_BlockParts_r9 (some ([0, 1, 3, 0, 11, 27, 63, 0, 255, 511, 1023, 2047, 4095, 8191, 16383, 8191, 65535, 131071, 262143, 524287, 1048575], [(2, 4), (14, 15)])) [4]) (.ret))))))))
@[simp] def R_l12_BlockParts : List CRes := [.tmp 4]
theorem k_l12_BlockParts : chkFn Tryd.prog fn_l12_BlockParts c_l12_BlockParts R_l12_BlockParts 2 = true := by kernel_rfl
/-! wapentake/wapentakelaw05.KeysSign -/
@[simp] def a_l05_KeysSign_r0 : List COper := [
  ⟨(some 4), .box, [.t 0], none⟩,
  ⟨(some 7), .box, [.t 3], none⟩,
  ⟨(some 8), .mov, [.c (.bool false)], none⟩]
def c_l05_KeysSign_r0 : List COper := a_l05_KeysSign_r0
instance : Reg c_l05_KeysSign_r0 a_l05_KeysSign_r0 3 := ⟨rfl, rfl⟩
@[simp] def a_l05_KeysSign_r1 : List COper := [
  ⟨(some 17), .call fn_l05_alive, [], none⟩,
  ⟨(some 18), .not, [.t 17], none⟩]
def c_l05_KeysSign_r1 : List COper := a_l05_KeysSign_r1
instance : Reg c_l05_KeysSign_r1 a_l05_KeysSign_r1 2 := ⟨rfl, rfl⟩
@[simp] def a_l05_KeysSign_r2 : List COper := [
  ⟨(some 8), .mov, [.c (.bool false)], none⟩]
def c_l05_KeysSign_r2 : List COper := a_l05_KeysSign_r2
instance : Reg c_l05_KeysSign_r2 a_l05_KeysSign_r2 1 := ⟨rfl, rfl⟩
@[simp] def a_l05_KeysSign_r3 : List COper := [
  ⟨(some 19), .mov, [.t 1], none⟩,
  ⟨(some 20), .bin .gtr, [.t 19, .c (.int .i64 3)], none⟩,
  ⟨(some 21), .mov, [.t 20], none⟩,
  ⟨(some 22), .mov, [.t 1], (some (21, true))⟩,
  ⟨(some 23), .bin .leq, [.t 22, .c (.int .i64 6)], (some (21, true))⟩,
  ⟨(some 24), .pick, [.t 21, .t 23, .c (.bool false)], none⟩]
def c_l05_KeysSign_r3 : List COper := a_l05_KeysSign_r3
instance : Reg c_l05_KeysSign_r3 a_l05_KeysSign_r3 6 := ⟨rfl, rfl⟩
@[simp] def a_l05_KeysSign_r4 : List COper := [
  ⟨(some 8), .mov, [.c (.bool true)], none⟩]
def c_l05_KeysSign_r4 : List COper := a_l05_KeysSign_r4
instance : Reg c_l05_KeysSign_r4 a_l05_KeysSign_r4 1 := ⟨rfl, rfl⟩
@[simp] def a_l05_KeysSign_r5 : List COper := [
  ⟨(some 9), .mov, [.c (.pointer none)], none⟩]
def c_l05_KeysSign_r5 : List COper := a_l05_KeysSign_r5
instance : Reg c_l05_KeysSign_r5 a_l05_KeysSign_r5 1 := ⟨rfl, rfl⟩
@[simp] def a_l05_KeysSign_r6 : List COper := [
  ⟨(some 26), .mov, [.t 9], none⟩,
  ⟨(some 27), .mov, [.t 2], none⟩,
  ⟨(some 28), .load true 32, [.t 7], none⟩,
  ⟨(some 29), .call fn_keys_Tree_Sign, [.t 26, .t 27, .t 28], none⟩,
  ⟨(some 25), .mov, [.t 29], none⟩,
  ⟨(some 30), .ext 0, [.t 25], none⟩,
  ⟨(some 31), .ext 1, [.t 25], none⟩,
  ⟨(some 10), .alloc (.node [.v (.int .i64 0), .node [.v (.slice none 0 0), .v (.slice none 0 0)], .v (.slice none 0 0)]), [], none⟩,
  ⟨none, .store true 4, [.t 10, .t 30], none⟩,
  ⟨(some 11), .mov, [.t 31], none⟩]
def c_l05_KeysSign_r6 : List COper := a_l05_KeysSign_r6
instance : Reg c_l05_KeysSign_r6 a_l05_KeysSign_r6 10 := ⟨rfl, rfl⟩
@[simp] def a_l05_KeysSign_r7 : List COper := [
  ⟨(some 32), .mov, [.t 11], none⟩,
  ⟨(some 33), .bin .neq, [.t 32, .c (.int .i64 2)], none⟩,
  ⟨(some 34), .mov, [.t 33], none⟩,
  ⟨(some 35), .mov, [.t 9], (some (34, false))⟩,
  ⟨(some 36), .call fn_keys_Tree_Key, [.t 35], (some (34, false))⟩,
  ⟨(some 37), .build [.arr 1 (rep 32 (.v (.int .u8 0))), .v (.int .i64 0)] [], [], (some (34, false))⟩,
  ⟨(some 38), .eqs true (.st [.ints .u8 32, .int .i64]), [.t 36, .t 37], (some (34, false))⟩,
  ⟨(some 39), .pick, [.t 34, .c (.bool true), .t 38], none⟩]
def c_l05_KeysSign_r7 : List COper := a_l05_KeysSign_r7
instance : Reg c_l05_KeysSign_r7 a_l05_KeysSign_r7 8 := ⟨rfl, rfl⟩
@[simp] def a_l05_KeysSign_r8 : List COper := [
  ⟨(some 8), .mov, [.c (.bool false)], none⟩]
def c_l05_KeysSign_r8 : List COper := a_l05_KeysSign_r8
instance : Reg c_l05_KeysSign_r8 a_l05_KeysSign_r8 1 := ⟨rfl, rfl⟩
@[simp] def a_l05_KeysSign_r9 : List COper := [
  ⟨(some 41), .load true 32, [.t 4], none⟩,
  ⟨(some 42), .mov, [.t 1], none⟩,
  ⟨(some 43), .call fn_keys_New, [.t 41, .t 42], none⟩,
  ⟨(some 40), .mov, [.t 43], none⟩,
  ⟨(some 44), .ext 0, [.t 40], none⟩,
  ⟨(some 45), .ext 1, [.t 40], none⟩,
  ⟨(some 12), .mov, [.t 44], none⟩,
  ⟨(some 13), .mov, [.t 45], none⟩]
def c_l05_KeysSign_r9 : List COper := a_l05_KeysSign_r9
instance : Reg c_l05_KeysSign_r9 a_l05_KeysSign_r9 8 := ⟨rfl, rfl⟩
@[simp] def a_l05_KeysSign_r10 : List COper := [
  ⟨(some 46), .mov, [.t 1], none⟩,
  ⟨(some 47), .bin .lss, [.t 46, .c (.int .i64 0)], none⟩,
  ⟨(some 48), .mov, [.t 47], none⟩,
  ⟨(some 49), .mov, [.t 1], (some (48, false))⟩,
  ⟨(some 50), .bin .gtr, [.t 49, .c (.int .i64 6)], (some (48, false))⟩,
  ⟨(some 51), .pick, [.t 48, .c (.bool true), .t 50], none⟩]
def c_l05_KeysSign_r10 : List COper := a_l05_KeysSign_r10
instance : Reg c_l05_KeysSign_r10 a_l05_KeysSign_r10 6 := ⟨rfl, rfl⟩
@[simp] def a_l05_KeysSign_r11 : List COper := [
  ⟨(some 52), .mov, [.t 13], none⟩,
  ⟨(some 53), .bin .eql, [.t 52, .c (.int .i64 1)], none⟩,
  ⟨(some 54), .mov, [.t 53], none⟩,
  ⟨(some 55), .mov, [.t 12], (some (54, true))⟩,
  ⟨(some 56), .eqp false, [.t 55, .c (.pointer none)], (some (54, true))⟩,
  ⟨(some 57), .pick, [.t 54, .t 56, .c (.bool false)], none⟩,
  ⟨(some 8), .mov, [.t 57], none⟩]
def c_l05_KeysSign_r11 : List COper := a_l05_KeysSign_r11
instance : Reg c_l05_KeysSign_r11 a_l05_KeysSign_r11 7 := ⟨rfl, rfl⟩
@[simp] def a_l05_KeysSign_r12 : List COper := [
  ⟨(some 58), .load true 32, [.t 4], none⟩,
  ⟨(some 59), .mov, [.t 1], none⟩,
  ⟨(some 60), .call fn_r05_Leaves, [.t 58, .t 59], none⟩,
  ⟨(some 14), .mov, [.t 60], none⟩]
def c_l05_KeysSign_r12 : List COper := a_l05_KeysSign_r12
instance : Reg c_l05_KeysSign_r12 a_l05_KeysSign_r12 4 := ⟨rfl, rfl⟩
@[simp] def a_l05_KeysSign_r13 : List COper := [
  ⟨(some 61), .mov, [.t 13], none⟩,
  ⟨(some 62), .bin .neq, [.t 61, .c (.int .i64 0)], none⟩,
  ⟨(some 63), .mov, [.t 62], none⟩,
  ⟨(some 64), .mov, [.t 12], (some (63, false))⟩,
  ⟨(some 65), .call fn_keys_Tree_Key, [.t 64], (some (63, false))⟩,
  ⟨(some 66), .load true 32, [.t 4], (some (63, false))⟩,
  ⟨(some 67), .mov, [.t 1], (some (63, false))⟩,
  ⟨(some 68), .call fn_r05_Key, [.t 66, .t 67], (some (63, false))⟩,
  ⟨(some 69), .eqs true (.st [.ints .u8 32, .int .i64]), [.t 65, .t 68], (some (63, false))⟩,
  ⟨(some 70), .pick, [.t 63, .c (.bool true), .t 69], none⟩]
def c_l05_KeysSign_r13 : List COper := a_l05_KeysSign_r13
instance : Reg c_l05_KeysSign_r13 a_l05_KeysSign_r13 10 := ⟨rfl, rfl⟩
@[simp] def a_l05_KeysSign_r14 : List COper := [
  ⟨(some 8), .mov, [.c (.bool false)], none⟩]
def c_l05_KeysSign_r14 : List COper := a_l05_KeysSign_r14
instance : Reg c_l05_KeysSign_r14 a_l05_KeysSign_r14 1 := ⟨rfl, rfl⟩
@[simp] def a_l05_KeysSign_r15 : List COper := [
  ⟨(some 72), .mov, [.t 12], none⟩,
  ⟨(some 73), .mov, [.t 2], none⟩,
  ⟨(some 74), .load true 32, [.t 7], none⟩,
  ⟨(some 75), .call fn_keys_Tree_Sign, [.t 72, .t 73, .t 74], none⟩,
  ⟨(some 71), .mov, [.t 75], none⟩,
  ⟨(some 76), .ext 0, [.t 71], none⟩,
  ⟨(some 77), .ext 1, [.t 71], none⟩,
  ⟨(some 15), .alloc (.node [.v (.int .i64 0), .node [.v (.slice none 0 0), .v (.slice none 0 0)], .v (.slice none 0 0)]), [], none⟩,
  ⟨none, .store true 4, [.t 15, .t 76], none⟩,
  ⟨(some 16), .mov, [.t 77], none⟩]
def c_l05_KeysSign_r15 : List COper := a_l05_KeysSign_r15
instance : Reg c_l05_KeysSign_r15 a_l05_KeysSign_r15 10 := ⟨rfl, rfl⟩
@[simp] def a_l05_KeysSign_r16 : List COper := [
  ⟨(some 78), .mov, [.t 2], none⟩,
  ⟨(some 79), .bin .lss, [.t 78, .c (.int .i64 0)], none⟩,
  ⟨(some 80), .mov, [.t 79], none⟩,
  ⟨(some 81), .mov, [.t 2], (some (80, false))⟩,
  ⟨(some 82), .mov, [.t 14], (some (80, false))⟩,
  ⟨(some 83), .len, [.t 82], (some (80, false))⟩,
  ⟨(some 84), .bin .geq, [.t 81, .t 83], (some (80, false))⟩,
  ⟨(some 85), .pick, [.t 80, .c (.bool true), .t 84], none⟩]
def c_l05_KeysSign_r16 : List COper := a_l05_KeysSign_r16
instance : Reg c_l05_KeysSign_r16 a_l05_KeysSign_r16 8 := ⟨rfl, rfl⟩
@[simp] def a_l05_KeysSign_r17 : List COper := [
  ⟨(some 86), .mov, [.t 16], none⟩,
  ⟨(some 87), .bin .eql, [.t 86, .c (.int .i64 1)], none⟩,
  ⟨(some 88), .mov, [.t 87], none⟩,
  ⟨(some 89), .load true 4, [.t 15], (some (88, true))⟩,
  ⟨(some 90), .build [.v (.int .i64 0), .node [.v (.slice none 0 0), .v (.slice none 0 0)], .v (.slice none 0 0)] [], [], (some (88, true))⟩,
  ⟨(some 91), .call fn_r05_Same, [.t 89, .t 90], (some (88, true))⟩,
  ⟨(some 92), .pick, [.t 88, .t 91, .c (.bool false)], none⟩,
  ⟨(some 8), .mov, [.t 92], none⟩]
def c_l05_KeysSign_r17 : List COper := a_l05_KeysSign_r17
instance : Reg c_l05_KeysSign_r17 a_l05_KeysSign_r17 8 := ⟨rfl, rfl⟩
@[simp] def a_l05_KeysSign_r18 : List COper := [
  ⟨(some 93), .mov, [.t 16], none⟩,
  ⟨(some 94), .bin .eql, [.t 93, .c (.int .i64 0)], none⟩,
  ⟨(some 95), .mov, [.t 94], none⟩,
  ⟨(some 96), .load true 4, [.t 15], (some (95, true))⟩,
  ⟨(some 97), .load true 32, [.t 4], (some (95, true))⟩,
  ⟨(some 98), .mov, [.t 14], (some (95, true))⟩,
  ⟨(some 99), .mov, [.t 2], (some (95, true))⟩,
  ⟨(some 100), .load true 32, [.t 7], (some (95, true))⟩,
  ⟨(some 101), .call fn_r05_Sign, [.t 97, .t 98, .t 99, .t 100], (some (95, true))⟩,
  ⟨(some 102), .call fn_r05_Same, [.t 96, .t 101], (some (95, true))⟩,
  ⟨(some 103), .pick, [.t 95, .t 102, .c (.bool false)], none⟩,
  ⟨(some 8), .mov, [.t 103], none⟩]
def c_l05_KeysSign_r18 : List COper := a_l05_KeysSign_r18
instance : Reg c_l05_KeysSign_r18 a_l05_KeysSign_r18 12 := ⟨rfl, rfl⟩
@[simp] def c_l05_KeysSign : CCode :=
  .seq (.region c_l05_KeysSign_r0 none [1, 2, 4, 7]) (.seq (.seq (.region c_l05_KeysSign_r1 none [1, 2, 4, 7, 18]) (.cond (.t 18) (.seq (.region c_l05_KeysSign_r2 none [8]) (.ret)) (.skip))) (.seq (.seq (.region c_l05_KeysSign_r3 none [1, 2, 4, 7, 24]) (.cond (.t 24) (.seq (.region c_l05_KeysSign_r4 none [8]) (.ret)) (.skip))) (.seq (.region c_l05_KeysSign_r5 none [1, 2, 4, 7, 9]) (.seq (.region c_l05_KeysSign_r6 none [1, 2, 4, 7, 9, 11]) (.seq (.seq (.region c_l05_KeysSign_r7 none [1, 2, 4, 7, 39]) (.cond (.t 39) (.seq (.region c_l05_KeysSign_r8 none [8]) (.ret)) (.skip))) (.seq (.region c_l05_KeysSign_r9 none [1, 2, 4, 7, 12, 13]) (.seq (.seq (.region c_l05_KeysSign_r10 none [1, 2, 4, 7, 12, 13, 51]) (.cond (.t 51) (.seq (.region c_l05_KeysSign_r11 none [8]) (.ret)) (.skip))) (.seq (.region c_l05_KeysSign_r12 none [1, 2, 4, 7, 12, 13, 14]) (.seq (.seq (.region c_l05_KeysSign_r13 (some ([0, 1, 3, 7, 15, 7, 7, 127, 255, 511], [(4, 5)])) [2, 4, 7, 12, 14, 70]) (.cond (.t 70) (.seq (.region c_l05_KeysSign_r14 none [8]) (.ret)) (.skip))) (.seq (.region c_l05_KeysSign_r15 none [2, 4, 7, 14, 15, 16]) (.seq (.seq (.region c_l05_KeysSign_r16 none [2, 4, 7, 14, 15, 16, 85]) (.cond (.t 85) (.seq (.region c_l05_KeysSign_r17 none [8]) (.ret)) (.skip))) (.seq (.region c_l05_KeysSign_r18 (some ([0, 1, 3, 7, 7, 7, 7, 7, 247, 511, 1023, 2047], [(3, 8)])) [8]) (.ret)))))))))))))
@[simp] def R_l05_KeysSign : List CRes := [.tmp 8]
theorem k_l05_KeysSign : chkFn Tryd.prog fn_l05_KeysSign c_l05_KeysSign R_l05_KeysSign 4 = true := by kernel_rfl
/-! wapentake/wapentakelaw05.KeysCheck -/
@[simp] def a_l05_KeysCheck_r0 : List COper := [
  ⟨(some 3), .box, [.t 0], none⟩,
  ⟨(some 4), .box, [.t 1], none⟩,
  ⟨(some 5), .box, [.t 2], none⟩,
  ⟨(some 6), .mov, [.c (.bool false)], none⟩]
def c_l05_KeysCheck_r0 : List COper := a_l05_KeysCheck_r0
instance : Reg c_l05_KeysCheck_r0 a_l05_KeysCheck_r0 4 := ⟨rfl, rfl⟩
@[simp] def a_l05_KeysCheck_r1 : List COper := [
  ⟨(some 7), .call fn_l05_alive, [], none⟩,
  ⟨(some 8), .not, [.t 7], none⟩]
def c_l05_KeysCheck_r1 : List COper := a_l05_KeysCheck_r1
instance : Reg c_l05_KeysCheck_r1 a_l05_KeysCheck_r1 2 := ⟨rfl, rfl⟩
@[simp] def a_l05_KeysCheck_r2 : List COper := [
  ⟨(some 6), .mov, [.c (.bool false)], none⟩]
def c_l05_KeysCheck_r2 : List COper := a_l05_KeysCheck_r2
instance : Reg c_l05_KeysCheck_r2 a_l05_KeysCheck_r2 1 := ⟨rfl, rfl⟩
@[simp] def a_l05_KeysCheck_r3 : List COper := [
  ⟨(some 9), .load true 4, [.t 5], none⟩,
  ⟨(some 10), .call fn_l05_great, [.t 9], none⟩,
  ⟨(some 11), .mov, [.t 10], none⟩,
  ⟨(some 12), .load true 33, [.t 3], (some (11, false))⟩,
  ⟨(some 13), .load true 32, [.t 4], (some (11, false))⟩,
  ⟨(some 14), .load true 4, [.t 5], (some (11, false))⟩,
  ⟨(some 15), .call fn_keys_Check, [.t 12, .t 13, .t 14], (some (11, false))⟩,
  ⟨(some 16), .load true 33, [.t 3], (some (11, false))⟩,
  ⟨(some 17), .load true 32, [.t 4], (some (11, false))⟩,
  ⟨(some 18), .load true 4, [.t 5], (some (11, false))⟩,
  ⟨(some 19), .call fn_r05_Check, [.t 16, .t 17, .t 18], (some (11, false))⟩,
  ⟨(some 20), .eqb false, [.t 15, .t 19], (some (11, false))⟩,
  ⟨(some 21), .pick, [.t 11, .c (.bool true), .t 20], none⟩,
  ⟨(some 6), .mov, [.t 21], none⟩]
def c_l05_KeysCheck_r3 : List COper := a_l05_KeysCheck_r3
instance : Reg c_l05_KeysCheck_r3 a_l05_KeysCheck_r3 14 := ⟨rfl, rfl⟩
@[simp] def c_l05_KeysCheck : CCode :=
  .seq (.region c_l05_KeysCheck_r0 none [3, 4, 5]) (.seq (.seq (.region c_l05_KeysCheck_r1 none [3, 4, 5, 8]) (.cond (.t 8) (.seq (.region c_l05_KeysCheck_r2 none [6]) (.ret)) (.skip))) (.seq (.region c_l05_KeysCheck_r3 (some ([0, 1, 3, 7, 7, 7, 63, 7, 7, 7, 1023, 2047, 4095, 8191], [(6, 7), (6, 8), (6, 9)])) [6]) (.ret)))
@[simp] def R_l05_KeysCheck : List CRes := [.tmp 6]
theorem k_l05_KeysCheck : chkFn Tryd.prog fn_l05_KeysCheck c_l05_KeysCheck R_l05_KeysCheck 3 = true := by kernel_rfl
/-! wapentake/wapentakelaw05.KeysKeep -/
@[simp] def a_l05_KeysKeep_r0 : List COper := [
  ⟨(some 3), .box, [.t 0], none⟩,
  ⟨(some 4), .box, [.t 1], none⟩,
  ⟨(some 5), .box, [.t 2], none⟩,
  ⟨(some 6), .mov, [.c (.bool false)], none⟩]
def c_l05_KeysKeep_r0 : List COper := a_l05_KeysKeep_r0
instance : Reg c_l05_KeysKeep_r0 a_l05_KeysKeep_r0 4 := ⟨rfl, rfl⟩
@[simp] def a_l05_KeysKeep_r1 : List COper := [
  ⟨(some 15), .call fn_l05_alive, [], none⟩,
  ⟨(some 16), .not, [.t 15], none⟩]
def c_l05_KeysKeep_r1 : List COper := a_l05_KeysKeep_r1
instance : Reg c_l05_KeysKeep_r1 a_l05_KeysKeep_r1 2 := ⟨rfl, rfl⟩
@[simp] def a_l05_KeysKeep_r2 : List COper := [
  ⟨(some 6), .mov, [.c (.bool false)], none⟩]
def c_l05_KeysKeep_r2 : List COper := a_l05_KeysKeep_r2
instance : Reg c_l05_KeysKeep_r2 a_l05_KeysKeep_r2 1 := ⟨rfl, rfl⟩
@[simp] def a_l05_KeysKeep_r3 : List COper := [
  ⟨(some 17), .load true 4, [.t 5], none⟩,
  ⟨(some 18), .call fn_l05_great, [.t 17], none⟩]
def c_l05_KeysKeep_r3 : List COper := a_l05_KeysKeep_r3
instance : Reg c_l05_KeysKeep_r3 a_l05_KeysKeep_r3 2 := ⟨rfl, rfl⟩
@[simp] def a_l05_KeysKeep_r4 : List COper := [
  ⟨(some 6), .mov, [.c (.bool true)], none⟩]
def c_l05_KeysKeep_r4 : List COper := a_l05_KeysKeep_r4
instance : Reg c_l05_KeysKeep_r4 a_l05_KeysKeep_r4 1 := ⟨rfl, rfl⟩
@[simp] def a_l05_KeysKeep_r5 : List COper := [
  ⟨(some 19), .load true 4, [.t 5], none⟩,
  ⟨(some 7), .alloc (.node [.v (.int .i64 0), .node [.v (.slice none 0 0), .v (.slice none 0 0)], .v (.slice none 0 0)]), [], none⟩,
  ⟨none, .store true 4, [.t 7, .t 19], none⟩]
def c_l05_KeysKeep_r5 : List COper := a_l05_KeysKeep_r5
instance : Reg c_l05_KeysKeep_r5 a_l05_KeysKeep_r5 3 := ⟨rfl, rfl⟩
@[simp] def a_l05_KeysKeep_r6 : List COper := [
  ⟨(some 20), .bslice 32 0 (.arr 1 (rep 32 (.v (.int .u8 0)))) [], [], none⟩,
  ⟨(some 21), .faddr 3 1 false, [.t 5], none⟩,
  ⟨(some 22), .load false 1, [.t 21], none⟩,
  ⟨(some 23), .app 32 32, [.t 20, .t 22], none⟩,
  ⟨(some 24), .faddr 3 1 false, [.t 7], none⟩,
  ⟨none, .store false 1, [.t 24, .t 23], none⟩]
def c_l05_KeysKeep_r6 : List COper := a_l05_KeysKeep_r6
instance : Reg c_l05_KeysKeep_r6 a_l05_KeysKeep_r6 6 := ⟨rfl, rfl⟩
@[simp] def a_l05_KeysKeep_r7 : List COper := [
  ⟨(some 25), .build [.arr 1 (rep 32 (.v (.int .u8 0))), .v (.int .i64 0)] [1], [.c (.int .i64 2)], none⟩,
  ⟨(some 26), .load true 32, [.t 4], none⟩,
  ⟨(some 27), .load true 4, [.t 7], none⟩,
  ⟨(some 28), .call fn_keys_Check, [.t 25, .t 26, .t 27], none⟩]
def c_l05_KeysKeep_r7 : List COper := a_l05_KeysKeep_r7
instance : Reg c_l05_KeysKeep_r7 a_l05_KeysKeep_r7 4 := ⟨rfl, rfl⟩
@[simp] def a_l05_KeysKeep_r8 : List COper := [
  ⟨(some 30), .load true 32, [.t 3], none⟩,
  ⟨(some 31), .call fn_keys_New, [.t 30, .c (.int .i64 2)], none⟩,
  ⟨(some 29), .mov, [.t 31], none⟩,
  ⟨(some 32), .ext 0, [.t 29], none⟩,
  ⟨(some 33), .ext 1, [.t 29], none⟩,
  ⟨(some 8), .mov, [.t 32], none⟩,
  ⟨(some 9), .mov, [.t 33], none⟩]
def c_l05_KeysKeep_r8 : List COper := a_l05_KeysKeep_r8
instance : Reg c_l05_KeysKeep_r8 a_l05_KeysKeep_r8 7 := ⟨rfl, rfl⟩
@[simp] def a_l05_KeysKeep_r9 : List COper := [
  ⟨(some 34), .mov, [.t 9], none⟩,
  ⟨(some 35), .bin .neq, [.t 34, .c (.int .i64 0)], none⟩]
def c_l05_KeysKeep_r9 : List COper := a_l05_KeysKeep_r9
instance : Reg c_l05_KeysKeep_r9 a_l05_KeysKeep_r9 2 := ⟨rfl, rfl⟩
@[simp] def a_l05_KeysKeep_r10 : List COper := [
  ⟨(some 6), .mov, [.c (.bool false)], none⟩]
def c_l05_KeysKeep_r10 : List COper := a_l05_KeysKeep_r10
instance : Reg c_l05_KeysKeep_r10 a_l05_KeysKeep_r10 1 := ⟨rfl, rfl⟩
@[simp] def a_l05_KeysKeep_r11 : List COper := [
  ⟨(some 37), .mov, [.t 8], none⟩,
  ⟨(some 38), .load true 32, [.t 4], none⟩,
  ⟨(some 39), .call fn_keys_Tree_Sign, [.t 37, .c (.int .i64 1), .t 38], none⟩,
  ⟨(some 36), .mov, [.t 39], none⟩,
  ⟨(some 40), .ext 0, [.t 36], none⟩,
  ⟨(some 41), .ext 1, [.t 36], none⟩,
  ⟨(some 10), .alloc (.node [.v (.int .i64 0), .node [.v (.slice none 0 0), .v (.slice none 0 0)], .v (.slice none 0 0)]), [], none⟩,
  ⟨none, .store true 4, [.t 10, .t 40], none⟩,
  ⟨(some 11), .mov, [.t 41], none⟩]
def c_l05_KeysKeep_r11 : List COper := a_l05_KeysKeep_r11
instance : Reg c_l05_KeysKeep_r11 a_l05_KeysKeep_r11 9 := ⟨rfl, rfl⟩
@[simp] def a_l05_KeysKeep_r12 : List COper := [
  ⟨(some 42), .faddr 3 1 false, [.t 10], none⟩,
  ⟨(some 43), .load false 1, [.t 42], none⟩,
  ⟨(some 44), .len, [.t 43], none⟩,
  ⟨(some 45), .mov, [.c (.int .i64 0)], none⟩]
def c_l05_KeysKeep_r12 : List COper := a_l05_KeysKeep_r12
instance : Reg c_l05_KeysKeep_r12 a_l05_KeysKeep_r12 4 := ⟨rfl, rfl⟩
@[simp] def a_l05_KeysKeep_r13 : List COper := [
  ⟨(some 46), .bin .lss, [.t 45, .t 44], none⟩]
def c_l05_KeysKeep_r13 : List COper := a_l05_KeysKeep_r13
instance : Reg c_l05_KeysKeep_r13 a_l05_KeysKeep_r13 1 := ⟨rfl, rfl⟩
@[simp] def a_l05_KeysKeep_r14 : List COper := [
  ⟨(some 47), .mov, [.t 45], none⟩,
  ⟨(some 12), .mov, [.t 47], none⟩]
def c_l05_KeysKeep_r14 : List COper := a_l05_KeysKeep_r14
instance : Reg c_l05_KeysKeep_r14 a_l05_KeysKeep_r14 2 := ⟨rfl, rfl⟩
@[simp] def a_l05_KeysKeep_r15 : List COper := [
  ⟨(some 48), .faddr 3 1 false, [.t 10], none⟩,
  ⟨(some 49), .load false 1, [.t 48], none⟩,
  ⟨(some 50), .mov, [.t 12], none⟩,
  ⟨(some 51), .buildA 1 (rep 32 (.v (.int .u8 0))) [0], [.c (.int .u8 7)], none⟩,
  ⟨(some 52), .iaddr 32, [.t 49, .t 50], none⟩,
  ⟨none, .store true 32, [.t 52, .t 51], none⟩]
def c_l05_KeysKeep_r15 : List COper := a_l05_KeysKeep_r15
instance : Reg c_l05_KeysKeep_r15 a_l05_KeysKeep_r15 6 := ⟨rfl, rfl⟩
@[simp] def a_l05_KeysKeep_r16 : List COper := [
  ⟨(some 53), .bin .add, [.t 45, .c (.int .i64 1)], none⟩,
  ⟨(some 45), .mov, [.t 53], none⟩]
def c_l05_KeysKeep_r16 : List COper := a_l05_KeysKeep_r16
instance : Reg c_l05_KeysKeep_r16 a_l05_KeysKeep_r16 2 := ⟨rfl, rfl⟩
@[simp] def a_l05_KeysKeep_r17 : List COper := [
  ⟨(some 55), .mov, [.t 8], none⟩,
  ⟨(some 56), .load true 32, [.t 4], none⟩,
  ⟨(some 57), .call fn_keys_Tree_Sign, [.t 55, .c (.int .i64 1), .t 56], none⟩,
  ⟨(some 54), .mov, [.t 57], none⟩,
  ⟨(some 58), .ext 0, [.t 54], none⟩,
  ⟨(some 59), .ext 1, [.t 54], none⟩,
  ⟨(some 13), .alloc (.node [.v (.int .i64 0), .node [.v (.slice none 0 0), .v (.slice none 0 0)], .v (.slice none 0 0)]), [], none⟩,
  ⟨none, .store true 4, [.t 13, .t 58], none⟩,
  ⟨(some 14), .mov, [.t 59], none⟩]
def c_l05_KeysKeep_r17 : List COper := a_l05_KeysKeep_r17
instance : Reg c_l05_KeysKeep_r17 a_l05_KeysKeep_r17 9 := ⟨rfl, rfl⟩
@[simp] def a_l05_KeysKeep_r18 : List COper := [
  ⟨(some 60), .load true 4, [.t 7], none⟩,
  ⟨(some 61), .load true 4, [.t 5], none⟩,
  ⟨(some 62), .call fn_r05_Same, [.t 60, .t 61], none⟩,
  ⟨(some 63), .mov, [.t 62], none⟩,
  ⟨(some 64), .mov, [.t 8], (some (63, true))⟩,
  ⟨(some 65), .call fn_keys_Tree_Key, [.t 64], (some (63, true))⟩,
  ⟨(some 66), .load true 32, [.t 4], (some (63, true))⟩,
  ⟨(some 67), .load true 4, [.t 13], (some (63, true))⟩,
  ⟨(some 68), .call fn_keys_Check, [.t 65, .t 66, .t 67], (some (63, true))⟩,
  ⟨(some 69), .pick, [.t 63, .t 68, .c (.bool false)], none⟩,
  ⟨(some 6), .mov, [.t 69], none⟩]
def c_l05_KeysKeep_r18 : List COper := a_l05_KeysKeep_r18
instance : Reg c_l05_KeysKeep_r18 a_l05_KeysKeep_r18 11 := ⟨rfl, rfl⟩
@[simp] def c_l05_KeysKeep : CCode :=
  .seq (.region c_l05_KeysKeep_r0 none [3, 4, 5]) (.seq (.seq (.region c_l05_KeysKeep_r1 none [3, 4, 5, 16]) (.cond (.t 16) (.seq (.region c_l05_KeysKeep_r2 none [6]) (.ret)) (.skip))) (.seq (.seq (.region c_l05_KeysKeep_r3 none [3, 4, 5, 18]) (.cond (.t 18) (.seq (.region c_l05_KeysKeep_r4 none [6]) (.ret)) (.skip))) (.seq (.region c_l05_KeysKeep_r5 none [3, 4, 5, 7]) (.seq (.region c_l05_KeysKeep_r6 none [3, 4, 5, 7]) (.seq (.region c_l05_KeysKeep_r7 none [3, 4, 5, 7]) (.seq (.region c_l05_KeysKeep_r8 none [4, 5, 7, 8, 9]) (.seq (.seq (.region c_l05_KeysKeep_r9 none [4, 5, 7, 8, 35]) (.cond (.t 35) (.seq (.region c_l05_KeysKeep_r10 none [6]) (.ret)) (.skip))) (.seq (.region c_l05_KeysKeep_r11 none [4, 5, 7, 8, 10]) (.seq (.seq (.region c_l05_KeysKeep_r12 none [4, 5, 7, 8, 10, 44, 45]) (.block 0 (.loop (.seq (.region c_l05_KeysKeep_r13 none [4, 5, 7, 8, 10, 44, 45, 46]) (.seq (.cond (.t 46) (.skip) (.exit 0)) (.seq (.block 1 (.seq (.region c_l05_KeysKeep_r14 none [4, 5, 7, 8, 10, 12, 44, 45]) (.region c_l05_KeysKeep_r15 none [4, 5, 7, 8, 10, 44, 45]))) (.region c_l05_KeysKeep_r16 none [4, 5, 7, 8, 10, 44, 45]))))))) (.seq (.region c_l05_KeysKeep_r17 none [4, 5, 7, 8, 13]) (.seq (.region c_l05_KeysKeep_r18 (some ([0, 0, 3, 7, 15, 31, 15, 15, 255, 511, 1023], [(5, 6), (5, 7)])) [6]) (.ret))))))))))))
@[simp] def R_l05_KeysKeep : List CRes := [.tmp 6]
theorem k_l05_KeysKeep : chkFn Tryd.prog fn_l05_KeysKeep c_l05_KeysKeep R_l05_KeysKeep 3 = true := by kernel_rfl
/-! wapentake/wapentakelaw05.KeysWrite -/
@[simp] def a_l05_KeysWrite_r0 : List COper := [
  ⟨(some 2), .box, [.t 0], none⟩,
  ⟨(some 4), .mov, [.c (.bool false)], none⟩]
def c_l05_KeysWrite_r0 : List COper := a_l05_KeysWrite_r0
instance : Reg c_l05_KeysWrite_r0 a_l05_KeysWrite_r0 2 := ⟨rfl, rfl⟩
@[simp] def a_l05_KeysWrite_r1 : List COper := [
  ⟨(some 12), .call fn_l05_alive, [], none⟩,
  ⟨(some 13), .not, [.t 12], none⟩]
def c_l05_KeysWrite_r1 : List COper := a_l05_KeysWrite_r1
instance : Reg c_l05_KeysWrite_r1 a_l05_KeysWrite_r1 2 := ⟨rfl, rfl⟩
@[simp] def a_l05_KeysWrite_r2 : List COper := [
  ⟨(some 4), .mov, [.c (.bool false)], none⟩]
def c_l05_KeysWrite_r2 : List COper := a_l05_KeysWrite_r2
instance : Reg c_l05_KeysWrite_r2 a_l05_KeysWrite_r2 1 := ⟨rfl, rfl⟩
@[simp] def a_l05_KeysWrite_r3 : List COper := [
  ⟨(some 14), .load true 4, [.t 2], none⟩,
  ⟨(some 15), .call fn_l05_great, [.t 14], none⟩,
  ⟨(some 16), .mov, [.t 15], none⟩,
  ⟨(some 17), .mov, [.t 1], (some (16, false))⟩,
  ⟨(some 18), .len, [.t 17], (some (16, false))⟩,
  ⟨(some 19), .bin .gtr, [.t 18, .c (.int .i64 8192)], (some (16, false))⟩,
  ⟨(some 20), .pick, [.t 16, .c (.bool true), .t 19], none⟩]
def c_l05_KeysWrite_r3 : List COper := a_l05_KeysWrite_r3
instance : Reg c_l05_KeysWrite_r3 a_l05_KeysWrite_r3 7 := ⟨rfl, rfl⟩
@[simp] def a_l05_KeysWrite_r4 : List COper := [
  ⟨(some 4), .mov, [.c (.bool true)], none⟩]
def c_l05_KeysWrite_r4 : List COper := a_l05_KeysWrite_r4
instance : Reg c_l05_KeysWrite_r4 a_l05_KeysWrite_r4 1 := ⟨rfl, rfl⟩
@[simp] def a_l05_KeysWrite_r5 : List COper := [
  ⟨(some 21), .build [.v (.slice none 0 0)] [], [], none⟩,
  ⟨(some 22), .box, [.t 21], none⟩,
  ⟨(some 5), .mov, [.t 22], none⟩]
def c_l05_KeysWrite_r5 : List COper := a_l05_KeysWrite_r5
instance : Reg c_l05_KeysWrite_r5 a_l05_KeysWrite_r5 3 := ⟨rfl, rfl⟩
@[simp] def a_l05_KeysWrite_r6 : List COper := [
  ⟨(some 23), .mov, [.t 5], none⟩,
  ⟨(some 24), .load true 4, [.t 2], none⟩,
  ⟨(some 25), .call fn_keys_Write, [.t 23, .t 24], none⟩,
  ⟨(some 6), .mov, [.t 25], none⟩]
def c_l05_KeysWrite_r6 : List COper := a_l05_KeysWrite_r6
instance : Reg c_l05_KeysWrite_r6 a_l05_KeysWrite_r6 4 := ⟨rfl, rfl⟩
@[simp] def a_l05_KeysWrite_r7 : List COper := [
  ⟨(some 27), .load true 4, [.t 2], none⟩,
  ⟨(some 28), .call fn_r05_Write, [.t 27], none⟩,
  ⟨(some 26), .mov, [.t 28], none⟩,
  ⟨(some 29), .ext 0, [.t 26], none⟩,
  ⟨(some 30), .ext 1, [.t 26], none⟩,
  ⟨(some 7), .mov, [.t 29], none⟩,
  ⟨(some 8), .mov, [.t 30], none⟩]
def c_l05_KeysWrite_r7 : List COper := a_l05_KeysWrite_r7
instance : Reg c_l05_KeysWrite_r7 a_l05_KeysWrite_r7 7 := ⟨rfl, rfl⟩
@[simp] def a_l05_KeysWrite_r8 : List COper := [
  ⟨(some 31), .mov, [.t 6], none⟩,
  ⟨(some 32), .mov, [.t 8], none⟩,
  ⟨(some 33), .eqb true, [.t 31, .t 32], none⟩,
  ⟨(some 34), .mov, [.t 33], none⟩,
  ⟨(some 35), .mov, [.t 5], (some (34, false))⟩,
  ⟨(some 36), .call fn_code_Writer_Bytes, [.t 35], (some (34, false))⟩,
  ⟨(some 37), .convS, [.t 36], (some (34, false))⟩,
  ⟨(some 38), .mov, [.t 7], (some (34, false))⟩,
  ⟨(some 39), .bin .neq, [.t 37, .t 38], (some (34, false))⟩,
  ⟨(some 40), .pick, [.t 34, .c (.bool true), .t 39], none⟩]
def c_l05_KeysWrite_r8 : List COper := a_l05_KeysWrite_r8
instance : Reg c_l05_KeysWrite_r8 a_l05_KeysWrite_r8 10 := ⟨rfl, rfl⟩
@[simp] def a_l05_KeysWrite_r9 : List COper := [
  ⟨(some 4), .mov, [.c (.bool false)], none⟩]
def c_l05_KeysWrite_r9 : List COper := a_l05_KeysWrite_r9
instance : Reg c_l05_KeysWrite_r9 a_l05_KeysWrite_r9 1 := ⟨rfl, rfl⟩
@[simp] def a_l05_KeysWrite_r10 : List COper := [
  ⟨(some 41), .mov, [.t 1], none⟩,
  ⟨(some 42), .call fn_code_Read, [.t 41], none⟩,
  ⟨(some 43), .mov, [.t 1], none⟩,
  ⟨(some 44), .convS, [.t 43], none⟩,
  ⟨(some 45), .build [.v (.string (mkS [])), .v (.bool false)] [0], [.t 44], none⟩,
  ⟨(some 46), .box, [.t 45], none⟩,
  ⟨(some 9), .mov, [.t 42], none⟩,
  ⟨(some 10), .mov, [.t 46], none⟩]
def c_l05_KeysWrite_r10 : List COper := a_l05_KeysWrite_r10
instance : Reg c_l05_KeysWrite_r10 a_l05_KeysWrite_r10 8 := ⟨rfl, rfl⟩
@[simp] def a_l05_KeysWrite_r11 : List COper := [
  ⟨(some 47), .mov, [.t 9], none⟩,
  ⟨(some 48), .call fn_keys_Read, [.t 47], none⟩,
  ⟨(some 49), .mov, [.t 10], none⟩,
  ⟨(some 50), .call fn_r05_Read, [.t 49], none⟩,
  ⟨(some 51), .call fn_r05_Same, [.t 48, .t 50], none⟩,
  ⟨(some 52), .not, [.t 51], none⟩,
  ⟨(some 53), .mov, [.t 52], none⟩,
  ⟨(some 54), .mov, [.t 9], (some (53, false))⟩,
  ⟨(some 55), .call fn_code_Reader_Good, [.t 54], (some (53, false))⟩,
  ⟨(some 56), .mov, [.t 10], (some (53, false))⟩,
  ⟨(some 57), .call fn_r01_Reader_Good, [.t 56], (some (53, false))⟩,
  ⟨(some 58), .eqb true, [.t 55, .t 57], (some (53, false))⟩,
  ⟨(some 59), .pick, [.t 53, .c (.bool true), .t 58], none⟩,
  ⟨(some 60), .mov, [.t 59], none⟩,
  ⟨(some 61), .mov, [.t 9], (some (60, false))⟩,
  ⟨(some 62), .call fn_code_Reader_End, [.t 61], (some (60, false))⟩,
  ⟨(some 63), .mov, [.t 10], (some (60, false))⟩,
  ⟨(some 64), .call fn_r01_Reader_End, [.t 63], (some (60, false))⟩,
  ⟨(some 65), .eqb true, [.t 62, .t 64], (some (60, false))⟩,
  ⟨(some 66), .pick, [.t 60, .c (.bool true), .t 65], none⟩]
def c_l05_KeysWrite_r11 : List COper := a_l05_KeysWrite_r11
instance : Reg c_l05_KeysWrite_r11 a_l05_KeysWrite_r11 20 := ⟨rfl, rfl⟩
@[simp] def a_l05_KeysWrite_r12 : List COper := [
  ⟨(some 4), .mov, [.c (.bool false)], none⟩]
def c_l05_KeysWrite_r12 : List COper := a_l05_KeysWrite_r12
instance : Reg c_l05_KeysWrite_r12 a_l05_KeysWrite_r12 1 := ⟨rfl, rfl⟩
@[simp] def a_l05_KeysWrite_r13 : List COper := [
  ⟨(some 67), .mov, [.t 5], none⟩,
  ⟨(some 68), .call fn_code_Writer_Bytes, [.t 67], none⟩,
  ⟨(some 69), .call fn_code_Read, [.t 68], none⟩,
  ⟨(some 9), .mov, [.t 69], none⟩]
def c_l05_KeysWrite_r13 : List COper := a_l05_KeysWrite_r13
instance : Reg c_l05_KeysWrite_r13 a_l05_KeysWrite_r13 4 := ⟨rfl, rfl⟩
@[simp] def a_l05_KeysWrite_r14 : List COper := [
  ⟨(some 11), .mov, [.c (.pointer none)], none⟩]
def c_l05_KeysWrite_r14 : List COper := a_l05_KeysWrite_r14
instance : Reg c_l05_KeysWrite_r14 a_l05_KeysWrite_r14 1 := ⟨rfl, rfl⟩
@[simp] def a_l05_KeysWrite_r15 : List COper := [
  ⟨(some 70), .mov, [.t 8], none⟩,
  ⟨(some 71), .not, [.t 70], none⟩,
  ⟨(some 72), .mov, [.t 71], none⟩,
  ⟨(some 73), .mov, [.t 9], (some (72, false))⟩,
  ⟨(some 74), .call fn_keys_Read, [.t 73], (some (72, false))⟩,
  ⟨(some 75), .load true 4, [.t 2], (some (72, false))⟩,
  ⟨(some 76), .call fn_r05_Same, [.t 74, .t 75], (some (72, false))⟩,
  ⟨(some 77), .mov, [.t 76], (some (72, false))⟩,
  ⟨(some 78), .mov, [.t 9], (some (77, true))⟩,
  ⟨(some 79), .call fn_code_Reader_End, [.t 78], (some (77, true))⟩,
  ⟨(some 80), .pick, [.t 77, .t 79, .c (.bool false)], (some (72, false))⟩,
  ⟨(some 81), .mov, [.t 80], (some (72, false))⟩,
  ⟨(some 82), .mov, [.t 11], (some (81, true))⟩,
  ⟨(some 83), .call fn_keys_Read, [.t 82], (some (81, true))⟩,
  ⟨(some 84), .build [.v (.int .i64 0), .node [.v (.slice none 0 0), .v (.slice none 0 0)], .v (.slice none 0 0)] [], [], (some (81, true))⟩,
  ⟨(some 85), .call fn_r05_Same, [.t 83, .t 84], (some (81, true))⟩,
  ⟨(some 86), .pick, [.t 81, .t 85, .c (.bool false)], (some (72, false))⟩,
  ⟨(some 87), .pick, [.t 72, .c (.bool true), .t 86], none⟩,
  ⟨(some 4), .mov, [.t 87], none⟩]
def c_l05_KeysWrite_r15 : List COper := a_l05_KeysWrite_r15
instance : Reg c_l05_KeysWrite_r15 a_l05_KeysWrite_r15 19 := ⟨rfl, rfl⟩
@[simp] def c_l05_KeysWrite : CCode :=
  .seq (.region c_l05_KeysWrite_r0 none [1, 2]) (.seq (.seq (.region c_l05_KeysWrite_r1 none [1, 2, 13]) (.cond (.t 13) (.seq (.region c_l05_KeysWrite_r2 none [4]) (.ret)) (.skip))) (.seq (.seq (.region c_l05_KeysWrite_r3 none [1, 2, 20]) (.cond (.t 20) (.seq (.region c_l05_KeysWrite_r4 none [4]) (.ret)) (.skip))) (.seq (.region c_l05_KeysWrite_r5 none [1, 2, 5]) (.seq (.region c_l05_KeysWrite_r6 none [1, 2, 5, 6]) (.seq (.region c_l05_KeysWrite_r7 none [1, 2, 5, 6, 7, 8]) (.seq (.seq (.region c_l05_KeysWrite_r8 none [1, 2, 5, 8, 40]) (.cond (.t 40) (.seq (.region c_l05_KeysWrite_r9 none [4]) (.ret)) (.skip))) (.seq (.region c_l05_KeysWrite_r10 (some ([0, 1, 0, 4, 12, 28, 3, 127], [(1, 3), (1, 5)])) [2, 5, 8, 9, 10]) (.seq (.seq (.region c_l05_KeysWrite_r11 none [2, 5, 8, 66]) (.cond (.t 66) (.seq (.region c_l05_KeysWrite_r12 none [4]) (.ret)) (.skip))) (.seq (.region c_l05_KeysWrite_r13 none [2, 8, 9]) (.seq (.region c_l05_KeysWrite_r14 none [2, 8, 9, 11]) (.seq (.region c_l05_KeysWrite_r15 (some ([0, 1, 3, 7, 15, 7, 63, 127, 255, 511, 1023, 2047, 4095, 8191, 4095, 32767, 65535, 131071, 262143], [(4, 5)])) [4]) (.ret))))))))))))
@[simp] def R_l05_KeysWrite : List CRes := [.tmp 4]
theorem k_l05_KeysWrite : chkFn Tryd.prog fn_l05_KeysWrite c_l05_KeysWrite R_l05_KeysWrite 2 = true := by kernel_rfl
/-! wapentake/wapentakelaw09.alive -/
@[simp] def a_l09_alive_r0 : List COper := [
  ⟨(some 0), .mov, [.c (.bool false)], none⟩]
def c_l09_alive_r0 : List COper := a_l09_alive_r0
instance : Reg c_l09_alive_r0 a_l09_alive_r0 1 := ⟨rfl, rfl⟩
@[simp] def a_l09_alive_r1 : List COper := [
  ⟨(some 2), .build [.v (.slice none 0 0)] [], [], none⟩,
  ⟨(some 3), .box, [.t 2], none⟩,
  ⟨(some 1), .mov, [.t 3], none⟩]
def c_l09_alive_r1 : List COper := a_l09_alive_r1
instance : Reg c_l09_alive_r1 a_l09_alive_r1 3 := ⟨rfl, rfl⟩
@[simp] def a_l09_alive_r2 : List COper := [
  ⟨(some 4), .mov, [.t 1], none⟩,
  ⟨(some 5), .call fn_l09_put, [], none⟩,
  ⟨(some 6), .call fn_request_Write, [.t 4, .t 5], none⟩]
def c_l09_alive_r2 : List COper := a_l09_alive_r2
instance : Reg c_l09_alive_r2 a_l09_alive_r2 3 := ⟨rfl, rfl⟩
@[simp] def a_l09_alive_r3 : List COper := [
  ⟨(some 7), .call fn_l09_put, [], none⟩,
  ⟨(some 8), .call fn_request_Good, [.t 7], none⟩,
  ⟨(some 9), .mov, [.t 8], none⟩,
  ⟨(some 10), .mov, [.t 1], (some (9, true))⟩,
  ⟨(some 11), .call fn_code_Writer_Bytes, [.t 10], (some (9, true))⟩,
  ⟨(some 12), .len, [.t 11], (some (9, true))⟩,
  ⟨(some 13), .bin .eql, [.t 12, .c (.int .i64 102)], (some (9, true))⟩,
  ⟨(some 14), .pick, [.t 9, .t 13, .c (.bool false)], none⟩,
  ⟨(some 15), .mov, [.t 14], none⟩,
  ⟨(some 16), .build [.v (.int .i64 0), .v (.int .i64 0), .v (.int .i64 0), .v (.slice none 0 0)] [1], [.c (.int .i64 1)], (some (15, true))⟩,
  ⟨(some 17), .build [.v (.int .i64 0), .v (.int .i64 0), .v (.int .i64 0), .v (.slice none 0 0)] [1], [.c (.int .i64 1)], (some (15, true))⟩,
  ⟨(some 18), .call fn_request_Same, [.t 16, .t 17], (some (15, true))⟩,
  ⟨(some 19), .pick, [.t 15, .t 18, .c (.bool false)], none⟩,
  ⟨(some 0), .mov, [.t 19], none⟩]
def c_l09_alive_r3 : List COper := a_l09_alive_r3
instance : Reg c_l09_alive_r3 a_l09_alive_r3 14 := ⟨rfl, rfl⟩
@[simp] def c_l09_alive : CCode :=
  .seq (.region c_l09_alive_r0 none []) (.seq (.region c_l09_alive_r1 none [1]) (.seq (.region c_l09_alive_r2 none [1]) (.seq (.region c_l09_alive_r3 none [0]) (.ret))))
@[simp] def R_l09_alive : List CRes := [.tmp 0]
theorem k_l09_alive : chkFn Tryd.prog fn_l09_alive c_l09_alive R_l09_alive 0 = true := by kernel_rfl
/-! wapentake/wapentakelaw09.long -/
@[simp] def a_l09_long_r0 : List COper := [
  ⟨(some 1), .box, [.t 0], none⟩,
  ⟨(some 2), .mov, [.c (.bool false)], none⟩]
def c_l09_long_r0 : List COper := a_l09_long_r0
instance : Reg c_l09_long_r0 a_l09_long_r0 2 := ⟨rfl, rfl⟩
@[simp] def a_l09_long_r1 : List COper := [
  ⟨(some 3), .faddr 2 40 true, [.t 1], none⟩,
  ⟨(some 4), .faddr 1 1 false, [.t 3], none⟩,
  ⟨(some 5), .load false 1, [.t 4], none⟩,
  ⟨(some 6), .lenS, [.t 5], none⟩,
  ⟨(some 7), .bin .gtr, [.t 6, .c (.int .i64 4096)], none⟩,
  ⟨(some 8), .mov, [.t 7], none⟩,
  ⟨(some 9), .faddr 2 40 true, [.t 1], (some (8, false))⟩,
  ⟨(some 10), .faddr 2 1 false, [.t 9], (some (8, false))⟩,
  ⟨(some 11), .load false 1, [.t 10], (some (8, false))⟩,
  ⟨(some 12), .lenS, [.t 11], (some (8, false))⟩,
  ⟨(some 13), .bin .gtr, [.t 12, .c (.int .i64 4096)], (some (8, false))⟩,
  ⟨(some 14), .pick, [.t 8, .c (.bool true), .t 13], none⟩,
  ⟨(some 15), .mov, [.t 14], none⟩,
  ⟨(some 16), .faddr 2 40 true, [.t 1], (some (15, false))⟩,
  ⟨(some 17), .faddr 3 1 false, [.t 16], (some (15, false))⟩,
  ⟨(some 18), .load false 1, [.t 17], (some (15, false))⟩,
  ⟨(some 19), .lenS, [.t 18], (some (15, false))⟩,
  ⟨(some 20), .bin .gtr, [.t 19, .c (.int .i64 4096)], (some (15, false))⟩,
  ⟨(some 21), .pick, [.t 15, .c (.bool true), .t 20], none⟩,
  ⟨(some 2), .mov, [.t 21], none⟩]
def c_l09_long_r1 : List COper := a_l09_long_r1
instance : Reg c_l09_long_r1 a_l09_long_r1 20 := ⟨rfl, rfl⟩
@[simp] def c_l09_long : CCode :=
  .seq (.region c_l09_long_r0 none [1]) (.seq (.region c_l09_long_r1 none [2]) (.ret))
@[simp] def R_l09_long : List CRes := [.tmp 2]
theorem k_l09_long : chkFn Tryd.prog fn_l09_long c_l09_long R_l09_long 1 = true := by kernel_rfl
/-! wapentake/request.Write -/
@[simp] def a_request_Write_r0 : List COper := [
  ⟨(some 3), .box, [.t 1], none⟩]
def c_request_Write_r0 : List COper := a_request_Write_r0
instance : Reg c_request_Write_r0 a_request_Write_r0 1 := ⟨rfl, rfl⟩
@[simp] def a_request_Write_r1 : List COper := [
  ⟨(some 5), .faddr 2 40 true, [.t 3], none⟩,
  ⟨(some 6), .faddr 4 36 true, [.t 5], none⟩,
  ⟨(some 7), .load true 36, [.t 6], none⟩,
  ⟨(some 4), .alloc (.node [.v (.int .i64 0), .v (.int .i64 0), .v (.int .i64 0), .node [.arr 1 (rep 32 (.v (.int .u8 0))), .v (.int .i64 0)]]), [], none⟩,
  ⟨none, .store true 36, [.t 4, .t 7], none⟩]
def c_request_Write_r1 : List COper := a_request_Write_r1
instance : Reg c_request_Write_r1 a_request_Write_r1 5 := ⟨rfl, rfl⟩
@[simp] def a_request_Write_r2 : List COper := [
  ⟨(some 8), .mov, [.t 0], none⟩,
  ⟨(some 9), .faddr 0 1 false, [.t 3], none⟩,
  ⟨(some 10), .load false 1, [.t 9], none⟩,
  ⟨(some 11), .faddr 1 1 false, [.t 3], none⟩,
  ⟨(some 12), .load false 1, [.t 11], none⟩,
  ⟨(some 13), .faddr 2 40 true, [.t 3], none⟩,
  ⟨(some 14), .faddr 0 1 false, [.t 13], none⟩,
  ⟨(some 15), .load false 1, [.t 14], none⟩,
  ⟨(some 16), .bslice 1 3 (.v (.int .i64 0)) [0, 1, 2], [.t 10, .t 12, .t 15], none⟩,
  ⟨(some 17), .call fn_code_Writer_Num, [.t 8, .t 16], none⟩]
def c_request_Write_r2 : List COper := a_request_Write_r2
instance : Reg c_request_Write_r2 a_request_Write_r2 10 := ⟨rfl, rfl⟩
@[simp] def a_request_Write_r3 : List COper := [
  ⟨(some 18), .mov, [.t 0], none⟩,
  ⟨(some 19), .faddr 2 40 true, [.t 3], none⟩,
  ⟨(some 20), .faddr 1 1 false, [.t 19], none⟩,
  ⟨(some 21), .load false 1, [.t 20], none⟩,
  ⟨(some 22), .faddr 2 40 true, [.t 3], none⟩,
  ⟨(some 23), .faddr 2 1 false, [.t 22], none⟩,
  ⟨(some 24), .load false 1, [.t 23], none⟩,
  ⟨(some 25), .faddr 2 40 true, [.t 3], none⟩,
  ⟨(some 26), .faddr 3 1 false, [.t 25], none⟩,
  ⟨(some 27), .load false 1, [.t 26], none⟩,
  ⟨(some 28), .bslice 1 3 (.v (.string (mkS []))) [0, 1, 2], [.t 21, .t 24, .t 27], none⟩,
  ⟨(some 29), .call fn_code_Writer_Text, [.t 18, .t 28], none⟩]
def c_request_Write_r3 : List COper := a_request_Write_r3
instance : Reg c_request_Write_r3 a_request_Write_r3 12 := ⟨rfl, rfl⟩
@[simp] def a_request_Write_r4 : List COper := [
  ⟨(some 30), .mov, [.t 0], none⟩,
  ⟨(some 31), .faddr 0 1 false, [.t 4], none⟩,
  ⟨(some 32), .load false 1, [.t 31], none⟩,
  ⟨(some 33), .faddr 1 1 false, [.t 4], none⟩,
  ⟨(some 34), .load false 1, [.t 33], none⟩,
  ⟨(some 35), .faddr 2 1 false, [.t 4], none⟩,
  ⟨(some 36), .load false 1, [.t 35], none⟩,
  ⟨(some 37), .faddr 3 33 true, [.t 4], none⟩,
  ⟨(some 38), .faddr 32 1 false, [.t 37], none⟩,
  ⟨(some 39), .load false 1, [.t 38], none⟩,
  ⟨(some 40), .bslice 1 4 (.v (.int .i64 0)) [0, 1, 2, 3], [.t 32, .t 34, .t 36, .t 39], none⟩,
  ⟨(some 41), .call fn_code_Writer_Num, [.t 30, .t 40], none⟩]
def c_request_Write_r4 : List COper := a_request_Write_r4
instance : Reg c_request_Write_r4 a_request_Write_r4 12 := ⟨rfl, rfl⟩
@[simp] def a_request_Write_r5 : List COper := [
  ⟨(some 42), .mov, [.t 0], none⟩,
  ⟨(some 43), .faddr 3 33 true, [.t 4], none⟩,
  ⟨(some 44), .faddr 0 32 true, [.t 43], none⟩,
  ⟨(some 45), .load true 32, [.t 44], none⟩,
  ⟨(some 46), .bslice 32 1 (.arr 1 (rep 32 (.v (.int .u8 0)))) [0], [.t 45], none⟩,
  ⟨(some 47), .call fn_code_Writer_Digest, [.t 42, .t 46], none⟩]
def c_request_Write_r5 : List COper := a_request_Write_r5
instance : Reg c_request_Write_r5 a_request_Write_r5 6 := ⟨rfl, rfl⟩
@[simp] def c_request_Write : CCode :=
  .seq (.region c_request_Write_r0 none [0, 3]) (.seq (.region c_request_Write_r1 none [0, 3, 4]) (.seq (.region c_request_Write_r2 none [0, 3, 4]) (.seq (.region c_request_Write_r3 none [0, 4]) (.seq (.region c_request_Write_r4 none [0, 4]) (.region c_request_Write_r5 none [])))))
@[simp] def R_request_Write : List CRes := []
theorem k_request_Write : chkFn Tryd.prog fn_request_Write c_request_Write R_request_Write 2 = true := by kernel_rfl
/-! (*wapentake/code.Writer).Bytes -/
@[simp] def a_code_Writer_Bytes_r0 : List COper := [
  ⟨(some 2), .mov, [.c (.slice none 0 0)], none⟩]
def c_code_Writer_Bytes_r0 : List COper := a_code_Writer_Bytes_r0
instance : Reg c_code_Writer_Bytes_r0 a_code_Writer_Bytes_r0 1 := ⟨rfl, rfl⟩
@[simp] def a_code_Writer_Bytes_r1 : List COper := [
  ⟨(some 3), .mov, [.t 0], none⟩,
  ⟨(some 4), .eqp false, [.t 3, .c (.pointer none)], none⟩]
def c_code_Writer_Bytes_r1 : List COper := a_code_Writer_Bytes_r1
instance : Reg c_code_Writer_Bytes_r1 a_code_Writer_Bytes_r1 2 := ⟨rfl, rfl⟩
@[simp] def a_code_Writer_Bytes_r2 : List COper := [
  ⟨(some 2), .mov, [.c (.slice none 0 0)], none⟩]
def c_code_Writer_Bytes_r2 : List COper := a_code_Writer_Bytes_r2
instance : Reg c_code_Writer_Bytes_r2 a_code_Writer_Bytes_r2 1 := ⟨rfl, rfl⟩
@[simp] def a_code_Writer_Bytes_r3 : List COper := [
  ⟨(some 5), .mov, [.t 0], none⟩,
  ⟨(some 6), .nilc, [.t 5], none⟩,
  ⟨(some 7), .faddr 0 1 false, [.t 6], none⟩,
  ⟨(some 8), .load false 1, [.t 7], none⟩,
  ⟨(some 9), .slice0 1, [.t 8], none⟩,
  ⟨(some 10), .mov, [.t 0], none⟩,
  ⟨(some 11), .nilc, [.t 10], none⟩,
  ⟨(some 12), .faddr 0 1 false, [.t 11], none⟩,
  ⟨(some 13), .load false 1, [.t 12], none⟩,
  ⟨(some 14), .app 1 1, [.t 9, .t 13], none⟩,
  ⟨(some 2), .mov, [.t 14], none⟩]
def c_code_Writer_Bytes_r3 : List COper := a_code_Writer_Bytes_r3
instance : Reg c_code_Writer_Bytes_r3 a_code_Writer_Bytes_r3 11 := ⟨rfl, rfl⟩
@[simp] def c_code_Writer_Bytes : CCode :=
  .seq (.region c_code_Writer_Bytes_r0 none [0]) (.seq (.seq (.region c_code_Writer_Bytes_r1 none [0, 4]) (.cond (.t 4) (.seq (.region c_code_Writer_Bytes_r2 none [2]) (.ret)) (.skip))) (.seq (.region c_code_Writer_Bytes_r3 (some ([0, 1, 3, 7, 15, 0, 32, 96, 224, 511, 1023], [(4, 8)])) [2]) (.ret)))
@[simp] def R_code_Writer_Bytes : List CRes := [.tmp 2]
theorem k_code_Writer_Bytes : chkFn Tryd.prog fn_code_Writer_Bytes c_code_Writer_Bytes R_code_Writer_Bytes 1 = true := by kernel_rfl
/-! wapentake/request.Digest -/
@[simp] def a_request_Digest_r0 : List COper := [
  ⟨(some 1), .box, [.t 0], none⟩,
  ⟨(some 2), .alloc (.arr 1 (rep 32 (.v (.int .u8 0)))), [], none⟩]
def c_request_Digest_r0 : List COper := a_request_Digest_r0
instance : Reg c_request_Digest_r0 a_request_Digest_r0 2 := ⟨rfl, rfl⟩
@[simp] def a_request_Digest_r1 : List COper := [
  ⟨(some 4), .build [.v (.slice none 0 0)] [], [], none⟩,
  ⟨(some 5), .box, [.t 4], none⟩,
  ⟨(some 3), .mov, [.t 5], none⟩]
def c_request_Digest_r1 : List COper := a_request_Digest_r1
instance : Reg c_request_Digest_r1 a_request_Digest_r1 3 := ⟨rfl, rfl⟩
@[simp] def a_request_Digest_r2 : List COper := [
  ⟨(some 6), .mov, [.t 3], none⟩,
  ⟨(some 7), .load true 42, [.t 1], none⟩,
  ⟨(some 8), .call fn_request_Write, [.t 6, .t 7], none⟩]
def c_request_Digest_r2 : List COper := a_request_Digest_r2
instance : Reg c_request_Digest_r2 a_request_Digest_r2 3 := ⟨rfl, rfl⟩
@[simp] def a_request_Digest_r3 : List COper := [
  ⟨(some 9), .bslice 1 7 (.v (.int .u8 0)) [0, 1, 2, 3, 4, 5, 6], [.c (.int .u8 114), .c (.int .u8 101), .c (.int .u8 113), .c (.int .u8 117), .c (.int .u8 101), .c (.int .u8 115), .c (.int .u8 116)], none⟩,
  ⟨(some 10), .convM, [.t 9], none⟩,
  ⟨(some 11), .mov, [.t 3], none⟩,
  ⟨(some 12), .call fn_code_Writer_Bytes, [.t 11], none⟩,
  ⟨(some 13), .bslice 1 2 (.v (.slice none 0 0)) [0, 1], [.t 10, .t 12], none⟩,
  ⟨(some 14), .call fn_sha_Of, [.t 13], none⟩,
  ⟨none, .store true 32, [.t 2, .t 14], none⟩]
def c_request_Digest_r3 : List COper := a_request_Digest_r3
instance : Reg c_request_Digest_r3 a_request_Digest_r3 7 := ⟨rfl, rfl⟩
@[simp] def c_request_Digest : CCode :=
  .seq (.region c_request_Digest_r0 none [1, 2]) (.seq (.region c_request_Digest_r1 none [1, 2, 3]) (.seq (.region c_request_Digest_r2 none [2, 3]) (.seq (.region c_request_Digest_r3 none [2]) (.ret))))
@[simp] def R_request_Digest : List CRes := [.cell 2 true 32]
theorem k_request_Digest : chkFn Tryd.prog fn_request_Digest c_request_Digest R_request_Digest 1 = true := by kernel_rfl
/-! wapentake/wapentakelaw12.alive -/
@[simp] def a_l12_alive_r0 : List COper := [
  ⟨(some 0), .mov, [.c (.bool false)], none⟩]
def c_l12_alive_r0 : List COper := a_l12_alive_r0
instance : Reg c_l12_alive_r0 a_l12_alive_r0 1 := ⟨rfl, rfl⟩
@[simp] def a_l12_alive_r1 : List COper := [
  ⟨(some 3), .build [.v (.int .i64 0), .v (.int .i64 0), .arr 1 (rep 32 (.v (.int .u8 0))), .arr 1 (rep 32 (.v (.int .u8 0))), .arr 1 (rep 32 (.v (.int .u8 0))), .v (.slice none 0 0)] [1], [.c (.int .i64 1)], none⟩,
  ⟨(some 1), .alloc (.node [.v (.int .i64 0), .v (.int .i64 0), .arr 1 (rep 32 (.v (.int .u8 0))), .arr 1 (rep 32 (.v (.int .u8 0))), .arr 1 (rep 32 (.v (.int .u8 0))), .v (.slice none 0 0)]), [], none⟩,
  ⟨none, .store true 99, [.t 1, .t 3], none⟩]
def c_l12_alive_r1 : List COper := a_l12_alive_r1
instance : Reg c_l12_alive_r1 a_l12_alive_r1 3 := ⟨rfl, rfl⟩
@[simp] def a_l12_alive_r2 : List COper := [
  ⟨(some 4), .build [.v (.slice none 0 0)] [], [], none⟩,
  ⟨(some 5), .box, [.t 4], none⟩,
  ⟨(some 2), .mov, [.t 5], none⟩]
def c_l12_alive_r2 : List COper := a_l12_alive_r2
instance : Reg c_l12_alive_r2 a_l12_alive_r2 3 := ⟨rfl, rfl⟩
@[simp] def a_l12_alive_r3 : List COper := [
  ⟨(some 6), .mov, [.t 2], none⟩,
  ⟨(some 7), .load true 99, [.t 1], none⟩,
  ⟨(some 8), .call fn_block_Write, [.t 6, .t 7], none⟩]
def c_l12_alive_r3 : List COper := a_l12_alive_r3
instance : Reg c_l12_alive_r3 a_l12_alive_r3 3 := ⟨rfl, rfl⟩
@[simp] def a_l12_alive_r4 : List COper := [
  ⟨(some 9), .load true 99, [.t 1], none⟩,
  ⟨(some 10), .call fn_block_Good, [.t 9], none⟩,
  ⟨(some 11), .mov, [.t 10], none⟩,
  ⟨(some 12), .mov, [.t 2], (some (11, true))⟩,
  ⟨(some 13), .call fn_code_Writer_Bytes, [.t 12], (some (11, true))⟩,
  ⟨(some 14), .len, [.t 13], (some (11, true))⟩,
  ⟨(some 15), .bin .eql, [.t 14, .c (.int .i64 120)], (some (11, true))⟩,
  ⟨(some 16), .pick, [.t 11, .t 15, .c (.bool false)], none⟩,
  ⟨(some 17), .mov, [.t 16], none⟩,
  ⟨(some 18), .load true 99, [.t 1], (some (17, true))⟩,
  ⟨(some 19), .buildA 1 (rep 32 (.v (.int .u8 0))) [], [], (some (17, true))⟩,
  ⟨(some 20), .buildA 1 (rep 32 (.v (.int .u8 0))) [], [], (some (17, true))⟩,
  ⟨(some 21), .call fn_block_Follows, [.t 18, .c (.int .i64 0), .c (.int .i64 1), .t 19, .t 20], (some (17, true))⟩,
  ⟨(some 22), .pick, [.t 17, .t 21, .c (.bool false)], none⟩,
  ⟨(some 0), .mov, [.t 22], none⟩]
def c_l12_alive_r4 : List COper := a_l12_alive_r4
instance : Reg c_l12_alive_r4 a_l12_alive_r4 15 := ⟨rfl, rfl⟩
@[simp] def c_l12_alive : CCode :=
  .seq (.region c_l12_alive_r0 none []) (.seq (.region c_l12_alive_r1 none [1]) (.seq (.region c_l12_alive_r2 none [1, 2]) (.seq (.region c_l12_alive_r3 none [1, 2]) (.seq (.region c_l12_alive_r4 none [0]) (.ret)))))
@[simp] def R_l12_alive : List CRes := [.tmp 0]
theorem k_l12_alive : chkFn Tryd.prog fn_l12_alive c_l12_alive R_l12_alive 0 = true := by kernel_rfl
/-! wapentake/wapentakeref12.Great -/
@[simp] def a_r12_Great_r0 : List COper := [
  ⟨(some 2), .box, [.t 0], none⟩,
  ⟨(some 4), .mov, [.c (.bool false)], none⟩]
def c_r12_Great_r0 : List COper := a_r12_Great_r0
instance : Reg c_r12_Great_r0 a_r12_Great_r0 2 := ⟨rfl, rfl⟩
@[simp] def a_r12_Great_r1 : List COper := [
  ⟨(some 5), .mov, [.c (.int .i64 0)], none⟩]
def c_r12_Great_r1 : List COper := a_r12_Great_r1
instance : Reg c_r12_Great_r1 a_r12_Great_r1 1 := ⟨rfl, rfl⟩
@[simp] def a_r12_Great_r2 : List COper := [
  ⟨(some 10), .faddr 98 1 false, [.t 2], none⟩,
  ⟨(some 11), .load false 1, [.t 10], none⟩,
  ⟨(some 12), .len, [.t 11], none⟩,
  ⟨(some 13), .bin .gtr, [.t 12, .c (.int .i64 40)], none⟩]
def c_r12_Great_r2 : List COper := a_r12_Great_r2
instance : Reg c_r12_Great_r2 a_r12_Great_r2 4 := ⟨rfl, rfl⟩
@[simp] def a_r12_Great_r3 : List COper := [
  ⟨(some 4), .mov, [.c (.bool true)], none⟩]
def c_r12_Great_r3 : List COper := a_r12_Great_r3
instance : Reg c_r12_Great_r3 a_r12_Great_r3 1 := ⟨rfl, rfl⟩
@[simp] def a_r12_Great_r4 : List COper := [
  ⟨(some 14), .faddr 98 1 false, [.t 2], none⟩,
  ⟨(some 15), .load false 1, [.t 14], none⟩,
  ⟨(some 16), .len, [.t 15], none⟩,
  ⟨(some 17), .mov, [.c (.int .i64 0)], none⟩]
def c_r12_Great_r4 : List COper := a_r12_Great_r4
instance : Reg c_r12_Great_r4 a_r12_Great_r4 4 := ⟨rfl, rfl⟩
@[simp] def a_r12_Great_r5 : List COper := [
  ⟨(some 18), .bin .lss, [.t 17, .t 16], none⟩]
def c_r12_Great_r5 : List COper := a_r12_Great_r5
instance : Reg c_r12_Great_r5 a_r12_Great_r5 1 := ⟨rfl, rfl⟩
@[simp] def a_r12_Great_r6 : List COper := [
  ⟨(some 19), .iaddr 42, [.t 15, .t 17], none⟩,
  ⟨(some 20), .load true 42, [.t 19], none⟩,
  ⟨(some 7), .alloc (.node [.v (.int .i64 0), .v (.int .i64 0), .node [.v (.int .i64 0), .v (.string (mkS [])), .v (.string (mkS [])), .v (.string (mkS [])), .node [.v (.int .i64 0), .v (.int .i64 0), .v (.int .i64 0), .node [.arr 1 (rep 32 (.v (.int .u8 0))), .v (.int .i64 0)]]]]), [], none⟩,
  ⟨none, .store true 42, [.t 7, .t 20], none⟩]
def c_r12_Great_r6 : List COper := a_r12_Great_r6
instance : Reg c_r12_Great_r6 a_r12_Great_r6 4 := ⟨rfl, rfl⟩
@[simp] def a_r12_Great_r7 : List COper := [
  ⟨(some 21), .mov, [.t 5], none⟩,
  ⟨(some 22), .bin .add, [.t 21, .c (.int .i64 100)], none⟩,
  ⟨(some 5), .mov, [.t 22], none⟩]
def c_r12_Great_r7 : List COper := a_r12_Great_r7
instance : Reg c_r12_Great_r7 a_r12_Great_r7 3 := ⟨rfl, rfl⟩
@[simp] def a_r12_Great_r8 : List COper := [
  ⟨(some 23), .faddr 2 40 true, [.t 7], none⟩,
  ⟨(some 24), .faddr 1 1 false, [.t 23], none⟩,
  ⟨(some 25), .load false 1, [.t 24], none⟩,
  ⟨(some 26), .faddr 2 40 true, [.t 7], none⟩,
  ⟨(some 27), .faddr 2 1 false, [.t 26], none⟩,
  ⟨(some 28), .load false 1, [.t 27], none⟩,
  ⟨(some 29), .faddr 2 40 true, [.t 7], none⟩,
  ⟨(some 30), .faddr 3 1 false, [.t 29], none⟩,
  ⟨(some 31), .load false 1, [.t 30], none⟩,
  ⟨(some 32), .buildA 1 (rep 3 (.v (.string (mkS [])))) (upTo 3), [.t 25, .t 28, .t 31], none⟩,
  ⟨(some 33), .mov, [.c (.int .i64 0)], none⟩]
def c_r12_Great_r8 : List COper := a_r12_Great_r8
instance : Reg c_r12_Great_r8 a_r12_Great_r8 11 := ⟨rfl, rfl⟩
@[simp] def a_r12_Great_r9 : List COper := [
  ⟨(some 34), .bin .lss, [.t 33, .c (.int .i64 3)], none⟩]
def c_r12_Great_r9 : List COper := a_r12_Great_r9
instance : Reg c_r12_Great_r9 a_r12_Great_r9 1 := ⟨rfl, rfl⟩
@[simp] def a_r12_Great_r10 : List COper := [
  ⟨(some 35), .idx false 3 1, [.t 32, .t 33], none⟩,
  ⟨(some 9), .mov, [.t 35], none⟩]
def c_r12_Great_r10 : List COper := a_r12_Great_r10
instance : Reg c_r12_Great_r10 a_r12_Great_r10 2 := ⟨rfl, rfl⟩
@[simp] def a_r12_Great_r11 : List COper := [
  ⟨(some 36), .mov, [.t 5], none⟩,
  ⟨(some 37), .mov, [.t 9], none⟩,
  ⟨(some 38), .lenS, [.t 37], none⟩,
  ⟨(some 39), .bin .add, [.t 36, .t 38], none⟩,
  ⟨(some 5), .mov, [.t 39], none⟩]
def c_r12_Great_r11 : List COper := a_r12_Great_r11
instance : Reg c_r12_Great_r11 a_r12_Great_r11 5 := ⟨rfl, rfl⟩
@[simp] def a_r12_Great_r12 : List COper := [
  ⟨(some 40), .mov, [.t 5], none⟩,
  ⟨(some 41), .mov, [.t 1], none⟩,
  ⟨(some 42), .bin .gtr, [.t 40, .t 41], none⟩]
def c_r12_Great_r12 : List COper := a_r12_Great_r12
instance : Reg c_r12_Great_r12 a_r12_Great_r12 3 := ⟨rfl, rfl⟩
@[simp] def a_r12_Great_r13 : List COper := [
  ⟨(some 4), .mov, [.c (.bool true)], none⟩]
def c_r12_Great_r13 : List COper := a_r12_Great_r13
instance : Reg c_r12_Great_r13 a_r12_Great_r13 1 := ⟨rfl, rfl⟩
@[simp] def a_r12_Great_r14 : List COper := [
  ⟨(some 43), .bin .add, [.t 33, .c (.int .i64 1)], none⟩,
  ⟨(some 33), .mov, [.t 43], none⟩]
def c_r12_Great_r14 : List COper := a_r12_Great_r14
instance : Reg c_r12_Great_r14 a_r12_Great_r14 2 := ⟨rfl, rfl⟩
@[simp] def a_r12_Great_r15 : List COper := [
  ⟨(some 44), .bin .add, [.t 17, .c (.int .i64 1)], none⟩,
  ⟨(some 17), .mov, [.t 44], none⟩]
def c_r12_Great_r15 : List COper := a_r12_Great_r15
instance : Reg c_r12_Great_r15 a_r12_Great_r15 2 := ⟨rfl, rfl⟩
@[simp] def a_r12_Great_r16 : List COper := [
  ⟨(some 45), .mov, [.t 5], none⟩,
  ⟨(some 46), .mov, [.t 1], none⟩,
  ⟨(some 47), .bin .gtr, [.t 45, .t 46], none⟩,
  ⟨(some 4), .mov, [.t 47], none⟩]
def c_r12_Great_r16 : List COper := a_r12_Great_r16
instance : Reg c_r12_Great_r16 a_r12_Great_r16 4 := ⟨rfl, rfl⟩
@[simp] def c_r12_Great : CCode :=
  .seq (.region c_r12_Great_r0 none [1, 2]) (.seq (.region c_r12_Great_r1 none [1, 2, 5]) (.seq (.seq (.region c_r12_Great_r2 none [1, 2, 5, 13]) (.cond (.t 13) (.seq (.region c_r12_Great_r3 none [4]) (.ret)) (.skip))) (.seq (.seq (.region c_r12_Great_r4 none [1, 5, 15, 16, 17]) (.block 0 (.loop (.seq (.region c_r12_Great_r5 none [1, 5, 15, 16, 17, 18]) (.seq (.cond (.t 18) (.skip) (.exit 0)) (.seq (.block 1 (.seq (.region c_r12_Great_r6 none [1, 5, 7, 15, 16, 17]) (.seq (.region c_r12_Great_r7 none [1, 5, 7, 15, 16, 17]) (.seq (.region c_r12_Great_r8 none [1, 5, 15, 16, 17, 32, 33]) (.block 2 (.loop (.seq (.region c_r12_Great_r9 none [1, 5, 15, 16, 17, 32, 33, 34]) (.seq (.cond (.t 34) (.skip) (.exit 2)) (.seq (.block 3 (.seq (.region c_r12_Great_r10 none [1, 5, 9, 15, 16, 17, 32, 33]) (.seq (.region c_r12_Great_r11 none [1, 5, 15, 16, 17, 32, 33]) (.seq (.region c_r12_Great_r12 none [1, 5, 15, 16, 17, 32, 33, 42]) (.cond (.t 42) (.seq (.region c_r12_Great_r13 none [4]) (.ret)) (.skip)))))) (.region c_r12_Great_r14 none [1, 5, 15, 16, 17, 32, 33])))))))))) (.region c_r12_Great_r15 none [1, 5, 15, 16, 17]))))))) (.seq (.region c_r12_Great_r16 none [4]) (.ret)))))
@[simp] def R_r12_Great : List CRes := [.tmp 4]
theorem k_r12_Great : chkFn Tryd.prog fn_r12_Great c_r12_Great R_r12_Great 2 = true := by kernel_rfl
/-! wapentake/block.Write -/
@[simp] def a_block_Write_r0 : List COper := [
  ⟨(some 3), .box, [.t 1], none⟩]
def c_block_Write_r0 : List COper := a_block_Write_r0
instance : Reg c_block_Write_r0 a_block_Write_r0 1 := ⟨rfl, rfl⟩
@[simp] def a_block_Write_r1 : List COper := [
  ⟨(some 6), .mov, [.t 0], none⟩,
  ⟨(some 7), .faddr 0 1 false, [.t 3], none⟩,
  ⟨(some 8), .load false 1, [.t 7], none⟩,
  ⟨(some 9), .faddr 1 1 false, [.t 3], none⟩,
  ⟨(some 10), .load false 1, [.t 9], none⟩,
  ⟨(some 11), .bslice 1 2 (.v (.int .i64 0)) [0, 1], [.t 8, .t 10], none⟩,
  ⟨(some 12), .call fn_code_Writer_Num, [.t 6, .t 11], none⟩]
def c_block_Write_r1 : List COper := a_block_Write_r1
instance : Reg c_block_Write_r1 a_block_Write_r1 7 := ⟨rfl, rfl⟩
@[simp] def a_block_Write_r2 : List COper := [
  ⟨(some 13), .mov, [.t 0], none⟩,
  ⟨(some 14), .faddr 2 32 true, [.t 3], none⟩,
  ⟨(some 15), .load true 32, [.t 14], none⟩,
  ⟨(some 16), .faddr 34 32 true, [.t 3], none⟩,
  ⟨(some 17), .load true 32, [.t 16], none⟩,
  ⟨(some 18), .faddr 66 32 true, [.t 3], none⟩,
  ⟨(some 19), .load true 32, [.t 18], none⟩,
  ⟨(some 20), .bslice 32 3 (.arr 1 (rep 32 (.v (.int .u8 0)))) [0, 1, 2], [.t 15, .t 17, .t 19], none⟩,
  ⟨(some 21), .call fn_code_Writer_Digest, [.t 13, .t 20], none⟩]
def c_block_Write_r2 : List COper := a_block_Write_r2
instance : Reg c_block_Write_r2 a_block_Write_r2 9 := ⟨rfl, rfl⟩
@[simp] def a_block_Write_r3 : List COper := [
  ⟨(some 22), .mov, [.t 0], none⟩,
  ⟨(some 23), .faddr 98 1 false, [.t 3], none⟩,
  ⟨(some 24), .load false 1, [.t 23], none⟩,
  ⟨(some 25), .len, [.t 24], none⟩,
  ⟨(some 26), .bslice 1 1 (.v (.int .i64 0)) [0], [.t 25], none⟩,
  ⟨(some 27), .call fn_code_Writer_Num, [.t 22, .t 26], none⟩]
def c_block_Write_r3 : List COper := a_block_Write_r3
instance : Reg c_block_Write_r3 a_block_Write_r3 6 := ⟨rfl, rfl⟩
@[simp] def a_block_Write_r4 : List COper := [
  ⟨(some 28), .faddr 98 1 false, [.t 3], none⟩,
  ⟨(some 29), .load false 1, [.t 28], none⟩,
  ⟨(some 30), .len, [.t 29], none⟩,
  ⟨(some 31), .mov, [.c (.int .i64 0)], none⟩]
def c_block_Write_r4 : List COper := a_block_Write_r4
instance : Reg c_block_Write_r4 a_block_Write_r4 4 := ⟨rfl, rfl⟩
@[simp] def a_block_Write_r5 : List COper := [
  ⟨(some 32), .bin .lss, [.t 31, .t 30], none⟩]
def c_block_Write_r5 : List COper := a_block_Write_r5
instance : Reg c_block_Write_r5 a_block_Write_r5 1 := ⟨rfl, rfl⟩
@[simp] def a_block_Write_r6 : List COper := [
  ⟨(some 33), .iaddr 42, [.t 29, .t 31], none⟩,
  ⟨(some 34), .load true 42, [.t 33], none⟩,
  ⟨(some 5), .alloc (.node [.v (.int .i64 0), .v (.int .i64 0), .node [.v (.int .i64 0), .v (.string (mkS [])), .v (.string (mkS [])), .v (.string (mkS [])), .node [.v (.int .i64 0), .v (.int .i64 0), .v (.int .i64 0), .node [.arr 1 (rep 32 (.v (.int .u8 0))), .v (.int .i64 0)]]]]), [], none⟩,
  ⟨none, .store true 42, [.t 5, .t 34], none⟩]
def c_block_Write_r6 : List COper := a_block_Write_r6
instance : Reg c_block_Write_r6 a_block_Write_r6 4 := ⟨rfl, rfl⟩
@[simp] def a_block_Write_r7 : List COper := [
  ⟨(some 35), .mov, [.t 0], none⟩,
  ⟨(some 36), .load true 42, [.t 5], none⟩,
  ⟨(some 37), .call fn_request_Write, [.t 35, .t 36], none⟩]
def c_block_Write_r7 : List COper := a_block_Write_r7
instance : Reg c_block_Write_r7 a_block_Write_r7 3 := ⟨rfl, rfl⟩
@[simp] def a_block_Write_r8 : List COper := [
  ⟨(some 38), .bin .add, [.t 31, .c (.int .i64 1)], none⟩,
  ⟨(some 31), .mov, [.t 38], none⟩]
def c_block_Write_r8 : List COper := a_block_Write_r8
instance : Reg c_block_Write_r8 a_block_Write_r8 2 := ⟨rfl, rfl⟩
@[simp] def c_block_Write : CCode :=
  .seq (.region c_block_Write_r0 none [0, 3]) (.seq (.region c_block_Write_r1 none [0, 3]) (.seq (.region c_block_Write_r2 none [0, 3]) (.seq (.region c_block_Write_r3 none [0, 3]) (.seq (.region c_block_Write_r4 none [0, 29, 30, 31]) (.block 0 (.loop (.seq (.region c_block_Write_r5 none [0, 29, 30, 31, 32]) (.seq (.cond (.t 32) (.skip) (.exit 0)) (.seq (.block 1 (.seq (.region c_block_Write_r6 none [0, 5, 29, 30, 31]) (.region c_block_Write_r7 none [0, 29, 30, 31]))) (.region c_block_Write_r8 none [0, 29, 30, 31]))))))))))
@[simp] def R_block_Write : List CRes := []
theorem k_block_Write : chkFn Tryd.prog fn_block_Write c_block_Write R_block_Write 2 = true := by kernel_rfl
/-! wapentake/wapentakeref12.Same -/
@[simp] def a_r12_Same_r0 : List COper := [
  ⟨(some 2), .box, [.t 0], none⟩,
  ⟨(some 3), .box, [.t 1], none⟩,
  ⟨(some 4), .mov, [.c (.bool false)], none⟩]
def c_r12_Same_r0 : List COper := a_r12_Same_r0
instance : Reg c_r12_Same_r0 a_r12_Same_r0 3 := ⟨rfl, rfl⟩
@[simp] def a_r12_Same_r1 : List COper := [
  ⟨(some 6), .faddr 0 1 false, [.t 2], none⟩,
  ⟨(some 7), .load false 1, [.t 6], none⟩,
  ⟨(some 8), .faddr 0 1 false, [.t 3], none⟩,
  ⟨(some 9), .load false 1, [.t 8], none⟩,
  ⟨(some 10), .bin .neq, [.t 7, .t 9], none⟩,
  ⟨(some 11), .mov, [.t 10], none⟩,
  ⟨(some 12), .faddr 1 1 false, [.t 2], (some (11, false))⟩,
  ⟨(some 13), .load false 1, [.t 12], (some (11, false))⟩,
  ⟨(some 14), .faddr 1 1 false, [.t 3], (some (11, false))⟩,
  ⟨(some 15), .load false 1, [.t 14], (some (11, false))⟩,
  ⟨(some 16), .bin .neq, [.t 13, .t 15], (some (11, false))⟩,
  ⟨(some 17), .pick, [.t 11, .c (.bool true), .t 16], none⟩,
  ⟨(some 18), .mov, [.t 17], none⟩,
  ⟨(some 19), .faddr 2 32 true, [.t 2], (some (18, false))⟩,
  ⟨(some 20), .load true 32, [.t 19], (some (18, false))⟩,
  ⟨(some 21), .faddr 2 32 true, [.t 3], (some (18, false))⟩,
  ⟨(some 22), .load true 32, [.t 21], (some (18, false))⟩,
  ⟨(some 23), .eqa true .u8 32, [.t 20, .t 22], (some (18, false))⟩,
  ⟨(some 24), .pick, [.t 18, .c (.bool true), .t 23], none⟩,
  ⟨(some 25), .mov, [.t 24], none⟩,
  ⟨(some 26), .faddr 34 32 true, [.t 2], (some (25, false))⟩,
  ⟨(some 27), .load true 32, [.t 26], (some (25, false))⟩,
  ⟨(some 28), .faddr 34 32 true, [.t 3], (some (25, false))⟩,
  ⟨(some 29), .load true 32, [.t 28], (some (25, false))⟩,
  ⟨(some 30), .eqa true .u8 32, [.t 27, .t 29], (some (25, false))⟩,
  ⟨(some 31), .pick, [.t 25, .c (.bool true), .t 30], none⟩,
  ⟨(some 32), .mov, [.t 31], none⟩,
  ⟨(some 33), .faddr 66 32 true, [.t 2], (some (32, false))⟩,
  ⟨(some 34), .load true 32, [.t 33], (some (32, false))⟩,
  ⟨(some 35), .faddr 66 32 true, [.t 3], (some (32, false))⟩,
  ⟨(some 36), .load true 32, [.t 35], (some (32, false))⟩,
  ⟨(some 37), .eqa true .u8 32, [.t 34, .t 36], (some (32, false))⟩,
  ⟨(some 38), .pick, [.t 32, .c (.bool true), .t 37], none⟩,
  ⟨(some 39), .mov, [.t 38], none⟩,
  ⟨(some 40), .faddr 98 1 false, [.t 2], (some (39, false))⟩,
  ⟨(some 41), .load false 1, [.t 40], (some (39, false))⟩,
  ⟨(some 42), .len, [.t 41], (some (39, false))⟩,
  ⟨(some 43), .faddr 98 1 false, [.t 3], (some (39, false))⟩,
  ⟨(some 44), .load false 1, [.t 43], (some (39, false))⟩,
  ⟨(some 45), .len, [.t 44], (some (39, false))⟩,
  ⟨(some 46), .bin .neq, [.t 42, .t 45], (some (39, false))⟩,
  ⟨(some 47), .pick, [.t 39, .c (.bool true), .t 46], none⟩]
def c_r12_Same_r1 : List COper := a_r12_Same_r1
instance : Reg c_r12_Same_r1 a_r12_Same_r1 42 := ⟨rfl, rfl⟩
@[simp] def a_r12_Same_r2 : List COper := [
  ⟨(some 4), .mov, [.c (.bool false)], none⟩]
def c_r12_Same_r2 : List COper := a_r12_Same_r2
instance : Reg c_r12_Same_r2 a_r12_Same_r2 1 := ⟨rfl, rfl⟩
@[simp] def a_r12_Same_r3 : List COper := [
  ⟨(some 48), .faddr 98 1 false, [.t 2], none⟩,
  ⟨(some 49), .load false 1, [.t 48], none⟩,
  ⟨(some 50), .len, [.t 49], none⟩,
  ⟨(some 51), .mov, [.c (.int .i64 0)], none⟩]
def c_r12_Same_r3 : List COper := a_r12_Same_r3
instance : Reg c_r12_Same_r3 a_r12_Same_r3 4 := ⟨rfl, rfl⟩
@[simp] def a_r12_Same_r4 : List COper := [
  ⟨(some 52), .bin .lss, [.t 51, .t 50], none⟩]
def c_r12_Same_r4 : List COper := a_r12_Same_r4
instance : Reg c_r12_Same_r4 a_r12_Same_r4 1 := ⟨rfl, rfl⟩
@[simp] def a_r12_Same_r5 : List COper := [
  ⟨(some 53), .mov, [.t 51], none⟩,
  ⟨(some 5), .mov, [.t 53], none⟩]
def c_r12_Same_r5 : List COper := a_r12_Same_r5
instance : Reg c_r12_Same_r5 a_r12_Same_r5 2 := ⟨rfl, rfl⟩
@[simp] def a_r12_Same_r6 : List COper := [
  ⟨(some 54), .faddr 98 1 false, [.t 2], none⟩,
  ⟨(some 55), .load false 1, [.t 54], none⟩,
  ⟨(some 56), .mov, [.t 5], none⟩,
  ⟨(some 57), .iaddr 42, [.t 55, .t 56], none⟩,
  ⟨(some 58), .load true 42, [.t 57], none⟩,
  ⟨(some 59), .faddr 98 1 false, [.t 3], none⟩,
  ⟨(some 60), .load false 1, [.t 59], none⟩,
  ⟨(some 61), .mov, [.t 5], none⟩,
  ⟨(some 62), .iaddr 42, [.t 60, .t 61], none⟩,
  ⟨(some 63), .load true 42, [.t 62], none⟩,
  ⟨(some 64), .eqs true (.st [.int .i64, .int .i64, .st [.int .i64, .str, .str, .str, .st [.int .i64, .int .i64, .int .i64, .st [.ints .u8 32, .int .i64]]]]), [.t 58, .t 63], none⟩]
def c_r12_Same_r6 : List COper := a_r12_Same_r6
instance : Reg c_r12_Same_r6 a_r12_Same_r6 11 := ⟨rfl, rfl⟩
@[simp] def a_r12_Same_r7 : List COper := [
  ⟨(some 4), .mov, [.c (.bool false)], none⟩]
def c_r12_Same_r7 : List COper := a_r12_Same_r7
instance : Reg c_r12_Same_r7 a_r12_Same_r7 1 := ⟨rfl, rfl⟩
@[simp] def a_r12_Same_r8 : List COper := [
  ⟨(some 65), .bin .add, [.t 51, .c (.int .i64 1)], none⟩,
  ⟨(some 51), .mov, [.t 65], none⟩]
def c_r12_Same_r8 : List COper := a_r12_Same_r8
instance : Reg c_r12_Same_r8 a_r12_Same_r8 2 := ⟨rfl, rfl⟩
@[simp] def a_r12_Same_r9 : List COper := [
  ⟨(some 4), .mov, [.c (.bool true)], none⟩]
def c_r12_Same_r9 : List COper := a_r12_Same_r9
instance : Reg c_r12_Same_r9 a_r12_Same_r9 1 := ⟨rfl, rfl⟩
@[simp] def c_r12_Same : CCode :=
  .seq (.region c_r12_Same_r0 none [2, 3]) (.seq (.seq (.region c_r12_Same_r1 none [2, 3, 47]) (.cond (.t 47) (.seq (.region c_r12_Same_r2 none [4]) (.ret)) (.skip))) (.seq (.seq (.region c_r12_Same_r3 none [2, 3, 50, 51]) (.block 0 (.loop (.seq (.region c_r12_Same_r4 none [2, 3, 50, 51, 52]) (.seq (.cond (.t 52) (.skip) (.exit 0)) (.seq (.block 1 (.seq (.region c_r12_Same_r5 none [2, 3, 5, 50, 51]) (.seq (.region c_r12_Same_r6 (some ([0, 1, 0, 7, 15, 0, 32, 0, 224, 480, 1023], [])) [2, 3, 50, 51, 64]) (.cond (.t 64) (.seq (.region c_r12_Same_r7 none [4]) (.ret)) (.skip))))) (.region c_r12_Same_r8 none [2, 3, 50, 51]))))))) (.seq (.region c_r12_Same_r9 none [4]) (.ret))))
@[simp] def R_r12_Same : List CRes := [.tmp 4]
theorem k_r12_Same : chkFn Tryd.prog fn_r12_Same c_r12_Same R_r12_Same 2 = true := by kernel_rfl
/-! wapentake/block.Digest -/
@[simp] def a_block_Digest_r0 : List COper := [
  ⟨(some 1), .box, [.t 0], none⟩,
  ⟨(some 2), .alloc (.arr 1 (rep 32 (.v (.int .u8 0)))), [], none⟩]
def c_block_Digest_r0 : List COper := a_block_Digest_r0
instance : Reg c_block_Digest_r0 a_block_Digest_r0 2 := ⟨rfl, rfl⟩
@[simp] def a_block_Digest_r1 : List COper := [
  ⟨(some 4), .build [.v (.slice none 0 0)] [], [], none⟩,
  ⟨(some 5), .box, [.t 4], none⟩,
  ⟨(some 3), .mov, [.t 5], none⟩]
def c_block_Digest_r1 : List COper := a_block_Digest_r1
instance : Reg c_block_Digest_r1 a_block_Digest_r1 3 := ⟨rfl, rfl⟩
@[simp] def a_block_Digest_r2 : List COper := [
  ⟨(some 6), .mov, [.t 3], none⟩,
  ⟨(some 7), .load true 99, [.t 1], none⟩,
  ⟨(some 8), .call fn_block_Write, [.t 6, .t 7], none⟩]
def c_block_Digest_r2 : List COper := a_block_Digest_r2
instance : Reg c_block_Digest_r2 a_block_Digest_r2 3 := ⟨rfl, rfl⟩
@[simp] def a_block_Digest_r3 : List COper := [
  ⟨(some 9), .bslice 1 5 (.v (.int .u8 0)) [0, 1, 2, 3, 4], [.c (.int .u8 98), .c (.int .u8 108), .c (.int .u8 111), .c (.int .u8 99), .c (.int .u8 107)], none⟩,
  ⟨(some 10), .convM, [.t 9], none⟩,
  ⟨(some 11), .mov, [.t 3], none⟩,
  ⟨(some 12), .call fn_code_Writer_Bytes, [.t 11], none⟩,
  ⟨(some 13), .bslice 1 2 (.v (.slice none 0 0)) [0, 1], [.t 10, .t 12], none⟩,
  ⟨(some 14), .call fn_sha_Of, [.t 13], none⟩,
  ⟨none, .store true 32, [.t 2, .t 14], none⟩]
def c_block_Digest_r3 : List COper := a_block_Digest_r3
instance : Reg c_block_Digest_r3 a_block_Digest_r3 7 := ⟨rfl, rfl⟩
@[simp] def c_block_Digest : CCode :=
  .seq (.region c_block_Digest_r0 none [1, 2]) (.seq (.region c_block_Digest_r1 none [1, 2, 3]) (.seq (.region c_block_Digest_r2 none [2, 3]) (.seq (.region c_block_Digest_r3 none [2]) (.ret))))
@[simp] def R_block_Digest : List CRes := [.cell 2 true 32]
theorem k_block_Digest : chkFn Tryd.prog fn_block_Digest c_block_Digest R_block_Digest 1 = true := by kernel_rfl
/-! wapentake/wapentakelaw05.alive -/
@[simp] def a_l05_alive_r0 : List COper := [
  ⟨(some 0), .mov, [.c (.bool false)], none⟩]
def c_l05_alive_r0 : List COper := a_l05_alive_r0
instance : Reg c_l05_alive_r0 a_l05_alive_r0 1 := ⟨rfl, rfl⟩
@[simp] def a_l05_alive_r1 : List COper := [
  ⟨(some 8), .buildA 1 (rep 32 (.v (.int .u8 0))) [0], [.c (.int .u8 1)], none⟩,
  ⟨(some 9), .call fn_keys_New, [.t 8, .c (.int .i64 1)], none⟩,
  ⟨(some 7), .mov, [.t 9], none⟩,
  ⟨(some 10), .ext 0, [.t 7], none⟩,
  ⟨(some 11), .ext 1, [.t 7], none⟩,
  ⟨(some 1), .mov, [.t 10], none⟩,
  ⟨(some 2), .mov, [.t 11], none⟩]
def c_l05_alive_r1 : List COper := a_l05_alive_r1
instance : Reg c_l05_alive_r1 a_l05_alive_r1 7 := ⟨rfl, rfl⟩
@[simp] def a_l05_alive_r2 : List COper := [
  ⟨(some 12), .mov, [.t 2], none⟩,
  ⟨(some 13), .bin .neq, [.t 12, .c (.int .i64 0)], none⟩,
  ⟨(some 14), .mov, [.t 13], none⟩,
  ⟨(some 15), .mov, [.t 1], (some (14, false))⟩,
  ⟨(some 16), .eqp false, [.t 15, .c (.pointer none)], (some (14, false))⟩,
  ⟨(some 17), .pick, [.t 14, .c (.bool true), .t 16], none⟩]
def c_l05_alive_r2 : List COper := a_l05_alive_r2
instance : Reg c_l05_alive_r2 a_l05_alive_r2 6 := ⟨rfl, rfl⟩
@[simp] def a_l05_alive_r3 : List COper := [
  ⟨(some 0), .mov, [.c (.bool false)], none⟩]
def c_l05_alive_r3 : List COper := a_l05_alive_r3
instance : Reg c_l05_alive_r3 a_l05_alive_r3 1 := ⟨rfl, rfl⟩
@[simp] def a_l05_alive_r4 : List COper := [
  ⟨(some 19), .mov, [.t 1], none⟩,
  ⟨(some 20), .buildA 1 (rep 32 (.v (.int .u8 0))) [0], [.c (.int .u8 5)], none⟩,
  ⟨(some 21), .call fn_keys_Tree_Sign, [.t 19, .c (.int .i64 1), .t 20], none⟩,
  ⟨(some 18), .mov, [.t 21], none⟩,
  ⟨(some 22), .ext 0, [.t 18], none⟩,
  ⟨(some 23), .ext 1, [.t 18], none⟩,
  ⟨(some 3), .alloc (.node [.v (.int .i64 0), .node [.v (.slice none 0 0), .v (.slice none 0 0)], .v (.slice none 0 0)]), [], none⟩,
  ⟨none, .store true 4, [.t 3, .t 22], none⟩,
  ⟨(some 4), .mov, [.t 23], none⟩]
def c_l05_alive_r4 : List COper := a_l05_alive_r4
instance : Reg c_l05_alive_r4 a_l05_alive_r4 9 := ⟨rfl, rfl⟩
@[simp] def a_l05_alive_r5 : List COper := [
  ⟨(some 25), .mov, [.t 1], none⟩,
  ⟨(some 26), .buildA 1 (rep 32 (.v (.int .u8 0))) [], [], none⟩,
  ⟨(some 27), .call fn_keys_Tree_Sign, [.t 25, .c (.int .i64 2), .t 26], none⟩,
  ⟨(some 24), .mov, [.t 27], none⟩,
  ⟨(some 28), .ext 0, [.t 24], none⟩,
  ⟨(some 29), .ext 1, [.t 24], none⟩,
  ⟨(some 5), .alloc (.node [.v (.int .i64 0), .node [.v (.slice none 0 0), .v (.slice none 0 0)], .v (.slice none 0 0)]), [], none⟩,
  ⟨none, .store true 4, [.t 5, .t 28], none⟩,
  ⟨(some 6), .mov, [.t 29], none⟩]
def c_l05_alive_r5 : List COper := a_l05_alive_r5
instance : Reg c_l05_alive_r5 a_l05_alive_r5 9 := ⟨rfl, rfl⟩
@[simp] def a_l05_alive_r6 : List COper := [
  ⟨(some 30), .mov, [.t 4], none⟩,
  ⟨(some 31), .bin .eql, [.t 30, .c (.int .i64 0)], none⟩,
  ⟨(some 32), .mov, [.t 31], none⟩,
  ⟨(some 33), .mov, [.t 6], (some (32, true))⟩,
  ⟨(some 34), .bin .eql, [.t 33, .c (.int .i64 1)], (some (32, true))⟩,
  ⟨(some 35), .pick, [.t 32, .t 34, .c (.bool false)], none⟩,
  ⟨(some 36), .mov, [.t 35], none⟩,
  ⟨(some 37), .mov, [.t 1], (some (36, true))⟩,
  ⟨(some 38), .call fn_keys_Tree_Key, [.t 37], (some (36, true))⟩,
  ⟨(some 39), .buildA 1 (rep 32 (.v (.int .u8 0))) [0], [.c (.int .u8 5)], (some (36, true))⟩,
  ⟨(some 40), .load true 4, [.t 3], (some (36, true))⟩,
  ⟨(some 41), .call fn_keys_Check, [.t 38, .t 39, .t 40], (some (36, true))⟩,
  ⟨(some 42), .pick, [.t 36, .t 41, .c (.bool false)], none⟩,
  ⟨(some 0), .mov, [.t 42], none⟩]
def c_l05_alive_r6 : List COper := a_l05_alive_r6
instance : Reg c_l05_alive_r6 a_l05_alive_r6 14 := ⟨rfl, rfl⟩
@[simp] def c_l05_alive : CCode :=
  .seq (.region c_l05_alive_r0 none []) (.seq (.region c_l05_alive_r1 none [1, 2]) (.seq (.seq (.region c_l05_alive_r2 none [1, 17]) (.cond (.t 17) (.seq (.region c_l05_alive_r3 none [0]) (.ret)) (.skip))) (.seq (.region c_l05_alive_r4 none [1, 3, 4]) (.seq (.region c_l05_alive_r5 none [1, 3, 4, 6]) (.seq (.region c_l05_alive_r6 (some ([0, 1, 3, 7, 15, 31, 63, 127, 255, 127, 127, 2047, 4095, 8191], [(8, 10)])) [0]) (.ret))))))
@[simp] def R_l05_alive : List CRes := [.tmp 0]
theorem k_l05_alive : chkFn Tryd.prog fn_l05_alive c_l05_alive R_l05_alive 0 = true := by kernel_rfl
/-! (*wapentake/keys.Tree).Sign -/
@[simp] def a_keys_Tree_Sign_r0 : List COper := [
  ⟨(some 5), .box, [.t 2], none⟩,
  ⟨(some 6), .alloc (.node [.v (.int .i64 0), .node [.v (.slice none 0 0), .v (.slice none 0 0)], .v (.slice none 0 0)]), [], none⟩,
  ⟨(some 7), .mov, [.c (.int .i64 0)], none⟩]
def c_keys_Tree_Sign_r0 : List COper := a_keys_Tree_Sign_r0
instance : Reg c_keys_Tree_Sign_r0 a_keys_Tree_Sign_r0 3 := ⟨rfl, rfl⟩
@[simp] def a_keys_Tree_Sign_r1 : List COper := [
  ⟨(some 10), .mov, [.t 0], none⟩,
  ⟨(some 11), .eqp false, [.t 10, .c (.pointer none)], none⟩]
def c_keys_Tree_Sign_r1 : List COper := a_keys_Tree_Sign_r1
instance : Reg c_keys_Tree_Sign_r1 a_keys_Tree_Sign_r1 2 := ⟨rfl, rfl⟩
@[simp] def a_keys_Tree_Sign_r2 : List COper := [
  ⟨(some 12), .build [.v (.int .i64 0), .node [.v (.slice none 0 0), .v (.slice none 0 0)], .v (.slice none 0 0)] [], [], none⟩,
  ⟨none, .store true 4, [.t 6, .t 12], none⟩,
  ⟨(some 7), .mov, [.c (.int .i64 2)], none⟩]
def c_keys_Tree_Sign_r2 : List COper := a_keys_Tree_Sign_r2
instance : Reg c_keys_Tree_Sign_r2 a_keys_Tree_Sign_r2 3 := ⟨rfl, rfl⟩
@[simp] def a_keys_Tree_Sign_r3 : List COper := [
  ⟨(some 14), .mov, [.t 1], none⟩,
  ⟨(some 15), .mov, [.t 0], none⟩,
  ⟨(some 16), .nilc, [.t 15], none⟩,
  ⟨(some 17), .faddr 33 1 false, [.t 16], none⟩,
  ⟨(some 18), .load false 1, [.t 17], none⟩,
  ⟨(some 19), .call fn_tree_Path, [.t 14, .t 18], none⟩,
  ⟨(some 13), .mov, [.t 19], none⟩,
  ⟨(some 20), .ext 0, [.t 13], none⟩,
  ⟨(some 21), .ext 1, [.t 13], none⟩,
  ⟨(some 8), .mov, [.t 20], none⟩,
  ⟨(some 9), .mov, [.t 21], none⟩]
def c_keys_Tree_Sign_r3 : List COper := a_keys_Tree_Sign_r3
instance : Reg c_keys_Tree_Sign_r3 a_keys_Tree_Sign_r3 11 := ⟨rfl, rfl⟩
@[simp] def a_keys_Tree_Sign_r4 : List COper := [
  ⟨(some 22), .mov, [.t 9], none⟩,
  ⟨(some 23), .not, [.t 22], none⟩]
def c_keys_Tree_Sign_r4 : List COper := a_keys_Tree_Sign_r4
instance : Reg c_keys_Tree_Sign_r4 a_keys_Tree_Sign_r4 2 := ⟨rfl, rfl⟩
@[simp] def a_keys_Tree_Sign_r5 : List COper := [
  ⟨(some 24), .build [.v (.int .i64 0), .node [.v (.slice none 0 0), .v (.slice none 0 0)], .v (.slice none 0 0)] [], [], none⟩,
  ⟨none, .store true 4, [.t 6, .t 24], none⟩,
  ⟨(some 7), .mov, [.c (.int .i64 1)], none⟩]
def c_keys_Tree_Sign_r5 : List COper := a_keys_Tree_Sign_r5
instance : Reg c_keys_Tree_Sign_r5 a_keys_Tree_Sign_r5 3 := ⟨rfl, rfl⟩
@[simp] def a_keys_Tree_Sign_r6 : List COper := [
  ⟨(some 25), .mov, [.t 1], none⟩,
  ⟨(some 26), .mov, [.t 0], none⟩,
  ⟨(some 27), .nilc, [.t 26], none⟩,
  ⟨(some 28), .faddr 0 32 true, [.t 27], none⟩,
  ⟨(some 29), .load true 32, [.t 28], none⟩,
  ⟨(some 30), .mov, [.t 1], none⟩,
  ⟨(some 31), .load true 32, [.t 5], none⟩,
  ⟨(some 32), .call fn_once_Sign, [.t 29, .t 30, .t 31], none⟩,
  ⟨(some 33), .mov, [.t 8], none⟩,
  ⟨(some 34), .build [.v (.int .i64 0), .node [.v (.slice none 0 0), .v (.slice none 0 0)], .v (.slice none 0 0)] [0, 1, 2], [.t 25, .t 32, .t 33], none⟩,
  ⟨none, .store true 4, [.t 6, .t 34], none⟩,
  ⟨(some 7), .mov, [.c (.int .i64 0)], none⟩]
def c_keys_Tree_Sign_r6 : List COper := a_keys_Tree_Sign_r6
instance : Reg c_keys_Tree_Sign_r6 a_keys_Tree_Sign_r6 12 := ⟨rfl, rfl⟩
@[simp] def c_keys_Tree_Sign : CCode :=
  .seq (.region c_keys_Tree_Sign_r0 none [0, 1, 5, 6]) (.seq (.seq (.region c_keys_Tree_Sign_r1 none [0, 1, 5, 6, 11]) (.cond (.t 11) (.seq (.region c_keys_Tree_Sign_r2 none [6, 7]) (.ret)) (.skip))) (.seq (.region c_keys_Tree_Sign_r3 none [0, 1, 5, 6, 8, 9]) (.seq (.seq (.region c_keys_Tree_Sign_r4 none [0, 1, 5, 6, 8, 23]) (.cond (.t 23) (.seq (.region c_keys_Tree_Sign_r5 none [6, 7]) (.ret)) (.skip))) (.seq (.region c_keys_Tree_Sign_r6 (some ([0, 0, 2, 6, 14, 0, 0, 126, 0, 511, 1023, 2047], [])) [6, 7]) (.ret)))))
@[simp] def R_keys_Tree_Sign : List CRes := [.cell 6 true 4, .tmp 7]
theorem k_keys_Tree_Sign : chkFn Tryd.prog fn_keys_Tree_Sign c_keys_Tree_Sign R_keys_Tree_Sign 3 = true := by kernel_rfl
/-! (*wapentake/keys.Tree).Key -/
@[simp] def a_keys_Tree_Key_r0 : List COper := [
  ⟨(some 2), .alloc (.node [.arr 1 (rep 32 (.v (.int .u8 0))), .v (.int .i64 0)]), [], none⟩]
def c_keys_Tree_Key_r0 : List COper := a_keys_Tree_Key_r0
instance : Reg c_keys_Tree_Key_r0 a_keys_Tree_Key_r0 1 := ⟨rfl, rfl⟩
@[simp] def a_keys_Tree_Key_r1 : List COper := [
  ⟨(some 3), .mov, [.t 0], none⟩,
  ⟨(some 4), .eqp false, [.t 3, .c (.pointer none)], none⟩]
def c_keys_Tree_Key_r1 : List COper := a_keys_Tree_Key_r1
instance : Reg c_keys_Tree_Key_r1 a_keys_Tree_Key_r1 2 := ⟨rfl, rfl⟩
@[simp] def a_keys_Tree_Key_r2 : List COper := [
  ⟨(some 5), .build [.arr 1 (rep 32 (.v (.int .u8 0))), .v (.int .i64 0)] [], [], none⟩,
  ⟨none, .store true 33, [.t 2, .t 5], none⟩]
def c_keys_Tree_Key_r2 : List COper := a_keys_Tree_Key_r2
instance : Reg c_keys_Tree_Key_r2 a_keys_Tree_Key_r2 2 := ⟨rfl, rfl⟩
@[simp] def a_keys_Tree_Key_r3 : List COper := [
  ⟨(some 6), .mov, [.t 0], none⟩,
  ⟨(some 7), .nilc, [.t 6], none⟩,
  ⟨(some 8), .faddr 33 1 false, [.t 7], none⟩,
  ⟨(some 9), .load false 1, [.t 8], none⟩,
  ⟨(some 10), .call fn_tree_Root, [.t 9], none⟩,
  ⟨(some 11), .mov, [.t 0], none⟩,
  ⟨(some 12), .nilc, [.t 11], none⟩,
  ⟨(some 13), .faddr 32 1 false, [.t 12], none⟩,
  ⟨(some 14), .load false 1, [.t 13], none⟩,
  ⟨(some 15), .build [.arr 1 (rep 32 (.v (.int .u8 0))), .v (.int .i64 0)] [0, 1], [.t 10, .t 14], none⟩,
  ⟨none, .store true 33, [.t 2, .t 15], none⟩]
def c_keys_Tree_Key_r3 : List COper := a_keys_Tree_Key_r3
instance : Reg c_keys_Tree_Key_r3 a_keys_Tree_Key_r3 11 := ⟨rfl, rfl⟩
@[simp] def c_keys_Tree_Key : CCode :=
  .seq (.region c_keys_Tree_Key_r0 none [0, 2]) (.seq (.seq (.region c_keys_Tree_Key_r1 none [0, 2, 4]) (.cond (.t 4) (.seq (.region c_keys_Tree_Key_r2 none [2]) (.ret)) (.skip))) (.seq (.region c_keys_Tree_Key_r3 (some ([0, 1, 3, 7, 15, 0, 32, 96, 224, 511, 1023], [(4, 8)])) [2]) (.ret)))
@[simp] def R_keys_Tree_Key : List CRes := [.cell 2 true 33]
theorem k_keys_Tree_Key : chkFn Tryd.prog fn_keys_Tree_Key c_keys_Tree_Key R_keys_Tree_Key 1 = true := by kernel_rfl
/-! wapentake/keys.New -/
@[simp] def a_keys_New_r0 : List COper := [
  ⟨(some 2), .box, [.t 0], none⟩,
  ⟨(some 4), .mov, [.c (.pointer none)], none⟩,
  ⟨(some 5), .mov, [.c (.int .i64 0)], none⟩]
def c_keys_New_r0 : List COper := a_keys_New_r0
instance : Reg c_keys_New_r0 a_keys_New_r0 3 := ⟨rfl, rfl⟩
@[simp] def a_keys_New_r1 : List COper := [
  ⟨(some 8), .mov, [.t 1], none⟩,
  ⟨(some 9), .bin .lss, [.t 8, .c (.int .i64 0)], none⟩,
  ⟨(some 10), .mov, [.t 9], none⟩,
  ⟨(some 11), .mov, [.t 1], (some (10, false))⟩,
  ⟨(some 12), .bin .gtr, [.t 11, .c (.int .i64 6)], (some (10, false))⟩,
  ⟨(some 13), .pick, [.t 10, .c (.bool true), .t 12], none⟩]
def c_keys_New_r1 : List COper := a_keys_New_r1
instance : Reg c_keys_New_r1 a_keys_New_r1 6 := ⟨rfl, rfl⟩
@[simp] def a_keys_New_r2 : List COper := [
  ⟨(some 4), .mov, [.c (.pointer none)], none⟩,
  ⟨(some 5), .mov, [.c (.int .i64 1)], none⟩]
def c_keys_New_r2 : List COper := a_keys_New_r2
instance : Reg c_keys_New_r2 a_keys_New_r2 2 := ⟨rfl, rfl⟩
@[simp] def a_keys_New_r3 : List COper := [
  ⟨(some 14), .load true 32, [.t 2], none⟩,
  ⟨(some 15), .mov, [.t 1], none⟩,
  ⟨(some 16), .build [.arr 1 (rep 32 (.v (.int .u8 0))), .v (.int .i64 0), .v (.slice none 0 0)] [0, 1], [.t 14, .t 15], none⟩,
  ⟨(some 17), .box, [.t 16], none⟩,
  ⟨(some 6), .mov, [.t 17], none⟩]
def c_keys_New_r3 : List COper := a_keys_New_r3
instance : Reg c_keys_New_r3 a_keys_New_r3 5 := ⟨rfl, rfl⟩
@[simp] def a_keys_New_r4 : List COper := [
  ⟨(some 18), .mov, [.t 1], none⟩,
  ⟨(some 19), .bin .shl, [.c (.int .i64 1), .t 18], none⟩,
  ⟨(some 20), .mov, [.c (.int .i64 0)], none⟩]
def c_keys_New_r4 : List COper := a_keys_New_r4
instance : Reg c_keys_New_r4 a_keys_New_r4 3 := ⟨rfl, rfl⟩
@[simp] def a_keys_New_r5 : List COper := [
  ⟨(some 21), .bin .lss, [.t 20, .t 19], none⟩]
def c_keys_New_r5 : List COper := a_keys_New_r5
instance : Reg c_keys_New_r5 a_keys_New_r5 1 := ⟨rfl, rfl⟩
@[simp] def a_keys_New_r6 : List COper := [
  ⟨(some 22), .mov, [.t 20], none⟩,
  ⟨(some 7), .mov, [.t 22], none⟩]
def c_keys_New_r6 : List COper := a_keys_New_r6
instance : Reg c_keys_New_r6 a_keys_New_r6 2 := ⟨rfl, rfl⟩
@[simp] def a_keys_New_r7 : List COper := [
  ⟨(some 23), .mov, [.t 6], none⟩,
  ⟨(some 24), .mov, [.t 6], none⟩,
  ⟨(some 25), .nilc, [.t 24], none⟩,
  ⟨(some 26), .faddr 33 1 false, [.t 25], none⟩,
  ⟨(some 27), .load false 1, [.t 26], none⟩,
  ⟨(some 28), .load true 32, [.t 2], none⟩,
  ⟨(some 29), .mov, [.t 7], none⟩,
  ⟨(some 30), .call fn_once_Public, [.t 28, .t 29], none⟩,
  ⟨(some 31), .call fn_keys_leaf, [.t 30], none⟩,
  ⟨(some 32), .bslice 32 1 (.arr 1 (rep 32 (.v (.int .u8 0)))) [0], [.t 31], none⟩,
  ⟨(some 33), .app 32 32, [.t 27, .t 32], none⟩,
  ⟨(some 34), .nilc, [.t 23], none⟩,
  ⟨(some 35), .faddr 33 1 false, [.t 34], none⟩,
  ⟨none, .store false 1, [.t 35, .t 33], none⟩]
def c_keys_New_r7 : List COper := a_keys_New_r7
instance : Reg c_keys_New_r7 a_keys_New_r7 14 := ⟨rfl, rfl⟩
@[simp] def a_keys_New_r8 : List COper := [
  ⟨(some 36), .bin .add, [.t 20, .c (.int .i64 1)], none⟩,
  ⟨(some 20), .mov, [.t 36], none⟩]
def c_keys_New_r8 : List COper := a_keys_New_r8
instance : Reg c_keys_New_r8 a_keys_New_r8 2 := ⟨rfl, rfl⟩
@[simp] def a_keys_New_r9 : List COper := [
  ⟨(some 37), .mov, [.t 6], none⟩,
  ⟨(some 4), .mov, [.t 37], none⟩,
  ⟨(some 5), .mov, [.c (.int .i64 0)], none⟩]
def c_keys_New_r9 : List COper := a_keys_New_r9
instance : Reg c_keys_New_r9 a_keys_New_r9 3 := ⟨rfl, rfl⟩
@[simp] def c_keys_New : CCode :=
  .seq (.region c_keys_New_r0 none [1, 2]) (.seq (.seq (.region c_keys_New_r1 none [1, 2, 13]) (.cond (.t 13) (.seq (.region c_keys_New_r2 none [4, 5]) (.ret)) (.skip))) (.seq (.region c_keys_New_r3 none [1, 2, 6]) (.seq (.seq (.region c_keys_New_r4 none [2, 6, 19, 20]) (.block 0 (.loop (.seq (.region c_keys_New_r5 none [2, 6, 19, 20, 21]) (.seq (.cond (.t 21) (.skip) (.exit 0)) (.seq (.block 1 (.seq (.region c_keys_New_r6 none [2, 6, 7, 19, 20]) (.region c_keys_New_r7 (some ([0, 0, 2, 6, 14, 0, 0, 96, 224, 480, 1022, 2047, 4095, 8191], [(4, 7), (4, 8), (4, 9)])) [2, 6, 19, 20]))) (.region c_keys_New_r8 none [2, 6, 19, 20]))))))) (.seq (.region c_keys_New_r9 none [4, 5]) (.ret)))))
@[simp] def R_keys_New : List CRes := [.tmp 4, .tmp 5]
theorem k_keys_New : chkFn Tryd.prog fn_keys_New c_keys_New R_keys_New 2 = true := by kernel_rfl
/-! wapentake/wapentakeref05.Leaves -/
@[simp] def a_r05_Leaves_r0 : List COper := [
  ⟨(some 2), .box, [.t 0], none⟩,
  ⟨(some 4), .mov, [.c (.slice none 0 0)], none⟩]
def c_r05_Leaves_r0 : List COper := a_r05_Leaves_r0
instance : Reg c_r05_Leaves_r0 a_r05_Leaves_r0 2 := ⟨rfl, rfl⟩
@[simp] def a_r05_Leaves_r1 : List COper := [
  ⟨(some 5), .mov, [.c (.slice none 0 0)], none⟩]
def c_r05_Leaves_r1 : List COper := a_r05_Leaves_r1
instance : Reg c_r05_Leaves_r1 a_r05_Leaves_r1 1 := ⟨rfl, rfl⟩
@[simp] def a_r05_Leaves_r2 : List COper := [
  ⟨(some 6), .mov, [.c (.int .i64 1)], none⟩]
def c_r05_Leaves_r2 : List COper := a_r05_Leaves_r2
instance : Reg c_r05_Leaves_r2 a_r05_Leaves_r2 1 := ⟨rfl, rfl⟩
@[simp] def a_r05_Leaves_r3 : List COper := [
  ⟨(some 7), .mov, [.c (.int .i64 0)], none⟩]
def c_r05_Leaves_r3 : List COper := a_r05_Leaves_r3
instance : Reg c_r05_Leaves_r3 a_r05_Leaves_r3 1 := ⟨rfl, rfl⟩
@[simp] def a_r05_Leaves_r4 : List COper := [
  ⟨(some 9), .mov, [.t 7], none⟩,
  ⟨(some 10), .mov, [.t 1], none⟩,
  ⟨(some 11), .bin .lss, [.t 9, .t 10], none⟩]
def c_r05_Leaves_r4 : List COper := a_r05_Leaves_r4
instance : Reg c_r05_Leaves_r4 a_r05_Leaves_r4 3 := ⟨rfl, rfl⟩
@[simp] def a_r05_Leaves_r6 : List COper := [
  ⟨(some 14), .mov, [.t 6], none⟩,
  ⟨(some 15), .bin .mul, [.c (.int .i64 2), .t 14], none⟩,
  ⟨(some 6), .mov, [.t 15], none⟩]
def c_r05_Leaves_r6 : List COper := a_r05_Leaves_r6
instance : Reg c_r05_Leaves_r6 a_r05_Leaves_r6 3 := ⟨rfl, rfl⟩
@[simp] def a_r05_Leaves_r5 : List COper := [
  ⟨(some 12), .mov, [.t 7], none⟩,
  ⟨(some 13), .bin .add, [.t 12, .c (.int .i64 1)], none⟩,
  ⟨(some 7), .mov, [.t 13], none⟩]
def c_r05_Leaves_r5 : List COper := a_r05_Leaves_r5
instance : Reg c_r05_Leaves_r5 a_r05_Leaves_r5 3 := ⟨rfl, rfl⟩
@[simp] def a_r05_Leaves_r7 : List COper := [
  ⟨(some 8), .mov, [.c (.int .i64 0)], none⟩]
def c_r05_Leaves_r7 : List COper := a_r05_Leaves_r7
instance : Reg c_r05_Leaves_r7 a_r05_Leaves_r7 1 := ⟨rfl, rfl⟩
@[simp] def a_r05_Leaves_r8 : List COper := [
  ⟨(some 16), .mov, [.t 8], none⟩,
  ⟨(some 17), .mov, [.t 6], none⟩,
  ⟨(some 18), .bin .lss, [.t 16, .t 17], none⟩]
def c_r05_Leaves_r8 : List COper := a_r05_Leaves_r8
instance : Reg c_r05_Leaves_r8 a_r05_Leaves_r8 3 := ⟨rfl, rfl⟩
@[simp] def a_r05_Leaves_r10 : List COper := [
  ⟨(some 21), .mov, [.t 5], none⟩,
  ⟨(some 22), .load true 32, [.t 2], none⟩,
  ⟨(some 23), .mov, [.t 8], none⟩,
  ⟨(some 24), .call fn_r04_Public, [.t 22, .t 23], none⟩,
  ⟨(some 25), .call fn_r01_Digest, [.t 24], none⟩,
  ⟨(some 26), .call fn_r03_Leaf, [.t 25], none⟩,
  ⟨(some 27), .bslice 32 1 (.arr 1 (rep 32 (.v (.int .u8 0)))) [0], [.t 26], none⟩,
  ⟨(some 28), .app 32 32, [.t 21, .t 27], none⟩,
  ⟨(some 5), .mov, [.t 28], none⟩]
def c_r05_Leaves_r10 : List COper := a_r05_Leaves_r10
instance : Reg c_r05_Leaves_r10 a_r05_Leaves_r10 9 := ⟨rfl, rfl⟩
@[simp] def a_r05_Leaves_r9 : List COper := [
  ⟨(some 19), .mov, [.t 8], none⟩,
  ⟨(some 20), .bin .add, [.t 19, .c (.int .i64 1)], none⟩,
  ⟨(some 8), .mov, [.t 20], none⟩]
def c_r05_Leaves_r9 : List COper := a_r05_Leaves_r9
instance : Reg c_r05_Leaves_r9 a_r05_Leaves_r9 3 := ⟨rfl, rfl⟩
@[simp] def a_r05_Leaves_r11 : List COper := [
  ⟨(some 29), .mov, [.t 5], none⟩,
  ⟨(some 4), .mov, [.t 29], none⟩]
def c_r05_Leaves_r11 : List COper := a_r05_Leaves_r11
instance : Reg c_r05_Leaves_r11 a_r05_Leaves_r11 2 := ⟨rfl, rfl⟩
@[simp] def c_r05_Leaves : CCode :=
  .seq (.region c_r05_Leaves_r0 none [1, 2]) (.seq (.region c_r05_Leaves_r1 none [1, 2, 5]) (.seq (.region c_r05_Leaves_r2 none [1, 2, 5, 6]) (.seq (.seq (.region c_r05_Leaves_r3 none [1, 2, 5, 6, 7]) (.block 0 (.loop (.seq (.seq (.region c_r05_Leaves_r4 none [1, 2, 5, 6, 7, 11]) (.cond (.t 11) (.skip) (.exit 0))) (.seq (.block 1 (.region c_r05_Leaves_r6 none [1, 2, 5, 6, 7])) (.region c_r05_Leaves_r5 none [1, 2, 5, 6, 7])))))) (.seq (.seq (.region c_r05_Leaves_r7 none [2, 5, 6, 8]) (.block 2 (.loop (.seq (.seq (.region c_r05_Leaves_r8 none [2, 5, 6, 8, 18]) (.cond (.t 18) (.skip) (.exit 2))) (.seq (.block 3 (.region c_r05_Leaves_r10 none [2, 5, 6, 8])) (.region c_r05_Leaves_r9 none [2, 5, 6, 8])))))) (.seq (.region c_r05_Leaves_r11 none [4]) (.ret))))))
@[simp] def R_r05_Leaves : List CRes := [.tmp 4]
theorem k_r05_Leaves : chkFn Tryd.prog fn_r05_Leaves c_r05_Leaves R_r05_Leaves 2 = true := by kernel_rfl
/-! wapentake/wapentakeref05.Key -/
@[simp] def a_r05_Key_r0 : List COper := [
  ⟨(some 2), .box, [.t 0], none⟩,
  ⟨(some 4), .alloc (.node [.arr 1 (rep 32 (.v (.int .u8 0))), .v (.int .i64 0)]), [], none⟩]
def c_r05_Key_r0 : List COper := a_r05_Key_r0
instance : Reg c_r05_Key_r0 a_r05_Key_r0 2 := ⟨rfl, rfl⟩
@[simp] def a_r05_Key_r1 : List COper := [
  ⟨(some 5), .load true 32, [.t 2], none⟩,
  ⟨(some 6), .mov, [.t 1], none⟩,
  ⟨(some 7), .call fn_r05_Leaves, [.t 5, .t 6], none⟩,
  ⟨(some 8), .call fn_r03_Root, [.t 7], none⟩,
  ⟨(some 9), .mov, [.t 1], none⟩,
  ⟨(some 10), .build [.arr 1 (rep 32 (.v (.int .u8 0))), .v (.int .i64 0)] [0, 1], [.t 8, .t 9], none⟩,
  ⟨none, .store true 33, [.t 4, .t 10], none⟩]
def c_r05_Key_r1 : List COper := a_r05_Key_r1
instance : Reg c_r05_Key_r1 a_r05_Key_r1 7 := ⟨rfl, rfl⟩
@[simp] def c_r05_Key : CCode :=
  .seq (.region c_r05_Key_r0 none [1, 2, 4]) (.seq (.region c_r05_Key_r1 none [4]) (.ret))
@[simp] def R_r05_Key : List CRes := [.cell 4 true 33]
theorem k_r05_Key : chkFn Tryd.prog fn_r05_Key c_r05_Key R_r05_Key 2 = true := by kernel_rfl
/-! wapentake/wapentakeref05.Same -/
@[simp] def a_r05_Same_r0 : List COper := [
  ⟨(some 2), .box, [.t 0], none⟩,
  ⟨(some 3), .box, [.t 1], none⟩,
  ⟨(some 4), .mov, [.c (.bool false)], none⟩]
def c_r05_Same_r0 : List COper := a_r05_Same_r0
instance : Reg c_r05_Same_r0 a_r05_Same_r0 3 := ⟨rfl, rfl⟩
@[simp] def a_r05_Same_r1 : List COper := [
  ⟨(some 5), .faddr 0 1 false, [.t 2], none⟩,
  ⟨(some 6), .load false 1, [.t 5], none⟩,
  ⟨(some 7), .faddr 0 1 false, [.t 3], none⟩,
  ⟨(some 8), .load false 1, [.t 7], none⟩,
  ⟨(some 9), .bin .eql, [.t 6, .t 8], none⟩,
  ⟨(some 10), .mov, [.t 9], none⟩,
  ⟨(some 11), .faddr 1 2 true, [.t 2], (some (10, true))⟩,
  ⟨(some 12), .load true 2, [.t 11], (some (10, true))⟩,
  ⟨(some 13), .faddr 1 2 true, [.t 3], (some (10, true))⟩,
  ⟨(some 14), .load true 2, [.t 13], (some (10, true))⟩,
  ⟨(some 15), .call fn_r04_Same, [.t 12, .t 14], (some (10, true))⟩,
  ⟨(some 16), .pick, [.t 10, .t 15, .c (.bool false)], none⟩,
  ⟨(some 17), .mov, [.t 16], none⟩,
  ⟨(some 18), .faddr 3 1 false, [.t 2], (some (17, true))⟩,
  ⟨(some 19), .load false 1, [.t 18], (some (17, true))⟩,
  ⟨(some 20), .faddr 3 1 false, [.t 3], (some (17, true))⟩,
  ⟨(some 21), .load false 1, [.t 20], (some (17, true))⟩,
  ⟨(some 22), .call fn_r03_Same, [.t 19, .t 21], (some (17, true))⟩,
  ⟨(some 23), .pick, [.t 17, .t 22, .c (.bool false)], none⟩,
  ⟨(some 4), .mov, [.t 23], none⟩]
def c_r05_Same_r1 : List COper := a_r05_Same_r1
instance : Reg c_r05_Same_r1 a_r05_Same_r1 20 := ⟨rfl, rfl⟩
@[simp] def c_r05_Same : CCode :=
  .seq (.region c_r05_Same_r0 none [2, 3]) (.seq (.region c_r05_Same_r1 none [4]) (.ret))
@[simp] def R_r05_Same : List CRes := [.tmp 4]
theorem k_r05_Same : chkFn Tryd.prog fn_r05_Same c_r05_Same R_r05_Same 2 = true := by kernel_rfl
/-! wapentake/wapentakeref05.Sign -/
@[simp] def a_r05_Sign_r0 : List COper := [
  ⟨(some 4), .box, [.t 0], none⟩,
  ⟨(some 7), .box, [.t 3], none⟩,
  ⟨(some 8), .alloc (.node [.v (.int .i64 0), .node [.v (.slice none 0 0), .v (.slice none 0 0)], .v (.slice none 0 0)]), [], none⟩]
def c_r05_Sign_r0 : List COper := a_r05_Sign_r0
instance : Reg c_r05_Sign_r0 a_r05_Sign_r0 3 := ⟨rfl, rfl⟩
@[simp] def a_r05_Sign_r1 : List COper := [
  ⟨(some 9), .mov, [.t 2], none⟩,
  ⟨(some 10), .load true 32, [.t 4], none⟩,
  ⟨(some 11), .mov, [.t 2], none⟩,
  ⟨(some 12), .load true 32, [.t 7], none⟩,
  ⟨(some 13), .call fn_r04_Sign, [.t 10, .t 11, .t 12], none⟩,
  ⟨(some 14), .mov, [.t 1], none⟩,
  ⟨(some 15), .mov, [.t 2], none⟩,
  ⟨(some 16), .call fn_r03_Path, [.t 14, .t 15], none⟩,
  ⟨(some 17), .build [.v (.int .i64 0), .node [.v (.slice none 0 0), .v (.slice none 0 0)], .v (.slice none 0 0)] [0, 1, 2], [.t 9, .t 13, .t 16], none⟩,
  ⟨none, .store true 4, [.t 8, .t 17], none⟩]
def c_r05_Sign_r1 : List COper := a_r05_Sign_r1
instance : Reg c_r05_Sign_r1 a_r05_Sign_r1 10 := ⟨rfl, rfl⟩
@[simp] def c_r05_Sign : CCode :=
  .seq (.region c_r05_Sign_r0 none [1, 2, 4, 7, 8]) (.seq (.region c_r05_Sign_r1 none [8]) (.ret))
@[simp] def R_r05_Sign : List CRes := [.cell 8 true 4]
theorem k_r05_Sign : chkFn Tryd.prog fn_r05_Sign c_r05_Sign R_r05_Sign 4 = true := by kernel_rfl
/-! wapentake/wapentakelaw05.great -/
@[simp] def a_l05_great_r0 : List COper := [
  ⟨(some 1), .box, [.t 0], none⟩,
  ⟨(some 2), .mov, [.c (.bool false)], none⟩]
def c_l05_great_r0 : List COper := a_l05_great_r0
instance : Reg c_l05_great_r0 a_l05_great_r0 2 := ⟨rfl, rfl⟩
@[simp] def a_l05_great_r1 : List COper := [
  ⟨(some 3), .faddr 1 2 true, [.t 1], none⟩,
  ⟨(some 4), .faddr 0 1 false, [.t 3], none⟩,
  ⟨(some 5), .load false 1, [.t 4], none⟩,
  ⟨(some 6), .len, [.t 5], none⟩,
  ⟨(some 7), .bin .gtr, [.t 6, .c (.int .i64 200)], none⟩,
  ⟨(some 8), .mov, [.t 7], none⟩,
  ⟨(some 9), .faddr 1 2 true, [.t 1], (some (8, false))⟩,
  ⟨(some 10), .faddr 1 1 false, [.t 9], (some (8, false))⟩,
  ⟨(some 11), .load false 1, [.t 10], (some (8, false))⟩,
  ⟨(some 12), .len, [.t 11], (some (8, false))⟩,
  ⟨(some 13), .bin .gtr, [.t 12, .c (.int .i64 200)], (some (8, false))⟩,
  ⟨(some 14), .pick, [.t 8, .c (.bool true), .t 13], none⟩,
  ⟨(some 15), .mov, [.t 14], none⟩,
  ⟨(some 16), .faddr 3 1 false, [.t 1], (some (15, false))⟩,
  ⟨(some 17), .load false 1, [.t 16], (some (15, false))⟩,
  ⟨(some 18), .len, [.t 17], (some (15, false))⟩,
  ⟨(some 19), .bin .gtr, [.t 18, .c (.int .i64 200)], (some (15, false))⟩,
  ⟨(some 20), .pick, [.t 15, .c (.bool true), .t 19], none⟩,
  ⟨(some 2), .mov, [.t 20], none⟩]
def c_l05_great_r1 : List COper := a_l05_great_r1
instance : Reg c_l05_great_r1 a_l05_great_r1 19 := ⟨rfl, rfl⟩
@[simp] def c_l05_great : CCode :=
  .seq (.region c_l05_great_r0 none [1]) (.seq (.region c_l05_great_r1 none [2]) (.ret))
@[simp] def R_l05_great : List CRes := [.tmp 2]
theorem k_l05_great : chkFn Tryd.prog fn_l05_great c_l05_great R_l05_great 1 = true := by kernel_rfl
/-! wapentake/keys.Check -/
@[simp] def a_keys_Check_r0 : List COper := [
  ⟨(some 3), .box, [.t 0], none⟩,
  ⟨(some 4), .box, [.t 1], none⟩,
  ⟨(some 5), .box, [.t 2], none⟩,
  ⟨(some 6), .mov, [.c (.bool false)], none⟩]
def c_keys_Check_r0 : List COper := a_keys_Check_r0
instance : Reg c_keys_Check_r0 a_keys_Check_r0 4 := ⟨rfl, rfl⟩
@[simp] def a_keys_Check_r1 : List COper := [
  ⟨(some 10), .load true 32, [.t 4], none⟩,
  ⟨(some 11), .faddr 1 2 true, [.t 5], none⟩,
  ⟨(some 12), .load true 2, [.t 11], none⟩,
  ⟨(some 13), .call fn_once_Of, [.t 10, .t 12], none⟩,
  ⟨(some 9), .mov, [.t 13], none⟩,
  ⟨(some 14), .ext 0, [.t 9], none⟩,
  ⟨(some 15), .ext 1, [.t 9], none⟩,
  ⟨(some 7), .alloc (.arr 1 (rep 32 (.v (.int .u8 0)))), [], none⟩,
  ⟨none, .store true 32, [.t 7, .t 14], none⟩,
  ⟨(some 8), .mov, [.t 15], none⟩]
def c_keys_Check_r1 : List COper := a_keys_Check_r1
instance : Reg c_keys_Check_r1 a_keys_Check_r1 10 := ⟨rfl, rfl⟩
@[simp] def a_keys_Check_r2 : List COper := [
  ⟨(some 16), .mov, [.t 8], none⟩,
  ⟨(some 17), .mov, [.t 16], none⟩,
  ⟨(some 18), .faddr 32 1 false, [.t 3], (some (17, true))⟩,
  ⟨(some 19), .load false 1, [.t 18], (some (17, true))⟩,
  ⟨(some 20), .bin .geq, [.t 19, .c (.int .i64 0)], (some (17, true))⟩,
  ⟨(some 21), .pick, [.t 17, .t 20, .c (.bool false)], none⟩,
  ⟨(some 22), .mov, [.t 21], none⟩,
  ⟨(some 23), .faddr 32 1 false, [.t 3], (some (22, true))⟩,
  ⟨(some 24), .load false 1, [.t 23], (some (22, true))⟩,
  ⟨(some 25), .bin .leq, [.t 24, .c (.int .i64 6)], (some (22, true))⟩,
  ⟨(some 26), .pick, [.t 22, .t 25, .c (.bool false)], none⟩,
  ⟨(some 27), .mov, [.t 26], none⟩,
  ⟨(some 28), .faddr 0 32 true, [.t 3], (some (27, true))⟩,
  ⟨(some 29), .load true 32, [.t 28], (some (27, true))⟩,
  ⟨(some 30), .load true 32, [.t 7], (some (27, true))⟩,
  ⟨(some 31), .call fn_keys_leaf, [.t 30], (some (27, true))⟩,
  ⟨(some 32), .faddr 0 1 false, [.t 5], (some (27, true))⟩,
  ⟨(some 33), .load false 1, [.t 32], (some (27, true))⟩,
  ⟨(some 34), .faddr 32 1 false, [.t 3], (some (27, true))⟩,
  ⟨(some 35), .load false 1, [.t 34], (some (27, true))⟩,
  ⟨(some 36), .bin .shl, [.c (.int .i64 1), .t 35], (some (27, true))⟩,
  ⟨(some 37), .faddr 3 1 false, [.t 5], (some (27, true))⟩,
  ⟨(some 38), .load false 1, [.t 37], (some (27, true))⟩,
  ⟨(some 39), .call fn_tree_Check, [.t 29, .t 31, .t 33, .t 36, .t 38], (some (27, true))⟩,
  ⟨(some 40), .pick, [.t 27, .t 39, .c (.bool false)], none⟩,
  ⟨(some 6), .mov, [.t 40], none⟩]
def c_keys_Check_r2 : List COper := a_keys_Check_r2
instance : Reg c_keys_Check_r2 a_keys_Check_r2 26 := ⟨rfl, rfl⟩
@[simp] def c_keys_Check : CCode :=
  .seq (.region c_keys_Check_r0 none [3, 4, 5]) (.seq (.region c_keys_Check_r1 none [3, 5, 7, 8]) (.seq (.region c_keys_Check_r2 (some ([0, 1, 3, 7, 15, 31, 63, 127, 255, 511, 1023, 2047, 4095, 8191, 4095, 20479, 4095, 69631, 4095, 266239, 790527, 4095, 2101247, 8388607, 16777215, 33554431], [(13, 15), (15, 17), (15, 19), (15, 22)])) [6]) (.ret)))
@[simp] def R_keys_Check : List CRes := [.tmp 6]
theorem k_keys_Check : chkFn Tryd.prog fn_keys_Check c_keys_Check R_keys_Check 3 = true := by kernel_rfl
/-! wapentake/wapentakeref05.Check -/
@[simp] def a_r05_Check_r0 : List COper := [
  ⟨(some 3), .box, [.t 0], none⟩,
  ⟨(some 4), .box, [.t 1], none⟩,
  ⟨(some 5), .box, [.t 2], none⟩,
  ⟨(some 6), .mov, [.c (.bool false)], none⟩]
def c_r05_Check_r0 : List COper := a_r05_Check_r0
instance : Reg c_r05_Check_r0 a_r05_Check_r0 4 := ⟨rfl, rfl⟩
@[simp] def a_r05_Check_r1 : List COper := [
  ⟨(some 11), .load true 32, [.t 4], none⟩,
  ⟨(some 12), .faddr 1 2 true, [.t 5], none⟩,
  ⟨(some 13), .load true 2, [.t 12], none⟩,
  ⟨(some 14), .call fn_r04_Of, [.t 11, .t 13], none⟩,
  ⟨(some 10), .mov, [.t 14], none⟩,
  ⟨(some 15), .ext 0, [.t 10], none⟩,
  ⟨(some 16), .ext 1, [.t 10], none⟩,
  ⟨(some 7), .alloc (.arr 1 (rep 32 (.v (.int .u8 0)))), [], none⟩,
  ⟨none, .store true 32, [.t 7, .t 15], none⟩,
  ⟨(some 8), .mov, [.t 16], none⟩]
def c_r05_Check_r1 : List COper := a_r05_Check_r1
instance : Reg c_r05_Check_r1 a_r05_Check_r1 10 := ⟨rfl, rfl⟩
@[simp] def a_r05_Check_r2 : List COper := [
  ⟨(some 17), .mov, [.t 8], none⟩,
  ⟨(some 18), .not, [.t 17], none⟩,
  ⟨(some 19), .mov, [.t 18], none⟩,
  ⟨(some 20), .faddr 32 1 false, [.t 3], (some (19, false))⟩,
  ⟨(some 21), .load false 1, [.t 20], (some (19, false))⟩,
  ⟨(some 22), .bin .lss, [.t 21, .c (.int .i64 0)], (some (19, false))⟩,
  ⟨(some 23), .pick, [.t 19, .c (.bool true), .t 22], none⟩,
  ⟨(some 24), .mov, [.t 23], none⟩,
  ⟨(some 25), .faddr 32 1 false, [.t 3], (some (24, false))⟩,
  ⟨(some 26), .load false 1, [.t 25], (some (24, false))⟩,
  ⟨(some 27), .bin .gtr, [.t 26, .c (.int .i64 6)], (some (24, false))⟩,
  ⟨(some 28), .pick, [.t 24, .c (.bool true), .t 27], none⟩,
  ⟨(some 29), .mov, [.t 28], none⟩,
  ⟨(some 30), .faddr 0 1 false, [.t 5], (some (29, false))⟩,
  ⟨(some 31), .load false 1, [.t 30], (some (29, false))⟩,
  ⟨(some 32), .bin .lss, [.t 31, .c (.int .i64 0)], (some (29, false))⟩,
  ⟨(some 33), .pick, [.t 29, .c (.bool true), .t 32], none⟩]
def c_r05_Check_r2 : List COper := a_r05_Check_r2
instance : Reg c_r05_Check_r2 a_r05_Check_r2 17 := ⟨rfl, rfl⟩
@[simp] def a_r05_Check_r3 : List COper := [
  ⟨(some 6), .mov, [.c (.bool false)], none⟩]
def c_r05_Check_r3 : List COper := a_r05_Check_r3
instance : Reg c_r05_Check_r3 a_r05_Check_r3 1 := ⟨rfl, rfl⟩
@[simp] def a_r05_Check_r4 : List COper := [
  ⟨(some 34), .faddr 32 1 false, [.t 3], none⟩,
  ⟨(some 35), .load false 1, [.t 34], none⟩,
  ⟨(some 36), .convI .u64, [.t 35], none⟩,
  ⟨(some 37), .bin .shl, [.c (.int .i64 1), .t 36], none⟩,
  ⟨(some 9), .mov, [.t 37], none⟩]
def c_r05_Check_r4 : List COper := a_r05_Check_r4
instance : Reg c_r05_Check_r4 a_r05_Check_r4 5 := ⟨rfl, rfl⟩
@[simp] def a_r05_Check_r5 : List COper := [
  ⟨(some 38), .faddr 0 1 false, [.t 5], none⟩,
  ⟨(some 39), .load false 1, [.t 38], none⟩,
  ⟨(some 40), .mov, [.t 9], none⟩,
  ⟨(some 41), .bin .geq, [.t 39, .t 40], none⟩]
def c_r05_Check_r5 : List COper := a_r05_Check_r5
instance : Reg c_r05_Check_r5 a_r05_Check_r5 4 := ⟨rfl, rfl⟩
@[simp] def a_r05_Check_r6 : List COper := [
  ⟨(some 6), .mov, [.c (.bool false)], none⟩]
def c_r05_Check_r6 : List COper := a_r05_Check_r6
instance : Reg c_r05_Check_r6 a_r05_Check_r6 1 := ⟨rfl, rfl⟩
@[simp] def a_r05_Check_r7 : List COper := [
  ⟨(some 42), .faddr 0 32 true, [.t 3], none⟩,
  ⟨(some 43), .load true 32, [.t 42], none⟩,
  ⟨(some 44), .load true 32, [.t 7], none⟩,
  ⟨(some 45), .call fn_r01_Digest, [.t 44], none⟩,
  ⟨(some 46), .call fn_r03_Leaf, [.t 45], none⟩,
  ⟨(some 47), .faddr 0 1 false, [.t 5], none⟩,
  ⟨(some 48), .load false 1, [.t 47], none⟩,
  ⟨(some 49), .mov, [.t 9], none⟩,
  ⟨(some 50), .faddr 3 1 false, [.t 5], none⟩,
  ⟨(some 51), .load false 1, [.t 50], none⟩,
  ⟨(some 52), .call fn_r03_Check, [.t 43, .t 46, .t 48, .t 49, .t 51], none⟩,
  ⟨(some 6), .mov, [.t 52], none⟩]
def c_r05_Check_r7 : List COper := a_r05_Check_r7
instance : Reg c_r05_Check_r7 a_r05_Check_r7 12 := ⟨rfl, rfl⟩
@[simp] def c_r05_Check : CCode :=
  .seq (.region c_r05_Check_r0 none [3, 4, 5]) (.seq (.region c_r05_Check_r1 none [3, 5, 7, 8]) (.seq (.seq (.region c_r05_Check_r2 none [3, 5, 7, 33]) (.cond (.t 33) (.seq (.region c_r05_Check_r3 none [6]) (.ret)) (.skip))) (.seq (.region c_r05_Check_r4 none [3, 5, 7, 9]) (.seq (.seq (.region c_r05_Check_r5 none [3, 5, 7, 9, 41]) (.cond (.t 41) (.seq (.region c_r05_Check_r6 none [6]) (.ret)) (.skip))) (.seq (.region c_r05_Check_r7 (some ([0, 1, 0, 4, 12, 0, 32, 0, 0, 256, 1023, 2047], [(1, 3), (1, 4), (3, 6), (4, 6), (3, 9), (4, 9)])) [6]) (.ret))))))
@[simp] def R_r05_Check : List CRes := [.tmp 6]
theorem k_r05_Check : chkFn Tryd.prog fn_r05_Check c_r05_Check R_r05_Check 3 = true := by kernel_rfl
/-! wapentake/keys.Write -/
@[simp] def a_keys_Write_r0 : List COper := [
  ⟨(some 3), .box, [.t 1], none⟩,
  ⟨(some 4), .mov, [.c (.bool false)], none⟩]
def c_keys_Write_r0 : List COper := a_keys_Write_r0
instance : Reg c_keys_Write_r0 a_keys_Write_r0 2 := ⟨rfl, rfl⟩
@[simp] def a_keys_Write_r1 : List COper := [
  ⟨(some 5), .faddr 1 2 true, [.t 3], none⟩,
  ⟨(some 6), .faddr 0 1 false, [.t 5], none⟩,
  ⟨(some 7), .load false 1, [.t 6], none⟩,
  ⟨(some 8), .len, [.t 7], none⟩,
  ⟨(some 9), .bin .neq, [.t 8, .c (.int .i64 32)], none⟩,
  ⟨(some 10), .mov, [.t 9], none⟩,
  ⟨(some 11), .faddr 1 2 true, [.t 3], (some (10, false))⟩,
  ⟨(some 12), .faddr 1 1 false, [.t 11], (some (10, false))⟩,
  ⟨(some 13), .load false 1, [.t 12], (some (10, false))⟩,
  ⟨(some 14), .len, [.t 13], (some (10, false))⟩,
  ⟨(some 15), .bin .neq, [.t 14, .c (.int .i64 32)], (some (10, false))⟩,
  ⟨(some 16), .pick, [.t 10, .c (.bool true), .t 15], none⟩,
  ⟨(some 17), .mov, [.t 16], none⟩,
  ⟨(some 18), .faddr 3 1 false, [.t 3], (some (17, false))⟩,
  ⟨(some 19), .load false 1, [.t 18], (some (17, false))⟩,
  ⟨(some 20), .len, [.t 19], (some (17, false))⟩,
  ⟨(some 21), .bin .gtr, [.t 20, .c (.int .i64 6)], (some (17, false))⟩,
  ⟨(some 22), .pick, [.t 17, .c (.bool true), .t 21], none⟩]
def c_keys_Write_r1 : List COper := a_keys_Write_r1
instance : Reg c_keys_Write_r1 a_keys_Write_r1 18 := ⟨rfl, rfl⟩
@[simp] def a_keys_Write_r2 : List COper := [
  ⟨(some 4), .mov, [.c (.bool false)], none⟩]
def c_keys_Write_r2 : List COper := a_keys_Write_r2
instance : Reg c_keys_Write_r2 a_keys_Write_r2 1 := ⟨rfl, rfl⟩
@[simp] def a_keys_Write_r3 : List COper := [
  ⟨(some 23), .mov, [.t 0], none⟩,
  ⟨(some 24), .faddr 0 1 false, [.t 3], none⟩,
  ⟨(some 25), .load false 1, [.t 24], none⟩,
  ⟨(some 26), .faddr 3 1 false, [.t 3], none⟩,
  ⟨(some 27), .load false 1, [.t 26], none⟩,
  ⟨(some 28), .len, [.t 27], none⟩,
  ⟨(some 29), .bslice 1 2 (.v (.int .i64 0)) [0, 1], [.t 25, .t 28], none⟩,
  ⟨(some 30), .call fn_code_Writer_Num, [.t 23, .t 29], none⟩]
def c_keys_Write_r3 : List COper := a_keys_Write_r3
instance : Reg c_keys_Write_r3 a_keys_Write_r3 8 := ⟨rfl, rfl⟩
@[simp] def a_keys_Write_r4 : List COper := [
  ⟨(some 31), .mov, [.t 0], none⟩,
  ⟨(some 32), .faddr 1 2 true, [.t 3], none⟩,
  ⟨(some 33), .faddr 0 1 false, [.t 32], none⟩,
  ⟨(some 34), .load false 1, [.t 33], none⟩,
  ⟨(some 35), .call fn_code_Writer_Digest, [.t 31, .t 34], none⟩]
def c_keys_Write_r4 : List COper := a_keys_Write_r4
instance : Reg c_keys_Write_r4 a_keys_Write_r4 5 := ⟨rfl, rfl⟩
@[simp] def a_keys_Write_r5 : List COper := [
  ⟨(some 36), .mov, [.t 0], none⟩,
  ⟨(some 37), .faddr 1 2 true, [.t 3], none⟩,
  ⟨(some 38), .faddr 1 1 false, [.t 37], none⟩,
  ⟨(some 39), .load false 1, [.t 38], none⟩,
  ⟨(some 40), .call fn_code_Writer_Digest, [.t 36, .t 39], none⟩]
def c_keys_Write_r5 : List COper := a_keys_Write_r5
instance : Reg c_keys_Write_r5 a_keys_Write_r5 5 := ⟨rfl, rfl⟩
@[simp] def a_keys_Write_r6 : List COper := [
  ⟨(some 41), .mov, [.t 0], none⟩,
  ⟨(some 42), .faddr 3 1 false, [.t 3], none⟩,
  ⟨(some 43), .load false 1, [.t 42], none⟩,
  ⟨(some 44), .call fn_code_Writer_Digest, [.t 41, .t 43], none⟩]
def c_keys_Write_r6 : List COper := a_keys_Write_r6
instance : Reg c_keys_Write_r6 a_keys_Write_r6 4 := ⟨rfl, rfl⟩
@[simp] def a_keys_Write_r7 : List COper := [
  ⟨(some 4), .mov, [.c (.bool true)], none⟩]
def c_keys_Write_r7 : List COper := a_keys_Write_r7
instance : Reg c_keys_Write_r7 a_keys_Write_r7 1 := ⟨rfl, rfl⟩
@[simp] def c_keys_Write : CCode :=
  .seq (.region c_keys_Write_r0 none [0, 3]) (.seq (.seq (.region c_keys_Write_r1 none [0, 3, 22]) (.cond (.t 22) (.seq (.region c_keys_Write_r2 none [4]) (.ret)) (.skip))) (.seq (.region c_keys_Write_r3 none [0, 3]) (.seq (.region c_keys_Write_r4 none [0, 3]) (.seq (.region c_keys_Write_r5 none [0, 3]) (.seq (.region c_keys_Write_r6 none []) (.seq (.region c_keys_Write_r7 none [4]) (.ret)))))))
@[simp] def R_keys_Write : List CRes := [.tmp 4]
theorem k_keys_Write : chkFn Tryd.prog fn_keys_Write c_keys_Write R_keys_Write 2 = true := by kernel_rfl
/-! wapentake/wapentakeref05.Write -/
@[simp] def a_r05_Write_r0 : List COper := [
  ⟨(some 1), .box, [.t 0], none⟩,
  ⟨(some 2), .mov, [.c (.string (mkS []))], none⟩,
  ⟨(some 3), .mov, [.c (.bool false)], none⟩]
def c_r05_Write_r0 : List COper := a_r05_Write_r0
instance : Reg c_r05_Write_r0 a_r05_Write_r0 3 := ⟨rfl, rfl⟩
@[simp] def a_r05_Write_r1 : List COper := [
  ⟨(some 9), .faddr 1 2 true, [.t 1], none⟩,
  ⟨(some 10), .faddr 0 1 false, [.t 9], none⟩,
  ⟨(some 11), .load false 1, [.t 10], none⟩,
  ⟨(some 12), .len, [.t 11], none⟩,
  ⟨(some 13), .bin .neq, [.t 12, .c (.int .i64 32)], none⟩,
  ⟨(some 14), .mov, [.t 13], none⟩,
  ⟨(some 15), .faddr 1 2 true, [.t 1], (some (14, false))⟩,
  ⟨(some 16), .faddr 1 1 false, [.t 15], (some (14, false))⟩,
  ⟨(some 17), .load false 1, [.t 16], (some (14, false))⟩,
  ⟨(some 18), .len, [.t 17], (some (14, false))⟩,
  ⟨(some 19), .bin .neq, [.t 18, .c (.int .i64 32)], (some (14, false))⟩,
  ⟨(some 20), .pick, [.t 14, .c (.bool true), .t 19], none⟩,
  ⟨(some 21), .mov, [.t 20], none⟩,
  ⟨(some 22), .faddr 3 1 false, [.t 1], (some (21, false))⟩,
  ⟨(some 23), .load false 1, [.t 22], (some (21, false))⟩,
  ⟨(some 24), .len, [.t 23], (some (21, false))⟩,
  ⟨(some 25), .bin .gtr, [.t 24, .c (.int .i64 6)], (some (21, false))⟩,
  ⟨(some 26), .pick, [.t 21, .c (.bool true), .t 25], none⟩]
def c_r05_Write_r1 : List COper := a_r05_Write_r1
instance : Reg c_r05_Write_r1 a_r05_Write_r1 18 := ⟨rfl, rfl⟩
@[simp] def a_r05_Write_r2 : List COper := [
  ⟨(some 2), .mov, [.c (.string (mkS []))], none⟩,
  ⟨(some 3), .mov, [.c (.bool false)], none⟩]
def c_r05_Write_r2 : List COper := a_r05_Write_r2
instance : Reg c_r05_Write_r2 a_r05_Write_r2 2 := ⟨rfl, rfl⟩
@[simp] def a_r05_Write_r3 : List COper := [
  ⟨(some 27), .faddr 0 1 false, [.t 1], none⟩,
  ⟨(some 28), .load false 1, [.t 27], none⟩,
  ⟨(some 29), .call fn_r01_Num, [.t 28], none⟩,
  ⟨(some 30), .faddr 3 1 false, [.t 1], none⟩,
  ⟨(some 31), .load false 1, [.t 30], none⟩,
  ⟨(some 32), .len, [.t 31], none⟩,
  ⟨(some 33), .call fn_r01_Num, [.t 32], none⟩,
  ⟨(some 34), .bin .add, [.t 29, .t 33], none⟩,
  ⟨(some 4), .mov, [.t 34], none⟩]
def c_r05_Write_r3 : List COper := a_r05_Write_r3
instance : Reg c_r05_Write_r3 a_r05_Write_r3 9 := ⟨rfl, rfl⟩
@[simp] def a_r05_Write_r4 : List COper := [
  ⟨(some 35), .faddr 1 2 true, [.t 1], none⟩,
  ⟨(some 36), .faddr 0 1 false, [.t 35], none⟩,
  ⟨(some 37), .load false 1, [.t 36], none⟩,
  ⟨(some 38), .faddr 1 2 true, [.t 1], none⟩,
  ⟨(some 39), .faddr 1 1 false, [.t 38], none⟩,
  ⟨(some 40), .load false 1, [.t 39], none⟩,
  ⟨(some 41), .faddr 3 1 false, [.t 1], none⟩,
  ⟨(some 42), .load false 1, [.t 41], none⟩,
  ⟨(some 43), .bslice 1 3 (.v (.slice none 0 0)) [0, 1, 2], [.t 37, .t 40, .t 42], none⟩,
  ⟨(some 44), .len, [.t 43], none⟩,
  ⟨(some 45), .mov, [.c (.int .i64 0)], none⟩]
def c_r05_Write_r4 : List COper := a_r05_Write_r4
instance : Reg c_r05_Write_r4 a_r05_Write_r4 11 := ⟨rfl, rfl⟩
@[simp] def a_r05_Write_r5 : List COper := [
  ⟨(some 46), .bin .lss, [.t 45, .t 44], none⟩]
def c_r05_Write_r5 : List COper := a_r05_Write_r5
instance : Reg c_r05_Write_r5 a_r05_Write_r5 1 := ⟨rfl, rfl⟩
@[simp] def a_r05_Write_r6 : List COper := [
  ⟨(some 47), .iaddr 1, [.t 43, .t 45], none⟩,
  ⟨(some 48), .load false 1, [.t 47], none⟩,
  ⟨(some 6), .mov, [.t 48], none⟩]
def c_r05_Write_r6 : List COper := a_r05_Write_r6
instance : Reg c_r05_Write_r6 a_r05_Write_r6 3 := ⟨rfl, rfl⟩
@[simp] def a_r05_Write_r7 : List COper := [
  ⟨(some 49), .mov, [.t 6], none⟩,
  ⟨(some 50), .len, [.t 49], none⟩,
  ⟨(some 51), .mov, [.c (.int .i64 0)], none⟩]
def c_r05_Write_r7 : List COper := a_r05_Write_r7
instance : Reg c_r05_Write_r7 a_r05_Write_r7 3 := ⟨rfl, rfl⟩
@[simp] def a_r05_Write_r8 : List COper := [
  ⟨(some 52), .bin .lss, [.t 51, .t 50], none⟩]
def c_r05_Write_r8 : List COper := a_r05_Write_r8
instance : Reg c_r05_Write_r8 a_r05_Write_r8 1 := ⟨rfl, rfl⟩
@[simp] def a_r05_Write_r9 : List COper := [
  ⟨(some 53), .iaddr 32, [.t 49, .t 51], none⟩,
  ⟨(some 54), .load true 32, [.t 53], none⟩,
  ⟨(some 8), .alloc (.arr 1 (rep 32 (.v (.int .u8 0)))), [], none⟩,
  ⟨none, .store true 32, [.t 8, .t 54], none⟩]
def c_r05_Write_r9 : List COper := a_r05_Write_r9
instance : Reg c_r05_Write_r9 a_r05_Write_r9 4 := ⟨rfl, rfl⟩
@[simp] def a_r05_Write_r10 : List COper := [
  ⟨(some 55), .mov, [.t 4], none⟩,
  ⟨(some 56), .load true 32, [.t 8], none⟩,
  ⟨(some 57), .call fn_r01_Digest, [.t 56], none⟩,
  ⟨(some 58), .bin .add, [.t 55, .t 57], none⟩,
  ⟨(some 4), .mov, [.t 58], none⟩]
def c_r05_Write_r10 : List COper := a_r05_Write_r10
instance : Reg c_r05_Write_r10 a_r05_Write_r10 5 := ⟨rfl, rfl⟩
@[simp] def a_r05_Write_r11 : List COper := [
  ⟨(some 59), .bin .add, [.t 51, .c (.int .i64 1)], none⟩,
  ⟨(some 51), .mov, [.t 59], none⟩]
def c_r05_Write_r11 : List COper := a_r05_Write_r11
instance : Reg c_r05_Write_r11 a_r05_Write_r11 2 := ⟨rfl, rfl⟩
@[simp] def a_r05_Write_r12 : List COper := [
  ⟨(some 60), .bin .add, [.t 45, .c (.int .i64 1)], none⟩,
  ⟨(some 45), .mov, [.t 60], none⟩]
def c_r05_Write_r12 : List COper := a_r05_Write_r12
instance : Reg c_r05_Write_r12 a_r05_Write_r12 2 := ⟨rfl, rfl⟩
@[simp] def a_r05_Write_r13 : List COper := [
  ⟨(some 61), .mov, [.t 4], none⟩,
  ⟨(some 2), .mov, [.t 61], none⟩,
  ⟨(some 3), .mov, [.c (.bool true)], none⟩]
def c_r05_Write_r13 : List COper := a_r05_Write_r13
instance : Reg c_r05_Write_r13 a_r05_Write_r13 3 := ⟨rfl, rfl⟩
@[simp] def c_r05_Write : CCode :=
  .seq (.region c_r05_Write_r0 none [1]) (.seq (.seq (.region c_r05_Write_r1 none [1, 26]) (.cond (.t 26) (.seq (.region c_r05_Write_r2 none [2, 3]) (.ret)) (.skip))) (.seq (.region c_r05_Write_r3 (some ([0, 1, 3, 0, 8, 24, 63, 127, 255], [(2, 4)])) [1, 4]) (.seq (.seq (.region c_r05_Write_r4 none [4, 43, 44, 45]) (.block 0 (.loop (.seq (.region c_r05_Write_r5 none [4, 43, 44, 45, 46]) (.seq (.cond (.t 46) (.skip) (.exit 0)) (.seq (.block 1 (.seq (.region c_r05_Write_r6 none [4, 6, 43, 44, 45]) (.seq (.region c_r05_Write_r7 none [4, 43, 44, 45, 49, 50, 51]) (.block 2 (.loop (.seq (.region c_r05_Write_r8 none [4, 43, 44, 45, 49, 50, 51, 52]) (.seq (.cond (.t 52) (.skip) (.exit 2)) (.seq (.block 3 (.seq (.region c_r05_Write_r9 none [4, 8, 43, 44, 45, 49, 50, 51]) (.region c_r05_Write_r10 none [4, 43, 44, 45, 49, 50, 51]))) (.region c_r05_Write_r11 none [4, 43, 44, 45, 49, 50, 51]))))))))) (.region c_r05_Write_r12 none [4, 43, 44, 45]))))))) (.seq (.region c_r05_Write_r13 none [2, 3]) (.ret)))))
@[simp] def R_r05_Write : List CRes := [.tmp 2, .tmp 3]
theorem k_r05_Write : chkFn Tryd.prog fn_r05_Write c_r05_Write R_r05_Write 1 = true := by kernel_rfl
/-! wapentake/code.Read -/
@[simp] def a_code_Read_r0 : List COper := [
  ⟨(some 2), .mov, [.c (.pointer none)], none⟩]
def c_code_Read_r0 : List COper := a_code_Read_r0
instance : Reg c_code_Read_r0 a_code_Read_r0 1 := ⟨rfl, rfl⟩
@[simp] def a_code_Read_r1 : List COper := [
  ⟨(some 3), .bslice 1 0 (.v (.int .u8 0)) [], [], none⟩,
  ⟨(some 4), .mov, [.t 0], none⟩,
  ⟨(some 5), .app 1 1, [.t 3, .t 4], none⟩,
  ⟨(some 6), .build [.v (.slice none 0 0), .v (.bool false)] [0], [.t 5], none⟩,
  ⟨(some 7), .box, [.t 6], none⟩,
  ⟨(some 2), .mov, [.t 7], none⟩]
def c_code_Read_r1 : List COper := a_code_Read_r1
instance : Reg c_code_Read_r1 a_code_Read_r1 6 := ⟨rfl, rfl⟩
@[simp] def c_code_Read : CCode :=
  .seq (.region c_code_Read_r0 none [0]) (.seq (.region c_code_Read_r1 none [2]) (.ret))
@[simp] def R_code_Read : List CRes := [.tmp 2]
theorem k_code_Read : chkFn Tryd.prog fn_code_Read c_code_Read R_code_Read 1 = true := by kernel_rfl
/-! wapentake/keys.Read -/
@[simp] def a_keys_Read_r0 : List COper := [
  ⟨(some 2), .alloc (.node [.v (.int .i64 0), .node [.v (.slice none 0 0), .v (.slice none 0 0)], .v (.slice none 0 0)]), [], none⟩]
def c_keys_Read_r0 : List COper := a_keys_Read_r0
instance : Reg c_keys_Read_r0 a_keys_Read_r0 1 := ⟨rfl, rfl⟩
@[simp] def a_keys_Read_r1 : List COper := [
  ⟨(some 5), .mov, [.t 0], none⟩,
  ⟨(some 6), .call fn_code_Reader_Num, [.t 5], none⟩,
  ⟨(some 7), .build [.v (.int .i64 0), .node [.v (.slice none 0 0), .v (.slice none 0 0)], .v (.slice none 0 0)] [0], [.t 6], none⟩,
  ⟨(some 3), .alloc (.node [.v (.int .i64 0), .node [.v (.slice none 0 0), .v (.slice none 0 0)], .v (.slice none 0 0)]), [], none⟩,
  ⟨none, .store true 4, [.t 3, .t 7], none⟩]
def c_keys_Read_r1 : List COper := a_keys_Read_r1
instance : Reg c_keys_Read_r1 a_keys_Read_r1 5 := ⟨rfl, rfl⟩
@[simp] def a_keys_Read_r2 : List COper := [
  ⟨(some 8), .mov, [.t 0], none⟩,
  ⟨(some 9), .call fn_code_Reader_In, [.t 8, .c (.int .i64 0), .c (.int .i64 6)], none⟩,
  ⟨(some 4), .mov, [.t 9], none⟩]
def c_keys_Read_r2 : List COper := a_keys_Read_r2
instance : Reg c_keys_Read_r2 a_keys_Read_r2 3 := ⟨rfl, rfl⟩
@[simp] def a_keys_Read_r3 : List COper := [
  ⟨(some 10), .mov, [.t 0], none⟩,
  ⟨(some 11), .call fn_code_Reader_Good, [.t 10], none⟩,
  ⟨(some 12), .not, [.t 11], none⟩]
def c_keys_Read_r3 : List COper := a_keys_Read_r3
instance : Reg c_keys_Read_r3 a_keys_Read_r3 3 := ⟨rfl, rfl⟩
@[simp] def a_keys_Read_r4 : List COper := [
  ⟨(some 13), .build [.v (.int .i64 0), .node [.v (.slice none 0 0), .v (.slice none 0 0)], .v (.slice none 0 0)] [], [], none⟩,
  ⟨none, .store true 4, [.t 2, .t 13], none⟩]
def c_keys_Read_r4 : List COper := a_keys_Read_r4
instance : Reg c_keys_Read_r4 a_keys_Read_r4 2 := ⟨rfl, rfl⟩
@[simp] def a_keys_Read_r5 : List COper := [
  ⟨(some 14), .mov, [.c (.int .i64 0)], none⟩]
def c_keys_Read_r5 : List COper := a_keys_Read_r5
instance : Reg c_keys_Read_r5 a_keys_Read_r5 1 := ⟨rfl, rfl⟩
@[simp] def a_keys_Read_r6 : List COper := [
  ⟨(some 15), .bin .lss, [.t 14, .c (.int .i64 32)], none⟩]
def c_keys_Read_r6 : List COper := a_keys_Read_r6
instance : Reg c_keys_Read_r6 a_keys_Read_r6 1 := ⟨rfl, rfl⟩
@[simp] def a_keys_Read_r7 : List COper := [
  ⟨(some 16), .faddr 1 2 true, [.t 3], none⟩,
  ⟨(some 17), .faddr 0 1 false, [.t 16], none⟩,
  ⟨(some 18), .load false 1, [.t 17], none⟩,
  ⟨(some 19), .mov, [.t 0], none⟩,
  ⟨(some 20), .call fn_code_Reader_Digest, [.t 19], none⟩,
  ⟨(some 21), .bslice 32 1 (.arr 1 (rep 32 (.v (.int .u8 0)))) [0], [.t 20], none⟩,
  ⟨(some 22), .app 32 32, [.t 18, .t 21], none⟩,
  ⟨(some 23), .faddr 1 2 true, [.t 3], none⟩,
  ⟨(some 24), .faddr 0 1 false, [.t 23], none⟩,
  ⟨none, .store false 1, [.t 24, .t 22], none⟩]
def c_keys_Read_r7 : List COper := a_keys_Read_r7
instance : Reg c_keys_Read_r7 a_keys_Read_r7 10 := ⟨rfl, rfl⟩
@[simp] def a_keys_Read_r8 : List COper := [
  ⟨(some 25), .bin .add, [.t 14, .c (.int .i64 1)], none⟩,
  ⟨(some 14), .mov, [.t 25], none⟩]
def c_keys_Read_r8 : List COper := a_keys_Read_r8
instance : Reg c_keys_Read_r8 a_keys_Read_r8 2 := ⟨rfl, rfl⟩
@[simp] def a_keys_Read_r9 : List COper := [
  ⟨(some 26), .mov, [.c (.int .i64 0)], none⟩]
def c_keys_Read_r9 : List COper := a_keys_Read_r9
instance : Reg c_keys_Read_r9 a_keys_Read_r9 1 := ⟨rfl, rfl⟩
@[simp] def a_keys_Read_r10 : List COper := [
  ⟨(some 27), .bin .lss, [.t 26, .c (.int .i64 32)], none⟩]
def c_keys_Read_r10 : List COper := a_keys_Read_r10
instance : Reg c_keys_Read_r10 a_keys_Read_r10 1 := ⟨rfl, rfl⟩
@[simp] def a_keys_Read_r11 : List COper := [
  ⟨(some 28), .faddr 1 2 true, [.t 3], none⟩,
  ⟨(some 29), .faddr 1 1 false, [.t 28], none⟩,
  ⟨(some 30), .load false 1, [.t 29], none⟩,
  ⟨(some 31), .mov, [.t 0], none⟩,
  ⟨(some 32), .call fn_code_Reader_Digest, [.t 31], none⟩,
  ⟨(some 33), .bslice 32 1 (.arr 1 (rep 32 (.v (.int .u8 0)))) [0], [.t 32], none⟩,
  ⟨(some 34), .app 32 32, [.t 30, .t 33], none⟩,
  ⟨(some 35), .faddr 1 2 true, [.t 3], none⟩,
  ⟨(some 36), .faddr 1 1 false, [.t 35], none⟩,
  ⟨none, .store false 1, [.t 36, .t 34], none⟩]
def c_keys_Read_r11 : List COper := a_keys_Read_r11
instance : Reg c_keys_Read_r11 a_keys_Read_r11 10 := ⟨rfl, rfl⟩
@[simp] def a_keys_Read_r12 : List COper := [
  ⟨(some 37), .bin .add, [.t 26, .c (.int .i64 1)], none⟩,
  ⟨(some 26), .mov, [.t 37], none⟩]
def c_keys_Read_r12 : List COper := a_keys_Read_r12
instance : Reg c_keys_Read_r12 a_keys_Read_r12 2 := ⟨rfl, rfl⟩
@[simp] def a_keys_Read_r13 : List COper := [
  ⟨(some 38), .mov, [.t 4], none⟩,
  ⟨(some 39), .mov, [.c (.int .i64 0)], none⟩]
def c_keys_Read_r13 : List COper := a_keys_Read_r13
instance : Reg c_keys_Read_r13 a_keys_Read_r13 2 := ⟨rfl, rfl⟩
@[simp] def a_keys_Read_r14 : List COper := [
  ⟨(some 40), .bin .lss, [.t 39, .t 38], none⟩]
def c_keys_Read_r14 : List COper := a_keys_Read_r14
instance : Reg c_keys_Read_r14 a_keys_Read_r14 1 := ⟨rfl, rfl⟩
@[simp] def a_keys_Read_r15 : List COper := [
  ⟨(some 41), .faddr 3 1 false, [.t 3], none⟩,
  ⟨(some 42), .load false 1, [.t 41], none⟩,
  ⟨(some 43), .mov, [.t 0], none⟩,
  ⟨(some 44), .call fn_code_Reader_Digest, [.t 43], none⟩,
  ⟨(some 45), .bslice 32 1 (.arr 1 (rep 32 (.v (.int .u8 0)))) [0], [.t 44], none⟩,
  ⟨(some 46), .app 32 32, [.t 42, .t 45], none⟩,
  ⟨(some 47), .faddr 3 1 false, [.t 3], none⟩,
  ⟨none, .store false 1, [.t 47, .t 46], none⟩]
def c_keys_Read_r15 : List COper := a_keys_Read_r15
instance : Reg c_keys_Read_r15 a_keys_Read_r15 8 := ⟨rfl, rfl⟩
@[simp] def a_keys_Read_r16 : List COper := [
  ⟨(some 48), .bin .add, [.t 39, .c (.int .i64 1)], none⟩,
  ⟨(some 39), .mov, [.t 48], none⟩]
def c_keys_Read_r16 : List COper := a_keys_Read_r16
instance : Reg c_keys_Read_r16 a_keys_Read_r16 2 := ⟨rfl, rfl⟩
@[simp] def a_keys_Read_r17 : List COper := [
  ⟨(some 49), .mov, [.t 0], none⟩,
  ⟨(some 50), .call fn_code_Reader_Good, [.t 49], none⟩,
  ⟨(some 51), .not, [.t 50], none⟩]
def c_keys_Read_r17 : List COper := a_keys_Read_r17
instance : Reg c_keys_Read_r17 a_keys_Read_r17 3 := ⟨rfl, rfl⟩
@[simp] def a_keys_Read_r18 : List COper := [
  ⟨(some 52), .build [.v (.int .i64 0), .node [.v (.slice none 0 0), .v (.slice none 0 0)], .v (.slice none 0 0)] [], [], none⟩,
  ⟨none, .store true 4, [.t 2, .t 52], none⟩]
def c_keys_Read_r18 : List COper := a_keys_Read_r18
instance : Reg c_keys_Read_r18 a_keys_Read_r18 2 := ⟨rfl, rfl⟩
@[simp] def a_keys_Read_r19 : List COper := [
  ⟨(some 53), .load true 4, [.t 3], none⟩,
  ⟨none, .store true 4, [.t 2, .t 53], none⟩]
def c_keys_Read_r19 : List COper := a_keys_Read_r19
instance : Reg c_keys_Read_r19 a_keys_Read_r19 2 := ⟨rfl, rfl⟩
@[simp] def c_keys_Read : CCode :=
  .seq (.region c_keys_Read_r0 none [0, 2]) (.seq (.region c_keys_Read_r1 none [0, 2, 3]) (.seq (.region c_keys_Read_r2 none [0, 2, 3, 4]) (.seq (.seq (.region c_keys_Read_r3 none [0, 2, 3, 4, 12]) (.cond (.t 12) (.seq (.region c_keys_Read_r4 none [2]) (.ret)) (.skip))) (.seq (.seq (.region c_keys_Read_r5 none [0, 2, 3, 4, 14]) (.block 0 (.loop (.seq (.region c_keys_Read_r6 none [0, 2, 3, 4, 14, 15]) (.seq (.cond (.t 15) (.skip) (.exit 0)) (.seq (.block 1 (.region c_keys_Read_r7 (some ([0, 1, 3, 0, 8, 24, 63, 127, 255, 511], [(2, 4), (2, 5)])) [0, 2, 3, 4, 14])) (.region c_keys_Read_r8 none [0, 2, 3, 4, 14]))))))) (.seq (.seq (.region c_keys_Read_r9 none [0, 2, 3, 4, 26]) (.block 2 (.loop (.seq (.region c_keys_Read_r10 none [0, 2, 3, 4, 26, 27]) (.seq (.cond (.t 27) (.skip) (.exit 2)) (.seq (.block 3 (.region c_keys_Read_r11 (some ([0, 1, 3, 0, 8, 24, 63, 127, 255, 511], [(2, 4), (2, 5)])) [0, 2, 3, 4, 26])) (.region c_keys_Read_r12 none [0, 2, 3, 4, 26]))))))) (.seq (.seq (.region c_keys_Read_r13 none [0, 2, 3, 38, 39]) (.block 4 (.loop (.seq (.region c_keys_Read_r14 none [0, 2, 3, 38, 39, 40]) (.seq (.cond (.t 40) (.skip) (.exit 4)) (.seq (.block 5 (.region c_keys_Read_r15 (some ([0, 1, 0, 4, 12, 31, 63, 127], [(1, 3), (1, 4)])) [0, 2, 3, 38, 39])) (.region c_keys_Read_r16 none [0, 2, 3, 38, 39]))))))) (.seq (.seq (.region c_keys_Read_r17 none [2, 3, 51]) (.cond (.t 51) (.seq (.region c_keys_Read_r18 none [2]) (.ret)) (.skip))) (.seq (.region c_keys_Read_r19 none [2]) (.ret)))))))))
@[simp] def R_keys_Read : List CRes := [.cell 2 true 4]
theorem k_keys_Read : chkFn Tryd.prog fn_keys_Read c_keys_Read R_keys_Read 1 = true := by kernel_rfl
/-! wapentake/wapentakeref05.Read -/
@[simp] def a_r05_Read_r0 : List COper := [
  ⟨(some 2), .alloc (.node [.v (.int .i64 0), .node [.v (.slice none 0 0), .v (.slice none 0 0)], .v (.slice none 0 0)]), [], none⟩]
def c_r05_Read_r0 : List COper := a_r05_Read_r0
instance : Reg c_r05_Read_r0 a_r05_Read_r0 1 := ⟨rfl, rfl⟩
@[simp] def a_r05_Read_r1 : List COper := [
  ⟨(some 7), .mov, [.t 0], none⟩,
  ⟨(some 8), .call fn_r01_Reader_Num, [.t 7], none⟩,
  ⟨(some 9), .build [.v (.int .i64 0), .node [.v (.slice none 0 0), .v (.slice none 0 0)], .v (.slice none 0 0)] [0], [.t 8], none⟩,
  ⟨(some 3), .alloc (.node [.v (.int .i64 0), .node [.v (.slice none 0 0), .v (.slice none 0 0)], .v (.slice none 0 0)]), [], none⟩,
  ⟨none, .store true 4, [.t 3, .t 9], none⟩]
def c_r05_Read_r1 : List COper := a_r05_Read_r1
instance : Reg c_r05_Read_r1 a_r05_Read_r1 5 := ⟨rfl, rfl⟩
@[simp] def a_r05_Read_r2 : List COper := [
  ⟨(some 10), .mov, [.t 0], none⟩,
  ⟨(some 11), .call fn_r01_Reader_In, [.t 10, .c (.int .i64 0), .c (.int .i64 6)], none⟩,
  ⟨(some 4), .mov, [.t 11], none⟩]
def c_r05_Read_r2 : List COper := a_r05_Read_r2
instance : Reg c_r05_Read_r2 a_r05_Read_r2 3 := ⟨rfl, rfl⟩
@[simp] def a_r05_Read_r3 : List COper := [
  ⟨(some 5), .mov, [.c (.int .i64 0)], none⟩]
def c_r05_Read_r3 : List COper := a_r05_Read_r3
instance : Reg c_r05_Read_r3 a_r05_Read_r3 1 := ⟨rfl, rfl⟩
@[simp] def a_r05_Read_r4 : List COper := [
  ⟨(some 12), .mov, [.t 5], none⟩,
  ⟨(some 13), .mov, [.t 4], none⟩,
  ⟨(some 14), .bin .add, [.c (.int .i64 64), .t 13], none⟩,
  ⟨(some 15), .bin .lss, [.t 12, .t 14], none⟩,
  ⟨(some 16), .mov, [.t 15], none⟩,
  ⟨(some 17), .mov, [.t 0], (some (16, true))⟩,
  ⟨(some 18), .call fn_r01_Reader_Good, [.t 17], (some (16, true))⟩,
  ⟨(some 19), .pick, [.t 16, .t 18, .c (.bool false)], none⟩]
def c_r05_Read_r4 : List COper := a_r05_Read_r4
instance : Reg c_r05_Read_r4 a_r05_Read_r4 8 := ⟨rfl, rfl⟩
@[simp] def a_r05_Read_r6 : List COper := [
  ⟨(some 22), .mov, [.t 0], none⟩,
  ⟨(some 23), .call fn_r01_Reader_Digest, [.t 22], none⟩,
  ⟨(some 6), .alloc (.arr 1 (rep 32 (.v (.int .u8 0)))), [], none⟩,
  ⟨none, .store true 32, [.t 6, .t 23], none⟩]
def c_r05_Read_r6 : List COper := a_r05_Read_r6
instance : Reg c_r05_Read_r6 a_r05_Read_r6 4 := ⟨rfl, rfl⟩
@[simp] def a_r05_Read_r7 : List COper := [
  ⟨(some 24), .mov, [.t 5], none⟩,
  ⟨(some 25), .bin .lss, [.t 24, .c (.int .i64 32)], none⟩]
def c_r05_Read_r7 : List COper := a_r05_Read_r7
instance : Reg c_r05_Read_r7 a_r05_Read_r7 2 := ⟨rfl, rfl⟩
@[simp] def a_r05_Read_r8 : List COper := [
  ⟨(some 26), .faddr 1 2 true, [.t 3], none⟩,
  ⟨(some 27), .faddr 0 1 false, [.t 26], none⟩,
  ⟨(some 28), .load false 1, [.t 27], none⟩,
  ⟨(some 29), .load true 32, [.t 6], none⟩,
  ⟨(some 30), .bslice 32 1 (.arr 1 (rep 32 (.v (.int .u8 0)))) [0], [.t 29], none⟩,
  ⟨(some 31), .app 32 32, [.t 28, .t 30], none⟩,
  ⟨(some 32), .faddr 1 2 true, [.t 3], none⟩,
  ⟨(some 33), .faddr 0 1 false, [.t 32], none⟩,
  ⟨none, .store false 1, [.t 33, .t 31], none⟩]
def c_r05_Read_r8 : List COper := a_r05_Read_r8
instance : Reg c_r05_Read_r8 a_r05_Read_r8 9 := ⟨rfl, rfl⟩
@[simp] def a_r05_Read_r9 : List COper := [
  ⟨(some 34), .mov, [.t 5], none⟩,
  ⟨(some 35), .bin .lss, [.t 34, .c (.int .i64 64)], none⟩]
def c_r05_Read_r9 : List COper := a_r05_Read_r9
instance : Reg c_r05_Read_r9 a_r05_Read_r9 2 := ⟨rfl, rfl⟩
@[simp] def a_r05_Read_r10 : List COper := [
  ⟨(some 36), .faddr 1 2 true, [.t 3], none⟩,
  ⟨(some 37), .faddr 1 1 false, [.t 36], none⟩,
  ⟨(some 38), .load false 1, [.t 37], none⟩,
  ⟨(some 39), .load true 32, [.t 6], none⟩,
  ⟨(some 40), .bslice 32 1 (.arr 1 (rep 32 (.v (.int .u8 0)))) [0], [.t 39], none⟩,
  ⟨(some 41), .app 32 32, [.t 38, .t 40], none⟩,
  ⟨(some 42), .faddr 1 2 true, [.t 3], none⟩,
  ⟨(some 43), .faddr 1 1 false, [.t 42], none⟩,
  ⟨none, .store false 1, [.t 43, .t 41], none⟩]
def c_r05_Read_r10 : List COper := a_r05_Read_r10
instance : Reg c_r05_Read_r10 a_r05_Read_r10 9 := ⟨rfl, rfl⟩
@[simp] def a_r05_Read_r11 : List COper := [
  ⟨(some 44), .faddr 3 1 false, [.t 3], none⟩,
  ⟨(some 45), .load false 1, [.t 44], none⟩,
  ⟨(some 46), .load true 32, [.t 6], none⟩,
  ⟨(some 47), .bslice 32 1 (.arr 1 (rep 32 (.v (.int .u8 0)))) [0], [.t 46], none⟩,
  ⟨(some 48), .app 32 32, [.t 45, .t 47], none⟩,
  ⟨(some 49), .faddr 3 1 false, [.t 3], none⟩,
  ⟨none, .store false 1, [.t 49, .t 48], none⟩]
def c_r05_Read_r11 : List COper := a_r05_Read_r11
instance : Reg c_r05_Read_r11 a_r05_Read_r11 7 := ⟨rfl, rfl⟩
@[simp] def a_r05_Read_r5 : List COper := [
  ⟨(some 20), .mov, [.t 5], none⟩,
  ⟨(some 21), .bin .add, [.t 20, .c (.int .i64 1)], none⟩,
  ⟨(some 5), .mov, [.t 21], none⟩]
def c_r05_Read_r5 : List COper := a_r05_Read_r5
instance : Reg c_r05_Read_r5 a_r05_Read_r5 3 := ⟨rfl, rfl⟩
@[simp] def a_r05_Read_r12 : List COper := [
  ⟨(some 50), .mov, [.t 0], none⟩,
  ⟨(some 51), .call fn_r01_Reader_Good, [.t 50], none⟩,
  ⟨(some 52), .not, [.t 51], none⟩]
def c_r05_Read_r12 : List COper := a_r05_Read_r12
instance : Reg c_r05_Read_r12 a_r05_Read_r12 3 := ⟨rfl, rfl⟩
@[simp] def a_r05_Read_r13 : List COper := [
  ⟨(some 53), .build [.v (.int .i64 0), .node [.v (.slice none 0 0), .v (.slice none 0 0)], .v (.slice none 0 0)] [], [], none⟩,
  ⟨none, .store true 4, [.t 2, .t 53], none⟩]
def c_r05_Read_r13 : List COper := a_r05_Read_r13
instance : Reg c_r05_Read_r13 a_r05_Read_r13 2 := ⟨rfl, rfl⟩
@[simp] def a_r05_Read_r14 : List COper := [
  ⟨(some 54), .load true 4, [.t 3], none⟩,
  ⟨none, .store true 4, [.t 2, .t 54], none⟩]
def c_r05_Read_r14 : List COper := a_r05_Read_r14
instance : Reg c_r05_Read_r14 a_r05_Read_r14 2 := ⟨rfl, rfl⟩
@[simp] def c_r05_Read : CCode :=
  .seq (.region c_r05_Read_r0 none [0, 2]) (.seq (.region c_r05_Read_r1 none [0, 2, 3]) (.seq (.region c_r05_Read_r2 none [0, 2, 3, 4]) (.seq (.seq (.region c_r05_Read_r3 none [0, 2, 3, 4, 5]) (.block 0 (.loop (.seq (.seq (.region c_r05_Read_r4 none [0, 2, 3, 4, 5, 19]) (.cond (.t 19) (.skip) (.exit 0))) (.seq (.block 1 (.seq (.region c_r05_Read_r6 none [0, 2, 3, 4, 5, 6]) (.seq (.region c_r05_Read_r7 none [0, 2, 3, 4, 5, 6, 25]) (.cond (.t 25) (.region c_r05_Read_r8 none [0, 2, 3, 4, 5]) (.seq (.region c_r05_Read_r9 none [0, 2, 3, 4, 5, 6, 35]) (.cond (.t 35) (.region c_r05_Read_r10 none [0, 2, 3, 4, 5]) (.region c_r05_Read_r11 none [0, 2, 3, 4, 5]))))))) (.region c_r05_Read_r5 none [0, 2, 3, 4, 5])))))) (.seq (.seq (.region c_r05_Read_r12 none [2, 3, 52]) (.cond (.t 52) (.seq (.region c_r05_Read_r13 none [2]) (.ret)) (.skip))) (.seq (.region c_r05_Read_r14 none [2]) (.ret))))))
@[simp] def R_r05_Read : List CRes := [.cell 2 true 4]
theorem k_r05_Read : chkFn Tryd.prog fn_r05_Read c_r05_Read R_r05_Read 1 = true := by kernel_rfl
/-! (*wapentake/code.Reader).Good -/
@[simp] def a_code_Reader_Good_r0 : List COper := [
  ⟨(some 2), .mov, [.c (.bool false)], none⟩]
def c_code_Reader_Good_r0 : List COper := a_code_Reader_Good_r0
instance : Reg c_code_Reader_Good_r0 a_code_Reader_Good_r0 1 := ⟨rfl, rfl⟩
@[simp] def a_code_Reader_Good_r1 : List COper := [
  ⟨(some 3), .mov, [.t 0], none⟩,
  ⟨(some 4), .eqp true, [.t 3, .c (.pointer none)], none⟩,
  ⟨(some 5), .mov, [.t 4], none⟩,
  ⟨(some 6), .mov, [.t 0], (some (5, true))⟩,
  ⟨(some 7), .nilc, [.t 6], (some (5, true))⟩,
  ⟨(some 8), .faddr 1 1 false, [.t 7], (some (5, true))⟩,
  ⟨(some 9), .load false 1, [.t 8], (some (5, true))⟩,
  ⟨(some 10), .not, [.t 9], (some (5, true))⟩,
  ⟨(some 11), .pick, [.t 5, .t 10, .c (.bool false)], none⟩,
  ⟨(some 2), .mov, [.t 11], none⟩]
def c_code_Reader_Good_r1 : List COper := a_code_Reader_Good_r1
instance : Reg c_code_Reader_Good_r1 a_code_Reader_Good_r1 10 := ⟨rfl, rfl⟩
@[simp] def c_code_Reader_Good : CCode :=
  .seq (.region c_code_Reader_Good_r0 none [0]) (.seq (.region c_code_Reader_Good_r1 none [2]) (.ret))
@[simp] def R_code_Reader_Good : List CRes := [.tmp 2]
theorem k_code_Reader_Good : chkFn Tryd.prog fn_code_Reader_Good c_code_Reader_Good R_code_Reader_Good 1 = true := by kernel_rfl
/-! (*wapentake/wapentakeref01.Reader).Good -/
@[simp] def a_r01_Reader_Good_r0 : List COper := [
  ⟨(some 2), .mov, [.c (.bool false)], none⟩]
def c_r01_Reader_Good_r0 : List COper := a_r01_Reader_Good_r0
instance : Reg c_r01_Reader_Good_r0 a_r01_Reader_Good_r0 1 := ⟨rfl, rfl⟩
@[simp] def a_r01_Reader_Good_r1 : List COper := [
  ⟨(some 3), .mov, [.t 0], none⟩,
  ⟨(some 4), .nilc, [.t 3], none⟩,
  ⟨(some 5), .faddr 1 1 false, [.t 4], none⟩,
  ⟨(some 6), .load false 1, [.t 5], none⟩,
  ⟨(some 7), .not, [.t 6], none⟩,
  ⟨(some 2), .mov, [.t 7], none⟩]
def c_r01_Reader_Good_r1 : List COper := a_r01_Reader_Good_r1
instance : Reg c_r01_Reader_Good_r1 a_r01_Reader_Good_r1 6 := ⟨rfl, rfl⟩
@[simp] def c_r01_Reader_Good : CCode :=
  .seq (.region c_r01_Reader_Good_r0 none [0]) (.seq (.region c_r01_Reader_Good_r1 none [2]) (.ret))
@[simp] def R_r01_Reader_Good : List CRes := [.tmp 2]
theorem k_r01_Reader_Good : chkFn Tryd.prog fn_r01_Reader_Good c_r01_Reader_Good R_r01_Reader_Good 1 = true := by kernel_rfl
/-! (*wapentake/code.Reader).End -/
@[simp] def a_code_Reader_End_r0 : List COper := [
  ⟨(some 2), .mov, [.c (.bool false)], none⟩]
def c_code_Reader_End_r0 : List COper := a_code_Reader_End_r0
instance : Reg c_code_Reader_End_r0 a_code_Reader_End_r0 1 := ⟨rfl, rfl⟩
@[simp] def a_code_Reader_End_r1 : List COper := [
  ⟨(some 3), .mov, [.t 0], none⟩,
  ⟨(some 4), .call fn_code_Reader_Good, [.t 3], none⟩,
  ⟨(some 5), .mov, [.t 4], none⟩,
  ⟨(some 6), .mov, [.t 0], (some (5, true))⟩,
  ⟨(some 7), .nilc, [.t 6], (some (5, true))⟩,
  ⟨(some 8), .faddr 0 1 false, [.t 7], (some (5, true))⟩,
  ⟨(some 9), .load false 1, [.t 8], (some (5, true))⟩,
  ⟨(some 10), .len, [.t 9], (some (5, true))⟩,
  ⟨(some 11), .bin .eql, [.t 10, .c (.int .i64 0)], (some (5, true))⟩,
  ⟨(some 12), .pick, [.t 5, .t 11, .c (.bool false)], none⟩,
  ⟨(some 2), .mov, [.t 12], none⟩]
def c_code_Reader_End_r1 : List COper := a_code_Reader_End_r1
instance : Reg c_code_Reader_End_r1 a_code_Reader_End_r1 11 := ⟨rfl, rfl⟩
@[simp] def c_code_Reader_End : CCode :=
  .seq (.region c_code_Reader_End_r0 none [0]) (.seq (.region c_code_Reader_End_r1 none [2]) (.ret))
@[simp] def R_code_Reader_End : List CRes := [.tmp 2]
theorem k_code_Reader_End : chkFn Tryd.prog fn_code_Reader_End c_code_Reader_End R_code_Reader_End 1 = true := by kernel_rfl
/-! (*wapentake/wapentakeref01.Reader).End -/
@[simp] def a_r01_Reader_End_r0 : List COper := [
  ⟨(some 2), .mov, [.c (.bool false)], none⟩]
def c_r01_Reader_End_r0 : List COper := a_r01_Reader_End_r0
instance : Reg c_r01_Reader_End_r0 a_r01_Reader_End_r0 1 := ⟨rfl, rfl⟩
@[simp] def a_r01_Reader_End_r1 : List COper := [
  ⟨(some 3), .mov, [.t 0], none⟩,
  ⟨(some 4), .nilc, [.t 3], none⟩,
  ⟨(some 5), .faddr 1 1 false, [.t 4], none⟩,
  ⟨(some 6), .load false 1, [.t 5], none⟩,
  ⟨(some 7), .not, [.t 6], none⟩,
  ⟨(some 8), .mov, [.t 7], none⟩,
  ⟨(some 9), .mov, [.t 0], (some (8, true))⟩,
  ⟨(some 10), .nilc, [.t 9], (some (8, true))⟩,
  ⟨(some 11), .faddr 0 1 false, [.t 10], (some (8, true))⟩,
  ⟨(some 12), .load false 1, [.t 11], (some (8, true))⟩,
  ⟨(some 13), .bin .eql, [.t 12, .c (.string (mkS []))], (some (8, true))⟩,
  ⟨(some 14), .pick, [.t 8, .t 13, .c (.bool false)], none⟩,
  ⟨(some 2), .mov, [.t 14], none⟩]
def c_r01_Reader_End_r1 : List COper := a_r01_Reader_End_r1
instance : Reg c_r01_Reader_End_r1 a_r01_Reader_End_r1 13 := ⟨rfl, rfl⟩
@[simp] def c_r01_Reader_End : CCode :=
  .seq (.region c_r01_Reader_End_r0 none [0]) (.seq (.region c_r01_Reader_End_r1 none [2]) (.ret))
@[simp] def R_r01_Reader_End : List CRes := [.tmp 2]
theorem k_r01_Reader_End : chkFn Tryd.prog fn_r01_Reader_End c_r01_Reader_End R_r01_Reader_End 1 = true := by kernel_rfl
/-! wapentake/wapentakelaw09.put -/
@[simp] def a_l09_put_r0 : List COper := [
  ⟨(some 0), .alloc (.node [.v (.int .i64 0), .v (.int .i64 0), .node [.v (.int .i64 0), .v (.string (mkS [])), .v (.string (mkS [])), .v (.string (mkS [])), .node [.v (.int .i64 0), .v (.int .i64 0), .v (.int .i64 0), .node [.arr 1 (rep 32 (.v (.int .u8 0))), .v (.int .i64 0)]]]]), [], none⟩]
def c_l09_put_r0 : List COper := a_l09_put_r0
instance : Reg c_l09_put_r0 a_l09_put_r0 1 := ⟨rfl, rfl⟩
@[simp] def a_l09_put_r1 : List COper := [
  ⟨(some 1), .build [.v (.int .i64 0), .v (.string (mkS [])), .v (.string (mkS [])), .v (.string (mkS [])), .node [.v (.int .i64 0), .v (.int .i64 0), .v (.int .i64 0), .node [.arr 1 (rep 32 (.v (.int .u8 0))), .v (.int .i64 0)]]] [0, 1, 2], [.c (.int .i64 2), .c (.string (mkS [107])), .c (.string (mkS [118]))], none⟩,
  ⟨(some 2), .build [.v (.int .i64 0), .v (.int .i64 0), .node [.v (.int .i64 0), .v (.string (mkS [])), .v (.string (mkS [])), .v (.string (mkS [])), .node [.v (.int .i64 0), .v (.int .i64 0), .v (.int .i64 0), .node [.arr 1 (rep 32 (.v (.int .u8 0))), .v (.int .i64 0)]]]] [0, 1, 2], [.c (.int .i64 1), .c (.int .i64 1), .t 1], none⟩,
  ⟨none, .store true 42, [.t 0, .t 2], none⟩]
def c_l09_put_r1 : List COper := a_l09_put_r1
instance : Reg c_l09_put_r1 a_l09_put_r1 3 := ⟨rfl, rfl⟩
@[simp] def c_l09_put : CCode :=
  .seq (.region c_l09_put_r0 none [0]) (.seq (.region c_l09_put_r1 none [0]) (.ret))
@[simp] def R_l09_put : List CRes := [.cell 0 true 42]
theorem k_l09_put : chkFn Tryd.prog fn_l09_put c_l09_put R_l09_put 0 = true := by kernel_rfl
/-! wapentake/request.Good -/
@[simp] def a_request_Good_r0 : List COper := [
  ⟨(some 1), .box, [.t 0], none⟩,
  ⟨(some 2), .mov, [.c (.bool false)], none⟩]
def c_request_Good_r0 : List COper := a_request_Good_r0
instance : Reg c_request_Good_r0 a_request_Good_r0 2 := ⟨rfl, rfl⟩
@[simp] def a_request_Good_r1 : List COper := [
  ⟨(some 4), .faddr 2 40 true, [.t 1], none⟩,
  ⟨(some 5), .load true 40, [.t 4], none⟩,
  ⟨(some 3), .alloc (.node [.v (.int .i64 0), .v (.string (mkS [])), .v (.string (mkS [])), .v (.string (mkS [])), .node [.v (.int .i64 0), .v (.int .i64 0), .v (.int .i64 0), .node [.arr 1 (rep 32 (.v (.int .u8 0))), .v (.int .i64 0)]]]), [], none⟩,
  ⟨none, .store true 40, [.t 3, .t 5], none⟩]
def c_request_Good_r1 : List COper := a_request_Good_r1
instance : Reg c_request_Good_r1 a_request_Good_r1 4 := ⟨rfl, rfl⟩
@[simp] def a_request_Good_r2 : List COper := [
  ⟨(some 6), .faddr 0 1 false, [.t 1], none⟩,
  ⟨(some 7), .load false 1, [.t 6], none⟩,
  ⟨(some 8), .bin .geq, [.t 7, .c (.int .i64 1)], none⟩,
  ⟨(some 9), .mov, [.t 8], none⟩,
  ⟨(some 10), .faddr 0 1 false, [.t 1], (some (9, true))⟩,
  ⟨(some 11), .load false 1, [.t 10], (some (9, true))⟩,
  ⟨(some 12), .bin .leq, [.t 11, .c (.int .i64 64)], (some (9, true))⟩,
  ⟨(some 13), .pick, [.t 9, .t 12, .c (.bool false)], none⟩,
  ⟨(some 14), .mov, [.t 13], none⟩,
  ⟨(some 15), .faddr 1 1 false, [.t 1], (some (14, true))⟩,
  ⟨(some 16), .load false 1, [.t 15], (some (14, true))⟩,
  ⟨(some 17), .bin .geq, [.t 16, .c (.int .i64 1)], (some (14, true))⟩,
  ⟨(some 18), .pick, [.t 14, .t 17, .c (.bool false)], none⟩,
  ⟨(some 19), .mov, [.t 18], none⟩,
  ⟨(some 20), .faddr 1 1 false, [.t 1], (some (19, true))⟩,
  ⟨(some 21), .load false 1, [.t 20], (some (19, true))⟩,
  ⟨(some 22), .bin .leq, [.t 21, .c (.int .i64 1099511627776)], (some (19, true))⟩,
  ⟨(some 23), .pick, [.t 19, .t 22, .c (.bool false)], none⟩,
  ⟨(some 24), .mov, [.t 23], none⟩,
  ⟨(some 25), .faddr 0 1 false, [.t 3], (some (24, true))⟩,
  ⟨(some 26), .load false 1, [.t 25], (some (24, true))⟩,
  ⟨(some 27), .bin .geq, [.t 26, .c (.int .i64 1)], (some (24, true))⟩,
  ⟨(some 28), .pick, [.t 24, .t 27, .c (.bool false)], none⟩,
  ⟨(some 29), .mov, [.t 28], none⟩,
  ⟨(some 30), .faddr 0 1 false, [.t 3], (some (29, true))⟩,
  ⟨(some 31), .load false 1, [.t 30], (some (29, true))⟩,
  ⟨(some 32), .bin .leq, [.t 31, .c (.int .i64 7)], (some (29, true))⟩,
  ⟨(some 33), .pick, [.t 29, .t 32, .c (.bool false)], none⟩,
  ⟨(some 34), .mov, [.t 33], none⟩,
  ⟨(some 35), .faddr 1 1 false, [.t 3], (some (34, true))⟩,
  ⟨(some 36), .load false 1, [.t 35], (some (34, true))⟩,
  ⟨(some 37), .faddr 2 1 false, [.t 3], (some (34, true))⟩,
  ⟨(some 38), .load false 1, [.t 37], (some (34, true))⟩,
  ⟨(some 39), .faddr 3 1 false, [.t 3], (some (34, true))⟩,
  ⟨(some 40), .load false 1, [.t 39], (some (34, true))⟩,
  ⟨(some 41), .bslice 1 3 (.v (.string (mkS []))) [0, 1, 2], [.t 36, .t 38, .t 40], (some (34, true))⟩,
  ⟨(some 42), .call fn_request_short, [.t 41], (some (34, true))⟩,
  ⟨(some 43), .pick, [.t 34, .t 42, .c (.bool false)], none⟩,
  ⟨(some 2), .mov, [.t 43], none⟩]
def c_request_Good_r2 : List COper := a_request_Good_r2
instance : Reg c_request_Good_r2 a_request_Good_r2 39 := ⟨rfl, rfl⟩
@[simp] def c_request_Good : CCode :=
  .seq (.region c_request_Good_r0 none [1]) (.seq (.region c_request_Good_r1 none [1, 3]) (.seq (.region c_request_Good_r2 none [2]) (.ret)))
@[simp] def R_request_Good : List CRes := [.tmp 2]
theorem k_request_Good : chkFn Tryd.prog fn_request_Good c_request_Good R_request_Good 1 = true := by kernel_rfl
/-! wapentake/request.Same -/
@[simp] def a_request_Same_r0 : List COper := [
  ⟨(some 2), .box, [.t 0], none⟩,
  ⟨(some 3), .box, [.t 1], none⟩,
  ⟨(some 4), .mov, [.c (.bool false)], none⟩]
def c_request_Same_r0 : List COper := a_request_Same_r0
instance : Reg c_request_Same_r0 a_request_Same_r0 3 := ⟨rfl, rfl⟩
@[simp] def a_request_Same_r1 : List COper := [
  ⟨(some 7), .build [.v (.slice none 0 0)] [], [], none⟩,
  ⟨(some 8), .box, [.t 7], none⟩,
  ⟨(some 9), .build [.v (.slice none 0 0)] [], [], none⟩,
  ⟨(some 10), .box, [.t 9], none⟩,
  ⟨(some 5), .mov, [.t 8], none⟩,
  ⟨(some 6), .mov, [.t 10], none⟩]
def c_request_Same_r1 : List COper := a_request_Same_r1
instance : Reg c_request_Same_r1 a_request_Same_r1 6 := ⟨rfl, rfl⟩
@[simp] def a_request_Same_r2 : List COper := [
  ⟨(some 11), .mov, [.t 5], none⟩,
  ⟨(some 12), .load true 4, [.t 2], none⟩,
  ⟨(some 13), .call fn_request_WriteReply, [.t 11, .t 12], none⟩]
def c_request_Same_r2 : List COper := a_request_Same_r2
instance : Reg c_request_Same_r2 a_request_Same_r2 3 := ⟨rfl, rfl⟩
@[simp] def a_request_Same_r3 : List COper := [
  ⟨(some 14), .mov, [.t 6], none⟩,
  ⟨(some 15), .load true 4, [.t 3], none⟩,
  ⟨(some 16), .call fn_request_WriteReply, [.t 14, .t 15], none⟩]
def c_request_Same_r3 : List COper := a_request_Same_r3
instance : Reg c_request_Same_r3 a_request_Same_r3 3 := ⟨rfl, rfl⟩
@[simp] def a_request_Same_r4 : List COper := [
  ⟨(some 17), .mov, [.t 5], none⟩,
  ⟨(some 18), .call fn_code_Writer_Bytes, [.t 17], none⟩,
  ⟨(some 19), .convS, [.t 18], none⟩,
  ⟨(some 20), .mov, [.t 6], none⟩,
  ⟨(some 21), .call fn_code_Writer_Bytes, [.t 20], none⟩,
  ⟨(some 22), .convS, [.t 21], none⟩,
  ⟨(some 23), .bin .eql, [.t 19, .t 22], none⟩,
  ⟨(some 4), .mov, [.t 23], none⟩]
def c_request_Same_r4 : List COper := a_request_Same_r4
instance : Reg c_request_Same_r4 a_request_Same_r4 8 := ⟨rfl, rfl⟩
@[simp] def c_request_Same : CCode :=
  .seq (.region c_request_Same_r0 none [2, 3]) (.seq (.region c_request_Same_r1 none [2, 3, 5, 6]) (.seq (.region c_request_Same_r2 none [3, 5, 6]) (.seq (.region c_request_Same_r3 none [5, 6]) (.seq (.region c_request_Same_r4 (some ([0, 1, 3, 0, 11, 27, 63, 127], [(2, 4)])) [4]) (.ret)))))
@[simp] def R_request_Same : List CRes := [.tmp 4]
theorem k_request_Same : chkFn Tryd.prog fn_request_Same c_request_Same R_request_Same 2 = true := by kernel_rfl
/-! (*wapentake/code.Writer).Num -/
@[simp] def a_code_Writer_Num_r0 : List COper := [
  ⟨(some 7), .mov, [.t 0], none⟩,
  ⟨(some 8), .eqp false, [.t 7, .c (.pointer none)], none⟩]
def c_code_Writer_Num_r0 : List COper := a_code_Writer_Num_r0
instance : Reg c_code_Writer_Num_r0 a_code_Writer_Num_r0 2 := ⟨rfl, rfl⟩
@[simp] def a_code_Writer_Num_r1 : List COper := [
  ⟨(some 9), .mov, [.t 1], none⟩,
  ⟨(some 10), .len, [.t 9], none⟩,
  ⟨(some 11), .mov, [.c (.int .i64 0)], none⟩]
def c_code_Writer_Num_r1 : List COper := a_code_Writer_Num_r1
instance : Reg c_code_Writer_Num_r1 a_code_Writer_Num_r1 3 := ⟨rfl, rfl⟩
@[simp] def a_code_Writer_Num_r2 : List COper := [
  ⟨(some 12), .bin .lss, [.t 11, .t 10], none⟩]
def c_code_Writer_Num_r2 : List COper := a_code_Writer_Num_r2
instance : Reg c_code_Writer_Num_r2 a_code_Writer_Num_r2 1 := ⟨rfl, rfl⟩
@[simp] def a_code_Writer_Num_r3 : List COper := [
  ⟨(some 13), .iaddr 1, [.t 9, .t 11], none⟩,
  ⟨(some 14), .load false 1, [.t 13], none⟩,
  ⟨(some 5), .mov, [.t 14], none⟩]
def c_code_Writer_Num_r3 : List COper := a_code_Writer_Num_r3
instance : Reg c_code_Writer_Num_r3 a_code_Writer_Num_r3 3 := ⟨rfl, rfl⟩
@[simp] def a_code_Writer_Num_r4 : List COper := [
  ⟨(some 6), .mov, [.c (.int .i64 56)], none⟩]
def c_code_Writer_Num_r4 : List COper := a_code_Writer_Num_r4
instance : Reg c_code_Writer_Num_r4 a_code_Writer_Num_r4 1 := ⟨rfl, rfl⟩
@[simp] def a_code_Writer_Num_r5 : List COper := [
  ⟨(some 15), .mov, [.t 6], none⟩,
  ⟨(some 16), .bin .geq, [.t 15, .c (.int .i64 0)], none⟩]
def c_code_Writer_Num_r5 : List COper := a_code_Writer_Num_r5
instance : Reg c_code_Writer_Num_r5 a_code_Writer_Num_r5 2 := ⟨rfl, rfl⟩
@[simp] def a_code_Writer_Num_r7 : List COper := [
  ⟨(some 19), .mov, [.t 0], none⟩,
  ⟨(some 20), .mov, [.t 0], none⟩,
  ⟨(some 21), .nilc, [.t 20], none⟩,
  ⟨(some 22), .faddr 0 1 false, [.t 21], none⟩,
  ⟨(some 23), .load false 1, [.t 22], none⟩,
  ⟨(some 24), .mov, [.t 5], none⟩,
  ⟨(some 25), .convI .u64, [.t 24], none⟩,
  ⟨(some 26), .mov, [.t 6], none⟩,
  ⟨(some 27), .bin .shr, [.t 25, .t 26], none⟩,
  ⟨(some 28), .convI .u8, [.t 27], none⟩,
  ⟨(some 29), .bslice 1 1 (.v (.int .u8 0)) [0], [.t 28], none⟩,
  ⟨(some 30), .app 1 1, [.t 23, .t 29], none⟩,
  ⟨(some 31), .nilc, [.t 19], none⟩,
  ⟨(some 32), .faddr 0 1 false, [.t 31], none⟩,
  ⟨none, .store false 1, [.t 32, .t 30], none⟩]
def c_code_Writer_Num_r7 : List COper := a_code_Writer_Num_r7
instance : Reg c_code_Writer_Num_r7 a_code_Writer_Num_r7 15 := ⟨rfl, rfl⟩
@[simp] def a_code_Writer_Num_r6 : List COper := [
  ⟨(some 17), .mov, [.t 6], none⟩,
  ⟨(some 18), .bin .sub, [.t 17, .c (.int .i64 8)], none⟩,
  ⟨(some 6), .mov, [.t 18], none⟩]
def c_code_Writer_Num_r6 : List COper := a_code_Writer_Num_r6
instance : Reg c_code_Writer_Num_r6 a_code_Writer_Num_r6 3 := ⟨rfl, rfl⟩
@[simp] def a_code_Writer_Num_r8 : List COper := [
  ⟨(some 33), .bin .add, [.t 11, .c (.int .i64 1)], none⟩,
  ⟨(some 11), .mov, [.t 33], none⟩]
def c_code_Writer_Num_r8 : List COper := a_code_Writer_Num_r8
instance : Reg c_code_Writer_Num_r8 a_code_Writer_Num_r8 2 := ⟨rfl, rfl⟩
@[simp] def c_code_Writer_Num : CCode :=
  .seq (.seq (.region c_code_Writer_Num_r0 none [0, 1, 8]) (.cond (.t 8) (.ret) (.skip))) (.seq (.region c_code_Writer_Num_r1 none [0, 9, 10, 11]) (.block 0 (.loop (.seq (.region c_code_Writer_Num_r2 none [0, 9, 10, 11, 12]) (.seq (.cond (.t 12) (.skip) (.exit 0)) (.seq (.block 1 (.seq (.region c_code_Writer_Num_r3 none [0, 5, 9, 10, 11]) (.seq (.region c_code_Writer_Num_r4 none [0, 5, 6, 9, 10, 11]) (.block 2 (.loop (.seq (.seq (.region c_code_Writer_Num_r5 none [0, 5, 6, 9, 10, 11, 16]) (.cond (.t 16) (.skip) (.exit 2))) (.seq (.block 3 (.region c_code_Writer_Num_r7 (some ([0, 0, 2, 6, 14, 0, 32, 0, 224, 480, 992, 2046, 4095, 8191, 16383], [(4, 10)])) [0, 5, 6, 9, 10, 11])) (.region c_code_Writer_Num_r6 none [0, 5, 6, 9, 10, 11])))))))) (.region c_code_Writer_Num_r8 none [0, 9, 10, 11])))))))
@[simp] def R_code_Writer_Num : List CRes := []
theorem k_code_Writer_Num : chkFn Tryd.prog fn_code_Writer_Num c_code_Writer_Num R_code_Writer_Num 2 = true := by kernel_rfl
/-! (*wapentake/code.Writer).Text -/
@[simp] def a_code_Writer_Text_r0 : List COper := [
  ⟨(some 7), .mov, [.t 0], none⟩,
  ⟨(some 8), .eqp false, [.t 7, .c (.pointer none)], none⟩]
def c_code_Writer_Text_r0 : List COper := a_code_Writer_Text_r0
instance : Reg c_code_Writer_Text_r0 a_code_Writer_Text_r0 2 := ⟨rfl, rfl⟩
@[simp] def a_code_Writer_Text_r1 : List COper := [
  ⟨(some 9), .mov, [.t 1], none⟩,
  ⟨(some 10), .len, [.t 9], none⟩,
  ⟨(some 11), .mov, [.c (.int .i64 0)], none⟩]
def c_code_Writer_Text_r1 : List COper := a_code_Writer_Text_r1
instance : Reg c_code_Writer_Text_r1 a_code_Writer_Text_r1 3 := ⟨rfl, rfl⟩
@[simp] def a_code_Writer_Text_r2 : List COper := [
  ⟨(some 12), .bin .lss, [.t 11, .t 10], none⟩]
def c_code_Writer_Text_r2 : List COper := a_code_Writer_Text_r2
instance : Reg c_code_Writer_Text_r2 a_code_Writer_Text_r2 1 := ⟨rfl, rfl⟩
@[simp] def a_code_Writer_Text_r3 : List COper := [
  ⟨(some 13), .iaddr 1, [.t 9, .t 11], none⟩,
  ⟨(some 14), .load false 1, [.t 13], none⟩,
  ⟨(some 5), .mov, [.t 14], none⟩]
def c_code_Writer_Text_r3 : List COper := a_code_Writer_Text_r3
instance : Reg c_code_Writer_Text_r3 a_code_Writer_Text_r3 3 := ⟨rfl, rfl⟩
@[simp] def a_code_Writer_Text_r4 : List COper := [
  ⟨(some 15), .mov, [.t 5], none⟩,
  ⟨(some 16), .lenS, [.t 15], none⟩,
  ⟨(some 6), .mov, [.t 16], none⟩]
def c_code_Writer_Text_r4 : List COper := a_code_Writer_Text_r4
instance : Reg c_code_Writer_Text_r4 a_code_Writer_Text_r4 3 := ⟨rfl, rfl⟩
@[simp] def a_code_Writer_Text_r5 : List COper := [
  ⟨(some 17), .mov, [.t 0], none⟩,
  ⟨(some 18), .mov, [.t 0], none⟩,
  ⟨(some 19), .nilc, [.t 18], none⟩,
  ⟨(some 20), .faddr 0 1 false, [.t 19], none⟩,
  ⟨(some 21), .load false 1, [.t 20], none⟩,
  ⟨(some 22), .mov, [.t 6], none⟩,
  ⟨(some 23), .bin .shr, [.t 22, .c (.int .u64 24)], none⟩,
  ⟨(some 24), .convI .u8, [.t 23], none⟩,
  ⟨(some 25), .mov, [.t 6], none⟩,
  ⟨(some 26), .bin .shr, [.t 25, .c (.int .u64 16)], none⟩,
  ⟨(some 27), .convI .u8, [.t 26], none⟩,
  ⟨(some 28), .mov, [.t 6], none⟩,
  ⟨(some 29), .bin .shr, [.t 28, .c (.int .u64 8)], none⟩,
  ⟨(some 30), .convI .u8, [.t 29], none⟩,
  ⟨(some 31), .mov, [.t 6], none⟩,
  ⟨(some 32), .convI .u8, [.t 31], none⟩,
  ⟨(some 33), .bslice 1 4 (.v (.int .u8 0)) [0, 1, 2, 3], [.t 24, .t 27, .t 30, .t 32], none⟩,
  ⟨(some 34), .app 1 1, [.t 21, .t 33], none⟩,
  ⟨(some 35), .nilc, [.t 17], none⟩,
  ⟨(some 36), .faddr 0 1 false, [.t 35], none⟩,
  ⟨none, .store false 1, [.t 36, .t 34], none⟩]
def c_code_Writer_Text_r5 : List COper := a_code_Writer_Text_r5
instance : Reg c_code_Writer_Text_r5 a_code_Writer_Text_r5 21 := ⟨rfl, rfl⟩
@[simp] def a_code_Writer_Text_r6 : List COper := [
  ⟨(some 37), .mov, [.t 0], none⟩,
  ⟨(some 38), .mov, [.t 0], none⟩,
  ⟨(some 39), .nilc, [.t 38], none⟩,
  ⟨(some 40), .faddr 0 1 false, [.t 39], none⟩,
  ⟨(some 41), .load false 1, [.t 40], none⟩,
  ⟨(some 42), .mov, [.t 5], none⟩,
  ⟨(some 43), .appS 1, [.t 41, .t 42], none⟩,
  ⟨(some 44), .nilc, [.t 37], none⟩,
  ⟨(some 45), .faddr 0 1 false, [.t 44], none⟩,
  ⟨none, .store false 1, [.t 45, .t 43], none⟩]
def c_code_Writer_Text_r6 : List COper := a_code_Writer_Text_r6
instance : Reg c_code_Writer_Text_r6 a_code_Writer_Text_r6 10 := ⟨rfl, rfl⟩
@[simp] def a_code_Writer_Text_r7 : List COper := [
  ⟨(some 46), .bin .add, [.t 11, .c (.int .i64 1)], none⟩,
  ⟨(some 11), .mov, [.t 46], none⟩]
def c_code_Writer_Text_r7 : List COper := a_code_Writer_Text_r7
instance : Reg c_code_Writer_Text_r7 a_code_Writer_Text_r7 2 := ⟨rfl, rfl⟩
@[simp] def c_code_Writer_Text : CCode :=
  .seq (.seq (.region c_code_Writer_Text_r0 none [0, 1, 8]) (.cond (.t 8) (.ret) (.skip))) (.seq (.region c_code_Writer_Text_r1 none [0, 9, 10, 11]) (.block 0 (.loop (.seq (.region c_code_Writer_Text_r2 none [0, 9, 10, 11, 12]) (.seq (.cond (.t 12) (.skip) (.exit 0)) (.seq (.block 1 (.seq (.region c_code_Writer_Text_r3 none [0, 5, 9, 10, 11]) (.seq (.region c_code_Writer_Text_r4 none [0, 5, 6, 9, 10, 11]) (.seq (.region c_code_Writer_Text_r5 none [0, 5, 9, 10, 11]) (.region c_code_Writer_Text_r6 none [0, 9, 10, 11]))))) (.region c_code_Writer_Text_r7 none [0, 9, 10, 11])))))))
@[simp] def R_code_Writer_Text : List CRes := []
theorem k_code_Writer_Text : chkFn Tryd.prog fn_code_Writer_Text c_code_Writer_Text R_code_Writer_Text 2 = true := by kernel_rfl
/-! (*wapentake/code.Writer).Digest -/
@[simp] def a_code_Writer_Digest_r0 : List COper := [
  ⟨(some 6), .mov, [.t 0], none⟩,
  ⟨(some 7), .eqp false, [.t 6, .c (.pointer none)], none⟩]
def c_code_Writer_Digest_r0 : List COper := a_code_Writer_Digest_r0
instance : Reg c_code_Writer_Digest_r0 a_code_Writer_Digest_r0 2 := ⟨rfl, rfl⟩
@[simp] def a_code_Writer_Digest_r1 : List COper := [
  ⟨(some 8), .mov, [.t 1], none⟩,
  ⟨(some 9), .len, [.t 8], none⟩,
  ⟨(some 10), .mov, [.c (.int .i64 0)], none⟩]
def c_code_Writer_Digest_r1 : List COper := a_code_Writer_Digest_r1
instance : Reg c_code_Writer_Digest_r1 a_code_Writer_Digest_r1 3 := ⟨rfl, rfl⟩
@[simp] def a_code_Writer_Digest_r2 : List COper := [
  ⟨(some 11), .bin .lss, [.t 10, .t 9], none⟩]
def c_code_Writer_Digest_r2 : List COper := a_code_Writer_Digest_r2
instance : Reg c_code_Writer_Digest_r2 a_code_Writer_Digest_r2 1 := ⟨rfl, rfl⟩
@[simp] def a_code_Writer_Digest_r3 : List COper := [
  ⟨(some 12), .iaddr 32, [.t 8, .t 10], none⟩,
  ⟨(some 13), .load true 32, [.t 12], none⟩,
  ⟨(some 5), .alloc (.arr 1 (rep 32 (.v (.int .u8 0)))), [], none⟩,
  ⟨none, .store true 32, [.t 5, .t 13], none⟩]
def c_code_Writer_Digest_r3 : List COper := a_code_Writer_Digest_r3
instance : Reg c_code_Writer_Digest_r3 a_code_Writer_Digest_r3 4 := ⟨rfl, rfl⟩
@[simp] def a_code_Writer_Digest_r4 : List COper := [
  ⟨(some 14), .mov, [.t 0], none⟩,
  ⟨(some 15), .mov, [.t 0], none⟩,
  ⟨(some 16), .nilc, [.t 15], none⟩,
  ⟨(some 17), .faddr 0 1 false, [.t 16], none⟩,
  ⟨(some 18), .load false 1, [.t 17], none⟩,
  ⟨(some 19), .sliceArr 32 1 false false, [.t 5], none⟩,
  ⟨(some 20), .app 1 1, [.t 18, .t 19], none⟩,
  ⟨(some 21), .nilc, [.t 14], none⟩,
  ⟨(some 22), .faddr 0 1 false, [.t 21], none⟩,
  ⟨none, .store false 1, [.t 22, .t 20], none⟩]
def c_code_Writer_Digest_r4 : List COper := a_code_Writer_Digest_r4
instance : Reg c_code_Writer_Digest_r4 a_code_Writer_Digest_r4 10 := ⟨rfl, rfl⟩
@[simp] def a_code_Writer_Digest_r5 : List COper := [
  ⟨(some 23), .bin .add, [.t 10, .c (.int .i64 1)], none⟩,
  ⟨(some 10), .mov, [.t 23], none⟩]
def c_code_Writer_Digest_r5 : List COper := a_code_Writer_Digest_r5
instance : Reg c_code_Writer_Digest_r5 a_code_Writer_Digest_r5 2 := ⟨rfl, rfl⟩
@[simp] def c_code_Writer_Digest : CCode :=
  .seq (.seq (.region c_code_Writer_Digest_r0 none [0, 1, 7]) (.cond (.t 7) (.ret) (.skip))) (.seq (.region c_code_Writer_Digest_r1 none [0, 8, 9, 10]) (.block 0 (.loop (.seq (.region c_code_Writer_Digest_r2 none [0, 8, 9, 10, 11]) (.seq (.cond (.t 11) (.skip) (.exit 0)) (.seq (.block 1 (.seq (.region c_code_Writer_Digest_r3 none [0, 5, 8, 9, 10]) (.region c_code_Writer_Digest_r4 (some ([0, 0, 2, 6, 14, 0, 62, 127, 255, 511], [])) [0, 8, 9, 10]))) (.region c_code_Writer_Digest_r5 none [0, 8, 9, 10])))))))
@[simp] def R_code_Writer_Digest : List CRes := []
theorem k_code_Writer_Digest : chkFn Tryd.prog fn_code_Writer_Digest c_code_Writer_Digest R_code_Writer_Digest 2 = true := by kernel_rfl
/-! wapentake/sha.Of -/
@[simp] def a_sha_Of_r0 : List COper := [
  ⟨(some 2), .alloc (.arr 1 (rep 32 (.v (.int .u8 0)))), [], none⟩]
def c_sha_Of_r0 : List COper := a_sha_Of_r0
instance : Reg c_sha_Of_r0 a_sha_Of_r0 1 := ⟨rfl, rfl⟩
@[simp] def a_sha_Of_r1 : List COper := [
  ⟨(some 13), .buildA 1 (rep 8 (.v (.int .u32 0))) (upTo 8), [.c (.int .u32 1779033703), .c (.int .u32 3144134277), .c (.int .u32 1013904242), .c (.int .u32 2773480762), .c (.int .u32 1359893119), .c (.int .u32 2600822924), .c (.int .u32 528734635), .c (.int .u32 1541459225)], none⟩,
  ⟨(some 3), .alloc (.arr 1 (rep 8 (.v (.int .u32 0)))), [], none⟩,
  ⟨none, .store true 8, [.t 3, .t 13], none⟩]
def c_sha_Of_r1 : List COper := a_sha_Of_r1
instance : Reg c_sha_Of_r1 a_sha_Of_r1 3 := ⟨rfl, rfl⟩
@[simp] def a_sha_Of_r2 : List COper := [
  ⟨(some 4), .alloc (.arr 1 (rep 64 (.v (.int .u8 0)))), [], none⟩]
def c_sha_Of_r2 : List COper := a_sha_Of_r2
instance : Reg c_sha_Of_r2 a_sha_Of_r2 1 := ⟨rfl, rfl⟩
@[simp] def a_sha_Of_r3 : List COper := [
  ⟨(some 5), .mov, [.c (.int .i64 0)], none⟩,
  ⟨(some 6), .mov, [.c (.int .i64 0)], none⟩]
def c_sha_Of_r3 : List COper := a_sha_Of_r3
instance : Reg c_sha_Of_r3 a_sha_Of_r3 2 := ⟨rfl, rfl⟩
@[simp] def a_sha_Of_r4 : List COper := [
  ⟨(some 14), .mov, [.t 0], none⟩,
  ⟨(some 15), .len, [.t 14], none⟩,
  ⟨(some 16), .mov, [.c (.int .i64 0)], none⟩]
def c_sha_Of_r4 : List COper := a_sha_Of_r4
instance : Reg c_sha_Of_r4 a_sha_Of_r4 3 := ⟨rfl, rfl⟩
@[simp] def a_sha_Of_r5 : List COper := [
  ⟨(some 17), .bin .lss, [.t 16, .t 15], none⟩]
def c_sha_Of_r5 : List COper := a_sha_Of_r5
instance : Reg c_sha_Of_r5 a_sha_Of_r5 1 := ⟨rfl, rfl⟩
@[simp] def a_sha_Of_r6 : List COper := [
  ⟨(some 18), .iaddr 1, [.t 14, .t 16], none⟩,
  ⟨(some 19), .load false 1, [.t 18], none⟩,
  ⟨(some 8), .mov, [.t 19], none⟩]
def c_sha_Of_r6 : List COper := a_sha_Of_r6
instance : Reg c_sha_Of_r6 a_sha_Of_r6 3 := ⟨rfl, rfl⟩
@[simp] def a_sha_Of_r7 : List COper := [
  ⟨(some 20), .mov, [.t 5], none⟩,
  ⟨(some 21), .mov, [.t 8], none⟩,
  ⟨(some 22), .len, [.t 21], none⟩,
  ⟨(some 23), .bin .add, [.t 20, .t 22], none⟩,
  ⟨(some 5), .mov, [.t 23], none⟩]
def c_sha_Of_r7 : List COper := a_sha_Of_r7
instance : Reg c_sha_Of_r7 a_sha_Of_r7 5 := ⟨rfl, rfl⟩
@[simp] def a_sha_Of_r8 : List COper := [
  ⟨(some 24), .mov, [.t 8], none⟩,
  ⟨(some 25), .len, [.t 24], none⟩,
  ⟨(some 26), .bin .gtr, [.t 25, .c (.int .i64 0)], none⟩]
def c_sha_Of_r8 : List COper := a_sha_Of_r8
instance : Reg c_sha_Of_r8 a_sha_Of_r8 3 := ⟨rfl, rfl⟩
@[simp] def a_sha_Of_r9 : List COper := [
  ⟨(some 27), .mov, [.t 6], none⟩,
  ⟨(some 28), .sliceArr 64 1 true false, [.t 4, .t 27], none⟩,
  ⟨(some 29), .mov, [.t 8], none⟩,
  ⟨(some 30), .copy 1, [.t 28, .t 29], none⟩,
  ⟨(some 9), .mov, [.t 30], none⟩]
def c_sha_Of_r9 : List COper := a_sha_Of_r9
instance : Reg c_sha_Of_r9 a_sha_Of_r9 5 := ⟨rfl, rfl⟩
@[simp] def a_sha_Of_r10 : List COper := [
  ⟨(some 31), .mov, [.t 6], none⟩,
  ⟨(some 32), .mov, [.t 9], none⟩,
  ⟨(some 33), .bin .add, [.t 31, .t 32], none⟩,
  ⟨(some 34), .mov, [.t 8], none⟩,
  ⟨(some 35), .mov, [.t 9], none⟩,
  ⟨(some 36), .slice 1 true false, [.t 34, .t 35], none⟩,
  ⟨(some 6), .mov, [.t 33], none⟩,
  ⟨(some 8), .mov, [.t 36], none⟩]
def c_sha_Of_r10 : List COper := a_sha_Of_r10
instance : Reg c_sha_Of_r10 a_sha_Of_r10 8 := ⟨rfl, rfl⟩
@[simp] def a_sha_Of_r11 : List COper := [
  ⟨(some 37), .mov, [.t 6], none⟩,
  ⟨(some 38), .bin .eql, [.t 37, .c (.int .i64 64)], none⟩]
def c_sha_Of_r11 : List COper := a_sha_Of_r11
instance : Reg c_sha_Of_r11 a_sha_Of_r11 2 := ⟨rfl, rfl⟩
@[simp] def a_sha_Of_r12 : List COper := [
  ⟨(some 39), .sliceArr 64 1 false false, [.t 4], none⟩,
  ⟨(some 40), .call fn_sha_state_block, [.t 3, .t 39], none⟩]
def c_sha_Of_r12 : List COper := a_sha_Of_r12
instance : Reg c_sha_Of_r12 a_sha_Of_r12 2 := ⟨rfl, rfl⟩
@[simp] def a_sha_Of_r13 : List COper := [
  ⟨(some 6), .mov, [.c (.int .i64 0)], none⟩]
def c_sha_Of_r13 : List COper := a_sha_Of_r13
instance : Reg c_sha_Of_r13 a_sha_Of_r13 1 := ⟨rfl, rfl⟩
@[simp] def a_sha_Of_r14 : List COper := [
  ⟨(some 41), .bin .add, [.t 16, .c (.int .i64 1)], none⟩,
  ⟨(some 16), .mov, [.t 41], none⟩]
def c_sha_Of_r14 : List COper := a_sha_Of_r14
instance : Reg c_sha_Of_r14 a_sha_Of_r14 2 := ⟨rfl, rfl⟩
@[simp] def a_sha_Of_r15 : List COper := [
  ⟨(some 42), .mov, [.t 6], none⟩,
  ⟨(some 43), .iaddrArr 64 1 false, [.t 4, .t 42], none⟩,
  ⟨none, .store false 1, [.t 43, .c (.int .u8 128)], none⟩]
def c_sha_Of_r15 : List COper := a_sha_Of_r15
instance : Reg c_sha_Of_r15 a_sha_Of_r15 3 := ⟨rfl, rfl⟩
@[simp] def a_sha_Of_r16 : List COper := [
  ⟨(some 44), .mov, [.t 6], none⟩,
  ⟨(some 45), .bin .add, [.t 44, .c (.int .i64 1)], none⟩,
  ⟨(some 46), .sliceArr 64 1 true false, [.t 4, .t 45], none⟩,
  ⟨none, .clear 1 (.v (.int .u8 0)), [.t 46], none⟩]
def c_sha_Of_r16 : List COper := a_sha_Of_r16
instance : Reg c_sha_Of_r16 a_sha_Of_r16 4 := ⟨rfl, rfl⟩
@[simp] def a_sha_Of_r17 : List COper := [
  ⟨(some 47), .mov, [.t 6], none⟩,
  ⟨(some 48), .bin .geq, [.t 47, .c (.int .i64 56)], none⟩]
def c_sha_Of_r17 : List COper := a_sha_Of_r17
instance : Reg c_sha_Of_r17 a_sha_Of_r17 2 := ⟨rfl, rfl⟩
@[simp] def a_sha_Of_r18 : List COper := [
  ⟨(some 49), .sliceArr 64 1 false false, [.t 4], none⟩,
  ⟨(some 50), .call fn_sha_state_block, [.t 3, .t 49], none⟩]
def c_sha_Of_r18 : List COper := a_sha_Of_r18
instance : Reg c_sha_Of_r18 a_sha_Of_r18 2 := ⟨rfl, rfl⟩
@[simp] def a_sha_Of_r19 : List COper := [
  ⟨(some 51), .sliceArr 64 1 false false, [.t 4], none⟩,
  ⟨none, .clear 1 (.v (.int .u8 0)), [.t 51], none⟩]
def c_sha_Of_r19 : List COper := a_sha_Of_r19
instance : Reg c_sha_Of_r19 a_sha_Of_r19 2 := ⟨rfl, rfl⟩
@[simp] def a_sha_Of_r20 : List COper := [
  ⟨(some 52), .mov, [.c (.int .i64 0)], none⟩]
def c_sha_Of_r20 : List COper := a_sha_Of_r20
instance : Reg c_sha_Of_r20 a_sha_Of_r20 1 := ⟨rfl, rfl⟩
@[simp] def a_sha_Of_r21 : List COper := [
  ⟨(some 53), .bin .lss, [.t 52, .c (.int .i64 8)], none⟩]
def c_sha_Of_r21 : List COper := a_sha_Of_r21
instance : Reg c_sha_Of_r21 a_sha_Of_r21 1 := ⟨rfl, rfl⟩
@[simp] def a_sha_Of_r22 : List COper := [
  ⟨(some 54), .mov, [.t 52], none⟩,
  ⟨(some 10), .mov, [.t 54], none⟩]
def c_sha_Of_r22 : List COper := a_sha_Of_r22
instance : Reg c_sha_Of_r22 a_sha_Of_r22 2 := ⟨rfl, rfl⟩
@[simp] def a_sha_Of_r23 : List COper := [
  ⟨(some 55), .mov, [.t 10], none⟩,
  ⟨(some 56), .bin .add, [.c (.int .i64 56), .t 55], none⟩,
  ⟨(some 57), .mov, [.t 5], none⟩,
  ⟨(some 58), .convI .u64, [.t 57], none⟩,
  ⟨(some 59), .bin .shl, [.t 58, .c (.int .u64 3)], none⟩,
  ⟨(some 60), .mov, [.t 10], none⟩,
  ⟨(some 61), .bin .mul, [.c (.int .i64 8), .t 60], none⟩,
  ⟨(some 62), .bin .sub, [.c (.int .i64 56), .t 61], none⟩,
  ⟨(some 63), .bin .shr, [.t 59, .t 62], none⟩,
  ⟨(some 64), .convI .u8, [.t 63], none⟩,
  ⟨(some 65), .iaddrArr 64 1 false, [.t 4, .t 56], none⟩,
  ⟨none, .store false 1, [.t 65, .t 64], none⟩]
def c_sha_Of_r23 : List COper := a_sha_Of_r23
instance : Reg c_sha_Of_r23 a_sha_Of_r23 12 := ⟨rfl, rfl⟩
@[simp] def a_sha_Of_r24 : List COper := [
  ⟨(some 66), .bin .add, [.t 52, .c (.int .i64 1)], none⟩,
  ⟨(some 52), .mov, [.t 66], none⟩]
def c_sha_Of_r24 : List COper := a_sha_Of_r24
instance : Reg c_sha_Of_r24 a_sha_Of_r24 2 := ⟨rfl, rfl⟩
@[simp] def a_sha_Of_r25 : List COper := [
  ⟨(some 67), .sliceArr 64 1 false false, [.t 4], none⟩,
  ⟨(some 68), .call fn_sha_state_block, [.t 3, .t 67], none⟩]
def c_sha_Of_r25 : List COper := a_sha_Of_r25
instance : Reg c_sha_Of_r25 a_sha_Of_r25 2 := ⟨rfl, rfl⟩
@[simp] def a_sha_Of_r26 : List COper := [
  ⟨(some 11), .alloc (.arr 1 (rep 32 (.v (.int .u8 0)))), [], none⟩]
def c_sha_Of_r26 : List COper := a_sha_Of_r26
instance : Reg c_sha_Of_r26 a_sha_Of_r26 1 := ⟨rfl, rfl⟩
@[simp] def a_sha_Of_r27 : List COper := [
  ⟨(some 69), .mov, [.c (.int .i64 0)], none⟩]
def c_sha_Of_r27 : List COper := a_sha_Of_r27
instance : Reg c_sha_Of_r27 a_sha_Of_r27 1 := ⟨rfl, rfl⟩
@[simp] def a_sha_Of_r28 : List COper := [
  ⟨(some 70), .bin .lss, [.t 69, .c (.int .i64 32)], none⟩]
def c_sha_Of_r28 : List COper := a_sha_Of_r28
instance : Reg c_sha_Of_r28 a_sha_Of_r28 1 := ⟨rfl, rfl⟩
@[simp] def a_sha_Of_r29 : List COper := [
  ⟨(some 71), .mov, [.t 69], none⟩,
  ⟨(some 12), .mov, [.t 71], none⟩]
def c_sha_Of_r29 : List COper := a_sha_Of_r29
instance : Reg c_sha_Of_r29 a_sha_Of_r29 2 := ⟨rfl, rfl⟩
@[simp] def a_sha_Of_r30 : List COper := [
  ⟨(some 72), .mov, [.t 12], none⟩,
  ⟨(some 73), .mov, [.t 12], none⟩,
  ⟨(some 74), .bin .quo, [.t 73, .c (.int .i64 4)], none⟩,
  ⟨(some 75), .iaddrArr 8 1 false, [.t 3, .t 74], none⟩,
  ⟨(some 76), .load false 1, [.t 75], none⟩,
  ⟨(some 77), .mov, [.t 12], none⟩,
  ⟨(some 78), .bin .rem, [.t 77, .c (.int .i64 4)], none⟩,
  ⟨(some 79), .bin .mul, [.c (.int .i64 8), .t 78], none⟩,
  ⟨(some 80), .bin .sub, [.c (.int .i64 24), .t 79], none⟩,
  ⟨(some 81), .bin .shr, [.t 76, .t 80], none⟩,
  ⟨(some 82), .convI .u8, [.t 81], none⟩,
  ⟨(some 83), .iaddrArr 32 1 false, [.t 11, .t 72], none⟩,
  ⟨none, .store false 1, [.t 83, .t 82], none⟩]
def c_sha_Of_r30 : List COper := a_sha_Of_r30
instance : Reg c_sha_Of_r30 a_sha_Of_r30 13 := ⟨rfl, rfl⟩
@[simp] def a_sha_Of_r31 : List COper := [
  ⟨(some 84), .bin .add, [.t 69, .c (.int .i64 1)], none⟩,
  ⟨(some 69), .mov, [.t 84], none⟩]
def c_sha_Of_r31 : List COper := a_sha_Of_r31
instance : Reg c_sha_Of_r31 a_sha_Of_r31 2 := ⟨rfl, rfl⟩
@[simp] def a_sha_Of_r32 : List COper := [
  ⟨(some 85), .load true 32, [.t 11], none⟩,
  ⟨none, .store true 32, [.t 2, .t 85], none⟩]
def c_sha_Of_r32 : List COper := a_sha_Of_r32
instance : Reg c_sha_Of_r32 a_sha_Of_r32 2 := ⟨rfl, rfl⟩
@[simp] def c_sha_Of : CCode :=
  .seq (.region c_sha_Of_r0 none [0, 2]) (.seq (.region c_sha_Of_r1 none [0, 2, 3]) (.seq (.region c_sha_Of_r2 none [0, 2, 3, 4]) (.seq (.region c_sha_Of_r3 none [0, 2, 3, 4, 5, 6]) (.seq (.seq (.region c_sha_Of_r4 none [2, 3, 4, 5, 6, 14, 15, 16]) (.block 0 (.loop (.seq (.region c_sha_Of_r5 none [2, 3, 4, 5, 6, 14, 15, 16, 17]) (.seq (.cond (.t 17) (.skip) (.exit 0)) (.seq (.block 1 (.seq (.region c_sha_Of_r6 none [2, 3, 4, 5, 6, 8, 14, 15, 16]) (.seq (.region c_sha_Of_r7 none [2, 3, 4, 5, 6, 8, 14, 15, 16]) (.block 2 (.loop (.seq (.seq (.region c_sha_Of_r8 none [2, 3, 4, 5, 6, 8, 14, 15, 16, 26]) (.cond (.t 26) (.skip) (.exit 2))) (.block 3 (.seq (.region c_sha_Of_r9 none [2, 3, 4, 5, 6, 8, 9, 14, 15, 16]) (.seq (.region c_sha_Of_r10 (some ([0, 0, 3, 0, 0, 24, 7, 127], [])) [2, 3, 4, 5, 6, 8, 14, 15, 16]) (.seq (.region c_sha_Of_r11 none [2, 3, 4, 5, 6, 8, 14, 15, 16, 38]) (.cond (.t 38) (.seq (.region c_sha_Of_r12 none [2, 3, 4, 5, 8, 14, 15, 16]) (.region c_sha_Of_r13 none [2, 3, 4, 5, 6, 8, 14, 15, 16])) (.skip)))))))))))) (.region c_sha_Of_r14 none [2, 3, 4, 5, 6, 14, 15, 16]))))))) (.seq (.region c_sha_Of_r15 none [2, 3, 4, 5, 6]) (.seq (.region c_sha_Of_r16 none [2, 3, 4, 5, 6]) (.seq (.seq (.region c_sha_Of_r17 none [2, 3, 4, 5, 48]) (.cond (.t 48) (.seq (.region c_sha_Of_r18 none [2, 3, 4, 5]) (.region c_sha_Of_r19 none [2, 3, 4, 5])) (.skip))) (.seq (.seq (.region c_sha_Of_r20 none [2, 3, 4, 5, 52]) (.block 4 (.loop (.seq (.region c_sha_Of_r21 none [2, 3, 4, 5, 52, 53]) (.seq (.cond (.t 53) (.skip) (.exit 4)) (.seq (.block 5 (.seq (.region c_sha_Of_r22 none [2, 3, 4, 5, 10, 52]) (.region c_sha_Of_r23 none [2, 3, 4, 5, 52]))) (.region c_sha_Of_r24 none [2, 3, 4, 5, 52]))))))) (.seq (.region c_sha_Of_r25 none [2, 3]) (.seq (.region c_sha_Of_r26 none [2, 3, 11]) (.seq (.seq (.region c_sha_Of_r27 none [2, 3, 11, 69]) (.block 6 (.loop (.seq (.region c_sha_Of_r28 none [2, 3, 11, 69, 70]) (.seq (.cond (.t 70) (.skip) (.exit 6)) (.seq (.block 7 (.seq (.region c_sha_Of_r29 none [2, 3, 11, 12, 69]) (.region c_sha_Of_r30 none [2, 3, 11, 69]))) (.region c_sha_Of_r31 none [2, 3, 11, 69]))))))) (.seq (.region c_sha_Of_r32 none [2]) (.ret)))))))))))))
@[simp] def R_sha_Of : List CRes := [.cell 2 true 32]
theorem k_sha_Of : chkFn Tryd.prog fn_sha_Of c_sha_Of R_sha_Of 1 = true := by kernel_rfl
/-! wapentake/block.Good -/
@[simp] def a_block_Good_r0 : List COper := [
  ⟨(some 1), .box, [.t 0], none⟩,
  ⟨(some 2), .mov, [.c (.bool false)], none⟩]
def c_block_Good_r0 : List COper := a_block_Good_r0
instance : Reg c_block_Good_r0 a_block_Good_r0 2 := ⟨rfl, rfl⟩
@[simp] def a_block_Good_r1 : List COper := [
  ⟨(some 5), .faddr 0 1 false, [.t 1], none⟩,
  ⟨(some 6), .load false 1, [.t 5], none⟩,
  ⟨(some 7), .bin .lss, [.t 6, .c (.int .i64 0)], none⟩,
  ⟨(some 8), .mov, [.t 7], none⟩,
  ⟨(some 9), .faddr 0 1 false, [.t 1], (some (8, false))⟩,
  ⟨(some 10), .load false 1, [.t 9], (some (8, false))⟩,
  ⟨(some 11), .bin .gtr, [.t 10, .c (.int .i64 1073741824)], (some (8, false))⟩,
  ⟨(some 12), .pick, [.t 8, .c (.bool true), .t 11], none⟩,
  ⟨(some 13), .mov, [.t 12], none⟩,
  ⟨(some 14), .faddr 1 1 false, [.t 1], (some (13, false))⟩,
  ⟨(some 15), .load false 1, [.t 14], (some (13, false))⟩,
  ⟨(some 16), .bin .lss, [.t 15, .c (.int .i64 1)], (some (13, false))⟩,
  ⟨(some 17), .pick, [.t 13, .c (.bool true), .t 16], none⟩,
  ⟨(some 18), .mov, [.t 17], none⟩,
  ⟨(some 19), .faddr 1 1 false, [.t 1], (some (18, false))⟩,
  ⟨(some 20), .load false 1, [.t 19], (some (18, false))⟩,
  ⟨(some 21), .bin .gtr, [.t 20, .c (.int .i64 1024)], (some (18, false))⟩,
  ⟨(some 22), .pick, [.t 18, .c (.bool true), .t 21], none⟩,
  ⟨(some 23), .mov, [.t 22], none⟩,
  ⟨(some 24), .faddr 98 1 false, [.t 1], (some (23, false))⟩,
  ⟨(some 25), .load false 1, [.t 24], (some (23, false))⟩,
  ⟨(some 26), .len, [.t 25], (some (23, false))⟩,
  ⟨(some 27), .bin .gtr, [.t 26, .c (.int .i64 8)], (some (23, false))⟩,
  ⟨(some 28), .pick, [.t 23, .c (.bool true), .t 27], none⟩]
def c_block_Good_r1 : List COper := a_block_Good_r1
instance : Reg c_block_Good_r1 a_block_Good_r1 24 := ⟨rfl, rfl⟩
@[simp] def a_block_Good_r2 : List COper := [
  ⟨(some 2), .mov, [.c (.bool false)], none⟩]
def c_block_Good_r2 : List COper := a_block_Good_r2
instance : Reg c_block_Good_r2 a_block_Good_r2 1 := ⟨rfl, rfl⟩
@[simp] def a_block_Good_r3 : List COper := [
  ⟨(some 29), .faddr 98 1 false, [.t 1], none⟩,
  ⟨(some 30), .load false 1, [.t 29], none⟩,
  ⟨(some 31), .len, [.t 30], none⟩,
  ⟨(some 32), .mov, [.c (.int .i64 0)], none⟩]
def c_block_Good_r3 : List COper := a_block_Good_r3
instance : Reg c_block_Good_r3 a_block_Good_r3 4 := ⟨rfl, rfl⟩
@[simp] def a_block_Good_r4 : List COper := [
  ⟨(some 33), .bin .lss, [.t 32, .t 31], none⟩]
def c_block_Good_r4 : List COper := a_block_Good_r4
instance : Reg c_block_Good_r4 a_block_Good_r4 1 := ⟨rfl, rfl⟩
@[simp] def a_block_Good_r5 : List COper := [
  ⟨(some 34), .iaddr 42, [.t 30, .t 32], none⟩,
  ⟨(some 35), .load true 42, [.t 34], none⟩,
  ⟨(some 4), .alloc (.node [.v (.int .i64 0), .v (.int .i64 0), .node [.v (.int .i64 0), .v (.string (mkS [])), .v (.string (mkS [])), .v (.string (mkS [])), .node [.v (.int .i64 0), .v (.int .i64 0), .v (.int .i64 0), .node [.arr 1 (rep 32 (.v (.int .u8 0))), .v (.int .i64 0)]]]]), [], none⟩,
  ⟨none, .store true 42, [.t 4, .t 35], none⟩]
def c_block_Good_r5 : List COper := a_block_Good_r5
instance : Reg c_block_Good_r5 a_block_Good_r5 4 := ⟨rfl, rfl⟩
@[simp] def a_block_Good_r6 : List COper := [
  ⟨(some 36), .load true 42, [.t 4], none⟩,
  ⟨(some 37), .call fn_request_Good, [.t 36], none⟩,
  ⟨(some 38), .not, [.t 37], none⟩]
def c_block_Good_r6 : List COper := a_block_Good_r6
instance : Reg c_block_Good_r6 a_block_Good_r6 3 := ⟨rfl, rfl⟩
@[simp] def a_block_Good_r7 : List COper := [
  ⟨(some 2), .mov, [.c (.bool false)], none⟩]
def c_block_Good_r7 : List COper := a_block_Good_r7
instance : Reg c_block_Good_r7 a_block_Good_r7 1 := ⟨rfl, rfl⟩
@[simp] def a_block_Good_r8 : List COper := [
  ⟨(some 39), .bin .add, [.t 32, .c (.int .i64 1)], none⟩,
  ⟨(some 32), .mov, [.t 39], none⟩]
def c_block_Good_r8 : List COper := a_block_Good_r8
instance : Reg c_block_Good_r8 a_block_Good_r8 2 := ⟨rfl, rfl⟩
@[simp] def a_block_Good_r9 : List COper := [
  ⟨(some 2), .mov, [.c (.bool true)], none⟩]
def c_block_Good_r9 : List COper := a_block_Good_r9
instance : Reg c_block_Good_r9 a_block_Good_r9 1 := ⟨rfl, rfl⟩
@[simp] def c_block_Good : CCode :=
  .seq (.region c_block_Good_r0 none [1]) (.seq (.seq (.region c_block_Good_r1 none [1, 28]) (.cond (.t 28) (.seq (.region c_block_Good_r2 none [2]) (.ret)) (.skip))) (.seq (.seq (.region c_block_Good_r3 none [30, 31, 32]) (.block 0 (.loop (.seq (.region c_block_Good_r4 none [30, 31, 32, 33]) (.seq (.cond (.t 33) (.skip) (.exit 0)) (.seq (.block 1 (.seq (.region c_block_Good_r5 none [4, 30, 31, 32]) (.seq (.region c_block_Good_r6 none [30, 31, 32, 38]) (.cond (.t 38) (.seq (.region c_block_Good_r7 none [2]) (.ret)) (.skip))))) (.region c_block_Good_r8 none [30, 31, 32]))))))) (.seq (.region c_block_Good_r9 none [2]) (.ret))))
@[simp] def R_block_Good : List CRes := [.tmp 2]
theorem k_block_Good : chkFn Tryd.prog fn_block_Good c_block_Good R_block_Good 1 = true := by kernel_rfl
/-! wapentake/block.Follows -/
@[simp] def a_block_Follows_r0 : List COper := [
  ⟨(some 5), .box, [.t 0], none⟩,
  ⟨(some 8), .box, [.t 3], none⟩,
  ⟨(some 9), .box, [.t 4], none⟩,
  ⟨(some 10), .mov, [.c (.bool false)], none⟩]
def c_block_Follows_r0 : List COper := a_block_Follows_r0
instance : Reg c_block_Follows_r0 a_block_Follows_r0 4 := ⟨rfl, rfl⟩
@[simp] def a_block_Follows_r1 : List COper := [
  ⟨(some 11), .load true 99, [.t 5], none⟩,
  ⟨(some 12), .call fn_block_Good, [.t 11], none⟩,
  ⟨(some 13), .mov, [.t 12], none⟩,
  ⟨(some 14), .faddr 0 1 false, [.t 5], (some (13, true))⟩,
  ⟨(some 15), .load false 1, [.t 14], (some (13, true))⟩,
  ⟨(some 16), .mov, [.t 1], (some (13, true))⟩,
  ⟨(some 17), .bin .eql, [.t 15, .t 16], (some (13, true))⟩,
  ⟨(some 18), .pick, [.t 13, .t 17, .c (.bool false)], none⟩,
  ⟨(some 19), .mov, [.t 18], none⟩,
  ⟨(some 20), .faddr 1 1 false, [.t 5], (some (19, true))⟩,
  ⟨(some 21), .load false 1, [.t 20], (some (19, true))⟩,
  ⟨(some 22), .mov, [.t 2], (some (19, true))⟩,
  ⟨(some 23), .bin .eql, [.t 21, .t 22], (some (19, true))⟩,
  ⟨(some 24), .pick, [.t 19, .t 23, .c (.bool false)], none⟩,
  ⟨(some 25), .mov, [.t 24], none⟩,
  ⟨(some 26), .faddr 2 32 true, [.t 5], (some (25, true))⟩,
  ⟨(some 27), .load true 32, [.t 26], (some (25, true))⟩,
  ⟨(some 28), .load true 32, [.t 8], (some (25, true))⟩,
  ⟨(some 29), .eqa false .u8 32, [.t 27, .t 28], (some (25, true))⟩,
  ⟨(some 30), .pick, [.t 25, .t 29, .c (.bool false)], none⟩,
  ⟨(some 31), .mov, [.t 30], none⟩,
  ⟨(some 32), .faddr 34 32 true, [.t 5], (some (31, true))⟩,
  ⟨(some 33), .load true 32, [.t 32], (some (31, true))⟩,
  ⟨(some 34), .load true 32, [.t 9], (some (31, true))⟩,
  ⟨(some 35), .eqa false .u8 32, [.t 33, .t 34], (some (31, true))⟩,
  ⟨(some 36), .pick, [.t 31, .t 35, .c (.bool false)], none⟩,
  ⟨(some 10), .mov, [.t 36], none⟩]
def c_block_Follows_r1 : List COper := a_block_Follows_r1
instance : Reg c_block_Follows_r1 a_block_Follows_r1 27 := ⟨rfl, rfl⟩
@[simp] def c_block_Follows : CCode :=
  .seq (.region c_block_Follows_r0 none [1, 2, 5, 8, 9]) (.seq (.region c_block_Follows_r1 none [10]) (.ret))
@[simp] def R_block_Follows : List CRes := [.tmp 10]
theorem k_block_Follows : chkFn Tryd.prog fn_block_Follows c_block_Follows R_block_Follows 5 = true := by kernel_rfl
/-! wapentake/tree.Path -/
@[simp] def a_tree_Path_r0 : List COper := [
  ⟨(some 4), .mov, [.c (.slice none 0 0)], none⟩,
  ⟨(some 5), .mov, [.c (.bool false)], none⟩]
def c_tree_Path_r0 : List COper := a_tree_Path_r0
instance : Reg c_tree_Path_r0 a_tree_Path_r0 2 := ⟨rfl, rfl⟩
@[simp] def a_tree_Path_r1 : List COper := [
  ⟨(some 9), .mov, [.t 0], none⟩,
  ⟨(some 10), .bin .lss, [.t 9, .c (.int .i64 0)], none⟩,
  ⟨(some 11), .mov, [.t 10], none⟩,
  ⟨(some 12), .mov, [.t 0], (some (11, false))⟩,
  ⟨(some 13), .mov, [.t 1], (some (11, false))⟩,
  ⟨(some 14), .len, [.t 13], (some (11, false))⟩,
  ⟨(some 15), .bin .geq, [.t 12, .t 14], (some (11, false))⟩,
  ⟨(some 16), .pick, [.t 11, .c (.bool true), .t 15], none⟩]
def c_tree_Path_r1 : List COper := a_tree_Path_r1
instance : Reg c_tree_Path_r1 a_tree_Path_r1 8 := ⟨rfl, rfl⟩
@[simp] def a_tree_Path_r2 : List COper := [
  ⟨(some 4), .mov, [.c (.slice none 0 0)], none⟩,
  ⟨(some 5), .mov, [.c (.bool false)], none⟩]
def c_tree_Path_r2 : List COper := a_tree_Path_r2
instance : Reg c_tree_Path_r2 a_tree_Path_r2 2 := ⟨rfl, rfl⟩
@[simp] def a_tree_Path_r3 : List COper := [
  ⟨(some 6), .mov, [.c (.slice none 0 0)], none⟩]
def c_tree_Path_r3 : List COper := a_tree_Path_r3
instance : Reg c_tree_Path_r3 a_tree_Path_r3 1 := ⟨rfl, rfl⟩
@[simp] def a_tree_Path_r4 : List COper := [
  ⟨(some 17), .bslice 32 0 (.arr 1 (rep 32 (.v (.int .u8 0)))) [], [], none⟩,
  ⟨(some 18), .mov, [.t 1], none⟩,
  ⟨(some 19), .app 32 32, [.t 17, .t 18], none⟩,
  ⟨(some 7), .mov, [.t 19], none⟩]
def c_tree_Path_r4 : List COper := a_tree_Path_r4
instance : Reg c_tree_Path_r4 a_tree_Path_r4 4 := ⟨rfl, rfl⟩
@[simp] def a_tree_Path_r5 : List COper := [
  ⟨(some 20), .mov, [.t 7], none⟩,
  ⟨(some 21), .len, [.t 20], none⟩,
  ⟨(some 22), .bin .gtr, [.t 21, .c (.int .i64 1)], none⟩]
def c_tree_Path_r5 : List COper := a_tree_Path_r5
instance : Reg c_tree_Path_r5 a_tree_Path_r5 3 := ⟨rfl, rfl⟩
@[simp] def a_tree_Path_r7 : List COper := [
  ⟨(some 27), .mov, [.t 0], none⟩,
  ⟨(some 28), .bin .xor, [.t 27, .c (.int .i64 1)], none⟩,
  ⟨(some 8), .mov, [.t 28], none⟩]
def c_tree_Path_r7 : List COper := a_tree_Path_r7
instance : Reg c_tree_Path_r7 a_tree_Path_r7 3 := ⟨rfl, rfl⟩
@[simp] def a_tree_Path_r8 : List COper := [
  ⟨(some 29), .mov, [.t 8], none⟩,
  ⟨(some 30), .mov, [.t 7], none⟩,
  ⟨(some 31), .len, [.t 30], none⟩,
  ⟨(some 32), .bin .lss, [.t 29, .t 31], none⟩]
def c_tree_Path_r8 : List COper := a_tree_Path_r8
instance : Reg c_tree_Path_r8 a_tree_Path_r8 4 := ⟨rfl, rfl⟩
@[simp] def a_tree_Path_r9 : List COper := [
  ⟨(some 33), .mov, [.t 6], none⟩,
  ⟨(some 34), .mov, [.t 7], none⟩,
  ⟨(some 35), .mov, [.t 8], none⟩,
  ⟨(some 36), .iaddr 32, [.t 34, .t 35], none⟩,
  ⟨(some 37), .load true 32, [.t 36], none⟩,
  ⟨(some 38), .bslice 32 1 (.arr 1 (rep 32 (.v (.int .u8 0)))) [0], [.t 37], none⟩,
  ⟨(some 39), .app 32 32, [.t 33, .t 38], none⟩,
  ⟨(some 6), .mov, [.t 39], none⟩]
def c_tree_Path_r9 : List COper := a_tree_Path_r9
instance : Reg c_tree_Path_r9 a_tree_Path_r9 8 := ⟨rfl, rfl⟩
@[simp] def a_tree_Path_r6 : List COper := [
  ⟨(some 23), .mov, [.t 7], none⟩,
  ⟨(some 24), .call fn_tree_up, [.t 23], none⟩,
  ⟨(some 25), .mov, [.t 0], none⟩,
  ⟨(some 26), .bin .quo, [.t 25, .c (.int .i64 2)], none⟩,
  ⟨(some 7), .mov, [.t 24], none⟩,
  ⟨(some 0), .mov, [.t 26], none⟩]
def c_tree_Path_r6 : List COper := a_tree_Path_r6
instance : Reg c_tree_Path_r6 a_tree_Path_r6 6 := ⟨rfl, rfl⟩
@[simp] def a_tree_Path_r10 : List COper := [
  ⟨(some 40), .mov, [.t 6], none⟩,
  ⟨(some 4), .mov, [.t 40], none⟩,
  ⟨(some 5), .mov, [.c (.bool true)], none⟩]
def c_tree_Path_r10 : List COper := a_tree_Path_r10
instance : Reg c_tree_Path_r10 a_tree_Path_r10 3 := ⟨rfl, rfl⟩
@[simp] def c_tree_Path : CCode :=
  .seq (.region c_tree_Path_r0 none [0, 1]) (.seq (.seq (.region c_tree_Path_r1 none [0, 1, 16]) (.cond (.t 16) (.seq (.region c_tree_Path_r2 none [4, 5]) (.ret)) (.skip))) (.seq (.region c_tree_Path_r3 none [0, 1, 6]) (.seq (.region c_tree_Path_r4 none [0, 6, 7]) (.seq (.block 0 (.loop (.seq (.seq (.region c_tree_Path_r5 none [0, 6, 7, 22]) (.cond (.t 22) (.skip) (.exit 0))) (.seq (.block 1 (.seq (.region c_tree_Path_r7 none [0, 6, 7, 8]) (.seq (.region c_tree_Path_r8 none [0, 6, 7, 8, 32]) (.cond (.t 32) (.region c_tree_Path_r9 none [0, 6, 7]) (.skip))))) (.region c_tree_Path_r6 none [0, 6, 7]))))) (.seq (.region c_tree_Path_r10 none [4, 5]) (.ret))))))
@[simp] def R_tree_Path : List CRes := [.tmp 4, .tmp 5]
theorem k_tree_Path : chkFn Tryd.prog fn_tree_Path c_tree_Path R_tree_Path 2 = true := by kernel_rfl
/-! wapentake/once.Sign -/
@[simp] def a_once_Sign_r0 : List COper := [
  ⟨(some 3), .box, [.t 0], none⟩,
  ⟨(some 5), .box, [.t 2], none⟩,
  ⟨(some 6), .alloc (.node [.v (.slice none 0 0), .v (.slice none 0 0)]), [], none⟩]
def c_once_Sign_r0 : List COper := a_once_Sign_r0
instance : Reg c_once_Sign_r0 a_once_Sign_r0 3 := ⟨rfl, rfl⟩
@[simp] def a_once_Sign_r1 : List COper := [
  ⟨(some 7), .alloc (.node [.v (.slice none 0 0), .v (.slice none 0 0)]), [], none⟩]
def c_once_Sign_r1 : List COper := a_once_Sign_r1
instance : Reg c_once_Sign_r1 a_once_Sign_r1 1 := ⟨rfl, rfl⟩
@[simp] def a_once_Sign_r2 : List COper := [
  ⟨(some 10), .mov, [.c (.int .i64 0)], none⟩]
def c_once_Sign_r2 : List COper := a_once_Sign_r2
instance : Reg c_once_Sign_r2 a_once_Sign_r2 1 := ⟨rfl, rfl⟩
@[simp] def a_once_Sign_r3 : List COper := [
  ⟨(some 11), .bin .lss, [.t 10, .c (.int .i64 32)], none⟩]
def c_once_Sign_r3 : List COper := a_once_Sign_r3
instance : Reg c_once_Sign_r3 a_once_Sign_r3 1 := ⟨rfl, rfl⟩
@[simp] def a_once_Sign_r4 : List COper := [
  ⟨(some 12), .mov, [.t 10], none⟩,
  ⟨(some 8), .mov, [.t 12], none⟩]
def c_once_Sign_r4 : List COper := a_once_Sign_r4
instance : Reg c_once_Sign_r4 a_once_Sign_r4 2 := ⟨rfl, rfl⟩
@[simp] def a_once_Sign_r5 : List COper := [
  ⟨(some 13), .load true 32, [.t 5], none⟩,
  ⟨(some 14), .mov, [.t 8], none⟩,
  ⟨(some 15), .call fn_once_bit, [.t 13, .t 14], none⟩,
  ⟨(some 9), .mov, [.t 15], none⟩]
def c_once_Sign_r5 : List COper := a_once_Sign_r5
instance : Reg c_once_Sign_r5 a_once_Sign_r5 4 := ⟨rfl, rfl⟩
@[simp] def a_once_Sign_r6 : List COper := [
  ⟨(some 16), .faddr 0 1 false, [.t 7], none⟩,
  ⟨(some 17), .load false 1, [.t 16], none⟩,
  ⟨(some 18), .load true 32, [.t 3], none⟩,
  ⟨(some 19), .mov, [.t 1], none⟩,
  ⟨(some 20), .mov, [.t 8], none⟩,
  ⟨(some 21), .mov, [.t 9], none⟩,
  ⟨(some 22), .call fn_once_secret, [.t 18, .t 19, .t 20, .t 21], none⟩,
  ⟨(some 23), .bslice 32 1 (.arr 1 (rep 32 (.v (.int .u8 0)))) [0], [.t 22], none⟩,
  ⟨(some 24), .app 32 32, [.t 17, .t 23], none⟩,
  ⟨(some 25), .faddr 0 1 false, [.t 7], none⟩,
  ⟨none, .store false 1, [.t 25, .t 24], none⟩]
def c_once_Sign_r6 : List COper := a_once_Sign_r6
instance : Reg c_once_Sign_r6 a_once_Sign_r6 11 := ⟨rfl, rfl⟩
@[simp] def a_once_Sign_r7 : List COper := [
  ⟨(some 26), .faddr 1 1 false, [.t 7], none⟩,
  ⟨(some 27), .load false 1, [.t 26], none⟩,
  ⟨(some 28), .load true 32, [.t 3], none⟩,
  ⟨(some 29), .mov, [.t 1], none⟩,
  ⟨(some 30), .mov, [.t 8], none⟩,
  ⟨(some 31), .mov, [.t 9], none⟩,
  ⟨(some 32), .bin .sub, [.c (.int .i64 1), .t 31], none⟩,
  ⟨(some 33), .call fn_once_secret, [.t 28, .t 29, .t 30, .t 32], none⟩,
  ⟨(some 34), .call fn_once_shut, [.t 33], none⟩,
  ⟨(some 35), .bslice 32 1 (.arr 1 (rep 32 (.v (.int .u8 0)))) [0], [.t 34], none⟩,
  ⟨(some 36), .app 32 32, [.t 27, .t 35], none⟩,
  ⟨(some 37), .faddr 1 1 false, [.t 7], none⟩,
  ⟨none, .store false 1, [.t 37, .t 36], none⟩]
def c_once_Sign_r7 : List COper := a_once_Sign_r7
instance : Reg c_once_Sign_r7 a_once_Sign_r7 13 := ⟨rfl, rfl⟩
@[simp] def a_once_Sign_r8 : List COper := [
  ⟨(some 38), .bin .add, [.t 10, .c (.int .i64 1)], none⟩,
  ⟨(some 10), .mov, [.t 38], none⟩]
def c_once_Sign_r8 : List COper := a_once_Sign_r8
instance : Reg c_once_Sign_r8 a_once_Sign_r8 2 := ⟨rfl, rfl⟩
@[simp] def a_once_Sign_r9 : List COper := [
  ⟨(some 39), .load true 2, [.t 7], none⟩,
  ⟨none, .store true 2, [.t 6, .t 39], none⟩]
def c_once_Sign_r9 : List COper := a_once_Sign_r9
instance : Reg c_once_Sign_r9 a_once_Sign_r9 2 := ⟨rfl, rfl⟩
@[simp] def c_once_Sign : CCode :=
  .seq (.region c_once_Sign_r0 none [1, 3, 5, 6]) (.seq (.region c_once_Sign_r1 none [1, 3, 5, 6, 7]) (.seq (.seq (.region c_once_Sign_r2 none [1, 3, 5, 6, 7, 10]) (.block 0 (.loop (.seq (.region c_once_Sign_r3 none [1, 3, 5, 6, 7, 10, 11]) (.seq (.cond (.t 11) (.skip) (.exit 0)) (.seq (.block 1 (.seq (.region c_once_Sign_r4 none [1, 3, 5, 6, 7, 8, 10]) (.seq (.region c_once_Sign_r5 none [1, 3, 5, 6, 7, 8, 9, 10]) (.seq (.region c_once_Sign_r6 (some ([0, 1, 0, 0, 0, 0, 60, 124, 255, 511, 1023], [(1, 6), (1, 7)])) [1, 3, 5, 6, 7, 8, 9, 10]) (.region c_once_Sign_r7 (some ([0, 1, 0, 0, 0, 0, 32, 124, 252, 508, 1023, 2047, 4095], [(1, 7), (1, 8), (1, 9)])) [1, 3, 5, 6, 7, 10]))))) (.region c_once_Sign_r8 none [1, 3, 5, 6, 7, 10]))))))) (.seq (.region c_once_Sign_r9 none [6]) (.ret))))
@[simp] def R_once_Sign : List CRes := [.cell 6 true 2]
theorem k_once_Sign : chkFn Tryd.prog fn_once_Sign c_once_Sign R_once_Sign 3 = true := by kernel_rfl
/-! wapentake/tree.Root -/
@[simp] def a_tree_Root_r0 : List COper := [
  ⟨(some 2), .alloc (.arr 1 (rep 32 (.v (.int .u8 0)))), [], none⟩]
def c_tree_Root_r0 : List COper := a_tree_Root_r0
instance : Reg c_tree_Root_r0 a_tree_Root_r0 1 := ⟨rfl, rfl⟩
@[simp] def a_tree_Root_r1 : List COper := [
  ⟨(some 4), .mov, [.t 0], none⟩,
  ⟨(some 5), .len, [.t 4], none⟩,
  ⟨(some 6), .bin .eql, [.t 5, .c (.int .i64 0)], none⟩]
def c_tree_Root_r1 : List COper := a_tree_Root_r1
instance : Reg c_tree_Root_r1 a_tree_Root_r1 3 := ⟨rfl, rfl⟩
@[simp] def a_tree_Root_r2 : List COper := [
  ⟨(some 7), .call fn_sha_Of, [.c (.slice none 0 0)], none⟩,
  ⟨none, .store true 32, [.t 2, .t 7], none⟩]
def c_tree_Root_r2 : List COper := a_tree_Root_r2
instance : Reg c_tree_Root_r2 a_tree_Root_r2 2 := ⟨rfl, rfl⟩
@[simp] def a_tree_Root_r3 : List COper := [
  ⟨(some 8), .bslice 32 0 (.arr 1 (rep 32 (.v (.int .u8 0)))) [], [], none⟩,
  ⟨(some 9), .mov, [.t 0], none⟩,
  ⟨(some 10), .app 32 32, [.t 8, .t 9], none⟩,
  ⟨(some 3), .mov, [.t 10], none⟩]
def c_tree_Root_r3 : List COper := a_tree_Root_r3
instance : Reg c_tree_Root_r3 a_tree_Root_r3 4 := ⟨rfl, rfl⟩
@[simp] def a_tree_Root_r4 : List COper := [
  ⟨(some 11), .mov, [.t 3], none⟩,
  ⟨(some 12), .len, [.t 11], none⟩,
  ⟨(some 13), .bin .gtr, [.t 12, .c (.int .i64 1)], none⟩]
def c_tree_Root_r4 : List COper := a_tree_Root_r4
instance : Reg c_tree_Root_r4 a_tree_Root_r4 3 := ⟨rfl, rfl⟩
@[simp] def a_tree_Root_r5 : List COper := [
  ⟨(some 14), .mov, [.t 3], none⟩,
  ⟨(some 15), .call fn_tree_up, [.t 14], none⟩,
  ⟨(some 3), .mov, [.t 15], none⟩]
def c_tree_Root_r5 : List COper := a_tree_Root_r5
instance : Reg c_tree_Root_r5 a_tree_Root_r5 3 := ⟨rfl, rfl⟩
@[simp] def a_tree_Root_r6 : List COper := [
  ⟨(some 16), .mov, [.t 3], none⟩,
  ⟨(some 17), .iaddr 32, [.t 16, .c (.int .i64 0)], none⟩,
  ⟨(some 18), .load true 32, [.t 17], none⟩,
  ⟨none, .store true 32, [.t 2, .t 18], none⟩]
def c_tree_Root_r6 : List COper := a_tree_Root_r6
instance : Reg c_tree_Root_r6 a_tree_Root_r6 4 := ⟨rfl, rfl⟩
@[simp] def c_tree_Root : CCode :=
  .seq (.region c_tree_Root_r0 none [0, 2]) (.seq (.seq (.region c_tree_Root_r1 none [0, 2, 6]) (.cond (.t 6) (.seq (.region c_tree_Root_r2 none [2]) (.ret)) (.skip))) (.seq (.region c_tree_Root_r3 none [2, 3]) (.seq (.block 0 (.loop (.seq (.seq (.region c_tree_Root_r4 none [2, 3, 13]) (.cond (.t 13) (.skip) (.exit 0))) (.block 1 (.region c_tree_Root_r5 none [2, 3]))))) (.seq (.region c_tree_Root_r6 none [2]) (.ret)))))
@[simp] def R_tree_Root : List CRes := [.cell 2 true 32]
theorem k_tree_Root : chkFn Tryd.prog fn_tree_Root c_tree_Root R_tree_Root 1 = true := by kernel_rfl
/-! wapentake/keys.leaf -/
@[simp] def a_keys_leaf_r0 : List COper := [
  ⟨(some 1), .box, [.t 0], none⟩,
  ⟨(some 2), .alloc (.arr 1 (rep 32 (.v (.int .u8 0)))), [], none⟩]
def c_keys_leaf_r0 : List COper := a_keys_leaf_r0
instance : Reg c_keys_leaf_r0 a_keys_leaf_r0 2 := ⟨rfl, rfl⟩
@[simp] def a_keys_leaf_r1 : List COper := [
  ⟨(some 3), .sliceArr 32 1 false false, [.t 1], none⟩,
  ⟨(some 4), .call fn_tree_Leaf, [.t 3], none⟩,
  ⟨none, .store true 32, [.t 2, .t 4], none⟩]
def c_keys_leaf_r1 : List COper := a_keys_leaf_r1
instance : Reg c_keys_leaf_r1 a_keys_leaf_r1 3 := ⟨rfl, rfl⟩
@[simp] def c_keys_leaf : CCode :=
  .seq (.region c_keys_leaf_r0 none [1, 2]) (.seq (.region c_keys_leaf_r1 none [2]) (.ret))
@[simp] def R_keys_leaf : List CRes := [.cell 2 true 32]
theorem k_keys_leaf : chkFn Tryd.prog fn_keys_leaf c_keys_leaf R_keys_leaf 1 = true := by kernel_rfl
/-! wapentake/once.Public -/
@[simp] def a_once_Public_r0 : List COper := [
  ⟨(some 2), .box, [.t 0], none⟩,
  ⟨(some 4), .alloc (.arr 1 (rep 32 (.v (.int .u8 0)))), [], none⟩]
def c_once_Public_r0 : List COper := a_once_Public_r0
instance : Reg c_once_Public_r0 a_once_Public_r0 2 := ⟨rfl, rfl⟩
@[simp] def a_once_Public_r1 : List COper := [
  ⟨(some 5), .mov, [.c (.slice none 0 0)], none⟩]
def c_once_Public_r1 : List COper := a_once_Public_r1
instance : Reg c_once_Public_r1 a_once_Public_r1 1 := ⟨rfl, rfl⟩
@[simp] def a_once_Public_r2 : List COper := [
  ⟨(some 7), .mov, [.c (.int .i64 0)], none⟩]
def c_once_Public_r2 : List COper := a_once_Public_r2
instance : Reg c_once_Public_r2 a_once_Public_r2 1 := ⟨rfl, rfl⟩
@[simp] def a_once_Public_r3 : List COper := [
  ⟨(some 8), .bin .lss, [.t 7, .c (.int .i64 32)], none⟩]
def c_once_Public_r3 : List COper := a_once_Public_r3
instance : Reg c_once_Public_r3 a_once_Public_r3 1 := ⟨rfl, rfl⟩
@[simp] def a_once_Public_r4 : List COper := [
  ⟨(some 9), .mov, [.t 7], none⟩,
  ⟨(some 6), .mov, [.t 9], none⟩]
def c_once_Public_r4 : List COper := a_once_Public_r4
instance : Reg c_once_Public_r4 a_once_Public_r4 2 := ⟨rfl, rfl⟩
@[simp] def a_once_Public_r5 : List COper := [
  ⟨(some 10), .mov, [.t 5], none⟩,
  ⟨(some 11), .load true 32, [.t 2], none⟩,
  ⟨(some 12), .mov, [.t 1], none⟩,
  ⟨(some 13), .mov, [.t 6], none⟩,
  ⟨(some 14), .call fn_once_secret, [.t 11, .t 12, .t 13, .c (.int .i64 0)], none⟩,
  ⟨(some 15), .call fn_once_shut, [.t 14], none⟩,
  ⟨(some 16), .load true 32, [.t 2], none⟩,
  ⟨(some 17), .mov, [.t 1], none⟩,
  ⟨(some 18), .mov, [.t 6], none⟩,
  ⟨(some 19), .call fn_once_secret, [.t 16, .t 17, .t 18, .c (.int .i64 1)], none⟩,
  ⟨(some 20), .call fn_once_shut, [.t 19], none⟩,
  ⟨(some 21), .bslice 32 2 (.arr 1 (rep 32 (.v (.int .u8 0)))) [0, 1], [.t 15, .t 20], none⟩,
  ⟨(some 22), .app 32 32, [.t 10, .t 21], none⟩,
  ⟨(some 5), .mov, [.t 22], none⟩]
def c_once_Public_r5 : List COper := a_once_Public_r5
instance : Reg c_once_Public_r5 a_once_Public_r5 14 := ⟨rfl, rfl⟩
@[simp] def a_once_Public_r6 : List COper := [
  ⟨(some 23), .bin .add, [.t 7, .c (.int .i64 1)], none⟩,
  ⟨(some 7), .mov, [.t 23], none⟩]
def c_once_Public_r6 : List COper := a_once_Public_r6
instance : Reg c_once_Public_r6 a_once_Public_r6 2 := ⟨rfl, rfl⟩
@[simp] def a_once_Public_r7 : List COper := [
  ⟨(some 24), .mov, [.t 5], none⟩,
  ⟨(some 25), .call fn_once_whole, [.t 24], none⟩,
  ⟨none, .store true 32, [.t 4, .t 25], none⟩]
def c_once_Public_r7 : List COper := a_once_Public_r7
instance : Reg c_once_Public_r7 a_once_Public_r7 3 := ⟨rfl, rfl⟩
@[simp] def c_once_Public : CCode :=
  .seq (.region c_once_Public_r0 none [1, 2, 4]) (.seq (.region c_once_Public_r1 none [1, 2, 4, 5]) (.seq (.seq (.region c_once_Public_r2 none [1, 2, 4, 5, 7]) (.block 0 (.loop (.seq (.region c_once_Public_r3 none [1, 2, 4, 5, 7, 8]) (.seq (.cond (.t 8) (.skip) (.exit 0)) (.seq (.block 1 (.seq (.region c_once_Public_r4 none [1, 2, 4, 5, 6, 7]) (.region c_once_Public_r5 (some ([0, 0, 0, 0, 14, 30, 0, 0, 0, 510, 1022, 2046, 4095, 8191], [(4, 6), (5, 6)])) [1, 2, 4, 5, 7]))) (.region c_once_Public_r6 none [1, 2, 4, 5, 7]))))))) (.seq (.region c_once_Public_r7 none [4]) (.ret))))
@[simp] def R_once_Public : List CRes := [.cell 4 true 32]
theorem k_once_Public : chkFn Tryd.prog fn_once_Public c_once_Public R_once_Public 2 = true := by kernel_rfl
/-! wapentake/wapentakeref03.Leaf -/
@[simp] def a_r03_Leaf_r0 : List COper := [
  ⟨(some 2), .alloc (.arr 1 (rep 32 (.v (.int .u8 0)))), [], none⟩]
def c_r03_Leaf_r0 : List COper := a_r03_Leaf_r0
instance : Reg c_r03_Leaf_r0 a_r03_Leaf_r0 1 := ⟨rfl, rfl⟩
@[simp] def a_r03_Leaf_r1 : List COper := [
  ⟨(some 3), .mov, [.t 0], none⟩,
  ⟨(some 4), .bin .add, [.c (.string (mkS [0])), .t 3], none⟩,
  ⟨(some 5), .call fn_r02_Text, [.t 4], none⟩,
  ⟨none, .store true 32, [.t 2, .t 5], none⟩]
def c_r03_Leaf_r1 : List COper := a_r03_Leaf_r1
instance : Reg c_r03_Leaf_r1 a_r03_Leaf_r1 4 := ⟨rfl, rfl⟩
@[simp] def c_r03_Leaf : CCode :=
  .seq (.region c_r03_Leaf_r0 none [0, 2]) (.seq (.region c_r03_Leaf_r1 none [2]) (.ret))
@[simp] def R_r03_Leaf : List CRes := [.cell 2 true 32]
theorem k_r03_Leaf : chkFn Tryd.prog fn_r03_Leaf c_r03_Leaf R_r03_Leaf 1 = true := by kernel_rfl
/-! wapentake/wapentakeref01.Digest -/
@[simp] def a_r01_Digest_r0 : List COper := [
  ⟨(some 1), .box, [.t 0], none⟩,
  ⟨(some 2), .mov, [.c (.string (mkS []))], none⟩]
def c_r01_Digest_r0 : List COper := a_r01_Digest_r0
instance : Reg c_r01_Digest_r0 a_r01_Digest_r0 2 := ⟨rfl, rfl⟩
@[simp] def a_r01_Digest_r1 : List COper := [
  ⟨(some 3), .sliceArr 32 1 false false, [.t 1], none⟩,
  ⟨(some 4), .convS, [.t 3], none⟩,
  ⟨(some 2), .mov, [.t 4], none⟩]
def c_r01_Digest_r1 : List COper := a_r01_Digest_r1
instance : Reg c_r01_Digest_r1 a_r01_Digest_r1 3 := ⟨rfl, rfl⟩
@[simp] def c_r01_Digest : CCode :=
  .seq (.region c_r01_Digest_r0 none [1]) (.seq (.region c_r01_Digest_r1 none [2]) (.ret))
@[simp] def R_r01_Digest : List CRes := [.tmp 2]
theorem k_r01_Digest : chkFn Tryd.prog fn_r01_Digest c_r01_Digest R_r01_Digest 1 = true := by kernel_rfl
/-! wapentake/wapentakeref04.Public -/
@[simp] def a_r04_Public_r0 : List COper := [
  ⟨(some 2), .box, [.t 0], none⟩,
  ⟨(some 4), .alloc (.arr 1 (rep 32 (.v (.int .u8 0)))), [], none⟩]
def c_r04_Public_r0 : List COper := a_r04_Public_r0
instance : Reg c_r04_Public_r0 a_r04_Public_r0 2 := ⟨rfl, rfl⟩
@[simp] def a_r04_Public_r1 : List COper := [
  ⟨(some 5), .mov, [.c (.string (mkS []))], none⟩]
def c_r04_Public_r1 : List COper := a_r04_Public_r1
instance : Reg c_r04_Public_r1 a_r04_Public_r1 1 := ⟨rfl, rfl⟩
@[simp] def a_r04_Public_r2 : List COper := [
  ⟨(some 6), .mov, [.c (.int .i64 0)], none⟩]
def c_r04_Public_r2 : List COper := a_r04_Public_r2
instance : Reg c_r04_Public_r2 a_r04_Public_r2 1 := ⟨rfl, rfl⟩
@[simp] def a_r04_Public_r3 : List COper := [
  ⟨(some 7), .mov, [.t 6], none⟩,
  ⟨(some 8), .bin .lss, [.t 7, .c (.int .i64 64)], none⟩]
def c_r04_Public_r3 : List COper := a_r04_Public_r3
instance : Reg c_r04_Public_r3 a_r04_Public_r3 2 := ⟨rfl, rfl⟩
@[simp] def a_r04_Public_r5 : List COper := [
  ⟨(some 11), .mov, [.t 5], none⟩,
  ⟨(some 12), .load true 32, [.t 2], none⟩,
  ⟨(some 13), .mov, [.t 1], none⟩,
  ⟨(some 14), .mov, [.t 6], none⟩,
  ⟨(some 15), .bin .quo, [.t 14, .c (.int .i64 2)], none⟩,
  ⟨(some 16), .mov, [.t 6], none⟩,
  ⟨(some 17), .bin .rem, [.t 16, .c (.int .i64 2)], none⟩,
  ⟨(some 18), .call fn_r04_Secret, [.t 12, .t 13, .t 15, .t 17], none⟩,
  ⟨(some 19), .call fn_r04_Shut, [.t 18], none⟩,
  ⟨(some 20), .call fn_r01_Digest, [.t 19], none⟩,
  ⟨(some 21), .bin .add, [.t 11, .t 20], none⟩,
  ⟨(some 5), .mov, [.t 21], none⟩]
def c_r04_Public_r5 : List COper := a_r04_Public_r5
instance : Reg c_r04_Public_r5 a_r04_Public_r5 12 := ⟨rfl, rfl⟩
@[simp] def a_r04_Public_r4 : List COper := [
  ⟨(some 9), .mov, [.t 6], none⟩,
  ⟨(some 10), .bin .add, [.t 9, .c (.int .i64 1)], none⟩,
  ⟨(some 6), .mov, [.t 10], none⟩]
def c_r04_Public_r4 : List COper := a_r04_Public_r4
instance : Reg c_r04_Public_r4 a_r04_Public_r4 3 := ⟨rfl, rfl⟩
@[simp] def a_r04_Public_r6 : List COper := [
  ⟨(some 22), .mov, [.t 5], none⟩,
  ⟨(some 23), .call fn_r02_Text, [.t 22], none⟩,
  ⟨none, .store true 32, [.t 4, .t 23], none⟩]
def c_r04_Public_r6 : List COper := a_r04_Public_r6
instance : Reg c_r04_Public_r6 a_r04_Public_r6 3 := ⟨rfl, rfl⟩
@[simp] def c_r04_Public : CCode :=
  .seq (.region c_r04_Public_r0 none [1, 2, 4]) (.seq (.region c_r04_Public_r1 none [1, 2, 4, 5]) (.seq (.seq (.region c_r04_Public_r2 none [1, 2, 4, 5, 6]) (.block 0 (.loop (.seq (.seq (.region c_r04_Public_r3 none [1, 2, 4, 5, 6, 8]) (.cond (.t 8) (.skip) (.exit 0))) (.seq (.block 1 (.region c_r04_Public_r5 none [1, 2, 4, 5, 6])) (.region c_r04_Public_r4 none [1, 2, 4, 5, 6])))))) (.seq (.region c_r04_Public_r6 none [4]) (.ret))))
@[simp] def R_r04_Public : List CRes := [.cell 4 true 32]
theorem k_r04_Public : chkFn Tryd.prog fn_r04_Public c_r04_Public R_r04_Public 2 = true := by kernel_rfl
/-! wapentake/wapentakeref03.Root -/
@[simp] def a_r03_Root_r0 : List COper := [
  ⟨(some 2), .alloc (.arr 1 (rep 32 (.v (.int .u8 0)))), [], none⟩]
def c_r03_Root_r0 : List COper := a_r03_Root_r0
instance : Reg c_r03_Root_r0 a_r03_Root_r0 1 := ⟨rfl, rfl⟩
@[simp] def a_r03_Root_r1 : List COper := [
  ⟨(some 3), .mov, [.t 0], none⟩,
  ⟨(some 4), .len, [.t 3], none⟩,
  ⟨(some 5), .bin .eql, [.t 4, .c (.int .i64 0)], none⟩]
def c_r03_Root_r1 : List COper := a_r03_Root_r1
instance : Reg c_r03_Root_r1 a_r03_Root_r1 3 := ⟨rfl, rfl⟩
@[simp] def a_r03_Root_r2 : List COper := [
  ⟨(some 6), .call fn_r02_Text, [.c (.string (mkS []))], none⟩,
  ⟨none, .store true 32, [.t 2, .t 6], none⟩]
def c_r03_Root_r2 : List COper := a_r03_Root_r2
instance : Reg c_r03_Root_r2 a_r03_Root_r2 2 := ⟨rfl, rfl⟩
@[simp] def a_r03_Root_r3 : List COper := [
  ⟨(some 7), .mov, [.t 0], none⟩,
  ⟨(some 8), .len, [.t 7], none⟩,
  ⟨(some 9), .bin .eql, [.t 8, .c (.int .i64 1)], none⟩]
def c_r03_Root_r3 : List COper := a_r03_Root_r3
instance : Reg c_r03_Root_r3 a_r03_Root_r3 3 := ⟨rfl, rfl⟩
@[simp] def a_r03_Root_r4 : List COper := [
  ⟨(some 10), .mov, [.t 0], none⟩,
  ⟨(some 11), .iaddr 32, [.t 10, .c (.int .i64 0)], none⟩,
  ⟨(some 12), .load true 32, [.t 11], none⟩,
  ⟨none, .store true 32, [.t 2, .t 12], none⟩]
def c_r03_Root_r4 : List COper := a_r03_Root_r4
instance : Reg c_r03_Root_r4 a_r03_Root_r4 4 := ⟨rfl, rfl⟩
@[simp] def a_r03_Root_r5 : List COper := [
  ⟨(some 13), .mov, [.t 0], none⟩,
  ⟨(some 14), .call fn_r03_Above, [.t 13], none⟩,
  ⟨(some 15), .call fn_r03_Root, [.t 14], none⟩,
  ⟨none, .store true 32, [.t 2, .t 15], none⟩]
def c_r03_Root_r5 : List COper := a_r03_Root_r5
instance : Reg c_r03_Root_r5 a_r03_Root_r5 4 := ⟨rfl, rfl⟩
@[simp] def c_r03_Root : CCode :=
  .seq (.region c_r03_Root_r0 none [0, 2]) (.seq (.seq (.region c_r03_Root_r1 none [0, 2, 5]) (.cond (.t 5) (.seq (.region c_r03_Root_r2 none [2]) (.ret)) (.skip))) (.seq (.seq (.region c_r03_Root_r3 none [0, 2, 9]) (.cond (.t 9) (.seq (.region c_r03_Root_r4 none [2]) (.ret)) (.skip))) (.seq (.region c_r03_Root_r5 none [2]) (.ret))))
@[simp] def R_r03_Root : List CRes := [.cell 2 true 32]
theorem k_r03_Root : chkFn Tryd.prog fn_r03_Root c_r03_Root R_r03_Root 1 = true := by kernel_rfl
/-! wapentake/wapentakeref04.Same -/
@[simp] def a_r04_Same_r0 : List COper := [
  ⟨(some 2), .box, [.t 0], none⟩,
  ⟨(some 3), .box, [.t 1], none⟩,
  ⟨(some 4), .mov, [.c (.bool false)], none⟩]
def c_r04_Same_r0 : List COper := a_r04_Same_r0
instance : Reg c_r04_Same_r0 a_r04_Same_r0 3 := ⟨rfl, rfl⟩
@[simp] def a_r04_Same_r1 : List COper := [
  ⟨(some 5), .faddr 0 1 false, [.t 2], none⟩,
  ⟨(some 6), .load false 1, [.t 5], none⟩,
  ⟨(some 7), .faddr 0 1 false, [.t 3], none⟩,
  ⟨(some 8), .load false 1, [.t 7], none⟩,
  ⟨(some 9), .call fn_r03_Same, [.t 6, .t 8], none⟩,
  ⟨(some 10), .mov, [.t 9], none⟩,
  ⟨(some 11), .faddr 1 1 false, [.t 2], (some (10, true))⟩,
  ⟨(some 12), .load false 1, [.t 11], (some (10, true))⟩,
  ⟨(some 13), .faddr 1 1 false, [.t 3], (some (10, true))⟩,
  ⟨(some 14), .load false 1, [.t 13], (some (10, true))⟩,
  ⟨(some 15), .call fn_r03_Same, [.t 12, .t 14], (some (10, true))⟩,
  ⟨(some 16), .pick, [.t 10, .t 15, .c (.bool false)], none⟩,
  ⟨(some 4), .mov, [.t 16], none⟩]
def c_r04_Same_r1 : List COper := a_r04_Same_r1
instance : Reg c_r04_Same_r1 a_r04_Same_r1 13 := ⟨rfl, rfl⟩
@[simp] def c_r04_Same : CCode :=
  .seq (.region c_r04_Same_r0 none [2, 3]) (.seq (.region c_r04_Same_r1 none [4]) (.ret))
@[simp] def R_r04_Same : List CRes := [.tmp 4]
theorem k_r04_Same : chkFn Tryd.prog fn_r04_Same c_r04_Same R_r04_Same 2 = true := by kernel_rfl
/-! wapentake/wapentakeref03.Same -/
@[simp] def a_r03_Same_r0 : List COper := [
  ⟨(some 4), .mov, [.c (.bool false)], none⟩]
def c_r03_Same_r0 : List COper := a_r03_Same_r0
instance : Reg c_r03_Same_r0 a_r03_Same_r0 1 := ⟨rfl, rfl⟩
@[simp] def a_r03_Same_r1 : List COper := [
  ⟨(some 6), .mov, [.t 0], none⟩,
  ⟨(some 7), .len, [.t 6], none⟩,
  ⟨(some 8), .mov, [.t 1], none⟩,
  ⟨(some 9), .len, [.t 8], none⟩,
  ⟨(some 10), .bin .neq, [.t 7, .t 9], none⟩]
def c_r03_Same_r1 : List COper := a_r03_Same_r1
instance : Reg c_r03_Same_r1 a_r03_Same_r1 5 := ⟨rfl, rfl⟩
@[simp] def a_r03_Same_r2 : List COper := [
  ⟨(some 4), .mov, [.c (.bool false)], none⟩]
def c_r03_Same_r2 : List COper := a_r03_Same_r2
instance : Reg c_r03_Same_r2 a_r03_Same_r2 1 := ⟨rfl, rfl⟩
@[simp] def a_r03_Same_r3 : List COper := [
  ⟨(some 11), .mov, [.t 0], none⟩,
  ⟨(some 12), .len, [.t 11], none⟩,
  ⟨(some 13), .mov, [.c (.int .i64 0)], none⟩]
def c_r03_Same_r3 : List COper := a_r03_Same_r3
instance : Reg c_r03_Same_r3 a_r03_Same_r3 3 := ⟨rfl, rfl⟩
@[simp] def a_r03_Same_r4 : List COper := [
  ⟨(some 14), .bin .lss, [.t 13, .t 12], none⟩]
def c_r03_Same_r4 : List COper := a_r03_Same_r4
instance : Reg c_r03_Same_r4 a_r03_Same_r4 1 := ⟨rfl, rfl⟩
@[simp] def a_r03_Same_r5 : List COper := [
  ⟨(some 15), .mov, [.t 13], none⟩,
  ⟨(some 5), .mov, [.t 15], none⟩]
def c_r03_Same_r5 : List COper := a_r03_Same_r5
instance : Reg c_r03_Same_r5 a_r03_Same_r5 2 := ⟨rfl, rfl⟩
@[simp] def a_r03_Same_r6 : List COper := [
  ⟨(some 16), .mov, [.t 0], none⟩,
  ⟨(some 17), .mov, [.t 5], none⟩,
  ⟨(some 18), .iaddr 32, [.t 16, .t 17], none⟩,
  ⟨(some 19), .load true 32, [.t 18], none⟩,
  ⟨(some 20), .mov, [.t 1], none⟩,
  ⟨(some 21), .mov, [.t 5], none⟩,
  ⟨(some 22), .iaddr 32, [.t 20, .t 21], none⟩,
  ⟨(some 23), .load true 32, [.t 22], none⟩,
  ⟨(some 24), .eqa true .u8 32, [.t 19, .t 23], none⟩]
def c_r03_Same_r6 : List COper := a_r03_Same_r6
instance : Reg c_r03_Same_r6 a_r03_Same_r6 9 := ⟨rfl, rfl⟩
@[simp] def a_r03_Same_r7 : List COper := [
  ⟨(some 4), .mov, [.c (.bool false)], none⟩]
def c_r03_Same_r7 : List COper := a_r03_Same_r7
instance : Reg c_r03_Same_r7 a_r03_Same_r7 1 := ⟨rfl, rfl⟩
@[simp] def a_r03_Same_r8 : List COper := [
  ⟨(some 25), .bin .add, [.t 13, .c (.int .i64 1)], none⟩,
  ⟨(some 13), .mov, [.t 25], none⟩]
def c_r03_Same_r8 : List COper := a_r03_Same_r8
instance : Reg c_r03_Same_r8 a_r03_Same_r8 2 := ⟨rfl, rfl⟩
@[simp] def a_r03_Same_r9 : List COper := [
  ⟨(some 4), .mov, [.c (.bool true)], none⟩]
def c_r03_Same_r9 : List COper := a_r03_Same_r9
instance : Reg c_r03_Same_r9 a_r03_Same_r9 1 := ⟨rfl, rfl⟩
@[simp] def c_r03_Same : CCode :=
  .seq (.region c_r03_Same_r0 none [0, 1]) (.seq (.seq (.region c_r03_Same_r1 none [0, 1, 10]) (.cond (.t 10) (.seq (.region c_r03_Same_r2 none [4]) (.ret)) (.skip))) (.seq (.seq (.region c_r03_Same_r3 none [0, 1, 12, 13]) (.block 0 (.loop (.seq (.region c_r03_Same_r4 none [0, 1, 12, 13, 14]) (.seq (.cond (.t 14) (.skip) (.exit 0)) (.seq (.block 1 (.seq (.region c_r03_Same_r5 none [0, 1, 5, 12, 13]) (.seq (.region c_r03_Same_r6 (some ([0, 0, 3, 7, 0, 0, 48, 112, 255], [])) [0, 1, 12, 13, 24]) (.cond (.t 24) (.seq (.region c_r03_Same_r7 none [4]) (.ret)) (.skip))))) (.region c_r03_Same_r8 none [0, 1, 12, 13]))))))) (.seq (.region c_r03_Same_r9 none [4]) (.ret))))
@[simp] def R_r03_Same : List CRes := [.tmp 4]
theorem k_r03_Same : chkFn Tryd.prog fn_r03_Same c_r03_Same R_r03_Same 2 = true := by kernel_rfl
/-! wapentake/wapentakeref04.Sign -/
@[simp] def a_r04_Sign_r0 : List COper := [
  ⟨(some 3), .box, [.t 0], none⟩,
  ⟨(some 5), .box, [.t 2], none⟩,
  ⟨(some 6), .alloc (.node [.v (.slice none 0 0), .v (.slice none 0 0)]), [], none⟩]
def c_r04_Sign_r0 : List COper := a_r04_Sign_r0
instance : Reg c_r04_Sign_r0 a_r04_Sign_r0 3 := ⟨rfl, rfl⟩
@[simp] def a_r04_Sign_r1 : List COper := [
  ⟨(some 7), .alloc (.node [.v (.slice none 0 0), .v (.slice none 0 0)]), [], none⟩]
def c_r04_Sign_r1 : List COper := a_r04_Sign_r1
instance : Reg c_r04_Sign_r1 a_r04_Sign_r1 1 := ⟨rfl, rfl⟩
@[simp] def a_r04_Sign_r2 : List COper := [
  ⟨(some 8), .mov, [.c (.int .i64 0)], none⟩]
def c_r04_Sign_r2 : List COper := a_r04_Sign_r2
instance : Reg c_r04_Sign_r2 a_r04_Sign_r2 1 := ⟨rfl, rfl⟩
@[simp] def a_r04_Sign_r3 : List COper := [
  ⟨(some 9), .mov, [.t 8], none⟩,
  ⟨(some 10), .bin .lss, [.t 9, .c (.int .i64 32)], none⟩]
def c_r04_Sign_r3 : List COper := a_r04_Sign_r3
instance : Reg c_r04_Sign_r3 a_r04_Sign_r3 2 := ⟨rfl, rfl⟩
@[simp] def a_r04_Sign_r5 : List COper := [
  ⟨(some 13), .faddr 0 1 false, [.t 7], none⟩,
  ⟨(some 14), .load false 1, [.t 13], none⟩,
  ⟨(some 15), .load true 32, [.t 3], none⟩,
  ⟨(some 16), .mov, [.t 1], none⟩,
  ⟨(some 17), .mov, [.t 8], none⟩,
  ⟨(some 18), .load true 32, [.t 5], none⟩,
  ⟨(some 19), .mov, [.t 8], none⟩,
  ⟨(some 20), .call fn_r04_Bit, [.t 18, .t 19], none⟩,
  ⟨(some 21), .call fn_r04_Secret, [.t 15, .t 16, .t 17, .t 20], none⟩,
  ⟨(some 22), .bslice 32 1 (.arr 1 (rep 32 (.v (.int .u8 0)))) [0], [.t 21], none⟩,
  ⟨(some 23), .app 32 32, [.t 14, .t 22], none⟩,
  ⟨(some 24), .faddr 0 1 false, [.t 7], none⟩,
  ⟨none, .store false 1, [.t 24, .t 23], none⟩]
def c_r04_Sign_r5 : List COper := a_r04_Sign_r5
instance : Reg c_r04_Sign_r5 a_r04_Sign_r5 13 := ⟨rfl, rfl⟩
@[simp] def a_r04_Sign_r6 : List COper := [
  ⟨(some 25), .faddr 1 1 false, [.t 7], none⟩,
  ⟨(some 26), .load false 1, [.t 25], none⟩,
  ⟨(some 27), .load true 32, [.t 3], none⟩,
  ⟨(some 28), .mov, [.t 1], none⟩,
  ⟨(some 29), .mov, [.t 8], none⟩,
  ⟨(some 30), .load true 32, [.t 5], none⟩,
  ⟨(some 31), .mov, [.t 8], none⟩,
  ⟨(some 32), .call fn_r04_Bit, [.t 30, .t 31], none⟩,
  ⟨(some 33), .bin .sub, [.c (.int .i64 1), .t 32], none⟩,
  ⟨(some 34), .call fn_r04_Secret, [.t 27, .t 28, .t 29, .t 33], none⟩,
  ⟨(some 35), .call fn_r04_Shut, [.t 34], none⟩,
  ⟨(some 36), .bslice 32 1 (.arr 1 (rep 32 (.v (.int .u8 0)))) [0], [.t 35], none⟩,
  ⟨(some 37), .app 32 32, [.t 26, .t 36], none⟩,
  ⟨(some 38), .faddr 1 1 false, [.t 7], none⟩,
  ⟨none, .store false 1, [.t 38, .t 37], none⟩]
def c_r04_Sign_r6 : List COper := a_r04_Sign_r6
instance : Reg c_r04_Sign_r6 a_r04_Sign_r6 15 := ⟨rfl, rfl⟩
@[simp] def a_r04_Sign_r4 : List COper := [
  ⟨(some 11), .mov, [.t 8], none⟩,
  ⟨(some 12), .bin .add, [.t 11, .c (.int .i64 1)], none⟩,
  ⟨(some 8), .mov, [.t 12], none⟩]
def c_r04_Sign_r4 : List COper := a_r04_Sign_r4
instance : Reg c_r04_Sign_r4 a_r04_Sign_r4 3 := ⟨rfl, rfl⟩
@[simp] def a_r04_Sign_r7 : List COper := [
  ⟨(some 39), .load true 2, [.t 7], none⟩,
  ⟨none, .store true 2, [.t 6, .t 39], none⟩]
def c_r04_Sign_r7 : List COper := a_r04_Sign_r7
instance : Reg c_r04_Sign_r7 a_r04_Sign_r7 2 := ⟨rfl, rfl⟩
@[simp] def c_r04_Sign : CCode :=
  .seq (.region c_r04_Sign_r0 none [1, 3, 5, 6]) (.seq (.region c_r04_Sign_r1 none [1, 3, 5, 6, 7]) (.seq (.seq (.region c_r04_Sign_r2 none [1, 3, 5, 6, 7, 8]) (.block 0 (.loop (.seq (.seq (.region c_r04_Sign_r3 none [1, 3, 5, 6, 7, 8, 10]) (.cond (.t 10) (.skip) (.exit 0))) (.seq (.block 1 (.seq (.region c_r04_Sign_r5 (some ([0, 1, 0, 0, 0, 0, 0, 96, 252, 508, 1023, 2047, 4095], [(1, 7), (2, 7), (1, 8), (1, 9)])) [1, 3, 5, 6, 7, 8]) (.region c_r04_Sign_r6 (some ([0, 1, 0, 0, 0, 0, 0, 96, 224, 508, 1020, 2044, 4095, 8191, 16383], [(1, 7), (2, 7), (1, 9), (1, 10), (1, 11)])) [1, 3, 5, 6, 7, 8]))) (.region c_r04_Sign_r4 none [1, 3, 5, 6, 7, 8])))))) (.seq (.region c_r04_Sign_r7 none [6]) (.ret))))
@[simp] def R_r04_Sign : List CRes := [.cell 6 true 2]
theorem k_r04_Sign : chkFn Tryd.prog fn_r04_Sign c_r04_Sign R_r04_Sign 3 = true := by kernel_rfl
/-! wapentake/wapentakeref03.Path -/
@[simp] def a_r03_Path_r0 : List COper := [
  ⟨(some 4), .mov, [.c (.slice none 0 0)], none⟩]
def c_r03_Path_r0 : List COper := a_r03_Path_r0
instance : Reg c_r03_Path_r0 a_r03_Path_r0 1 := ⟨rfl, rfl⟩
@[simp] def a_r03_Path_r1 : List COper := [
  ⟨(some 6), .mov, [.t 0], none⟩,
  ⟨(some 7), .len, [.t 6], none⟩,
  ⟨(some 8), .bin .leq, [.t 7, .c (.int .i64 1)], none⟩]
def c_r03_Path_r1 : List COper := a_r03_Path_r1
instance : Reg c_r03_Path_r1 a_r03_Path_r1 3 := ⟨rfl, rfl⟩
@[simp] def a_r03_Path_r2 : List COper := [
  ⟨(some 4), .mov, [.c (.slice none 0 0)], none⟩]
def c_r03_Path_r2 : List COper := a_r03_Path_r2
instance : Reg c_r03_Path_r2 a_r03_Path_r2 1 := ⟨rfl, rfl⟩
@[simp] def a_r03_Path_r3 : List COper := [
  ⟨(some 9), .mov, [.t 0], none⟩,
  ⟨(some 10), .call fn_r03_Above, [.t 9], none⟩,
  ⟨(some 11), .mov, [.t 1], none⟩,
  ⟨(some 12), .bin .quo, [.t 11, .c (.int .i64 2)], none⟩,
  ⟨(some 13), .call fn_r03_Path, [.t 10, .t 12], none⟩,
  ⟨(some 5), .mov, [.t 13], none⟩]
def c_r03_Path_r3 : List COper := a_r03_Path_r3
instance : Reg c_r03_Path_r3 a_r03_Path_r3 6 := ⟨rfl, rfl⟩
@[simp] def a_r03_Path_r4 : List COper := [
  ⟨(some 14), .mov, [.t 1], none⟩,
  ⟨(some 15), .bin .rem, [.t 14, .c (.int .i64 2)], none⟩,
  ⟨(some 16), .bin .eql, [.t 15, .c (.int .i64 1)], none⟩]
def c_r03_Path_r4 : List COper := a_r03_Path_r4
instance : Reg c_r03_Path_r4 a_r03_Path_r4 3 := ⟨rfl, rfl⟩
@[simp] def a_r03_Path_r5 : List COper := [
  ⟨(some 17), .mov, [.t 0], none⟩,
  ⟨(some 18), .mov, [.t 1], none⟩,
  ⟨(some 19), .bin .sub, [.t 18, .c (.int .i64 1)], none⟩,
  ⟨(some 20), .iaddr 32, [.t 17, .t 19], none⟩,
  ⟨(some 21), .load true 32, [.t 20], none⟩,
  ⟨(some 22), .bslice 32 1 (.arr 1 (rep 32 (.v (.int .u8 0)))) [0], [.t 21], none⟩,
  ⟨(some 23), .mov, [.t 5], none⟩,
  ⟨(some 24), .app 32 32, [.t 22, .t 23], none⟩,
  ⟨(some 4), .mov, [.t 24], none⟩]
def c_r03_Path_r5 : List COper := a_r03_Path_r5
instance : Reg c_r03_Path_r5 a_r03_Path_r5 9 := ⟨rfl, rfl⟩
@[simp] def a_r03_Path_r6 : List COper := [
  ⟨(some 25), .mov, [.t 1], none⟩,
  ⟨(some 26), .bin .add, [.t 25, .c (.int .i64 1)], none⟩,
  ⟨(some 27), .mov, [.t 0], none⟩,
  ⟨(some 28), .len, [.t 27], none⟩,
  ⟨(some 29), .bin .lss, [.t 26, .t 28], none⟩]
def c_r03_Path_r6 : List COper := a_r03_Path_r6
instance : Reg c_r03_Path_r6 a_r03_Path_r6 5 := ⟨rfl, rfl⟩
@[simp] def a_r03_Path_r7 : List COper := [
  ⟨(some 30), .mov, [.t 0], none⟩,
  ⟨(some 31), .mov, [.t 1], none⟩,
  ⟨(some 32), .bin .add, [.t 31, .c (.int .i64 1)], none⟩,
  ⟨(some 33), .iaddr 32, [.t 30, .t 32], none⟩,
  ⟨(some 34), .load true 32, [.t 33], none⟩,
  ⟨(some 35), .bslice 32 1 (.arr 1 (rep 32 (.v (.int .u8 0)))) [0], [.t 34], none⟩,
  ⟨(some 36), .mov, [.t 5], none⟩,
  ⟨(some 37), .app 32 32, [.t 35, .t 36], none⟩,
  ⟨(some 4), .mov, [.t 37], none⟩]
def c_r03_Path_r7 : List COper := a_r03_Path_r7
instance : Reg c_r03_Path_r7 a_r03_Path_r7 9 := ⟨rfl, rfl⟩
@[simp] def a_r03_Path_r8 : List COper := [
  ⟨(some 38), .mov, [.t 5], none⟩,
  ⟨(some 4), .mov, [.t 38], none⟩]
def c_r03_Path_r8 : List COper := a_r03_Path_r8
instance : Reg c_r03_Path_r8 a_r03_Path_r8 2 := ⟨rfl, rfl⟩
@[simp] def c_r03_Path : CCode :=
  .seq (.region c_r03_Path_r0 none [0, 1]) (.seq (.seq (.region c_r03_Path_r1 none [0, 1, 8]) (.cond (.t 8) (.seq (.region c_r03_Path_r2 none [4]) (.ret)) (.skip))) (.seq (.region c_r03_Path_r3 none [0, 1, 5]) (.seq (.seq (.region c_r03_Path_r4 none [0, 1, 5, 16]) (.cond (.t 16) (.seq (.region c_r03_Path_r5 none [4]) (.ret)) (.skip))) (.seq (.seq (.region c_r03_Path_r6 none [0, 1, 5, 29]) (.cond (.t 29) (.seq (.region c_r03_Path_r7 none [4]) (.ret)) (.skip))) (.seq (.region c_r03_Path_r8 none [4]) (.ret))))))
@[simp] def R_r03_Path : List CRes := [.tmp 4]
theorem k_r03_Path : chkFn Tryd.prog fn_r03_Path c_r03_Path R_r03_Path 2 = true := by kernel_rfl
/-! wapentake/once.Of -/
@[simp] def a_once_Of_r0 : List COper := [
  ⟨(some 2), .box, [.t 0], none⟩,
  ⟨(some 3), .box, [.t 1], none⟩,
  ⟨(some 4), .alloc (.arr 1 (rep 32 (.v (.int .u8 0)))), [], none⟩,
  ⟨(some 5), .mov, [.c (.bool false)], none⟩]
def c_once_Of_r0 : List COper := a_once_Of_r0
instance : Reg c_once_Of_r0 a_once_Of_r0 4 := ⟨rfl, rfl⟩
@[simp] def a_once_Of_r1 : List COper := [
  ⟨(some 10), .faddr 0 1 false, [.t 3], none⟩,
  ⟨(some 11), .load false 1, [.t 10], none⟩,
  ⟨(some 12), .len, [.t 11], none⟩,
  ⟨(some 13), .bin .neq, [.t 12, .c (.int .i64 32)], none⟩,
  ⟨(some 14), .mov, [.t 13], none⟩,
  ⟨(some 15), .faddr 1 1 false, [.t 3], (some (14, false))⟩,
  ⟨(some 16), .load false 1, [.t 15], (some (14, false))⟩,
  ⟨(some 17), .len, [.t 16], (some (14, false))⟩,
  ⟨(some 18), .bin .neq, [.t 17, .c (.int .i64 32)], (some (14, false))⟩,
  ⟨(some 19), .pick, [.t 14, .c (.bool true), .t 18], none⟩]
def c_once_Of_r1 : List COper := a_once_Of_r1
instance : Reg c_once_Of_r1 a_once_Of_r1 10 := ⟨rfl, rfl⟩
@[simp] def a_once_Of_r2 : List COper := [
  ⟨(some 20), .buildA 1 (rep 32 (.v (.int .u8 0))) [], [], none⟩,
  ⟨none, .store true 32, [.t 4, .t 20], none⟩,
  ⟨(some 5), .mov, [.c (.bool false)], none⟩]
def c_once_Of_r2 : List COper := a_once_Of_r2
instance : Reg c_once_Of_r2 a_once_Of_r2 3 := ⟨rfl, rfl⟩
@[simp] def a_once_Of_r3 : List COper := [
  ⟨(some 6), .mov, [.c (.slice none 0 0)], none⟩]
def c_once_Of_r3 : List COper := a_once_Of_r3
instance : Reg c_once_Of_r3 a_once_Of_r3 1 := ⟨rfl, rfl⟩
@[simp] def a_once_Of_r4 : List COper := [
  ⟨(some 21), .mov, [.c (.int .i64 0)], none⟩]
def c_once_Of_r4 : List COper := a_once_Of_r4
instance : Reg c_once_Of_r4 a_once_Of_r4 1 := ⟨rfl, rfl⟩
@[simp] def a_once_Of_r5 : List COper := [
  ⟨(some 22), .bin .lss, [.t 21, .c (.int .i64 32)], none⟩]
def c_once_Of_r5 : List COper := a_once_Of_r5
instance : Reg c_once_Of_r5 a_once_Of_r5 1 := ⟨rfl, rfl⟩
@[simp] def a_once_Of_r6 : List COper := [
  ⟨(some 23), .mov, [.t 21], none⟩,
  ⟨(some 7), .mov, [.t 23], none⟩]
def c_once_Of_r6 : List COper := a_once_Of_r6
instance : Reg c_once_Of_r6 a_once_Of_r6 2 := ⟨rfl, rfl⟩
@[simp] def a_once_Of_r7 : List COper := [
  ⟨(some 24), .faddr 0 1 false, [.t 3], none⟩,
  ⟨(some 25), .load false 1, [.t 24], none⟩,
  ⟨(some 26), .mov, [.t 7], none⟩,
  ⟨(some 27), .iaddr 32, [.t 25, .t 26], none⟩,
  ⟨(some 28), .load true 32, [.t 27], none⟩,
  ⟨(some 29), .call fn_once_shut, [.t 28], none⟩,
  ⟨(some 30), .faddr 1 1 false, [.t 3], none⟩,
  ⟨(some 31), .load false 1, [.t 30], none⟩,
  ⟨(some 32), .mov, [.t 7], none⟩,
  ⟨(some 33), .iaddr 32, [.t 31, .t 32], none⟩,
  ⟨(some 34), .load true 32, [.t 33], none⟩,
  ⟨(some 35), .buildA 32 (rep 2 (.arr 1 (rep 32 (.v (.int .u8 0))))) [0, 1], [.t 29, .t 34], none⟩,
  ⟨(some 8), .alloc (.arr 32 (rep 2 (.arr 1 (rep 32 (.v (.int .u8 0)))))), [], none⟩,
  ⟨none, .store true 64, [.t 8, .t 35], none⟩]
def c_once_Of_r7 : List COper := a_once_Of_r7
instance : Reg c_once_Of_r7 a_once_Of_r7 14 := ⟨rfl, rfl⟩
@[simp] def a_once_Of_r8 : List COper := [
  ⟨(some 36), .load true 32, [.t 2], none⟩,
  ⟨(some 37), .mov, [.t 7], none⟩,
  ⟨(some 38), .call fn_once_bit, [.t 36, .t 37], none⟩,
  ⟨(some 9), .mov, [.t 38], none⟩]
def c_once_Of_r8 : List COper := a_once_Of_r8
instance : Reg c_once_Of_r8 a_once_Of_r8 4 := ⟨rfl, rfl⟩
@[simp] def a_once_Of_r9 : List COper := [
  ⟨(some 39), .mov, [.t 6], none⟩,
  ⟨(some 40), .mov, [.t 9], none⟩,
  ⟨(some 41), .iaddrArr 2 32 true, [.t 8, .t 40], none⟩,
  ⟨(some 42), .load true 32, [.t 41], none⟩,
  ⟨(some 43), .mov, [.t 9], none⟩,
  ⟨(some 44), .bin .sub, [.c (.int .i64 1), .t 43], none⟩,
  ⟨(some 45), .iaddrArr 2 32 true, [.t 8, .t 44], none⟩,
  ⟨(some 46), .load true 32, [.t 45], none⟩,
  ⟨(some 47), .bslice 32 2 (.arr 1 (rep 32 (.v (.int .u8 0)))) [0, 1], [.t 42, .t 46], none⟩,
  ⟨(some 48), .app 32 32, [.t 39, .t 47], none⟩,
  ⟨(some 6), .mov, [.t 48], none⟩]
def c_once_Of_r9 : List COper := a_once_Of_r9
instance : Reg c_once_Of_r9 a_once_Of_r9 11 := ⟨rfl, rfl⟩
@[simp] def a_once_Of_r10 : List COper := [
  ⟨(some 49), .bin .add, [.t 21, .c (.int .i64 1)], none⟩,
  ⟨(some 21), .mov, [.t 49], none⟩]
def c_once_Of_r10 : List COper := a_once_Of_r10
instance : Reg c_once_Of_r10 a_once_Of_r10 2 := ⟨rfl, rfl⟩
@[simp] def a_once_Of_r11 : List COper := [
  ⟨(some 50), .mov, [.t 6], none⟩,
  ⟨(some 51), .call fn_once_whole, [.t 50], none⟩,
  ⟨none, .store true 32, [.t 4, .t 51], none⟩,
  ⟨(some 5), .mov, [.c (.bool true)], none⟩]
def c_once_Of_r11 : List COper := a_once_Of_r11
instance : Reg c_once_Of_r11 a_once_Of_r11 4 := ⟨rfl, rfl⟩
@[simp] def c_once_Of : CCode :=
  .seq (.region c_once_Of_r0 none [2, 3, 4]) (.seq (.seq (.region c_once_Of_r1 none [2, 3, 4, 19]) (.cond (.t 19) (.seq (.region c_once_Of_r2 none [4, 5]) (.ret)) (.skip))) (.seq (.region c_once_Of_r3 none [2, 3, 4, 6]) (.seq (.seq (.region c_once_Of_r4 none [2, 3, 4, 6, 21]) (.block 0 (.loop (.seq (.region c_once_Of_r5 none [2, 3, 4, 6, 21, 22]) (.seq (.cond (.t 22) (.skip) (.exit 0)) (.seq (.block 1 (.seq (.region c_once_Of_r6 none [2, 3, 4, 6, 7, 21]) (.seq (.region c_once_Of_r7 (some ([0, 1, 0, 7, 15, 31, 0, 64, 0, 448, 960, 2047, 0, 8191], [(5, 7), (5, 10), (1, 12), (4, 12), (5, 12), (7, 12), (10, 12)])) [2, 3, 4, 6, 7, 8, 21]) (.seq (.region c_once_Of_r8 none [2, 3, 4, 6, 8, 9, 21]) (.region c_once_Of_r9 (some ([0, 0, 2, 6, 0, 16, 48, 112, 254, 511, 1023], [])) [2, 3, 4, 6, 21]))))) (.region c_once_Of_r10 none [2, 3, 4, 6, 21]))))))) (.seq (.region c_once_Of_r11 none [4, 5]) (.ret)))))
@[simp] def R_once_Of : List CRes := [.cell 4 true 32, .tmp 5]
theorem k_once_Of : chkFn Tryd.prog fn_once_Of c_once_Of R_once_Of 2 = true := by kernel_rfl
/-! wapentake/tree.Check -/
@[simp] def a_tree_Check_r0 : List COper := [
  ⟨(some 5), .box, [.t 0], none⟩,
  ⟨(some 6), .box, [.t 1], none⟩,
  ⟨(some 10), .mov, [.c (.bool false)], none⟩]
def c_tree_Check_r0 : List COper := a_tree_Check_r0
instance : Reg c_tree_Check_r0 a_tree_Check_r0 3 := ⟨rfl, rfl⟩
@[simp] def a_tree_Check_r1 : List COper := [
  ⟨(some 12), .mov, [.t 2], none⟩,
  ⟨(some 13), .bin .lss, [.t 12, .c (.int .i64 0)], none⟩,
  ⟨(some 14), .mov, [.t 13], none⟩,
  ⟨(some 15), .mov, [.t 2], (some (14, false))⟩,
  ⟨(some 16), .mov, [.t 3], (some (14, false))⟩,
  ⟨(some 17), .bin .geq, [.t 15, .t 16], (some (14, false))⟩,
  ⟨(some 18), .pick, [.t 14, .c (.bool true), .t 17], none⟩]
def c_tree_Check_r1 : List COper := a_tree_Check_r1
instance : Reg c_tree_Check_r1 a_tree_Check_r1 7 := ⟨rfl, rfl⟩
@[simp] def a_tree_Check_r2 : List COper := [
  ⟨(some 10), .mov, [.c (.bool false)], none⟩]
def c_tree_Check_r2 : List COper := a_tree_Check_r2
instance : Reg c_tree_Check_r2 a_tree_Check_r2 1 := ⟨rfl, rfl⟩
@[simp] def a_tree_Check_r3 : List COper := [
  ⟨(some 19), .mov, [.t 3], none⟩,
  ⟨(some 20), .bin .gtr, [.t 19, .c (.int .i64 1)], none⟩]
def c_tree_Check_r3 : List COper := a_tree_Check_r3
instance : Reg c_tree_Check_r3 a_tree_Check_r3 2 := ⟨rfl, rfl⟩
@[simp] def a_tree_Check_r5 : List COper := [
  ⟨(some 27), .mov, [.t 2], none⟩,
  ⟨(some 28), .bin .xor, [.t 27, .c (.int .i64 1)], none⟩,
  ⟨(some 11), .mov, [.t 28], none⟩]
def c_tree_Check_r5 : List COper := a_tree_Check_r5
instance : Reg c_tree_Check_r5 a_tree_Check_r5 3 := ⟨rfl, rfl⟩
@[simp] def a_tree_Check_r6 : List COper := [
  ⟨(some 29), .mov, [.t 11], none⟩,
  ⟨(some 30), .mov, [.t 3], none⟩,
  ⟨(some 31), .bin .geq, [.t 29, .t 30], none⟩]
def c_tree_Check_r6 : List COper := a_tree_Check_r6
instance : Reg c_tree_Check_r6 a_tree_Check_r6 3 := ⟨rfl, rfl⟩
@[simp] def a_tree_Check_r7 : List COper := [
  ⟨(some 32), .mov, [.t 4], none⟩,
  ⟨(some 33), .len, [.t 32], none⟩,
  ⟨(some 34), .bin .eql, [.t 33, .c (.int .i64 0)], none⟩]
def c_tree_Check_r7 : List COper := a_tree_Check_r7
instance : Reg c_tree_Check_r7 a_tree_Check_r7 3 := ⟨rfl, rfl⟩
@[simp] def a_tree_Check_r8 : List COper := [
  ⟨(some 10), .mov, [.c (.bool false)], none⟩]
def c_tree_Check_r8 : List COper := a_tree_Check_r8
instance : Reg c_tree_Check_r8 a_tree_Check_r8 1 := ⟨rfl, rfl⟩
@[simp] def a_tree_Check_r9 : List COper := [
  ⟨(some 35), .mov, [.t 11], none⟩,
  ⟨(some 36), .mov, [.t 2], none⟩,
  ⟨(some 37), .bin .lss, [.t 35, .t 36], none⟩]
def c_tree_Check_r9 : List COper := a_tree_Check_r9
instance : Reg c_tree_Check_r9 a_tree_Check_r9 3 := ⟨rfl, rfl⟩
@[simp] def a_tree_Check_r10 : List COper := [
  ⟨(some 38), .mov, [.t 4], none⟩,
  ⟨(some 39), .iaddr 32, [.t 38, .c (.int .i64 0)], none⟩,
  ⟨(some 40), .load true 32, [.t 39], none⟩,
  ⟨(some 41), .load true 32, [.t 6], none⟩,
  ⟨(some 42), .call fn_sha_Pair, [.c (.int .u8 1), .t 40, .t 41], none⟩,
  ⟨none, .store true 32, [.t 6, .t 42], none⟩]
def c_tree_Check_r10 : List COper := a_tree_Check_r10
instance : Reg c_tree_Check_r10 a_tree_Check_r10 6 := ⟨rfl, rfl⟩
@[simp] def a_tree_Check_r11 : List COper := [
  ⟨(some 43), .load true 32, [.t 6], none⟩,
  ⟨(some 44), .mov, [.t 4], none⟩,
  ⟨(some 45), .iaddr 32, [.t 44, .c (.int .i64 0)], none⟩,
  ⟨(some 46), .load true 32, [.t 45], none⟩,
  ⟨(some 47), .call fn_sha_Pair, [.c (.int .u8 1), .t 43, .t 46], none⟩,
  ⟨none, .store true 32, [.t 6, .t 47], none⟩]
def c_tree_Check_r11 : List COper := a_tree_Check_r11
instance : Reg c_tree_Check_r11 a_tree_Check_r11 6 := ⟨rfl, rfl⟩
@[simp] def a_tree_Check_r12 : List COper := [
  ⟨(some 48), .mov, [.t 4], none⟩,
  ⟨(some 49), .slice 32 true false, [.t 48, .c (.int .i64 1)], none⟩,
  ⟨(some 4), .mov, [.t 49], none⟩]
def c_tree_Check_r12 : List COper := a_tree_Check_r12
instance : Reg c_tree_Check_r12 a_tree_Check_r12 3 := ⟨rfl, rfl⟩
@[simp] def a_tree_Check_r4 : List COper := [
  ⟨(some 21), .mov, [.t 2], none⟩,
  ⟨(some 22), .bin .quo, [.t 21, .c (.int .i64 2)], none⟩,
  ⟨(some 23), .mov, [.t 3], none⟩,
  ⟨(some 24), .bin .sub, [.t 23, .c (.int .i64 1)], none⟩,
  ⟨(some 25), .bin .quo, [.t 24, .c (.int .i64 2)], none⟩,
  ⟨(some 26), .bin .add, [.t 25, .c (.int .i64 1)], none⟩,
  ⟨(some 2), .mov, [.t 22], none⟩,
  ⟨(some 3), .mov, [.t 26], none⟩]
def c_tree_Check_r4 : List COper := a_tree_Check_r4
instance : Reg c_tree_Check_r4 a_tree_Check_r4 8 := ⟨rfl, rfl⟩
@[simp] def a_tree_Check_r13 : List COper := [
  ⟨(some 50), .mov, [.t 4], none⟩,
  ⟨(some 51), .len, [.t 50], none⟩,
  ⟨(some 52), .bin .eql, [.t 51, .c (.int .i64 0)], none⟩,
  ⟨(some 53), .mov, [.t 52], none⟩,
  ⟨(some 54), .load true 32, [.t 6], (some (53, true))⟩,
  ⟨(some 55), .load true 32, [.t 5], (some (53, true))⟩,
  ⟨(some 56), .eqa false .u8 32, [.t 54, .t 55], (some (53, true))⟩,
  ⟨(some 57), .pick, [.t 53, .t 56, .c (.bool false)], none⟩,
  ⟨(some 10), .mov, [.t 57], none⟩]
def c_tree_Check_r13 : List COper := a_tree_Check_r13
instance : Reg c_tree_Check_r13 a_tree_Check_r13 9 := ⟨rfl, rfl⟩
@[simp] def c_tree_Check : CCode :=
  .seq (.region c_tree_Check_r0 none [2, 3, 4, 5, 6]) (.seq (.seq (.region c_tree_Check_r1 none [2, 3, 4, 5, 6, 18]) (.cond (.t 18) (.seq (.region c_tree_Check_r2 none [10]) (.ret)) (.skip))) (.seq (.block 0 (.loop (.seq (.seq (.region c_tree_Check_r3 none [2, 3, 4, 5, 6, 20]) (.cond (.t 20) (.skip) (.exit 0))) (.seq (.block 1 (.seq (.region c_tree_Check_r5 none [2, 3, 4, 5, 6, 11]) (.seq (.seq (.region c_tree_Check_r6 none [2, 3, 4, 5, 6, 11, 31]) (.cond (.t 31) (.exit 1) (.skip))) (.seq (.seq (.region c_tree_Check_r7 none [2, 3, 4, 5, 6, 11, 34]) (.cond (.t 34) (.seq (.region c_tree_Check_r8 none [10]) (.ret)) (.skip))) (.seq (.seq (.region c_tree_Check_r9 none [2, 3, 4, 5, 6, 37]) (.cond (.t 37) (.region c_tree_Check_r10 (some ([0, 1, 3, 0, 15, 31], [])) [2, 3, 4, 5, 6]) (.region c_tree_Check_r11 (some ([0, 0, 2, 6, 15, 31], [])) [2, 3, 4, 5, 6]))) (.region c_tree_Check_r12 none [2, 3, 4, 5, 6])))))) (.region c_tree_Check_r4 none [2, 3, 4, 5, 6]))))) (.seq (.region c_tree_Check_r13 none [10]) (.ret))))
@[simp] def R_tree_Check : List CRes := [.tmp 10]
theorem k_tree_Check : chkFn Tryd.prog fn_tree_Check c_tree_Check R_tree_Check 5 = true := by kernel_rfl
/-! wapentake/wapentakeref04.Of -/
@[simp] def a_r04_Of_r0 : List COper := [
  ⟨(some 2), .box, [.t 0], none⟩,
  ⟨(some 3), .box, [.t 1], none⟩,
  ⟨(some 4), .alloc (.arr 1 (rep 32 (.v (.int .u8 0)))), [], none⟩,
  ⟨(some 5), .mov, [.c (.bool false)], none⟩]
def c_r04_Of_r0 : List COper := a_r04_Of_r0
instance : Reg c_r04_Of_r0 a_r04_Of_r0 4 := ⟨rfl, rfl⟩
@[simp] def a_r04_Of_r1 : List COper := [
  ⟨(some 10), .faddr 0 1 false, [.t 3], none⟩,
  ⟨(some 11), .load false 1, [.t 10], none⟩,
  ⟨(some 12), .len, [.t 11], none⟩,
  ⟨(some 13), .bin .neq, [.t 12, .c (.int .i64 32)], none⟩,
  ⟨(some 14), .mov, [.t 13], none⟩,
  ⟨(some 15), .faddr 1 1 false, [.t 3], (some (14, false))⟩,
  ⟨(some 16), .load false 1, [.t 15], (some (14, false))⟩,
  ⟨(some 17), .len, [.t 16], (some (14, false))⟩,
  ⟨(some 18), .bin .neq, [.t 17, .c (.int .i64 32)], (some (14, false))⟩,
  ⟨(some 19), .pick, [.t 14, .c (.bool true), .t 18], none⟩]
def c_r04_Of_r1 : List COper := a_r04_Of_r1
instance : Reg c_r04_Of_r1 a_r04_Of_r1 10 := ⟨rfl, rfl⟩
@[simp] def a_r04_Of_r2 : List COper := [
  ⟨(some 20), .buildA 1 (rep 32 (.v (.int .u8 0))) [], [], none⟩,
  ⟨none, .store true 32, [.t 4, .t 20], none⟩,
  ⟨(some 5), .mov, [.c (.bool false)], none⟩]
def c_r04_Of_r2 : List COper := a_r04_Of_r2
instance : Reg c_r04_Of_r2 a_r04_Of_r2 3 := ⟨rfl, rfl⟩
@[simp] def a_r04_Of_r3 : List COper := [
  ⟨(some 6), .mov, [.c (.string (mkS []))], none⟩]
def c_r04_Of_r3 : List COper := a_r04_Of_r3
instance : Reg c_r04_Of_r3 a_r04_Of_r3 1 := ⟨rfl, rfl⟩
@[simp] def a_r04_Of_r4 : List COper := [
  ⟨(some 7), .mov, [.c (.int .i64 0)], none⟩]
def c_r04_Of_r4 : List COper := a_r04_Of_r4
instance : Reg c_r04_Of_r4 a_r04_Of_r4 1 := ⟨rfl, rfl⟩
@[simp] def a_r04_Of_r5 : List COper := [
  ⟨(some 21), .mov, [.t 7], none⟩,
  ⟨(some 22), .bin .lss, [.t 21, .c (.int .i64 32)], none⟩]
def c_r04_Of_r5 : List COper := a_r04_Of_r5
instance : Reg c_r04_Of_r5 a_r04_Of_r5 2 := ⟨rfl, rfl⟩
@[simp] def a_r04_Of_r7 : List COper := [
  ⟨(some 25), .faddr 0 1 false, [.t 3], none⟩,
  ⟨(some 26), .load false 1, [.t 25], none⟩,
  ⟨(some 27), .mov, [.t 7], none⟩,
  ⟨(some 28), .iaddr 32, [.t 26, .t 27], none⟩,
  ⟨(some 29), .load true 32, [.t 28], none⟩,
  ⟨(some 30), .call fn_r04_Shut, [.t 29], none⟩,
  ⟨(some 31), .call fn_r01_Digest, [.t 30], none⟩,
  ⟨(some 8), .mov, [.t 31], none⟩]
def c_r04_Of_r7 : List COper := a_r04_Of_r7
instance : Reg c_r04_Of_r7 a_r04_Of_r7 8 := ⟨rfl, rfl⟩
@[simp] def a_r04_Of_r8 : List COper := [
  ⟨(some 32), .faddr 1 1 false, [.t 3], none⟩,
  ⟨(some 33), .load false 1, [.t 32], none⟩,
  ⟨(some 34), .mov, [.t 7], none⟩,
  ⟨(some 35), .iaddr 32, [.t 33, .t 34], none⟩,
  ⟨(some 36), .load true 32, [.t 35], none⟩,
  ⟨(some 37), .call fn_r01_Digest, [.t 36], none⟩,
  ⟨(some 9), .mov, [.t 37], none⟩]
def c_r04_Of_r8 : List COper := a_r04_Of_r8
instance : Reg c_r04_Of_r8 a_r04_Of_r8 7 := ⟨rfl, rfl⟩
@[simp] def a_r04_Of_r9 : List COper := [
  ⟨(some 38), .load true 32, [.t 2], none⟩,
  ⟨(some 39), .mov, [.t 7], none⟩,
  ⟨(some 40), .call fn_r04_Bit, [.t 38, .t 39], none⟩,
  ⟨(some 41), .bin .eql, [.t 40, .c (.int .i64 0)], none⟩]
def c_r04_Of_r9 : List COper := a_r04_Of_r9
instance : Reg c_r04_Of_r9 a_r04_Of_r9 4 := ⟨rfl, rfl⟩
@[simp] def a_r04_Of_r10 : List COper := [
  ⟨(some 42), .mov, [.t 6], none⟩,
  ⟨(some 43), .mov, [.t 8], none⟩,
  ⟨(some 44), .bin .add, [.t 42, .t 43], none⟩,
  ⟨(some 45), .mov, [.t 9], none⟩,
  ⟨(some 46), .bin .add, [.t 44, .t 45], none⟩,
  ⟨(some 6), .mov, [.t 46], none⟩]
def c_r04_Of_r10 : List COper := a_r04_Of_r10
instance : Reg c_r04_Of_r10 a_r04_Of_r10 6 := ⟨rfl, rfl⟩
@[simp] def a_r04_Of_r11 : List COper := [
  ⟨(some 47), .mov, [.t 6], none⟩,
  ⟨(some 48), .mov, [.t 9], none⟩,
  ⟨(some 49), .bin .add, [.t 47, .t 48], none⟩,
  ⟨(some 50), .mov, [.t 8], none⟩,
  ⟨(some 51), .bin .add, [.t 49, .t 50], none⟩,
  ⟨(some 6), .mov, [.t 51], none⟩]
def c_r04_Of_r11 : List COper := a_r04_Of_r11
instance : Reg c_r04_Of_r11 a_r04_Of_r11 6 := ⟨rfl, rfl⟩
@[simp] def a_r04_Of_r6 : List COper := [
  ⟨(some 23), .mov, [.t 7], none⟩,
  ⟨(some 24), .bin .add, [.t 23, .c (.int .i64 1)], none⟩,
  ⟨(some 7), .mov, [.t 24], none⟩]
def c_r04_Of_r6 : List COper := a_r04_Of_r6
instance : Reg c_r04_Of_r6 a_r04_Of_r6 3 := ⟨rfl, rfl⟩
@[simp] def a_r04_Of_r12 : List COper := [
  ⟨(some 52), .mov, [.t 6], none⟩,
  ⟨(some 53), .call fn_r02_Text, [.t 52], none⟩,
  ⟨none, .store true 32, [.t 4, .t 53], none⟩,
  ⟨(some 5), .mov, [.c (.bool true)], none⟩]
def c_r04_Of_r12 : List COper := a_r04_Of_r12
instance : Reg c_r04_Of_r12 a_r04_Of_r12 4 := ⟨rfl, rfl⟩
@[simp] def c_r04_Of : CCode :=
  .seq (.region c_r04_Of_r0 none [2, 3, 4]) (.seq (.seq (.region c_r04_Of_r1 none [2, 3, 4, 19]) (.cond (.t 19) (.seq (.region c_r04_Of_r2 none [4, 5]) (.ret)) (.skip))) (.seq (.region c_r04_Of_r3 none [2, 3, 4, 6]) (.seq (.seq (.region c_r04_Of_r4 none [2, 3, 4, 6, 7]) (.block 0 (.loop (.seq (.seq (.region c_r04_Of_r5 none [2, 3, 4, 6, 7, 22]) (.cond (.t 22) (.skip) (.exit 0))) (.seq (.block 1 (.seq (.region c_r04_Of_r7 none [2, 3, 4, 6, 7, 8]) (.seq (.region c_r04_Of_r8 none [2, 3, 4, 6, 7, 8, 9]) (.seq (.region c_r04_Of_r9 none [2, 3, 4, 6, 7, 8, 9, 41]) (.cond (.t 41) (.region c_r04_Of_r10 none [2, 3, 4, 6, 7]) (.region c_r04_Of_r11 none [2, 3, 4, 6, 7])))))) (.region c_r04_Of_r6 none [2, 3, 4, 6, 7])))))) (.seq (.region c_r04_Of_r12 none [4, 5]) (.ret)))))
@[simp] def R_r04_Of : List CRes := [.cell 4 true 32, .tmp 5]
theorem k_r04_Of : chkFn Tryd.prog fn_r04_Of c_r04_Of R_r04_Of 2 = true := by kernel_rfl
end Go.Proofs.YtmdjimkndeklmaaDoor.WL
