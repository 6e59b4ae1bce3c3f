/- The program's functions as abstract texts, each held against the program by the kernel. -/
import Derived.Test.YtbmdaaehogpeeaaDoorWm6
import Derived.Test.YtbmdaaehogpeeaaDoorChecked
namespace Go.Proofs.YtbmdaaehogpeeaaDoor.WL
open Go
theorem mix : Tryd.prog.follows .mixedOrders = true := by kernel_rfl
def fn_l18_SnapApart : Nat := 3
def fn_l11_ChunkChecks : Nat := 4
def fn_l11_ChunkParts : Nat := 5
def fn_l18_alive : Nat := 6
def fn_l18_great : Nat := 7
def fn_r18_Read : Nat := 8
def fn_r18_Bytes : Nat := 9
def fn_disk_New : Nat := 10
def fn_snap_Save : Nat := 11
def fn_snap_Load : Nat := 12
def fn_r18_Same : Nat := 13
def fn_l11_alive : Nat := 14
def fn_l11_long : Nat := 15
def fn_chunk_Check : Nat := 16
def fn_r11_Check : Nat := 17
def fn_chunk_Join : Nat := 18
def fn_r11_Join : Nat := 19
def fn_r10_Same : Nat := 20
def fn_r10_Great : Nat := 21
def fn_chunk_Pieces : Nat := 22
def fn_chunk_Bytes : Nat := 23
def fn_l18_one : Nat := 24
def fn_r01_Reader_Digest : Nat := 25
def fn_r01_Reader_In : Nat := 26
def fn_r01_Reader_Text : Nat := 27
def fn_r01_Reader_End : Nat := 28
def fn_r02_Text : Nat := 29
def fn_r11_State : Nat := 30
def fn_r01_Num : Nat := 31
def fn_r01_Digest : Nat := 32
def fn_r01_Text : Nat := 33
def fn_r11_Bytes : Nat := 34
def fn_disk_Disk_Install : Nat := 35
def fn_snap_Bytes : Nat := 36
def fn_disk_Disk_Read : Nat := 37
def fn_snap_Read : Nat := 38
def fn_l11_one : Nat := 39
def fn_chunk_Root : Nat := 40
def fn_chunk_top : Nat := 41
def fn_tree_Check : Nat := 42
def fn_tree_Leaf : Nat := 43
def fn_r11_Top : Nat := 44
def fn_r03_Check : Nat := 45
def fn_r03_Leaf : Nat := 46
def fn_chunk_State : Nat := 47
def fn_r08_Same : Nat := 48
def fn_r09_Same : Nat := 49
def fn_chunk_parts : Nat := 50
def fn_chunk_leaves : Nat := 51
def fn_tree_Path : Nat := 52
def fn_tree_Root : Nat := 53
def fn_config_Write : Nat := 54
def fn_code_Writer_Num : Nat := 55
def fn_code_Writer_Text : Nat := 56
def fn_request_WriteReply : Nat := 57
def fn_code_Writer_Bytes : Nat := 58
def fn_r01_Reader_Take : Nat := 59
def fn_r01_Reader_Num : Nat := 60
def fn_r02_Of : Nat := 61
def fn_r08_Read : Nat := 62
def fn_r01_Reader_Good : Nat := 63
def fn_r09_ReadReply : Nat := 64
def fn_r10_Rises : Nat := 65
def fn_r08_Bytes : Nat := 66
def fn_r09_ReplyBytes : Nat := 67
def fn_disk_Disk_size : Nat := 68
def fn_disk_Disk_act : Nat := 69
def fn_disk_Disk_Off : Nat := 70
def fn_code_Writer_Digest : Nat := 71
def fn_sha_Of : Nat := 72
def fn_code_Read : Nat := 73
def fn_code_Reader_Digest : Nat := 74
def fn_code_Reader_In : Nat := 75
def fn_code_Reader_Text : Nat := 76
def fn_code_Reader_End : Nat := 77
def fn_sha_Pair : Nat := 78
def fn_r03_Pair : Nat := 79
def fn_config_Read : Nat := 80
def fn_request_ReadReply : Nat := 81
def fn_r09_Texts : Nat := 82
def fn_slices_Collect : Nat := 83
def fn_slices_Chunk : Nat := 84
def fn_tree_up : Nat := 85
def fn_r02_Padded : Nat := 86
def fn_r02_Numbers : Nat := 87
def fn_r02_Next : Nat := 88
def fn_r09_nums : Nat := 89
def fn_sha_state_block : Nat := 90
def fn_code_Reader_take : Nat := 91
def fn_code_Reader_Num : Nat := 92
def fn_code_Reader_Good : Nat := 93
def fn_slices_AppendSeq : Nat := 94
def fn_slices_Chunk_1 : Nat := 95
def fn_r02_turn : Nat := 96
def fn_r02_three : Nat := 97
def fn_sha_word : Nat := 98
def fn_bits_RotateLeft32 : Nat := 99
/-! wapentake/wapentakelaw11.ChunkParts -/
@[simp] def a_l11_ChunkParts_r0 : List COper := [
  ⟨(some 1), .box, [.t 0], none⟩,
  ⟨(some 2), .mov, [.c (.bool false)], none⟩]
def c_l11_ChunkParts_r0 : List COper := a_l11_ChunkParts_r0
instance : Reg c_l11_ChunkParts_r0 a_l11_ChunkParts_r0 2 := ⟨rfl, rfl⟩
@[simp] def a_l11_ChunkParts_r1 : List COper := [
  ⟨(some 7), .call fn_l11_alive, [], none⟩,
  ⟨(some 8), .not, [.t 7], none⟩]
def c_l11_ChunkParts_r1 : List COper := a_l11_ChunkParts_r1
instance : Reg c_l11_ChunkParts_r1 a_l11_ChunkParts_r1 2 := ⟨rfl, rfl⟩
@[simp] def a_l11_ChunkParts_r2 : List COper := [
  ⟨(some 2), .mov, [.c (.bool false)], none⟩]
def c_l11_ChunkParts_r2 : List COper := a_l11_ChunkParts_r2
instance : Reg c_l11_ChunkParts_r2 a_l11_ChunkParts_r2 1 := ⟨rfl, rfl⟩
@[simp] def a_l11_ChunkParts_r3 : List COper := [
  ⟨(some 9), .load true 4, [.t 1], none⟩,
  ⟨(some 10), .call fn_r10_Great, [.t 9, .c (.int .i64 4096)], none⟩]
def c_l11_ChunkParts_r3 : List COper := a_l11_ChunkParts_r3
instance : Reg c_l11_ChunkParts_r3 a_l11_ChunkParts_r3 2 := ⟨rfl, rfl⟩
@[simp] def a_l11_ChunkParts_r4 : List COper := [
  ⟨(some 2), .mov, [.c (.bool true)], none⟩]
def c_l11_ChunkParts_r4 : List COper := a_l11_ChunkParts_r4
instance : Reg c_l11_ChunkParts_r4 a_l11_ChunkParts_r4 1 := ⟨rfl, rfl⟩
@[simp] def a_l11_ChunkParts_r5 : List COper := [
  ⟨(some 3), .mov, [.c (.string (mkS []))], none⟩]
def c_l11_ChunkParts_r5 : List COper := a_l11_ChunkParts_r5
instance : Reg c_l11_ChunkParts_r5 a_l11_ChunkParts_r5 1 := ⟨rfl, rfl⟩
@[simp] def a_l11_ChunkParts_r6 : List COper := [
  ⟨(some 11), .load true 4, [.t 1], none⟩,
  ⟨(some 12), .call fn_chunk_Pieces, [.t 11], none⟩,
  ⟨(some 4), .mov, [.t 12], none⟩]
def c_l11_ChunkParts_r6 : List COper := a_l11_ChunkParts_r6
instance : Reg c_l11_ChunkParts_r6 a_l11_ChunkParts_r6 3 := ⟨rfl, rfl⟩
@[simp] def a_l11_ChunkParts_r7 : List COper := [
  ⟨(some 13), .mov, [.t 4], none⟩,
  ⟨(some 14), .len, [.t 13], none⟩,
  ⟨(some 15), .mov, [.c (.int .i64 0)], none⟩]
def c_l11_ChunkParts_r7 : List COper := a_l11_ChunkParts_r7
instance : Reg c_l11_ChunkParts_r7 a_l11_ChunkParts_r7 3 := ⟨rfl, rfl⟩
@[simp] def a_l11_ChunkParts_r8 : List COper := [
  ⟨(some 16), .bin .lss, [.t 15, .t 14], none⟩]
def c_l11_ChunkParts_r8 : List COper := a_l11_ChunkParts_r8
instance : Reg c_l11_ChunkParts_r8 a_l11_ChunkParts_r8 1 := ⟨rfl, rfl⟩
@[simp] def a_l11_ChunkParts_r9 : List COper := [
  ⟨(some 17), .mov, [.t 15], none⟩,
  ⟨(some 18), .iaddr 36, [.t 13, .t 15], none⟩,
  ⟨(some 19), .load true 36, [.t 18], none⟩,
  ⟨(some 6), .alloc (.node [.v (.int .i64 0), .v (.int .i64 0), .arr 1 (rep 32 (.v (.int .u8 0))), .v (.string (mkS [])), .v (.slice none 0 0)]), [], none⟩,
  ⟨(some 5), .mov, [.t 17], none⟩,
  ⟨none, .store true 36, [.t 6, .t 19], none⟩]
def c_l11_ChunkParts_r9 : List COper := a_l11_ChunkParts_r9
instance : Reg c_l11_ChunkParts_r9 a_l11_ChunkParts_r9 6 := ⟨rfl, rfl⟩
@[simp] def a_l11_ChunkParts_r10 : List COper := [
  ⟨(some 20), .mov, [.t 5], none⟩,
  ⟨(some 21), .bin .add, [.t 20, .c (.int .i64 1)], none⟩,
  ⟨(some 22), .mov, [.t 4], none⟩,
  ⟨(some 23), .len, [.t 22], none⟩,
  ⟨(some 24), .bin .lss, [.t 21, .t 23], none⟩,
  ⟨(some 25), .mov, [.t 24], none⟩,
  ⟨(some 26), .faddr 34 1 false, [.t 6], (some (25, true))⟩,
  ⟨(some 27), .load false 1, [.t 26], (some (25, true))⟩,
  ⟨(some 28), .lenS, [.t 27], (some (25, true))⟩,
  ⟨(some 29), .bin .neq, [.t 28, .c (.int .i64 256)], (some (25, true))⟩,
  ⟨(some 30), .pick, [.t 25, .t 29, .c (.bool false)], none⟩,
  ⟨(some 31), .mov, [.t 30], none⟩,
  ⟨(some 32), .faddr 34 1 false, [.t 6], (some (31, false))⟩,
  ⟨(some 33), .load false 1, [.t 32], (some (31, false))⟩,
  ⟨(some 34), .lenS, [.t 33], (some (31, false))⟩,
  ⟨(some 35), .bin .gtr, [.t 34, .c (.int .i64 256)], (some (31, false))⟩,
  ⟨(some 36), .pick, [.t 31, .c (.bool true), .t 35], none⟩,
  ⟨(some 37), .mov, [.t 36], none⟩,
  ⟨(some 38), .faddr 0 1 false, [.t 6], (some (37, false))⟩,
  ⟨(some 39), .load false 1, [.t 38], (some (37, false))⟩,
  ⟨(some 40), .mov, [.t 5], (some (37, false))⟩,
  ⟨(some 41), .bin .neq, [.t 39, .t 40], (some (37, false))⟩,
  ⟨(some 42), .pick, [.t 37, .c (.bool true), .t 41], none⟩,
  ⟨(some 43), .mov, [.t 42], none⟩,
  ⟨(some 44), .faddr 1 1 false, [.t 6], (some (43, false))⟩,
  ⟨(some 45), .load false 1, [.t 44], (some (43, false))⟩,
  ⟨(some 46), .mov, [.t 4], (some (43, false))⟩,
  ⟨(some 47), .len, [.t 46], (some (43, false))⟩,
  ⟨(some 48), .bin .neq, [.t 45, .t 47], (some (43, false))⟩,
  ⟨(some 49), .pick, [.t 43, .c (.bool true), .t 48], none⟩]
def c_l11_ChunkParts_r10 : List COper := a_l11_ChunkParts_r10
instance : Reg c_l11_ChunkParts_r10 a_l11_ChunkParts_r10 30 := ⟨rfl, rfl⟩
@[simp] def a_l11_ChunkParts_r11 : List COper := [
  ⟨(some 2), .mov, [.c (.bool false)], none⟩]
def c_l11_ChunkParts_r11 : List COper := a_l11_ChunkParts_r11
instance : Reg c_l11_ChunkParts_r11 a_l11_ChunkParts_r11 1 := ⟨rfl, rfl⟩
@[simp] def a_l11_ChunkParts_r12 : List COper := [
  ⟨(some 50), .mov, [.t 3], none⟩,
  ⟨(some 51), .faddr 34 1 false, [.t 6], none⟩,
  ⟨(some 52), .load false 1, [.t 51], none⟩,
  ⟨(some 53), .bin .add, [.t 50, .t 52], none⟩,
  ⟨(some 3), .mov, [.t 53], none⟩]
def c_l11_ChunkParts_r12 : List COper := a_l11_ChunkParts_r12
instance : Reg c_l11_ChunkParts_r12 a_l11_ChunkParts_r12 5 := ⟨rfl, rfl⟩
@[simp] def a_l11_ChunkParts_r13 : List COper := [
  ⟨(some 54), .bin .add, [.t 15, .c (.int .i64 1)], none⟩,
  ⟨(some 15), .mov, [.t 54], none⟩]
def c_l11_ChunkParts_r13 : List COper := a_l11_ChunkParts_r13
instance : Reg c_l11_ChunkParts_r13 a_l11_ChunkParts_r13 2 := ⟨rfl, rfl⟩
@[simp] def a_l11_ChunkParts_r14 : List COper := [
  ⟨(some 55), .mov, [.t 3], none⟩,
  ⟨(some 56), .load true 4, [.t 1], none⟩,
  ⟨(some 57), .call fn_chunk_Bytes, [.t 56], none⟩,
  ⟨(some 58), .convS, [.t 57], none⟩,
  ⟨(some 59), .bin .eql, [.t 55, .t 58], none⟩,
  ⟨(some 60), .mov, [.t 59], none⟩,
  ⟨(some 61), .mov, [.t 4], (some (60, true))⟩,
  ⟨(some 62), .len, [.t 61], (some (60, true))⟩,
  ⟨(some 63), .bin .gtr, [.t 62, .c (.int .i64 0)], (some (60, true))⟩,
  ⟨(some 64), .pick, [.t 60, .t 63, .c (.bool false)], none⟩,
  ⟨(some 2), .mov, [.t 64], none⟩]
def c_l11_ChunkParts_r14 : List COper := a_l11_ChunkParts_r14
instance : Reg c_l11_ChunkParts_r14 a_l11_ChunkParts_r14 11 := ⟨rfl, rfl⟩
@[simp] def c_l11_ChunkParts : CCode :=
  .seq (.region c_l11_ChunkParts_r0 none [1]) (.seq (.seq (.region c_l11_ChunkParts_r1 none [1, 8]) (.cond (.t 8) (.seq (.region c_l11_ChunkParts_r2 none [2]) (.ret)) (.skip))) (.seq (.seq (.region c_l11_ChunkParts_r3 none [1, 10]) (.cond (.t 10) (.seq (.region c_l11_ChunkParts_r4 none [2]) (.ret)) (.skip))) (.seq (.region c_l11_ChunkParts_r5 none [1, 3]) (.seq (.region c_l11_ChunkParts_r6 none [1, 3, 4]) (.seq (.seq (.region c_l11_ChunkParts_r7 none [1, 3, 4, 13, 14, 15]) (.block 0 (.loop (.seq (.region c_l11_ChunkParts_r8 none [1, 3, 4, 13, 14, 15, 16]) (.seq (.cond (.t 16) (.skip) (.exit 0)) (.seq (.block 1 (.seq (.region c_l11_ChunkParts_r9 none [1, 3, 4, 5, 6, 13, 14, 15]) (.seq (.seq (.region c_l11_ChunkParts_r10 none [1, 3, 4, 6, 13, 14, 15, 49]) (.cond (.t 49) (.seq (.region c_l11_ChunkParts_r11 none [2]) (.ret)) (.skip))) (.region c_l11_ChunkParts_r12 none [1, 3, 4, 13, 14, 15])))) (.region c_l11_ChunkParts_r13 none [1, 3, 4, 13, 14, 15]))))))) (.seq (.region c_l11_ChunkParts_r14 none [2]) (.ret)))))))
@[simp] def R_l11_ChunkParts : List CRes := [.tmp 2]
theorem k_l11_ChunkParts : chkFn Tryd.prog fn_l11_ChunkParts c_l11_ChunkParts R_l11_ChunkParts 1 = true := by kernel_rfl
/-! wapentake/wapentakelaw11.alive -/
@[simp] def a_l11_alive_r0 : List COper := [
  ⟨(some 0), .mov, [.c (.bool false)], none⟩]
def c_l11_alive_r0 : List COper := a_l11_alive_r0
instance : Reg c_l11_alive_r0 a_l11_alive_r0 1 := ⟨rfl, rfl⟩
@[simp] def a_l11_alive_r1 : List COper := [
  ⟨(some 4), .call fn_l11_one, [], none⟩,
  ⟨(some 5), .call fn_chunk_Pieces, [.t 4], none⟩,
  ⟨(some 1), .mov, [.t 5], none⟩]
def c_l11_alive_r1 : List COper := a_l11_alive_r1
instance : Reg c_l11_alive_r1 a_l11_alive_r1 3 := ⟨rfl, rfl⟩
@[simp] def a_l11_alive_r2 : List COper := [
  ⟨(some 7), .call fn_l11_one, [], none⟩,
  ⟨(some 8), .call fn_chunk_Root, [.t 7], none⟩,
  ⟨(some 9), .mov, [.t 1], none⟩,
  ⟨(some 10), .call fn_chunk_Join, [.t 8, .t 9], none⟩,
  ⟨(some 6), .mov, [.t 10], none⟩,
  ⟨(some 11), .ext 0, [.t 6], none⟩,
  ⟨(some 12), .ext 1, [.t 6], none⟩,
  ⟨(some 2), .alloc (.node [.v (.slice none 0 0), .v (.slice none 0 0), .node [.v (.int .i64 0), .v (.slice none 0 0)]]), [], none⟩,
  ⟨none, .store true 4, [.t 2, .t 11], none⟩,
  ⟨(some 3), .mov, [.t 12], none⟩]
def c_l11_alive_r2 : List COper := a_l11_alive_r2
instance : Reg c_l11_alive_r2 a_l11_alive_r2 10 := ⟨rfl, rfl⟩
@[simp] def a_l11_alive_r3 : List COper := [
  ⟨(some 13), .call fn_l11_one, [], none⟩,
  ⟨(some 14), .call fn_chunk_Bytes, [.t 13], none⟩,
  ⟨(some 15), .len, [.t 14], none⟩,
  ⟨(some 16), .bin .eql, [.t 15, .c (.int .i64 80)], none⟩,
  ⟨(some 17), .mov, [.t 16], none⟩,
  ⟨(some 18), .mov, [.t 1], (some (17, true))⟩,
  ⟨(some 19), .len, [.t 18], (some (17, true))⟩,
  ⟨(some 20), .bin .eql, [.t 19, .c (.int .i64 1)], (some (17, true))⟩,
  ⟨(some 21), .pick, [.t 17, .t 20, .c (.bool false)], none⟩,
  ⟨(some 22), .mov, [.t 21], none⟩,
  ⟨(some 23), .mov, [.t 3], (some (22, true))⟩,
  ⟨(some 24), .bin .eql, [.t 23, .c (.int .i64 0)], (some (22, true))⟩,
  ⟨(some 25), .pick, [.t 22, .t 24, .c (.bool false)], none⟩,
  ⟨(some 26), .mov, [.t 25], none⟩,
  ⟨(some 27), .faddr 2 2 true, [.t 2], (some (26, true))⟩,
  ⟨(some 28), .faddr 1 1 false, [.t 27], (some (26, true))⟩,
  ⟨(some 29), .load false 1, [.t 28], (some (26, true))⟩,
  ⟨(some 30), .len, [.t 29], (some (26, true))⟩,
  ⟨(some 31), .bin .eql, [.t 30, .c (.int .i64 1)], (some (26, true))⟩,
  ⟨(some 32), .pick, [.t 26, .t 31, .c (.bool false)], none⟩,
  ⟨(some 0), .mov, [.t 32], none⟩]
def c_l11_alive_r3 : List COper := a_l11_alive_r3
instance : Reg c_l11_alive_r3 a_l11_alive_r3 21 := ⟨rfl, rfl⟩
@[simp] def c_l11_alive : CCode :=
  .seq (.region c_l11_alive_r0 none []) (.seq (.region c_l11_alive_r1 none [1]) (.seq (.region c_l11_alive_r2 none [1, 2, 3]) (.seq (.region c_l11_alive_r3 none [0]) (.ret))))
@[simp] def R_l11_alive : List CRes := [.tmp 0]
theorem k_l11_alive : chkFn Tryd.prog fn_l11_alive c_l11_alive R_l11_alive 0 = true := by kernel_rfl
/-! wapentake/chunk.Check -/
@[simp] def a_chunk_Check_r0 : List COper := [
  ⟨(some 2), .box, [.t 0], none⟩,
  ⟨(some 3), .box, [.t 1], none⟩,
  ⟨(some 4), .mov, [.c (.bool false)], none⟩]
def c_chunk_Check_r0 : List COper := a_chunk_Check_r0
instance : Reg c_chunk_Check_r0 a_chunk_Check_r0 3 := ⟨rfl, rfl⟩
@[simp] def a_chunk_Check_r1 : List COper := [
  ⟨(some 5), .faddr 1 1 false, [.t 3], none⟩,
  ⟨(some 6), .load false 1, [.t 5], none⟩,
  ⟨(some 7), .faddr 2 32 true, [.t 3], none⟩,
  ⟨(some 8), .load true 32, [.t 7], none⟩,
  ⟨(some 9), .call fn_chunk_top, [.t 6, .t 8], none⟩,
  ⟨(some 10), .load true 32, [.t 2], none⟩,
  ⟨(some 11), .eqa false .u8 32, [.t 9, .t 10], none⟩,
  ⟨(some 12), .mov, [.t 11], none⟩,
  ⟨(some 13), .faddr 2 32 true, [.t 3], (some (12, true))⟩,
  ⟨(some 14), .load true 32, [.t 13], (some (12, true))⟩,
  ⟨(some 15), .faddr 34 1 false, [.t 3], (some (12, true))⟩,
  ⟨(some 16), .load false 1, [.t 15], (some (12, true))⟩,
  ⟨(some 17), .convB, [.t 16], (some (12, true))⟩,
  ⟨(some 18), .call fn_tree_Leaf, [.t 17], (some (12, true))⟩,
  ⟨(some 19), .faddr 0 1 false, [.t 3], (some (12, true))⟩,
  ⟨(some 20), .load false 1, [.t 19], (some (12, true))⟩,
  ⟨(some 21), .faddr 1 1 false, [.t 3], (some (12, true))⟩,
  ⟨(some 22), .load false 1, [.t 21], (some (12, true))⟩,
  ⟨(some 23), .faddr 35 1 false, [.t 3], (some (12, true))⟩,
  ⟨(some 24), .load false 1, [.t 23], (some (12, true))⟩,
  ⟨(some 25), .call fn_tree_Check, [.t 14, .t 18, .t 20, .t 22, .t 24], (some (12, true))⟩,
  ⟨(some 26), .pick, [.t 12, .t 25, .c (.bool false)], none⟩,
  ⟨(some 4), .mov, [.t 26], none⟩]
def c_chunk_Check_r1 : List COper := a_chunk_Check_r1
instance : Reg c_chunk_Check_r1 a_chunk_Check_r1 23 := ⟨rfl, rfl⟩
@[simp] def c_chunk_Check : CCode :=
  .seq (.region c_chunk_Check_r0 none [2, 3]) (.seq (.region c_chunk_Check_r1 (some ([0, 1, 0, 4, 15, 0, 63, 127, 255, 511, 255, 1279, 3327, 7423, 255, 16639, 255, 65791, 255, 262399, 1048575, 2097151, 4194303], [(4, 5), (9, 13), (13, 15), (13, 17), (13, 19)])) [4]) (.ret))
@[simp] def R_chunk_Check : List CRes := [.tmp 4]
theorem k_chunk_Check : chkFn Tryd.prog fn_chunk_Check c_chunk_Check R_chunk_Check 2 = true := by kernel_rfl
/-! wapentake/chunk.Join -/
@[simp] def a_chunk_Join_r0 : List COper := [
  ⟨(some 2), .box, [.t 0], none⟩,
  ⟨(some 4), .alloc (.node [.v (.slice none 0 0), .v (.slice none 0 0), .node [.v (.int .i64 0), .v (.slice none 0 0)]]), [], none⟩,
  ⟨(some 5), .mov, [.c (.int .i64 0)], none⟩]
def c_chunk_Join_r0 : List COper := a_chunk_Join_r0
instance : Reg c_chunk_Join_r0 a_chunk_Join_r0 3 := ⟨rfl, rfl⟩
@[simp] def a_chunk_Join_r1 : List COper := [
  ⟨(some 12), .mkmap false 1 false 1, [], none⟩,
  ⟨(some 6), .mov, [.t 12], none⟩]
def c_chunk_Join_r1 : List COper := a_chunk_Join_r1
instance : Reg c_chunk_Join_r1 a_chunk_Join_r1 2 := ⟨rfl, rfl⟩
@[simp] def a_chunk_Join_r2 : List COper := [
  ⟨(some 7), .mov, [.c (.int .i64 0)], none⟩]
def c_chunk_Join_r2 : List COper := a_chunk_Join_r2
instance : Reg c_chunk_Join_r2 a_chunk_Join_r2 1 := ⟨rfl, rfl⟩
@[simp] def a_chunk_Join_r3 : List COper := [
  ⟨(some 13), .mov, [.t 1], none⟩,
  ⟨(some 14), .len, [.t 13], none⟩,
  ⟨(some 15), .mov, [.c (.int .i64 0)], none⟩]
def c_chunk_Join_r3 : List COper := a_chunk_Join_r3
instance : Reg c_chunk_Join_r3 a_chunk_Join_r3 3 := ⟨rfl, rfl⟩
@[simp] def a_chunk_Join_r4 : List COper := [
  ⟨(some 16), .bin .lss, [.t 15, .t 14], none⟩]
def c_chunk_Join_r4 : List COper := a_chunk_Join_r4
instance : Reg c_chunk_Join_r4 a_chunk_Join_r4 1 := ⟨rfl, rfl⟩
@[simp] def a_chunk_Join_r5 : List COper := [
  ⟨(some 17), .iaddr 36, [.t 13, .t 15], none⟩,
  ⟨(some 18), .load true 36, [.t 17], none⟩,
  ⟨(some 9), .alloc (.node [.v (.int .i64 0), .v (.int .i64 0), .arr 1 (rep 32 (.v (.int .u8 0))), .v (.string (mkS [])), .v (.slice none 0 0)]), [], none⟩,
  ⟨none, .store true 36, [.t 9, .t 18], none⟩]
def c_chunk_Join_r5 : List COper := a_chunk_Join_r5
instance : Reg c_chunk_Join_r5 a_chunk_Join_r5 4 := ⟨rfl, rfl⟩
@[simp] def a_chunk_Join_r6 : List COper := [
  ⟨(some 19), .load true 32, [.t 2], none⟩,
  ⟨(some 20), .load true 36, [.t 9], none⟩,
  ⟨(some 21), .call fn_chunk_Check, [.t 19, .t 20], none⟩]
def c_chunk_Join_r6 : List COper := a_chunk_Join_r6
instance : Reg c_chunk_Join_r6 a_chunk_Join_r6 3 := ⟨rfl, rfl⟩
@[simp] def a_chunk_Join_r7 : List COper := [
  ⟨(some 22), .mov, [.t 6], none⟩,
  ⟨(some 23), .faddr 0 1 false, [.t 9], none⟩,
  ⟨(some 24), .load false 1, [.t 23], none⟩,
  ⟨(some 25), .faddr 34 1 false, [.t 9], none⟩,
  ⟨(some 26), .load false 1, [.t 25], none⟩,
  ⟨(some 27), .faddr 1 1 false, [.t 9], none⟩,
  ⟨(some 28), .load false 1, [.t 27], none⟩,
  ⟨none, .mput (.int .i64), [.t 22, .t 24, .t 26], none⟩,
  ⟨(some 7), .mov, [.t 28], none⟩]
def c_chunk_Join_r7 : List COper := a_chunk_Join_r7
instance : Reg c_chunk_Join_r7 a_chunk_Join_r7 9 := ⟨rfl, rfl⟩
@[simp] def a_chunk_Join_r8 : List COper := [
  ⟨(some 29), .bin .add, [.t 15, .c (.int .i64 1)], none⟩,
  ⟨(some 15), .mov, [.t 29], none⟩]
def c_chunk_Join_r8 : List COper := a_chunk_Join_r8
instance : Reg c_chunk_Join_r8 a_chunk_Join_r8 2 := ⟨rfl, rfl⟩
@[simp] def a_chunk_Join_r9 : List COper := [
  ⟨(some 30), .mov, [.t 7], none⟩,
  ⟨(some 31), .bin .eql, [.t 30, .c (.int .i64 0)], none⟩,
  ⟨(some 32), .mov, [.t 31], none⟩,
  ⟨(some 33), .mov, [.t 6], (some (32, false))⟩,
  ⟨(some 34), .mlen, [.t 33], (some (32, false))⟩,
  ⟨(some 35), .mov, [.t 7], (some (32, false))⟩,
  ⟨(some 36), .bin .lss, [.t 34, .t 35], (some (32, false))⟩,
  ⟨(some 37), .pick, [.t 32, .c (.bool true), .t 36], none⟩]
def c_chunk_Join_r9 : List COper := a_chunk_Join_r9
instance : Reg c_chunk_Join_r9 a_chunk_Join_r9 8 := ⟨rfl, rfl⟩
@[simp] def a_chunk_Join_r10 : List COper := [
  ⟨(some 38), .build [.v (.slice none 0 0), .v (.slice none 0 0), .node [.v (.int .i64 0), .v (.slice none 0 0)]] [], [], none⟩,
  ⟨none, .store true 4, [.t 4, .t 38], none⟩,
  ⟨(some 5), .mov, [.c (.int .i64 10)], none⟩]
def c_chunk_Join_r10 : List COper := a_chunk_Join_r10
instance : Reg c_chunk_Join_r10 a_chunk_Join_r10 3 := ⟨rfl, rfl⟩
@[simp] def a_chunk_Join_r11 : List COper := [
  ⟨(some 10), .mov, [.c (.slice none 0 0)], none⟩]
def c_chunk_Join_r11 : List COper := a_chunk_Join_r11
instance : Reg c_chunk_Join_r11 a_chunk_Join_r11 1 := ⟨rfl, rfl⟩
@[simp] def a_chunk_Join_r12 : List COper := [
  ⟨(some 39), .mov, [.t 7], none⟩,
  ⟨(some 40), .mov, [.c (.int .i64 0)], none⟩]
def c_chunk_Join_r12 : List COper := a_chunk_Join_r12
instance : Reg c_chunk_Join_r12 a_chunk_Join_r12 2 := ⟨rfl, rfl⟩
@[simp] def a_chunk_Join_r13 : List COper := [
  ⟨(some 41), .bin .lss, [.t 40, .t 39], none⟩]
def c_chunk_Join_r13 : List COper := a_chunk_Join_r13
instance : Reg c_chunk_Join_r13 a_chunk_Join_r13 1 := ⟨rfl, rfl⟩
@[simp] def a_chunk_Join_r14 : List COper := [
  ⟨(some 42), .mov, [.t 40], none⟩,
  ⟨(some 11), .mov, [.t 42], none⟩]
def c_chunk_Join_r14 : List COper := a_chunk_Join_r14
instance : Reg c_chunk_Join_r14 a_chunk_Join_r14 2 := ⟨rfl, rfl⟩
@[simp] def a_chunk_Join_r15 : List COper := [
  ⟨(some 43), .mov, [.t 10], none⟩,
  ⟨(some 44), .mov, [.t 6], none⟩,
  ⟨(some 45), .mov, [.t 11], none⟩,
  ⟨(some 46), .mlook (.int .i64) (.v (.string (mkS []))) false, [.t 44, .t 45], none⟩,
  ⟨(some 47), .appS 1, [.t 43, .t 46], none⟩,
  ⟨(some 10), .mov, [.t 47], none⟩]
def c_chunk_Join_r15 : List COper := a_chunk_Join_r15
instance : Reg c_chunk_Join_r15 a_chunk_Join_r15 6 := ⟨rfl, rfl⟩
@[simp] def a_chunk_Join_r16 : List COper := [
  ⟨(some 48), .bin .add, [.t 40, .c (.int .i64 1)], none⟩,
  ⟨(some 40), .mov, [.t 48], none⟩]
def c_chunk_Join_r16 : List COper := a_chunk_Join_r16
instance : Reg c_chunk_Join_r16 a_chunk_Join_r16 2 := ⟨rfl, rfl⟩
@[simp] def a_chunk_Join_r17 : List COper := [
  ⟨(some 49), .mov, [.t 10], none⟩,
  ⟨(some 50), .call fn_chunk_State, [.t 49], none⟩,
  ⟨(some 51), .ext 0, [.t 50], none⟩,
  ⟨(some 52), .ext 1, [.t 50], none⟩,
  ⟨none, .store true 4, [.t 4, .t 51], none⟩,
  ⟨(some 5), .mov, [.t 52], none⟩]
def c_chunk_Join_r17 : List COper := a_chunk_Join_r17
instance : Reg c_chunk_Join_r17 a_chunk_Join_r17 6 := ⟨rfl, rfl⟩
@[simp] def c_chunk_Join : CCode :=
  .seq (.region c_chunk_Join_r0 none [1, 2, 4]) (.seq (.region c_chunk_Join_r1 none [1, 2, 4, 6]) (.seq (.region c_chunk_Join_r2 none [1, 2, 4, 6, 7]) (.seq (.seq (.region c_chunk_Join_r3 none [2, 4, 6, 7, 13, 14, 15]) (.block 0 (.loop (.seq (.region c_chunk_Join_r4 none [2, 4, 6, 7, 13, 14, 15, 16]) (.seq (.cond (.t 16) (.skip) (.exit 0)) (.seq (.block 1 (.seq (.region c_chunk_Join_r5 none [2, 4, 6, 7, 9, 13, 14, 15]) (.seq (.region c_chunk_Join_r6 none [2, 4, 6, 7, 9, 13, 14, 15, 21]) (.cond (.t 21) (.region c_chunk_Join_r7 (some ([0, 0, 2, 0, 8, 0, 32, 31, 255], [(6, 7)])) [2, 4, 6, 7, 13, 14, 15]) (.skip))))) (.region c_chunk_Join_r8 none [2, 4, 6, 7, 13, 14, 15]))))))) (.seq (.seq (.region c_chunk_Join_r9 none [4, 6, 7, 37]) (.cond (.t 37) (.seq (.region c_chunk_Join_r10 none [4, 5]) (.ret)) (.skip))) (.seq (.region c_chunk_Join_r11 none [4, 6, 7, 10]) (.seq (.seq (.region c_chunk_Join_r12 none [4, 6, 10, 39, 40]) (.block 2 (.loop (.seq (.region c_chunk_Join_r13 none [4, 6, 10, 39, 40, 41]) (.seq (.cond (.t 41) (.skip) (.exit 2)) (.seq (.block 3 (.seq (.region c_chunk_Join_r14 none [4, 6, 10, 11, 39, 40]) (.region c_chunk_Join_r15 none [4, 6, 10, 39, 40]))) (.region c_chunk_Join_r16 none [4, 6, 10, 39, 40]))))))) (.seq (.region c_chunk_Join_r17 none [4, 5]) (.ret))))))))
@[simp] def R_chunk_Join : List CRes := [.cell 4 true 4, .tmp 5]
theorem k_chunk_Join : chkFn Tryd.prog fn_chunk_Join c_chunk_Join R_chunk_Join 2 = true := by kernel_rfl
/-! wapentake/wapentakeref10.Great -/
@[simp] def a_r10_Great_r0 : List COper := [
  ⟨(some 2), .box, [.t 0], none⟩,
  ⟨(some 4), .mov, [.c (.bool false)], none⟩]
def c_r10_Great_r0 : List COper := a_r10_Great_r0
instance : Reg c_r10_Great_r0 a_r10_Great_r0 2 := ⟨rfl, rfl⟩
@[simp] def a_r10_Great_r1 : List COper := [
  ⟨(some 12), .faddr 0 1 false, [.t 2], none⟩,
  ⟨(some 13), .load false 1, [.t 12], none⟩,
  ⟨(some 14), .len, [.t 13], none⟩,
  ⟨(some 15), .bin .gtr, [.t 14, .c (.int .i64 300)], none⟩,
  ⟨(some 16), .mov, [.t 15], none⟩,
  ⟨(some 17), .faddr 1 1 false, [.t 2], (some (16, false))⟩,
  ⟨(some 18), .load false 1, [.t 17], (some (16, false))⟩,
  ⟨(some 19), .len, [.t 18], (some (16, false))⟩,
  ⟨(some 20), .bin .gtr, [.t 19, .c (.int .i64 100)], (some (16, false))⟩,
  ⟨(some 21), .pick, [.t 16, .c (.bool true), .t 20], none⟩,
  ⟨(some 22), .mov, [.t 21], none⟩,
  ⟨(some 23), .faddr 2 2 true, [.t 2], (some (22, false))⟩,
  ⟨(some 24), .faddr 1 1 false, [.t 23], (some (22, false))⟩,
  ⟨(some 25), .load false 1, [.t 24], (some (22, false))⟩,
  ⟨(some 26), .len, [.t 25], (some (22, false))⟩,
  ⟨(some 27), .bin .gtr, [.t 26, .c (.int .i64 20)], (some (22, false))⟩,
  ⟨(some 28), .pick, [.t 22, .c (.bool true), .t 27], none⟩]
def c_r10_Great_r1 : List COper := a_r10_Great_r1
instance : Reg c_r10_Great_r1 a_r10_Great_r1 17 := ⟨rfl, rfl⟩
@[simp] def a_r10_Great_r2 : List COper := [
  ⟨(some 4), .mov, [.c (.bool true)], none⟩]
def c_r10_Great_r2 : List COper := a_r10_Great_r2
instance : Reg c_r10_Great_r2 a_r10_Great_r2 1 := ⟨rfl, rfl⟩
@[simp] def a_r10_Great_r3 : List COper := [
  ⟨(some 5), .mov, [.c (.int .i64 0)], none⟩]
def c_r10_Great_r3 : List COper := a_r10_Great_r3
instance : Reg c_r10_Great_r3 a_r10_Great_r3 1 := ⟨rfl, rfl⟩
@[simp] def a_r10_Great_r4 : List COper := [
  ⟨(some 29), .faddr 0 1 false, [.t 2], none⟩,
  ⟨(some 30), .load false 1, [.t 29], none⟩,
  ⟨(some 31), .len, [.t 30], none⟩,
  ⟨(some 32), .mov, [.c (.int .i64 0)], none⟩]
def c_r10_Great_r4 : List COper := a_r10_Great_r4
instance : Reg c_r10_Great_r4 a_r10_Great_r4 4 := ⟨rfl, rfl⟩
@[simp] def a_r10_Great_r5 : List COper := [
  ⟨(some 33), .bin .lss, [.t 32, .t 31], none⟩]
def c_r10_Great_r5 : List COper := a_r10_Great_r5
instance : Reg c_r10_Great_r5 a_r10_Great_r5 1 := ⟨rfl, rfl⟩
@[simp] def a_r10_Great_r6 : List COper := [
  ⟨(some 34), .iaddr 2, [.t 30, .t 32], none⟩,
  ⟨(some 35), .load true 2, [.t 34], none⟩,
  ⟨(some 7), .alloc (.node [.v (.string (mkS [])), .v (.string (mkS []))]), [], none⟩,
  ⟨none, .store true 2, [.t 7, .t 35], none⟩]
def c_r10_Great_r6 : List COper := a_r10_Great_r6
instance : Reg c_r10_Great_r6 a_r10_Great_r6 4 := ⟨rfl, rfl⟩
@[simp] def a_r10_Great_r7 : List COper := [
  ⟨(some 36), .mov, [.t 5], none⟩,
  ⟨(some 37), .bin .add, [.t 36, .c (.int .i64 1)], none⟩,
  ⟨(some 38), .faddr 0 1 false, [.t 7], none⟩,
  ⟨(some 39), .load false 1, [.t 38], none⟩,
  ⟨(some 40), .lenS, [.t 39], none⟩,
  ⟨(some 41), .bin .add, [.t 37, .t 40], none⟩,
  ⟨(some 42), .faddr 1 1 false, [.t 7], none⟩,
  ⟨(some 43), .load false 1, [.t 42], none⟩,
  ⟨(some 44), .lenS, [.t 43], none⟩,
  ⟨(some 45), .bin .add, [.t 41, .t 44], none⟩,
  ⟨(some 5), .mov, [.t 45], none⟩]
def c_r10_Great_r7 : List COper := a_r10_Great_r7
instance : Reg c_r10_Great_r7 a_r10_Great_r7 11 := ⟨rfl, rfl⟩
@[simp] def a_r10_Great_r8 : List COper := [
  ⟨(some 46), .mov, [.t 5], none⟩,
  ⟨(some 47), .mov, [.t 1], none⟩,
  ⟨(some 48), .bin .gtr, [.t 46, .t 47], none⟩]
def c_r10_Great_r8 : List COper := a_r10_Great_r8
instance : Reg c_r10_Great_r8 a_r10_Great_r8 3 := ⟨rfl, rfl⟩
@[simp] def a_r10_Great_r9 : List COper := [
  ⟨(some 4), .mov, [.c (.bool true)], none⟩]
def c_r10_Great_r9 : List COper := a_r10_Great_r9
instance : Reg c_r10_Great_r9 a_r10_Great_r9 1 := ⟨rfl, rfl⟩
@[simp] def a_r10_Great_r10 : List COper := [
  ⟨(some 49), .bin .add, [.t 32, .c (.int .i64 1)], none⟩,
  ⟨(some 32), .mov, [.t 49], none⟩]
def c_r10_Great_r10 : List COper := a_r10_Great_r10
instance : Reg c_r10_Great_r10 a_r10_Great_r10 2 := ⟨rfl, rfl⟩
@[simp] def a_r10_Great_r11 : List COper := [
  ⟨(some 50), .faddr 1 1 false, [.t 2], none⟩,
  ⟨(some 51), .load false 1, [.t 50], none⟩,
  ⟨(some 52), .len, [.t 51], none⟩,
  ⟨(some 53), .mov, [.c (.int .i64 0)], none⟩]
def c_r10_Great_r11 : List COper := a_r10_Great_r11
instance : Reg c_r10_Great_r11 a_r10_Great_r11 4 := ⟨rfl, rfl⟩
@[simp] def a_r10_Great_r12 : List COper := [
  ⟨(some 54), .bin .lss, [.t 53, .t 52], none⟩]
def c_r10_Great_r12 : List COper := a_r10_Great_r12
instance : Reg c_r10_Great_r12 a_r10_Great_r12 1 := ⟨rfl, rfl⟩
@[simp] def a_r10_Great_r13 : List COper := [
  ⟨(some 55), .iaddr 4, [.t 51, .t 53], none⟩,
  ⟨(some 56), .load true 4, [.t 55], none⟩,
  ⟨(some 9), .alloc (.node [.v (.int .i64 0), .v (.int .i64 0), .v (.int .i64 0), .v (.slice none 0 0)]), [], none⟩,
  ⟨none, .store true 4, [.t 9, .t 56], none⟩]
def c_r10_Great_r13 : List COper := a_r10_Great_r13
instance : Reg c_r10_Great_r13 a_r10_Great_r13 4 := ⟨rfl, rfl⟩
@[simp] def a_r10_Great_r14 : List COper := [
  ⟨(some 57), .faddr 3 1 false, [.t 9], none⟩,
  ⟨(some 58), .load false 1, [.t 57], none⟩,
  ⟨(some 59), .len, [.t 58], none⟩,
  ⟨(some 60), .bin .gtr, [.t 59, .c (.int .i64 300)], none⟩]
def c_r10_Great_r14 : List COper := a_r10_Great_r14
instance : Reg c_r10_Great_r14 a_r10_Great_r14 4 := ⟨rfl, rfl⟩
@[simp] def a_r10_Great_r15 : List COper := [
  ⟨(some 4), .mov, [.c (.bool true)], none⟩]
def c_r10_Great_r15 : List COper := a_r10_Great_r15
instance : Reg c_r10_Great_r15 a_r10_Great_r15 1 := ⟨rfl, rfl⟩
@[simp] def a_r10_Great_r16 : List COper := [
  ⟨(some 61), .faddr 3 1 false, [.t 9], none⟩,
  ⟨(some 62), .load false 1, [.t 61], none⟩,
  ⟨(some 63), .len, [.t 62], none⟩,
  ⟨(some 64), .mov, [.c (.int .i64 0)], none⟩]
def c_r10_Great_r16 : List COper := a_r10_Great_r16
instance : Reg c_r10_Great_r16 a_r10_Great_r16 4 := ⟨rfl, rfl⟩
@[simp] def a_r10_Great_r17 : List COper := [
  ⟨(some 65), .bin .lss, [.t 64, .t 63], none⟩]
def c_r10_Great_r17 : List COper := a_r10_Great_r17
instance : Reg c_r10_Great_r17 a_r10_Great_r17 1 := ⟨rfl, rfl⟩
@[simp] def a_r10_Great_r18 : List COper := [
  ⟨(some 66), .iaddr 1, [.t 62, .t 64], none⟩,
  ⟨(some 67), .load false 1, [.t 66], none⟩,
  ⟨(some 11), .mov, [.t 67], none⟩]
def c_r10_Great_r18 : List COper := a_r10_Great_r18
instance : Reg c_r10_Great_r18 a_r10_Great_r18 3 := ⟨rfl, rfl⟩
@[simp] def a_r10_Great_r19 : List COper := [
  ⟨(some 68), .mov, [.t 5], none⟩,
  ⟨(some 69), .bin .add, [.t 68, .c (.int .i64 1)], none⟩,
  ⟨(some 70), .mov, [.t 11], none⟩,
  ⟨(some 71), .lenS, [.t 70], none⟩,
  ⟨(some 72), .bin .add, [.t 69, .t 71], none⟩,
  ⟨(some 5), .mov, [.t 72], none⟩]
def c_r10_Great_r19 : List COper := a_r10_Great_r19
instance : Reg c_r10_Great_r19 a_r10_Great_r19 6 := ⟨rfl, rfl⟩
@[simp] def a_r10_Great_r20 : List COper := [
  ⟨(some 73), .mov, [.t 5], none⟩,
  ⟨(some 74), .mov, [.t 1], none⟩,
  ⟨(some 75), .bin .gtr, [.t 73, .t 74], none⟩]
def c_r10_Great_r20 : List COper := a_r10_Great_r20
instance : Reg c_r10_Great_r20 a_r10_Great_r20 3 := ⟨rfl, rfl⟩
@[simp] def a_r10_Great_r21 : List COper := [
  ⟨(some 4), .mov, [.c (.bool true)], none⟩]
def c_r10_Great_r21 : List COper := a_r10_Great_r21
instance : Reg c_r10_Great_r21 a_r10_Great_r21 1 := ⟨rfl, rfl⟩
@[simp] def a_r10_Great_r22 : List COper := [
  ⟨(some 76), .bin .add, [.t 64, .c (.int .i64 1)], none⟩,
  ⟨(some 64), .mov, [.t 76], none⟩]
def c_r10_Great_r22 : List COper := a_r10_Great_r22
instance : Reg c_r10_Great_r22 a_r10_Great_r22 2 := ⟨rfl, rfl⟩
@[simp] def a_r10_Great_r23 : List COper := [
  ⟨(some 77), .bin .add, [.t 53, .c (.int .i64 1)], none⟩,
  ⟨(some 53), .mov, [.t 77], none⟩]
def c_r10_Great_r23 : List COper := a_r10_Great_r23
instance : Reg c_r10_Great_r23 a_r10_Great_r23 2 := ⟨rfl, rfl⟩
@[simp] def a_r10_Great_r24 : List COper := [
  ⟨(some 4), .mov, [.c (.bool false)], none⟩]
def c_r10_Great_r24 : List COper := a_r10_Great_r24
instance : Reg c_r10_Great_r24 a_r10_Great_r24 1 := ⟨rfl, rfl⟩
@[simp] def c_r10_Great : CCode :=
  .seq (.region c_r10_Great_r0 none [1, 2]) (.seq (.seq (.region c_r10_Great_r1 none [1, 2, 28]) (.cond (.t 28) (.seq (.region c_r10_Great_r2 none [4]) (.ret)) (.skip))) (.seq (.region c_r10_Great_r3 none [1, 2, 5]) (.seq (.seq (.region c_r10_Great_r4 none [1, 2, 5, 30, 31, 32]) (.block 0 (.loop (.seq (.region c_r10_Great_r5 none [1, 2, 5, 30, 31, 32, 33]) (.seq (.cond (.t 33) (.skip) (.exit 0)) (.seq (.block 1 (.seq (.region c_r10_Great_r6 none [1, 2, 5, 7, 30, 31, 32]) (.seq (.region c_r10_Great_r7 none [1, 2, 5, 30, 31, 32]) (.seq (.region c_r10_Great_r8 none [1, 2, 5, 30, 31, 32, 48]) (.cond (.t 48) (.seq (.region c_r10_Great_r9 none [4]) (.ret)) (.skip)))))) (.region c_r10_Great_r10 none [1, 2, 5, 30, 31, 32]))))))) (.seq (.seq (.region c_r10_Great_r11 none [1, 5, 51, 52, 53]) (.block 2 (.loop (.seq (.region c_r10_Great_r12 none [1, 5, 51, 52, 53, 54]) (.seq (.cond (.t 54) (.skip) (.exit 2)) (.seq (.block 3 (.seq (.region c_r10_Great_r13 none [1, 5, 9, 51, 52, 53]) (.seq (.seq (.region c_r10_Great_r14 none [1, 5, 9, 51, 52, 53, 60]) (.cond (.t 60) (.seq (.region c_r10_Great_r15 none [4]) (.ret)) (.skip))) (.seq (.region c_r10_Great_r16 none [1, 5, 51, 52, 53, 62, 63, 64]) (.block 4 (.loop (.seq (.region c_r10_Great_r17 none [1, 5, 51, 52, 53, 62, 63, 64, 65]) (.seq (.cond (.t 65) (.skip) (.exit 4)) (.seq (.block 5 (.seq (.region c_r10_Great_r18 none [1, 5, 11, 51, 52, 53, 62, 63, 64]) (.seq (.region c_r10_Great_r19 none [1, 5, 51, 52, 53, 62, 63, 64]) (.seq (.region c_r10_Great_r20 none [1, 5, 51, 52, 53, 62, 63, 64, 75]) (.cond (.t 75) (.seq (.region c_r10_Great_r21 none [4]) (.ret)) (.skip)))))) (.region c_r10_Great_r22 none [1, 5, 51, 52, 53, 62, 63, 64])))))))))) (.region c_r10_Great_r23 none [1, 5, 51, 52, 53]))))))) (.seq (.region c_r10_Great_r24 none [4]) (.ret))))))
@[simp] def R_r10_Great : List CRes := [.tmp 4]
theorem k_r10_Great : chkFn Tryd.prog fn_r10_Great c_r10_Great R_r10_Great 2 = true := by kernel_rfl
/-! wapentake/chunk.Pieces -/
@[simp] def a_chunk_Pieces_r0 : List COper := [
  ⟨(some 1), .box, [.t 0], none⟩,
  ⟨(some 2), .mov, [.c (.slice none 0 0)], none⟩]
def c_chunk_Pieces_r0 : List COper := a_chunk_Pieces_r0
instance : Reg c_chunk_Pieces_r0 a_chunk_Pieces_r0 2 := ⟨rfl, rfl⟩
@[simp] def a_chunk_Pieces_r1 : List COper := [
  ⟨(some 10), .load true 4, [.t 1], none⟩,
  ⟨(some 11), .call fn_chunk_Bytes, [.t 10], none⟩,
  ⟨(some 12), .call fn_chunk_parts, [.t 11], none⟩,
  ⟨(some 3), .mov, [.t 12], none⟩]
def c_chunk_Pieces_r1 : List COper := a_chunk_Pieces_r1
instance : Reg c_chunk_Pieces_r1 a_chunk_Pieces_r1 4 := ⟨rfl, rfl⟩
@[simp] def a_chunk_Pieces_r2 : List COper := [
  ⟨(some 13), .mov, [.t 3], none⟩,
  ⟨(some 14), .call fn_chunk_leaves, [.t 13], none⟩,
  ⟨(some 4), .mov, [.t 14], none⟩]
def c_chunk_Pieces_r2 : List COper := a_chunk_Pieces_r2
instance : Reg c_chunk_Pieces_r2 a_chunk_Pieces_r2 3 := ⟨rfl, rfl⟩
@[simp] def a_chunk_Pieces_r3 : List COper := [
  ⟨(some 5), .mov, [.c (.slice none 0 0)], none⟩]
def c_chunk_Pieces_r3 : List COper := a_chunk_Pieces_r3
instance : Reg c_chunk_Pieces_r3 a_chunk_Pieces_r3 1 := ⟨rfl, rfl⟩
@[simp] def a_chunk_Pieces_r4 : List COper := [
  ⟨(some 15), .mov, [.t 3], none⟩,
  ⟨(some 16), .len, [.t 15], none⟩,
  ⟨(some 17), .mov, [.c (.int .i64 0)], none⟩]
def c_chunk_Pieces_r4 : List COper := a_chunk_Pieces_r4
instance : Reg c_chunk_Pieces_r4 a_chunk_Pieces_r4 3 := ⟨rfl, rfl⟩
@[simp] def a_chunk_Pieces_r5 : List COper := [
  ⟨(some 18), .bin .lss, [.t 17, .t 16], none⟩]
def c_chunk_Pieces_r5 : List COper := a_chunk_Pieces_r5
instance : Reg c_chunk_Pieces_r5 a_chunk_Pieces_r5 1 := ⟨rfl, rfl⟩
@[simp] def a_chunk_Pieces_r6 : List COper := [
  ⟨(some 19), .mov, [.t 17], none⟩,
  ⟨(some 20), .iaddr 1, [.t 15, .t 17], none⟩,
  ⟨(some 21), .load false 1, [.t 20], none⟩,
  ⟨(some 6), .mov, [.t 19], none⟩,
  ⟨(some 7), .mov, [.t 21], none⟩]
def c_chunk_Pieces_r6 : List COper := a_chunk_Pieces_r6
instance : Reg c_chunk_Pieces_r6 a_chunk_Pieces_r6 5 := ⟨rfl, rfl⟩
@[simp] def a_chunk_Pieces_r7 : List COper := [
  ⟨(some 23), .mov, [.t 6], none⟩,
  ⟨(some 24), .mov, [.t 4], none⟩,
  ⟨(some 25), .call fn_tree_Path, [.t 23, .t 24], none⟩,
  ⟨(some 22), .mov, [.t 25], none⟩,
  ⟨(some 26), .ext 0, [.t 22], none⟩,
  ⟨(some 27), .ext 1, [.t 22], none⟩,
  ⟨(some 8), .mov, [.t 26], none⟩,
  ⟨(some 9), .mov, [.t 27], none⟩]
def c_chunk_Pieces_r7 : List COper := a_chunk_Pieces_r7
instance : Reg c_chunk_Pieces_r7 a_chunk_Pieces_r7 8 := ⟨rfl, rfl⟩
@[simp] def a_chunk_Pieces_r8 : List COper := [
  ⟨(some 28), .mov, [.t 5], none⟩,
  ⟨(some 29), .mov, [.t 6], none⟩,
  ⟨(some 30), .mov, [.t 4], none⟩,
  ⟨(some 31), .len, [.t 30], none⟩,
  ⟨(some 32), .mov, [.t 4], none⟩,
  ⟨(some 33), .call fn_tree_Root, [.t 32], none⟩,
  ⟨(some 34), .mov, [.t 7], none⟩,
  ⟨(some 35), .convS, [.t 34], none⟩,
  ⟨(some 36), .mov, [.t 8], none⟩,
  ⟨(some 37), .build [.v (.int .i64 0), .v (.int .i64 0), .arr 1 (rep 32 (.v (.int .u8 0))), .v (.string (mkS [])), .v (.slice none 0 0)] [0, 1, 2, 3, 4], [.t 29, .t 31, .t 33, .t 35, .t 36], none⟩,
  ⟨(some 38), .bslice 36 1 (.node [.v (.int .i64 0), .v (.int .i64 0), .arr 1 (rep 32 (.v (.int .u8 0))), .v (.string (mkS [])), .v (.slice none 0 0)]) [0], [.t 37], none⟩,
  ⟨(some 39), .app 36 88, [.t 28, .t 38], none⟩,
  ⟨(some 5), .mov, [.t 39], none⟩]
def c_chunk_Pieces_r8 : List COper := a_chunk_Pieces_r8
instance : Reg c_chunk_Pieces_r8 a_chunk_Pieces_r8 13 := ⟨rfl, rfl⟩
@[simp] def a_chunk_Pieces_r9 : List COper := [
  ⟨(some 40), .bin .add, [.t 17, .c (.int .i64 1)], none⟩,
  ⟨(some 17), .mov, [.t 40], none⟩]
def c_chunk_Pieces_r9 : List COper := a_chunk_Pieces_r9
instance : Reg c_chunk_Pieces_r9 a_chunk_Pieces_r9 2 := ⟨rfl, rfl⟩
@[simp] def a_chunk_Pieces_r10 : List COper := [
  ⟨(some 41), .mov, [.t 5], none⟩,
  ⟨(some 2), .mov, [.t 41], none⟩]
def c_chunk_Pieces_r10 : List COper := a_chunk_Pieces_r10
instance : Reg c_chunk_Pieces_r10 a_chunk_Pieces_r10 2 := ⟨rfl, rfl⟩
@[simp] def c_chunk_Pieces : CCode :=
  .seq (.region c_chunk_Pieces_r0 none [1]) (.seq (.region c_chunk_Pieces_r1 none [3]) (.seq (.region c_chunk_Pieces_r2 none [3, 4]) (.seq (.region c_chunk_Pieces_r3 none [3, 4, 5]) (.seq (.seq (.region c_chunk_Pieces_r4 none [4, 5, 15, 16, 17]) (.block 0 (.loop (.seq (.region c_chunk_Pieces_r5 none [4, 5, 15, 16, 17, 18]) (.seq (.cond (.t 18) (.skip) (.exit 0)) (.seq (.block 1 (.seq (.region c_chunk_Pieces_r6 none [4, 5, 6, 7, 15, 16, 17]) (.seq (.region c_chunk_Pieces_r7 none [4, 5, 6, 7, 8, 15, 16, 17]) (.region c_chunk_Pieces_r8 (some ([0, 0, 0, 4, 0, 16, 0, 64, 0, 510, 1022, 2047, 4095], [(5, 7)])) [4, 5, 15, 16, 17])))) (.region c_chunk_Pieces_r9 none [4, 5, 15, 16, 17]))))))) (.seq (.region c_chunk_Pieces_r10 none [2]) (.ret))))))
@[simp] def R_chunk_Pieces : List CRes := [.tmp 2]
theorem k_chunk_Pieces : chkFn Tryd.prog fn_chunk_Pieces c_chunk_Pieces R_chunk_Pieces 1 = true := by kernel_rfl
/-! wapentake/chunk.Bytes -/
@[simp] def a_chunk_Bytes_r0 : List COper := [
  ⟨(some 1), .box, [.t 0], none⟩,
  ⟨(some 2), .mov, [.c (.slice none 0 0)], none⟩]
def c_chunk_Bytes_r0 : List COper := a_chunk_Bytes_r0
instance : Reg c_chunk_Bytes_r0 a_chunk_Bytes_r0 2 := ⟨rfl, rfl⟩
@[simp] def a_chunk_Bytes_r1 : List COper := [
  ⟨(some 8), .build [.v (.slice none 0 0)] [], [], none⟩,
  ⟨(some 9), .box, [.t 8], none⟩,
  ⟨(some 3), .mov, [.t 9], none⟩]
def c_chunk_Bytes_r1 : List COper := a_chunk_Bytes_r1
instance : Reg c_chunk_Bytes_r1 a_chunk_Bytes_r1 3 := ⟨rfl, rfl⟩
@[simp] def a_chunk_Bytes_r2 : List COper := [
  ⟨(some 10), .mov, [.t 3], none⟩,
  ⟨(some 11), .faddr 2 2 true, [.t 1], none⟩,
  ⟨(some 12), .load true 2, [.t 11], none⟩,
  ⟨(some 13), .call fn_config_Write, [.t 10, .t 12], none⟩]
def c_chunk_Bytes_r2 : List COper := a_chunk_Bytes_r2
instance : Reg c_chunk_Bytes_r2 a_chunk_Bytes_r2 4 := ⟨rfl, rfl⟩
@[simp] def a_chunk_Bytes_r3 : List COper := [
  ⟨(some 14), .mov, [.t 3], none⟩,
  ⟨(some 15), .faddr 0 1 false, [.t 1], none⟩,
  ⟨(some 16), .load false 1, [.t 15], none⟩,
  ⟨(some 17), .len, [.t 16], none⟩,
  ⟨(some 18), .bslice 1 1 (.v (.int .i64 0)) [0], [.t 17], none⟩,
  ⟨(some 19), .call fn_code_Writer_Num, [.t 14, .t 18], none⟩]
def c_chunk_Bytes_r3 : List COper := a_chunk_Bytes_r3
instance : Reg c_chunk_Bytes_r3 a_chunk_Bytes_r3 6 := ⟨rfl, rfl⟩
@[simp] def a_chunk_Bytes_r4 : List COper := [
  ⟨(some 20), .faddr 0 1 false, [.t 1], none⟩,
  ⟨(some 21), .load false 1, [.t 20], none⟩,
  ⟨(some 22), .len, [.t 21], none⟩,
  ⟨(some 23), .mov, [.c (.int .i64 0)], none⟩]
def c_chunk_Bytes_r4 : List COper := a_chunk_Bytes_r4
instance : Reg c_chunk_Bytes_r4 a_chunk_Bytes_r4 4 := ⟨rfl, rfl⟩
@[simp] def a_chunk_Bytes_r5 : List COper := [
  ⟨(some 24), .bin .lss, [.t 23, .t 22], none⟩]
def c_chunk_Bytes_r5 : List COper := a_chunk_Bytes_r5
instance : Reg c_chunk_Bytes_r5 a_chunk_Bytes_r5 1 := ⟨rfl, rfl⟩
@[simp] def a_chunk_Bytes_r6 : List COper := [
  ⟨(some 25), .iaddr 2, [.t 21, .t 23], none⟩,
  ⟨(some 26), .load true 2, [.t 25], none⟩,
  ⟨(some 5), .alloc (.node [.v (.string (mkS [])), .v (.string (mkS []))]), [], none⟩,
  ⟨none, .store true 2, [.t 5, .t 26], none⟩]
def c_chunk_Bytes_r6 : List COper := a_chunk_Bytes_r6
instance : Reg c_chunk_Bytes_r6 a_chunk_Bytes_r6 4 := ⟨rfl, rfl⟩
@[simp] def a_chunk_Bytes_r7 : List COper := [
  ⟨(some 27), .mov, [.t 3], none⟩,
  ⟨(some 28), .faddr 0 1 false, [.t 5], none⟩,
  ⟨(some 29), .load false 1, [.t 28], none⟩,
  ⟨(some 30), .faddr 1 1 false, [.t 5], none⟩,
  ⟨(some 31), .load false 1, [.t 30], none⟩,
  ⟨(some 32), .bslice 1 2 (.v (.string (mkS []))) [0, 1], [.t 29, .t 31], none⟩,
  ⟨(some 33), .call fn_code_Writer_Text, [.t 27, .t 32], none⟩]
def c_chunk_Bytes_r7 : List COper := a_chunk_Bytes_r7
instance : Reg c_chunk_Bytes_r7 a_chunk_Bytes_r7 7 := ⟨rfl, rfl⟩
@[simp] def a_chunk_Bytes_r8 : List COper := [
  ⟨(some 34), .bin .add, [.t 23, .c (.int .i64 1)], none⟩,
  ⟨(some 23), .mov, [.t 34], none⟩]
def c_chunk_Bytes_r8 : List COper := a_chunk_Bytes_r8
instance : Reg c_chunk_Bytes_r8 a_chunk_Bytes_r8 2 := ⟨rfl, rfl⟩
@[simp] def a_chunk_Bytes_r9 : List COper := [
  ⟨(some 35), .mov, [.t 3], none⟩,
  ⟨(some 36), .faddr 1 1 false, [.t 1], none⟩,
  ⟨(some 37), .load false 1, [.t 36], none⟩,
  ⟨(some 38), .len, [.t 37], none⟩,
  ⟨(some 39), .bslice 1 1 (.v (.int .i64 0)) [0], [.t 38], none⟩,
  ⟨(some 40), .call fn_code_Writer_Num, [.t 35, .t 39], none⟩]
def c_chunk_Bytes_r9 : List COper := a_chunk_Bytes_r9
instance : Reg c_chunk_Bytes_r9 a_chunk_Bytes_r9 6 := ⟨rfl, rfl⟩
@[simp] def a_chunk_Bytes_r10 : List COper := [
  ⟨(some 41), .faddr 1 1 false, [.t 1], none⟩,
  ⟨(some 42), .load false 1, [.t 41], none⟩,
  ⟨(some 43), .len, [.t 42], none⟩,
  ⟨(some 44), .mov, [.c (.int .i64 0)], none⟩]
def c_chunk_Bytes_r10 : List COper := a_chunk_Bytes_r10
instance : Reg c_chunk_Bytes_r10 a_chunk_Bytes_r10 4 := ⟨rfl, rfl⟩
@[simp] def a_chunk_Bytes_r11 : List COper := [
  ⟨(some 45), .bin .lss, [.t 44, .t 43], none⟩]
def c_chunk_Bytes_r11 : List COper := a_chunk_Bytes_r11
instance : Reg c_chunk_Bytes_r11 a_chunk_Bytes_r11 1 := ⟨rfl, rfl⟩
@[simp] def a_chunk_Bytes_r12 : List COper := [
  ⟨(some 46), .iaddr 4, [.t 42, .t 44], none⟩,
  ⟨(some 47), .load true 4, [.t 46], none⟩,
  ⟨(some 7), .alloc (.node [.v (.int .i64 0), .v (.int .i64 0), .v (.int .i64 0), .v (.slice none 0 0)]), [], none⟩,
  ⟨none, .store true 4, [.t 7, .t 47], none⟩]
def c_chunk_Bytes_r12 : List COper := a_chunk_Bytes_r12
instance : Reg c_chunk_Bytes_r12 a_chunk_Bytes_r12 4 := ⟨rfl, rfl⟩
@[simp] def a_chunk_Bytes_r13 : List COper := [
  ⟨(some 48), .mov, [.t 3], none⟩,
  ⟨(some 49), .load true 4, [.t 7], none⟩,
  ⟨(some 50), .call fn_request_WriteReply, [.t 48, .t 49], none⟩]
def c_chunk_Bytes_r13 : List COper := a_chunk_Bytes_r13
instance : Reg c_chunk_Bytes_r13 a_chunk_Bytes_r13 3 := ⟨rfl, rfl⟩
@[simp] def a_chunk_Bytes_r14 : List COper := [
  ⟨(some 51), .bin .add, [.t 44, .c (.int .i64 1)], none⟩,
  ⟨(some 44), .mov, [.t 51], none⟩]
def c_chunk_Bytes_r14 : List COper := a_chunk_Bytes_r14
instance : Reg c_chunk_Bytes_r14 a_chunk_Bytes_r14 2 := ⟨rfl, rfl⟩
@[simp] def a_chunk_Bytes_r15 : List COper := [
  ⟨(some 52), .mov, [.t 3], none⟩,
  ⟨(some 53), .call fn_code_Writer_Bytes, [.t 52], none⟩,
  ⟨(some 2), .mov, [.t 53], none⟩]
def c_chunk_Bytes_r15 : List COper := a_chunk_Bytes_r15
instance : Reg c_chunk_Bytes_r15 a_chunk_Bytes_r15 3 := ⟨rfl, rfl⟩
@[simp] def c_chunk_Bytes : CCode :=
  .seq (.region c_chunk_Bytes_r0 none [1]) (.seq (.region c_chunk_Bytes_r1 none [1, 3]) (.seq (.region c_chunk_Bytes_r2 none [1, 3]) (.seq (.region c_chunk_Bytes_r3 none [1, 3]) (.seq (.seq (.region c_chunk_Bytes_r4 none [1, 3, 21, 22, 23]) (.block 0 (.loop (.seq (.region c_chunk_Bytes_r5 none [1, 3, 21, 22, 23, 24]) (.seq (.cond (.t 24) (.skip) (.exit 0)) (.seq (.block 1 (.seq (.region c_chunk_Bytes_r6 none [1, 3, 5, 21, 22, 23]) (.region c_chunk_Bytes_r7 none [1, 3, 21, 22, 23]))) (.region c_chunk_Bytes_r8 none [1, 3, 21, 22, 23]))))))) (.seq (.region c_chunk_Bytes_r9 none [1, 3]) (.seq (.seq (.region c_chunk_Bytes_r10 none [3, 42, 43, 44]) (.block 2 (.loop (.seq (.region c_chunk_Bytes_r11 none [3, 42, 43, 44, 45]) (.seq (.cond (.t 45) (.skip) (.exit 2)) (.seq (.block 3 (.seq (.region c_chunk_Bytes_r12 none [3, 7, 42, 43, 44]) (.region c_chunk_Bytes_r13 none [3, 42, 43, 44]))) (.region c_chunk_Bytes_r14 none [3, 42, 43, 44]))))))) (.seq (.region c_chunk_Bytes_r15 none [2]) (.ret))))))))
@[simp] def R_chunk_Bytes : List CRes := [.tmp 2]
theorem k_chunk_Bytes : chkFn Tryd.prog fn_chunk_Bytes c_chunk_Bytes R_chunk_Bytes 1 = true := by kernel_rfl
/-! wapentake/wapentakelaw11.one -/
@[simp] def a_l11_one_r0 : List COper := [
  ⟨(some 0), .alloc (.node [.v (.slice none 0 0), .v (.slice none 0 0), .node [.v (.int .i64 0), .v (.slice none 0 0)]]), [], none⟩]
def c_l11_one_r0 : List COper := a_l11_one_r0
instance : Reg c_l11_one_r0 a_l11_one_r0 1 := ⟨rfl, rfl⟩
@[simp] def a_l11_one_r1 : List COper := [
  ⟨(some 1), .build [.v (.int .i64 0), .node [.arr 1 (rep 32 (.v (.int .u8 0))), .v (.int .i64 0)]] [0], [.c (.int .i64 1)], none⟩,
  ⟨(some 2), .bslice 34 1 (.node [.v (.int .i64 0), .node [.arr 1 (rep 32 (.v (.int .u8 0))), .v (.int .i64 0)]]) [0], [.t 1], none⟩,
  ⟨(some 3), .build [.v (.int .i64 0), .v (.slice none 0 0)] [1], [.t 2], none⟩,
  ⟨(some 4), .build [.v (.slice none 0 0), .v (.slice none 0 0), .node [.v (.int .i64 0), .v (.slice none 0 0)]] [2], [.t 3], none⟩,
  ⟨none, .store true 4, [.t 0, .t 4], none⟩]
def c_l11_one_r1 : List COper := a_l11_one_r1
instance : Reg c_l11_one_r1 a_l11_one_r1 5 := ⟨rfl, rfl⟩
@[simp] def c_l11_one : CCode :=
  .seq (.region c_l11_one_r0 none [0]) (.seq (.region c_l11_one_r1 none [0]) (.ret))
@[simp] def R_l11_one : List CRes := [.cell 0 true 4]
theorem k_l11_one : chkFn Tryd.prog fn_l11_one c_l11_one R_l11_one 0 = true := by kernel_rfl
/-! wapentake/chunk.Root -/
@[simp] def a_chunk_Root_r0 : List COper := [
  ⟨(some 1), .box, [.t 0], none⟩,
  ⟨(some 2), .alloc (.arr 1 (rep 32 (.v (.int .u8 0)))), [], none⟩]
def c_chunk_Root_r0 : List COper := a_chunk_Root_r0
instance : Reg c_chunk_Root_r0 a_chunk_Root_r0 2 := ⟨rfl, rfl⟩
@[simp] def a_chunk_Root_r1 : List COper := [
  ⟨(some 4), .load true 4, [.t 1], none⟩,
  ⟨(some 5), .call fn_chunk_Bytes, [.t 4], none⟩,
  ⟨(some 6), .call fn_chunk_parts, [.t 5], none⟩,
  ⟨(some 7), .call fn_chunk_leaves, [.t 6], none⟩,
  ⟨(some 3), .mov, [.t 7], none⟩]
def c_chunk_Root_r1 : List COper := a_chunk_Root_r1
instance : Reg c_chunk_Root_r1 a_chunk_Root_r1 5 := ⟨rfl, rfl⟩
@[simp] def a_chunk_Root_r2 : List COper := [
  ⟨(some 8), .mov, [.t 3], none⟩,
  ⟨(some 9), .len, [.t 8], none⟩,
  ⟨(some 10), .mov, [.t 3], none⟩,
  ⟨(some 11), .call fn_tree_Root, [.t 10], none⟩,
  ⟨(some 12), .call fn_chunk_top, [.t 9, .t 11], none⟩,
  ⟨none, .store true 32, [.t 2, .t 12], none⟩]
def c_chunk_Root_r2 : List COper := a_chunk_Root_r2
instance : Reg c_chunk_Root_r2 a_chunk_Root_r2 6 := ⟨rfl, rfl⟩
@[simp] def c_chunk_Root : CCode :=
  .seq (.region c_chunk_Root_r0 none [1, 2]) (.seq (.region c_chunk_Root_r1 none [2, 3]) (.seq (.region c_chunk_Root_r2 none [2]) (.ret)))
@[simp] def R_chunk_Root : List CRes := [.cell 2 true 32]
theorem k_chunk_Root : chkFn Tryd.prog fn_chunk_Root c_chunk_Root R_chunk_Root 1 = true := by kernel_rfl
/-! wapentake/chunk.top -/
@[simp] def a_chunk_top_r0 : List COper := [
  ⟨(some 3), .box, [.t 1], none⟩,
  ⟨(some 4), .alloc (.arr 1 (rep 32 (.v (.int .u8 0)))), [], none⟩]
def c_chunk_top_r0 : List COper := a_chunk_top_r0
instance : Reg c_chunk_top_r0 a_chunk_top_r0 2 := ⟨rfl, rfl⟩
@[simp] def a_chunk_top_r1 : List COper := [
  ⟨(some 6), .build [.v (.slice none 0 0)] [], [], none⟩,
  ⟨(some 7), .box, [.t 6], none⟩,
  ⟨(some 5), .mov, [.t 7], none⟩]
def c_chunk_top_r1 : List COper := a_chunk_top_r1
instance : Reg c_chunk_top_r1 a_chunk_top_r1 3 := ⟨rfl, rfl⟩
@[simp] def a_chunk_top_r2 : List COper := [
  ⟨(some 8), .mov, [.t 5], none⟩,
  ⟨(some 9), .mov, [.t 0], none⟩,
  ⟨(some 10), .bslice 1 1 (.v (.int .i64 0)) [0], [.t 9], none⟩,
  ⟨(some 11), .call fn_code_Writer_Num, [.t 8, .t 10], none⟩]
def c_chunk_top_r2 : List COper := a_chunk_top_r2
instance : Reg c_chunk_top_r2 a_chunk_top_r2 4 := ⟨rfl, rfl⟩
@[simp] def a_chunk_top_r3 : List COper := [
  ⟨(some 12), .mov, [.t 5], none⟩,
  ⟨(some 13), .load true 32, [.t 3], none⟩,
  ⟨(some 14), .bslice 32 1 (.arr 1 (rep 32 (.v (.int .u8 0)))) [0], [.t 13], none⟩,
  ⟨(some 15), .call fn_code_Writer_Digest, [.t 12, .t 14], none⟩]
def c_chunk_top_r3 : List COper := a_chunk_top_r3
instance : Reg c_chunk_top_r3 a_chunk_top_r3 4 := ⟨rfl, rfl⟩
@[simp] def a_chunk_top_r4 : List COper := [
  ⟨(some 16), .bslice 1 5 (.v (.int .u8 0)) [0, 1, 2, 3, 4], [.c (.int .u8 115), .c (.int .u8 116), .c (.int .u8 97), .c (.int .u8 116), .c (.int .u8 101)], none⟩,
  ⟨(some 17), .convM, [.t 16], none⟩,
  ⟨(some 18), .mov, [.t 5], none⟩,
  ⟨(some 19), .call fn_code_Writer_Bytes, [.t 18], none⟩,
  ⟨(some 20), .bslice 1 2 (.v (.slice none 0 0)) [0, 1], [.t 17, .t 19], none⟩,
  ⟨(some 21), .call fn_sha_Of, [.t 20], none⟩,
  ⟨none, .store true 32, [.t 4, .t 21], none⟩]
def c_chunk_top_r4 : List COper := a_chunk_top_r4
instance : Reg c_chunk_top_r4 a_chunk_top_r4 7 := ⟨rfl, rfl⟩
@[simp] def c_chunk_top : CCode :=
  .seq (.region c_chunk_top_r0 none [0, 3, 4]) (.seq (.region c_chunk_top_r1 none [0, 3, 4, 5]) (.seq (.region c_chunk_top_r2 none [3, 4, 5]) (.seq (.region c_chunk_top_r3 none [4, 5]) (.seq (.region c_chunk_top_r4 none [4]) (.ret)))))
@[simp] def R_chunk_top : List CRes := [.cell 4 true 32]
theorem k_chunk_top : chkFn Tryd.prog fn_chunk_top c_chunk_top R_chunk_top 2 = true := by kernel_rfl
/-! wapentake/tree.Check -/
@[simp] def a_tree_Check_r0 : List COper := [
  ⟨(some 5), .box, [.t 0], none⟩,
  ⟨(some 6), .box, [.t 1], none⟩,
  ⟨(some 10), .mov, [.c (.bool false)], none⟩]
def c_tree_Check_r0 : List COper := a_tree_Check_r0
instance : Reg c_tree_Check_r0 a_tree_Check_r0 3 := ⟨rfl, rfl⟩
@[simp] def a_tree_Check_r1 : List COper := [
  ⟨(some 12), .mov, [.t 2], none⟩,
  ⟨(some 13), .bin .lss, [.t 12, .c (.int .i64 0)], none⟩,
  ⟨(some 14), .mov, [.t 13], none⟩,
  ⟨(some 15), .mov, [.t 2], (some (14, false))⟩,
  ⟨(some 16), .mov, [.t 3], (some (14, false))⟩,
  ⟨(some 17), .bin .geq, [.t 15, .t 16], (some (14, false))⟩,
  ⟨(some 18), .pick, [.t 14, .c (.bool true), .t 17], none⟩]
def c_tree_Check_r1 : List COper := a_tree_Check_r1
instance : Reg c_tree_Check_r1 a_tree_Check_r1 7 := ⟨rfl, rfl⟩
@[simp] def a_tree_Check_r2 : List COper := [
  ⟨(some 10), .mov, [.c (.bool false)], none⟩]
def c_tree_Check_r2 : List COper := a_tree_Check_r2
instance : Reg c_tree_Check_r2 a_tree_Check_r2 1 := ⟨rfl, rfl⟩
@[simp] def a_tree_Check_r3 : List COper := [
  ⟨(some 19), .mov, [.t 3], none⟩,
  ⟨(some 20), .bin .gtr, [.t 19, .c (.int .i64 1)], none⟩]
def c_tree_Check_r3 : List COper := a_tree_Check_r3
instance : Reg c_tree_Check_r3 a_tree_Check_r3 2 := ⟨rfl, rfl⟩
@[simp] def a_tree_Check_r5 : List COper := [
  ⟨(some 27), .mov, [.t 2], none⟩,
  ⟨(some 28), .bin .xor, [.t 27, .c (.int .i64 1)], none⟩,
  ⟨(some 11), .mov, [.t 28], none⟩]
def c_tree_Check_r5 : List COper := a_tree_Check_r5
instance : Reg c_tree_Check_r5 a_tree_Check_r5 3 := ⟨rfl, rfl⟩
@[simp] def a_tree_Check_r6 : List COper := [
  ⟨(some 29), .mov, [.t 11], none⟩,
  ⟨(some 30), .mov, [.t 3], none⟩,
  ⟨(some 31), .bin .geq, [.t 29, .t 30], none⟩]
def c_tree_Check_r6 : List COper := a_tree_Check_r6
instance : Reg c_tree_Check_r6 a_tree_Check_r6 3 := ⟨rfl, rfl⟩
@[simp] def a_tree_Check_r7 : List COper := [
  ⟨(some 32), .mov, [.t 4], none⟩,
  ⟨(some 33), .len, [.t 32], none⟩,
  ⟨(some 34), .bin .eql, [.t 33, .c (.int .i64 0)], none⟩]
def c_tree_Check_r7 : List COper := a_tree_Check_r7
instance : Reg c_tree_Check_r7 a_tree_Check_r7 3 := ⟨rfl, rfl⟩
@[simp] def a_tree_Check_r8 : List COper := [
  ⟨(some 10), .mov, [.c (.bool false)], none⟩]
def c_tree_Check_r8 : List COper := a_tree_Check_r8
instance : Reg c_tree_Check_r8 a_tree_Check_r8 1 := ⟨rfl, rfl⟩
@[simp] def a_tree_Check_r9 : List COper := [
  ⟨(some 35), .mov, [.t 11], none⟩,
  ⟨(some 36), .mov, [.t 2], none⟩,
  ⟨(some 37), .bin .lss, [.t 35, .t 36], none⟩]
def c_tree_Check_r9 : List COper := a_tree_Check_r9
instance : Reg c_tree_Check_r9 a_tree_Check_r9 3 := ⟨rfl, rfl⟩
@[simp] def a_tree_Check_r10 : List COper := [
  ⟨(some 38), .mov, [.t 4], none⟩,
  ⟨(some 39), .iaddr 32, [.t 38, .c (.int .i64 0)], none⟩,
  ⟨(some 40), .load true 32, [.t 39], none⟩,
  ⟨(some 41), .load true 32, [.t 6], none⟩,
  ⟨(some 42), .call fn_sha_Pair, [.c (.int .u8 1), .t 40, .t 41], none⟩,
  ⟨none, .store true 32, [.t 6, .t 42], none⟩]
def c_tree_Check_r10 : List COper := a_tree_Check_r10
instance : Reg c_tree_Check_r10 a_tree_Check_r10 6 := ⟨rfl, rfl⟩
@[simp] def a_tree_Check_r11 : List COper := [
  ⟨(some 43), .load true 32, [.t 6], none⟩,
  ⟨(some 44), .mov, [.t 4], none⟩,
  ⟨(some 45), .iaddr 32, [.t 44, .c (.int .i64 0)], none⟩,
  ⟨(some 46), .load true 32, [.t 45], none⟩,
  ⟨(some 47), .call fn_sha_Pair, [.c (.int .u8 1), .t 43, .t 46], none⟩,
  ⟨none, .store true 32, [.t 6, .t 47], none⟩]
def c_tree_Check_r11 : List COper := a_tree_Check_r11
instance : Reg c_tree_Check_r11 a_tree_Check_r11 6 := ⟨rfl, rfl⟩
@[simp] def a_tree_Check_r12 : List COper := [
  ⟨(some 48), .mov, [.t 4], none⟩,
  ⟨(some 49), .slice 32 true false, [.t 48, .c (.int .i64 1)], none⟩,
  ⟨(some 4), .mov, [.t 49], none⟩]
def c_tree_Check_r12 : List COper := a_tree_Check_r12
instance : Reg c_tree_Check_r12 a_tree_Check_r12 3 := ⟨rfl, rfl⟩
@[simp] def a_tree_Check_r4 : List COper := [
  ⟨(some 21), .mov, [.t 2], none⟩,
  ⟨(some 22), .bin .quo, [.t 21, .c (.int .i64 2)], none⟩,
  ⟨(some 23), .mov, [.t 3], none⟩,
  ⟨(some 24), .bin .sub, [.t 23, .c (.int .i64 1)], none⟩,
  ⟨(some 25), .bin .quo, [.t 24, .c (.int .i64 2)], none⟩,
  ⟨(some 26), .bin .add, [.t 25, .c (.int .i64 1)], none⟩,
  ⟨(some 2), .mov, [.t 22], none⟩,
  ⟨(some 3), .mov, [.t 26], none⟩]
def c_tree_Check_r4 : List COper := a_tree_Check_r4
instance : Reg c_tree_Check_r4 a_tree_Check_r4 8 := ⟨rfl, rfl⟩
@[simp] def a_tree_Check_r13 : List COper := [
  ⟨(some 50), .mov, [.t 4], none⟩,
  ⟨(some 51), .len, [.t 50], none⟩,
  ⟨(some 52), .bin .eql, [.t 51, .c (.int .i64 0)], none⟩,
  ⟨(some 53), .mov, [.t 52], none⟩,
  ⟨(some 54), .load true 32, [.t 6], (some (53, true))⟩,
  ⟨(some 55), .load true 32, [.t 5], (some (53, true))⟩,
  ⟨(some 56), .eqa false .u8 32, [.t 54, .t 55], (some (53, true))⟩,
  ⟨(some 57), .pick, [.t 53, .t 56, .c (.bool false)], none⟩,
  ⟨(some 10), .mov, [.t 57], none⟩]
def c_tree_Check_r13 : List COper := a_tree_Check_r13
instance : Reg c_tree_Check_r13 a_tree_Check_r13 9 := ⟨rfl, rfl⟩
@[simp] def c_tree_Check : CCode :=
  .seq (.region c_tree_Check_r0 none [2, 3, 4, 5, 6]) (.seq (.seq (.region c_tree_Check_r1 none [2, 3, 4, 5, 6, 18]) (.cond (.t 18) (.seq (.region c_tree_Check_r2 none [10]) (.ret)) (.skip))) (.seq (.block 0 (.loop (.seq (.seq (.region c_tree_Check_r3 none [2, 3, 4, 5, 6, 20]) (.cond (.t 20) (.skip) (.exit 0))) (.seq (.block 1 (.seq (.region c_tree_Check_r5 none [2, 3, 4, 5, 6, 11]) (.seq (.seq (.region c_tree_Check_r6 none [2, 3, 4, 5, 6, 11, 31]) (.cond (.t 31) (.exit 1) (.skip))) (.seq (.seq (.region c_tree_Check_r7 none [2, 3, 4, 5, 6, 11, 34]) (.cond (.t 34) (.seq (.region c_tree_Check_r8 none [10]) (.ret)) (.skip))) (.seq (.seq (.region c_tree_Check_r9 none [2, 3, 4, 5, 6, 37]) (.cond (.t 37) (.region c_tree_Check_r10 (some ([0, 1, 3, 0, 15, 31], [])) [2, 3, 4, 5, 6]) (.region c_tree_Check_r11 (some ([0, 0, 2, 6, 15, 31], [])) [2, 3, 4, 5, 6]))) (.region c_tree_Check_r12 none [2, 3, 4, 5, 6])))))) (.region c_tree_Check_r4 none [2, 3, 4, 5, 6]))))) (.seq (.region c_tree_Check_r13 none [10]) (.ret))))
@[simp] def R_tree_Check : List CRes := [.tmp 10]
theorem k_tree_Check : chkFn Tryd.prog fn_tree_Check c_tree_Check R_tree_Check 5 = true := by kernel_rfl
/-! wapentake/tree.Leaf -/
@[simp] def a_tree_Leaf_r0 : List COper := [
  ⟨(some 2), .alloc (.arr 1 (rep 32 (.v (.int .u8 0)))), [], none⟩]
def c_tree_Leaf_r0 : List COper := a_tree_Leaf_r0
instance : Reg c_tree_Leaf_r0 a_tree_Leaf_r0 1 := ⟨rfl, rfl⟩
@[simp] def a_tree_Leaf_r1 : List COper := [
  ⟨(some 3), .bslice 1 1 (.v (.int .u8 0)) [0], [.c (.int .u8 0)], none⟩,
  ⟨(some 4), .mov, [.t 0], none⟩,
  ⟨(some 5), .bslice 1 2 (.v (.slice none 0 0)) [0, 1], [.t 3, .t 4], none⟩,
  ⟨(some 6), .call fn_sha_Of, [.t 5], none⟩,
  ⟨none, .store true 32, [.t 2, .t 6], none⟩]
def c_tree_Leaf_r1 : List COper := a_tree_Leaf_r1
instance : Reg c_tree_Leaf_r1 a_tree_Leaf_r1 5 := ⟨rfl, rfl⟩
@[simp] def c_tree_Leaf : CCode :=
  .seq (.region c_tree_Leaf_r0 none [0, 2]) (.seq (.region c_tree_Leaf_r1 none [2]) (.ret))
@[simp] def R_tree_Leaf : List CRes := [.cell 2 true 32]
theorem k_tree_Leaf : chkFn Tryd.prog fn_tree_Leaf c_tree_Leaf R_tree_Leaf 1 = true := by kernel_rfl
/-! wapentake/chunk.State -/
@[simp] def a_chunk_State_r0 : List COper := [
  ⟨(some 2), .alloc (.node [.v (.slice none 0 0), .v (.slice none 0 0), .node [.v (.int .i64 0), .v (.slice none 0 0)]]), [], none⟩,
  ⟨(some 3), .mov, [.c (.int .i64 0)], none⟩]
def c_chunk_State_r0 : List COper := a_chunk_State_r0
instance : Reg c_chunk_State_r0 a_chunk_State_r0 2 := ⟨rfl, rfl⟩
@[simp] def a_chunk_State_r1 : List COper := [
  ⟨(some 10), .mov, [.t 0], none⟩,
  ⟨(some 11), .call fn_code_Read, [.t 10], none⟩,
  ⟨(some 4), .mov, [.t 11], none⟩]
def c_chunk_State_r1 : List COper := a_chunk_State_r1
instance : Reg c_chunk_State_r1 a_chunk_State_r1 3 := ⟨rfl, rfl⟩
@[simp] def a_chunk_State_r2 : List COper := [
  ⟨(some 12), .mov, [.t 4], none⟩,
  ⟨(some 13), .call fn_config_Read, [.t 12], none⟩,
  ⟨(some 14), .build [.v (.slice none 0 0), .v (.slice none 0 0), .node [.v (.int .i64 0), .v (.slice none 0 0)]] [2], [.t 13], none⟩,
  ⟨(some 5), .alloc (.node [.v (.slice none 0 0), .v (.slice none 0 0), .node [.v (.int .i64 0), .v (.slice none 0 0)]]), [], none⟩,
  ⟨none, .store true 4, [.t 5, .t 14], none⟩]
def c_chunk_State_r2 : List COper := a_chunk_State_r2
instance : Reg c_chunk_State_r2 a_chunk_State_r2 5 := ⟨rfl, rfl⟩
@[simp] def a_chunk_State_r3 : List COper := [
  ⟨(some 15), .mov, [.t 4], none⟩,
  ⟨(some 16), .call fn_code_Reader_In, [.t 15, .c (.int .i64 0), .c (.int .i64 256)], none⟩,
  ⟨(some 17), .mov, [.c (.int .i64 0)], none⟩]
def c_chunk_State_r3 : List COper := a_chunk_State_r3
instance : Reg c_chunk_State_r3 a_chunk_State_r3 3 := ⟨rfl, rfl⟩
@[simp] def a_chunk_State_r4 : List COper := [
  ⟨(some 18), .bin .lss, [.t 17, .t 16], none⟩]
def c_chunk_State_r4 : List COper := a_chunk_State_r4
instance : Reg c_chunk_State_r4 a_chunk_State_r4 1 := ⟨rfl, rfl⟩
@[simp] def a_chunk_State_r5 : List COper := [
  ⟨(some 19), .mov, [.t 4], none⟩,
  ⟨(some 20), .call fn_code_Reader_Text, [.t 19, .c (.int .i64 1024)], none⟩,
  ⟨(some 21), .mov, [.t 4], none⟩,
  ⟨(some 22), .call fn_code_Reader_Text, [.t 21, .c (.int .i64 1024)], none⟩,
  ⟨(some 23), .build [.v (.string (mkS [])), .v (.string (mkS []))] [0, 1], [.t 20, .t 22], none⟩,
  ⟨(some 6), .alloc (.node [.v (.string (mkS [])), .v (.string (mkS []))]), [], none⟩,
  ⟨none, .store true 2, [.t 6, .t 23], none⟩]
def c_chunk_State_r5 : List COper := a_chunk_State_r5
instance : Reg c_chunk_State_r5 a_chunk_State_r5 7 := ⟨rfl, rfl⟩
@[simp] def a_chunk_State_r6 : List COper := [
  ⟨(some 24), .faddr 0 1 false, [.t 5], none⟩,
  ⟨(some 25), .load false 1, [.t 24], none⟩,
  ⟨(some 26), .len, [.t 25], none⟩,
  ⟨(some 7), .mov, [.t 26], none⟩]
def c_chunk_State_r6 : List COper := a_chunk_State_r6
instance : Reg c_chunk_State_r6 a_chunk_State_r6 4 := ⟨rfl, rfl⟩
@[simp] def a_chunk_State_r7 : List COper := [
  ⟨(some 27), .mov, [.t 7], none⟩,
  ⟨(some 28), .bin .gtr, [.t 27, .c (.int .i64 0)], none⟩,
  ⟨(some 29), .mov, [.t 28], none⟩,
  ⟨(some 30), .faddr 0 1 false, [.t 5], (some (29, true))⟩,
  ⟨(some 31), .load false 1, [.t 30], (some (29, true))⟩,
  ⟨(some 32), .mov, [.t 7], (some (29, true))⟩,
  ⟨(some 33), .bin .sub, [.t 32, .c (.int .i64 1)], (some (29, true))⟩,
  ⟨(some 34), .iaddr 2, [.t 31, .t 33], (some (29, true))⟩,
  ⟨(some 35), .faddr 0 1 false, [.t 34], (some (29, true))⟩,
  ⟨(some 36), .load false 1, [.t 35], (some (29, true))⟩,
  ⟨(some 37), .faddr 0 1 false, [.t 6], (some (29, true))⟩,
  ⟨(some 38), .load false 1, [.t 37], (some (29, true))⟩,
  ⟨(some 39), .bin .geq, [.t 36, .t 38], (some (29, true))⟩,
  ⟨(some 40), .pick, [.t 29, .t 39, .c (.bool false)], none⟩]
def c_chunk_State_r7 : List COper := a_chunk_State_r7
instance : Reg c_chunk_State_r7 a_chunk_State_r7 14 := ⟨rfl, rfl⟩
@[simp] def a_chunk_State_r8 : List COper := [
  ⟨(some 41), .build [.v (.slice none 0 0), .v (.slice none 0 0), .node [.v (.int .i64 0), .v (.slice none 0 0)]] [], [], none⟩,
  ⟨none, .store true 4, [.t 2, .t 41], none⟩,
  ⟨(some 3), .mov, [.c (.int .i64 4)], none⟩]
def c_chunk_State_r8 : List COper := a_chunk_State_r8
instance : Reg c_chunk_State_r8 a_chunk_State_r8 3 := ⟨rfl, rfl⟩
@[simp] def a_chunk_State_r9 : List COper := [
  ⟨(some 42), .faddr 0 1 false, [.t 5], none⟩,
  ⟨(some 43), .load false 1, [.t 42], none⟩,
  ⟨(some 44), .load true 2, [.t 6], none⟩,
  ⟨(some 45), .bslice 2 1 (.node [.v (.string (mkS [])), .v (.string (mkS []))]) [0], [.t 44], none⟩,
  ⟨(some 46), .app 2 32, [.t 43, .t 45], none⟩,
  ⟨(some 47), .faddr 0 1 false, [.t 5], none⟩,
  ⟨none, .store false 1, [.t 47, .t 46], none⟩]
def c_chunk_State_r9 : List COper := a_chunk_State_r9
instance : Reg c_chunk_State_r9 a_chunk_State_r9 7 := ⟨rfl, rfl⟩
@[simp] def a_chunk_State_r10 : List COper := [
  ⟨(some 48), .bin .add, [.t 17, .c (.int .i64 1)], none⟩,
  ⟨(some 17), .mov, [.t 48], none⟩]
def c_chunk_State_r10 : List COper := a_chunk_State_r10
instance : Reg c_chunk_State_r10 a_chunk_State_r10 2 := ⟨rfl, rfl⟩
@[simp] def a_chunk_State_r11 : List COper := [
  ⟨(some 49), .mov, [.t 4], none⟩,
  ⟨(some 50), .call fn_code_Reader_In, [.t 49, .c (.int .i64 0), .c (.int .i64 64)], none⟩,
  ⟨(some 51), .mov, [.c (.int .i64 0)], none⟩]
def c_chunk_State_r11 : List COper := a_chunk_State_r11
instance : Reg c_chunk_State_r11 a_chunk_State_r11 3 := ⟨rfl, rfl⟩
@[simp] def a_chunk_State_r12 : List COper := [
  ⟨(some 52), .bin .lss, [.t 51, .t 50], none⟩]
def c_chunk_State_r12 : List COper := a_chunk_State_r12
instance : Reg c_chunk_State_r12 a_chunk_State_r12 1 := ⟨rfl, rfl⟩
@[simp] def a_chunk_State_r13 : List COper := [
  ⟨(some 53), .mov, [.t 4], none⟩,
  ⟨(some 54), .call fn_request_ReadReply, [.t 53], none⟩,
  ⟨(some 8), .alloc (.node [.v (.int .i64 0), .v (.int .i64 0), .v (.int .i64 0), .v (.slice none 0 0)]), [], none⟩,
  ⟨none, .store true 4, [.t 8, .t 54], none⟩]
def c_chunk_State_r13 : List COper := a_chunk_State_r13
instance : Reg c_chunk_State_r13 a_chunk_State_r13 4 := ⟨rfl, rfl⟩
@[simp] def a_chunk_State_r14 : List COper := [
  ⟨(some 55), .faddr 1 1 false, [.t 5], none⟩,
  ⟨(some 56), .load false 1, [.t 55], none⟩,
  ⟨(some 57), .len, [.t 56], none⟩,
  ⟨(some 9), .mov, [.t 57], none⟩]
def c_chunk_State_r14 : List COper := a_chunk_State_r14
instance : Reg c_chunk_State_r14 a_chunk_State_r14 4 := ⟨rfl, rfl⟩
@[simp] def a_chunk_State_r15 : List COper := [
  ⟨(some 58), .mov, [.t 9], none⟩,
  ⟨(some 59), .bin .gtr, [.t 58, .c (.int .i64 0)], none⟩,
  ⟨(some 60), .mov, [.t 59], none⟩,
  ⟨(some 61), .faddr 1 1 false, [.t 5], (some (60, true))⟩,
  ⟨(some 62), .load false 1, [.t 61], (some (60, true))⟩,
  ⟨(some 63), .mov, [.t 9], (some (60, true))⟩,
  ⟨(some 64), .bin .sub, [.t 63, .c (.int .i64 1)], (some (60, true))⟩,
  ⟨(some 65), .iaddr 4, [.t 62, .t 64], (some (60, true))⟩,
  ⟨(some 66), .faddr 0 1 false, [.t 65], (some (60, true))⟩,
  ⟨(some 67), .load false 1, [.t 66], (some (60, true))⟩,
  ⟨(some 68), .faddr 0 1 false, [.t 8], (some (60, true))⟩,
  ⟨(some 69), .load false 1, [.t 68], (some (60, true))⟩,
  ⟨(some 70), .bin .geq, [.t 67, .t 69], (some (60, true))⟩,
  ⟨(some 71), .pick, [.t 60, .t 70, .c (.bool false)], none⟩]
def c_chunk_State_r15 : List COper := a_chunk_State_r15
instance : Reg c_chunk_State_r15 a_chunk_State_r15 14 := ⟨rfl, rfl⟩
@[simp] def a_chunk_State_r16 : List COper := [
  ⟨(some 72), .build [.v (.slice none 0 0), .v (.slice none 0 0), .node [.v (.int .i64 0), .v (.slice none 0 0)]] [], [], none⟩,
  ⟨none, .store true 4, [.t 2, .t 72], none⟩,
  ⟨(some 3), .mov, [.c (.int .i64 4)], none⟩]
def c_chunk_State_r16 : List COper := a_chunk_State_r16
instance : Reg c_chunk_State_r16 a_chunk_State_r16 3 := ⟨rfl, rfl⟩
@[simp] def a_chunk_State_r17 : List COper := [
  ⟨(some 73), .faddr 1 1 false, [.t 5], none⟩,
  ⟨(some 74), .load false 1, [.t 73], none⟩,
  ⟨(some 75), .load true 4, [.t 8], none⟩,
  ⟨(some 76), .bslice 4 1 (.node [.v (.int .i64 0), .v (.int .i64 0), .v (.int .i64 0), .v (.slice none 0 0)]) [0], [.t 75], none⟩,
  ⟨(some 77), .app 4 48, [.t 74, .t 76], none⟩,
  ⟨(some 78), .faddr 1 1 false, [.t 5], none⟩,
  ⟨none, .store false 1, [.t 78, .t 77], none⟩]
def c_chunk_State_r17 : List COper := a_chunk_State_r17
instance : Reg c_chunk_State_r17 a_chunk_State_r17 7 := ⟨rfl, rfl⟩
@[simp] def a_chunk_State_r18 : List COper := [
  ⟨(some 79), .bin .add, [.t 51, .c (.int .i64 1)], none⟩,
  ⟨(some 51), .mov, [.t 79], none⟩]
def c_chunk_State_r18 : List COper := a_chunk_State_r18
instance : Reg c_chunk_State_r18 a_chunk_State_r18 2 := ⟨rfl, rfl⟩
@[simp] def a_chunk_State_r19 : List COper := [
  ⟨(some 80), .mov, [.t 4], none⟩,
  ⟨(some 81), .call fn_code_Reader_End, [.t 80], none⟩,
  ⟨(some 82), .not, [.t 81], none⟩]
def c_chunk_State_r19 : List COper := a_chunk_State_r19
instance : Reg c_chunk_State_r19 a_chunk_State_r19 3 := ⟨rfl, rfl⟩
@[simp] def a_chunk_State_r20 : List COper := [
  ⟨(some 83), .build [.v (.slice none 0 0), .v (.slice none 0 0), .node [.v (.int .i64 0), .v (.slice none 0 0)]] [], [], none⟩,
  ⟨none, .store true 4, [.t 2, .t 83], none⟩,
  ⟨(some 3), .mov, [.c (.int .i64 4)], none⟩]
def c_chunk_State_r20 : List COper := a_chunk_State_r20
instance : Reg c_chunk_State_r20 a_chunk_State_r20 3 := ⟨rfl, rfl⟩
@[simp] def a_chunk_State_r21 : List COper := [
  ⟨(some 84), .load true 4, [.t 5], none⟩,
  ⟨none, .store true 4, [.t 2, .t 84], none⟩,
  ⟨(some 3), .mov, [.c (.int .i64 0)], none⟩]
def c_chunk_State_r21 : List COper := a_chunk_State_r21
instance : Reg c_chunk_State_r21 a_chunk_State_r21 3 := ⟨rfl, rfl⟩
@[simp] def c_chunk_State : CCode :=
  .seq (.region c_chunk_State_r0 none [0, 2]) (.seq (.region c_chunk_State_r1 none [2, 4]) (.seq (.region c_chunk_State_r2 none [2, 4, 5]) (.seq (.seq (.region c_chunk_State_r3 none [2, 4, 5, 16, 17]) (.block 0 (.loop (.seq (.region c_chunk_State_r4 none [2, 4, 5, 16, 17, 18]) (.seq (.cond (.t 18) (.skip) (.exit 0)) (.seq (.block 1 (.seq (.region c_chunk_State_r5 none [2, 4, 5, 6, 16, 17]) (.seq (.seq (.region c_chunk_State_r6 none [2, 4, 5, 6, 7, 16, 17]) (.seq (.region c_chunk_State_r7 (some ([0, 1, 3, 7, 15, 7, 39, 127, 255, 511, 7, 1031, 4095, 8191], [])) [2, 4, 5, 6, 16, 17, 40]) (.cond (.t 40) (.seq (.region c_chunk_State_r8 none [2, 3]) (.ret)) (.skip)))) (.region c_chunk_State_r9 none [2, 4, 5, 16, 17])))) (.region c_chunk_State_r10 none [2, 4, 5, 16, 17]))))))) (.seq (.seq (.region c_chunk_State_r11 none [2, 4, 5, 50, 51]) (.block 2 (.loop (.seq (.region c_chunk_State_r12 none [2, 4, 5, 50, 51, 52]) (.seq (.cond (.t 52) (.skip) (.exit 2)) (.seq (.block 3 (.seq (.region c_chunk_State_r13 none [2, 4, 5, 8, 50, 51]) (.seq (.seq (.region c_chunk_State_r14 none [2, 4, 5, 8, 9, 50, 51]) (.seq (.region c_chunk_State_r15 (some ([0, 1, 3, 7, 15, 7, 39, 127, 255, 511, 7, 1031, 4095, 8191], [])) [2, 4, 5, 8, 50, 51, 71]) (.cond (.t 71) (.seq (.region c_chunk_State_r16 none [2, 3]) (.ret)) (.skip)))) (.region c_chunk_State_r17 none [2, 4, 5, 50, 51])))) (.region c_chunk_State_r18 none [2, 4, 5, 50, 51]))))))) (.seq (.seq (.region c_chunk_State_r19 none [2, 5, 82]) (.cond (.t 82) (.seq (.region c_chunk_State_r20 none [2, 3]) (.ret)) (.skip))) (.seq (.region c_chunk_State_r21 none [2, 3]) (.ret)))))))
@[simp] def R_chunk_State : List CRes := [.cell 2 true 4, .tmp 3]
theorem k_chunk_State : chkFn Tryd.prog fn_chunk_State c_chunk_State R_chunk_State 1 = true := by kernel_rfl
/-! wapentake/chunk.parts -/
@[simp] def a_chunk_parts_r0 : List COper := [
  ⟨(some 2), .mov, [.c (.slice none 0 0)], none⟩]
def c_chunk_parts_r0 : List COper := a_chunk_parts_r0
instance : Reg c_chunk_parts_r0 a_chunk_parts_r0 1 := ⟨rfl, rfl⟩
@[simp] def a_chunk_parts_r1 : List COper := [
  ⟨(some 4), .mov, [.t 0], none⟩,
  ⟨(some 5), .call fn_slices_Chunk, [.t 4, .c (.int .i64 256)], none⟩,
  ⟨(some 6), .call fn_slices_Collect, [.t 5], none⟩,
  ⟨(some 3), .mov, [.t 6], none⟩]
def c_chunk_parts_r1 : List COper := a_chunk_parts_r1
instance : Reg c_chunk_parts_r1 a_chunk_parts_r1 4 := ⟨rfl, rfl⟩
@[simp] def a_chunk_parts_r2 : List COper := [
  ⟨(some 7), .mov, [.t 3], none⟩,
  ⟨(some 8), .len, [.t 7], none⟩,
  ⟨(some 9), .bin .eql, [.t 8, .c (.int .i64 0)], none⟩]
def c_chunk_parts_r2 : List COper := a_chunk_parts_r2
instance : Reg c_chunk_parts_r2 a_chunk_parts_r2 3 := ⟨rfl, rfl⟩
@[simp] def a_chunk_parts_r3 : List COper := [
  ⟨(some 10), .bslice 1 1 (.v (.slice none 0 0)) [0], [.c (.slice none 0 0)], none⟩,
  ⟨(some 3), .mov, [.t 10], none⟩]
def c_chunk_parts_r3 : List COper := a_chunk_parts_r3
instance : Reg c_chunk_parts_r3 a_chunk_parts_r3 2 := ⟨rfl, rfl⟩
@[simp] def a_chunk_parts_r4 : List COper := [
  ⟨(some 11), .mov, [.t 3], none⟩,
  ⟨(some 2), .mov, [.t 11], none⟩]
def c_chunk_parts_r4 : List COper := a_chunk_parts_r4
instance : Reg c_chunk_parts_r4 a_chunk_parts_r4 2 := ⟨rfl, rfl⟩
@[simp] def c_chunk_parts : CCode :=
  .seq (.region c_chunk_parts_r0 none [0]) (.seq (.region c_chunk_parts_r1 none [3]) (.seq (.seq (.region c_chunk_parts_r2 none [3, 9]) (.cond (.t 9) (.region c_chunk_parts_r3 none [3]) (.skip))) (.seq (.region c_chunk_parts_r4 none [2]) (.ret))))
@[simp] def R_chunk_parts : List CRes := [.tmp 2]
theorem k_chunk_parts : chkFn Tryd.prog fn_chunk_parts c_chunk_parts R_chunk_parts 1 = true := by kernel_rfl
/-! wapentake/chunk.leaves -/
@[simp] def a_chunk_leaves_r0 : List COper := [
  ⟨(some 2), .mov, [.c (.slice none 0 0)], none⟩]
def c_chunk_leaves_r0 : List COper := a_chunk_leaves_r0
instance : Reg c_chunk_leaves_r0 a_chunk_leaves_r0 1 := ⟨rfl, rfl⟩
@[simp] def a_chunk_leaves_r1 : List COper := [
  ⟨(some 3), .mov, [.c (.slice none 0 0)], none⟩]
def c_chunk_leaves_r1 : List COper := a_chunk_leaves_r1
instance : Reg c_chunk_leaves_r1 a_chunk_leaves_r1 1 := ⟨rfl, rfl⟩
@[simp] def a_chunk_leaves_r2 : List COper := [
  ⟨(some 6), .mov, [.t 0], none⟩,
  ⟨(some 7), .len, [.t 6], none⟩,
  ⟨(some 8), .mov, [.c (.int .i64 0)], none⟩]
def c_chunk_leaves_r2 : List COper := a_chunk_leaves_r2
instance : Reg c_chunk_leaves_r2 a_chunk_leaves_r2 3 := ⟨rfl, rfl⟩
@[simp] def a_chunk_leaves_r3 : List COper := [
  ⟨(some 9), .bin .lss, [.t 8, .t 7], none⟩]
def c_chunk_leaves_r3 : List COper := a_chunk_leaves_r3
instance : Reg c_chunk_leaves_r3 a_chunk_leaves_r3 1 := ⟨rfl, rfl⟩
@[simp] def a_chunk_leaves_r4 : List COper := [
  ⟨(some 10), .iaddr 1, [.t 6, .t 8], none⟩,
  ⟨(some 11), .load false 1, [.t 10], none⟩,
  ⟨(some 5), .mov, [.t 11], none⟩]
def c_chunk_leaves_r4 : List COper := a_chunk_leaves_r4
instance : Reg c_chunk_leaves_r4 a_chunk_leaves_r4 3 := ⟨rfl, rfl⟩
@[simp] def a_chunk_leaves_r5 : List COper := [
  ⟨(some 12), .mov, [.t 3], none⟩,
  ⟨(some 13), .mov, [.t 5], none⟩,
  ⟨(some 14), .call fn_tree_Leaf, [.t 13], none⟩,
  ⟨(some 15), .bslice 32 1 (.arr 1 (rep 32 (.v (.int .u8 0)))) [0], [.t 14], none⟩,
  ⟨(some 16), .app 32 32, [.t 12, .t 15], none⟩,
  ⟨(some 3), .mov, [.t 16], none⟩]
def c_chunk_leaves_r5 : List COper := a_chunk_leaves_r5
instance : Reg c_chunk_leaves_r5 a_chunk_leaves_r5 6 := ⟨rfl, rfl⟩
@[simp] def a_chunk_leaves_r6 : List COper := [
  ⟨(some 17), .bin .add, [.t 8, .c (.int .i64 1)], none⟩,
  ⟨(some 8), .mov, [.t 17], none⟩]
def c_chunk_leaves_r6 : List COper := a_chunk_leaves_r6
instance : Reg c_chunk_leaves_r6 a_chunk_leaves_r6 2 := ⟨rfl, rfl⟩
@[simp] def a_chunk_leaves_r7 : List COper := [
  ⟨(some 18), .mov, [.t 3], none⟩,
  ⟨(some 2), .mov, [.t 18], none⟩]
def c_chunk_leaves_r7 : List COper := a_chunk_leaves_r7
instance : Reg c_chunk_leaves_r7 a_chunk_leaves_r7 2 := ⟨rfl, rfl⟩
@[simp] def c_chunk_leaves : CCode :=
  .seq (.region c_chunk_leaves_r0 none [0]) (.seq (.region c_chunk_leaves_r1 none [0, 3]) (.seq (.seq (.region c_chunk_leaves_r2 none [3, 6, 7, 8]) (.block 0 (.loop (.seq (.region c_chunk_leaves_r3 none [3, 6, 7, 8, 9]) (.seq (.cond (.t 9) (.skip) (.exit 0)) (.seq (.block 1 (.seq (.region c_chunk_leaves_r4 none [3, 5, 6, 7, 8]) (.region c_chunk_leaves_r5 none [3, 6, 7, 8]))) (.region c_chunk_leaves_r6 none [3, 6, 7, 8]))))))) (.seq (.region c_chunk_leaves_r7 none [2]) (.ret))))
@[simp] def R_chunk_leaves : List CRes := [.tmp 2]
theorem k_chunk_leaves : chkFn Tryd.prog fn_chunk_leaves c_chunk_leaves R_chunk_leaves 1 = true := by kernel_rfl
/-! wapentake/tree.Path -/
@[simp] def a_tree_Path_r0 : List COper := [
  ⟨(some 4), .mov, [.c (.slice none 0 0)], none⟩,
  ⟨(some 5), .mov, [.c (.bool false)], none⟩]
def c_tree_Path_r0 : List COper := a_tree_Path_r0
instance : Reg c_tree_Path_r0 a_tree_Path_r0 2 := ⟨rfl, rfl⟩
@[simp] def a_tree_Path_r1 : List COper := [
  ⟨(some 9), .mov, [.t 0], none⟩,
  ⟨(some 10), .bin .lss, [.t 9, .c (.int .i64 0)], none⟩,
  ⟨(some 11), .mov, [.t 10], none⟩,
  ⟨(some 12), .mov, [.t 0], (some (11, false))⟩,
  ⟨(some 13), .mov, [.t 1], (some (11, false))⟩,
  ⟨(some 14), .len, [.t 13], (some (11, false))⟩,
  ⟨(some 15), .bin .geq, [.t 12, .t 14], (some (11, false))⟩,
  ⟨(some 16), .pick, [.t 11, .c (.bool true), .t 15], none⟩]
def c_tree_Path_r1 : List COper := a_tree_Path_r1
instance : Reg c_tree_Path_r1 a_tree_Path_r1 8 := ⟨rfl, rfl⟩
@[simp] def a_tree_Path_r2 : List COper := [
  ⟨(some 4), .mov, [.c (.slice none 0 0)], none⟩,
  ⟨(some 5), .mov, [.c (.bool false)], none⟩]
def c_tree_Path_r2 : List COper := a_tree_Path_r2
instance : Reg c_tree_Path_r2 a_tree_Path_r2 2 := ⟨rfl, rfl⟩
@[simp] def a_tree_Path_r3 : List COper := [
  ⟨(some 6), .mov, [.c (.slice none 0 0)], none⟩]
def c_tree_Path_r3 : List COper := a_tree_Path_r3
instance : Reg c_tree_Path_r3 a_tree_Path_r3 1 := ⟨rfl, rfl⟩
@[simp] def a_tree_Path_r4 : List COper := [
  ⟨(some 17), .bslice 32 0 (.arr 1 (rep 32 (.v (.int .u8 0)))) [], [], none⟩,
  ⟨(some 18), .mov, [.t 1], none⟩,
  ⟨(some 19), .app 32 32, [.t 17, .t 18], none⟩,
  ⟨(some 7), .mov, [.t 19], none⟩]
def c_tree_Path_r4 : List COper := a_tree_Path_r4
instance : Reg c_tree_Path_r4 a_tree_Path_r4 4 := ⟨rfl, rfl⟩
@[simp] def a_tree_Path_r5 : List COper := [
  ⟨(some 20), .mov, [.t 7], none⟩,
  ⟨(some 21), .len, [.t 20], none⟩,
  ⟨(some 22), .bin .gtr, [.t 21, .c (.int .i64 1)], none⟩]
def c_tree_Path_r5 : List COper := a_tree_Path_r5
instance : Reg c_tree_Path_r5 a_tree_Path_r5 3 := ⟨rfl, rfl⟩
@[simp] def a_tree_Path_r7 : List COper := [
  ⟨(some 27), .mov, [.t 0], none⟩,
  ⟨(some 28), .bin .xor, [.t 27, .c (.int .i64 1)], none⟩,
  ⟨(some 8), .mov, [.t 28], none⟩]
def c_tree_Path_r7 : List COper := a_tree_Path_r7
instance : Reg c_tree_Path_r7 a_tree_Path_r7 3 := ⟨rfl, rfl⟩
@[simp] def a_tree_Path_r8 : List COper := [
  ⟨(some 29), .mov, [.t 8], none⟩,
  ⟨(some 30), .mov, [.t 7], none⟩,
  ⟨(some 31), .len, [.t 30], none⟩,
  ⟨(some 32), .bin .lss, [.t 29, .t 31], none⟩]
def c_tree_Path_r8 : List COper := a_tree_Path_r8
instance : Reg c_tree_Path_r8 a_tree_Path_r8 4 := ⟨rfl, rfl⟩
@[simp] def a_tree_Path_r9 : List COper := [
  ⟨(some 33), .mov, [.t 6], none⟩,
  ⟨(some 34), .mov, [.t 7], none⟩,
  ⟨(some 35), .mov, [.t 8], none⟩,
  ⟨(some 36), .iaddr 32, [.t 34, .t 35], none⟩,
  ⟨(some 37), .load true 32, [.t 36], none⟩,
  ⟨(some 38), .bslice 32 1 (.arr 1 (rep 32 (.v (.int .u8 0)))) [0], [.t 37], none⟩,
  ⟨(some 39), .app 32 32, [.t 33, .t 38], none⟩,
  ⟨(some 6), .mov, [.t 39], none⟩]
def c_tree_Path_r9 : List COper := a_tree_Path_r9
instance : Reg c_tree_Path_r9 a_tree_Path_r9 8 := ⟨rfl, rfl⟩
@[simp] def a_tree_Path_r6 : List COper := [
  ⟨(some 23), .mov, [.t 7], none⟩,
  ⟨(some 24), .call fn_tree_up, [.t 23], none⟩,
  ⟨(some 25), .mov, [.t 0], none⟩,
  ⟨(some 26), .bin .quo, [.t 25, .c (.int .i64 2)], none⟩,
  ⟨(some 7), .mov, [.t 24], none⟩,
  ⟨(some 0), .mov, [.t 26], none⟩]
def c_tree_Path_r6 : List COper := a_tree_Path_r6
instance : Reg c_tree_Path_r6 a_tree_Path_r6 6 := ⟨rfl, rfl⟩
@[simp] def a_tree_Path_r10 : List COper := [
  ⟨(some 40), .mov, [.t 6], none⟩,
  ⟨(some 4), .mov, [.t 40], none⟩,
  ⟨(some 5), .mov, [.c (.bool true)], none⟩]
def c_tree_Path_r10 : List COper := a_tree_Path_r10
instance : Reg c_tree_Path_r10 a_tree_Path_r10 3 := ⟨rfl, rfl⟩
@[simp] def c_tree_Path : CCode :=
  .seq (.region c_tree_Path_r0 none [0, 1]) (.seq (.seq (.region c_tree_Path_r1 none [0, 1, 16]) (.cond (.t 16) (.seq (.region c_tree_Path_r2 none [4, 5]) (.ret)) (.skip))) (.seq (.region c_tree_Path_r3 none [0, 1, 6]) (.seq (.region c_tree_Path_r4 none [0, 6, 7]) (.seq (.block 0 (.loop (.seq (.seq (.region c_tree_Path_r5 none [0, 6, 7, 22]) (.cond (.t 22) (.skip) (.exit 0))) (.seq (.block 1 (.seq (.region c_tree_Path_r7 none [0, 6, 7, 8]) (.seq (.region c_tree_Path_r8 none [0, 6, 7, 8, 32]) (.cond (.t 32) (.region c_tree_Path_r9 none [0, 6, 7]) (.skip))))) (.region c_tree_Path_r6 none [0, 6, 7]))))) (.seq (.region c_tree_Path_r10 none [4, 5]) (.ret))))))
@[simp] def R_tree_Path : List CRes := [.tmp 4, .tmp 5]
theorem k_tree_Path : chkFn Tryd.prog fn_tree_Path c_tree_Path R_tree_Path 2 = true := by kernel_rfl
/-! wapentake/tree.Root -/
@[simp] def a_tree_Root_r0 : List COper := [
  ⟨(some 2), .alloc (.arr 1 (rep 32 (.v (.int .u8 0)))), [], none⟩]
def c_tree_Root_r0 : List COper := a_tree_Root_r0
instance : Reg c_tree_Root_r0 a_tree_Root_r0 1 := ⟨rfl, rfl⟩
@[simp] def a_tree_Root_r1 : List COper := [
  ⟨(some 4), .mov, [.t 0], none⟩,
  ⟨(some 5), .len, [.t 4], none⟩,
  ⟨(some 6), .bin .eql, [.t 5, .c (.int .i64 0)], none⟩]
def c_tree_Root_r1 : List COper := a_tree_Root_r1
instance : Reg c_tree_Root_r1 a_tree_Root_r1 3 := ⟨rfl, rfl⟩
@[simp] def a_tree_Root_r2 : List COper := [
  ⟨(some 7), .call fn_sha_Of, [.c (.slice none 0 0)], none⟩,
  ⟨none, .store true 32, [.t 2, .t 7], none⟩]
def c_tree_Root_r2 : List COper := a_tree_Root_r2
instance : Reg c_tree_Root_r2 a_tree_Root_r2 2 := ⟨rfl, rfl⟩
@[simp] def a_tree_Root_r3 : List COper := [
  ⟨(some 8), .bslice 32 0 (.arr 1 (rep 32 (.v (.int .u8 0)))) [], [], none⟩,
  ⟨(some 9), .mov, [.t 0], none⟩,
  ⟨(some 10), .app 32 32, [.t 8, .t 9], none⟩,
  ⟨(some 3), .mov, [.t 10], none⟩]
def c_tree_Root_r3 : List COper := a_tree_Root_r3
instance : Reg c_tree_Root_r3 a_tree_Root_r3 4 := ⟨rfl, rfl⟩
@[simp] def a_tree_Root_r4 : List COper := [
  ⟨(some 11), .mov, [.t 3], none⟩,
  ⟨(some 12), .len, [.t 11], none⟩,
  ⟨(some 13), .bin .gtr, [.t 12, .c (.int .i64 1)], none⟩]
def c_tree_Root_r4 : List COper := a_tree_Root_r4
instance : Reg c_tree_Root_r4 a_tree_Root_r4 3 := ⟨rfl, rfl⟩
@[simp] def a_tree_Root_r5 : List COper := [
  ⟨(some 14), .mov, [.t 3], none⟩,
  ⟨(some 15), .call fn_tree_up, [.t 14], none⟩,
  ⟨(some 3), .mov, [.t 15], none⟩]
def c_tree_Root_r5 : List COper := a_tree_Root_r5
instance : Reg c_tree_Root_r5 a_tree_Root_r5 3 := ⟨rfl, rfl⟩
@[simp] def a_tree_Root_r6 : List COper := [
  ⟨(some 16), .mov, [.t 3], none⟩,
  ⟨(some 17), .iaddr 32, [.t 16, .c (.int .i64 0)], none⟩,
  ⟨(some 18), .load true 32, [.t 17], none⟩,
  ⟨none, .store true 32, [.t 2, .t 18], none⟩]
def c_tree_Root_r6 : List COper := a_tree_Root_r6
instance : Reg c_tree_Root_r6 a_tree_Root_r6 4 := ⟨rfl, rfl⟩
@[simp] def c_tree_Root : CCode :=
  .seq (.region c_tree_Root_r0 none [0, 2]) (.seq (.seq (.region c_tree_Root_r1 none [0, 2, 6]) (.cond (.t 6) (.seq (.region c_tree_Root_r2 none [2]) (.ret)) (.skip))) (.seq (.region c_tree_Root_r3 none [2, 3]) (.seq (.block 0 (.loop (.seq (.seq (.region c_tree_Root_r4 none [2, 3, 13]) (.cond (.t 13) (.skip) (.exit 0))) (.block 1 (.region c_tree_Root_r5 none [2, 3]))))) (.seq (.region c_tree_Root_r6 none [2]) (.ret)))))
@[simp] def R_tree_Root : List CRes := [.cell 2 true 32]
theorem k_tree_Root : chkFn Tryd.prog fn_tree_Root c_tree_Root R_tree_Root 1 = true := by kernel_rfl
/-! wapentake/config.Write -/
@[simp] def a_config_Write_r0 : List COper := [
  ⟨(some 3), .box, [.t 1], none⟩]
def c_config_Write_r0 : List COper := a_config_Write_r0
instance : Reg c_config_Write_r0 a_config_Write_r0 1 := ⟨rfl, rfl⟩
@[simp] def a_config_Write_r1 : List COper := [
  ⟨(some 6), .mov, [.t 0], none⟩,
  ⟨(some 7), .faddr 0 1 false, [.t 3], none⟩,
  ⟨(some 8), .load false 1, [.t 7], none⟩,
  ⟨(some 9), .faddr 1 1 false, [.t 3], none⟩,
  ⟨(some 10), .load false 1, [.t 9], none⟩,
  ⟨(some 11), .len, [.t 10], none⟩,
  ⟨(some 12), .bslice 1 2 (.v (.int .i64 0)) [0, 1], [.t 8, .t 11], none⟩,
  ⟨(some 13), .call fn_code_Writer_Num, [.t 6, .t 12], none⟩]
def c_config_Write_r1 : List COper := a_config_Write_r1
instance : Reg c_config_Write_r1 a_config_Write_r1 8 := ⟨rfl, rfl⟩
@[simp] def a_config_Write_r2 : List COper := [
  ⟨(some 14), .faddr 1 1 false, [.t 3], none⟩,
  ⟨(some 15), .load false 1, [.t 14], none⟩,
  ⟨(some 16), .len, [.t 15], none⟩,
  ⟨(some 17), .mov, [.c (.int .i64 0)], none⟩]
def c_config_Write_r2 : List COper := a_config_Write_r2
instance : Reg c_config_Write_r2 a_config_Write_r2 4 := ⟨rfl, rfl⟩
@[simp] def a_config_Write_r3 : List COper := [
  ⟨(some 18), .bin .lss, [.t 17, .t 16], none⟩]
def c_config_Write_r3 : List COper := a_config_Write_r3
instance : Reg c_config_Write_r3 a_config_Write_r3 1 := ⟨rfl, rfl⟩
@[simp] def a_config_Write_r4 : List COper := [
  ⟨(some 19), .iaddr 34, [.t 15, .t 17], none⟩,
  ⟨(some 20), .load true 34, [.t 19], none⟩,
  ⟨(some 5), .alloc (.node [.v (.int .i64 0), .node [.arr 1 (rep 32 (.v (.int .u8 0))), .v (.int .i64 0)]]), [], none⟩,
  ⟨none, .store true 34, [.t 5, .t 20], none⟩]
def c_config_Write_r4 : List COper := a_config_Write_r4
instance : Reg c_config_Write_r4 a_config_Write_r4 4 := ⟨rfl, rfl⟩
@[simp] def a_config_Write_r5 : List COper := [
  ⟨(some 21), .mov, [.t 0], none⟩,
  ⟨(some 22), .faddr 0 1 false, [.t 5], none⟩,
  ⟨(some 23), .load false 1, [.t 22], none⟩,
  ⟨(some 24), .faddr 1 33 true, [.t 5], none⟩,
  ⟨(some 25), .faddr 32 1 false, [.t 24], none⟩,
  ⟨(some 26), .load false 1, [.t 25], none⟩,
  ⟨(some 27), .bslice 1 2 (.v (.int .i64 0)) [0, 1], [.t 23, .t 26], none⟩,
  ⟨(some 28), .call fn_code_Writer_Num, [.t 21, .t 27], none⟩]
def c_config_Write_r5 : List COper := a_config_Write_r5
instance : Reg c_config_Write_r5 a_config_Write_r5 8 := ⟨rfl, rfl⟩
@[simp] def a_config_Write_r6 : List COper := [
  ⟨(some 29), .mov, [.t 0], none⟩,
  ⟨(some 30), .faddr 1 33 true, [.t 5], none⟩,
  ⟨(some 31), .faddr 0 32 true, [.t 30], none⟩,
  ⟨(some 32), .load true 32, [.t 31], none⟩,
  ⟨(some 33), .bslice 32 1 (.arr 1 (rep 32 (.v (.int .u8 0)))) [0], [.t 32], none⟩,
  ⟨(some 34), .call fn_code_Writer_Digest, [.t 29, .t 33], none⟩]
def c_config_Write_r6 : List COper := a_config_Write_r6
instance : Reg c_config_Write_r6 a_config_Write_r6 6 := ⟨rfl, rfl⟩
@[simp] def a_config_Write_r7 : List COper := [
  ⟨(some 35), .bin .add, [.t 17, .c (.int .i64 1)], none⟩,
  ⟨(some 17), .mov, [.t 35], none⟩]
def c_config_Write_r7 : List COper := a_config_Write_r7
instance : Reg c_config_Write_r7 a_config_Write_r7 2 := ⟨rfl, rfl⟩
@[simp] def c_config_Write : CCode :=
  .seq (.region c_config_Write_r0 none [0, 3]) (.seq (.region c_config_Write_r1 none [0, 3]) (.seq (.region c_config_Write_r2 none [0, 15, 16, 17]) (.block 0 (.loop (.seq (.region c_config_Write_r3 none [0, 15, 16, 17, 18]) (.seq (.cond (.t 18) (.skip) (.exit 0)) (.seq (.block 1 (.seq (.region c_config_Write_r4 none [0, 5, 15, 16, 17]) (.seq (.region c_config_Write_r5 none [0, 5, 15, 16, 17]) (.region c_config_Write_r6 none [0, 15, 16, 17])))) (.region c_config_Write_r7 none [0, 15, 16, 17]))))))))
@[simp] def R_config_Write : List CRes := []
theorem k_config_Write : chkFn Tryd.prog fn_config_Write c_config_Write R_config_Write 2 = true := by kernel_rfl
/-! (*wapentake/code.Writer).Num -/
@[simp] def a_code_Writer_Num_r0 : List COper := [
  ⟨(some 7), .mov, [.t 0], none⟩,
  ⟨(some 8), .eqp false, [.t 7, .c (.pointer none)], none⟩]
def c_code_Writer_Num_r0 : List COper := a_code_Writer_Num_r0
instance : Reg c_code_Writer_Num_r0 a_code_Writer_Num_r0 2 := ⟨rfl, rfl⟩
@[simp] def a_code_Writer_Num_r1 : List COper := [
  ⟨(some 9), .mov, [.t 1], none⟩,
  ⟨(some 10), .len, [.t 9], none⟩,
  ⟨(some 11), .mov, [.c (.int .i64 0)], none⟩]
def c_code_Writer_Num_r1 : List COper := a_code_Writer_Num_r1
instance : Reg c_code_Writer_Num_r1 a_code_Writer_Num_r1 3 := ⟨rfl, rfl⟩
@[simp] def a_code_Writer_Num_r2 : List COper := [
  ⟨(some 12), .bin .lss, [.t 11, .t 10], none⟩]
def c_code_Writer_Num_r2 : List COper := a_code_Writer_Num_r2
instance : Reg c_code_Writer_Num_r2 a_code_Writer_Num_r2 1 := ⟨rfl, rfl⟩
@[simp] def a_code_Writer_Num_r3 : List COper := [
  ⟨(some 13), .iaddr 1, [.t 9, .t 11], none⟩,
  ⟨(some 14), .load false 1, [.t 13], none⟩,
  ⟨(some 5), .mov, [.t 14], none⟩]
def c_code_Writer_Num_r3 : List COper := a_code_Writer_Num_r3
instance : Reg c_code_Writer_Num_r3 a_code_Writer_Num_r3 3 := ⟨rfl, rfl⟩
@[simp] def a_code_Writer_Num_r4 : List COper := [
  ⟨(some 6), .mov, [.c (.int .i64 56)], none⟩]
def c_code_Writer_Num_r4 : List COper := a_code_Writer_Num_r4
instance : Reg c_code_Writer_Num_r4 a_code_Writer_Num_r4 1 := ⟨rfl, rfl⟩
@[simp] def a_code_Writer_Num_r5 : List COper := [
  ⟨(some 15), .mov, [.t 6], none⟩,
  ⟨(some 16), .bin .geq, [.t 15, .c (.int .i64 0)], none⟩]
def c_code_Writer_Num_r5 : List COper := a_code_Writer_Num_r5
instance : Reg c_code_Writer_Num_r5 a_code_Writer_Num_r5 2 := ⟨rfl, rfl⟩
@[simp] def a_code_Writer_Num_r7 : List COper := [
  ⟨(some 19), .mov, [.t 0], none⟩,
  ⟨(some 20), .mov, [.t 0], none⟩,
  ⟨(some 21), .nilc, [.t 20], none⟩,
  ⟨(some 22), .faddr 0 1 false, [.t 21], none⟩,
  ⟨(some 23), .load false 1, [.t 22], none⟩,
  ⟨(some 24), .mov, [.t 5], none⟩,
  ⟨(some 25), .convI .u64, [.t 24], none⟩,
  ⟨(some 26), .mov, [.t 6], none⟩,
  ⟨(some 27), .bin .shr, [.t 25, .t 26], none⟩,
  ⟨(some 28), .convI .u8, [.t 27], none⟩,
  ⟨(some 29), .bslice 1 1 (.v (.int .u8 0)) [0], [.t 28], none⟩,
  ⟨(some 30), .app 1 1, [.t 23, .t 29], none⟩,
  ⟨(some 31), .nilc, [.t 19], none⟩,
  ⟨(some 32), .faddr 0 1 false, [.t 31], none⟩,
  ⟨none, .store false 1, [.t 32, .t 30], none⟩]
def c_code_Writer_Num_r7 : List COper := a_code_Writer_Num_r7
instance : Reg c_code_Writer_Num_r7 a_code_Writer_Num_r7 15 := ⟨rfl, rfl⟩
@[simp] def a_code_Writer_Num_r6 : List COper := [
  ⟨(some 17), .mov, [.t 6], none⟩,
  ⟨(some 18), .bin .sub, [.t 17, .c (.int .i64 8)], none⟩,
  ⟨(some 6), .mov, [.t 18], none⟩]
def c_code_Writer_Num_r6 : List COper := a_code_Writer_Num_r6
instance : Reg c_code_Writer_Num_r6 a_code_Writer_Num_r6 3 := ⟨rfl, rfl⟩
@[simp] def a_code_Writer_Num_r8 : List COper := [
  ⟨(some 33), .bin .add, [.t 11, .c (.int .i64 1)], none⟩,
  ⟨(some 11), .mov, [.t 33], none⟩]
def c_code_Writer_Num_r8 : List COper := a_code_Writer_Num_r8
instance : Reg c_code_Writer_Num_r8 a_code_Writer_Num_r8 2 := ⟨rfl, rfl⟩
@[simp] def c_code_Writer_Num : CCode :=
  .seq (.seq (.region c_code_Writer_Num_r0 none [0, 1, 8]) (.cond (.t 8) (.ret) (.skip))) (.seq (.region c_code_Writer_Num_r1 none [0, 9, 10, 11]) (.block 0 (.loop (.seq (.region c_code_Writer_Num_r2 none [0, 9, 10, 11, 12]) (.seq (.cond (.t 12) (.skip) (.exit 0)) (.seq (.block 1 (.seq (.region c_code_Writer_Num_r3 none [0, 5, 9, 10, 11]) (.seq (.region c_code_Writer_Num_r4 none [0, 5, 6, 9, 10, 11]) (.block 2 (.loop (.seq (.seq (.region c_code_Writer_Num_r5 none [0, 5, 6, 9, 10, 11, 16]) (.cond (.t 16) (.skip) (.exit 2))) (.seq (.block 3 (.region c_code_Writer_Num_r7 (some ([0, 0, 2, 6, 14, 0, 32, 0, 224, 480, 992, 2046, 4095, 8191, 16383], [(4, 10)])) [0, 5, 6, 9, 10, 11])) (.region c_code_Writer_Num_r6 none [0, 5, 6, 9, 10, 11])))))))) (.region c_code_Writer_Num_r8 none [0, 9, 10, 11])))))))
@[simp] def R_code_Writer_Num : List CRes := []
theorem k_code_Writer_Num : chkFn Tryd.prog fn_code_Writer_Num c_code_Writer_Num R_code_Writer_Num 2 = true := by kernel_rfl
/-! (*wapentake/code.Writer).Text -/
@[simp] def a_code_Writer_Text_r0 : List COper := [
  ⟨(some 7), .mov, [.t 0], none⟩,
  ⟨(some 8), .eqp false, [.t 7, .c (.pointer none)], none⟩]
def c_code_Writer_Text_r0 : List COper := a_code_Writer_Text_r0
instance : Reg c_code_Writer_Text_r0 a_code_Writer_Text_r0 2 := ⟨rfl, rfl⟩
@[simp] def a_code_Writer_Text_r1 : List COper := [
  ⟨(some 9), .mov, [.t 1], none⟩,
  ⟨(some 10), .len, [.t 9], none⟩,
  ⟨(some 11), .mov, [.c (.int .i64 0)], none⟩]
def c_code_Writer_Text_r1 : List COper := a_code_Writer_Text_r1
instance : Reg c_code_Writer_Text_r1 a_code_Writer_Text_r1 3 := ⟨rfl, rfl⟩
@[simp] def a_code_Writer_Text_r2 : List COper := [
  ⟨(some 12), .bin .lss, [.t 11, .t 10], none⟩]
def c_code_Writer_Text_r2 : List COper := a_code_Writer_Text_r2
instance : Reg c_code_Writer_Text_r2 a_code_Writer_Text_r2 1 := ⟨rfl, rfl⟩
@[simp] def a_code_Writer_Text_r3 : List COper := [
  ⟨(some 13), .iaddr 1, [.t 9, .t 11], none⟩,
  ⟨(some 14), .load false 1, [.t 13], none⟩,
  ⟨(some 5), .mov, [.t 14], none⟩]
def c_code_Writer_Text_r3 : List COper := a_code_Writer_Text_r3
instance : Reg c_code_Writer_Text_r3 a_code_Writer_Text_r3 3 := ⟨rfl, rfl⟩
@[simp] def a_code_Writer_Text_r4 : List COper := [
  ⟨(some 15), .mov, [.t 5], none⟩,
  ⟨(some 16), .lenS, [.t 15], none⟩,
  ⟨(some 6), .mov, [.t 16], none⟩]
def c_code_Writer_Text_r4 : List COper := a_code_Writer_Text_r4
instance : Reg c_code_Writer_Text_r4 a_code_Writer_Text_r4 3 := ⟨rfl, rfl⟩
@[simp] def a_code_Writer_Text_r5 : List COper := [
  ⟨(some 17), .mov, [.t 0], none⟩,
  ⟨(some 18), .mov, [.t 0], none⟩,
  ⟨(some 19), .nilc, [.t 18], none⟩,
  ⟨(some 20), .faddr 0 1 false, [.t 19], none⟩,
  ⟨(some 21), .load false 1, [.t 20], none⟩,
  ⟨(some 22), .mov, [.t 6], none⟩,
  ⟨(some 23), .bin .shr, [.t 22, .c (.int .u64 24)], none⟩,
  ⟨(some 24), .convI .u8, [.t 23], none⟩,
  ⟨(some 25), .mov, [.t 6], none⟩,
  ⟨(some 26), .bin .shr, [.t 25, .c (.int .u64 16)], none⟩,
  ⟨(some 27), .convI .u8, [.t 26], none⟩,
  ⟨(some 28), .mov, [.t 6], none⟩,
  ⟨(some 29), .bin .shr, [.t 28, .c (.int .u64 8)], none⟩,
  ⟨(some 30), .convI .u8, [.t 29], none⟩,
  ⟨(some 31), .mov, [.t 6], none⟩,
  ⟨(some 32), .convI .u8, [.t 31], none⟩,
  ⟨(some 33), .bslice 1 4 (.v (.int .u8 0)) [0, 1, 2, 3], [.t 24, .t 27, .t 30, .t 32], none⟩,
  ⟨(some 34), .app 1 1, [.t 21, .t 33], none⟩,
  ⟨(some 35), .nilc, [.t 17], none⟩,
  ⟨(some 36), .faddr 0 1 false, [.t 35], none⟩,
  ⟨none, .store false 1, [.t 36, .t 34], none⟩]
def c_code_Writer_Text_r5 : List COper := a_code_Writer_Text_r5
instance : Reg c_code_Writer_Text_r5 a_code_Writer_Text_r5 21 := ⟨rfl, rfl⟩
@[simp] def a_code_Writer_Text_r6 : List COper := [
  ⟨(some 37), .mov, [.t 0], none⟩,
  ⟨(some 38), .mov, [.t 0], none⟩,
  ⟨(some 39), .nilc, [.t 38], none⟩,
  ⟨(some 40), .faddr 0 1 false, [.t 39], none⟩,
  ⟨(some 41), .load false 1, [.t 40], none⟩,
  ⟨(some 42), .mov, [.t 5], none⟩,
  ⟨(some 43), .appS 1, [.t 41, .t 42], none⟩,
  ⟨(some 44), .nilc, [.t 37], none⟩,
  ⟨(some 45), .faddr 0 1 false, [.t 44], none⟩,
  ⟨none, .store false 1, [.t 45, .t 43], none⟩]
def c_code_Writer_Text_r6 : List COper := a_code_Writer_Text_r6
instance : Reg c_code_Writer_Text_r6 a_code_Writer_Text_r6 10 := ⟨rfl, rfl⟩
@[simp] def a_code_Writer_Text_r7 : List COper := [
  ⟨(some 46), .bin .add, [.t 11, .c (.int .i64 1)], none⟩,
  ⟨(some 11), .mov, [.t 46], none⟩]
def c_code_Writer_Text_r7 : List COper := a_code_Writer_Text_r7
instance : Reg c_code_Writer_Text_r7 a_code_Writer_Text_r7 2 := ⟨rfl, rfl⟩
@[simp] def c_code_Writer_Text : CCode :=
  .seq (.seq (.region c_code_Writer_Text_r0 none [0, 1, 8]) (.cond (.t 8) (.ret) (.skip))) (.seq (.region c_code_Writer_Text_r1 none [0, 9, 10, 11]) (.block 0 (.loop (.seq (.region c_code_Writer_Text_r2 none [0, 9, 10, 11, 12]) (.seq (.cond (.t 12) (.skip) (.exit 0)) (.seq (.block 1 (.seq (.region c_code_Writer_Text_r3 none [0, 5, 9, 10, 11]) (.seq (.region c_code_Writer_Text_r4 none [0, 5, 6, 9, 10, 11]) (.seq (.region c_code_Writer_Text_r5 none [0, 5, 9, 10, 11]) (.region c_code_Writer_Text_r6 none [0, 9, 10, 11]))))) (.region c_code_Writer_Text_r7 none [0, 9, 10, 11])))))))
@[simp] def R_code_Writer_Text : List CRes := []
theorem k_code_Writer_Text : chkFn Tryd.prog fn_code_Writer_Text c_code_Writer_Text R_code_Writer_Text 2 = true := by kernel_rfl
/-! wapentake/request.WriteReply -/
@[simp] def a_request_WriteReply_r0 : List COper := [
  ⟨(some 3), .box, [.t 1], none⟩]
def c_request_WriteReply_r0 : List COper := a_request_WriteReply_r0
instance : Reg c_request_WriteReply_r0 a_request_WriteReply_r0 1 := ⟨rfl, rfl⟩
@[simp] def a_request_WriteReply_r1 : List COper := [
  ⟨(some 4), .mov, [.t 0], none⟩,
  ⟨(some 5), .faddr 0 1 false, [.t 3], none⟩,
  ⟨(some 6), .load false 1, [.t 5], none⟩,
  ⟨(some 7), .faddr 1 1 false, [.t 3], none⟩,
  ⟨(some 8), .load false 1, [.t 7], none⟩,
  ⟨(some 9), .faddr 2 1 false, [.t 3], none⟩,
  ⟨(some 10), .load false 1, [.t 9], none⟩,
  ⟨(some 11), .faddr 3 1 false, [.t 3], none⟩,
  ⟨(some 12), .load false 1, [.t 11], none⟩,
  ⟨(some 13), .len, [.t 12], none⟩,
  ⟨(some 14), .bslice 1 4 (.v (.int .i64 0)) [0, 1, 2, 3], [.t 6, .t 8, .t 10, .t 13], none⟩,
  ⟨(some 15), .call fn_code_Writer_Num, [.t 4, .t 14], none⟩]
def c_request_WriteReply_r1 : List COper := a_request_WriteReply_r1
instance : Reg c_request_WriteReply_r1 a_request_WriteReply_r1 12 := ⟨rfl, rfl⟩
@[simp] def a_request_WriteReply_r2 : List COper := [
  ⟨(some 16), .mov, [.t 0], none⟩,
  ⟨(some 17), .faddr 3 1 false, [.t 3], none⟩,
  ⟨(some 18), .load false 1, [.t 17], none⟩,
  ⟨(some 19), .call fn_code_Writer_Text, [.t 16, .t 18], none⟩]
def c_request_WriteReply_r2 : List COper := a_request_WriteReply_r2
instance : Reg c_request_WriteReply_r2 a_request_WriteReply_r2 4 := ⟨rfl, rfl⟩
@[simp] def c_request_WriteReply : CCode :=
  .seq (.region c_request_WriteReply_r0 none [0, 3]) (.seq (.region c_request_WriteReply_r1 none [0, 3]) (.region c_request_WriteReply_r2 none []))
@[simp] def R_request_WriteReply : List CRes := []
theorem k_request_WriteReply : chkFn Tryd.prog fn_request_WriteReply c_request_WriteReply R_request_WriteReply 2 = true := by kernel_rfl
/-! (*wapentake/code.Writer).Bytes -/
@[simp] def a_code_Writer_Bytes_r0 : List COper := [
  ⟨(some 2), .mov, [.c (.slice none 0 0)], none⟩]
def c_code_Writer_Bytes_r0 : List COper := a_code_Writer_Bytes_r0
instance : Reg c_code_Writer_Bytes_r0 a_code_Writer_Bytes_r0 1 := ⟨rfl, rfl⟩
@[simp] def a_code_Writer_Bytes_r1 : List COper := [
  ⟨(some 3), .mov, [.t 0], none⟩,
  ⟨(some 4), .eqp false, [.t 3, .c (.pointer none)], none⟩]
def c_code_Writer_Bytes_r1 : List COper := a_code_Writer_Bytes_r1
instance : Reg c_code_Writer_Bytes_r1 a_code_Writer_Bytes_r1 2 := ⟨rfl, rfl⟩
@[simp] def a_code_Writer_Bytes_r2 : List COper := [
  ⟨(some 2), .mov, [.c (.slice none 0 0)], none⟩]
def c_code_Writer_Bytes_r2 : List COper := a_code_Writer_Bytes_r2
instance : Reg c_code_Writer_Bytes_r2 a_code_Writer_Bytes_r2 1 := ⟨rfl, rfl⟩
@[simp] def a_code_Writer_Bytes_r3 : List COper := [
  ⟨(some 5), .mov, [.t 0], none⟩,
  ⟨(some 6), .nilc, [.t 5], none⟩,
  ⟨(some 7), .faddr 0 1 false, [.t 6], none⟩,
  ⟨(some 8), .load false 1, [.t 7], none⟩,
  ⟨(some 9), .slice0 1, [.t 8], none⟩,
  ⟨(some 10), .mov, [.t 0], none⟩,
  ⟨(some 11), .nilc, [.t 10], none⟩,
  ⟨(some 12), .faddr 0 1 false, [.t 11], none⟩,
  ⟨(some 13), .load false 1, [.t 12], none⟩,
  ⟨(some 14), .app 1 1, [.t 9, .t 13], none⟩,
  ⟨(some 2), .mov, [.t 14], none⟩]
def c_code_Writer_Bytes_r3 : List COper := a_code_Writer_Bytes_r3
instance : Reg c_code_Writer_Bytes_r3 a_code_Writer_Bytes_r3 11 := ⟨rfl, rfl⟩
@[simp] def c_code_Writer_Bytes : CCode :=
  .seq (.region c_code_Writer_Bytes_r0 none [0]) (.seq (.seq (.region c_code_Writer_Bytes_r1 none [0, 4]) (.cond (.t 4) (.seq (.region c_code_Writer_Bytes_r2 none [2]) (.ret)) (.skip))) (.seq (.region c_code_Writer_Bytes_r3 (some ([0, 1, 3, 7, 15, 0, 32, 96, 224, 511, 1023], [(4, 8)])) [2]) (.ret)))
@[simp] def R_code_Writer_Bytes : List CRes := [.tmp 2]
theorem k_code_Writer_Bytes : chkFn Tryd.prog fn_code_Writer_Bytes c_code_Writer_Bytes R_code_Writer_Bytes 1 = true := by kernel_rfl
/-! (*wapentake/code.Writer).Digest -/
@[simp] def a_code_Writer_Digest_r0 : List COper := [
  ⟨(some 6), .mov, [.t 0], none⟩,
  ⟨(some 7), .eqp false, [.t 6, .c (.pointer none)], none⟩]
def c_code_Writer_Digest_r0 : List COper := a_code_Writer_Digest_r0
instance : Reg c_code_Writer_Digest_r0 a_code_Writer_Digest_r0 2 := ⟨rfl, rfl⟩
@[simp] def a_code_Writer_Digest_r1 : List COper := [
  ⟨(some 8), .mov, [.t 1], none⟩,
  ⟨(some 9), .len, [.t 8], none⟩,
  ⟨(some 10), .mov, [.c (.int .i64 0)], none⟩]
def c_code_Writer_Digest_r1 : List COper := a_code_Writer_Digest_r1
instance : Reg c_code_Writer_Digest_r1 a_code_Writer_Digest_r1 3 := ⟨rfl, rfl⟩
@[simp] def a_code_Writer_Digest_r2 : List COper := [
  ⟨(some 11), .bin .lss, [.t 10, .t 9], none⟩]
def c_code_Writer_Digest_r2 : List COper := a_code_Writer_Digest_r2
instance : Reg c_code_Writer_Digest_r2 a_code_Writer_Digest_r2 1 := ⟨rfl, rfl⟩
@[simp] def a_code_Writer_Digest_r3 : List COper := [
  ⟨(some 12), .iaddr 32, [.t 8, .t 10], none⟩,
  ⟨(some 13), .load true 32, [.t 12], none⟩,
  ⟨(some 5), .alloc (.arr 1 (rep 32 (.v (.int .u8 0)))), [], none⟩,
  ⟨none, .store true 32, [.t 5, .t 13], none⟩]
def c_code_Writer_Digest_r3 : List COper := a_code_Writer_Digest_r3
instance : Reg c_code_Writer_Digest_r3 a_code_Writer_Digest_r3 4 := ⟨rfl, rfl⟩
@[simp] def a_code_Writer_Digest_r4 : List COper := [
  ⟨(some 14), .mov, [.t 0], none⟩,
  ⟨(some 15), .mov, [.t 0], none⟩,
  ⟨(some 16), .nilc, [.t 15], none⟩,
  ⟨(some 17), .faddr 0 1 false, [.t 16], none⟩,
  ⟨(some 18), .load false 1, [.t 17], none⟩,
  ⟨(some 19), .sliceArr 32 1 false false, [.t 5], none⟩,
  ⟨(some 20), .app 1 1, [.t 18, .t 19], none⟩,
  ⟨(some 21), .nilc, [.t 14], none⟩,
  ⟨(some 22), .faddr 0 1 false, [.t 21], none⟩,
  ⟨none, .store false 1, [.t 22, .t 20], none⟩]
def c_code_Writer_Digest_r4 : List COper := a_code_Writer_Digest_r4
instance : Reg c_code_Writer_Digest_r4 a_code_Writer_Digest_r4 10 := ⟨rfl, rfl⟩
@[simp] def a_code_Writer_Digest_r5 : List COper := [
  ⟨(some 23), .bin .add, [.t 10, .c (.int .i64 1)], none⟩,
  ⟨(some 10), .mov, [.t 23], none⟩]
def c_code_Writer_Digest_r5 : List COper := a_code_Writer_Digest_r5
instance : Reg c_code_Writer_Digest_r5 a_code_Writer_Digest_r5 2 := ⟨rfl, rfl⟩
@[simp] def c_code_Writer_Digest : CCode :=
  .seq (.seq (.region c_code_Writer_Digest_r0 none [0, 1, 7]) (.cond (.t 7) (.ret) (.skip))) (.seq (.region c_code_Writer_Digest_r1 none [0, 8, 9, 10]) (.block 0 (.loop (.seq (.region c_code_Writer_Digest_r2 none [0, 8, 9, 10, 11]) (.seq (.cond (.t 11) (.skip) (.exit 0)) (.seq (.block 1 (.seq (.region c_code_Writer_Digest_r3 none [0, 5, 8, 9, 10]) (.region c_code_Writer_Digest_r4 (some ([0, 0, 2, 6, 14, 0, 62, 127, 255, 511], [])) [0, 8, 9, 10]))) (.region c_code_Writer_Digest_r5 none [0, 8, 9, 10])))))))
@[simp] def R_code_Writer_Digest : List CRes := []
theorem k_code_Writer_Digest : chkFn Tryd.prog fn_code_Writer_Digest c_code_Writer_Digest R_code_Writer_Digest 2 = true := by kernel_rfl
/-! wapentake/sha.Of -/
@[simp] def a_sha_Of_r0 : List COper := [
  ⟨(some 2), .alloc (.arr 1 (rep 32 (.v (.int .u8 0)))), [], none⟩]
def c_sha_Of_r0 : List COper := a_sha_Of_r0
instance : Reg c_sha_Of_r0 a_sha_Of_r0 1 := ⟨rfl, rfl⟩
@[simp] def a_sha_Of_r1 : List COper := [
  ⟨(some 13), .buildA 1 (rep 8 (.v (.int .u32 0))) (upTo 8), [.c (.int .u32 1779033703), .c (.int .u32 3144134277), .c (.int .u32 1013904242), .c (.int .u32 2773480762), .c (.int .u32 1359893119), .c (.int .u32 2600822924), .c (.int .u32 528734635), .c (.int .u32 1541459225)], none⟩,
  ⟨(some 3), .alloc (.arr 1 (rep 8 (.v (.int .u32 0)))), [], none⟩,
  ⟨none, .store true 8, [.t 3, .t 13], none⟩]
def c_sha_Of_r1 : List COper := a_sha_Of_r1
instance : Reg c_sha_Of_r1 a_sha_Of_r1 3 := ⟨rfl, rfl⟩
@[simp] def a_sha_Of_r2 : List COper := [
  ⟨(some 4), .alloc (.arr 1 (rep 64 (.v (.int .u8 0)))), [], none⟩]
def c_sha_Of_r2 : List COper := a_sha_Of_r2
instance : Reg c_sha_Of_r2 a_sha_Of_r2 1 := ⟨rfl, rfl⟩
@[simp] def a_sha_Of_r3 : List COper := [
  ⟨(some 5), .mov, [.c (.int .i64 0)], none⟩,
  ⟨(some 6), .mov, [.c (.int .i64 0)], none⟩]
def c_sha_Of_r3 : List COper := a_sha_Of_r3
instance : Reg c_sha_Of_r3 a_sha_Of_r3 2 := ⟨rfl, rfl⟩
@[simp] def a_sha_Of_r4 : List COper := [
  ⟨(some 14), .mov, [.t 0], none⟩,
  ⟨(some 15), .len, [.t 14], none⟩,
  ⟨(some 16), .mov, [.c (.int .i64 0)], none⟩]
def c_sha_Of_r4 : List COper := a_sha_Of_r4
instance : Reg c_sha_Of_r4 a_sha_Of_r4 3 := ⟨rfl, rfl⟩
@[simp] def a_sha_Of_r5 : List COper := [
  ⟨(some 17), .bin .lss, [.t 16, .t 15], none⟩]
def c_sha_Of_r5 : List COper := a_sha_Of_r5
instance : Reg c_sha_Of_r5 a_sha_Of_r5 1 := ⟨rfl, rfl⟩
@[simp] def a_sha_Of_r6 : List COper := [
  ⟨(some 18), .iaddr 1, [.t 14, .t 16], none⟩,
  ⟨(some 19), .load false 1, [.t 18], none⟩,
  ⟨(some 8), .mov, [.t 19], none⟩]
def c_sha_Of_r6 : List COper := a_sha_Of_r6
instance : Reg c_sha_Of_r6 a_sha_Of_r6 3 := ⟨rfl, rfl⟩
@[simp] def a_sha_Of_r7 : List COper := [
  ⟨(some 20), .mov, [.t 5], none⟩,
  ⟨(some 21), .mov, [.t 8], none⟩,
  ⟨(some 22), .len, [.t 21], none⟩,
  ⟨(some 23), .bin .add, [.t 20, .t 22], none⟩,
  ⟨(some 5), .mov, [.t 23], none⟩]
def c_sha_Of_r7 : List COper := a_sha_Of_r7
instance : Reg c_sha_Of_r7 a_sha_Of_r7 5 := ⟨rfl, rfl⟩
@[simp] def a_sha_Of_r8 : List COper := [
  ⟨(some 24), .mov, [.t 8], none⟩,
  ⟨(some 25), .len, [.t 24], none⟩,
  ⟨(some 26), .bin .gtr, [.t 25, .c (.int .i64 0)], none⟩]
def c_sha_Of_r8 : List COper := a_sha_Of_r8
instance : Reg c_sha_Of_r8 a_sha_Of_r8 3 := ⟨rfl, rfl⟩
@[simp] def a_sha_Of_r9 : List COper := [
  ⟨(some 27), .mov, [.t 6], none⟩,
  ⟨(some 28), .sliceArr 64 1 true false, [.t 4, .t 27], none⟩,
  ⟨(some 29), .mov, [.t 8], none⟩,
  ⟨(some 30), .copy 1, [.t 28, .t 29], none⟩,
  ⟨(some 9), .mov, [.t 30], none⟩]
def c_sha_Of_r9 : List COper := a_sha_Of_r9
instance : Reg c_sha_Of_r9 a_sha_Of_r9 5 := ⟨rfl, rfl⟩
@[simp] def a_sha_Of_r10 : List COper := [
  ⟨(some 31), .mov, [.t 6], none⟩,
  ⟨(some 32), .mov, [.t 9], none⟩,
  ⟨(some 33), .bin .add, [.t 31, .t 32], none⟩,
  ⟨(some 34), .mov, [.t 8], none⟩,
  ⟨(some 35), .mov, [.t 9], none⟩,
  ⟨(some 36), .slice 1 true false, [.t 34, .t 35], none⟩,
  ⟨(some 6), .mov, [.t 33], none⟩,
  ⟨(some 8), .mov, [.t 36], none⟩]
def c_sha_Of_r10 : List COper := a_sha_Of_r10
instance : Reg c_sha_Of_r10 a_sha_Of_r10 8 := ⟨rfl, rfl⟩
@[simp] def a_sha_Of_r11 : List COper := [
  ⟨(some 37), .mov, [.t 6], none⟩,
  ⟨(some 38), .bin .eql, [.t 37, .c (.int .i64 64)], none⟩]
def c_sha_Of_r11 : List COper := a_sha_Of_r11
instance : Reg c_sha_Of_r11 a_sha_Of_r11 2 := ⟨rfl, rfl⟩
@[simp] def a_sha_Of_r12 : List COper := [
  ⟨(some 39), .sliceArr 64 1 false false, [.t 4], none⟩,
  ⟨(some 40), .call fn_sha_state_block, [.t 3, .t 39], none⟩]
def c_sha_Of_r12 : List COper := a_sha_Of_r12
instance : Reg c_sha_Of_r12 a_sha_Of_r12 2 := ⟨rfl, rfl⟩
@[simp] def a_sha_Of_r13 : List COper := [
  ⟨(some 6), .mov, [.c (.int .i64 0)], none⟩]
def c_sha_Of_r13 : List COper := a_sha_Of_r13
instance : Reg c_sha_Of_r13 a_sha_Of_r13 1 := ⟨rfl, rfl⟩
@[simp] def a_sha_Of_r14 : List COper := [
  ⟨(some 41), .bin .add, [.t 16, .c (.int .i64 1)], none⟩,
  ⟨(some 16), .mov, [.t 41], none⟩]
def c_sha_Of_r14 : List COper := a_sha_Of_r14
instance : Reg c_sha_Of_r14 a_sha_Of_r14 2 := ⟨rfl, rfl⟩
@[simp] def a_sha_Of_r15 : List COper := [
  ⟨(some 42), .mov, [.t 6], none⟩,
  ⟨(some 43), .iaddrArr 64 1 false, [.t 4, .t 42], none⟩,
  ⟨none, .store false 1, [.t 43, .c (.int .u8 128)], none⟩]
def c_sha_Of_r15 : List COper := a_sha_Of_r15
instance : Reg c_sha_Of_r15 a_sha_Of_r15 3 := ⟨rfl, rfl⟩
@[simp] def a_sha_Of_r16 : List COper := [
  ⟨(some 44), .mov, [.t 6], none⟩,
  ⟨(some 45), .bin .add, [.t 44, .c (.int .i64 1)], none⟩,
  ⟨(some 46), .sliceArr 64 1 true false, [.t 4, .t 45], none⟩,
  ⟨none, .clear 1 (.v (.int .u8 0)), [.t 46], none⟩]
def c_sha_Of_r16 : List COper := a_sha_Of_r16
instance : Reg c_sha_Of_r16 a_sha_Of_r16 4 := ⟨rfl, rfl⟩
@[simp] def a_sha_Of_r17 : List COper := [
  ⟨(some 47), .mov, [.t 6], none⟩,
  ⟨(some 48), .bin .geq, [.t 47, .c (.int .i64 56)], none⟩]
def c_sha_Of_r17 : List COper := a_sha_Of_r17
instance : Reg c_sha_Of_r17 a_sha_Of_r17 2 := ⟨rfl, rfl⟩
@[simp] def a_sha_Of_r18 : List COper := [
  ⟨(some 49), .sliceArr 64 1 false false, [.t 4], none⟩,
  ⟨(some 50), .call fn_sha_state_block, [.t 3, .t 49], none⟩]
def c_sha_Of_r18 : List COper := a_sha_Of_r18
instance : Reg c_sha_Of_r18 a_sha_Of_r18 2 := ⟨rfl, rfl⟩
@[simp] def a_sha_Of_r19 : List COper := [
  ⟨(some 51), .sliceArr 64 1 false false, [.t 4], none⟩,
  ⟨none, .clear 1 (.v (.int .u8 0)), [.t 51], none⟩]
def c_sha_Of_r19 : List COper := a_sha_Of_r19
instance : Reg c_sha_Of_r19 a_sha_Of_r19 2 := ⟨rfl, rfl⟩
@[simp] def a_sha_Of_r20 : List COper := [
  ⟨(some 52), .mov, [.c (.int .i64 0)], none⟩]
def c_sha_Of_r20 : List COper := a_sha_Of_r20
instance : Reg c_sha_Of_r20 a_sha_Of_r20 1 := ⟨rfl, rfl⟩
@[simp] def a_sha_Of_r21 : List COper := [
  ⟨(some 53), .bin .lss, [.t 52, .c (.int .i64 8)], none⟩]
def c_sha_Of_r21 : List COper := a_sha_Of_r21
instance : Reg c_sha_Of_r21 a_sha_Of_r21 1 := ⟨rfl, rfl⟩
@[simp] def a_sha_Of_r22 : List COper := [
  ⟨(some 54), .mov, [.t 52], none⟩,
  ⟨(some 10), .mov, [.t 54], none⟩]
def c_sha_Of_r22 : List COper := a_sha_Of_r22
instance : Reg c_sha_Of_r22 a_sha_Of_r22 2 := ⟨rfl, rfl⟩
@[simp] def a_sha_Of_r23 : List COper := [
  ⟨(some 55), .mov, [.t 10], none⟩,
  ⟨(some 56), .bin .add, [.c (.int .i64 56), .t 55], none⟩,
  ⟨(some 57), .mov, [.t 5], none⟩,
  ⟨(some 58), .convI .u64, [.t 57], none⟩,
  ⟨(some 59), .bin .shl, [.t 58, .c (.int .u64 3)], none⟩,
  ⟨(some 60), .mov, [.t 10], none⟩,
  ⟨(some 61), .bin .mul, [.c (.int .i64 8), .t 60], none⟩,
  ⟨(some 62), .bin .sub, [.c (.int .i64 56), .t 61], none⟩,
  ⟨(some 63), .bin .shr, [.t 59, .t 62], none⟩,
  ⟨(some 64), .convI .u8, [.t 63], none⟩,
  ⟨(some 65), .iaddrArr 64 1 false, [.t 4, .t 56], none⟩,
  ⟨none, .store false 1, [.t 65, .t 64], none⟩]
def c_sha_Of_r23 : List COper := a_sha_Of_r23
instance : Reg c_sha_Of_r23 a_sha_Of_r23 12 := ⟨rfl, rfl⟩
@[simp] def a_sha_Of_r24 : List COper := [
  ⟨(some 66), .bin .add, [.t 52, .c (.int .i64 1)], none⟩,
  ⟨(some 52), .mov, [.t 66], none⟩]
def c_sha_Of_r24 : List COper := a_sha_Of_r24
instance : Reg c_sha_Of_r24 a_sha_Of_r24 2 := ⟨rfl, rfl⟩
@[simp] def a_sha_Of_r25 : List COper := [
  ⟨(some 67), .sliceArr 64 1 false false, [.t 4], none⟩,
  ⟨(some 68), .call fn_sha_state_block, [.t 3, .t 67], none⟩]
def c_sha_Of_r25 : List COper := a_sha_Of_r25
instance : Reg c_sha_Of_r25 a_sha_Of_r25 2 := ⟨rfl, rfl⟩
@[simp] def a_sha_Of_r26 : List COper := [
  ⟨(some 11), .alloc (.arr 1 (rep 32 (.v (.int .u8 0)))), [], none⟩]
def c_sha_Of_r26 : List COper := a_sha_Of_r26
instance : Reg c_sha_Of_r26 a_sha_Of_r26 1 := ⟨rfl, rfl⟩
@[simp] def a_sha_Of_r27 : List COper := [
  ⟨(some 69), .mov, [.c (.int .i64 0)], none⟩]
def c_sha_Of_r27 : List COper := a_sha_Of_r27
instance : Reg c_sha_Of_r27 a_sha_Of_r27 1 := ⟨rfl, rfl⟩
@[simp] def a_sha_Of_r28 : List COper := [
  ⟨(some 70), .bin .lss, [.t 69, .c (.int .i64 32)], none⟩]
def c_sha_Of_r28 : List COper := a_sha_Of_r28
instance : Reg c_sha_Of_r28 a_sha_Of_r28 1 := ⟨rfl, rfl⟩
@[simp] def a_sha_Of_r29 : List COper := [
  ⟨(some 71), .mov, [.t 69], none⟩,
  ⟨(some 12), .mov, [.t 71], none⟩]
def c_sha_Of_r29 : List COper := a_sha_Of_r29
instance : Reg c_sha_Of_r29 a_sha_Of_r29 2 := ⟨rfl, rfl⟩
@[simp] def a_sha_Of_r30 : List COper := [
  ⟨(some 72), .mov, [.t 12], none⟩,
  ⟨(some 73), .mov, [.t 12], none⟩,
  ⟨(some 74), .bin .quo, [.t 73, .c (.int .i64 4)], none⟩,
  ⟨(some 75), .iaddrArr 8 1 false, [.t 3, .t 74], none⟩,
  ⟨(some 76), .load false 1, [.t 75], none⟩,
  ⟨(some 77), .mov, [.t 12], none⟩,
  ⟨(some 78), .bin .rem, [.t 77, .c (.int .i64 4)], none⟩,
  ⟨(some 79), .bin .mul, [.c (.int .i64 8), .t 78], none⟩,
  ⟨(some 80), .bin .sub, [.c (.int .i64 24), .t 79], none⟩,
  ⟨(some 81), .bin .shr, [.t 76, .t 80], none⟩,
  ⟨(some 82), .convI .u8, [.t 81], none⟩,
  ⟨(some 83), .iaddrArr 32 1 false, [.t 11, .t 72], none⟩,
  ⟨none, .store false 1, [.t 83, .t 82], none⟩]
def c_sha_Of_r30 : List COper := a_sha_Of_r30
instance : Reg c_sha_Of_r30 a_sha_Of_r30 13 := ⟨rfl, rfl⟩
@[simp] def a_sha_Of_r31 : List COper := [
  ⟨(some 84), .bin .add, [.t 69, .c (.int .i64 1)], none⟩,
  ⟨(some 69), .mov, [.t 84], none⟩]
def c_sha_Of_r31 : List COper := a_sha_Of_r31
instance : Reg c_sha_Of_r31 a_sha_Of_r31 2 := ⟨rfl, rfl⟩
@[simp] def a_sha_Of_r32 : List COper := [
  ⟨(some 85), .load true 32, [.t 11], none⟩,
  ⟨none, .store true 32, [.t 2, .t 85], none⟩]
def c_sha_Of_r32 : List COper := a_sha_Of_r32
instance : Reg c_sha_Of_r32 a_sha_Of_r32 2 := ⟨rfl, rfl⟩
@[simp] def c_sha_Of : CCode :=
  .seq (.region c_sha_Of_r0 none [0, 2]) (.seq (.region c_sha_Of_r1 none [0, 2, 3]) (.seq (.region c_sha_Of_r2 none [0, 2, 3, 4]) (.seq (.region c_sha_Of_r3 none [0, 2, 3, 4, 5, 6]) (.seq (.seq (.region c_sha_Of_r4 none [2, 3, 4, 5, 6, 14, 15, 16]) (.block 0 (.loop (.seq (.region c_sha_Of_r5 none [2, 3, 4, 5, 6, 14, 15, 16, 17]) (.seq (.cond (.t 17) (.skip) (.exit 0)) (.seq (.block 1 (.seq (.region c_sha_Of_r6 none [2, 3, 4, 5, 6, 8, 14, 15, 16]) (.seq (.region c_sha_Of_r7 none [2, 3, 4, 5, 6, 8, 14, 15, 16]) (.block 2 (.loop (.seq (.seq (.region c_sha_Of_r8 none [2, 3, 4, 5, 6, 8, 14, 15, 16, 26]) (.cond (.t 26) (.skip) (.exit 2))) (.block 3 (.seq (.region c_sha_Of_r9 none [2, 3, 4, 5, 6, 8, 9, 14, 15, 16]) (.seq (.region c_sha_Of_r10 (some ([0, 0, 3, 0, 0, 24, 7, 127], [])) [2, 3, 4, 5, 6, 8, 14, 15, 16]) (.seq (.region c_sha_Of_r11 none [2, 3, 4, 5, 6, 8, 14, 15, 16, 38]) (.cond (.t 38) (.seq (.region c_sha_Of_r12 none [2, 3, 4, 5, 8, 14, 15, 16]) (.region c_sha_Of_r13 none [2, 3, 4, 5, 6, 8, 14, 15, 16])) (.skip)))))))))))) (.region c_sha_Of_r14 none [2, 3, 4, 5, 6, 14, 15, 16]))))))) (.seq (.region c_sha_Of_r15 none [2, 3, 4, 5, 6]) (.seq (.region c_sha_Of_r16 none [2, 3, 4, 5, 6]) (.seq (.seq (.region c_sha_Of_r17 none [2, 3, 4, 5, 48]) (.cond (.t 48) (.seq (.region c_sha_Of_r18 none [2, 3, 4, 5]) (.region c_sha_Of_r19 none [2, 3, 4, 5])) (.skip))) (.seq (.seq (.region c_sha_Of_r20 none [2, 3, 4, 5, 52]) (.block 4 (.loop (.seq (.region c_sha_Of_r21 none [2, 3, 4, 5, 52, 53]) (.seq (.cond (.t 53) (.skip) (.exit 4)) (.seq (.block 5 (.seq (.region c_sha_Of_r22 none [2, 3, 4, 5, 10, 52]) (.region c_sha_Of_r23 none [2, 3, 4, 5, 52]))) (.region c_sha_Of_r24 none [2, 3, 4, 5, 52]))))))) (.seq (.region c_sha_Of_r25 none [2, 3]) (.seq (.region c_sha_Of_r26 none [2, 3, 11]) (.seq (.seq (.region c_sha_Of_r27 none [2, 3, 11, 69]) (.block 6 (.loop (.seq (.region c_sha_Of_r28 none [2, 3, 11, 69, 70]) (.seq (.cond (.t 70) (.skip) (.exit 6)) (.seq (.block 7 (.seq (.region c_sha_Of_r29 none [2, 3, 11, 12, 69]) (.region c_sha_Of_r30 none [2, 3, 11, 69]))) (.region c_sha_Of_r31 none [2, 3, 11, 69]))))))) (.seq (.region c_sha_Of_r32 none [2]) (.ret)))))))))))))
@[simp] def R_sha_Of : List CRes := [.cell 2 true 32]
theorem k_sha_Of : chkFn Tryd.prog fn_sha_Of c_sha_Of R_sha_Of 1 = true := by kernel_rfl
/-! wapentake/code.Read -/
@[simp] def a_code_Read_r0 : List COper := [
  ⟨(some 2), .mov, [.c (.pointer none)], none⟩]
def c_code_Read_r0 : List COper := a_code_Read_r0
instance : Reg c_code_Read_r0 a_code_Read_r0 1 := ⟨rfl, rfl⟩
@[simp] def a_code_Read_r1 : List COper := [
  ⟨(some 3), .bslice 1 0 (.v (.int .u8 0)) [], [], none⟩,
  ⟨(some 4), .mov, [.t 0], none⟩,
  ⟨(some 5), .app 1 1, [.t 3, .t 4], none⟩,
  ⟨(some 6), .build [.v (.slice none 0 0), .v (.bool false)] [0], [.t 5], none⟩,
  ⟨(some 7), .box, [.t 6], none⟩,
  ⟨(some 2), .mov, [.t 7], none⟩]
def c_code_Read_r1 : List COper := a_code_Read_r1
instance : Reg c_code_Read_r1 a_code_Read_r1 6 := ⟨rfl, rfl⟩
@[simp] def c_code_Read : CCode :=
  .seq (.region c_code_Read_r0 none [0]) (.seq (.region c_code_Read_r1 none [2]) (.ret))
@[simp] def R_code_Read : List CRes := [.tmp 2]
theorem k_code_Read : chkFn Tryd.prog fn_code_Read c_code_Read R_code_Read 1 = true := by kernel_rfl
/-! (*wapentake/code.Reader).Digest -/
@[simp] def a_code_Reader_Digest_r0 : List COper := [
  ⟨(some 2), .alloc (.arr 1 (rep 32 (.v (.int .u8 0)))), [], none⟩]
def c_code_Reader_Digest_r0 : List COper := a_code_Reader_Digest_r0
instance : Reg c_code_Reader_Digest_r0 a_code_Reader_Digest_r0 1 := ⟨rfl, rfl⟩
@[simp] def a_code_Reader_Digest_r1 : List COper := [
  ⟨(some 3), .alloc (.arr 1 (rep 32 (.v (.int .u8 0)))), [], none⟩]
def c_code_Reader_Digest_r1 : List COper := a_code_Reader_Digest_r1
instance : Reg c_code_Reader_Digest_r1 a_code_Reader_Digest_r1 1 := ⟨rfl, rfl⟩
@[simp] def a_code_Reader_Digest_r2 : List COper := [
  ⟨(some 4), .sliceArr 32 1 false false, [.t 3], none⟩,
  ⟨(some 5), .mov, [.t 0], none⟩,
  ⟨(some 6), .call fn_code_Reader_take, [.t 5, .c (.int .i64 32)], none⟩,
  ⟨(some 7), .copy 1, [.t 4, .t 6], none⟩]
def c_code_Reader_Digest_r2 : List COper := a_code_Reader_Digest_r2
instance : Reg c_code_Reader_Digest_r2 a_code_Reader_Digest_r2 4 := ⟨rfl, rfl⟩
@[simp] def a_code_Reader_Digest_r3 : List COper := [
  ⟨(some 8), .load true 32, [.t 3], none⟩,
  ⟨none, .store true 32, [.t 2, .t 8], none⟩]
def c_code_Reader_Digest_r3 : List COper := a_code_Reader_Digest_r3
instance : Reg c_code_Reader_Digest_r3 a_code_Reader_Digest_r3 2 := ⟨rfl, rfl⟩
@[simp] def c_code_Reader_Digest : CCode :=
  .seq (.region c_code_Reader_Digest_r0 none [0, 2]) (.seq (.region c_code_Reader_Digest_r1 none [0, 2, 3]) (.seq (.region c_code_Reader_Digest_r2 (some ([0, 0, 2, 7], [])) [2, 3]) (.seq (.region c_code_Reader_Digest_r3 none [2]) (.ret))))
@[simp] def R_code_Reader_Digest : List CRes := [.cell 2 true 32]
theorem k_code_Reader_Digest : chkFn Tryd.prog fn_code_Reader_Digest c_code_Reader_Digest R_code_Reader_Digest 1 = true := by kernel_rfl
/-! (*wapentake/code.Reader).In -/
@[simp] def a_code_Reader_In_r0 : List COper := [
  ⟨(some 6), .mov, [.c (.int .i64 0)], none⟩]
def c_code_Reader_In_r0 : List COper := a_code_Reader_In_r0
instance : Reg c_code_Reader_In_r0 a_code_Reader_In_r0 1 := ⟨rfl, rfl⟩
@[simp] def a_code_Reader_In_r1 : List COper := [
  ⟨(some 8), .mov, [.t 0], none⟩,
  ⟨(some 9), .call fn_code_Reader_Num, [.t 8], none⟩,
  ⟨(some 7), .mov, [.t 9], none⟩]
def c_code_Reader_In_r1 : List COper := a_code_Reader_In_r1
instance : Reg c_code_Reader_In_r1 a_code_Reader_In_r1 3 := ⟨rfl, rfl⟩
@[simp] def a_code_Reader_In_r2 : List COper := [
  ⟨(some 10), .mov, [.t 0], none⟩,
  ⟨(some 11), .eqp false, [.t 10, .c (.pointer none)], none⟩,
  ⟨(some 12), .mov, [.t 11], none⟩,
  ⟨(some 13), .mov, [.t 7], (some (12, false))⟩,
  ⟨(some 14), .mov, [.t 1], (some (12, false))⟩,
  ⟨(some 15), .bin .geq, [.t 13, .t 14], (some (12, false))⟩,
  ⟨(some 16), .mov, [.t 15], (some (12, false))⟩,
  ⟨(some 17), .mov, [.t 7], (some (16, true))⟩,
  ⟨(some 18), .mov, [.t 2], (some (16, true))⟩,
  ⟨(some 19), .bin .leq, [.t 17, .t 18], (some (16, true))⟩,
  ⟨(some 20), .pick, [.t 16, .t 19, .c (.bool false)], (some (12, false))⟩,
  ⟨(some 21), .mov, [.t 20], (some (12, false))⟩,
  ⟨(some 22), .mov, [.t 0], (some (21, true))⟩,
  ⟨(some 23), .nilc, [.t 22], (some (21, true))⟩,
  ⟨(some 24), .faddr 1 1 false, [.t 23], (some (21, true))⟩,
  ⟨(some 25), .load false 1, [.t 24], (some (21, true))⟩,
  ⟨(some 26), .not, [.t 25], (some (21, true))⟩,
  ⟨(some 27), .pick, [.t 21, .t 26, .c (.bool false)], (some (12, false))⟩,
  ⟨(some 28), .pick, [.t 12, .c (.bool true), .t 27], none⟩]
def c_code_Reader_In_r2 : List COper := a_code_Reader_In_r2
instance : Reg c_code_Reader_In_r2 a_code_Reader_In_r2 19 := ⟨rfl, rfl⟩
@[simp] def a_code_Reader_In_r3 : List COper := [
  ⟨(some 29), .mov, [.t 7], none⟩,
  ⟨(some 6), .mov, [.t 29], none⟩]
def c_code_Reader_In_r3 : List COper := a_code_Reader_In_r3
instance : Reg c_code_Reader_In_r3 a_code_Reader_In_r3 2 := ⟨rfl, rfl⟩
@[simp] def a_code_Reader_In_r4 : List COper := [
  ⟨(some 30), .mov, [.t 0], none⟩,
  ⟨(some 31), .mov, [.t 0], none⟩,
  ⟨(some 32), .nilc, [.t 30], none⟩,
  ⟨(some 33), .faddr 1 1 false, [.t 32], none⟩,
  ⟨none, .store false 1, [.t 33, .c (.bool true)], none⟩,
  ⟨(some 34), .nilc, [.t 31], none⟩,
  ⟨(some 35), .faddr 0 1 false, [.t 34], none⟩,
  ⟨none, .store false 1, [.t 35, .c (.slice none 0 0)], none⟩]
def c_code_Reader_In_r4 : List COper := a_code_Reader_In_r4
instance : Reg c_code_Reader_In_r4 a_code_Reader_In_r4 8 := ⟨rfl, rfl⟩
@[simp] def a_code_Reader_In_r5 : List COper := [
  ⟨(some 6), .mov, [.c (.int .i64 0)], none⟩]
def c_code_Reader_In_r5 : List COper := a_code_Reader_In_r5
instance : Reg c_code_Reader_In_r5 a_code_Reader_In_r5 1 := ⟨rfl, rfl⟩
@[simp] def c_code_Reader_In : CCode :=
  .seq (.region c_code_Reader_In_r0 none [0, 1, 2]) (.seq (.region c_code_Reader_In_r1 none [0, 1, 2, 7]) (.seq (.seq (.region c_code_Reader_In_r2 none [0, 7, 28]) (.cond (.t 28) (.seq (.region c_code_Reader_In_r3 none [6]) (.ret)) (.skip))) (.seq (.region c_code_Reader_In_r4 none []) (.seq (.region c_code_Reader_In_r5 none [6]) (.ret)))))
@[simp] def R_code_Reader_In : List CRes := [.tmp 6]
theorem k_code_Reader_In : chkFn Tryd.prog fn_code_Reader_In c_code_Reader_In R_code_Reader_In 3 = true := by kernel_rfl
/-! (*wapentake/code.Reader).Text -/
@[simp] def a_code_Reader_Text_r0 : List COper := [
  ⟨(some 4), .mov, [.c (.string (mkS []))], none⟩]
def c_code_Reader_Text_r0 : List COper := a_code_Reader_Text_r0
instance : Reg c_code_Reader_Text_r0 a_code_Reader_Text_r0 1 := ⟨rfl, rfl⟩
@[simp] def a_code_Reader_Text_r1 : List COper := [
  ⟨(some 5), .mov, [.c (.int .i64 0)], none⟩]
def c_code_Reader_Text_r1 : List COper := a_code_Reader_Text_r1
instance : Reg c_code_Reader_Text_r1 a_code_Reader_Text_r1 1 := ⟨rfl, rfl⟩
@[simp] def a_code_Reader_Text_r2 : List COper := [
  ⟨(some 8), .mov, [.t 0], none⟩,
  ⟨(some 9), .call fn_code_Reader_take, [.t 8, .c (.int .i64 4)], none⟩,
  ⟨(some 10), .len, [.t 9], none⟩,
  ⟨(some 11), .mov, [.c (.int .i64 0)], none⟩]
def c_code_Reader_Text_r2 : List COper := a_code_Reader_Text_r2
instance : Reg c_code_Reader_Text_r2 a_code_Reader_Text_r2 4 := ⟨rfl, rfl⟩
@[simp] def a_code_Reader_Text_r3 : List COper := [
  ⟨(some 12), .bin .lss, [.t 11, .t 10], none⟩]
def c_code_Reader_Text_r3 : List COper := a_code_Reader_Text_r3
instance : Reg c_code_Reader_Text_r3 a_code_Reader_Text_r3 1 := ⟨rfl, rfl⟩
@[simp] def a_code_Reader_Text_r4 : List COper := [
  ⟨(some 13), .iaddr 1, [.t 9, .t 11], none⟩,
  ⟨(some 14), .load false 1, [.t 13], none⟩,
  ⟨(some 7), .mov, [.t 14], none⟩]
def c_code_Reader_Text_r4 : List COper := a_code_Reader_Text_r4
instance : Reg c_code_Reader_Text_r4 a_code_Reader_Text_r4 3 := ⟨rfl, rfl⟩
@[simp] def a_code_Reader_Text_r5 : List COper := [
  ⟨(some 15), .mov, [.t 5], none⟩,
  ⟨(some 16), .bin .shl, [.t 15, .c (.int .u64 8)], none⟩,
  ⟨(some 17), .mov, [.t 7], none⟩,
  ⟨(some 18), .convI .i64, [.t 17], none⟩,
  ⟨(some 19), .bin .or, [.t 16, .t 18], none⟩,
  ⟨(some 5), .mov, [.t 19], none⟩]
def c_code_Reader_Text_r5 : List COper := a_code_Reader_Text_r5
instance : Reg c_code_Reader_Text_r5 a_code_Reader_Text_r5 6 := ⟨rfl, rfl⟩
@[simp] def a_code_Reader_Text_r6 : List COper := [
  ⟨(some 20), .bin .add, [.t 11, .c (.int .i64 1)], none⟩,
  ⟨(some 11), .mov, [.t 20], none⟩]
def c_code_Reader_Text_r6 : List COper := a_code_Reader_Text_r6
instance : Reg c_code_Reader_Text_r6 a_code_Reader_Text_r6 2 := ⟨rfl, rfl⟩
@[simp] def a_code_Reader_Text_r7 : List COper := [
  ⟨(some 21), .mov, [.t 5], none⟩,
  ⟨(some 22), .mov, [.t 1], none⟩,
  ⟨(some 23), .bin .gtr, [.t 21, .t 22], none⟩]
def c_code_Reader_Text_r7 : List COper := a_code_Reader_Text_r7
instance : Reg c_code_Reader_Text_r7 a_code_Reader_Text_r7 3 := ⟨rfl, rfl⟩
@[simp] def a_code_Reader_Text_r8 : List COper := [
  ⟨(some 5), .mov, [.c (.int .i64 (-1))], none⟩]
def c_code_Reader_Text_r8 : List COper := a_code_Reader_Text_r8
instance : Reg c_code_Reader_Text_r8 a_code_Reader_Text_r8 1 := ⟨rfl, rfl⟩
@[simp] def a_code_Reader_Text_r9 : List COper := [
  ⟨(some 24), .mov, [.t 0], none⟩,
  ⟨(some 25), .mov, [.t 5], none⟩,
  ⟨(some 26), .call fn_code_Reader_take, [.t 24, .t 25], none⟩,
  ⟨(some 27), .convS, [.t 26], none⟩,
  ⟨(some 4), .mov, [.t 27], none⟩]
def c_code_Reader_Text_r9 : List COper := a_code_Reader_Text_r9
instance : Reg c_code_Reader_Text_r9 a_code_Reader_Text_r9 5 := ⟨rfl, rfl⟩
@[simp] def c_code_Reader_Text : CCode :=
  .seq (.region c_code_Reader_Text_r0 none [0, 1]) (.seq (.region c_code_Reader_Text_r1 none [0, 1, 5]) (.seq (.seq (.region c_code_Reader_Text_r2 none [0, 1, 5, 9, 10, 11]) (.block 0 (.loop (.seq (.region c_code_Reader_Text_r3 none [0, 1, 5, 9, 10, 11, 12]) (.seq (.cond (.t 12) (.skip) (.exit 0)) (.seq (.block 1 (.seq (.region c_code_Reader_Text_r4 none [0, 1, 5, 7, 9, 10, 11]) (.region c_code_Reader_Text_r5 none [0, 1, 5, 9, 10, 11]))) (.region c_code_Reader_Text_r6 none [0, 1, 5, 9, 10, 11]))))))) (.seq (.seq (.region c_code_Reader_Text_r7 none [0, 5, 23]) (.cond (.t 23) (.region c_code_Reader_Text_r8 none [0, 5]) (.skip))) (.seq (.region c_code_Reader_Text_r9 none [4]) (.ret)))))
@[simp] def R_code_Reader_Text : List CRes := [.tmp 4]
theorem k_code_Reader_Text : chkFn Tryd.prog fn_code_Reader_Text c_code_Reader_Text R_code_Reader_Text 2 = true := by kernel_rfl
/-! (*wapentake/code.Reader).End -/
@[simp] def a_code_Reader_End_r0 : List COper := [
  ⟨(some 2), .mov, [.c (.bool false)], none⟩]
def c_code_Reader_End_r0 : List COper := a_code_Reader_End_r0
instance : Reg c_code_Reader_End_r0 a_code_Reader_End_r0 1 := ⟨rfl, rfl⟩
@[simp] def a_code_Reader_End_r1 : List COper := [
  ⟨(some 3), .mov, [.t 0], none⟩,
  ⟨(some 4), .call fn_code_Reader_Good, [.t 3], none⟩,
  ⟨(some 5), .mov, [.t 4], none⟩,
  ⟨(some 6), .mov, [.t 0], (some (5, true))⟩,
  ⟨(some 7), .nilc, [.t 6], (some (5, true))⟩,
  ⟨(some 8), .faddr 0 1 false, [.t 7], (some (5, true))⟩,
  ⟨(some 9), .load false 1, [.t 8], (some (5, true))⟩,
  ⟨(some 10), .len, [.t 9], (some (5, true))⟩,
  ⟨(some 11), .bin .eql, [.t 10, .c (.int .i64 0)], (some (5, true))⟩,
  ⟨(some 12), .pick, [.t 5, .t 11, .c (.bool false)], none⟩,
  ⟨(some 2), .mov, [.t 12], none⟩]
def c_code_Reader_End_r1 : List COper := a_code_Reader_End_r1
instance : Reg c_code_Reader_End_r1 a_code_Reader_End_r1 11 := ⟨rfl, rfl⟩
@[simp] def c_code_Reader_End : CCode :=
  .seq (.region c_code_Reader_End_r0 none [0]) (.seq (.region c_code_Reader_End_r1 none [2]) (.ret))
@[simp] def R_code_Reader_End : List CRes := [.tmp 2]
theorem k_code_Reader_End : chkFn Tryd.prog fn_code_Reader_End c_code_Reader_End R_code_Reader_End 1 = true := by kernel_rfl
/-! wapentake/sha.Pair -/
@[simp] def a_sha_Pair_r0 : List COper := [
  ⟨(some 4), .box, [.t 1], none⟩,
  ⟨(some 5), .box, [.t 2], none⟩,
  ⟨(some 6), .alloc (.arr 1 (rep 32 (.v (.int .u8 0)))), [], none⟩]
def c_sha_Pair_r0 : List COper := a_sha_Pair_r0
instance : Reg c_sha_Pair_r0 a_sha_Pair_r0 3 := ⟨rfl, rfl⟩
@[simp] def a_sha_Pair_r1 : List COper := [
  ⟨(some 7), .mov, [.t 0], none⟩,
  ⟨(some 8), .bslice 1 1 (.v (.int .u8 0)) [0], [.t 7], none⟩,
  ⟨(some 9), .sliceArr 32 1 false false, [.t 4], none⟩,
  ⟨(some 10), .sliceArr 32 1 false false, [.t 5], none⟩,
  ⟨(some 11), .bslice 1 3 (.v (.slice none 0 0)) [0, 1, 2], [.t 8, .t 9, .t 10], none⟩,
  ⟨(some 12), .call fn_sha_Of, [.t 11], none⟩,
  ⟨none, .store true 32, [.t 6, .t 12], none⟩]
def c_sha_Pair_r1 : List COper := a_sha_Pair_r1
instance : Reg c_sha_Pair_r1 a_sha_Pair_r1 7 := ⟨rfl, rfl⟩
@[simp] def c_sha_Pair : CCode :=
  .seq (.region c_sha_Pair_r0 none [0, 4, 5, 6]) (.seq (.region c_sha_Pair_r1 (some ([0, 1, 0, 0, 15, 31, 63], [])) [6]) (.ret))
@[simp] def R_sha_Pair : List CRes := [.cell 6 true 32]
theorem k_sha_Pair : chkFn Tryd.prog fn_sha_Pair c_sha_Pair R_sha_Pair 3 = true := by kernel_rfl
/-! wapentake/config.Read -/
@[simp] def a_config_Read_r0 : List COper := [
  ⟨(some 2), .alloc (.node [.v (.int .i64 0), .v (.slice none 0 0)]), [], none⟩]
def c_config_Read_r0 : List COper := a_config_Read_r0
instance : Reg c_config_Read_r0 a_config_Read_r0 1 := ⟨rfl, rfl⟩
@[simp] def a_config_Read_r1 : List COper := [
  ⟨(some 6), .mov, [.t 0], none⟩,
  ⟨(some 7), .call fn_code_Reader_In, [.t 6, .c (.int .i64 0), .c (.int .i64 1073741824)], none⟩,
  ⟨(some 8), .build [.v (.int .i64 0), .v (.slice none 0 0)] [0], [.t 7], none⟩,
  ⟨(some 3), .alloc (.node [.v (.int .i64 0), .v (.slice none 0 0)]), [], none⟩,
  ⟨none, .store true 2, [.t 3, .t 8], none⟩]
def c_config_Read_r1 : List COper := a_config_Read_r1
instance : Reg c_config_Read_r1 a_config_Read_r1 5 := ⟨rfl, rfl⟩
@[simp] def a_config_Read_r2 : List COper := [
  ⟨(some 4), .mov, [.c (.int .i64 0)], none⟩]
def c_config_Read_r2 : List COper := a_config_Read_r2
instance : Reg c_config_Read_r2 a_config_Read_r2 1 := ⟨rfl, rfl⟩
@[simp] def a_config_Read_r3 : List COper := [
  ⟨(some 9), .mov, [.t 0], none⟩,
  ⟨(some 10), .call fn_code_Reader_In, [.t 9, .c (.int .i64 1), .c (.int .i64 10)], none⟩,
  ⟨(some 11), .mov, [.c (.int .i64 0)], none⟩]
def c_config_Read_r3 : List COper := a_config_Read_r3
instance : Reg c_config_Read_r3 a_config_Read_r3 3 := ⟨rfl, rfl⟩
@[simp] def a_config_Read_r4 : List COper := [
  ⟨(some 12), .bin .lss, [.t 11, .t 10], none⟩]
def c_config_Read_r4 : List COper := a_config_Read_r4
instance : Reg c_config_Read_r4 a_config_Read_r4 1 := ⟨rfl, rfl⟩
@[simp] def a_config_Read_r5 : List COper := [
  ⟨(some 13), .mov, [.t 0], none⟩,
  ⟨(some 14), .mov, [.t 4], none⟩,
  ⟨(some 15), .bin .add, [.t 14, .c (.int .i64 1)], none⟩,
  ⟨(some 16), .call fn_code_Reader_In, [.t 13, .t 15, .c (.int .i64 63)], none⟩,
  ⟨(some 4), .mov, [.t 16], none⟩]
def c_config_Read_r5 : List COper := a_config_Read_r5
instance : Reg c_config_Read_r5 a_config_Read_r5 5 := ⟨rfl, rfl⟩
@[simp] def a_config_Read_r6 : List COper := [
  ⟨(some 17), .mov, [.t 0], none⟩,
  ⟨(some 18), .call fn_code_Reader_In, [.t 17, .c (.int .i64 0), .c (.int .i64 6)], none⟩,
  ⟨(some 5), .mov, [.t 18], none⟩]
def c_config_Read_r6 : List COper := a_config_Read_r6
instance : Reg c_config_Read_r6 a_config_Read_r6 3 := ⟨rfl, rfl⟩
@[simp] def a_config_Read_r7 : List COper := [
  ⟨(some 19), .faddr 1 1 false, [.t 3], none⟩,
  ⟨(some 20), .load false 1, [.t 19], none⟩,
  ⟨(some 21), .mov, [.t 4], none⟩,
  ⟨(some 22), .mov, [.t 0], none⟩,
  ⟨(some 23), .call fn_code_Reader_Digest, [.t 22], none⟩,
  ⟨(some 24), .mov, [.t 5], none⟩,
  ⟨(some 25), .build [.arr 1 (rep 32 (.v (.int .u8 0))), .v (.int .i64 0)] [0, 1], [.t 23, .t 24], none⟩,
  ⟨(some 26), .build [.v (.int .i64 0), .node [.arr 1 (rep 32 (.v (.int .u8 0))), .v (.int .i64 0)]] [0, 1], [.t 21, .t 25], none⟩,
  ⟨(some 27), .bslice 34 1 (.node [.v (.int .i64 0), .node [.arr 1 (rep 32 (.v (.int .u8 0))), .v (.int .i64 0)]]) [0], [.t 26], none⟩,
  ⟨(some 28), .app 34 48, [.t 20, .t 27], none⟩,
  ⟨(some 29), .faddr 1 1 false, [.t 3], none⟩,
  ⟨none, .store false 1, [.t 29, .t 28], none⟩]
def c_config_Read_r7 : List COper := a_config_Read_r7
instance : Reg c_config_Read_r7 a_config_Read_r7 12 := ⟨rfl, rfl⟩
@[simp] def a_config_Read_r8 : List COper := [
  ⟨(some 30), .bin .add, [.t 11, .c (.int .i64 1)], none⟩,
  ⟨(some 11), .mov, [.t 30], none⟩]
def c_config_Read_r8 : List COper := a_config_Read_r8
instance : Reg c_config_Read_r8 a_config_Read_r8 2 := ⟨rfl, rfl⟩
@[simp] def a_config_Read_r9 : List COper := [
  ⟨(some 31), .mov, [.t 0], none⟩,
  ⟨(some 32), .call fn_code_Reader_Good, [.t 31], none⟩,
  ⟨(some 33), .not, [.t 32], none⟩]
def c_config_Read_r9 : List COper := a_config_Read_r9
instance : Reg c_config_Read_r9 a_config_Read_r9 3 := ⟨rfl, rfl⟩
@[simp] def a_config_Read_r10 : List COper := [
  ⟨(some 34), .build [.v (.int .i64 0), .v (.slice none 0 0)] [], [], none⟩,
  ⟨none, .store true 2, [.t 2, .t 34], none⟩]
def c_config_Read_r10 : List COper := a_config_Read_r10
instance : Reg c_config_Read_r10 a_config_Read_r10 2 := ⟨rfl, rfl⟩
@[simp] def a_config_Read_r11 : List COper := [
  ⟨(some 35), .load true 2, [.t 3], none⟩,
  ⟨none, .store true 2, [.t 2, .t 35], none⟩]
def c_config_Read_r11 : List COper := a_config_Read_r11
instance : Reg c_config_Read_r11 a_config_Read_r11 2 := ⟨rfl, rfl⟩
@[simp] def c_config_Read : CCode :=
  .seq (.region c_config_Read_r0 none [0, 2]) (.seq (.region c_config_Read_r1 none [0, 2, 3]) (.seq (.region c_config_Read_r2 none [0, 2, 3, 4]) (.seq (.seq (.region c_config_Read_r3 none [0, 2, 3, 4, 10, 11]) (.block 0 (.loop (.seq (.region c_config_Read_r4 none [0, 2, 3, 4, 10, 11, 12]) (.seq (.cond (.t 12) (.skip) (.exit 0)) (.seq (.block 1 (.seq (.region c_config_Read_r5 none [0, 2, 3, 4, 10, 11]) (.seq (.region c_config_Read_r6 none [0, 2, 3, 4, 5, 10, 11]) (.region c_config_Read_r7 (some ([0, 1, 0, 0, 8, 0, 56, 124, 252, 511, 1023, 2047], [(1, 4), (1, 8)])) [0, 2, 3, 4, 10, 11])))) (.region c_config_Read_r8 none [0, 2, 3, 4, 10, 11]))))))) (.seq (.seq (.region c_config_Read_r9 none [2, 3, 33]) (.cond (.t 33) (.seq (.region c_config_Read_r10 none [2]) (.ret)) (.skip))) (.seq (.region c_config_Read_r11 none [2]) (.ret))))))
@[simp] def R_config_Read : List CRes := [.cell 2 true 2]
theorem k_config_Read : chkFn Tryd.prog fn_config_Read c_config_Read R_config_Read 1 = true := by kernel_rfl
/-! wapentake/request.ReadReply -/
@[simp] def a_request_ReadReply_r0 : List COper := [
  ⟨(some 2), .alloc (.node [.v (.int .i64 0), .v (.int .i64 0), .v (.int .i64 0), .v (.slice none 0 0)]), [], none⟩]
def c_request_ReadReply_r0 : List COper := a_request_ReadReply_r0
instance : Reg c_request_ReadReply_r0 a_request_ReadReply_r0 1 := ⟨rfl, rfl⟩
@[simp] def a_request_ReadReply_r1 : List COper := [
  ⟨(some 4), .mov, [.t 0], none⟩,
  ⟨(some 5), .call fn_code_Reader_In, [.t 4, .c (.int .i64 1), .c (.int .i64 64)], none⟩,
  ⟨(some 6), .mov, [.t 0], none⟩,
  ⟨(some 7), .call fn_code_Reader_In, [.t 6, .c (.int .i64 1), .c (.int .i64 1099511627776)], none⟩,
  ⟨(some 8), .mov, [.t 0], none⟩,
  ⟨(some 9), .call fn_code_Reader_In, [.t 8, .c (.int .i64 0), .c (.int .i64 1024)], none⟩,
  ⟨(some 10), .build [.v (.int .i64 0), .v (.int .i64 0), .v (.int .i64 0), .v (.slice none 0 0)] [0, 1, 2], [.t 5, .t 7, .t 9], none⟩,
  ⟨(some 3), .alloc (.node [.v (.int .i64 0), .v (.int .i64 0), .v (.int .i64 0), .v (.slice none 0 0)]), [], none⟩,
  ⟨none, .store true 4, [.t 3, .t 10], none⟩]
def c_request_ReadReply_r1 : List COper := a_request_ReadReply_r1
instance : Reg c_request_ReadReply_r1 a_request_ReadReply_r1 9 := ⟨rfl, rfl⟩
@[simp] def a_request_ReadReply_r2 : List COper := [
  ⟨(some 11), .mov, [.t 0], none⟩,
  ⟨(some 12), .call fn_code_Reader_In, [.t 11, .c (.int .i64 0), .c (.int .i64 256)], none⟩,
  ⟨(some 13), .mov, [.c (.int .i64 0)], none⟩]
def c_request_ReadReply_r2 : List COper := a_request_ReadReply_r2
instance : Reg c_request_ReadReply_r2 a_request_ReadReply_r2 3 := ⟨rfl, rfl⟩
@[simp] def a_request_ReadReply_r3 : List COper := [
  ⟨(some 14), .bin .lss, [.t 13, .t 12], none⟩]
def c_request_ReadReply_r3 : List COper := a_request_ReadReply_r3
instance : Reg c_request_ReadReply_r3 a_request_ReadReply_r3 1 := ⟨rfl, rfl⟩
@[simp] def a_request_ReadReply_r4 : List COper := [
  ⟨(some 15), .faddr 3 1 false, [.t 3], none⟩,
  ⟨(some 16), .load false 1, [.t 15], none⟩,
  ⟨(some 17), .mov, [.t 0], none⟩,
  ⟨(some 18), .call fn_code_Reader_Text, [.t 17, .c (.int .i64 1024)], none⟩,
  ⟨(some 19), .bslice 1 1 (.v (.string (mkS []))) [0], [.t 18], none⟩,
  ⟨(some 20), .app 1 16, [.t 16, .t 19], none⟩,
  ⟨(some 21), .faddr 3 1 false, [.t 3], none⟩,
  ⟨none, .store false 1, [.t 21, .t 20], none⟩]
def c_request_ReadReply_r4 : List COper := a_request_ReadReply_r4
instance : Reg c_request_ReadReply_r4 a_request_ReadReply_r4 8 := ⟨rfl, rfl⟩
@[simp] def a_request_ReadReply_r5 : List COper := [
  ⟨(some 22), .bin .add, [.t 13, .c (.int .i64 1)], none⟩,
  ⟨(some 13), .mov, [.t 22], none⟩]
def c_request_ReadReply_r5 : List COper := a_request_ReadReply_r5
instance : Reg c_request_ReadReply_r5 a_request_ReadReply_r5 2 := ⟨rfl, rfl⟩
@[simp] def a_request_ReadReply_r6 : List COper := [
  ⟨(some 23), .mov, [.t 0], none⟩,
  ⟨(some 24), .call fn_code_Reader_Good, [.t 23], none⟩,
  ⟨(some 25), .not, [.t 24], none⟩]
def c_request_ReadReply_r6 : List COper := a_request_ReadReply_r6
instance : Reg c_request_ReadReply_r6 a_request_ReadReply_r6 3 := ⟨rfl, rfl⟩
@[simp] def a_request_ReadReply_r7 : List COper := [
  ⟨(some 26), .build [.v (.int .i64 0), .v (.int .i64 0), .v (.int .i64 0), .v (.slice none 0 0)] [], [], none⟩,
  ⟨none, .store true 4, [.t 2, .t 26], none⟩]
def c_request_ReadReply_r7 : List COper := a_request_ReadReply_r7
instance : Reg c_request_ReadReply_r7 a_request_ReadReply_r7 2 := ⟨rfl, rfl⟩
@[simp] def a_request_ReadReply_r8 : List COper := [
  ⟨(some 27), .load true 4, [.t 3], none⟩,
  ⟨none, .store true 4, [.t 2, .t 27], none⟩]
def c_request_ReadReply_r8 : List COper := a_request_ReadReply_r8
instance : Reg c_request_ReadReply_r8 a_request_ReadReply_r8 2 := ⟨rfl, rfl⟩
@[simp] def c_request_ReadReply : CCode :=
  .seq (.region c_request_ReadReply_r0 none [0, 2]) (.seq (.region c_request_ReadReply_r1 none [0, 2, 3]) (.seq (.seq (.region c_request_ReadReply_r2 none [0, 2, 3, 12, 13]) (.block 0 (.loop (.seq (.region c_request_ReadReply_r3 none [0, 2, 3, 12, 13, 14]) (.seq (.cond (.t 14) (.skip) (.exit 0)) (.seq (.block 1 (.region c_request_ReadReply_r4 (some ([0, 1, 0, 4, 12, 31, 63, 127], [(1, 3), (1, 4)])) [0, 2, 3, 12, 13])) (.region c_request_ReadReply_r5 none [0, 2, 3, 12, 13]))))))) (.seq (.seq (.region c_request_ReadReply_r6 none [2, 3, 25]) (.cond (.t 25) (.seq (.region c_request_ReadReply_r7 none [2]) (.ret)) (.skip))) (.seq (.region c_request_ReadReply_r8 none [2]) (.ret)))))
@[simp] def R_request_ReadReply : List CRes := [.cell 2 true 4]
theorem k_request_ReadReply : chkFn Tryd.prog fn_request_ReadReply c_request_ReadReply R_request_ReadReply 1 = true := by kernel_rfl
/-! wapentake/tree.up -/
@[simp] def a_tree_up_r0 : List COper := [
  ⟨(some 2), .mov, [.c (.slice none 0 0)], none⟩]
def c_tree_up_r0 : List COper := a_tree_up_r0
instance : Reg c_tree_up_r0 a_tree_up_r0 1 := ⟨rfl, rfl⟩
@[simp] def a_tree_up_r1 : List COper := [
  ⟨(some 3), .mov, [.c (.slice none 0 0)], none⟩]
def c_tree_up_r1 : List COper := a_tree_up_r1
instance : Reg c_tree_up_r1 a_tree_up_r1 1 := ⟨rfl, rfl⟩
@[simp] def a_tree_up_r2 : List COper := [
  ⟨(some 4), .mov, [.c (.int .i64 0)], none⟩]
def c_tree_up_r2 : List COper := a_tree_up_r2
instance : Reg c_tree_up_r2 a_tree_up_r2 1 := ⟨rfl, rfl⟩
@[simp] def a_tree_up_r3 : List COper := [
  ⟨(some 5), .mov, [.t 4], none⟩,
  ⟨(some 6), .mov, [.t 0], none⟩,
  ⟨(some 7), .len, [.t 6], none⟩,
  ⟨(some 8), .bin .lss, [.t 5, .t 7], none⟩]
def c_tree_up_r3 : List COper := a_tree_up_r3
instance : Reg c_tree_up_r3 a_tree_up_r3 4 := ⟨rfl, rfl⟩
@[simp] def a_tree_up_r5 : List COper := [
  ⟨(some 11), .mov, [.t 4], none⟩,
  ⟨(some 12), .bin .add, [.t 11, .c (.int .i64 1)], none⟩,
  ⟨(some 13), .mov, [.t 0], none⟩,
  ⟨(some 14), .len, [.t 13], none⟩,
  ⟨(some 15), .bin .eql, [.t 12, .t 14], none⟩]
def c_tree_up_r5 : List COper := a_tree_up_r5
instance : Reg c_tree_up_r5 a_tree_up_r5 5 := ⟨rfl, rfl⟩
@[simp] def a_tree_up_r6 : List COper := [
  ⟨(some 16), .mov, [.t 3], none⟩,
  ⟨(some 17), .mov, [.t 0], none⟩,
  ⟨(some 18), .mov, [.t 4], none⟩,
  ⟨(some 19), .iaddr 32, [.t 17, .t 18], none⟩,
  ⟨(some 20), .load true 32, [.t 19], none⟩,
  ⟨(some 21), .bslice 32 1 (.arr 1 (rep 32 (.v (.int .u8 0)))) [0], [.t 20], none⟩,
  ⟨(some 22), .app 32 32, [.t 16, .t 21], none⟩,
  ⟨(some 3), .mov, [.t 22], none⟩]
def c_tree_up_r6 : List COper := a_tree_up_r6
instance : Reg c_tree_up_r6 a_tree_up_r6 8 := ⟨rfl, rfl⟩
@[simp] def a_tree_up_r7 : List COper := [
  ⟨(some 23), .mov, [.t 3], none⟩,
  ⟨(some 24), .mov, [.t 0], none⟩,
  ⟨(some 25), .mov, [.t 4], none⟩,
  ⟨(some 26), .iaddr 32, [.t 24, .t 25], none⟩,
  ⟨(some 27), .load true 32, [.t 26], none⟩,
  ⟨(some 28), .mov, [.t 0], none⟩,
  ⟨(some 29), .mov, [.t 4], none⟩,
  ⟨(some 30), .bin .add, [.t 29, .c (.int .i64 1)], none⟩,
  ⟨(some 31), .iaddr 32, [.t 28, .t 30], none⟩,
  ⟨(some 32), .load true 32, [.t 31], none⟩,
  ⟨(some 33), .call fn_sha_Pair, [.c (.int .u8 1), .t 27, .t 32], none⟩,
  ⟨(some 34), .bslice 32 1 (.arr 1 (rep 32 (.v (.int .u8 0)))) [0], [.t 33], none⟩,
  ⟨(some 35), .app 32 32, [.t 23, .t 34], none⟩,
  ⟨(some 3), .mov, [.t 35], none⟩]
def c_tree_up_r7 : List COper := a_tree_up_r7
instance : Reg c_tree_up_r7 a_tree_up_r7 14 := ⟨rfl, rfl⟩
@[simp] def a_tree_up_r4 : List COper := [
  ⟨(some 9), .mov, [.t 4], none⟩,
  ⟨(some 10), .bin .add, [.t 9, .c (.int .i64 2)], none⟩,
  ⟨(some 4), .mov, [.t 10], none⟩]
def c_tree_up_r4 : List COper := a_tree_up_r4
instance : Reg c_tree_up_r4 a_tree_up_r4 3 := ⟨rfl, rfl⟩
@[simp] def a_tree_up_r8 : List COper := [
  ⟨(some 36), .mov, [.t 3], none⟩,
  ⟨(some 2), .mov, [.t 36], none⟩]
def c_tree_up_r8 : List COper := a_tree_up_r8
instance : Reg c_tree_up_r8 a_tree_up_r8 2 := ⟨rfl, rfl⟩
@[simp] def c_tree_up : CCode :=
  .seq (.region c_tree_up_r0 none [0]) (.seq (.region c_tree_up_r1 none [0, 3]) (.seq (.seq (.region c_tree_up_r2 none [0, 3, 4]) (.block 0 (.loop (.seq (.seq (.region c_tree_up_r3 none [0, 3, 4, 8]) (.cond (.t 8) (.skip) (.exit 0))) (.seq (.block 1 (.seq (.seq (.region c_tree_up_r5 none [0, 3, 4, 15]) (.cond (.t 15) (.seq (.region c_tree_up_r6 none [3]) (.exit 0)) (.skip))) (.region c_tree_up_r7 (some ([0, 0, 0, 6, 14, 0, 0, 64, 224, 480, 1022, 2046, 4095, 8191], [])) [0, 3, 4]))) (.region c_tree_up_r4 none [0, 3, 4])))))) (.seq (.region c_tree_up_r8 none [2]) (.ret))))
@[simp] def R_tree_up : List CRes := [.tmp 2]
theorem k_tree_up : chkFn Tryd.prog fn_tree_up c_tree_up R_tree_up 1 = true := by kernel_rfl
/-! (*wapentake/sha.state).block -/
@[simp] def a_sha_state_block_r0 : List COper := [
  ⟨(some 4), .alloc (.arr 1 (rep 64 (.v (.int .u32 0)))), [], none⟩]
def c_sha_state_block_r0 : List COper := a_sha_state_block_r0
instance : Reg c_sha_state_block_r0 a_sha_state_block_r0 1 := ⟨rfl, rfl⟩
@[simp] def a_sha_state_block_r1 : List COper := [
  ⟨(some 26), .mov, [.c (.int .i64 0)], none⟩]
def c_sha_state_block_r1 : List COper := a_sha_state_block_r1
instance : Reg c_sha_state_block_r1 a_sha_state_block_r1 1 := ⟨rfl, rfl⟩
@[simp] def a_sha_state_block_r2 : List COper := [
  ⟨(some 27), .bin .lss, [.t 26, .c (.int .i64 16)], none⟩]
def c_sha_state_block_r2 : List COper := a_sha_state_block_r2
instance : Reg c_sha_state_block_r2 a_sha_state_block_r2 1 := ⟨rfl, rfl⟩
@[simp] def a_sha_state_block_r3 : List COper := [
  ⟨(some 28), .mov, [.t 26], none⟩,
  ⟨(some 5), .mov, [.t 28], none⟩]
def c_sha_state_block_r3 : List COper := a_sha_state_block_r3
instance : Reg c_sha_state_block_r3 a_sha_state_block_r3 2 := ⟨rfl, rfl⟩
@[simp] def a_sha_state_block_r4 : List COper := [
  ⟨(some 29), .mov, [.t 5], none⟩,
  ⟨(some 30), .mov, [.t 1], none⟩,
  ⟨(some 31), .mov, [.t 5], none⟩,
  ⟨(some 32), .bin .mul, [.c (.int .i64 4), .t 31], none⟩,
  ⟨(some 33), .slice 1 true false, [.t 30, .t 32], none⟩,
  ⟨(some 34), .call fn_sha_word, [.t 33], none⟩,
  ⟨(some 35), .iaddrArr 64 1 false, [.t 4, .t 29], none⟩,
  ⟨none, .store false 1, [.t 35, .t 34], none⟩]
def c_sha_state_block_r4 : List COper := a_sha_state_block_r4
instance : Reg c_sha_state_block_r4 a_sha_state_block_r4 8 := ⟨rfl, rfl⟩
@[simp] def a_sha_state_block_r5 : List COper := [
  ⟨(some 36), .bin .add, [.t 26, .c (.int .i64 1)], none⟩,
  ⟨(some 26), .mov, [.t 36], none⟩]
def c_sha_state_block_r5 : List COper := a_sha_state_block_r5
instance : Reg c_sha_state_block_r5 a_sha_state_block_r5 2 := ⟨rfl, rfl⟩
@[simp] def a_sha_state_block_r6 : List COper := [
  ⟨(some 6), .mov, [.c (.int .i64 16)], none⟩]
def c_sha_state_block_r6 : List COper := a_sha_state_block_r6
instance : Reg c_sha_state_block_r6 a_sha_state_block_r6 1 := ⟨rfl, rfl⟩
@[simp] def a_sha_state_block_r7 : List COper := [
  ⟨(some 37), .mov, [.t 6], none⟩,
  ⟨(some 38), .bin .lss, [.t 37, .c (.int .i64 64)], none⟩]
def c_sha_state_block_r7 : List COper := a_sha_state_block_r7
instance : Reg c_sha_state_block_r7 a_sha_state_block_r7 2 := ⟨rfl, rfl⟩
@[simp] def a_sha_state_block_r9 : List COper := [
  ⟨(some 41), .mov, [.t 6], none⟩,
  ⟨(some 42), .bin .sub, [.t 41, .c (.int .i64 15)], none⟩,
  ⟨(some 43), .iaddrArr 64 1 false, [.t 4, .t 42], none⟩,
  ⟨(some 44), .load false 1, [.t 43], none⟩,
  ⟨(some 45), .mov, [.t 6], none⟩,
  ⟨(some 46), .bin .sub, [.t 45, .c (.int .i64 2)], none⟩,
  ⟨(some 47), .iaddrArr 64 1 false, [.t 4, .t 46], none⟩,
  ⟨(some 48), .load false 1, [.t 47], none⟩,
  ⟨(some 7), .mov, [.t 44], none⟩,
  ⟨(some 8), .mov, [.t 48], none⟩]
def c_sha_state_block_r9 : List COper := a_sha_state_block_r9
instance : Reg c_sha_state_block_r9 a_sha_state_block_r9 10 := ⟨rfl, rfl⟩
@[simp] def a_sha_state_block_r10 : List COper := [
  ⟨(some 49), .mov, [.t 7], none⟩,
  ⟨(some 50), .call fn_bits_RotateLeft32, [.t 49, .c (.int .i64 (-7))], none⟩,
  ⟨(some 51), .mov, [.t 7], none⟩,
  ⟨(some 52), .call fn_bits_RotateLeft32, [.t 51, .c (.int .i64 (-18))], none⟩,
  ⟨(some 53), .bin .xor, [.t 50, .t 52], none⟩,
  ⟨(some 54), .mov, [.t 7], none⟩,
  ⟨(some 55), .bin .shr, [.t 54, .c (.int .u64 3)], none⟩,
  ⟨(some 56), .bin .xor, [.t 53, .t 55], none⟩,
  ⟨(some 9), .mov, [.t 56], none⟩]
def c_sha_state_block_r10 : List COper := a_sha_state_block_r10
instance : Reg c_sha_state_block_r10 a_sha_state_block_r10 9 := ⟨rfl, rfl⟩
@[simp] def a_sha_state_block_r11 : List COper := [
  ⟨(some 57), .mov, [.t 8], none⟩,
  ⟨(some 58), .call fn_bits_RotateLeft32, [.t 57, .c (.int .i64 (-17))], none⟩,
  ⟨(some 59), .mov, [.t 8], none⟩,
  ⟨(some 60), .call fn_bits_RotateLeft32, [.t 59, .c (.int .i64 (-19))], none⟩,
  ⟨(some 61), .bin .xor, [.t 58, .t 60], none⟩,
  ⟨(some 62), .mov, [.t 8], none⟩,
  ⟨(some 63), .bin .shr, [.t 62, .c (.int .u64 10)], none⟩,
  ⟨(some 64), .bin .xor, [.t 61, .t 63], none⟩,
  ⟨(some 10), .mov, [.t 64], none⟩]
def c_sha_state_block_r11 : List COper := a_sha_state_block_r11
instance : Reg c_sha_state_block_r11 a_sha_state_block_r11 9 := ⟨rfl, rfl⟩
@[simp] def a_sha_state_block_r12 : List COper := [
  ⟨(some 65), .mov, [.t 6], none⟩,
  ⟨(some 66), .mov, [.t 6], none⟩,
  ⟨(some 67), .bin .sub, [.t 66, .c (.int .i64 16)], none⟩,
  ⟨(some 68), .iaddrArr 64 1 false, [.t 4, .t 67], none⟩,
  ⟨(some 69), .load false 1, [.t 68], none⟩,
  ⟨(some 70), .mov, [.t 9], none⟩,
  ⟨(some 71), .bin .add, [.t 69, .t 70], none⟩,
  ⟨(some 72), .mov, [.t 6], none⟩,
  ⟨(some 73), .bin .sub, [.t 72, .c (.int .i64 7)], none⟩,
  ⟨(some 74), .iaddrArr 64 1 false, [.t 4, .t 73], none⟩,
  ⟨(some 75), .load false 1, [.t 74], none⟩,
  ⟨(some 76), .bin .add, [.t 71, .t 75], none⟩,
  ⟨(some 77), .mov, [.t 10], none⟩,
  ⟨(some 78), .bin .add, [.t 76, .t 77], none⟩,
  ⟨(some 79), .iaddrArr 64 1 false, [.t 4, .t 65], none⟩,
  ⟨none, .store false 1, [.t 79, .t 78], none⟩]
def c_sha_state_block_r12 : List COper := a_sha_state_block_r12
instance : Reg c_sha_state_block_r12 a_sha_state_block_r12 16 := ⟨rfl, rfl⟩
@[simp] def a_sha_state_block_r8 : List COper := [
  ⟨(some 39), .mov, [.t 6], none⟩,
  ⟨(some 40), .bin .add, [.t 39, .c (.int .i64 1)], none⟩,
  ⟨(some 6), .mov, [.t 40], none⟩]
def c_sha_state_block_r8 : List COper := a_sha_state_block_r8
instance : Reg c_sha_state_block_r8 a_sha_state_block_r8 3 := ⟨rfl, rfl⟩
@[simp] def a_sha_state_block_r13 : List COper := [
  ⟨(some 80), .mov, [.t 0], none⟩,
  ⟨(some 81), .nilc, [.t 80], none⟩,
  ⟨(some 82), .iaddrArr 8 1 false, [.t 81, .c (.int .i64 0)], none⟩,
  ⟨(some 83), .load false 1, [.t 82], none⟩,
  ⟨(some 84), .mov, [.t 0], none⟩,
  ⟨(some 85), .nilc, [.t 84], none⟩,
  ⟨(some 86), .iaddrArr 8 1 false, [.t 85, .c (.int .i64 1)], none⟩,
  ⟨(some 87), .load false 1, [.t 86], none⟩,
  ⟨(some 88), .mov, [.t 0], none⟩,
  ⟨(some 89), .nilc, [.t 88], none⟩,
  ⟨(some 90), .iaddrArr 8 1 false, [.t 89, .c (.int .i64 2)], none⟩,
  ⟨(some 91), .load false 1, [.t 90], none⟩,
  ⟨(some 92), .mov, [.t 0], none⟩,
  ⟨(some 93), .nilc, [.t 92], none⟩,
  ⟨(some 94), .iaddrArr 8 1 false, [.t 93, .c (.int .i64 3)], none⟩,
  ⟨(some 95), .load false 1, [.t 94], none⟩,
  ⟨(some 96), .mov, [.t 0], none⟩,
  ⟨(some 97), .nilc, [.t 96], none⟩,
  ⟨(some 98), .iaddrArr 8 1 false, [.t 97, .c (.int .i64 4)], none⟩,
  ⟨(some 99), .load false 1, [.t 98], none⟩,
  ⟨(some 100), .mov, [.t 0], none⟩,
  ⟨(some 101), .nilc, [.t 100], none⟩,
  ⟨(some 102), .iaddrArr 8 1 false, [.t 101, .c (.int .i64 5)], none⟩,
  ⟨(some 103), .load false 1, [.t 102], none⟩,
  ⟨(some 104), .mov, [.t 0], none⟩,
  ⟨(some 105), .nilc, [.t 104], none⟩,
  ⟨(some 106), .iaddrArr 8 1 false, [.t 105, .c (.int .i64 6)], none⟩,
  ⟨(some 107), .load false 1, [.t 106], none⟩,
  ⟨(some 108), .mov, [.t 0], none⟩,
  ⟨(some 109), .nilc, [.t 108], none⟩,
  ⟨(some 110), .iaddrArr 8 1 false, [.t 109, .c (.int .i64 7)], none⟩,
  ⟨(some 111), .load false 1, [.t 110], none⟩,
  ⟨(some 11), .mov, [.t 83], none⟩,
  ⟨(some 12), .mov, [.t 87], none⟩,
  ⟨(some 13), .mov, [.t 91], none⟩,
  ⟨(some 14), .mov, [.t 95], none⟩,
  ⟨(some 15), .mov, [.t 99], none⟩,
  ⟨(some 16), .mov, [.t 103], none⟩,
  ⟨(some 17), .mov, [.t 107], none⟩,
  ⟨(some 18), .mov, [.t 111], none⟩]
def c_sha_state_block_r13 : List COper := a_sha_state_block_r13
instance : Reg c_sha_state_block_r13 a_sha_state_block_r13 40 := ⟨rfl, rfl⟩
@[simp] def a_sha_state_block_r14 : List COper := [
  ⟨(some 112), .load true 64, [.t 4], none⟩,
  ⟨(some 113), .mov, [.c (.int .i64 0)], none⟩]
def c_sha_state_block_r14 : List COper := a_sha_state_block_r14
instance : Reg c_sha_state_block_r14 a_sha_state_block_r14 2 := ⟨rfl, rfl⟩
@[simp] def a_sha_state_block_r15 : List COper := [
  ⟨(some 114), .bin .lss, [.t 113, .c (.int .i64 64)], none⟩]
def c_sha_state_block_r15 : List COper := a_sha_state_block_r15
instance : Reg c_sha_state_block_r15 a_sha_state_block_r15 1 := ⟨rfl, rfl⟩
@[simp] def a_sha_state_block_r16 : List COper := [
  ⟨(some 115), .mov, [.t 113], none⟩,
  ⟨(some 116), .idx false 64 1, [.t 112, .t 113], none⟩,
  ⟨(some 19), .mov, [.t 115], none⟩,
  ⟨(some 20), .mov, [.t 116], none⟩]
def c_sha_state_block_r16 : List COper := a_sha_state_block_r16
instance : Reg c_sha_state_block_r16 a_sha_state_block_r16 4 := ⟨rfl, rfl⟩
@[simp] def a_sha_state_block_r17 : List COper := [
  ⟨(some 117), .mov, [.t 15], none⟩,
  ⟨(some 118), .call fn_bits_RotateLeft32, [.t 117, .c (.int .i64 (-6))], none⟩,
  ⟨(some 119), .mov, [.t 15], none⟩,
  ⟨(some 120), .call fn_bits_RotateLeft32, [.t 119, .c (.int .i64 (-11))], none⟩,
  ⟨(some 121), .bin .xor, [.t 118, .t 120], none⟩,
  ⟨(some 122), .mov, [.t 15], none⟩,
  ⟨(some 123), .call fn_bits_RotateLeft32, [.t 122, .c (.int .i64 (-25))], none⟩,
  ⟨(some 124), .bin .xor, [.t 121, .t 123], none⟩,
  ⟨(some 21), .mov, [.t 124], none⟩]
def c_sha_state_block_r17 : List COper := a_sha_state_block_r17
instance : Reg c_sha_state_block_r17 a_sha_state_block_r17 9 := ⟨rfl, rfl⟩
@[simp] def a_sha_state_block_r18 : List COper := [
  ⟨(some 125), .mov, [.t 18], none⟩,
  ⟨(some 126), .mov, [.t 21], none⟩,
  ⟨(some 127), .bin .add, [.t 125, .t 126], none⟩,
  ⟨(some 128), .mov, [.t 15], none⟩,
  ⟨(some 129), .mov, [.t 16], none⟩,
  ⟨(some 130), .bin .and, [.t 128, .t 129], none⟩,
  ⟨(some 131), .mov, [.t 15], none⟩,
  ⟨(some 132), .un .xor, [.t 131], none⟩,
  ⟨(some 133), .mov, [.t 17], none⟩,
  ⟨(some 134), .bin .and, [.t 132, .t 133], none⟩,
  ⟨(some 135), .bin .xor, [.t 130, .t 134], none⟩,
  ⟨(some 136), .bin .add, [.t 127, .t 135], none⟩,
  ⟨(some 137), .mov, [.t 19], none⟩,
  ⟨(some 138), .iaddrArr 64 1 false, [.g 0, .t 137], none⟩,
  ⟨(some 139), .load false 1, [.t 138], none⟩,
  ⟨(some 140), .bin .add, [.t 136, .t 139], none⟩,
  ⟨(some 141), .mov, [.t 20], none⟩,
  ⟨(some 142), .bin .add, [.t 140, .t 141], none⟩,
  ⟨(some 22), .mov, [.t 142], none⟩]
def c_sha_state_block_r18 : List COper := a_sha_state_block_r18
instance : Reg c_sha_state_block_r18 a_sha_state_block_r18 19 := ⟨rfl, rfl⟩
@[simp] def a_sha_state_block_r19 : List COper := [
  ⟨(some 143), .mov, [.t 11], none⟩,
  ⟨(some 144), .call fn_bits_RotateLeft32, [.t 143, .c (.int .i64 (-2))], none⟩,
  ⟨(some 145), .mov, [.t 11], none⟩,
  ⟨(some 146), .call fn_bits_RotateLeft32, [.t 145, .c (.int .i64 (-13))], none⟩,
  ⟨(some 147), .bin .xor, [.t 144, .t 146], none⟩,
  ⟨(some 148), .mov, [.t 11], none⟩,
  ⟨(some 149), .call fn_bits_RotateLeft32, [.t 148, .c (.int .i64 (-22))], none⟩,
  ⟨(some 150), .bin .xor, [.t 147, .t 149], none⟩,
  ⟨(some 23), .mov, [.t 150], none⟩]
def c_sha_state_block_r19 : List COper := a_sha_state_block_r19
instance : Reg c_sha_state_block_r19 a_sha_state_block_r19 9 := ⟨rfl, rfl⟩
@[simp] def a_sha_state_block_r20 : List COper := [
  ⟨(some 151), .mov, [.t 23], none⟩,
  ⟨(some 152), .mov, [.t 11], none⟩,
  ⟨(some 153), .mov, [.t 12], none⟩,
  ⟨(some 154), .bin .and, [.t 152, .t 153], none⟩,
  ⟨(some 155), .mov, [.t 11], none⟩,
  ⟨(some 156), .mov, [.t 13], none⟩,
  ⟨(some 157), .bin .and, [.t 155, .t 156], none⟩,
  ⟨(some 158), .bin .xor, [.t 154, .t 157], none⟩,
  ⟨(some 159), .mov, [.t 12], none⟩,
  ⟨(some 160), .mov, [.t 13], none⟩,
  ⟨(some 161), .bin .and, [.t 159, .t 160], none⟩,
  ⟨(some 162), .bin .xor, [.t 158, .t 161], none⟩,
  ⟨(some 163), .bin .add, [.t 151, .t 162], none⟩,
  ⟨(some 23), .mov, [.t 163], none⟩]
def c_sha_state_block_r20 : List COper := a_sha_state_block_r20
instance : Reg c_sha_state_block_r20 a_sha_state_block_r20 14 := ⟨rfl, rfl⟩
@[simp] def a_sha_state_block_r21 : List COper := [
  ⟨(some 164), .mov, [.t 22], none⟩,
  ⟨(some 165), .mov, [.t 23], none⟩,
  ⟨(some 166), .bin .add, [.t 164, .t 165], none⟩,
  ⟨(some 167), .mov, [.t 11], none⟩,
  ⟨(some 168), .mov, [.t 12], none⟩,
  ⟨(some 169), .mov, [.t 13], none⟩,
  ⟨(some 170), .mov, [.t 14], none⟩,
  ⟨(some 171), .mov, [.t 22], none⟩,
  ⟨(some 172), .bin .add, [.t 170, .t 171], none⟩,
  ⟨(some 173), .mov, [.t 15], none⟩,
  ⟨(some 174), .mov, [.t 16], none⟩,
  ⟨(some 175), .mov, [.t 17], none⟩,
  ⟨(some 11), .mov, [.t 166], none⟩,
  ⟨(some 12), .mov, [.t 167], none⟩,
  ⟨(some 13), .mov, [.t 168], none⟩,
  ⟨(some 14), .mov, [.t 169], none⟩,
  ⟨(some 15), .mov, [.t 172], none⟩,
  ⟨(some 16), .mov, [.t 173], none⟩,
  ⟨(some 17), .mov, [.t 174], none⟩,
  ⟨(some 18), .mov, [.t 175], none⟩]
def c_sha_state_block_r21 : List COper := a_sha_state_block_r21
instance : Reg c_sha_state_block_r21 a_sha_state_block_r21 20 := ⟨rfl, rfl⟩
@[simp] def a_sha_state_block_r22 : List COper := [
  ⟨(some 176), .bin .add, [.t 113, .c (.int .i64 1)], none⟩,
  ⟨(some 113), .mov, [.t 176], none⟩]
def c_sha_state_block_r22 : List COper := a_sha_state_block_r22
instance : Reg c_sha_state_block_r22 a_sha_state_block_r22 2 := ⟨rfl, rfl⟩
@[simp] def a_sha_state_block_r23 : List COper := [
  ⟨(some 177), .mov, [.t 11], none⟩,
  ⟨(some 178), .mov, [.t 12], none⟩,
  ⟨(some 179), .mov, [.t 13], none⟩,
  ⟨(some 180), .mov, [.t 14], none⟩,
  ⟨(some 181), .mov, [.t 15], none⟩,
  ⟨(some 182), .mov, [.t 16], none⟩,
  ⟨(some 183), .mov, [.t 17], none⟩,
  ⟨(some 184), .mov, [.t 18], none⟩,
  ⟨(some 185), .buildA 1 (rep 8 (.v (.int .u32 0))) (upTo 8), [.t 177, .t 178, .t 179, .t 180, .t 181, .t 182, .t 183, .t 184], none⟩,
  ⟨(some 186), .mov, [.c (.int .i64 0)], none⟩]
def c_sha_state_block_r23 : List COper := a_sha_state_block_r23
instance : Reg c_sha_state_block_r23 a_sha_state_block_r23 10 := ⟨rfl, rfl⟩
@[simp] def a_sha_state_block_r24 : List COper := [
  ⟨(some 187), .bin .lss, [.t 186, .c (.int .i64 8)], none⟩]
def c_sha_state_block_r24 : List COper := a_sha_state_block_r24
instance : Reg c_sha_state_block_r24 a_sha_state_block_r24 1 := ⟨rfl, rfl⟩
@[simp] def a_sha_state_block_r25 : List COper := [
  ⟨(some 188), .mov, [.t 186], none⟩,
  ⟨(some 189), .idx false 8 1, [.t 185, .t 186], none⟩,
  ⟨(some 24), .mov, [.t 188], none⟩,
  ⟨(some 25), .mov, [.t 189], none⟩]
def c_sha_state_block_r25 : List COper := a_sha_state_block_r25
instance : Reg c_sha_state_block_r25 a_sha_state_block_r25 4 := ⟨rfl, rfl⟩
@[simp] def a_sha_state_block_r26 : List COper := [
  ⟨(some 190), .mov, [.t 0], none⟩,
  ⟨(some 191), .mov, [.t 24], none⟩,
  ⟨(some 192), .nilc, [.t 190], none⟩,
  ⟨(some 193), .iaddrArr 8 1 false, [.t 192, .t 191], none⟩,
  ⟨(some 194), .load false 1, [.t 193], none⟩,
  ⟨(some 195), .mov, [.t 25], none⟩,
  ⟨(some 196), .bin .add, [.t 194, .t 195], none⟩,
  ⟨(some 197), .nilc, [.t 190], none⟩,
  ⟨(some 198), .iaddrArr 8 1 false, [.t 197, .t 191], none⟩,
  ⟨none, .store false 1, [.t 198, .t 196], none⟩]
def c_sha_state_block_r26 : List COper := a_sha_state_block_r26
instance : Reg c_sha_state_block_r26 a_sha_state_block_r26 10 := ⟨rfl, rfl⟩
@[simp] def a_sha_state_block_r27 : List COper := [
  ⟨(some 199), .bin .add, [.t 186, .c (.int .i64 1)], none⟩,
  ⟨(some 186), .mov, [.t 199], none⟩]
def c_sha_state_block_r27 : List COper := a_sha_state_block_r27
instance : Reg c_sha_state_block_r27 a_sha_state_block_r27 2 := ⟨rfl, rfl⟩
@[simp] def c_sha_state_block : CCode :=
  .seq (.region c_sha_state_block_r0 none [0, 1, 4]) (.seq (.seq (.region c_sha_state_block_r1 none [0, 1, 4, 26]) (.block 0 (.loop (.seq (.region c_sha_state_block_r2 none [0, 1, 4, 26, 27]) (.seq (.cond (.t 27) (.skip) (.exit 0)) (.seq (.block 1 (.seq (.region c_sha_state_block_r3 none [0, 1, 4, 5, 26]) (.region c_sha_state_block_r4 none [0, 1, 4, 26]))) (.region c_sha_state_block_r5 none [0, 1, 4, 26]))))))) (.seq (.seq (.region c_sha_state_block_r6 none [0, 4, 6]) (.block 2 (.loop (.seq (.seq (.region c_sha_state_block_r7 none [0, 4, 6, 38]) (.cond (.t 38) (.skip) (.exit 2))) (.seq (.block 3 (.seq (.region c_sha_state_block_r9 (some ([0, 1, 3, 7, 0, 16, 48, 112, 15, 511], [])) [0, 4, 6, 7, 8]) (.seq (.region c_sha_state_block_r10 none [0, 4, 6, 8, 9]) (.seq (.region c_sha_state_block_r11 none [0, 4, 6, 9, 10]) (.region c_sha_state_block_r12 (some ([0, 0, 2, 6, 14, 0, 62, 0, 128, 384, 896, 2046, 0, 8190, 16383, 32767], [])) [0, 4, 6]))))) (.region c_sha_state_block_r8 none [0, 4, 6])))))) (.seq (.region c_sha_state_block_r13 (some ([0, 1, 3, 7, 0, 16, 48, 112, 0, 256, 768, 1792, 0, 4096, 12288, 28672, 0, 65536, 196608, 458752, 0, 1048576, 3145728, 7340032, 0, 16777216, 50331648, 117440512, 0, 268435456, 805306368, 1879048192, 15, 4294967551, 12884905983, 30064836607, 64425558015, 133160763391, 270851375103, 549755813887], [])) [0, 4, 11, 12, 13, 14, 15, 16, 17, 18]) (.seq (.seq (.region c_sha_state_block_r14 none [0, 11, 12, 13, 14, 15, 16, 17, 18, 112, 113]) (.block 4 (.loop (.seq (.region c_sha_state_block_r15 none [0, 11, 12, 13, 14, 15, 16, 17, 18, 112, 113, 114]) (.seq (.cond (.t 114) (.skip) (.exit 4)) (.seq (.block 5 (.seq (.region c_sha_state_block_r16 none [0, 11, 12, 13, 14, 15, 16, 17, 18, 19, 20, 112, 113]) (.seq (.region c_sha_state_block_r17 none [0, 11, 12, 13, 14, 15, 16, 17, 18, 19, 20, 21, 112, 113]) (.seq (.region c_sha_state_block_r18 none [0, 11, 12, 13, 14, 15, 16, 17, 22, 112, 113]) (.seq (.region c_sha_state_block_r19 none [0, 11, 12, 13, 14, 15, 16, 17, 22, 23, 112, 113]) (.seq (.region c_sha_state_block_r20 none [0, 11, 12, 13, 14, 15, 16, 17, 22, 23, 112, 113]) (.region c_sha_state_block_r21 none [0, 11, 12, 13, 14, 15, 16, 17, 18, 112, 113]))))))) (.region c_sha_state_block_r22 none [0, 11, 12, 13, 14, 15, 16, 17, 18, 112, 113]))))))) (.seq (.region c_sha_state_block_r23 none [0, 185, 186]) (.block 6 (.loop (.seq (.region c_sha_state_block_r24 none [0, 185, 186, 187]) (.seq (.cond (.t 187) (.skip) (.exit 6)) (.seq (.block 7 (.seq (.region c_sha_state_block_r25 none [0, 24, 25, 185, 186]) (.region c_sha_state_block_r26 (some ([0, 0, 1, 7, 15, 0, 63, 1, 255, 511], [])) [0, 185, 186]))) (.region c_sha_state_block_r27 none [0, 185, 186])))))))))))
@[simp] def R_sha_state_block : List CRes := []
theorem k_sha_state_block : chkFn Tryd.prog fn_sha_state_block c_sha_state_block R_sha_state_block 2 = true := by kernel_rfl
/-! (*wapentake/code.Reader).take -/
@[simp] def a_code_Reader_take_r0 : List COper := [
  ⟨(some 4), .mov, [.c (.slice none 0 0)], none⟩]
def c_code_Reader_take_r0 : List COper := a_code_Reader_take_r0
instance : Reg c_code_Reader_take_r0 a_code_Reader_take_r0 1 := ⟨rfl, rfl⟩
@[simp] def a_code_Reader_take_r1 : List COper := [
  ⟨(some 6), .mov, [.t 0], none⟩,
  ⟨(some 7), .eqp false, [.t 6, .c (.pointer none)], none⟩]
def c_code_Reader_take_r1 : List COper := a_code_Reader_take_r1
instance : Reg c_code_Reader_take_r1 a_code_Reader_take_r1 2 := ⟨rfl, rfl⟩
@[simp] def a_code_Reader_take_r2 : List COper := [
  ⟨(some 4), .mov, [.c (.slice none 0 0)], none⟩]
def c_code_Reader_take_r2 : List COper := a_code_Reader_take_r2
instance : Reg c_code_Reader_take_r2 a_code_Reader_take_r2 1 := ⟨rfl, rfl⟩
@[simp] def a_code_Reader_take_r3 : List COper := [
  ⟨(some 8), .mov, [.t 0], none⟩,
  ⟨(some 9), .nilc, [.t 8], none⟩,
  ⟨(some 10), .faddr 1 1 false, [.t 9], none⟩,
  ⟨(some 11), .load false 1, [.t 10], none⟩,
  ⟨(some 12), .mov, [.t 11], none⟩,
  ⟨(some 13), .mov, [.t 1], (some (12, false))⟩,
  ⟨(some 14), .bin .lss, [.t 13, .c (.int .i64 0)], (some (12, false))⟩,
  ⟨(some 15), .pick, [.t 12, .c (.bool true), .t 14], none⟩,
  ⟨(some 16), .mov, [.t 15], none⟩,
  ⟨(some 17), .mov, [.t 1], (some (16, false))⟩,
  ⟨(some 18), .mov, [.t 0], (some (16, false))⟩,
  ⟨(some 19), .nilc, [.t 18], (some (16, false))⟩,
  ⟨(some 20), .faddr 0 1 false, [.t 19], (some (16, false))⟩,
  ⟨(some 21), .load false 1, [.t 20], (some (16, false))⟩,
  ⟨(some 22), .len, [.t 21], (some (16, false))⟩,
  ⟨(some 23), .bin .gtr, [.t 17, .t 22], (some (16, false))⟩,
  ⟨(some 24), .pick, [.t 16, .c (.bool true), .t 23], none⟩]
def c_code_Reader_take_r3 : List COper := a_code_Reader_take_r3
instance : Reg c_code_Reader_take_r3 a_code_Reader_take_r3 17 := ⟨rfl, rfl⟩
@[simp] def a_code_Reader_take_r4 : List COper := [
  ⟨(some 25), .mov, [.t 0], none⟩,
  ⟨(some 26), .nilc, [.t 25], none⟩,
  ⟨(some 27), .faddr 0 1 false, [.t 26], none⟩,
  ⟨(some 28), .load false 1, [.t 27], none⟩,
  ⟨(some 29), .mov, [.t 1], none⟩,
  ⟨(some 30), .slice 1 false true, [.t 28, .t 29], none⟩,
  ⟨(some 5), .mov, [.t 30], none⟩]
def c_code_Reader_take_r4 : List COper := a_code_Reader_take_r4
instance : Reg c_code_Reader_take_r4 a_code_Reader_take_r4 7 := ⟨rfl, rfl⟩
@[simp] def a_code_Reader_take_r5 : List COper := [
  ⟨(some 31), .mov, [.t 0], none⟩,
  ⟨(some 32), .mov, [.t 0], none⟩,
  ⟨(some 33), .nilc, [.t 32], none⟩,
  ⟨(some 34), .faddr 0 1 false, [.t 33], none⟩,
  ⟨(some 35), .load false 1, [.t 34], none⟩,
  ⟨(some 36), .mov, [.t 1], none⟩,
  ⟨(some 37), .slice 1 true false, [.t 35, .t 36], none⟩,
  ⟨(some 38), .nilc, [.t 31], none⟩,
  ⟨(some 39), .faddr 0 1 false, [.t 38], none⟩,
  ⟨none, .store false 1, [.t 39, .t 37], none⟩]
def c_code_Reader_take_r5 : List COper := a_code_Reader_take_r5
instance : Reg c_code_Reader_take_r5 a_code_Reader_take_r5 10 := ⟨rfl, rfl⟩
@[simp] def a_code_Reader_take_r6 : List COper := [
  ⟨(some 40), .mov, [.t 5], none⟩,
  ⟨(some 4), .mov, [.t 40], none⟩]
def c_code_Reader_take_r6 : List COper := a_code_Reader_take_r6
instance : Reg c_code_Reader_take_r6 a_code_Reader_take_r6 2 := ⟨rfl, rfl⟩
@[simp] def a_code_Reader_take_r7 : List COper := [
  ⟨(some 41), .mov, [.t 0], none⟩,
  ⟨(some 42), .mov, [.t 0], none⟩,
  ⟨(some 43), .nilc, [.t 41], none⟩,
  ⟨(some 44), .faddr 1 1 false, [.t 43], none⟩,
  ⟨none, .store false 1, [.t 44, .c (.bool true)], none⟩,
  ⟨(some 45), .nilc, [.t 42], none⟩,
  ⟨(some 46), .faddr 0 1 false, [.t 45], none⟩,
  ⟨none, .store false 1, [.t 46, .c (.slice none 0 0)], none⟩]
def c_code_Reader_take_r7 : List COper := a_code_Reader_take_r7
instance : Reg c_code_Reader_take_r7 a_code_Reader_take_r7 8 := ⟨rfl, rfl⟩
@[simp] def a_code_Reader_take_r8 : List COper := [
  ⟨(some 4), .mov, [.c (.slice none 0 0)], none⟩]
def c_code_Reader_take_r8 : List COper := a_code_Reader_take_r8
instance : Reg c_code_Reader_take_r8 a_code_Reader_take_r8 1 := ⟨rfl, rfl⟩
@[simp] def c_code_Reader_take : CCode :=
  .seq (.region c_code_Reader_take_r0 none [0, 1]) (.scope 0 (.seq (.seq (.region c_code_Reader_take_r1 none [0, 1, 7]) (.cond (.t 7) (.seq (.region c_code_Reader_take_r2 none [4]) (.ret)) (.skip))) (.seq (.seq (.region c_code_Reader_take_r3 none [0, 1, 24]) (.cond (.t 24) (.goto 0) (.skip))) (.seq (.seq (.region c_code_Reader_take_r4 none [0, 1, 5]) (.seq (.region c_code_Reader_take_r5 none [5]) (.seq (.region c_code_Reader_take_r6 none [4]) (.ret)))) (.seq (.label 0) (.seq (.region c_code_Reader_take_r7 none []) (.seq (.region c_code_Reader_take_r8 none [4]) (.ret))))))) (.seq (.skip) (.seq (.region c_code_Reader_take_r7 none []) (.seq (.region c_code_Reader_take_r8 none [4]) (.ret)))))
@[simp] def R_code_Reader_take : List CRes := [.tmp 4]
theorem k_code_Reader_take : chkFn Tryd.prog fn_code_Reader_take c_code_Reader_take R_code_Reader_take 2 = true := by kernel_rfl
/-! (*wapentake/code.Reader).Num -/
@[simp] def a_code_Reader_Num_r0 : List COper := [
  ⟨(some 2), .mov, [.c (.int .i64 0)], none⟩]
def c_code_Reader_Num_r0 : List COper := a_code_Reader_Num_r0
instance : Reg c_code_Reader_Num_r0 a_code_Reader_Num_r0 1 := ⟨rfl, rfl⟩
@[simp] def a_code_Reader_Num_r1 : List COper := [
  ⟨(some 3), .mov, [.c (.int .u64 0)], none⟩]
def c_code_Reader_Num_r1 : List COper := a_code_Reader_Num_r1
instance : Reg c_code_Reader_Num_r1 a_code_Reader_Num_r1 1 := ⟨rfl, rfl⟩
@[simp] def a_code_Reader_Num_r2 : List COper := [
  ⟨(some 6), .mov, [.t 0], none⟩,
  ⟨(some 7), .call fn_code_Reader_take, [.t 6, .c (.int .i64 8)], none⟩,
  ⟨(some 8), .len, [.t 7], none⟩,
  ⟨(some 9), .mov, [.c (.int .i64 0)], none⟩]
def c_code_Reader_Num_r2 : List COper := a_code_Reader_Num_r2
instance : Reg c_code_Reader_Num_r2 a_code_Reader_Num_r2 4 := ⟨rfl, rfl⟩
@[simp] def a_code_Reader_Num_r3 : List COper := [
  ⟨(some 10), .bin .lss, [.t 9, .t 8], none⟩]
def c_code_Reader_Num_r3 : List COper := a_code_Reader_Num_r3
instance : Reg c_code_Reader_Num_r3 a_code_Reader_Num_r3 1 := ⟨rfl, rfl⟩
@[simp] def a_code_Reader_Num_r4 : List COper := [
  ⟨(some 11), .iaddr 1, [.t 7, .t 9], none⟩,
  ⟨(some 12), .load false 1, [.t 11], none⟩,
  ⟨(some 5), .mov, [.t 12], none⟩]
def c_code_Reader_Num_r4 : List COper := a_code_Reader_Num_r4
instance : Reg c_code_Reader_Num_r4 a_code_Reader_Num_r4 3 := ⟨rfl, rfl⟩
@[simp] def a_code_Reader_Num_r5 : List COper := [
  ⟨(some 13), .mov, [.t 3], none⟩,
  ⟨(some 14), .bin .shl, [.t 13, .c (.int .u64 8)], none⟩,
  ⟨(some 15), .mov, [.t 5], none⟩,
  ⟨(some 16), .convI .u64, [.t 15], none⟩,
  ⟨(some 17), .bin .or, [.t 14, .t 16], none⟩,
  ⟨(some 3), .mov, [.t 17], none⟩]
def c_code_Reader_Num_r5 : List COper := a_code_Reader_Num_r5
instance : Reg c_code_Reader_Num_r5 a_code_Reader_Num_r5 6 := ⟨rfl, rfl⟩
@[simp] def a_code_Reader_Num_r6 : List COper := [
  ⟨(some 18), .bin .add, [.t 9, .c (.int .i64 1)], none⟩,
  ⟨(some 9), .mov, [.t 18], none⟩]
def c_code_Reader_Num_r6 : List COper := a_code_Reader_Num_r6
instance : Reg c_code_Reader_Num_r6 a_code_Reader_Num_r6 2 := ⟨rfl, rfl⟩
@[simp] def a_code_Reader_Num_r7 : List COper := [
  ⟨(some 19), .mov, [.t 3], none⟩,
  ⟨(some 20), .convI .i64, [.t 19], none⟩,
  ⟨(some 2), .mov, [.t 20], none⟩]
def c_code_Reader_Num_r7 : List COper := a_code_Reader_Num_r7
instance : Reg c_code_Reader_Num_r7 a_code_Reader_Num_r7 3 := ⟨rfl, rfl⟩
@[simp] def c_code_Reader_Num : CCode :=
  .seq (.region c_code_Reader_Num_r0 none [0]) (.seq (.region c_code_Reader_Num_r1 none [0, 3]) (.seq (.seq (.region c_code_Reader_Num_r2 none [3, 7, 8, 9]) (.block 0 (.loop (.seq (.region c_code_Reader_Num_r3 none [3, 7, 8, 9, 10]) (.seq (.cond (.t 10) (.skip) (.exit 0)) (.seq (.block 1 (.seq (.region c_code_Reader_Num_r4 none [3, 5, 7, 8, 9]) (.region c_code_Reader_Num_r5 none [3, 7, 8, 9]))) (.region c_code_Reader_Num_r6 none [3, 7, 8, 9]))))))) (.seq (.region c_code_Reader_Num_r7 none [2]) (.ret))))
@[simp] def R_code_Reader_Num : List CRes := [.tmp 2]
theorem k_code_Reader_Num : chkFn Tryd.prog fn_code_Reader_Num c_code_Reader_Num R_code_Reader_Num 1 = true := by kernel_rfl
/-! (*wapentake/code.Reader).Good -/
@[simp] def a_code_Reader_Good_r0 : List COper := [
  ⟨(some 2), .mov, [.c (.bool false)], none⟩]
def c_code_Reader_Good_r0 : List COper := a_code_Reader_Good_r0
instance : Reg c_code_Reader_Good_r0 a_code_Reader_Good_r0 1 := ⟨rfl, rfl⟩
@[simp] def a_code_Reader_Good_r1 : List COper := [
  ⟨(some 3), .mov, [.t 0], none⟩,
  ⟨(some 4), .eqp true, [.t 3, .c (.pointer none)], none⟩,
  ⟨(some 5), .mov, [.t 4], none⟩,
  ⟨(some 6), .mov, [.t 0], (some (5, true))⟩,
  ⟨(some 7), .nilc, [.t 6], (some (5, true))⟩,
  ⟨(some 8), .faddr 1 1 false, [.t 7], (some (5, true))⟩,
  ⟨(some 9), .load false 1, [.t 8], (some (5, true))⟩,
  ⟨(some 10), .not, [.t 9], (some (5, true))⟩,
  ⟨(some 11), .pick, [.t 5, .t 10, .c (.bool false)], none⟩,
  ⟨(some 2), .mov, [.t 11], none⟩]
def c_code_Reader_Good_r1 : List COper := a_code_Reader_Good_r1
instance : Reg c_code_Reader_Good_r1 a_code_Reader_Good_r1 10 := ⟨rfl, rfl⟩
@[simp] def c_code_Reader_Good : CCode :=
  .seq (.region c_code_Reader_Good_r0 none [0]) (.seq (.region c_code_Reader_Good_r1 none [2]) (.ret))
@[simp] def R_code_Reader_Good : List CRes := [.tmp 2]
theorem k_code_Reader_Good : chkFn Tryd.prog fn_code_Reader_Good c_code_Reader_Good R_code_Reader_Good 1 = true := by kernel_rfl
/-! wapentake/sha.word -/
@[simp] def a_sha_word_r0 : List COper := [
  ⟨(some 2), .mov, [.c (.int .u32 0)], none⟩]
def c_sha_word_r0 : List COper := a_sha_word_r0
instance : Reg c_sha_word_r0 a_sha_word_r0 1 := ⟨rfl, rfl⟩
@[simp] def a_sha_word_r1 : List COper := [
  ⟨(some 3), .mov, [.t 0], none⟩,
  ⟨(some 4), .iaddr 1, [.t 3, .c (.int .i64 0)], none⟩,
  ⟨(some 5), .load false 1, [.t 4], none⟩,
  ⟨(some 6), .convI .u32, [.t 5], none⟩,
  ⟨(some 7), .bin .shl, [.t 6, .c (.int .u64 24)], none⟩,
  ⟨(some 8), .mov, [.t 0], none⟩,
  ⟨(some 9), .iaddr 1, [.t 8, .c (.int .i64 1)], none⟩,
  ⟨(some 10), .load false 1, [.t 9], none⟩,
  ⟨(some 11), .convI .u32, [.t 10], none⟩,
  ⟨(some 12), .bin .shl, [.t 11, .c (.int .u64 16)], none⟩,
  ⟨(some 13), .bin .or, [.t 7, .t 12], none⟩,
  ⟨(some 14), .mov, [.t 0], none⟩,
  ⟨(some 15), .iaddr 1, [.t 14, .c (.int .i64 2)], none⟩,
  ⟨(some 16), .load false 1, [.t 15], none⟩,
  ⟨(some 17), .convI .u32, [.t 16], none⟩,
  ⟨(some 18), .bin .shl, [.t 17, .c (.int .u64 8)], none⟩,
  ⟨(some 19), .bin .or, [.t 13, .t 18], none⟩,
  ⟨(some 20), .mov, [.t 0], none⟩,
  ⟨(some 21), .iaddr 1, [.t 20, .c (.int .i64 3)], none⟩,
  ⟨(some 22), .load false 1, [.t 21], none⟩,
  ⟨(some 23), .convI .u32, [.t 22], none⟩,
  ⟨(some 24), .bin .or, [.t 19, .t 23], none⟩,
  ⟨(some 2), .mov, [.t 24], none⟩]
def c_sha_word_r1 : List COper := a_sha_word_r1
instance : Reg c_sha_word_r1 a_sha_word_r1 23 := ⟨rfl, rfl⟩
@[simp] def c_sha_word : CCode :=
  .seq (.region c_sha_word_r0 none [0]) (.seq (.region c_sha_word_r1 (some ([0, 1, 3, 7, 15, 0, 32, 96, 224, 480, 1023, 0, 2048, 6144, 14336, 30720, 65535, 0, 131072, 393216, 917504, 2097151, 4194303], [])) [2]) (.ret))
@[simp] def R_sha_word : List CRes := [.tmp 2]
theorem k_sha_word : chkFn Tryd.prog fn_sha_word c_sha_word R_sha_word 1 = true := by kernel_rfl
/-! math/bits.RotateLeft32 -/
@[simp] def a_bits_RotateLeft32_r0 : List COper := [
  ⟨(some 4), .mov, [.c (.int .u32 0)], none⟩]
def c_bits_RotateLeft32_r0 : List COper := a_bits_RotateLeft32_r0
instance : Reg c_bits_RotateLeft32_r0 a_bits_RotateLeft32_r0 1 := ⟨rfl, rfl⟩
@[simp] def a_bits_RotateLeft32_r1 : List COper := [
  ⟨(some 6), .mov, [.t 1], none⟩,
  ⟨(some 7), .convI .u64, [.t 6], none⟩,
  ⟨(some 8), .bin .and, [.t 7, .c (.int .u64 31)], none⟩,
  ⟨(some 5), .mov, [.t 8], none⟩]
def c_bits_RotateLeft32_r1 : List COper := a_bits_RotateLeft32_r1
instance : Reg c_bits_RotateLeft32_r1 a_bits_RotateLeft32_r1 4 := ⟨rfl, rfl⟩
@[simp] def a_bits_RotateLeft32_r2 : List COper := [
  ⟨(some 9), .mov, [.t 0], none⟩,
  ⟨(some 10), .mov, [.t 5], none⟩,
  ⟨(some 11), .bin .shl, [.t 9, .t 10], none⟩,
  ⟨(some 12), .mov, [.t 0], none⟩,
  ⟨(some 13), .mov, [.t 5], none⟩,
  ⟨(some 14), .bin .sub, [.c (.int .u64 32), .t 13], none⟩,
  ⟨(some 15), .bin .shr, [.t 12, .t 14], none⟩,
  ⟨(some 16), .bin .or, [.t 11, .t 15], none⟩,
  ⟨(some 4), .mov, [.t 16], none⟩]
def c_bits_RotateLeft32_r2 : List COper := a_bits_RotateLeft32_r2
instance : Reg c_bits_RotateLeft32_r2 a_bits_RotateLeft32_r2 9 := ⟨rfl, rfl⟩
@[simp] def c_bits_RotateLeft32 : CCode :=
  .seq (.region c_bits_RotateLeft32_r0 none [0, 1]) (.seq (.region c_bits_RotateLeft32_r1 none [0, 5]) (.seq (.region c_bits_RotateLeft32_r2 none [4]) (.ret)))
@[simp] def R_bits_RotateLeft32 : List CRes := [.tmp 4]
theorem k_bits_RotateLeft32 : chkFn Tryd.prog fn_bits_RotateLeft32 c_bits_RotateLeft32 R_bits_RotateLeft32 2 = true := by kernel_rfl

end Go.Proofs.YtbmdaaehogpeeaaDoor.WL
