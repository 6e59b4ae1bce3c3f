/- The program's functions as abstract texts, each held against the program by the kernel. -/
import Derived.Test.YtbmdaaehogpeeaaDoorWm6
import Derived.Test.YtbmdaaehogpeeaaDoorChecked
namespace Go.Proofs.YtbmdaaehogpeeaaDoor.WL
open Go
theorem mix : Tryd.prog.follows .mixedOrders = true := by kernel_rfl
def fn_l18_SnapApart : Nat := 3
def fn_l11_ChunkChecks : Nat := 4
def fn_l11_ChunkParts : Nat := 5
def fn_l18_alive : Nat := 6
def fn_l18_great : Nat := 7
def fn_r18_Read : Nat := 8
def fn_r18_Bytes : Nat := 9
def fn_disk_New : Nat := 10
def fn_snap_Save : Nat := 11
def fn_snap_Load : Nat := 12
def fn_r18_Same : Nat := 13
def fn_l11_alive : Nat := 14
def fn_l11_long : Nat := 15
def fn_chunk_Check : Nat := 16
def fn_r11_Check : Nat := 17
def fn_chunk_Join : Nat := 18
def fn_r11_Join : Nat := 19
def fn_r10_Same : Nat := 20
def fn_r10_Great : Nat := 21
def fn_chunk_Pieces : Nat := 22
def fn_chunk_Bytes : Nat := 23
def fn_l18_one : Nat := 24
def fn_r01_Reader_Digest : Nat := 25
def fn_r01_Reader_In : Nat := 26
def fn_r01_Reader_Text : Nat := 27
def fn_r01_Reader_End : Nat := 28
def fn_r02_Text : Nat := 29
def fn_r11_State : Nat := 30
def fn_r01_Num : Nat := 31
def fn_r01_Digest : Nat := 32
def fn_r01_Text : Nat := 33
def fn_r11_Bytes : Nat := 34
def fn_disk_Disk_Install : Nat := 35
def fn_snap_Bytes : Nat := 36
def fn_disk_Disk_Read : Nat := 37
def fn_snap_Read : Nat := 38
def fn_l11_one : Nat := 39
def fn_chunk_Root : Nat := 40
def fn_chunk_top : Nat := 41
def fn_tree_Check : Nat := 42
def fn_tree_Leaf : Nat := 43
def fn_r11_Top : Nat := 44
def fn_r03_Check : Nat := 45
def fn_r03_Leaf : Nat := 46
def fn_chunk_State : Nat := 47
def fn_r08_Same : Nat := 48
def fn_r09_Same : Nat := 49
def fn_chunk_parts : Nat := 50
def fn_chunk_leaves : Nat := 51
def fn_tree_Path : Nat := 52
def fn_tree_Root : Nat := 53
def fn_config_Write : Nat := 54
def fn_code_Writer_Num : Nat := 55
def fn_code_Writer_Text : Nat := 56
def fn_request_WriteReply : Nat := 57
def fn_code_Writer_Bytes : Nat := 58
def fn_r01_Reader_Take : Nat := 59
def fn_r01_Reader_Num : Nat := 60
def fn_r02_Of : Nat := 61
def fn_r08_Read : Nat := 62
def fn_r01_Reader_Good : Nat := 63
def fn_r09_ReadReply : Nat := 64
def fn_r10_Rises : Nat := 65
def fn_r08_Bytes : Nat := 66
def fn_r09_ReplyBytes : Nat := 67
def fn_disk_Disk_size : Nat := 68
def fn_disk_Disk_act : Nat := 69
def fn_disk_Disk_Off : Nat := 70
def fn_code_Writer_Digest : Nat := 71
def fn_sha_Of : Nat := 72
def fn_code_Read : Nat := 73
def fn_code_Reader_Digest : Nat := 74
def fn_code_Reader_In : Nat := 75
def fn_code_Reader_Text : Nat := 76
def fn_code_Reader_End : Nat := 77
def fn_sha_Pair : Nat := 78
def fn_r03_Pair : Nat := 79
def fn_config_Read : Nat := 80
def fn_request_ReadReply : Nat := 81
def fn_r09_Texts : Nat := 82
def fn_slices_Collect : Nat := 83
def fn_slices_Chunk : Nat := 84
def fn_tree_up : Nat := 85
def fn_r02_Padded : Nat := 86
def fn_r02_Numbers : Nat := 87
def fn_r02_Next : Nat := 88
def fn_r09_nums : Nat := 89
def fn_sha_state_block : Nat := 90
def fn_code_Reader_take : Nat := 91
def fn_code_Reader_Num : Nat := 92
def fn_code_Reader_Good : Nat := 93
def fn_slices_AppendSeq : Nat := 94
def fn_slices_Chunk_1 : Nat := 95
def fn_r02_turn : Nat := 96
def fn_r02_three : Nat := 97
def fn_sha_word : Nat := 98
def fn_bits_RotateLeft32 : Nat := 99
/-! wapentake/wapentakelaw18.SnapApart -/
@[simp] def a_l18_SnapApart_r0 : List COper := [
  ⟨(some 2), .box, [.t 0], none⟩,
  ⟨(some 3), .box, [.t 1], none⟩,
  ⟨(some 4), .mov, [.c (.bool false)], none⟩]
def c_l18_SnapApart_r0 : List COper := a_l18_SnapApart_r0
instance : Reg c_l18_SnapApart_r0 a_l18_SnapApart_r0 3 := ⟨rfl, rfl⟩
@[simp] def a_l18_SnapApart_r1 : List COper := [
  ⟨(some 14), .call fn_l18_alive, [], none⟩,
  ⟨(some 15), .not, [.t 14], none⟩]
def c_l18_SnapApart_r1 : List COper := a_l18_SnapApart_r1
instance : Reg c_l18_SnapApart_r1 a_l18_SnapApart_r1 2 := ⟨rfl, rfl⟩
@[simp] def a_l18_SnapApart_r2 : List COper := [
  ⟨(some 4), .mov, [.c (.bool false)], none⟩]
def c_l18_SnapApart_r2 : List COper := a_l18_SnapApart_r2
instance : Reg c_l18_SnapApart_r2 a_l18_SnapApart_r2 1 := ⟨rfl, rfl⟩
@[simp] def a_l18_SnapApart_r3 : List COper := [
  ⟨(some 16), .load true 37, [.t 2], none⟩,
  ⟨(some 17), .call fn_l18_great, [.t 16], none⟩,
  ⟨(some 18), .mov, [.t 17], none⟩,
  ⟨(some 19), .load true 37, [.t 3], (some (18, false))⟩,
  ⟨(some 20), .call fn_l18_great, [.t 19], (some (18, false))⟩,
  ⟨(some 21), .pick, [.t 18, .c (.bool true), .t 20], none⟩]
def c_l18_SnapApart_r3 : List COper := a_l18_SnapApart_r3
instance : Reg c_l18_SnapApart_r3 a_l18_SnapApart_r3 6 := ⟨rfl, rfl⟩
@[simp] def a_l18_SnapApart_r4 : List COper := [
  ⟨(some 4), .mov, [.c (.bool true)], none⟩]
def c_l18_SnapApart_r4 : List COper := a_l18_SnapApart_r4
instance : Reg c_l18_SnapApart_r4 a_l18_SnapApart_r4 1 := ⟨rfl, rfl⟩
@[simp] def a_l18_SnapApart_r5 : List COper := [
  ⟨(some 23), .load true 37, [.t 2], none⟩,
  ⟨(some 24), .call fn_r18_Bytes, [.t 23], none⟩,
  ⟨(some 25), .call fn_r18_Read, [.t 24], none⟩,
  ⟨(some 22), .mov, [.t 25], none⟩,
  ⟨(some 26), .ext 0, [.t 22], none⟩,
  ⟨(some 27), .ext 1, [.t 22], none⟩,
  ⟨(some 5), .alloc (.node [.v (.int .i64 0), .arr 1 (rep 32 (.v (.int .u8 0))), .node [.v (.slice none 0 0), .v (.slice none 0 0), .node [.v (.int .i64 0), .v (.slice none 0 0)]]]), [], none⟩,
  ⟨none, .store true 37, [.t 5, .t 26], none⟩,
  ⟨(some 6), .mov, [.t 27], none⟩]
def c_l18_SnapApart_r5 : List COper := a_l18_SnapApart_r5
instance : Reg c_l18_SnapApart_r5 a_l18_SnapApart_r5 9 := ⟨rfl, rfl⟩
@[simp] def a_l18_SnapApart_r6 : List COper := [
  ⟨(some 29), .load true 37, [.t 3], none⟩,
  ⟨(some 30), .call fn_r18_Bytes, [.t 29], none⟩,
  ⟨(some 31), .call fn_r18_Read, [.t 30], none⟩,
  ⟨(some 28), .mov, [.t 31], none⟩,
  ⟨(some 32), .ext 0, [.t 28], none⟩,
  ⟨(some 33), .ext 1, [.t 28], none⟩,
  ⟨(some 7), .alloc (.node [.v (.int .i64 0), .arr 1 (rep 32 (.v (.int .u8 0))), .node [.v (.slice none 0 0), .v (.slice none 0 0), .node [.v (.int .i64 0), .v (.slice none 0 0)]]]), [], none⟩,
  ⟨none, .store true 37, [.t 7, .t 32], none⟩,
  ⟨(some 8), .mov, [.t 33], none⟩]
def c_l18_SnapApart_r6 : List COper := a_l18_SnapApart_r6
instance : Reg c_l18_SnapApart_r6 a_l18_SnapApart_r6 9 := ⟨rfl, rfl⟩
@[simp] def a_l18_SnapApart_r7 : List COper := [
  ⟨(some 34), .mov, [.t 6], none⟩,
  ⟨(some 35), .bin .neq, [.t 34, .c (.int .i64 0)], none⟩,
  ⟨(some 36), .mov, [.t 35], none⟩,
  ⟨(some 37), .mov, [.t 8], (some (36, false))⟩,
  ⟨(some 38), .bin .neq, [.t 37, .c (.int .i64 0)], (some (36, false))⟩,
  ⟨(some 39), .pick, [.t 36, .c (.bool true), .t 38], none⟩]
def c_l18_SnapApart_r7 : List COper := a_l18_SnapApart_r7
instance : Reg c_l18_SnapApart_r7 a_l18_SnapApart_r7 6 := ⟨rfl, rfl⟩
@[simp] def a_l18_SnapApart_r8 : List COper := [
  ⟨(some 4), .mov, [.c (.bool true)], none⟩]
def c_l18_SnapApart_r8 : List COper := a_l18_SnapApart_r8
instance : Reg c_l18_SnapApart_r8 a_l18_SnapApart_r8 1 := ⟨rfl, rfl⟩
@[simp] def a_l18_SnapApart_r9 : List COper := [
  ⟨(some 40), .call fn_disk_New, [], none⟩,
  ⟨(some 9), .mov, [.t 40], none⟩]
def c_l18_SnapApart_r9 : List COper := a_l18_SnapApart_r9
instance : Reg c_l18_SnapApart_r9 a_l18_SnapApart_r9 2 := ⟨rfl, rfl⟩
@[simp] def a_l18_SnapApart_r10 : List COper := [
  ⟨(some 41), .mov, [.t 9], none⟩,
  ⟨(some 42), .load true 37, [.t 3], none⟩,
  ⟨(some 43), .call fn_snap_Save, [.t 41, .c (.string (mkS [120])), .t 42], none⟩,
  ⟨(some 44), .bin .neq, [.t 43, .c (.int .i64 0)], none⟩,
  ⟨(some 45), .mov, [.t 44], none⟩,
  ⟨(some 46), .mov, [.t 9], (some (45, false))⟩,
  ⟨(some 47), .load true 37, [.t 3], (some (45, false))⟩,
  ⟨(some 48), .call fn_snap_Save, [.t 46, .c (.string (mkS [121])), .t 47], (some (45, false))⟩,
  ⟨(some 49), .bin .neq, [.t 48, .c (.int .i64 0)], (some (45, false))⟩,
  ⟨(some 50), .pick, [.t 45, .c (.bool true), .t 49], none⟩,
  ⟨(some 51), .mov, [.t 50], none⟩,
  ⟨(some 52), .mov, [.t 9], (some (51, false))⟩,
  ⟨(some 53), .load true 37, [.t 2], (some (51, false))⟩,
  ⟨(some 54), .call fn_snap_Save, [.t 52, .c (.string (mkS [120])), .t 53], (some (51, false))⟩,
  ⟨(some 55), .bin .neq, [.t 54, .c (.int .i64 0)], (some (51, false))⟩,
  ⟨(some 56), .pick, [.t 51, .c (.bool true), .t 55], none⟩]
def c_l18_SnapApart_r10 : List COper := a_l18_SnapApart_r10
instance : Reg c_l18_SnapApart_r10 a_l18_SnapApart_r10 16 := ⟨rfl, rfl⟩
@[simp] def a_l18_SnapApart_r11 : List COper := [
  ⟨(some 4), .mov, [.c (.bool false)], none⟩]
def c_l18_SnapApart_r11 : List COper := a_l18_SnapApart_r11
instance : Reg c_l18_SnapApart_r11 a_l18_SnapApart_r11 1 := ⟨rfl, rfl⟩
@[simp] def a_l18_SnapApart_r12 : List COper := [
  ⟨(some 58), .mov, [.t 9], none⟩,
  ⟨(some 59), .call fn_snap_Load, [.t 58, .c (.string (mkS [120]))], none⟩,
  ⟨(some 57), .mov, [.t 59], none⟩,
  ⟨(some 60), .ext 0, [.t 57], none⟩,
  ⟨(some 61), .ext 1, [.t 57], none⟩,
  ⟨(some 10), .alloc (.node [.v (.int .i64 0), .arr 1 (rep 32 (.v (.int .u8 0))), .node [.v (.slice none 0 0), .v (.slice none 0 0), .node [.v (.int .i64 0), .v (.slice none 0 0)]]]), [], none⟩,
  ⟨none, .store true 37, [.t 10, .t 60], none⟩,
  ⟨(some 11), .mov, [.t 61], none⟩]
def c_l18_SnapApart_r12 : List COper := a_l18_SnapApart_r12
instance : Reg c_l18_SnapApart_r12 a_l18_SnapApart_r12 8 := ⟨rfl, rfl⟩
@[simp] def a_l18_SnapApart_r13 : List COper := [
  ⟨(some 63), .mov, [.t 9], none⟩,
  ⟨(some 64), .call fn_snap_Load, [.t 63, .c (.string (mkS [121]))], none⟩,
  ⟨(some 62), .mov, [.t 64], none⟩,
  ⟨(some 65), .ext 0, [.t 62], none⟩,
  ⟨(some 66), .ext 1, [.t 62], none⟩,
  ⟨(some 12), .alloc (.node [.v (.int .i64 0), .arr 1 (rep 32 (.v (.int .u8 0))), .node [.v (.slice none 0 0), .v (.slice none 0 0), .node [.v (.int .i64 0), .v (.slice none 0 0)]]]), [], none⟩,
  ⟨none, .store true 37, [.t 12, .t 65], none⟩,
  ⟨(some 13), .mov, [.t 66], none⟩]
def c_l18_SnapApart_r13 : List COper := a_l18_SnapApart_r13
instance : Reg c_l18_SnapApart_r13 a_l18_SnapApart_r13 8 := ⟨rfl, rfl⟩
@[simp] def a_l18_SnapApart_r14 : List COper := [
  ⟨(some 67), .mov, [.t 11], none⟩,
  ⟨(some 68), .bin .eql, [.t 67, .c (.int .i64 0)], none⟩,
  ⟨(some 69), .mov, [.t 68], none⟩,
  ⟨(some 70), .mov, [.t 13], (some (69, true))⟩,
  ⟨(some 71), .bin .eql, [.t 70, .c (.int .i64 0)], (some (69, true))⟩,
  ⟨(some 72), .pick, [.t 69, .t 71, .c (.bool false)], none⟩,
  ⟨(some 73), .mov, [.t 72], none⟩,
  ⟨(some 74), .load true 37, [.t 10], (some (73, true))⟩,
  ⟨(some 75), .load true 37, [.t 5], (some (73, true))⟩,
  ⟨(some 76), .call fn_r18_Same, [.t 74, .t 75], (some (73, true))⟩,
  ⟨(some 77), .pick, [.t 73, .t 76, .c (.bool false)], none⟩,
  ⟨(some 78), .mov, [.t 77], none⟩,
  ⟨(some 79), .load true 37, [.t 12], (some (78, true))⟩,
  ⟨(some 80), .load true 37, [.t 7], (some (78, true))⟩,
  ⟨(some 81), .call fn_r18_Same, [.t 79, .t 80], (some (78, true))⟩,
  ⟨(some 82), .pick, [.t 78, .t 81, .c (.bool false)], none⟩,
  ⟨(some 4), .mov, [.t 82], none⟩]
def c_l18_SnapApart_r14 : List COper := a_l18_SnapApart_r14
instance : Reg c_l18_SnapApart_r14 a_l18_SnapApart_r14 17 := ⟨rfl, rfl⟩
@[simp] def c_l18_SnapApart : CCode :=
  .seq (.region c_l18_SnapApart_r0 none [2, 3]) (.seq (.seq (.region c_l18_SnapApart_r1 none [2, 3, 15]) (.cond (.t 15) (.seq (.region c_l18_SnapApart_r2 none [4]) (.ret)) (.skip))) (.seq (.seq (.region c_l18_SnapApart_r3 none [2, 3, 21]) (.cond (.t 21) (.seq (.region c_l18_SnapApart_r4 none [4]) (.ret)) (.skip))) (.seq (.region c_l18_SnapApart_r5 none [2, 3, 5, 6]) (.seq (.region c_l18_SnapApart_r6 none [2, 3, 5, 6, 7, 8]) (.seq (.seq (.region c_l18_SnapApart_r7 none [2, 3, 5, 7, 39]) (.cond (.t 39) (.seq (.region c_l18_SnapApart_r8 none [4]) (.ret)) (.skip))) (.seq (.region c_l18_SnapApart_r9 none [2, 3, 5, 7, 9]) (.seq (.seq (.region c_l18_SnapApart_r10 none [5, 7, 9, 56]) (.cond (.t 56) (.seq (.region c_l18_SnapApart_r11 none [4]) (.ret)) (.skip))) (.seq (.region c_l18_SnapApart_r12 none [5, 7, 9, 10, 11]) (.seq (.region c_l18_SnapApart_r13 none [5, 7, 10, 11, 12, 13]) (.seq (.region c_l18_SnapApart_r14 none [4]) (.ret)))))))))))
@[simp] def R_l18_SnapApart : List CRes := [.tmp 4]
theorem k_l18_SnapApart : chkFn Tryd.prog fn_l18_SnapApart c_l18_SnapApart R_l18_SnapApart 2 = true := by kernel_rfl
/-! wapentake/wapentakelaw18.alive -/
@[simp] def a_l18_alive_r0 : List COper := [
  ⟨(some 0), .mov, [.c (.bool false)], none⟩]
def c_l18_alive_r0 : List COper := a_l18_alive_r0
instance : Reg c_l18_alive_r0 a_l18_alive_r0 1 := ⟨rfl, rfl⟩
@[simp] def a_l18_alive_r1 : List COper := [
  ⟨(some 7), .call fn_disk_New, [], none⟩,
  ⟨(some 1), .mov, [.t 7], none⟩]
def c_l18_alive_r1 : List COper := a_l18_alive_r1
instance : Reg c_l18_alive_r1 a_l18_alive_r1 2 := ⟨rfl, rfl⟩
@[simp] def a_l18_alive_r2 : List COper := [
  ⟨(some 9), .mov, [.t 1], none⟩,
  ⟨(some 10), .call fn_snap_Load, [.t 9, .c (.string (mkS [115]))], none⟩,
  ⟨(some 8), .mov, [.t 10], none⟩,
  ⟨(some 11), .ext 0, [.t 8], none⟩,
  ⟨(some 12), .ext 1, [.t 8], none⟩,
  ⟨(some 2), .alloc (.node [.v (.int .i64 0), .arr 1 (rep 32 (.v (.int .u8 0))), .node [.v (.slice none 0 0), .v (.slice none 0 0), .node [.v (.int .i64 0), .v (.slice none 0 0)]]]), [], none⟩,
  ⟨none, .store true 37, [.t 2, .t 11], none⟩,
  ⟨(some 3), .mov, [.t 12], none⟩]
def c_l18_alive_r2 : List COper := a_l18_alive_r2
instance : Reg c_l18_alive_r2 a_l18_alive_r2 8 := ⟨rfl, rfl⟩
@[simp] def a_l18_alive_r3 : List COper := [
  ⟨(some 13), .mov, [.t 1], none⟩,
  ⟨(some 14), .call fn_l18_one, [], none⟩,
  ⟨(some 15), .call fn_snap_Save, [.t 13, .c (.string (mkS [115])), .t 14], none⟩,
  ⟨(some 4), .mov, [.t 15], none⟩]
def c_l18_alive_r3 : List COper := a_l18_alive_r3
instance : Reg c_l18_alive_r3 a_l18_alive_r3 4 := ⟨rfl, rfl⟩
@[simp] def a_l18_alive_r4 : List COper := [
  ⟨(some 17), .mov, [.t 1], none⟩,
  ⟨(some 18), .call fn_snap_Load, [.t 17, .c (.string (mkS [115]))], none⟩,
  ⟨(some 16), .mov, [.t 18], none⟩,
  ⟨(some 19), .ext 0, [.t 16], none⟩,
  ⟨(some 20), .ext 1, [.t 16], none⟩,
  ⟨(some 5), .alloc (.node [.v (.int .i64 0), .arr 1 (rep 32 (.v (.int .u8 0))), .node [.v (.slice none 0 0), .v (.slice none 0 0), .node [.v (.int .i64 0), .v (.slice none 0 0)]]]), [], none⟩,
  ⟨none, .store true 37, [.t 5, .t 19], none⟩,
  ⟨(some 6), .mov, [.t 20], none⟩]
def c_l18_alive_r4 : List COper := a_l18_alive_r4
instance : Reg c_l18_alive_r4 a_l18_alive_r4 8 := ⟨rfl, rfl⟩
@[simp] def a_l18_alive_r5 : List COper := [
  ⟨(some 21), .mov, [.t 3], none⟩,
  ⟨(some 22), .bin .eql, [.t 21, .c (.int .i64 7)], none⟩,
  ⟨(some 23), .mov, [.t 22], none⟩,
  ⟨(some 24), .mov, [.t 4], (some (23, true))⟩,
  ⟨(some 25), .bin .eql, [.t 24, .c (.int .i64 0)], (some (23, true))⟩,
  ⟨(some 26), .pick, [.t 23, .t 25, .c (.bool false)], none⟩,
  ⟨(some 27), .mov, [.t 26], none⟩,
  ⟨(some 28), .mov, [.t 6], (some (27, true))⟩,
  ⟨(some 29), .bin .eql, [.t 28, .c (.int .i64 0)], (some (27, true))⟩,
  ⟨(some 30), .pick, [.t 27, .t 29, .c (.bool false)], none⟩,
  ⟨(some 31), .mov, [.t 30], none⟩,
  ⟨(some 32), .faddr 0 1 false, [.t 5], (some (31, true))⟩,
  ⟨(some 33), .load false 1, [.t 32], (some (31, true))⟩,
  ⟨(some 34), .bin .eql, [.t 33, .c (.int .i64 3)], (some (31, true))⟩,
  ⟨(some 35), .pick, [.t 31, .t 34, .c (.bool false)], none⟩,
  ⟨(some 0), .mov, [.t 35], none⟩]
def c_l18_alive_r5 : List COper := a_l18_alive_r5
instance : Reg c_l18_alive_r5 a_l18_alive_r5 16 := ⟨rfl, rfl⟩
@[simp] def c_l18_alive : CCode :=
  .seq (.region c_l18_alive_r0 none []) (.seq (.region c_l18_alive_r1 none [1]) (.seq (.region c_l18_alive_r2 none [1, 3]) (.seq (.region c_l18_alive_r3 none [1, 3, 4]) (.seq (.region c_l18_alive_r4 none [3, 4, 5, 6]) (.seq (.region c_l18_alive_r5 none [0]) (.ret))))))
@[simp] def R_l18_alive : List CRes := [.tmp 0]
theorem k_l18_alive : chkFn Tryd.prog fn_l18_alive c_l18_alive R_l18_alive 0 = true := by kernel_rfl
/-! wapentake/wapentakelaw18.great -/
@[simp] def a_l18_great_r0 : List COper := [
  ⟨(some 1), .box, [.t 0], none⟩,
  ⟨(some 2), .mov, [.c (.bool false)], none⟩]
def c_l18_great_r0 : List COper := a_l18_great_r0
instance : Reg c_l18_great_r0 a_l18_great_r0 2 := ⟨rfl, rfl⟩
@[simp] def a_l18_great_r1 : List COper := [
  ⟨(some 3), .faddr 33 4 true, [.t 1], none⟩,
  ⟨(some 4), .load true 4, [.t 3], none⟩,
  ⟨(some 5), .call fn_r10_Great, [.t 4, .c (.int .i64 4096)], none⟩,
  ⟨(some 2), .mov, [.t 5], none⟩]
def c_l18_great_r1 : List COper := a_l18_great_r1
instance : Reg c_l18_great_r1 a_l18_great_r1 4 := ⟨rfl, rfl⟩
@[simp] def c_l18_great : CCode :=
  .seq (.region c_l18_great_r0 none [1]) (.seq (.region c_l18_great_r1 none [2]) (.ret))
@[simp] def R_l18_great : List CRes := [.tmp 2]
theorem k_l18_great : chkFn Tryd.prog fn_l18_great c_l18_great R_l18_great 1 = true := by kernel_rfl
/-! wapentake/wapentakeref18.Read -/
@[simp] def a_r18_Read_r0 : List COper := [
  ⟨(some 2), .alloc (.node [.v (.int .i64 0), .arr 1 (rep 32 (.v (.int .u8 0))), .node [.v (.slice none 0 0), .v (.slice none 0 0), .node [.v (.int .i64 0), .v (.slice none 0 0)]]]), [], none⟩,
  ⟨(some 3), .mov, [.c (.int .i64 0)], none⟩]
def c_r18_Read_r0 : List COper := a_r18_Read_r0
instance : Reg c_r18_Read_r0 a_r18_Read_r0 2 := ⟨rfl, rfl⟩
@[simp] def a_r18_Read_r1 : List COper := [
  ⟨(some 10), .mov, [.t 0], none⟩,
  ⟨(some 11), .build [.v (.string (mkS [])), .v (.bool false)] [0], [.t 10], none⟩,
  ⟨(some 12), .box, [.t 11], none⟩,
  ⟨(some 4), .mov, [.t 12], none⟩]
def c_r18_Read_r1 : List COper := a_r18_Read_r1
instance : Reg c_r18_Read_r1 a_r18_Read_r1 4 := ⟨rfl, rfl⟩
@[simp] def a_r18_Read_r2 : List COper := [
  ⟨(some 13), .mov, [.t 4], none⟩,
  ⟨(some 14), .call fn_r01_Reader_Digest, [.t 13], none⟩,
  ⟨(some 5), .alloc (.arr 1 (rep 32 (.v (.int .u8 0)))), [], none⟩,
  ⟨none, .store true 32, [.t 5, .t 14], none⟩]
def c_r18_Read_r2 : List COper := a_r18_Read_r2
instance : Reg c_r18_Read_r2 a_r18_Read_r2 4 := ⟨rfl, rfl⟩
@[simp] def a_r18_Read_r3 : List COper := [
  ⟨(some 6), .alloc (.node [.v (.int .i64 0), .arr 1 (rep 32 (.v (.int .u8 0))), .node [.v (.slice none 0 0), .v (.slice none 0 0), .node [.v (.int .i64 0), .v (.slice none 0 0)]]]), [], none⟩]
def c_r18_Read_r3 : List COper := a_r18_Read_r3
instance : Reg c_r18_Read_r3 a_r18_Read_r3 1 := ⟨rfl, rfl⟩
@[simp] def a_r18_Read_r4 : List COper := [
  ⟨(some 15), .mov, [.t 4], none⟩,
  ⟨(some 16), .call fn_r01_Reader_In, [.t 15, .c (.int .i64 0), .c (.int .i64 1024)], none⟩,
  ⟨(some 17), .faddr 0 1 false, [.t 6], none⟩,
  ⟨none, .store false 1, [.t 17, .t 16], none⟩]
def c_r18_Read_r4 : List COper := a_r18_Read_r4
instance : Reg c_r18_Read_r4 a_r18_Read_r4 4 := ⟨rfl, rfl⟩
@[simp] def a_r18_Read_r5 : List COper := [
  ⟨(some 18), .mov, [.t 4], none⟩,
  ⟨(some 19), .call fn_r01_Reader_Digest, [.t 18], none⟩,
  ⟨(some 20), .faddr 1 32 true, [.t 6], none⟩,
  ⟨none, .store true 32, [.t 20, .t 19], none⟩]
def c_r18_Read_r5 : List COper := a_r18_Read_r5
instance : Reg c_r18_Read_r5 a_r18_Read_r5 4 := ⟨rfl, rfl⟩
@[simp] def a_r18_Read_r6 : List COper := [
  ⟨(some 21), .mov, [.t 4], none⟩,
  ⟨(some 22), .call fn_r01_Reader_Text, [.t 21, .c (.int .i64 4194304)], none⟩,
  ⟨(some 7), .mov, [.t 22], none⟩]
def c_r18_Read_r6 : List COper := a_r18_Read_r6
instance : Reg c_r18_Read_r6 a_r18_Read_r6 3 := ⟨rfl, rfl⟩
@[simp] def a_r18_Read_r7 : List COper := [
  ⟨(some 23), .mov, [.t 4], none⟩,
  ⟨(some 24), .call fn_r01_Reader_End, [.t 23], none⟩,
  ⟨(some 25), .not, [.t 24], none⟩,
  ⟨(some 26), .mov, [.t 25], none⟩,
  ⟨(some 27), .mov, [.t 0], (some (26, false))⟩,
  ⟨(some 28), .sliceStr true false, [.t 27, .c (.int .i64 32)], (some (26, false))⟩,
  ⟨(some 29), .bin .add, [.c (.string (mkS [115, 110, 97, 112])), .t 28], (some (26, false))⟩,
  ⟨(some 30), .call fn_r02_Text, [.t 29], (some (26, false))⟩,
  ⟨(some 31), .load true 32, [.t 5], (some (26, false))⟩,
  ⟨(some 32), .eqa true .u8 32, [.t 30, .t 31], (some (26, false))⟩,
  ⟨(some 33), .pick, [.t 26, .c (.bool true), .t 32], none⟩]
def c_r18_Read_r7 : List COper := a_r18_Read_r7
instance : Reg c_r18_Read_r7 a_r18_Read_r7 11 := ⟨rfl, rfl⟩
@[simp] def a_r18_Read_r8 : List COper := [
  ⟨(some 34), .build [.v (.int .i64 0), .arr 1 (rep 32 (.v (.int .u8 0))), .node [.v (.slice none 0 0), .v (.slice none 0 0), .node [.v (.int .i64 0), .v (.slice none 0 0)]]] [], [], none⟩,
  ⟨none, .store true 37, [.t 2, .t 34], none⟩,
  ⟨(some 3), .mov, [.c (.int .i64 4)], none⟩]
def c_r18_Read_r8 : List COper := a_r18_Read_r8
instance : Reg c_r18_Read_r8 a_r18_Read_r8 3 := ⟨rfl, rfl⟩
@[simp] def a_r18_Read_r9 : List COper := [
  ⟨(some 36), .mov, [.t 7], none⟩,
  ⟨(some 37), .call fn_r11_State, [.t 36], none⟩,
  ⟨(some 35), .mov, [.t 37], none⟩,
  ⟨(some 38), .ext 0, [.t 35], none⟩,
  ⟨(some 39), .ext 1, [.t 35], none⟩,
  ⟨(some 8), .alloc (.node [.v (.slice none 0 0), .v (.slice none 0 0), .node [.v (.int .i64 0), .v (.slice none 0 0)]]), [], none⟩,
  ⟨none, .store true 4, [.t 8, .t 38], none⟩,
  ⟨(some 9), .mov, [.t 39], none⟩]
def c_r18_Read_r9 : List COper := a_r18_Read_r9
instance : Reg c_r18_Read_r9 a_r18_Read_r9 8 := ⟨rfl, rfl⟩
@[simp] def a_r18_Read_r10 : List COper := [
  ⟨(some 40), .mov, [.t 9], none⟩,
  ⟨(some 41), .bin .neq, [.t 40, .c (.int .i64 0)], none⟩]
def c_r18_Read_r10 : List COper := a_r18_Read_r10
instance : Reg c_r18_Read_r10 a_r18_Read_r10 2 := ⟨rfl, rfl⟩
@[simp] def a_r18_Read_r11 : List COper := [
  ⟨(some 42), .build [.v (.int .i64 0), .arr 1 (rep 32 (.v (.int .u8 0))), .node [.v (.slice none 0 0), .v (.slice none 0 0), .node [.v (.int .i64 0), .v (.slice none 0 0)]]] [], [], none⟩,
  ⟨none, .store true 37, [.t 2, .t 42], none⟩,
  ⟨(some 3), .mov, [.c (.int .i64 4)], none⟩]
def c_r18_Read_r11 : List COper := a_r18_Read_r11
instance : Reg c_r18_Read_r11 a_r18_Read_r11 3 := ⟨rfl, rfl⟩
@[simp] def a_r18_Read_r12 : List COper := [
  ⟨(some 43), .load true 4, [.t 8], none⟩,
  ⟨(some 44), .faddr 33 4 true, [.t 6], none⟩,
  ⟨none, .store true 4, [.t 44, .t 43], none⟩]
def c_r18_Read_r12 : List COper := a_r18_Read_r12
instance : Reg c_r18_Read_r12 a_r18_Read_r12 3 := ⟨rfl, rfl⟩
@[simp] def a_r18_Read_r13 : List COper := [
  ⟨(some 45), .load true 37, [.t 6], none⟩,
  ⟨none, .store true 37, [.t 2, .t 45], none⟩,
  ⟨(some 3), .mov, [.c (.int .i64 0)], none⟩]
def c_r18_Read_r13 : List COper := a_r18_Read_r13
instance : Reg c_r18_Read_r13 a_r18_Read_r13 3 := ⟨rfl, rfl⟩
@[simp] def c_r18_Read : CCode :=
  .seq (.region c_r18_Read_r0 none [0, 2]) (.seq (.region c_r18_Read_r1 none [0, 2, 4]) (.seq (.region c_r18_Read_r2 none [0, 2, 4, 5]) (.seq (.region c_r18_Read_r3 none [0, 2, 4, 5, 6]) (.seq (.region c_r18_Read_r4 none [0, 2, 4, 5, 6]) (.seq (.region c_r18_Read_r5 none [0, 2, 4, 5, 6]) (.seq (.region c_r18_Read_r6 none [0, 2, 4, 5, 6, 7]) (.seq (.seq (.region c_r18_Read_r7 (some ([0, 1, 3, 7, 15, 31, 63, 127, 15, 511, 1023], [(7, 8)])) [2, 6, 7, 33]) (.cond (.t 33) (.seq (.region c_r18_Read_r8 none [2, 3]) (.ret)) (.skip))) (.seq (.region c_r18_Read_r9 none [2, 6, 8, 9]) (.seq (.seq (.region c_r18_Read_r10 none [2, 6, 8, 41]) (.cond (.t 41) (.seq (.region c_r18_Read_r11 none [2, 3]) (.ret)) (.skip))) (.seq (.region c_r18_Read_r12 none [2, 6]) (.seq (.region c_r18_Read_r13 none [2, 3]) (.ret))))))))))))
@[simp] def R_r18_Read : List CRes := [.cell 2 true 37, .tmp 3]
theorem k_r18_Read : chkFn Tryd.prog fn_r18_Read c_r18_Read R_r18_Read 1 = true := by kernel_rfl
/-! wapentake/wapentakeref18.Bytes -/
@[simp] def a_r18_Bytes_r0 : List COper := [
  ⟨(some 1), .box, [.t 0], none⟩,
  ⟨(some 2), .mov, [.c (.string (mkS []))], none⟩]
def c_r18_Bytes_r0 : List COper := a_r18_Bytes_r0
instance : Reg c_r18_Bytes_r0 a_r18_Bytes_r0 2 := ⟨rfl, rfl⟩
@[simp] def a_r18_Bytes_r1 : List COper := [
  ⟨(some 4), .faddr 0 1 false, [.t 1], none⟩,
  ⟨(some 5), .load false 1, [.t 4], none⟩,
  ⟨(some 6), .call fn_r01_Num, [.t 5], none⟩,
  ⟨(some 7), .faddr 1 32 true, [.t 1], none⟩,
  ⟨(some 8), .load true 32, [.t 7], none⟩,
  ⟨(some 9), .call fn_r01_Digest, [.t 8], none⟩,
  ⟨(some 10), .bin .add, [.t 6, .t 9], none⟩,
  ⟨(some 11), .faddr 33 4 true, [.t 1], none⟩,
  ⟨(some 12), .load true 4, [.t 11], none⟩,
  ⟨(some 13), .call fn_r11_Bytes, [.t 12], none⟩,
  ⟨(some 14), .call fn_r01_Text, [.t 13], none⟩,
  ⟨(some 15), .bin .add, [.t 10, .t 14], none⟩,
  ⟨(some 3), .mov, [.t 15], none⟩]
def c_r18_Bytes_r1 : List COper := a_r18_Bytes_r1
instance : Reg c_r18_Bytes_r1 a_r18_Bytes_r1 13 := ⟨rfl, rfl⟩
@[simp] def a_r18_Bytes_r2 : List COper := [
  ⟨(some 16), .mov, [.t 3], none⟩,
  ⟨(some 17), .bin .add, [.c (.string (mkS [115, 110, 97, 112])), .t 16], none⟩,
  ⟨(some 18), .call fn_r02_Text, [.t 17], none⟩,
  ⟨(some 19), .call fn_r01_Digest, [.t 18], none⟩,
  ⟨(some 20), .mov, [.t 3], none⟩,
  ⟨(some 21), .bin .add, [.t 19, .t 20], none⟩,
  ⟨(some 2), .mov, [.t 21], none⟩]
def c_r18_Bytes_r2 : List COper := a_r18_Bytes_r2
instance : Reg c_r18_Bytes_r2 a_r18_Bytes_r2 7 := ⟨rfl, rfl⟩
@[simp] def c_r18_Bytes : CCode :=
  .seq (.region c_r18_Bytes_r0 none [1]) (.seq (.region c_r18_Bytes_r1 (some ([0, 1, 3, 0, 8, 31, 63, 0, 128, 447, 959, 2047, 4095], [(2, 4), (2, 8), (5, 8)])) [3]) (.seq (.region c_r18_Bytes_r2 none [2]) (.ret)))
@[simp] def R_r18_Bytes : List CRes := [.tmp 2]
theorem k_r18_Bytes : chkFn Tryd.prog fn_r18_Bytes c_r18_Bytes R_r18_Bytes 1 = true := by kernel_rfl
/-! wapentake/disk.New -/
@[simp] def a_disk_New_r0 : List COper := [
  ⟨(some 0), .mov, [.c (.pointer none)], none⟩]
def c_disk_New_r0 : List COper := a_disk_New_r0
instance : Reg c_disk_New_r0 a_disk_New_r0 1 := ⟨rfl, rfl⟩
@[simp] def a_disk_New_r1 : List COper := [
  ⟨(some 1), .mkmap false 1 false 1, [], none⟩,
  ⟨(some 2), .build [.v (.map none), .v (.bool false), .v (.int .i64 0), .v (.int .i64 0), .v (.int .i64 0)] [0], [.t 1], none⟩,
  ⟨(some 3), .box, [.t 2], none⟩,
  ⟨(some 0), .mov, [.t 3], none⟩]
def c_disk_New_r1 : List COper := a_disk_New_r1
instance : Reg c_disk_New_r1 a_disk_New_r1 4 := ⟨rfl, rfl⟩
@[simp] def c_disk_New : CCode :=
  .seq (.region c_disk_New_r0 none []) (.seq (.region c_disk_New_r1 none [0]) (.ret))
@[simp] def R_disk_New : List CRes := [.tmp 0]
theorem k_disk_New : chkFn Tryd.prog fn_disk_New c_disk_New R_disk_New 0 = true := by kernel_rfl
/-! wapentake/snap.Save -/
@[simp] def a_snap_Save_r0 : List COper := [
  ⟨(some 5), .box, [.t 2], none⟩,
  ⟨(some 6), .mov, [.c (.int .i64 0)], none⟩]
def c_snap_Save_r0 : List COper := a_snap_Save_r0
instance : Reg c_snap_Save_r0 a_snap_Save_r0 2 := ⟨rfl, rfl⟩
@[simp] def a_snap_Save_r1 : List COper := [
  ⟨(some 7), .mov, [.t 0], none⟩,
  ⟨(some 8), .mov, [.t 1], none⟩,
  ⟨(some 9), .load true 37, [.t 5], none⟩,
  ⟨(some 10), .call fn_snap_Bytes, [.t 9], none⟩,
  ⟨(some 11), .call fn_disk_Disk_Install, [.t 7, .t 8, .t 10], none⟩,
  ⟨(some 6), .mov, [.t 11], none⟩]
def c_snap_Save_r1 : List COper := a_snap_Save_r1
instance : Reg c_snap_Save_r1 a_snap_Save_r1 6 := ⟨rfl, rfl⟩
@[simp] def c_snap_Save : CCode :=
  .seq (.region c_snap_Save_r0 none [0, 1, 5]) (.seq (.region c_snap_Save_r1 none [6]) (.ret))
@[simp] def R_snap_Save : List CRes := [.tmp 6]
theorem k_snap_Save : chkFn Tryd.prog fn_snap_Save c_snap_Save R_snap_Save 3 = true := by kernel_rfl
/-! wapentake/snap.Load -/
@[simp] def a_snap_Load_r0 : List COper := [
  ⟨(some 4), .alloc (.node [.v (.int .i64 0), .arr 1 (rep 32 (.v (.int .u8 0))), .node [.v (.slice none 0 0), .v (.slice none 0 0), .node [.v (.int .i64 0), .v (.slice none 0 0)]]]), [], none⟩,
  ⟨(some 5), .mov, [.c (.int .i64 0)], none⟩]
def c_snap_Load_r0 : List COper := a_snap_Load_r0
instance : Reg c_snap_Load_r0 a_snap_Load_r0 2 := ⟨rfl, rfl⟩
@[simp] def a_snap_Load_r1 : List COper := [
  ⟨(some 9), .mov, [.t 0], none⟩,
  ⟨(some 10), .mov, [.t 1], none⟩,
  ⟨(some 11), .call fn_disk_Disk_Read, [.t 9, .t 10], none⟩,
  ⟨(some 8), .mov, [.t 11], none⟩,
  ⟨(some 12), .ext 0, [.t 8], none⟩,
  ⟨(some 13), .ext 1, [.t 8], none⟩,
  ⟨(some 6), .mov, [.t 12], none⟩,
  ⟨(some 7), .mov, [.t 13], none⟩]
def c_snap_Load_r1 : List COper := a_snap_Load_r1
instance : Reg c_snap_Load_r1 a_snap_Load_r1 8 := ⟨rfl, rfl⟩
@[simp] def a_snap_Load_r2 : List COper := [
  ⟨(some 14), .mov, [.t 7], none⟩,
  ⟨(some 15), .bin .neq, [.t 14, .c (.int .i64 0)], none⟩]
def c_snap_Load_r2 : List COper := a_snap_Load_r2
instance : Reg c_snap_Load_r2 a_snap_Load_r2 2 := ⟨rfl, rfl⟩
@[simp] def a_snap_Load_r3 : List COper := [
  ⟨(some 16), .build [.v (.int .i64 0), .arr 1 (rep 32 (.v (.int .u8 0))), .node [.v (.slice none 0 0), .v (.slice none 0 0), .node [.v (.int .i64 0), .v (.slice none 0 0)]]] [], [], none⟩,
  ⟨(some 17), .mov, [.t 7], none⟩,
  ⟨none, .store true 37, [.t 4, .t 16], none⟩,
  ⟨(some 5), .mov, [.t 17], none⟩]
def c_snap_Load_r3 : List COper := a_snap_Load_r3
instance : Reg c_snap_Load_r3 a_snap_Load_r3 4 := ⟨rfl, rfl⟩
@[simp] def a_snap_Load_r4 : List COper := [
  ⟨(some 18), .mov, [.t 6], none⟩,
  ⟨(some 19), .call fn_snap_Read, [.t 18], none⟩,
  ⟨(some 20), .ext 0, [.t 19], none⟩,
  ⟨(some 21), .ext 1, [.t 19], none⟩,
  ⟨none, .store true 37, [.t 4, .t 20], none⟩,
  ⟨(some 5), .mov, [.t 21], none⟩]
def c_snap_Load_r4 : List COper := a_snap_Load_r4
instance : Reg c_snap_Load_r4 a_snap_Load_r4 6 := ⟨rfl, rfl⟩
@[simp] def c_snap_Load : CCode :=
  .seq (.region c_snap_Load_r0 none [0, 1, 4]) (.seq (.region c_snap_Load_r1 none [4, 6, 7]) (.seq (.seq (.region c_snap_Load_r2 none [4, 6, 7, 15]) (.cond (.t 15) (.seq (.region c_snap_Load_r3 none [4, 5]) (.ret)) (.skip))) (.seq (.region c_snap_Load_r4 none [4, 5]) (.ret))))
@[simp] def R_snap_Load : List CRes := [.cell 4 true 37, .tmp 5]
theorem k_snap_Load : chkFn Tryd.prog fn_snap_Load c_snap_Load R_snap_Load 2 = true := by kernel_rfl
/-! wapentake/wapentakeref18.Same -/
@[simp] def a_r18_Same_r0 : List COper := [
  ⟨(some 2), .box, [.t 0], none⟩,
  ⟨(some 3), .box, [.t 1], none⟩,
  ⟨(some 4), .mov, [.c (.bool false)], none⟩]
def c_r18_Same_r0 : List COper := a_r18_Same_r0
instance : Reg c_r18_Same_r0 a_r18_Same_r0 3 := ⟨rfl, rfl⟩
@[simp] def a_r18_Same_r1 : List COper := [
  ⟨(some 5), .faddr 0 1 false, [.t 2], none⟩,
  ⟨(some 6), .load false 1, [.t 5], none⟩,
  ⟨(some 7), .faddr 0 1 false, [.t 3], none⟩,
  ⟨(some 8), .load false 1, [.t 7], none⟩,
  ⟨(some 9), .bin .eql, [.t 6, .t 8], none⟩,
  ⟨(some 10), .mov, [.t 9], none⟩,
  ⟨(some 11), .faddr 1 32 true, [.t 2], (some (10, true))⟩,
  ⟨(some 12), .load true 32, [.t 11], (some (10, true))⟩,
  ⟨(some 13), .faddr 1 32 true, [.t 3], (some (10, true))⟩,
  ⟨(some 14), .load true 32, [.t 13], (some (10, true))⟩,
  ⟨(some 15), .eqa false .u8 32, [.t 12, .t 14], (some (10, true))⟩,
  ⟨(some 16), .pick, [.t 10, .t 15, .c (.bool false)], none⟩,
  ⟨(some 17), .mov, [.t 16], none⟩,
  ⟨(some 18), .faddr 33 4 true, [.t 2], (some (17, true))⟩,
  ⟨(some 19), .load true 4, [.t 18], (some (17, true))⟩,
  ⟨(some 20), .faddr 33 4 true, [.t 3], (some (17, true))⟩,
  ⟨(some 21), .load true 4, [.t 20], (some (17, true))⟩,
  ⟨(some 22), .call fn_r10_Same, [.t 19, .t 21], (some (17, true))⟩,
  ⟨(some 23), .pick, [.t 17, .t 22, .c (.bool false)], none⟩,
  ⟨(some 4), .mov, [.t 23], none⟩]
def c_r18_Same_r1 : List COper := a_r18_Same_r1
instance : Reg c_r18_Same_r1 a_r18_Same_r1 20 := ⟨rfl, rfl⟩
@[simp] def c_r18_Same : CCode :=
  .seq (.region c_r18_Same_r0 none [2, 3]) (.seq (.region c_r18_Same_r1 none [4]) (.ret))
@[simp] def R_r18_Same : List CRes := [.tmp 4]
theorem k_r18_Same : chkFn Tryd.prog fn_r18_Same c_r18_Same R_r18_Same 2 = true := by kernel_rfl
/-! wapentake/wapentakeref10.Same -/
@[simp] def a_r10_Same_r0 : List COper := [
  ⟨(some 2), .box, [.t 0], none⟩,
  ⟨(some 3), .box, [.t 1], none⟩,
  ⟨(some 4), .mov, [.c (.bool false)], none⟩]
def c_r10_Same_r0 : List COper := a_r10_Same_r0
instance : Reg c_r10_Same_r0 a_r10_Same_r0 3 := ⟨rfl, rfl⟩
@[simp] def a_r10_Same_r1 : List COper := [
  ⟨(some 7), .faddr 0 1 false, [.t 2], none⟩,
  ⟨(some 8), .load false 1, [.t 7], none⟩,
  ⟨(some 9), .len, [.t 8], none⟩,
  ⟨(some 10), .faddr 0 1 false, [.t 3], none⟩,
  ⟨(some 11), .load false 1, [.t 10], none⟩,
  ⟨(some 12), .len, [.t 11], none⟩,
  ⟨(some 13), .bin .neq, [.t 9, .t 12], none⟩,
  ⟨(some 14), .mov, [.t 13], none⟩,
  ⟨(some 15), .faddr 1 1 false, [.t 2], (some (14, false))⟩,
  ⟨(some 16), .load false 1, [.t 15], (some (14, false))⟩,
  ⟨(some 17), .len, [.t 16], (some (14, false))⟩,
  ⟨(some 18), .faddr 1 1 false, [.t 3], (some (14, false))⟩,
  ⟨(some 19), .load false 1, [.t 18], (some (14, false))⟩,
  ⟨(some 20), .len, [.t 19], (some (14, false))⟩,
  ⟨(some 21), .bin .neq, [.t 17, .t 20], (some (14, false))⟩,
  ⟨(some 22), .pick, [.t 14, .c (.bool true), .t 21], none⟩,
  ⟨(some 23), .mov, [.t 22], none⟩,
  ⟨(some 24), .faddr 2 2 true, [.t 2], (some (23, false))⟩,
  ⟨(some 25), .load true 2, [.t 24], (some (23, false))⟩,
  ⟨(some 26), .faddr 2 2 true, [.t 3], (some (23, false))⟩,
  ⟨(some 27), .load true 2, [.t 26], (some (23, false))⟩,
  ⟨(some 28), .call fn_r08_Same, [.t 25, .t 27], (some (23, false))⟩,
  ⟨(some 29), .not, [.t 28], (some (23, false))⟩,
  ⟨(some 30), .pick, [.t 23, .c (.bool true), .t 29], none⟩]
def c_r10_Same_r1 : List COper := a_r10_Same_r1
instance : Reg c_r10_Same_r1 a_r10_Same_r1 24 := ⟨rfl, rfl⟩
@[simp] def a_r10_Same_r2 : List COper := [
  ⟨(some 4), .mov, [.c (.bool false)], none⟩]
def c_r10_Same_r2 : List COper := a_r10_Same_r2
instance : Reg c_r10_Same_r2 a_r10_Same_r2 1 := ⟨rfl, rfl⟩
@[simp] def a_r10_Same_r3 : List COper := [
  ⟨(some 31), .faddr 0 1 false, [.t 2], none⟩,
  ⟨(some 32), .load false 1, [.t 31], none⟩,
  ⟨(some 33), .len, [.t 32], none⟩,
  ⟨(some 34), .mov, [.c (.int .i64 0)], none⟩]
def c_r10_Same_r3 : List COper := a_r10_Same_r3
instance : Reg c_r10_Same_r3 a_r10_Same_r3 4 := ⟨rfl, rfl⟩
@[simp] def a_r10_Same_r4 : List COper := [
  ⟨(some 35), .bin .lss, [.t 34, .t 33], none⟩]
def c_r10_Same_r4 : List COper := a_r10_Same_r4
instance : Reg c_r10_Same_r4 a_r10_Same_r4 1 := ⟨rfl, rfl⟩
@[simp] def a_r10_Same_r5 : List COper := [
  ⟨(some 36), .mov, [.t 34], none⟩,
  ⟨(some 5), .mov, [.t 36], none⟩]
def c_r10_Same_r5 : List COper := a_r10_Same_r5
instance : Reg c_r10_Same_r5 a_r10_Same_r5 2 := ⟨rfl, rfl⟩
@[simp] def a_r10_Same_r6 : List COper := [
  ⟨(some 37), .faddr 0 1 false, [.t 2], none⟩,
  ⟨(some 38), .load false 1, [.t 37], none⟩,
  ⟨(some 39), .mov, [.t 5], none⟩,
  ⟨(some 40), .iaddr 2, [.t 38, .t 39], none⟩,
  ⟨(some 41), .load true 2, [.t 40], none⟩,
  ⟨(some 42), .faddr 0 1 false, [.t 3], none⟩,
  ⟨(some 43), .load false 1, [.t 42], none⟩,
  ⟨(some 44), .mov, [.t 5], none⟩,
  ⟨(some 45), .iaddr 2, [.t 43, .t 44], none⟩,
  ⟨(some 46), .load true 2, [.t 45], none⟩,
  ⟨(some 47), .eqs true (.st [.str, .str]), [.t 41, .t 46], none⟩]
def c_r10_Same_r6 : List COper := a_r10_Same_r6
instance : Reg c_r10_Same_r6 a_r10_Same_r6 11 := ⟨rfl, rfl⟩
@[simp] def a_r10_Same_r7 : List COper := [
  ⟨(some 4), .mov, [.c (.bool false)], none⟩]
def c_r10_Same_r7 : List COper := a_r10_Same_r7
instance : Reg c_r10_Same_r7 a_r10_Same_r7 1 := ⟨rfl, rfl⟩
@[simp] def a_r10_Same_r8 : List COper := [
  ⟨(some 48), .bin .add, [.t 34, .c (.int .i64 1)], none⟩,
  ⟨(some 34), .mov, [.t 48], none⟩]
def c_r10_Same_r8 : List COper := a_r10_Same_r8
instance : Reg c_r10_Same_r8 a_r10_Same_r8 2 := ⟨rfl, rfl⟩
@[simp] def a_r10_Same_r9 : List COper := [
  ⟨(some 49), .faddr 1 1 false, [.t 2], none⟩,
  ⟨(some 50), .load false 1, [.t 49], none⟩,
  ⟨(some 51), .len, [.t 50], none⟩,
  ⟨(some 52), .mov, [.c (.int .i64 0)], none⟩]
def c_r10_Same_r9 : List COper := a_r10_Same_r9
instance : Reg c_r10_Same_r9 a_r10_Same_r9 4 := ⟨rfl, rfl⟩
@[simp] def a_r10_Same_r10 : List COper := [
  ⟨(some 53), .bin .lss, [.t 52, .t 51], none⟩]
def c_r10_Same_r10 : List COper := a_r10_Same_r10
instance : Reg c_r10_Same_r10 a_r10_Same_r10 1 := ⟨rfl, rfl⟩
@[simp] def a_r10_Same_r11 : List COper := [
  ⟨(some 54), .mov, [.t 52], none⟩,
  ⟨(some 6), .mov, [.t 54], none⟩]
def c_r10_Same_r11 : List COper := a_r10_Same_r11
instance : Reg c_r10_Same_r11 a_r10_Same_r11 2 := ⟨rfl, rfl⟩
@[simp] def a_r10_Same_r12 : List COper := [
  ⟨(some 55), .faddr 1 1 false, [.t 2], none⟩,
  ⟨(some 56), .load false 1, [.t 55], none⟩,
  ⟨(some 57), .mov, [.t 6], none⟩,
  ⟨(some 58), .iaddr 4, [.t 56, .t 57], none⟩,
  ⟨(some 59), .load true 4, [.t 58], none⟩,
  ⟨(some 60), .faddr 1 1 false, [.t 3], none⟩,
  ⟨(some 61), .load false 1, [.t 60], none⟩,
  ⟨(some 62), .mov, [.t 6], none⟩,
  ⟨(some 63), .iaddr 4, [.t 61, .t 62], none⟩,
  ⟨(some 64), .load true 4, [.t 63], none⟩,
  ⟨(some 65), .call fn_r09_Same, [.t 59, .t 64], none⟩,
  ⟨(some 66), .not, [.t 65], none⟩]
def c_r10_Same_r12 : List COper := a_r10_Same_r12
instance : Reg c_r10_Same_r12 a_r10_Same_r12 12 := ⟨rfl, rfl⟩
@[simp] def a_r10_Same_r13 : List COper := [
  ⟨(some 4), .mov, [.c (.bool false)], none⟩]
def c_r10_Same_r13 : List COper := a_r10_Same_r13
instance : Reg c_r10_Same_r13 a_r10_Same_r13 1 := ⟨rfl, rfl⟩
@[simp] def a_r10_Same_r14 : List COper := [
  ⟨(some 67), .bin .add, [.t 52, .c (.int .i64 1)], none⟩,
  ⟨(some 52), .mov, [.t 67], none⟩]
def c_r10_Same_r14 : List COper := a_r10_Same_r14
instance : Reg c_r10_Same_r14 a_r10_Same_r14 2 := ⟨rfl, rfl⟩
@[simp] def a_r10_Same_r15 : List COper := [
  ⟨(some 4), .mov, [.c (.bool true)], none⟩]
def c_r10_Same_r15 : List COper := a_r10_Same_r15
instance : Reg c_r10_Same_r15 a_r10_Same_r15 1 := ⟨rfl, rfl⟩
@[simp] def c_r10_Same : CCode :=
  .seq (.region c_r10_Same_r0 none [2, 3]) (.seq (.seq (.region c_r10_Same_r1 none [2, 3, 30]) (.cond (.t 30) (.seq (.region c_r10_Same_r2 none [4]) (.ret)) (.skip))) (.seq (.seq (.region c_r10_Same_r3 none [2, 3, 33, 34]) (.block 0 (.loop (.seq (.region c_r10_Same_r4 none [2, 3, 33, 34, 35]) (.seq (.cond (.t 35) (.skip) (.exit 0)) (.seq (.block 1 (.seq (.region c_r10_Same_r5 none [2, 3, 5, 33, 34]) (.seq (.region c_r10_Same_r6 (some ([0, 1, 0, 7, 15, 0, 32, 0, 224, 480, 1023], [])) [2, 3, 33, 34, 47]) (.cond (.t 47) (.seq (.region c_r10_Same_r7 none [4]) (.ret)) (.skip))))) (.region c_r10_Same_r8 none [2, 3, 33, 34]))))))) (.seq (.seq (.region c_r10_Same_r9 none [2, 3, 51, 52]) (.block 2 (.loop (.seq (.region c_r10_Same_r10 none [2, 3, 51, 52, 53]) (.seq (.cond (.t 53) (.skip) (.exit 2)) (.seq (.block 3 (.seq (.region c_r10_Same_r11 none [2, 3, 6, 51, 52]) (.seq (.region c_r10_Same_r12 (some ([0, 1, 0, 7, 15, 0, 32, 0, 224, 480, 1023, 2047], [])) [2, 3, 51, 52, 66]) (.cond (.t 66) (.seq (.region c_r10_Same_r13 none [4]) (.ret)) (.skip))))) (.region c_r10_Same_r14 none [2, 3, 51, 52]))))))) (.seq (.region c_r10_Same_r15 none [4]) (.ret)))))
@[simp] def R_r10_Same : List CRes := [.tmp 4]
theorem k_r10_Same : chkFn Tryd.prog fn_r10_Same c_r10_Same R_r10_Same 2 = true := by kernel_rfl
/-! wapentake/wapentakeref10.Great -/
@[simp] def a_r10_Great_r0 : List COper := [
  ⟨(some 2), .box, [.t 0], none⟩,
  ⟨(some 4), .mov, [.c (.bool false)], none⟩]
def c_r10_Great_r0 : List COper := a_r10_Great_r0
instance : Reg c_r10_Great_r0 a_r10_Great_r0 2 := ⟨rfl, rfl⟩
@[simp] def a_r10_Great_r1 : List COper := [
  ⟨(some 12), .faddr 0 1 false, [.t 2], none⟩,
  ⟨(some 13), .load false 1, [.t 12], none⟩,
  ⟨(some 14), .len, [.t 13], none⟩,
  ⟨(some 15), .bin .gtr, [.t 14, .c (.int .i64 300)], none⟩,
  ⟨(some 16), .mov, [.t 15], none⟩,
  ⟨(some 17), .faddr 1 1 false, [.t 2], (some (16, false))⟩,
  ⟨(some 18), .load false 1, [.t 17], (some (16, false))⟩,
  ⟨(some 19), .len, [.t 18], (some (16, false))⟩,
  ⟨(some 20), .bin .gtr, [.t 19, .c (.int .i64 100)], (some (16, false))⟩,
  ⟨(some 21), .pick, [.t 16, .c (.bool true), .t 20], none⟩,
  ⟨(some 22), .mov, [.t 21], none⟩,
  ⟨(some 23), .faddr 2 2 true, [.t 2], (some (22, false))⟩,
  ⟨(some 24), .faddr 1 1 false, [.t 23], (some (22, false))⟩,
  ⟨(some 25), .load false 1, [.t 24], (some (22, false))⟩,
  ⟨(some 26), .len, [.t 25], (some (22, false))⟩,
  ⟨(some 27), .bin .gtr, [.t 26, .c (.int .i64 20)], (some (22, false))⟩,
  ⟨(some 28), .pick, [.t 22, .c (.bool true), .t 27], none⟩]
def c_r10_Great_r1 : List COper := a_r10_Great_r1
instance : Reg c_r10_Great_r1 a_r10_Great_r1 17 := ⟨rfl, rfl⟩
@[simp] def a_r10_Great_r2 : List COper := [
  ⟨(some 4), .mov, [.c (.bool true)], none⟩]
def c_r10_Great_r2 : List COper := a_r10_Great_r2
instance : Reg c_r10_Great_r2 a_r10_Great_r2 1 := ⟨rfl, rfl⟩
@[simp] def a_r10_Great_r3 : List COper := [
  ⟨(some 5), .mov, [.c (.int .i64 0)], none⟩]
def c_r10_Great_r3 : List COper := a_r10_Great_r3
instance : Reg c_r10_Great_r3 a_r10_Great_r3 1 := ⟨rfl, rfl⟩
@[simp] def a_r10_Great_r4 : List COper := [
  ⟨(some 29), .faddr 0 1 false, [.t 2], none⟩,
  ⟨(some 30), .load false 1, [.t 29], none⟩,
  ⟨(some 31), .len, [.t 30], none⟩,
  ⟨(some 32), .mov, [.c (.int .i64 0)], none⟩]
def c_r10_Great_r4 : List COper := a_r10_Great_r4
instance : Reg c_r10_Great_r4 a_r10_Great_r4 4 := ⟨rfl, rfl⟩
@[simp] def a_r10_Great_r5 : List COper := [
  ⟨(some 33), .bin .lss, [.t 32, .t 31], none⟩]
def c_r10_Great_r5 : List COper := a_r10_Great_r5
instance : Reg c_r10_Great_r5 a_r10_Great_r5 1 := ⟨rfl, rfl⟩
@[simp] def a_r10_Great_r6 : List COper := [
  ⟨(some 34), .iaddr 2, [.t 30, .t 32], none⟩,
  ⟨(some 35), .load true 2, [.t 34], none⟩,
  ⟨(some 7), .alloc (.node [.v (.string (mkS [])), .v (.string (mkS []))]), [], none⟩,
  ⟨none, .store true 2, [.t 7, .t 35], none⟩]
def c_r10_Great_r6 : List COper := a_r10_Great_r6
instance : Reg c_r10_Great_r6 a_r10_Great_r6 4 := ⟨rfl, rfl⟩
@[simp] def a_r10_Great_r7 : List COper := [
  ⟨(some 36), .mov, [.t 5], none⟩,
  ⟨(some 37), .bin .add, [.t 36, .c (.int .i64 1)], none⟩,
  ⟨(some 38), .faddr 0 1 false, [.t 7], none⟩,
  ⟨(some 39), .load false 1, [.t 38], none⟩,
  ⟨(some 40), .lenS, [.t 39], none⟩,
  ⟨(some 41), .bin .add, [.t 37, .t 40], none⟩,
  ⟨(some 42), .faddr 1 1 false, [.t 7], none⟩,
  ⟨(some 43), .load false 1, [.t 42], none⟩,
  ⟨(some 44), .lenS, [.t 43], none⟩,
  ⟨(some 45), .bin .add, [.t 41, .t 44], none⟩,
  ⟨(some 5), .mov, [.t 45], none⟩]
def c_r10_Great_r7 : List COper := a_r10_Great_r7
instance : Reg c_r10_Great_r7 a_r10_Great_r7 11 := ⟨rfl, rfl⟩
@[simp] def a_r10_Great_r8 : List COper := [
  ⟨(some 46), .mov, [.t 5], none⟩,
  ⟨(some 47), .mov, [.t 1], none⟩,
  ⟨(some 48), .bin .gtr, [.t 46, .t 47], none⟩]
def c_r10_Great_r8 : List COper := a_r10_Great_r8
instance : Reg c_r10_Great_r8 a_r10_Great_r8 3 := ⟨rfl, rfl⟩
@[simp] def a_r10_Great_r9 : List COper := [
  ⟨(some 4), .mov, [.c (.bool true)], none⟩]
def c_r10_Great_r9 : List COper := a_r10_Great_r9
instance : Reg c_r10_Great_r9 a_r10_Great_r9 1 := ⟨rfl, rfl⟩
@[simp] def a_r10_Great_r10 : List COper := [
  ⟨(some 49), .bin .add, [.t 32, .c (.int .i64 1)], none⟩,
  ⟨(some 32), .mov, [.t 49], none⟩]
def c_r10_Great_r10 : List COper := a_r10_Great_r10
instance : Reg c_r10_Great_r10 a_r10_Great_r10 2 := ⟨rfl, rfl⟩
@[simp] def a_r10_Great_r11 : List COper := [
  ⟨(some 50), .faddr 1 1 false, [.t 2], none⟩,
  ⟨(some 51), .load false 1, [.t 50], none⟩,
  ⟨(some 52), .len, [.t 51], none⟩,
  ⟨(some 53), .mov, [.c (.int .i64 0)], none⟩]
def c_r10_Great_r11 : List COper := a_r10_Great_r11
instance : Reg c_r10_Great_r11 a_r10_Great_r11 4 := ⟨rfl, rfl⟩
@[simp] def a_r10_Great_r12 : List COper := [
  ⟨(some 54), .bin .lss, [.t 53, .t 52], none⟩]
def c_r10_Great_r12 : List COper := a_r10_Great_r12
instance : Reg c_r10_Great_r12 a_r10_Great_r12 1 := ⟨rfl, rfl⟩
@[simp] def a_r10_Great_r13 : List COper := [
  ⟨(some 55), .iaddr 4, [.t 51, .t 53], none⟩,
  ⟨(some 56), .load true 4, [.t 55], none⟩,
  ⟨(some 9), .alloc (.node [.v (.int .i64 0), .v (.int .i64 0), .v (.int .i64 0), .v (.slice none 0 0)]), [], none⟩,
  ⟨none, .store true 4, [.t 9, .t 56], none⟩]
def c_r10_Great_r13 : List COper := a_r10_Great_r13
instance : Reg c_r10_Great_r13 a_r10_Great_r13 4 := ⟨rfl, rfl⟩
@[simp] def a_r10_Great_r14 : List COper := [
  ⟨(some 57), .faddr 3 1 false, [.t 9], none⟩,
  ⟨(some 58), .load false 1, [.t 57], none⟩,
  ⟨(some 59), .len, [.t 58], none⟩,
  ⟨(some 60), .bin .gtr, [.t 59, .c (.int .i64 300)], none⟩]
def c_r10_Great_r14 : List COper := a_r10_Great_r14
instance : Reg c_r10_Great_r14 a_r10_Great_r14 4 := ⟨rfl, rfl⟩
@[simp] def a_r10_Great_r15 : List COper := [
  ⟨(some 4), .mov, [.c (.bool true)], none⟩]
def c_r10_Great_r15 : List COper := a_r10_Great_r15
instance : Reg c_r10_Great_r15 a_r10_Great_r15 1 := ⟨rfl, rfl⟩
@[simp] def a_r10_Great_r16 : List COper := [
  ⟨(some 61), .faddr 3 1 false, [.t 9], none⟩,
  ⟨(some 62), .load false 1, [.t 61], none⟩,
  ⟨(some 63), .len, [.t 62], none⟩,
  ⟨(some 64), .mov, [.c (.int .i64 0)], none⟩]
def c_r10_Great_r16 : List COper := a_r10_Great_r16
instance : Reg c_r10_Great_r16 a_r10_Great_r16 4 := ⟨rfl, rfl⟩
@[simp] def a_r10_Great_r17 : List COper := [
  ⟨(some 65), .bin .lss, [.t 64, .t 63], none⟩]
def c_r10_Great_r17 : List COper := a_r10_Great_r17
instance : Reg c_r10_Great_r17 a_r10_Great_r17 1 := ⟨rfl, rfl⟩
@[simp] def a_r10_Great_r18 : List COper := [
  ⟨(some 66), .iaddr 1, [.t 62, .t 64], none⟩,
  ⟨(some 67), .load false 1, [.t 66], none⟩,
  ⟨(some 11), .mov, [.t 67], none⟩]
def c_r10_Great_r18 : List COper := a_r10_Great_r18
instance : Reg c_r10_Great_r18 a_r10_Great_r18 3 := ⟨rfl, rfl⟩
@[simp] def a_r10_Great_r19 : List COper := [
  ⟨(some 68), .mov, [.t 5], none⟩,
  ⟨(some 69), .bin .add, [.t 68, .c (.int .i64 1)], none⟩,
  ⟨(some 70), .mov, [.t 11], none⟩,
  ⟨(some 71), .lenS, [.t 70], none⟩,
  ⟨(some 72), .bin .add, [.t 69, .t 71], none⟩,
  ⟨(some 5), .mov, [.t 72], none⟩]
def c_r10_Great_r19 : List COper := a_r10_Great_r19
instance : Reg c_r10_Great_r19 a_r10_Great_r19 6 := ⟨rfl, rfl⟩
@[simp] def a_r10_Great_r20 : List COper := [
  ⟨(some 73), .mov, [.t 5], none⟩,
  ⟨(some 74), .mov, [.t 1], none⟩,
  ⟨(some 75), .bin .gtr, [.t 73, .t 74], none⟩]
def c_r10_Great_r20 : List COper := a_r10_Great_r20
instance : Reg c_r10_Great_r20 a_r10_Great_r20 3 := ⟨rfl, rfl⟩
@[simp] def a_r10_Great_r21 : List COper := [
  ⟨(some 4), .mov, [.c (.bool true)], none⟩]
def c_r10_Great_r21 : List COper := a_r10_Great_r21
instance : Reg c_r10_Great_r21 a_r10_Great_r21 1 := ⟨rfl, rfl⟩
@[simp] def a_r10_Great_r22 : List COper := [
  ⟨(some 76), .bin .add, [.t 64, .c (.int .i64 1)], none⟩,
  ⟨(some 64), .mov, [.t 76], none⟩]
def c_r10_Great_r22 : List COper := a_r10_Great_r22
instance : Reg c_r10_Great_r22 a_r10_Great_r22 2 := ⟨rfl, rfl⟩
@[simp] def a_r10_Great_r23 : List COper := [
  ⟨(some 77), .bin .add, [.t 53, .c (.int .i64 1)], none⟩,
  ⟨(some 53), .mov, [.t 77], none⟩]
def c_r10_Great_r23 : List COper := a_r10_Great_r23
instance : Reg c_r10_Great_r23 a_r10_Great_r23 2 := ⟨rfl, rfl⟩
@[simp] def a_r10_Great_r24 : List COper := [
  ⟨(some 4), .mov, [.c (.bool false)], none⟩]
def c_r10_Great_r24 : List COper := a_r10_Great_r24
instance : Reg c_r10_Great_r24 a_r10_Great_r24 1 := ⟨rfl, rfl⟩
@[simp] def c_r10_Great : CCode :=
  .seq (.region c_r10_Great_r0 none [1, 2]) (.seq (.seq (.region c_r10_Great_r1 none [1, 2, 28]) (.cond (.t 28) (.seq (.region c_r10_Great_r2 none [4]) (.ret)) (.skip))) (.seq (.region c_r10_Great_r3 none [1, 2, 5]) (.seq (.seq (.region c_r10_Great_r4 none [1, 2, 5, 30, 31, 32]) (.block 0 (.loop (.seq (.region c_r10_Great_r5 none [1, 2, 5, 30, 31, 32, 33]) (.seq (.cond (.t 33) (.skip) (.exit 0)) (.seq (.block 1 (.seq (.region c_r10_Great_r6 none [1, 2, 5, 7, 30, 31, 32]) (.seq (.region c_r10_Great_r7 none [1, 2, 5, 30, 31, 32]) (.seq (.region c_r10_Great_r8 none [1, 2, 5, 30, 31, 32, 48]) (.cond (.t 48) (.seq (.region c_r10_Great_r9 none [4]) (.ret)) (.skip)))))) (.region c_r10_Great_r10 none [1, 2, 5, 30, 31, 32]))))))) (.seq (.seq (.region c_r10_Great_r11 none [1, 5, 51, 52, 53]) (.block 2 (.loop (.seq (.region c_r10_Great_r12 none [1, 5, 51, 52, 53, 54]) (.seq (.cond (.t 54) (.skip) (.exit 2)) (.seq (.block 3 (.seq (.region c_r10_Great_r13 none [1, 5, 9, 51, 52, 53]) (.seq (.seq (.region c_r10_Great_r14 none [1, 5, 9, 51, 52, 53, 60]) (.cond (.t 60) (.seq (.region c_r10_Great_r15 none [4]) (.ret)) (.skip))) (.seq (.region c_r10_Great_r16 none [1, 5, 51, 52, 53, 62, 63, 64]) (.block 4 (.loop (.seq (.region c_r10_Great_r17 none [1, 5, 51, 52, 53, 62, 63, 64, 65]) (.seq (.cond (.t 65) (.skip) (.exit 4)) (.seq (.block 5 (.seq (.region c_r10_Great_r18 none [1, 5, 11, 51, 52, 53, 62, 63, 64]) (.seq (.region c_r10_Great_r19 none [1, 5, 51, 52, 53, 62, 63, 64]) (.seq (.region c_r10_Great_r20 none [1, 5, 51, 52, 53, 62, 63, 64, 75]) (.cond (.t 75) (.seq (.region c_r10_Great_r21 none [4]) (.ret)) (.skip)))))) (.region c_r10_Great_r22 none [1, 5, 51, 52, 53, 62, 63, 64])))))))))) (.region c_r10_Great_r23 none [1, 5, 51, 52, 53]))))))) (.seq (.region c_r10_Great_r24 none [4]) (.ret))))))
@[simp] def R_r10_Great : List CRes := [.tmp 4]
theorem k_r10_Great : chkFn Tryd.prog fn_r10_Great c_r10_Great R_r10_Great 2 = true := by kernel_rfl
/-! wapentake/chunk.Bytes -/
@[simp] def a_chunk_Bytes_r0 : List COper := [
  ⟨(some 1), .box, [.t 0], none⟩,
  ⟨(some 2), .mov, [.c (.slice none 0 0)], none⟩]
def c_chunk_Bytes_r0 : List COper := a_chunk_Bytes_r0
instance : Reg c_chunk_Bytes_r0 a_chunk_Bytes_r0 2 := ⟨rfl, rfl⟩
@[simp] def a_chunk_Bytes_r1 : List COper := [
  ⟨(some 8), .build [.v (.slice none 0 0)] [], [], none⟩,
  ⟨(some 9), .box, [.t 8], none⟩,
  ⟨(some 3), .mov, [.t 9], none⟩]
def c_chunk_Bytes_r1 : List COper := a_chunk_Bytes_r1
instance : Reg c_chunk_Bytes_r1 a_chunk_Bytes_r1 3 := ⟨rfl, rfl⟩
@[simp] def a_chunk_Bytes_r2 : List COper := [
  ⟨(some 10), .mov, [.t 3], none⟩,
  ⟨(some 11), .faddr 2 2 true, [.t 1], none⟩,
  ⟨(some 12), .load true 2, [.t 11], none⟩,
  ⟨(some 13), .call fn_config_Write, [.t 10, .t 12], none⟩]
def c_chunk_Bytes_r2 : List COper := a_chunk_Bytes_r2
instance : Reg c_chunk_Bytes_r2 a_chunk_Bytes_r2 4 := ⟨rfl, rfl⟩
@[simp] def a_chunk_Bytes_r3 : List COper := [
  ⟨(some 14), .mov, [.t 3], none⟩,
  ⟨(some 15), .faddr 0 1 false, [.t 1], none⟩,
  ⟨(some 16), .load false 1, [.t 15], none⟩,
  ⟨(some 17), .len, [.t 16], none⟩,
  ⟨(some 18), .bslice 1 1 (.v (.int .i64 0)) [0], [.t 17], none⟩,
  ⟨(some 19), .call fn_code_Writer_Num, [.t 14, .t 18], none⟩]
def c_chunk_Bytes_r3 : List COper := a_chunk_Bytes_r3
instance : Reg c_chunk_Bytes_r3 a_chunk_Bytes_r3 6 := ⟨rfl, rfl⟩
@[simp] def a_chunk_Bytes_r4 : List COper := [
  ⟨(some 20), .faddr 0 1 false, [.t 1], none⟩,
  ⟨(some 21), .load false 1, [.t 20], none⟩,
  ⟨(some 22), .len, [.t 21], none⟩,
  ⟨(some 23), .mov, [.c (.int .i64 0)], none⟩]
def c_chunk_Bytes_r4 : List COper := a_chunk_Bytes_r4
instance : Reg c_chunk_Bytes_r4 a_chunk_Bytes_r4 4 := ⟨rfl, rfl⟩
@[simp] def a_chunk_Bytes_r5 : List COper := [
  ⟨(some 24), .bin .lss, [.t 23, .t 22], none⟩]
def c_chunk_Bytes_r5 : List COper := a_chunk_Bytes_r5
instance : Reg c_chunk_Bytes_r5 a_chunk_Bytes_r5 1 := ⟨rfl, rfl⟩
@[simp] def a_chunk_Bytes_r6 : List COper := [
  ⟨(some 25), .iaddr 2, [.t 21, .t 23], none⟩,
  ⟨(some 26), .load true 2, [.t 25], none⟩,
  ⟨(some 5), .alloc (.node [.v (.string (mkS [])), .v (.string (mkS []))]), [], none⟩,
  ⟨none, .store true 2, [.t 5, .t 26], none⟩]
def c_chunk_Bytes_r6 : List COper := a_chunk_Bytes_r6
instance : Reg c_chunk_Bytes_r6 a_chunk_Bytes_r6 4 := ⟨rfl, rfl⟩
@[simp] def a_chunk_Bytes_r7 : List COper := [
  ⟨(some 27), .mov, [.t 3], none⟩,
  ⟨(some 28), .faddr 0 1 false, [.t 5], none⟩,
  ⟨(some 29), .load false 1, [.t 28], none⟩,
  ⟨(some 30), .faddr 1 1 false, [.t 5], none⟩,
  ⟨(some 31), .load false 1, [.t 30], none⟩,
  ⟨(some 32), .bslice 1 2 (.v (.string (mkS []))) [0, 1], [.t 29, .t 31], none⟩,
  ⟨(some 33), .call fn_code_Writer_Text, [.t 27, .t 32], none⟩]
def c_chunk_Bytes_r7 : List COper := a_chunk_Bytes_r7
instance : Reg c_chunk_Bytes_r7 a_chunk_Bytes_r7 7 := ⟨rfl, rfl⟩
@[simp] def a_chunk_Bytes_r8 : List COper := [
  ⟨(some 34), .bin .add, [.t 23, .c (.int .i64 1)], none⟩,
  ⟨(some 23), .mov, [.t 34], none⟩]
def c_chunk_Bytes_r8 : List COper := a_chunk_Bytes_r8
instance : Reg c_chunk_Bytes_r8 a_chunk_Bytes_r8 2 := ⟨rfl, rfl⟩
@[simp] def a_chunk_Bytes_r9 : List COper := [
  ⟨(some 35), .mov, [.t 3], none⟩,
  ⟨(some 36), .faddr 1 1 false, [.t 1], none⟩,
  ⟨(some 37), .load false 1, [.t 36], none⟩,
  ⟨(some 38), .len, [.t 37], none⟩,
  ⟨(some 39), .bslice 1 1 (.v (.int .i64 0)) [0], [.t 38], none⟩,
  ⟨(some 40), .call fn_code_Writer_Num, [.t 35, .t 39], none⟩]
def c_chunk_Bytes_r9 : List COper := a_chunk_Bytes_r9
instance : Reg c_chunk_Bytes_r9 a_chunk_Bytes_r9 6 := ⟨rfl, rfl⟩
@[simp] def a_chunk_Bytes_r10 : List COper := [
  ⟨(some 41), .faddr 1 1 false, [.t 1], none⟩,
  ⟨(some 42), .load false 1, [.t 41], none⟩,
  ⟨(some 43), .len, [.t 42], none⟩,
  ⟨(some 44), .mov, [.c (.int .i64 0)], none⟩]
def c_chunk_Bytes_r10 : List COper := a_chunk_Bytes_r10
instance : Reg c_chunk_Bytes_r10 a_chunk_Bytes_r10 4 := ⟨rfl, rfl⟩
@[simp] def a_chunk_Bytes_r11 : List COper := [
  ⟨(some 45), .bin .lss, [.t 44, .t 43], none⟩]
def c_chunk_Bytes_r11 : List COper := a_chunk_Bytes_r11
instance : Reg c_chunk_Bytes_r11 a_chunk_Bytes_r11 1 := ⟨rfl, rfl⟩
@[simp] def a_chunk_Bytes_r12 : List COper := [
  ⟨(some 46), .iaddr 4, [.t 42, .t 44], none⟩,
  ⟨(some 47), .load true 4, [.t 46], none⟩,
  ⟨(some 7), .alloc (.node [.v (.int .i64 0), .v (.int .i64 0), .v (.int .i64 0), .v (.slice none 0 0)]), [], none⟩,
  ⟨none, .store true 4, [.t 7, .t 47], none⟩]
def c_chunk_Bytes_r12 : List COper := a_chunk_Bytes_r12
instance : Reg c_chunk_Bytes_r12 a_chunk_Bytes_r12 4 := ⟨rfl, rfl⟩
@[simp] def a_chunk_Bytes_r13 : List COper := [
  ⟨(some 48), .mov, [.t 3], none⟩,
  ⟨(some 49), .load true 4, [.t 7], none⟩,
  ⟨(some 50), .call fn_request_WriteReply, [.t 48, .t 49], none⟩]
def c_chunk_Bytes_r13 : List COper := a_chunk_Bytes_r13
instance : Reg c_chunk_Bytes_r13 a_chunk_Bytes_r13 3 := ⟨rfl, rfl⟩
@[simp] def a_chunk_Bytes_r14 : List COper := [
  ⟨(some 51), .bin .add, [.t 44, .c (.int .i64 1)], none⟩,
  ⟨(some 44), .mov, [.t 51], none⟩]
def c_chunk_Bytes_r14 : List COper := a_chunk_Bytes_r14
instance : Reg c_chunk_Bytes_r14 a_chunk_Bytes_r14 2 := ⟨rfl, rfl⟩
@[simp] def a_chunk_Bytes_r15 : List COper := [
  ⟨(some 52), .mov, [.t 3], none⟩,
  ⟨(some 53), .call fn_code_Writer_Bytes, [.t 52], none⟩,
  ⟨(some 2), .mov, [.t 53], none⟩]
def c_chunk_Bytes_r15 : List COper := a_chunk_Bytes_r15
instance : Reg c_chunk_Bytes_r15 a_chunk_Bytes_r15 3 := ⟨rfl, rfl⟩
@[simp] def c_chunk_Bytes : CCode :=
  .seq (.region c_chunk_Bytes_r0 none [1]) (.seq (.region c_chunk_Bytes_r1 none [1, 3]) (.seq (.region c_chunk_Bytes_r2 none [1, 3]) (.seq (.region c_chunk_Bytes_r3 none [1, 3]) (.seq (.seq (.region c_chunk_Bytes_r4 none [1, 3, 21, 22, 23]) (.block 0 (.loop (.seq (.region c_chunk_Bytes_r5 none [1, 3, 21, 22, 23, 24]) (.seq (.cond (.t 24) (.skip) (.exit 0)) (.seq (.block 1 (.seq (.region c_chunk_Bytes_r6 none [1, 3, 5, 21, 22, 23]) (.region c_chunk_Bytes_r7 none [1, 3, 21, 22, 23]))) (.region c_chunk_Bytes_r8 none [1, 3, 21, 22, 23]))))))) (.seq (.region c_chunk_Bytes_r9 none [1, 3]) (.seq (.seq (.region c_chunk_Bytes_r10 none [3, 42, 43, 44]) (.block 2 (.loop (.seq (.region c_chunk_Bytes_r11 none [3, 42, 43, 44, 45]) (.seq (.cond (.t 45) (.skip) (.exit 2)) (.seq (.block 3 (.seq (.region c_chunk_Bytes_r12 none [3, 7, 42, 43, 44]) (.region c_chunk_Bytes_r13 none [3, 42, 43, 44]))) (.region c_chunk_Bytes_r14 none [3, 42, 43, 44]))))))) (.seq (.region c_chunk_Bytes_r15 none [2]) (.ret))))))))
@[simp] def R_chunk_Bytes : List CRes := [.tmp 2]
theorem k_chunk_Bytes : chkFn Tryd.prog fn_chunk_Bytes c_chunk_Bytes R_chunk_Bytes 1 = true := by kernel_rfl
/-! wapentake/wapentakelaw18.one -/
@[simp] def a_l18_one_r0 : List COper := [
  ⟨(some 0), .alloc (.node [.v (.int .i64 0), .arr 1 (rep 32 (.v (.int .u8 0))), .node [.v (.slice none 0 0), .v (.slice none 0 0), .node [.v (.int .i64 0), .v (.slice none 0 0)]]]), [], none⟩]
def c_l18_one_r0 : List COper := a_l18_one_r0
instance : Reg c_l18_one_r0 a_l18_one_r0 1 := ⟨rfl, rfl⟩
@[simp] def a_l18_one_r1 : List COper := [
  ⟨(some 1), .build [.v (.int .i64 0), .node [.arr 1 (rep 32 (.v (.int .u8 0))), .v (.int .i64 0)]] [0], [.c (.int .i64 1)], none⟩,
  ⟨(some 2), .bslice 34 1 (.node [.v (.int .i64 0), .node [.arr 1 (rep 32 (.v (.int .u8 0))), .v (.int .i64 0)]]) [0], [.t 1], none⟩,
  ⟨(some 3), .build [.v (.int .i64 0), .v (.slice none 0 0)] [1], [.t 2], none⟩,
  ⟨(some 4), .build [.v (.slice none 0 0), .v (.slice none 0 0), .node [.v (.int .i64 0), .v (.slice none 0 0)]] [2], [.t 3], none⟩,
  ⟨(some 5), .build [.v (.int .i64 0), .arr 1 (rep 32 (.v (.int .u8 0))), .node [.v (.slice none 0 0), .v (.slice none 0 0), .node [.v (.int .i64 0), .v (.slice none 0 0)]]] [0, 2], [.c (.int .i64 3), .t 4], none⟩,
  ⟨none, .store true 37, [.t 0, .t 5], none⟩]
def c_l18_one_r1 : List COper := a_l18_one_r1
instance : Reg c_l18_one_r1 a_l18_one_r1 6 := ⟨rfl, rfl⟩
@[simp] def c_l18_one : CCode :=
  .seq (.region c_l18_one_r0 none [0]) (.seq (.region c_l18_one_r1 none [0]) (.ret))
@[simp] def R_l18_one : List CRes := [.cell 0 true 37]
theorem k_l18_one : chkFn Tryd.prog fn_l18_one c_l18_one R_l18_one 0 = true := by kernel_rfl
/-! (*wapentake/wapentakeref01.Reader).Digest -/
@[simp] def a_r01_Reader_Digest_r0 : List COper := [
  ⟨(some 2), .alloc (.arr 1 (rep 32 (.v (.int .u8 0)))), [], none⟩]
def c_r01_Reader_Digest_r0 : List COper := a_r01_Reader_Digest_r0
instance : Reg c_r01_Reader_Digest_r0 a_r01_Reader_Digest_r0 1 := ⟨rfl, rfl⟩
@[simp] def a_r01_Reader_Digest_r1 : List COper := [
  ⟨(some 3), .alloc (.arr 1 (rep 32 (.v (.int .u8 0)))), [], none⟩]
def c_r01_Reader_Digest_r1 : List COper := a_r01_Reader_Digest_r1
instance : Reg c_r01_Reader_Digest_r1 a_r01_Reader_Digest_r1 1 := ⟨rfl, rfl⟩
@[simp] def a_r01_Reader_Digest_r2 : List COper := [
  ⟨(some 6), .mov, [.t 0], none⟩,
  ⟨(some 7), .call fn_r01_Reader_Take, [.t 6, .c (.int .i64 32)], none⟩,
  ⟨(some 4), .mov, [.t 7], none⟩]
def c_r01_Reader_Digest_r2 : List COper := a_r01_Reader_Digest_r2
instance : Reg c_r01_Reader_Digest_r2 a_r01_Reader_Digest_r2 3 := ⟨rfl, rfl⟩
@[simp] def a_r01_Reader_Digest_r3 : List COper := [
  ⟨(some 5), .mov, [.c (.int .i64 0)], none⟩]
def c_r01_Reader_Digest_r3 : List COper := a_r01_Reader_Digest_r3
instance : Reg c_r01_Reader_Digest_r3 a_r01_Reader_Digest_r3 1 := ⟨rfl, rfl⟩
@[simp] def a_r01_Reader_Digest_r4 : List COper := [
  ⟨(some 8), .mov, [.t 5], none⟩,
  ⟨(some 9), .mov, [.t 4], none⟩,
  ⟨(some 10), .lenS, [.t 9], none⟩,
  ⟨(some 11), .bin .lss, [.t 8, .t 10], none⟩]
def c_r01_Reader_Digest_r4 : List COper := a_r01_Reader_Digest_r4
instance : Reg c_r01_Reader_Digest_r4 a_r01_Reader_Digest_r4 4 := ⟨rfl, rfl⟩
@[simp] def a_r01_Reader_Digest_r6 : List COper := [
  ⟨(some 14), .mov, [.t 5], none⟩,
  ⟨(some 15), .mov, [.t 4], none⟩,
  ⟨(some 16), .mov, [.t 5], none⟩,
  ⟨(some 17), .idxS, [.t 15, .t 16], none⟩,
  ⟨(some 18), .iaddrArr 32 1 false, [.t 3, .t 14], none⟩,
  ⟨none, .store false 1, [.t 18, .t 17], none⟩]
def c_r01_Reader_Digest_r6 : List COper := a_r01_Reader_Digest_r6
instance : Reg c_r01_Reader_Digest_r6 a_r01_Reader_Digest_r6 6 := ⟨rfl, rfl⟩
@[simp] def a_r01_Reader_Digest_r5 : List COper := [
  ⟨(some 12), .mov, [.t 5], none⟩,
  ⟨(some 13), .bin .add, [.t 12, .c (.int .i64 1)], none⟩,
  ⟨(some 5), .mov, [.t 13], none⟩]
def c_r01_Reader_Digest_r5 : List COper := a_r01_Reader_Digest_r5
instance : Reg c_r01_Reader_Digest_r5 a_r01_Reader_Digest_r5 3 := ⟨rfl, rfl⟩
@[simp] def a_r01_Reader_Digest_r7 : List COper := [
  ⟨(some 19), .load true 32, [.t 3], none⟩,
  ⟨none, .store true 32, [.t 2, .t 19], none⟩]
def c_r01_Reader_Digest_r7 : List COper := a_r01_Reader_Digest_r7
instance : Reg c_r01_Reader_Digest_r7 a_r01_Reader_Digest_r7 2 := ⟨rfl, rfl⟩
@[simp] def c_r01_Reader_Digest : CCode :=
  .seq (.region c_r01_Reader_Digest_r0 none [0, 2]) (.seq (.region c_r01_Reader_Digest_r1 none [0, 2, 3]) (.seq (.region c_r01_Reader_Digest_r2 none [2, 3, 4]) (.seq (.seq (.region c_r01_Reader_Digest_r3 none [2, 3, 4, 5]) (.block 0 (.loop (.seq (.seq (.region c_r01_Reader_Digest_r4 none [2, 3, 4, 5, 11]) (.cond (.t 11) (.skip) (.exit 0))) (.seq (.block 1 (.region c_r01_Reader_Digest_r6 none [2, 3, 4, 5])) (.region c_r01_Reader_Digest_r5 none [2, 3, 4, 5])))))) (.seq (.region c_r01_Reader_Digest_r7 none [2]) (.ret)))))
@[simp] def R_r01_Reader_Digest : List CRes := [.cell 2 true 32]
theorem k_r01_Reader_Digest : chkFn Tryd.prog fn_r01_Reader_Digest c_r01_Reader_Digest R_r01_Reader_Digest 1 = true := by kernel_rfl
/-! (*wapentake/wapentakeref01.Reader).In -/
@[simp] def a_r01_Reader_In_r0 : List COper := [
  ⟨(some 6), .mov, [.c (.int .i64 0)], none⟩]
def c_r01_Reader_In_r0 : List COper := a_r01_Reader_In_r0
instance : Reg c_r01_Reader_In_r0 a_r01_Reader_In_r0 1 := ⟨rfl, rfl⟩
@[simp] def a_r01_Reader_In_r1 : List COper := [
  ⟨(some 8), .mov, [.t 0], none⟩,
  ⟨(some 9), .call fn_r01_Reader_Num, [.t 8], none⟩,
  ⟨(some 7), .mov, [.t 9], none⟩]
def c_r01_Reader_In_r1 : List COper := a_r01_Reader_In_r1
instance : Reg c_r01_Reader_In_r1 a_r01_Reader_In_r1 3 := ⟨rfl, rfl⟩
@[simp] def a_r01_Reader_In_r2 : List COper := [
  ⟨(some 10), .mov, [.t 0], none⟩,
  ⟨(some 11), .nilc, [.t 10], none⟩,
  ⟨(some 12), .faddr 1 1 false, [.t 11], none⟩,
  ⟨(some 13), .load false 1, [.t 12], none⟩,
  ⟨(some 14), .mov, [.t 13], none⟩,
  ⟨(some 15), .mov, [.t 7], (some (14, false))⟩,
  ⟨(some 16), .mov, [.t 1], (some (14, false))⟩,
  ⟨(some 17), .bin .lss, [.t 15, .t 16], (some (14, false))⟩,
  ⟨(some 18), .pick, [.t 14, .c (.bool true), .t 17], none⟩,
  ⟨(some 19), .mov, [.t 18], none⟩,
  ⟨(some 20), .mov, [.t 7], (some (19, false))⟩,
  ⟨(some 21), .mov, [.t 2], (some (19, false))⟩,
  ⟨(some 22), .bin .gtr, [.t 20, .t 21], (some (19, false))⟩,
  ⟨(some 23), .pick, [.t 19, .c (.bool true), .t 22], none⟩]
def c_r01_Reader_In_r2 : List COper := a_r01_Reader_In_r2
instance : Reg c_r01_Reader_In_r2 a_r01_Reader_In_r2 14 := ⟨rfl, rfl⟩
@[simp] def a_r01_Reader_In_r3 : List COper := [
  ⟨(some 24), .mov, [.t 0], none⟩,
  ⟨(some 25), .call fn_r01_Reader_Take, [.t 24, .c (.int .i64 (-1))], none⟩]
def c_r01_Reader_In_r3 : List COper := a_r01_Reader_In_r3
instance : Reg c_r01_Reader_In_r3 a_r01_Reader_In_r3 2 := ⟨rfl, rfl⟩
@[simp] def a_r01_Reader_In_r4 : List COper := [
  ⟨(some 6), .mov, [.c (.int .i64 0)], none⟩]
def c_r01_Reader_In_r4 : List COper := a_r01_Reader_In_r4
instance : Reg c_r01_Reader_In_r4 a_r01_Reader_In_r4 1 := ⟨rfl, rfl⟩
@[simp] def a_r01_Reader_In_r5 : List COper := [
  ⟨(some 26), .mov, [.t 7], none⟩,
  ⟨(some 6), .mov, [.t 26], none⟩]
def c_r01_Reader_In_r5 : List COper := a_r01_Reader_In_r5
instance : Reg c_r01_Reader_In_r5 a_r01_Reader_In_r5 2 := ⟨rfl, rfl⟩
@[simp] def c_r01_Reader_In : CCode :=
  .seq (.region c_r01_Reader_In_r0 none [0, 1, 2]) (.seq (.region c_r01_Reader_In_r1 none [0, 1, 2, 7]) (.seq (.seq (.region c_r01_Reader_In_r2 none [0, 7, 23]) (.cond (.t 23) (.seq (.region c_r01_Reader_In_r3 none []) (.seq (.region c_r01_Reader_In_r4 none [6]) (.ret))) (.skip))) (.seq (.region c_r01_Reader_In_r5 none [6]) (.ret))))
@[simp] def R_r01_Reader_In : List CRes := [.tmp 6]
theorem k_r01_Reader_In : chkFn Tryd.prog fn_r01_Reader_In c_r01_Reader_In R_r01_Reader_In 3 = true := by kernel_rfl
/-! (*wapentake/wapentakeref01.Reader).Text -/
@[simp] def a_r01_Reader_Text_r0 : List COper := [
  ⟨(some 4), .mov, [.c (.string (mkS []))], none⟩]
def c_r01_Reader_Text_r0 : List COper := a_r01_Reader_Text_r0
instance : Reg c_r01_Reader_Text_r0 a_r01_Reader_Text_r0 1 := ⟨rfl, rfl⟩
@[simp] def a_r01_Reader_Text_r1 : List COper := [
  ⟨(some 8), .mov, [.t 0], none⟩,
  ⟨(some 9), .call fn_r01_Reader_Take, [.t 8, .c (.int .i64 4)], none⟩,
  ⟨(some 5), .mov, [.t 9], none⟩]
def c_r01_Reader_Text_r1 : List COper := a_r01_Reader_Text_r1
instance : Reg c_r01_Reader_Text_r1 a_r01_Reader_Text_r1 3 := ⟨rfl, rfl⟩
@[simp] def a_r01_Reader_Text_r2 : List COper := [
  ⟨(some 6), .mov, [.c (.int .i64 0)], none⟩]
def c_r01_Reader_Text_r2 : List COper := a_r01_Reader_Text_r2
instance : Reg c_r01_Reader_Text_r2 a_r01_Reader_Text_r2 1 := ⟨rfl, rfl⟩
@[simp] def a_r01_Reader_Text_r3 : List COper := [
  ⟨(some 7), .mov, [.c (.int .i64 0)], none⟩]
def c_r01_Reader_Text_r3 : List COper := a_r01_Reader_Text_r3
instance : Reg c_r01_Reader_Text_r3 a_r01_Reader_Text_r3 1 := ⟨rfl, rfl⟩
@[simp] def a_r01_Reader_Text_r4 : List COper := [
  ⟨(some 10), .mov, [.t 7], none⟩,
  ⟨(some 11), .mov, [.t 5], none⟩,
  ⟨(some 12), .lenS, [.t 11], none⟩,
  ⟨(some 13), .bin .lss, [.t 10, .t 12], none⟩]
def c_r01_Reader_Text_r4 : List COper := a_r01_Reader_Text_r4
instance : Reg c_r01_Reader_Text_r4 a_r01_Reader_Text_r4 4 := ⟨rfl, rfl⟩
@[simp] def a_r01_Reader_Text_r6 : List COper := [
  ⟨(some 16), .mov, [.t 6], none⟩,
  ⟨(some 17), .bin .mul, [.t 16, .c (.int .i64 256)], none⟩,
  ⟨(some 18), .mov, [.t 5], none⟩,
  ⟨(some 19), .mov, [.t 7], none⟩,
  ⟨(some 20), .idxS, [.t 18, .t 19], none⟩,
  ⟨(some 21), .convI .i64, [.t 20], none⟩,
  ⟨(some 22), .bin .add, [.t 17, .t 21], none⟩,
  ⟨(some 6), .mov, [.t 22], none⟩]
def c_r01_Reader_Text_r6 : List COper := a_r01_Reader_Text_r6
instance : Reg c_r01_Reader_Text_r6 a_r01_Reader_Text_r6 8 := ⟨rfl, rfl⟩
@[simp] def a_r01_Reader_Text_r5 : List COper := [
  ⟨(some 14), .mov, [.t 7], none⟩,
  ⟨(some 15), .bin .add, [.t 14, .c (.int .i64 1)], none⟩,
  ⟨(some 7), .mov, [.t 15], none⟩]
def c_r01_Reader_Text_r5 : List COper := a_r01_Reader_Text_r5
instance : Reg c_r01_Reader_Text_r5 a_r01_Reader_Text_r5 3 := ⟨rfl, rfl⟩
@[simp] def a_r01_Reader_Text_r7 : List COper := [
  ⟨(some 23), .mov, [.t 6], none⟩,
  ⟨(some 24), .mov, [.t 1], none⟩,
  ⟨(some 25), .bin .gtr, [.t 23, .t 24], none⟩]
def c_r01_Reader_Text_r7 : List COper := a_r01_Reader_Text_r7
instance : Reg c_r01_Reader_Text_r7 a_r01_Reader_Text_r7 3 := ⟨rfl, rfl⟩
@[simp] def a_r01_Reader_Text_r8 : List COper := [
  ⟨(some 26), .mov, [.t 0], none⟩,
  ⟨(some 27), .call fn_r01_Reader_Take, [.t 26, .c (.int .i64 (-1))], none⟩,
  ⟨(some 4), .mov, [.t 27], none⟩]
def c_r01_Reader_Text_r8 : List COper := a_r01_Reader_Text_r8
instance : Reg c_r01_Reader_Text_r8 a_r01_Reader_Text_r8 3 := ⟨rfl, rfl⟩
@[simp] def a_r01_Reader_Text_r9 : List COper := [
  ⟨(some 28), .mov, [.t 0], none⟩,
  ⟨(some 29), .mov, [.t 6], none⟩,
  ⟨(some 30), .call fn_r01_Reader_Take, [.t 28, .t 29], none⟩,
  ⟨(some 4), .mov, [.t 30], none⟩]
def c_r01_Reader_Text_r9 : List COper := a_r01_Reader_Text_r9
instance : Reg c_r01_Reader_Text_r9 a_r01_Reader_Text_r9 4 := ⟨rfl, rfl⟩
@[simp] def c_r01_Reader_Text : CCode :=
  .seq (.region c_r01_Reader_Text_r0 none [0, 1]) (.seq (.region c_r01_Reader_Text_r1 none [0, 1, 5]) (.seq (.region c_r01_Reader_Text_r2 none [0, 1, 5, 6]) (.seq (.seq (.region c_r01_Reader_Text_r3 none [0, 1, 5, 6, 7]) (.block 0 (.loop (.seq (.seq (.region c_r01_Reader_Text_r4 none [0, 1, 5, 6, 7, 13]) (.cond (.t 13) (.skip) (.exit 0))) (.seq (.block 1 (.region c_r01_Reader_Text_r6 none [0, 1, 5, 6, 7])) (.region c_r01_Reader_Text_r5 none [0, 1, 5, 6, 7])))))) (.seq (.seq (.region c_r01_Reader_Text_r7 none [0, 6, 25]) (.cond (.t 25) (.seq (.region c_r01_Reader_Text_r8 none [4]) (.ret)) (.skip))) (.seq (.region c_r01_Reader_Text_r9 none [4]) (.ret))))))
@[simp] def R_r01_Reader_Text : List CRes := [.tmp 4]
theorem k_r01_Reader_Text : chkFn Tryd.prog fn_r01_Reader_Text c_r01_Reader_Text R_r01_Reader_Text 2 = true := by kernel_rfl
/-! (*wapentake/wapentakeref01.Reader).End -/
@[simp] def a_r01_Reader_End_r0 : List COper := [
  ⟨(some 2), .mov, [.c (.bool false)], none⟩]
def c_r01_Reader_End_r0 : List COper := a_r01_Reader_End_r0
instance : Reg c_r01_Reader_End_r0 a_r01_Reader_End_r0 1 := ⟨rfl, rfl⟩
@[simp] def a_r01_Reader_End_r1 : List COper := [
  ⟨(some 3), .mov, [.t 0], none⟩,
  ⟨(some 4), .nilc, [.t 3], none⟩,
  ⟨(some 5), .faddr 1 1 false, [.t 4], none⟩,
  ⟨(some 6), .load false 1, [.t 5], none⟩,
  ⟨(some 7), .not, [.t 6], none⟩,
  ⟨(some 8), .mov, [.t 7], none⟩,
  ⟨(some 9), .mov, [.t 0], (some (8, true))⟩,
  ⟨(some 10), .nilc, [.t 9], (some (8, true))⟩,
  ⟨(some 11), .faddr 0 1 false, [.t 10], (some (8, true))⟩,
  ⟨(some 12), .load false 1, [.t 11], (some (8, true))⟩,
  ⟨(some 13), .bin .eql, [.t 12, .c (.string (mkS []))], (some (8, true))⟩,
  ⟨(some 14), .pick, [.t 8, .t 13, .c (.bool false)], none⟩,
  ⟨(some 2), .mov, [.t 14], none⟩]
def c_r01_Reader_End_r1 : List COper := a_r01_Reader_End_r1
instance : Reg c_r01_Reader_End_r1 a_r01_Reader_End_r1 13 := ⟨rfl, rfl⟩
@[simp] def c_r01_Reader_End : CCode :=
  .seq (.region c_r01_Reader_End_r0 none [0]) (.seq (.region c_r01_Reader_End_r1 none [2]) (.ret))
@[simp] def R_r01_Reader_End : List CRes := [.tmp 2]
theorem k_r01_Reader_End : chkFn Tryd.prog fn_r01_Reader_End c_r01_Reader_End R_r01_Reader_End 1 = true := by kernel_rfl
/-! wapentake/wapentakeref02.Text -/
@[simp] def a_r02_Text_r0 : List COper := [
  ⟨(some 2), .alloc (.arr 1 (rep 32 (.v (.int .u8 0)))), [], none⟩]
def c_r02_Text_r0 : List COper := a_r02_Text_r0
instance : Reg c_r02_Text_r0 a_r02_Text_r0 1 := ⟨rfl, rfl⟩
@[simp] def a_r02_Text_r1 : List COper := [
  ⟨(some 3), .mov, [.t 0], none⟩,
  ⟨(some 4), .convB, [.t 3], none⟩,
  ⟨(some 5), .call fn_r02_Of, [.t 4], none⟩,
  ⟨none, .store true 32, [.t 2, .t 5], none⟩]
def c_r02_Text_r1 : List COper := a_r02_Text_r1
instance : Reg c_r02_Text_r1 a_r02_Text_r1 4 := ⟨rfl, rfl⟩
@[simp] def c_r02_Text : CCode :=
  .seq (.region c_r02_Text_r0 none [0, 2]) (.seq (.region c_r02_Text_r1 none [2]) (.ret))
@[simp] def R_r02_Text : List CRes := [.cell 2 true 32]
theorem k_r02_Text : chkFn Tryd.prog fn_r02_Text c_r02_Text R_r02_Text 1 = true := by kernel_rfl
/-! wapentake/wapentakeref11.State -/
@[simp] def a_r11_State_r0 : List COper := [
  ⟨(some 2), .alloc (.node [.v (.slice none 0 0), .v (.slice none 0 0), .node [.v (.int .i64 0), .v (.slice none 0 0)]]), [], none⟩,
  ⟨(some 3), .mov, [.c (.int .i64 0)], none⟩]
def c_r11_State_r0 : List COper := a_r11_State_r0
instance : Reg c_r11_State_r0 a_r11_State_r0 2 := ⟨rfl, rfl⟩
@[simp] def a_r11_State_r1 : List COper := [
  ⟨(some 10), .mov, [.t 0], none⟩,
  ⟨(some 11), .build [.v (.string (mkS [])), .v (.bool false)] [0], [.t 10], none⟩,
  ⟨(some 12), .box, [.t 11], none⟩,
  ⟨(some 4), .mov, [.t 12], none⟩]
def c_r11_State_r1 : List COper := a_r11_State_r1
instance : Reg c_r11_State_r1 a_r11_State_r1 4 := ⟨rfl, rfl⟩
@[simp] def a_r11_State_r2 : List COper := [
  ⟨(some 13), .mov, [.t 4], none⟩,
  ⟨(some 14), .call fn_r08_Read, [.t 13], none⟩,
  ⟨(some 15), .build [.v (.slice none 0 0), .v (.slice none 0 0), .node [.v (.int .i64 0), .v (.slice none 0 0)]] [2], [.t 14], none⟩,
  ⟨(some 5), .alloc (.node [.v (.slice none 0 0), .v (.slice none 0 0), .node [.v (.int .i64 0), .v (.slice none 0 0)]]), [], none⟩,
  ⟨none, .store true 4, [.t 5, .t 15], none⟩]
def c_r11_State_r2 : List COper := a_r11_State_r2
instance : Reg c_r11_State_r2 a_r11_State_r2 5 := ⟨rfl, rfl⟩
@[simp] def a_r11_State_r3 : List COper := [
  ⟨(some 16), .mov, [.t 4], none⟩,
  ⟨(some 17), .call fn_r01_Reader_In, [.t 16, .c (.int .i64 0), .c (.int .i64 256)], none⟩,
  ⟨(some 6), .mov, [.t 17], none⟩]
def c_r11_State_r3 : List COper := a_r11_State_r3
instance : Reg c_r11_State_r3 a_r11_State_r3 3 := ⟨rfl, rfl⟩
@[simp] def a_r11_State_r4 : List COper := [
  ⟨(some 7), .mov, [.c (.int .i64 0)], none⟩]
def c_r11_State_r4 : List COper := a_r11_State_r4
instance : Reg c_r11_State_r4 a_r11_State_r4 1 := ⟨rfl, rfl⟩
@[simp] def a_r11_State_r5 : List COper := [
  ⟨(some 18), .mov, [.t 7], none⟩,
  ⟨(some 19), .mov, [.t 6], none⟩,
  ⟨(some 20), .bin .lss, [.t 18, .t 19], none⟩,
  ⟨(some 21), .mov, [.t 20], none⟩,
  ⟨(some 22), .mov, [.t 4], (some (21, true))⟩,
  ⟨(some 23), .call fn_r01_Reader_Good, [.t 22], (some (21, true))⟩,
  ⟨(some 24), .pick, [.t 21, .t 23, .c (.bool false)], none⟩]
def c_r11_State_r5 : List COper := a_r11_State_r5
instance : Reg c_r11_State_r5 a_r11_State_r5 7 := ⟨rfl, rfl⟩
@[simp] def a_r11_State_r7 : List COper := [
  ⟨(some 27), .mov, [.t 4], none⟩,
  ⟨(some 28), .call fn_r01_Reader_Text, [.t 27, .c (.int .i64 1024)], none⟩,
  ⟨(some 8), .mov, [.t 28], none⟩]
def c_r11_State_r7 : List COper := a_r11_State_r7
instance : Reg c_r11_State_r7 a_r11_State_r7 3 := ⟨rfl, rfl⟩
@[simp] def a_r11_State_r8 : List COper := [
  ⟨(some 29), .faddr 0 1 false, [.t 5], none⟩,
  ⟨(some 30), .load false 1, [.t 29], none⟩,
  ⟨(some 31), .mov, [.t 8], none⟩,
  ⟨(some 32), .mov, [.t 4], none⟩,
  ⟨(some 33), .call fn_r01_Reader_Text, [.t 32, .c (.int .i64 1024)], none⟩,
  ⟨(some 34), .build [.v (.string (mkS [])), .v (.string (mkS []))] [0, 1], [.t 31, .t 33], none⟩,
  ⟨(some 35), .bslice 2 1 (.node [.v (.string (mkS [])), .v (.string (mkS []))]) [0], [.t 34], none⟩,
  ⟨(some 36), .app 2 32, [.t 30, .t 35], none⟩,
  ⟨(some 37), .faddr 0 1 false, [.t 5], none⟩,
  ⟨none, .store false 1, [.t 37, .t 36], none⟩]
def c_r11_State_r8 : List COper := a_r11_State_r8
instance : Reg c_r11_State_r8 a_r11_State_r8 10 := ⟨rfl, rfl⟩
@[simp] def a_r11_State_r6 : List COper := [
  ⟨(some 25), .mov, [.t 7], none⟩,
  ⟨(some 26), .bin .add, [.t 25, .c (.int .i64 1)], none⟩,
  ⟨(some 7), .mov, [.t 26], none⟩]
def c_r11_State_r6 : List COper := a_r11_State_r6
instance : Reg c_r11_State_r6 a_r11_State_r6 3 := ⟨rfl, rfl⟩
@[simp] def a_r11_State_r9 : List COper := [
  ⟨(some 38), .mov, [.t 4], none⟩,
  ⟨(some 39), .call fn_r01_Reader_In, [.t 38, .c (.int .i64 0), .c (.int .i64 64)], none⟩,
  ⟨(some 6), .mov, [.t 39], none⟩]
def c_r11_State_r9 : List COper := a_r11_State_r9
instance : Reg c_r11_State_r9 a_r11_State_r9 3 := ⟨rfl, rfl⟩
@[simp] def a_r11_State_r10 : List COper := [
  ⟨(some 9), .mov, [.c (.int .i64 0)], none⟩]
def c_r11_State_r10 : List COper := a_r11_State_r10
instance : Reg c_r11_State_r10 a_r11_State_r10 1 := ⟨rfl, rfl⟩
@[simp] def a_r11_State_r11 : List COper := [
  ⟨(some 40), .mov, [.t 9], none⟩,
  ⟨(some 41), .mov, [.t 6], none⟩,
  ⟨(some 42), .bin .lss, [.t 40, .t 41], none⟩,
  ⟨(some 43), .mov, [.t 42], none⟩,
  ⟨(some 44), .mov, [.t 4], (some (43, true))⟩,
  ⟨(some 45), .call fn_r01_Reader_Good, [.t 44], (some (43, true))⟩,
  ⟨(some 46), .pick, [.t 43, .t 45, .c (.bool false)], none⟩]
def c_r11_State_r11 : List COper := a_r11_State_r11
instance : Reg c_r11_State_r11 a_r11_State_r11 7 := ⟨rfl, rfl⟩
@[simp] def a_r11_State_r13 : List COper := [
  ⟨(some 49), .faddr 1 1 false, [.t 5], none⟩,
  ⟨(some 50), .load false 1, [.t 49], none⟩,
  ⟨(some 51), .mov, [.t 4], none⟩,
  ⟨(some 52), .call fn_r09_ReadReply, [.t 51], none⟩,
  ⟨(some 53), .bslice 4 1 (.node [.v (.int .i64 0), .v (.int .i64 0), .v (.int .i64 0), .v (.slice none 0 0)]) [0], [.t 52], none⟩,
  ⟨(some 54), .app 4 48, [.t 50, .t 53], none⟩,
  ⟨(some 55), .faddr 1 1 false, [.t 5], none⟩,
  ⟨none, .store false 1, [.t 55, .t 54], none⟩]
def c_r11_State_r13 : List COper := a_r11_State_r13
instance : Reg c_r11_State_r13 a_r11_State_r13 8 := ⟨rfl, rfl⟩
@[simp] def a_r11_State_r12 : List COper := [
  ⟨(some 47), .mov, [.t 9], none⟩,
  ⟨(some 48), .bin .add, [.t 47, .c (.int .i64 1)], none⟩,
  ⟨(some 9), .mov, [.t 48], none⟩]
def c_r11_State_r12 : List COper := a_r11_State_r12
instance : Reg c_r11_State_r12 a_r11_State_r12 3 := ⟨rfl, rfl⟩
@[simp] def a_r11_State_r14 : List COper := [
  ⟨(some 56), .mov, [.t 4], none⟩,
  ⟨(some 57), .call fn_r01_Reader_End, [.t 56], none⟩,
  ⟨(some 58), .not, [.t 57], none⟩,
  ⟨(some 59), .mov, [.t 58], none⟩,
  ⟨(some 60), .load true 4, [.t 5], (some (59, false))⟩,
  ⟨(some 61), .call fn_r10_Rises, [.t 60], (some (59, false))⟩,
  ⟨(some 62), .not, [.t 61], (some (59, false))⟩,
  ⟨(some 63), .pick, [.t 59, .c (.bool true), .t 62], none⟩]
def c_r11_State_r14 : List COper := a_r11_State_r14
instance : Reg c_r11_State_r14 a_r11_State_r14 8 := ⟨rfl, rfl⟩
@[simp] def a_r11_State_r15 : List COper := [
  ⟨(some 64), .build [.v (.slice none 0 0), .v (.slice none 0 0), .node [.v (.int .i64 0), .v (.slice none 0 0)]] [], [], none⟩,
  ⟨none, .store true 4, [.t 2, .t 64], none⟩,
  ⟨(some 3), .mov, [.c (.int .i64 4)], none⟩]
def c_r11_State_r15 : List COper := a_r11_State_r15
instance : Reg c_r11_State_r15 a_r11_State_r15 3 := ⟨rfl, rfl⟩
@[simp] def a_r11_State_r16 : List COper := [
  ⟨(some 65), .load true 4, [.t 5], none⟩,
  ⟨none, .store true 4, [.t 2, .t 65], none⟩,
  ⟨(some 3), .mov, [.c (.int .i64 0)], none⟩]
def c_r11_State_r16 : List COper := a_r11_State_r16
instance : Reg c_r11_State_r16 a_r11_State_r16 3 := ⟨rfl, rfl⟩
@[simp] def c_r11_State : CCode :=
  .seq (.region c_r11_State_r0 none [0, 2]) (.seq (.region c_r11_State_r1 none [2, 4]) (.seq (.region c_r11_State_r2 none [2, 4, 5]) (.seq (.region c_r11_State_r3 none [2, 4, 5, 6]) (.seq (.seq (.region c_r11_State_r4 none [2, 4, 5, 6, 7]) (.block 0 (.loop (.seq (.seq (.region c_r11_State_r5 none [2, 4, 5, 6, 7, 24]) (.cond (.t 24) (.skip) (.exit 0))) (.seq (.block 1 (.seq (.region c_r11_State_r7 none [2, 4, 5, 6, 7, 8]) (.region c_r11_State_r8 (some ([0, 1, 0, 0, 8, 28, 60, 127, 255, 511], [(1, 4), (1, 6)])) [2, 4, 5, 6, 7]))) (.region c_r11_State_r6 none [2, 4, 5, 6, 7])))))) (.seq (.region c_r11_State_r9 none [2, 4, 5, 6]) (.seq (.seq (.region c_r11_State_r10 none [2, 4, 5, 6, 9]) (.block 2 (.loop (.seq (.seq (.region c_r11_State_r11 none [2, 4, 5, 6, 9, 46]) (.cond (.t 46) (.skip) (.exit 2))) (.seq (.block 3 (.region c_r11_State_r13 (some ([0, 1, 0, 4, 12, 31, 63, 127], [(1, 3), (1, 4)])) [2, 4, 5, 6, 9])) (.region c_r11_State_r12 none [2, 4, 5, 6, 9])))))) (.seq (.seq (.region c_r11_State_r14 none [2, 5, 63]) (.cond (.t 63) (.seq (.region c_r11_State_r15 none [2, 3]) (.ret)) (.skip))) (.seq (.region c_r11_State_r16 none [2, 3]) (.ret)))))))))
@[simp] def R_r11_State : List CRes := [.cell 2 true 4, .tmp 3]
theorem k_r11_State : chkFn Tryd.prog fn_r11_State c_r11_State R_r11_State 1 = true := by kernel_rfl
/-! wapentake/wapentakeref01.Num -/
@[simp] def a_r01_Num_r0 : List COper := [
  ⟨(some 2), .mov, [.c (.string (mkS []))], none⟩]
def c_r01_Num_r0 : List COper := a_r01_Num_r0
instance : Reg c_r01_Num_r0 a_r01_Num_r0 1 := ⟨rfl, rfl⟩
@[simp] def a_r01_Num_r1 : List COper := [
  ⟨(some 3), .alloc (.arr 1 (rep 8 (.v (.int .u8 0)))), [], none⟩]
def c_r01_Num_r1 : List COper := a_r01_Num_r1
instance : Reg c_r01_Num_r1 a_r01_Num_r1 1 := ⟨rfl, rfl⟩
@[simp] def a_r01_Num_r2 : List COper := [
  ⟨(some 4), .mov, [.c (.int .i64 0)], none⟩]
def c_r01_Num_r2 : List COper := a_r01_Num_r2
instance : Reg c_r01_Num_r2 a_r01_Num_r2 1 := ⟨rfl, rfl⟩
@[simp] def a_r01_Num_r3 : List COper := [
  ⟨(some 5), .mov, [.t 4], none⟩,
  ⟨(some 6), .bin .lss, [.t 5, .c (.int .i64 8)], none⟩]
def c_r01_Num_r3 : List COper := a_r01_Num_r3
instance : Reg c_r01_Num_r3 a_r01_Num_r3 2 := ⟨rfl, rfl⟩
@[simp] def a_r01_Num_r5 : List COper := [
  ⟨(some 9), .mov, [.t 4], none⟩,
  ⟨(some 10), .bin .sub, [.c (.int .i64 7), .t 9], none⟩,
  ⟨(some 11), .mov, [.t 0], none⟩,
  ⟨(some 12), .mov, [.t 4], none⟩,
  ⟨(some 13), .bin .mul, [.c (.int .i64 8), .t 12], none⟩,
  ⟨(some 14), .convI .u64, [.t 13], none⟩,
  ⟨(some 15), .bin .shr, [.t 11, .t 14], none⟩,
  ⟨(some 16), .convI .u8, [.t 15], none⟩,
  ⟨(some 17), .iaddrArr 8 1 false, [.t 3, .t 10], none⟩,
  ⟨none, .store false 1, [.t 17, .t 16], none⟩]
def c_r01_Num_r5 : List COper := a_r01_Num_r5
instance : Reg c_r01_Num_r5 a_r01_Num_r5 10 := ⟨rfl, rfl⟩
@[simp] def a_r01_Num_r4 : List COper := [
  ⟨(some 7), .mov, [.t 4], none⟩,
  ⟨(some 8), .bin .add, [.t 7, .c (.int .i64 1)], none⟩,
  ⟨(some 4), .mov, [.t 8], none⟩]
def c_r01_Num_r4 : List COper := a_r01_Num_r4
instance : Reg c_r01_Num_r4 a_r01_Num_r4 3 := ⟨rfl, rfl⟩
@[simp] def a_r01_Num_r6 : List COper := [
  ⟨(some 18), .sliceArr 8 1 false false, [.t 3], none⟩,
  ⟨(some 19), .convS, [.t 18], none⟩,
  ⟨(some 2), .mov, [.t 19], none⟩]
def c_r01_Num_r6 : List COper := a_r01_Num_r6
instance : Reg c_r01_Num_r6 a_r01_Num_r6 3 := ⟨rfl, rfl⟩
@[simp] def c_r01_Num : CCode :=
  .seq (.region c_r01_Num_r0 none [0]) (.seq (.region c_r01_Num_r1 none [0, 3]) (.seq (.seq (.region c_r01_Num_r2 none [0, 3, 4]) (.block 0 (.loop (.seq (.seq (.region c_r01_Num_r3 none [0, 3, 4, 6]) (.cond (.t 6) (.skip) (.exit 0))) (.seq (.block 1 (.region c_r01_Num_r5 none [0, 3, 4])) (.region c_r01_Num_r4 none [0, 3, 4])))))) (.seq (.region c_r01_Num_r6 none [2]) (.ret))))
@[simp] def R_r01_Num : List CRes := [.tmp 2]
theorem k_r01_Num : chkFn Tryd.prog fn_r01_Num c_r01_Num R_r01_Num 1 = true := by kernel_rfl
/-! wapentake/wapentakeref01.Digest -/
@[simp] def a_r01_Digest_r0 : List COper := [
  ⟨(some 1), .box, [.t 0], none⟩,
  ⟨(some 2), .mov, [.c (.string (mkS []))], none⟩]
def c_r01_Digest_r0 : List COper := a_r01_Digest_r0
instance : Reg c_r01_Digest_r0 a_r01_Digest_r0 2 := ⟨rfl, rfl⟩
@[simp] def a_r01_Digest_r1 : List COper := [
  ⟨(some 3), .sliceArr 32 1 false false, [.t 1], none⟩,
  ⟨(some 4), .convS, [.t 3], none⟩,
  ⟨(some 2), .mov, [.t 4], none⟩]
def c_r01_Digest_r1 : List COper := a_r01_Digest_r1
instance : Reg c_r01_Digest_r1 a_r01_Digest_r1 3 := ⟨rfl, rfl⟩
@[simp] def c_r01_Digest : CCode :=
  .seq (.region c_r01_Digest_r0 none [1]) (.seq (.region c_r01_Digest_r1 none [2]) (.ret))
@[simp] def R_r01_Digest : List CRes := [.tmp 2]
theorem k_r01_Digest : chkFn Tryd.prog fn_r01_Digest c_r01_Digest R_r01_Digest 1 = true := by kernel_rfl
/-! wapentake/wapentakeref01.Text -/
@[simp] def a_r01_Text_r0 : List COper := [
  ⟨(some 2), .mov, [.c (.string (mkS []))], none⟩]
def c_r01_Text_r0 : List COper := a_r01_Text_r0
instance : Reg c_r01_Text_r0 a_r01_Text_r0 1 := ⟨rfl, rfl⟩
@[simp] def a_r01_Text_r1 : List COper := [
  ⟨(some 3), .mov, [.t 0], none⟩,
  ⟨(some 4), .lenS, [.t 3], none⟩,
  ⟨(some 5), .call fn_r01_Num, [.t 4], none⟩,
  ⟨(some 6), .sliceStr true false, [.t 5, .c (.int .i64 4)], none⟩,
  ⟨(some 7), .mov, [.t 0], none⟩,
  ⟨(some 8), .bin .add, [.t 6, .t 7], none⟩,
  ⟨(some 2), .mov, [.t 8], none⟩]
def c_r01_Text_r1 : List COper := a_r01_Text_r1
instance : Reg c_r01_Text_r1 a_r01_Text_r1 7 := ⟨rfl, rfl⟩
@[simp] def c_r01_Text : CCode :=
  .seq (.region c_r01_Text_r0 none [0]) (.seq (.region c_r01_Text_r1 none [2]) (.ret))
@[simp] def R_r01_Text : List CRes := [.tmp 2]
theorem k_r01_Text : chkFn Tryd.prog fn_r01_Text c_r01_Text R_r01_Text 1 = true := by kernel_rfl
/-! wapentake/wapentakeref11.Bytes -/
@[simp] def a_r11_Bytes_r0 : List COper := [
  ⟨(some 1), .box, [.t 0], none⟩,
  ⟨(some 2), .mov, [.c (.string (mkS []))], none⟩]
def c_r11_Bytes_r0 : List COper := a_r11_Bytes_r0
instance : Reg c_r11_Bytes_r0 a_r11_Bytes_r0 2 := ⟨rfl, rfl⟩
@[simp] def a_r11_Bytes_r1 : List COper := [
  ⟨(some 8), .faddr 2 2 true, [.t 1], none⟩,
  ⟨(some 9), .load true 2, [.t 8], none⟩,
  ⟨(some 10), .call fn_r08_Bytes, [.t 9], none⟩,
  ⟨(some 11), .faddr 0 1 false, [.t 1], none⟩,
  ⟨(some 12), .load false 1, [.t 11], none⟩,
  ⟨(some 13), .len, [.t 12], none⟩,
  ⟨(some 14), .call fn_r01_Num, [.t 13], none⟩,
  ⟨(some 15), .bin .add, [.t 10, .t 14], none⟩,
  ⟨(some 3), .mov, [.t 15], none⟩]
def c_r11_Bytes_r1 : List COper := a_r11_Bytes_r1
instance : Reg c_r11_Bytes_r1 a_r11_Bytes_r1 9 := ⟨rfl, rfl⟩
@[simp] def a_r11_Bytes_r2 : List COper := [
  ⟨(some 16), .faddr 0 1 false, [.t 1], none⟩,
  ⟨(some 17), .load false 1, [.t 16], none⟩,
  ⟨(some 18), .len, [.t 17], none⟩,
  ⟨(some 19), .mov, [.c (.int .i64 0)], none⟩]
def c_r11_Bytes_r2 : List COper := a_r11_Bytes_r2
instance : Reg c_r11_Bytes_r2 a_r11_Bytes_r2 4 := ⟨rfl, rfl⟩
@[simp] def a_r11_Bytes_r3 : List COper := [
  ⟨(some 20), .bin .lss, [.t 19, .t 18], none⟩]
def c_r11_Bytes_r3 : List COper := a_r11_Bytes_r3
instance : Reg c_r11_Bytes_r3 a_r11_Bytes_r3 1 := ⟨rfl, rfl⟩
@[simp] def a_r11_Bytes_r4 : List COper := [
  ⟨(some 21), .iaddr 2, [.t 17, .t 19], none⟩,
  ⟨(some 22), .load true 2, [.t 21], none⟩,
  ⟨(some 5), .alloc (.node [.v (.string (mkS [])), .v (.string (mkS []))]), [], none⟩,
  ⟨none, .store true 2, [.t 5, .t 22], none⟩]
def c_r11_Bytes_r4 : List COper := a_r11_Bytes_r4
instance : Reg c_r11_Bytes_r4 a_r11_Bytes_r4 4 := ⟨rfl, rfl⟩
@[simp] def a_r11_Bytes_r5 : List COper := [
  ⟨(some 23), .mov, [.t 3], none⟩,
  ⟨(some 24), .faddr 0 1 false, [.t 5], none⟩,
  ⟨(some 25), .load false 1, [.t 24], none⟩,
  ⟨(some 26), .call fn_r01_Text, [.t 25], none⟩,
  ⟨(some 27), .bin .add, [.t 23, .t 26], none⟩,
  ⟨(some 28), .faddr 1 1 false, [.t 5], none⟩,
  ⟨(some 29), .load false 1, [.t 28], none⟩,
  ⟨(some 30), .call fn_r01_Text, [.t 29], none⟩,
  ⟨(some 31), .bin .add, [.t 27, .t 30], none⟩,
  ⟨(some 3), .mov, [.t 31], none⟩]
def c_r11_Bytes_r5 : List COper := a_r11_Bytes_r5
instance : Reg c_r11_Bytes_r5 a_r11_Bytes_r5 10 := ⟨rfl, rfl⟩
@[simp] def a_r11_Bytes_r6 : List COper := [
  ⟨(some 32), .bin .add, [.t 19, .c (.int .i64 1)], none⟩,
  ⟨(some 19), .mov, [.t 32], none⟩]
def c_r11_Bytes_r6 : List COper := a_r11_Bytes_r6
instance : Reg c_r11_Bytes_r6 a_r11_Bytes_r6 2 := ⟨rfl, rfl⟩
@[simp] def a_r11_Bytes_r7 : List COper := [
  ⟨(some 33), .mov, [.t 3], none⟩,
  ⟨(some 34), .faddr 1 1 false, [.t 1], none⟩,
  ⟨(some 35), .load false 1, [.t 34], none⟩,
  ⟨(some 36), .len, [.t 35], none⟩,
  ⟨(some 37), .call fn_r01_Num, [.t 36], none⟩,
  ⟨(some 38), .bin .add, [.t 33, .t 37], none⟩,
  ⟨(some 3), .mov, [.t 38], none⟩]
def c_r11_Bytes_r7 : List COper := a_r11_Bytes_r7
instance : Reg c_r11_Bytes_r7 a_r11_Bytes_r7 7 := ⟨rfl, rfl⟩
@[simp] def a_r11_Bytes_r8 : List COper := [
  ⟨(some 39), .faddr 1 1 false, [.t 1], none⟩,
  ⟨(some 40), .load false 1, [.t 39], none⟩,
  ⟨(some 41), .len, [.t 40], none⟩,
  ⟨(some 42), .mov, [.c (.int .i64 0)], none⟩]
def c_r11_Bytes_r8 : List COper := a_r11_Bytes_r8
instance : Reg c_r11_Bytes_r8 a_r11_Bytes_r8 4 := ⟨rfl, rfl⟩
@[simp] def a_r11_Bytes_r9 : List COper := [
  ⟨(some 43), .bin .lss, [.t 42, .t 41], none⟩]
def c_r11_Bytes_r9 : List COper := a_r11_Bytes_r9
instance : Reg c_r11_Bytes_r9 a_r11_Bytes_r9 1 := ⟨rfl, rfl⟩
@[simp] def a_r11_Bytes_r10 : List COper := [
  ⟨(some 44), .iaddr 4, [.t 40, .t 42], none⟩,
  ⟨(some 45), .load true 4, [.t 44], none⟩,
  ⟨(some 7), .alloc (.node [.v (.int .i64 0), .v (.int .i64 0), .v (.int .i64 0), .v (.slice none 0 0)]), [], none⟩,
  ⟨none, .store true 4, [.t 7, .t 45], none⟩]
def c_r11_Bytes_r10 : List COper := a_r11_Bytes_r10
instance : Reg c_r11_Bytes_r10 a_r11_Bytes_r10 4 := ⟨rfl, rfl⟩
@[simp] def a_r11_Bytes_r11 : List COper := [
  ⟨(some 46), .mov, [.t 3], none⟩,
  ⟨(some 47), .load true 4, [.t 7], none⟩,
  ⟨(some 48), .call fn_r09_ReplyBytes, [.t 47], none⟩,
  ⟨(some 49), .bin .add, [.t 46, .t 48], none⟩,
  ⟨(some 3), .mov, [.t 49], none⟩]
def c_r11_Bytes_r11 : List COper := a_r11_Bytes_r11
instance : Reg c_r11_Bytes_r11 a_r11_Bytes_r11 5 := ⟨rfl, rfl⟩
@[simp] def a_r11_Bytes_r12 : List COper := [
  ⟨(some 50), .bin .add, [.t 42, .c (.int .i64 1)], none⟩,
  ⟨(some 42), .mov, [.t 50], none⟩]
def c_r11_Bytes_r12 : List COper := a_r11_Bytes_r12
instance : Reg c_r11_Bytes_r12 a_r11_Bytes_r12 2 := ⟨rfl, rfl⟩
@[simp] def a_r11_Bytes_r13 : List COper := [
  ⟨(some 51), .mov, [.t 3], none⟩,
  ⟨(some 2), .mov, [.t 51], none⟩]
def c_r11_Bytes_r13 : List COper := a_r11_Bytes_r13
instance : Reg c_r11_Bytes_r13 a_r11_Bytes_r13 2 := ⟨rfl, rfl⟩
@[simp] def c_r11_Bytes : CCode :=
  .seq (.region c_r11_Bytes_r0 none [1]) (.seq (.region c_r11_Bytes_r1 (some ([0, 1, 3, 0, 8, 24, 63, 127, 255], [(2, 4)])) [1, 3]) (.seq (.seq (.region c_r11_Bytes_r2 none [1, 3, 17, 18, 19]) (.block 0 (.loop (.seq (.region c_r11_Bytes_r3 none [1, 3, 17, 18, 19, 20]) (.seq (.cond (.t 20) (.skip) (.exit 0)) (.seq (.block 1 (.seq (.region c_r11_Bytes_r4 none [1, 3, 5, 17, 18, 19]) (.region c_r11_Bytes_r5 (some ([0, 0, 2, 6, 15, 0, 32, 110, 255, 511], [(3, 6)])) [1, 3, 17, 18, 19]))) (.region c_r11_Bytes_r6 none [1, 3, 17, 18, 19]))))))) (.seq (.region c_r11_Bytes_r7 none [1, 3]) (.seq (.seq (.region c_r11_Bytes_r8 none [3, 40, 41, 42]) (.block 2 (.loop (.seq (.region c_r11_Bytes_r9 none [3, 40, 41, 42, 43]) (.seq (.cond (.t 43) (.skip) (.exit 2)) (.seq (.block 3 (.seq (.region c_r11_Bytes_r10 none [3, 7, 40, 41, 42]) (.region c_r11_Bytes_r11 none [3, 40, 41, 42]))) (.region c_r11_Bytes_r12 none [3, 40, 41, 42]))))))) (.seq (.region c_r11_Bytes_r13 none [2]) (.ret))))))
@[simp] def R_r11_Bytes : List CRes := [.tmp 2]
theorem k_r11_Bytes : chkFn Tryd.prog fn_r11_Bytes c_r11_Bytes R_r11_Bytes 1 = true := by kernel_rfl
/-! (*wapentake/disk.Disk).Install -/
@[simp] def a_disk_Disk_Install_r0 : List COper := [
  ⟨(some 6), .mov, [.c (.int .i64 0)], none⟩]
def c_disk_Disk_Install_r0 : List COper := a_disk_Disk_Install_r0
instance : Reg c_disk_Disk_Install_r0 a_disk_Disk_Install_r0 1 := ⟨rfl, rfl⟩
@[simp] def a_disk_Disk_Install_r1 : List COper := [
  ⟨(some 8), .mov, [.t 0], none⟩,
  ⟨(some 9), .eqp true, [.t 8, .c (.pointer none)], none⟩,
  ⟨(some 10), .mov, [.t 9], none⟩,
  ⟨(some 11), .mov, [.t 0], (some (10, true))⟩,
  ⟨(some 12), .nilc, [.t 11], (some (10, true))⟩,
  ⟨(some 13), .faddr 1 1 false, [.t 12], (some (10, true))⟩,
  ⟨(some 14), .load false 1, [.t 13], (some (10, true))⟩,
  ⟨(some 15), .not, [.t 14], (some (10, true))⟩,
  ⟨(some 16), .pick, [.t 10, .t 15, .c (.bool false)], none⟩,
  ⟨(some 17), .mov, [.t 16], none⟩,
  ⟨(some 18), .mov, [.t 0], (some (17, true))⟩,
  ⟨(some 19), .call fn_disk_Disk_size, [.t 18], (some (17, true))⟩,
  ⟨(some 20), .mov, [.t 2], (some (17, true))⟩,
  ⟨(some 21), .len, [.t 20], (some (17, true))⟩,
  ⟨(some 22), .bin .add, [.t 19, .t 21], (some (17, true))⟩,
  ⟨(some 23), .bin .gtr, [.t 22, .c (.int .i64 4194304)], (some (17, true))⟩,
  ⟨(some 24), .pick, [.t 17, .t 23, .c (.bool false)], none⟩]
def c_disk_Disk_Install_r1 : List COper := a_disk_Disk_Install_r1
instance : Reg c_disk_Disk_Install_r1 a_disk_Disk_Install_r1 17 := ⟨rfl, rfl⟩
@[simp] def a_disk_Disk_Install_r2 : List COper := [
  ⟨(some 6), .mov, [.c (.int .i64 20)], none⟩]
def c_disk_Disk_Install_r2 : List COper := a_disk_Disk_Install_r2
instance : Reg c_disk_Disk_Install_r2 a_disk_Disk_Install_r2 1 := ⟨rfl, rfl⟩
@[simp] def a_disk_Disk_Install_r3 : List COper := [
  ⟨(some 25), .mov, [.t 0], none⟩,
  ⟨(some 26), .call fn_disk_Disk_act, [.t 25], none⟩,
  ⟨(some 7), .mov, [.t 26], none⟩]
def c_disk_Disk_Install_r3 : List COper := a_disk_Disk_Install_r3
instance : Reg c_disk_Disk_Install_r3 a_disk_Disk_Install_r3 3 := ⟨rfl, rfl⟩
@[simp] def a_disk_Disk_Install_r4 : List COper := [
  ⟨(some 27), .mov, [.t 0], none⟩,
  ⟨(some 28), .eqp false, [.t 27, .c (.pointer none)], none⟩,
  ⟨(some 29), .mov, [.t 28], none⟩,
  ⟨(some 30), .mov, [.t 0], (some (29, false))⟩,
  ⟨(some 31), .nilc, [.t 30], (some (29, false))⟩,
  ⟨(some 32), .faddr 1 1 false, [.t 31], (some (29, false))⟩,
  ⟨(some 33), .load false 1, [.t 32], (some (29, false))⟩,
  ⟨(some 34), .pick, [.t 29, .c (.bool true), .t 33], none⟩]
def c_disk_Disk_Install_r4 : List COper := a_disk_Disk_Install_r4
instance : Reg c_disk_Disk_Install_r4 a_disk_Disk_Install_r4 8 := ⟨rfl, rfl⟩
@[simp] def a_disk_Disk_Install_r5 : List COper := [
  ⟨(some 35), .mov, [.t 7], none⟩,
  ⟨(some 6), .mov, [.t 35], none⟩]
def c_disk_Disk_Install_r5 : List COper := a_disk_Disk_Install_r5
instance : Reg c_disk_Disk_Install_r5 a_disk_Disk_Install_r5 2 := ⟨rfl, rfl⟩
@[simp] def a_disk_Disk_Install_r6 : List COper := [
  ⟨(some 36), .mov, [.t 7], none⟩,
  ⟨(some 37), .bin .neq, [.t 36, .c (.int .i64 0)], none⟩]
def c_disk_Disk_Install_r6 : List COper := a_disk_Disk_Install_r6
instance : Reg c_disk_Disk_Install_r6 a_disk_Disk_Install_r6 2 := ⟨rfl, rfl⟩
@[simp] def a_disk_Disk_Install_r7 : List COper := [
  ⟨(some 38), .mov, [.t 0], none⟩,
  ⟨(some 39), .mov, [.t 0], none⟩,
  ⟨(some 40), .nilc, [.t 39], none⟩,
  ⟨(some 41), .faddr 4 1 false, [.t 40], none⟩,
  ⟨(some 42), .load false 1, [.t 41], none⟩,
  ⟨(some 43), .call fn_disk_Disk_Off, [.t 38, .t 42], none⟩]
def c_disk_Disk_Install_r7 : List COper := a_disk_Disk_Install_r7
instance : Reg c_disk_Disk_Install_r7 a_disk_Disk_Install_r7 6 := ⟨rfl, rfl⟩
@[simp] def a_disk_Disk_Install_r8 : List COper := [
  ⟨(some 44), .mov, [.t 7], none⟩,
  ⟨(some 6), .mov, [.t 44], none⟩]
def c_disk_Disk_Install_r8 : List COper := a_disk_Disk_Install_r8
instance : Reg c_disk_Disk_Install_r8 a_disk_Disk_Install_r8 2 := ⟨rfl, rfl⟩
@[simp] def a_disk_Disk_Install_r9 : List COper := [
  ⟨(some 45), .mov, [.t 0], none⟩,
  ⟨(some 46), .nilc, [.t 45], none⟩,
  ⟨(some 47), .faddr 0 1 false, [.t 46], none⟩,
  ⟨(some 48), .load false 1, [.t 47], none⟩,
  ⟨(some 49), .mov, [.t 1], none⟩,
  ⟨(some 50), .bslice 1 0 (.v (.int .u8 0)) [], [], none⟩,
  ⟨(some 51), .mov, [.t 2], none⟩,
  ⟨(some 52), .app 1 1, [.t 50, .t 51], none⟩,
  ⟨(some 53), .build [.v (.slice none 0 0), .v (.slice none 0 0)] [0], [.t 52], none⟩,
  ⟨(some 54), .box, [.t 53], none⟩,
  ⟨none, .mput (.str), [.t 48, .t 49, .t 54], none⟩]
def c_disk_Disk_Install_r9 : List COper := a_disk_Disk_Install_r9
instance : Reg c_disk_Disk_Install_r9 a_disk_Disk_Install_r9 11 := ⟨rfl, rfl⟩
@[simp] def a_disk_Disk_Install_r10 : List COper := [
  ⟨(some 6), .mov, [.c (.int .i64 0)], none⟩]
def c_disk_Disk_Install_r10 : List COper := a_disk_Disk_Install_r10
instance : Reg c_disk_Disk_Install_r10 a_disk_Disk_Install_r10 1 := ⟨rfl, rfl⟩
@[simp] def c_disk_Disk_Install : CCode :=
  .seq (.region c_disk_Disk_Install_r0 none [0, 1, 2]) (.seq (.seq (.region c_disk_Disk_Install_r1 none [0, 1, 2, 24]) (.cond (.t 24) (.seq (.region c_disk_Disk_Install_r2 none [6]) (.ret)) (.skip))) (.seq (.region c_disk_Disk_Install_r3 none [0, 1, 2, 7]) (.seq (.seq (.region c_disk_Disk_Install_r4 none [0, 1, 2, 7, 34]) (.cond (.t 34) (.seq (.region c_disk_Disk_Install_r5 none [6]) (.ret)) (.skip))) (.seq (.seq (.region c_disk_Disk_Install_r6 none [0, 1, 2, 7, 37]) (.cond (.t 37) (.seq (.region c_disk_Disk_Install_r7 none [7]) (.seq (.region c_disk_Disk_Install_r8 none [6]) (.ret))) (.skip))) (.seq (.region c_disk_Disk_Install_r9 (some ([0, 1, 3, 7, 0, 0, 0, 96, 224, 480, 1023], [(3, 5), (3, 7), (3, 9)])) []) (.seq (.region c_disk_Disk_Install_r10 none [6]) (.ret)))))))
@[simp] def R_disk_Disk_Install : List CRes := [.tmp 6]
theorem k_disk_Disk_Install : chkFn Tryd.prog fn_disk_Disk_Install c_disk_Disk_Install R_disk_Disk_Install 3 = true := by kernel_rfl
/-! wapentake/snap.Bytes -/
@[simp] def a_snap_Bytes_r0 : List COper := [
  ⟨(some 1), .box, [.t 0], none⟩,
  ⟨(some 2), .mov, [.c (.slice none 0 0)], none⟩]
def c_snap_Bytes_r0 : List COper := a_snap_Bytes_r0
instance : Reg c_snap_Bytes_r0 a_snap_Bytes_r0 2 := ⟨rfl, rfl⟩
@[simp] def a_snap_Bytes_r1 : List COper := [
  ⟨(some 5), .build [.v (.slice none 0 0)] [], [], none⟩,
  ⟨(some 6), .box, [.t 5], none⟩,
  ⟨(some 3), .mov, [.t 6], none⟩]
def c_snap_Bytes_r1 : List COper := a_snap_Bytes_r1
instance : Reg c_snap_Bytes_r1 a_snap_Bytes_r1 3 := ⟨rfl, rfl⟩
@[simp] def a_snap_Bytes_r2 : List COper := [
  ⟨(some 7), .mov, [.t 3], none⟩,
  ⟨(some 8), .faddr 0 1 false, [.t 1], none⟩,
  ⟨(some 9), .load false 1, [.t 8], none⟩,
  ⟨(some 10), .bslice 1 1 (.v (.int .i64 0)) [0], [.t 9], none⟩,
  ⟨(some 11), .call fn_code_Writer_Num, [.t 7, .t 10], none⟩]
def c_snap_Bytes_r2 : List COper := a_snap_Bytes_r2
instance : Reg c_snap_Bytes_r2 a_snap_Bytes_r2 5 := ⟨rfl, rfl⟩
@[simp] def a_snap_Bytes_r3 : List COper := [
  ⟨(some 12), .mov, [.t 3], none⟩,
  ⟨(some 13), .faddr 1 32 true, [.t 1], none⟩,
  ⟨(some 14), .load true 32, [.t 13], none⟩,
  ⟨(some 15), .bslice 32 1 (.arr 1 (rep 32 (.v (.int .u8 0)))) [0], [.t 14], none⟩,
  ⟨(some 16), .call fn_code_Writer_Digest, [.t 12, .t 15], none⟩]
def c_snap_Bytes_r3 : List COper := a_snap_Bytes_r3
instance : Reg c_snap_Bytes_r3 a_snap_Bytes_r3 5 := ⟨rfl, rfl⟩
@[simp] def a_snap_Bytes_r4 : List COper := [
  ⟨(some 17), .mov, [.t 3], none⟩,
  ⟨(some 18), .faddr 33 4 true, [.t 1], none⟩,
  ⟨(some 19), .load true 4, [.t 18], none⟩,
  ⟨(some 20), .call fn_chunk_Bytes, [.t 19], none⟩,
  ⟨(some 21), .convS, [.t 20], none⟩,
  ⟨(some 22), .bslice 1 1 (.v (.string (mkS []))) [0], [.t 21], none⟩,
  ⟨(some 23), .call fn_code_Writer_Text, [.t 17, .t 22], none⟩]
def c_snap_Bytes_r4 : List COper := a_snap_Bytes_r4
instance : Reg c_snap_Bytes_r4 a_snap_Bytes_r4 7 := ⟨rfl, rfl⟩
@[simp] def a_snap_Bytes_r5 : List COper := [
  ⟨(some 24), .bslice 1 4 (.v (.int .u8 0)) [0, 1, 2, 3], [.c (.int .u8 115), .c (.int .u8 110), .c (.int .u8 97), .c (.int .u8 112)], none⟩,
  ⟨(some 25), .convM, [.t 24], none⟩,
  ⟨(some 26), .mov, [.t 3], none⟩,
  ⟨(some 27), .call fn_code_Writer_Bytes, [.t 26], none⟩,
  ⟨(some 28), .bslice 1 2 (.v (.slice none 0 0)) [0, 1], [.t 25, .t 27], none⟩,
  ⟨(some 29), .call fn_sha_Of, [.t 28], none⟩,
  ⟨(some 4), .alloc (.arr 1 (rep 32 (.v (.int .u8 0)))), [], none⟩,
  ⟨none, .store true 32, [.t 4, .t 29], none⟩]
def c_snap_Bytes_r5 : List COper := a_snap_Bytes_r5
instance : Reg c_snap_Bytes_r5 a_snap_Bytes_r5 8 := ⟨rfl, rfl⟩
@[simp] def a_snap_Bytes_r6 : List COper := [
  ⟨(some 30), .sliceArr 32 1 false false, [.t 4], none⟩,
  ⟨(some 31), .mov, [.t 3], none⟩,
  ⟨(some 32), .call fn_code_Writer_Bytes, [.t 31], none⟩,
  ⟨(some 33), .app 1 1, [.t 30, .t 32], none⟩,
  ⟨(some 2), .mov, [.t 33], none⟩]
def c_snap_Bytes_r6 : List COper := a_snap_Bytes_r6
instance : Reg c_snap_Bytes_r6 a_snap_Bytes_r6 5 := ⟨rfl, rfl⟩
@[simp] def c_snap_Bytes : CCode :=
  .seq (.region c_snap_Bytes_r0 none [1]) (.seq (.region c_snap_Bytes_r1 none [1, 3]) (.seq (.region c_snap_Bytes_r2 none [1, 3]) (.seq (.region c_snap_Bytes_r3 none [1, 3]) (.seq (.region c_snap_Bytes_r4 none [3]) (.seq (.region c_snap_Bytes_r5 none [3, 4]) (.seq (.region c_snap_Bytes_r6 (some ([0, 0, 2, 7, 15], [])) [2]) (.ret)))))))
@[simp] def R_snap_Bytes : List CRes := [.tmp 2]
theorem k_snap_Bytes : chkFn Tryd.prog fn_snap_Bytes c_snap_Bytes R_snap_Bytes 1 = true := by kernel_rfl
/-! (*wapentake/disk.Disk).Read -/
@[simp] def a_disk_Disk_Read_r0 : List COper := [
  ⟨(some 4), .mov, [.c (.slice none 0 0)], none⟩,
  ⟨(some 5), .mov, [.c (.int .i64 0)], none⟩]
def c_disk_Disk_Read_r0 : List COper := a_disk_Disk_Read_r0
instance : Reg c_disk_Disk_Read_r0 a_disk_Disk_Read_r0 2 := ⟨rfl, rfl⟩
@[simp] def a_disk_Disk_Read_r1 : List COper := [
  ⟨(some 8), .mov, [.t 0], none⟩,
  ⟨(some 9), .eqp false, [.t 8, .c (.pointer none)], none⟩,
  ⟨(some 7), .mov, [.t 9], none⟩]
def c_disk_Disk_Read_r1 : List COper := a_disk_Disk_Read_r1
instance : Reg c_disk_Disk_Read_r1 a_disk_Disk_Read_r1 3 := ⟨rfl, rfl⟩
@[simp] def a_disk_Disk_Read_r2 : List COper := [
  ⟨(some 4), .mov, [.c (.slice none 0 0)], none⟩,
  ⟨(some 5), .mov, [.c (.int .i64 2)], none⟩]
def c_disk_Disk_Read_r2 : List COper := a_disk_Disk_Read_r2
instance : Reg c_disk_Disk_Read_r2 a_disk_Disk_Read_r2 2 := ⟨rfl, rfl⟩
@[simp] def a_disk_Disk_Read_r3 : List COper := [
  ⟨(some 11), .mov, [.t 0], none⟩,
  ⟨(some 12), .nilc, [.t 11], none⟩,
  ⟨(some 13), .faddr 1 1 false, [.t 12], none⟩,
  ⟨(some 14), .load false 1, [.t 13], none⟩,
  ⟨(some 10), .mov, [.t 14], none⟩]
def c_disk_Disk_Read_r3 : List COper := a_disk_Disk_Read_r3
instance : Reg c_disk_Disk_Read_r3 a_disk_Disk_Read_r3 5 := ⟨rfl, rfl⟩
@[simp] def a_disk_Disk_Read_r4 : List COper := [
  ⟨(some 4), .mov, [.c (.slice none 0 0)], none⟩,
  ⟨(some 5), .mov, [.c (.int .i64 21)], none⟩]
def c_disk_Disk_Read_r4 : List COper := a_disk_Disk_Read_r4
instance : Reg c_disk_Disk_Read_r4 a_disk_Disk_Read_r4 2 := ⟨rfl, rfl⟩
@[simp] def a_disk_Disk_Read_r5 : List COper := [
  ⟨(some 16), .mov, [.t 0], none⟩,
  ⟨(some 17), .nilc, [.t 16], none⟩,
  ⟨(some 18), .faddr 0 1 false, [.t 17], none⟩,
  ⟨(some 19), .load false 1, [.t 18], none⟩,
  ⟨(some 20), .mov, [.t 1], none⟩,
  ⟨(some 21), .mlook (.str) (.v (.pointer none)) false, [.t 19, .t 20], none⟩,
  ⟨(some 22), .eqp false, [.t 21, .c (.pointer none)], none⟩,
  ⟨(some 15), .mov, [.t 22], none⟩]
def c_disk_Disk_Read_r5 : List COper := a_disk_Disk_Read_r5
instance : Reg c_disk_Disk_Read_r5 a_disk_Disk_Read_r5 8 := ⟨rfl, rfl⟩
@[simp] def a_disk_Disk_Read_r6 : List COper := [
  ⟨(some 4), .mov, [.c (.slice none 0 0)], none⟩,
  ⟨(some 5), .mov, [.c (.int .i64 7)], none⟩]
def c_disk_Disk_Read_r6 : List COper := a_disk_Disk_Read_r6
instance : Reg c_disk_Disk_Read_r6 a_disk_Disk_Read_r6 2 := ⟨rfl, rfl⟩
@[simp] def a_disk_Disk_Read_r7 : List COper := [
  ⟨(some 23), .mov, [.t 0], none⟩,
  ⟨(some 24), .nilc, [.t 23], none⟩,
  ⟨(some 25), .faddr 0 1 false, [.t 24], none⟩,
  ⟨(some 26), .load false 1, [.t 25], none⟩,
  ⟨(some 27), .mov, [.t 1], none⟩,
  ⟨(some 28), .mlook (.str) (.v (.pointer none)) false, [.t 26, .t 27], none⟩,
  ⟨(some 6), .mov, [.t 28], none⟩]
def c_disk_Disk_Read_r7 : List COper := a_disk_Disk_Read_r7
instance : Reg c_disk_Disk_Read_r7 a_disk_Disk_Read_r7 7 := ⟨rfl, rfl⟩
@[simp] def a_disk_Disk_Read_r8 : List COper := [
  ⟨(some 29), .bslice 1 0 (.v (.int .u8 0)) [], [], none⟩,
  ⟨(some 30), .mov, [.t 6], none⟩,
  ⟨(some 31), .nilc, [.t 30], none⟩,
  ⟨(some 32), .faddr 0 1 false, [.t 31], none⟩,
  ⟨(some 33), .load false 1, [.t 32], none⟩,
  ⟨(some 34), .app 1 1, [.t 29, .t 33], none⟩,
  ⟨(some 35), .mov, [.t 6], none⟩,
  ⟨(some 36), .nilc, [.t 35], none⟩,
  ⟨(some 37), .faddr 1 1 false, [.t 36], none⟩,
  ⟨(some 38), .load false 1, [.t 37], none⟩,
  ⟨(some 39), .app 1 1, [.t 34, .t 38], none⟩,
  ⟨(some 4), .mov, [.t 39], none⟩,
  ⟨(some 5), .mov, [.c (.int .i64 0)], none⟩]
def c_disk_Disk_Read_r8 : List COper := a_disk_Disk_Read_r8
instance : Reg c_disk_Disk_Read_r8 a_disk_Disk_Read_r8 13 := ⟨rfl, rfl⟩
@[simp] def c_disk_Disk_Read : CCode :=
  .seq (.region c_disk_Disk_Read_r0 none [0, 1]) (.seq (.block 0 (.seq (.region c_disk_Disk_Read_r1 none [0, 1, 7]) (.cond (.t 7) (.seq (.region c_disk_Disk_Read_r2 none [4, 5]) (.ret)) (.seq (.region c_disk_Disk_Read_r3 none [0, 1, 10]) (.cond (.t 10) (.seq (.region c_disk_Disk_Read_r4 none [4, 5]) (.ret)) (.seq (.region c_disk_Disk_Read_r5 none [0, 1, 15]) (.cond (.t 15) (.seq (.region c_disk_Disk_Read_r6 none [4, 5]) (.ret)) (.skip)))))))) (.seq (.region c_disk_Disk_Read_r7 none [6]) (.seq (.region c_disk_Disk_Read_r8 (some ([0, 0, 2, 6, 14, 31, 0, 64, 192, 448, 1023, 2047, 4095], [(0, 4), (0, 9), (5, 9)])) [4, 5]) (.ret))))
@[simp] def R_disk_Disk_Read : List CRes := [.tmp 4, .tmp 5]
theorem k_disk_Disk_Read : chkFn Tryd.prog fn_disk_Disk_Read c_disk_Disk_Read R_disk_Disk_Read 2 = true := by kernel_rfl
/-! wapentake/snap.Read -/
@[simp] def a_snap_Read_r0 : List COper := [
  ⟨(some 2), .alloc (.node [.v (.int .i64 0), .arr 1 (rep 32 (.v (.int .u8 0))), .node [.v (.slice none 0 0), .v (.slice none 0 0), .node [.v (.int .i64 0), .v (.slice none 0 0)]]]), [], none⟩,
  ⟨(some 3), .mov, [.c (.int .i64 0)], none⟩]
def c_snap_Read_r0 : List COper := a_snap_Read_r0
instance : Reg c_snap_Read_r0 a_snap_Read_r0 2 := ⟨rfl, rfl⟩
@[simp] def a_snap_Read_r1 : List COper := [
  ⟨(some 10), .mov, [.t 0], none⟩,
  ⟨(some 11), .call fn_code_Read, [.t 10], none⟩,
  ⟨(some 4), .mov, [.t 11], none⟩]
def c_snap_Read_r1 : List COper := a_snap_Read_r1
instance : Reg c_snap_Read_r1 a_snap_Read_r1 3 := ⟨rfl, rfl⟩
@[simp] def a_snap_Read_r2 : List COper := [
  ⟨(some 12), .mov, [.t 4], none⟩,
  ⟨(some 13), .call fn_code_Reader_Digest, [.t 12], none⟩,
  ⟨(some 5), .alloc (.arr 1 (rep 32 (.v (.int .u8 0)))), [], none⟩,
  ⟨none, .store true 32, [.t 5, .t 13], none⟩]
def c_snap_Read_r2 : List COper := a_snap_Read_r2
instance : Reg c_snap_Read_r2 a_snap_Read_r2 4 := ⟨rfl, rfl⟩
@[simp] def a_snap_Read_r3 : List COper := [
  ⟨(some 14), .mov, [.t 4], none⟩,
  ⟨(some 15), .call fn_code_Reader_In, [.t 14, .c (.int .i64 0), .c (.int .i64 1024)], none⟩,
  ⟨(some 16), .mov, [.t 4], none⟩,
  ⟨(some 17), .call fn_code_Reader_Digest, [.t 16], none⟩,
  ⟨(some 18), .build [.v (.int .i64 0), .arr 1 (rep 32 (.v (.int .u8 0))), .node [.v (.slice none 0 0), .v (.slice none 0 0), .node [.v (.int .i64 0), .v (.slice none 0 0)]]] [0, 1], [.t 15, .t 17], none⟩,
  ⟨(some 6), .alloc (.node [.v (.int .i64 0), .arr 1 (rep 32 (.v (.int .u8 0))), .node [.v (.slice none 0 0), .v (.slice none 0 0), .node [.v (.int .i64 0), .v (.slice none 0 0)]]]), [], none⟩,
  ⟨none, .store true 37, [.t 6, .t 18], none⟩]
def c_snap_Read_r3 : List COper := a_snap_Read_r3
instance : Reg c_snap_Read_r3 a_snap_Read_r3 7 := ⟨rfl, rfl⟩
@[simp] def a_snap_Read_r4 : List COper := [
  ⟨(some 19), .mov, [.t 4], none⟩,
  ⟨(some 20), .call fn_code_Reader_Text, [.t 19, .c (.int .i64 4194304)], none⟩,
  ⟨(some 7), .mov, [.t 20], none⟩]
def c_snap_Read_r4 : List COper := a_snap_Read_r4
instance : Reg c_snap_Read_r4 a_snap_Read_r4 3 := ⟨rfl, rfl⟩
@[simp] def a_snap_Read_r5 : List COper := [
  ⟨(some 21), .mov, [.t 4], none⟩,
  ⟨(some 22), .call fn_code_Reader_End, [.t 21], none⟩,
  ⟨(some 23), .not, [.t 22], none⟩,
  ⟨(some 24), .mov, [.t 23], none⟩,
  ⟨(some 25), .bslice 1 4 (.v (.int .u8 0)) [0, 1, 2, 3], [.c (.int .u8 115), .c (.int .u8 110), .c (.int .u8 97), .c (.int .u8 112)], (some (24, false))⟩,
  ⟨(some 26), .convM, [.t 25], (some (24, false))⟩,
  ⟨(some 27), .mov, [.t 0], (some (24, false))⟩,
  ⟨(some 28), .slice 1 true false, [.t 27, .c (.int .i64 32)], (some (24, false))⟩,
  ⟨(some 29), .bslice 1 2 (.v (.slice none 0 0)) [0, 1], [.t 26, .t 28], (some (24, false))⟩,
  ⟨(some 30), .call fn_sha_Of, [.t 29], (some (24, false))⟩,
  ⟨(some 31), .load true 32, [.t 5], (some (24, false))⟩,
  ⟨(some 32), .eqa true .u8 32, [.t 30, .t 31], (some (24, false))⟩,
  ⟨(some 33), .pick, [.t 24, .c (.bool true), .t 32], none⟩]
def c_snap_Read_r5 : List COper := a_snap_Read_r5
instance : Reg c_snap_Read_r5 a_snap_Read_r5 13 := ⟨rfl, rfl⟩
@[simp] def a_snap_Read_r6 : List COper := [
  ⟨(some 34), .build [.v (.int .i64 0), .arr 1 (rep 32 (.v (.int .u8 0))), .node [.v (.slice none 0 0), .v (.slice none 0 0), .node [.v (.int .i64 0), .v (.slice none 0 0)]]] [], [], none⟩,
  ⟨none, .store true 37, [.t 2, .t 34], none⟩,
  ⟨(some 3), .mov, [.c (.int .i64 4)], none⟩]
def c_snap_Read_r6 : List COper := a_snap_Read_r6
instance : Reg c_snap_Read_r6 a_snap_Read_r6 3 := ⟨rfl, rfl⟩
@[simp] def a_snap_Read_r7 : List COper := [
  ⟨(some 36), .mov, [.t 7], none⟩,
  ⟨(some 37), .convB, [.t 36], none⟩,
  ⟨(some 38), .call fn_chunk_State, [.t 37], none⟩,
  ⟨(some 35), .mov, [.t 38], none⟩,
  ⟨(some 39), .ext 0, [.t 35], none⟩,
  ⟨(some 40), .ext 1, [.t 35], none⟩,
  ⟨(some 8), .alloc (.node [.v (.slice none 0 0), .v (.slice none 0 0), .node [.v (.int .i64 0), .v (.slice none 0 0)]]), [], none⟩,
  ⟨none, .store true 4, [.t 8, .t 39], none⟩,
  ⟨(some 9), .mov, [.t 40], none⟩]
def c_snap_Read_r7 : List COper := a_snap_Read_r7
instance : Reg c_snap_Read_r7 a_snap_Read_r7 9 := ⟨rfl, rfl⟩
@[simp] def a_snap_Read_r8 : List COper := [
  ⟨(some 41), .mov, [.t 9], none⟩,
  ⟨(some 42), .bin .neq, [.t 41, .c (.int .i64 0)], none⟩]
def c_snap_Read_r8 : List COper := a_snap_Read_r8
instance : Reg c_snap_Read_r8 a_snap_Read_r8 2 := ⟨rfl, rfl⟩
@[simp] def a_snap_Read_r9 : List COper := [
  ⟨(some 43), .build [.v (.int .i64 0), .arr 1 (rep 32 (.v (.int .u8 0))), .node [.v (.slice none 0 0), .v (.slice none 0 0), .node [.v (.int .i64 0), .v (.slice none 0 0)]]] [], [], none⟩,
  ⟨(some 44), .mov, [.t 9], none⟩,
  ⟨none, .store true 37, [.t 2, .t 43], none⟩,
  ⟨(some 3), .mov, [.t 44], none⟩]
def c_snap_Read_r9 : List COper := a_snap_Read_r9
instance : Reg c_snap_Read_r9 a_snap_Read_r9 4 := ⟨rfl, rfl⟩
@[simp] def a_snap_Read_r10 : List COper := [
  ⟨(some 45), .load true 4, [.t 8], none⟩,
  ⟨(some 46), .faddr 33 4 true, [.t 6], none⟩,
  ⟨none, .store true 4, [.t 46, .t 45], none⟩]
def c_snap_Read_r10 : List COper := a_snap_Read_r10
instance : Reg c_snap_Read_r10 a_snap_Read_r10 3 := ⟨rfl, rfl⟩
@[simp] def a_snap_Read_r11 : List COper := [
  ⟨(some 47), .load true 37, [.t 6], none⟩,
  ⟨none, .store true 37, [.t 2, .t 47], none⟩,
  ⟨(some 3), .mov, [.c (.int .i64 0)], none⟩]
def c_snap_Read_r11 : List COper := a_snap_Read_r11
instance : Reg c_snap_Read_r11 a_snap_Read_r11 3 := ⟨rfl, rfl⟩
@[simp] def c_snap_Read : CCode :=
  .seq (.region c_snap_Read_r0 none [0, 2]) (.seq (.region c_snap_Read_r1 none [0, 2, 4]) (.seq (.region c_snap_Read_r2 none [0, 2, 4, 5]) (.seq (.region c_snap_Read_r3 none [0, 2, 4, 5, 6]) (.seq (.region c_snap_Read_r4 none [0, 2, 4, 5, 6, 7]) (.seq (.seq (.region c_snap_Read_r5 (some ([0, 1, 3, 7, 15, 31, 15, 79, 255, 511, 15, 2047, 4095], [(4, 10), (5, 10), (8, 10), (9, 10)])) [2, 6, 7, 33]) (.cond (.t 33) (.seq (.region c_snap_Read_r6 none [2, 3]) (.ret)) (.skip))) (.seq (.region c_snap_Read_r7 none [2, 6, 8, 9]) (.seq (.seq (.region c_snap_Read_r8 none [2, 6, 8, 9, 42]) (.cond (.t 42) (.seq (.region c_snap_Read_r9 none [2, 3]) (.ret)) (.skip))) (.seq (.region c_snap_Read_r10 none [2, 6]) (.seq (.region c_snap_Read_r11 none [2, 3]) (.ret))))))))))
@[simp] def R_snap_Read : List CRes := [.cell 2 true 37, .tmp 3]
theorem k_snap_Read : chkFn Tryd.prog fn_snap_Read c_snap_Read R_snap_Read 1 = true := by kernel_rfl
/-! wapentake/chunk.State -/
@[simp] def a_chunk_State_r0 : List COper := [
  ⟨(some 2), .alloc (.node [.v (.slice none 0 0), .v (.slice none 0 0), .node [.v (.int .i64 0), .v (.slice none 0 0)]]), [], none⟩,
  ⟨(some 3), .mov, [.c (.int .i64 0)], none⟩]
def c_chunk_State_r0 : List COper := a_chunk_State_r0
instance : Reg c_chunk_State_r0 a_chunk_State_r0 2 := ⟨rfl, rfl⟩
@[simp] def a_chunk_State_r1 : List COper := [
  ⟨(some 10), .mov, [.t 0], none⟩,
  ⟨(some 11), .call fn_code_Read, [.t 10], none⟩,
  ⟨(some 4), .mov, [.t 11], none⟩]
def c_chunk_State_r1 : List COper := a_chunk_State_r1
instance : Reg c_chunk_State_r1 a_chunk_State_r1 3 := ⟨rfl, rfl⟩
@[simp] def a_chunk_State_r2 : List COper := [
  ⟨(some 12), .mov, [.t 4], none⟩,
  ⟨(some 13), .call fn_config_Read, [.t 12], none⟩,
  ⟨(some 14), .build [.v (.slice none 0 0), .v (.slice none 0 0), .node [.v (.int .i64 0), .v (.slice none 0 0)]] [2], [.t 13], none⟩,
  ⟨(some 5), .alloc (.node [.v (.slice none 0 0), .v (.slice none 0 0), .node [.v (.int .i64 0), .v (.slice none 0 0)]]), [], none⟩,
  ⟨none, .store true 4, [.t 5, .t 14], none⟩]
def c_chunk_State_r2 : List COper := a_chunk_State_r2
instance : Reg c_chunk_State_r2 a_chunk_State_r2 5 := ⟨rfl, rfl⟩
@[simp] def a_chunk_State_r3 : List COper := [
  ⟨(some 15), .mov, [.t 4], none⟩,
  ⟨(some 16), .call fn_code_Reader_In, [.t 15, .c (.int .i64 0), .c (.int .i64 256)], none⟩,
  ⟨(some 17), .mov, [.c (.int .i64 0)], none⟩]
def c_chunk_State_r3 : List COper := a_chunk_State_r3
instance : Reg c_chunk_State_r3 a_chunk_State_r3 3 := ⟨rfl, rfl⟩
@[simp] def a_chunk_State_r4 : List COper := [
  ⟨(some 18), .bin .lss, [.t 17, .t 16], none⟩]
def c_chunk_State_r4 : List COper := a_chunk_State_r4
instance : Reg c_chunk_State_r4 a_chunk_State_r4 1 := ⟨rfl, rfl⟩
@[simp] def a_chunk_State_r5 : List COper := [
  ⟨(some 19), .mov, [.t 4], none⟩,
  ⟨(some 20), .call fn_code_Reader_Text, [.t 19, .c (.int .i64 1024)], none⟩,
  ⟨(some 21), .mov, [.t 4], none⟩,
  ⟨(some 22), .call fn_code_Reader_Text, [.t 21, .c (.int .i64 1024)], none⟩,
  ⟨(some 23), .build [.v (.string (mkS [])), .v (.string (mkS []))] [0, 1], [.t 20, .t 22], none⟩,
  ⟨(some 6), .alloc (.node [.v (.string (mkS [])), .v (.string (mkS []))]), [], none⟩,
  ⟨none, .store true 2, [.t 6, .t 23], none⟩]
def c_chunk_State_r5 : List COper := a_chunk_State_r5
instance : Reg c_chunk_State_r5 a_chunk_State_r5 7 := ⟨rfl, rfl⟩
@[simp] def a_chunk_State_r6 : List COper := [
  ⟨(some 24), .faddr 0 1 false, [.t 5], none⟩,
  ⟨(some 25), .load false 1, [.t 24], none⟩,
  ⟨(some 26), .len, [.t 25], none⟩,
  ⟨(some 7), .mov, [.t 26], none⟩]
def c_chunk_State_r6 : List COper := a_chunk_State_r6
instance : Reg c_chunk_State_r6 a_chunk_State_r6 4 := ⟨rfl, rfl⟩
@[simp] def a_chunk_State_r7 : List COper := [
  ⟨(some 27), .mov, [.t 7], none⟩,
  ⟨(some 28), .bin .gtr, [.t 27, .c (.int .i64 0)], none⟩,
  ⟨(some 29), .mov, [.t 28], none⟩,
  ⟨(some 30), .faddr 0 1 false, [.t 5], (some (29, true))⟩,
  ⟨(some 31), .load false 1, [.t 30], (some (29, true))⟩,
  ⟨(some 32), .mov, [.t 7], (some (29, true))⟩,
  ⟨(some 33), .bin .sub, [.t 32, .c (.int .i64 1)], (some (29, true))⟩,
  ⟨(some 34), .iaddr 2, [.t 31, .t 33], (some (29, true))⟩,
  ⟨(some 35), .faddr 0 1 false, [.t 34], (some (29, true))⟩,
  ⟨(some 36), .load false 1, [.t 35], (some (29, true))⟩,
  ⟨(some 37), .faddr 0 1 false, [.t 6], (some (29, true))⟩,
  ⟨(some 38), .load false 1, [.t 37], (some (29, true))⟩,
  ⟨(some 39), .bin .geq, [.t 36, .t 38], (some (29, true))⟩,
  ⟨(some 40), .pick, [.t 29, .t 39, .c (.bool false)], none⟩]
def c_chunk_State_r7 : List COper := a_chunk_State_r7
instance : Reg c_chunk_State_r7 a_chunk_State_r7 14 := ⟨rfl, rfl⟩
@[simp] def a_chunk_State_r8 : List COper := [
  ⟨(some 41), .build [.v (.slice none 0 0), .v (.slice none 0 0), .node [.v (.int .i64 0), .v (.slice none 0 0)]] [], [], none⟩,
  ⟨none, .store true 4, [.t 2, .t 41], none⟩,
  ⟨(some 3), .mov, [.c (.int .i64 4)], none⟩]
def c_chunk_State_r8 : List COper := a_chunk_State_r8
instance : Reg c_chunk_State_r8 a_chunk_State_r8 3 := ⟨rfl, rfl⟩
@[simp] def a_chunk_State_r9 : List COper := [
  ⟨(some 42), .faddr 0 1 false, [.t 5], none⟩,
  ⟨(some 43), .load false 1, [.t 42], none⟩,
  ⟨(some 44), .load true 2, [.t 6], none⟩,
  ⟨(some 45), .bslice 2 1 (.node [.v (.string (mkS [])), .v (.string (mkS []))]) [0], [.t 44], none⟩,
  ⟨(some 46), .app 2 32, [.t 43, .t 45], none⟩,
  ⟨(some 47), .faddr 0 1 false, [.t 5], none⟩,
  ⟨none, .store false 1, [.t 47, .t 46], none⟩]
def c_chunk_State_r9 : List COper := a_chunk_State_r9
instance : Reg c_chunk_State_r9 a_chunk_State_r9 7 := ⟨rfl, rfl⟩
@[simp] def a_chunk_State_r10 : List COper := [
  ⟨(some 48), .bin .add, [.t 17, .c (.int .i64 1)], none⟩,
  ⟨(some 17), .mov, [.t 48], none⟩]
def c_chunk_State_r10 : List COper := a_chunk_State_r10
instance : Reg c_chunk_State_r10 a_chunk_State_r10 2 := ⟨rfl, rfl⟩
@[simp] def a_chunk_State_r11 : List COper := [
  ⟨(some 49), .mov, [.t 4], none⟩,
  ⟨(some 50), .call fn_code_Reader_In, [.t 49, .c (.int .i64 0), .c (.int .i64 64)], none⟩,
  ⟨(some 51), .mov, [.c (.int .i64 0)], none⟩]
def c_chunk_State_r11 : List COper := a_chunk_State_r11
instance : Reg c_chunk_State_r11 a_chunk_State_r11 3 := ⟨rfl, rfl⟩
@[simp] def a_chunk_State_r12 : List COper := [
  ⟨(some 52), .bin .lss, [.t 51, .t 50], none⟩]
def c_chunk_State_r12 : List COper := a_chunk_State_r12
instance : Reg c_chunk_State_r12 a_chunk_State_r12 1 := ⟨rfl, rfl⟩
@[simp] def a_chunk_State_r13 : List COper := [
  ⟨(some 53), .mov, [.t 4], none⟩,
  ⟨(some 54), .call fn_request_ReadReply, [.t 53], none⟩,
  ⟨(some 8), .alloc (.node [.v (.int .i64 0), .v (.int .i64 0), .v (.int .i64 0), .v (.slice none 0 0)]), [], none⟩,
  ⟨none, .store true 4, [.t 8, .t 54], none⟩]
def c_chunk_State_r13 : List COper := a_chunk_State_r13
instance : Reg c_chunk_State_r13 a_chunk_State_r13 4 := ⟨rfl, rfl⟩
@[simp] def a_chunk_State_r14 : List COper := [
  ⟨(some 55), .faddr 1 1 false, [.t 5], none⟩,
  ⟨(some 56), .load false 1, [.t 55], none⟩,
  ⟨(some 57), .len, [.t 56], none⟩,
  ⟨(some 9), .mov, [.t 57], none⟩]
def c_chunk_State_r14 : List COper := a_chunk_State_r14
instance : Reg c_chunk_State_r14 a_chunk_State_r14 4 := ⟨rfl, rfl⟩
@[simp] def a_chunk_State_r15 : List COper := [
  ⟨(some 58), .mov, [.t 9], none⟩,
  ⟨(some 59), .bin .gtr, [.t 58, .c (.int .i64 0)], none⟩,
  ⟨(some 60), .mov, [.t 59], none⟩,
  ⟨(some 61), .faddr 1 1 false, [.t 5], (some (60, true))⟩,
  ⟨(some 62), .load false 1, [.t 61], (some (60, true))⟩,
  ⟨(some 63), .mov, [.t 9], (some (60, true))⟩,
  ⟨(some 64), .bin .sub, [.t 63, .c (.int .i64 1)], (some (60, true))⟩,
  ⟨(some 65), .iaddr 4, [.t 62, .t 64], (some (60, true))⟩,
  ⟨(some 66), .faddr 0 1 false, [.t 65], (some (60, true))⟩,
  ⟨(some 67), .load false 1, [.t 66], (some (60, true))⟩,
  ⟨(some 68), .faddr 0 1 false, [.t 8], (some (60, true))⟩,
  ⟨(some 69), .load false 1, [.t 68], (some (60, true))⟩,
  ⟨(some 70), .bin .geq, [.t 67, .t 69], (some (60, true))⟩,
  ⟨(some 71), .pick, [.t 60, .t 70, .c (.bool false)], none⟩]
def c_chunk_State_r15 : List COper := a_chunk_State_r15
instance : Reg c_chunk_State_r15 a_chunk_State_r15 14 := ⟨rfl, rfl⟩
@[simp] def a_chunk_State_r16 : List COper := [
  ⟨(some 72), .build [.v (.slice none 0 0), .v (.slice none 0 0), .node [.v (.int .i64 0), .v (.slice none 0 0)]] [], [], none⟩,
  ⟨none, .store true 4, [.t 2, .t 72], none⟩,
  ⟨(some 3), .mov, [.c (.int .i64 4)], none⟩]
def c_chunk_State_r16 : List COper := a_chunk_State_r16
instance : Reg c_chunk_State_r16 a_chunk_State_r16 3 := ⟨rfl, rfl⟩
@[simp] def a_chunk_State_r17 : List COper := [
  ⟨(some 73), .faddr 1 1 false, [.t 5], none⟩,
  ⟨(some 74), .load false 1, [.t 73], none⟩,
  ⟨(some 75), .load true 4, [.t 8], none⟩,
  ⟨(some 76), .bslice 4 1 (.node [.v (.int .i64 0), .v (.int .i64 0), .v (.int .i64 0), .v (.slice none 0 0)]) [0], [.t 75], none⟩,
  ⟨(some 77), .app 4 48, [.t 74, .t 76], none⟩,
  ⟨(some 78), .faddr 1 1 false, [.t 5], none⟩,
  ⟨none, .store false 1, [.t 78, .t 77], none⟩]
def c_chunk_State_r17 : List COper := a_chunk_State_r17
instance : Reg c_chunk_State_r17 a_chunk_State_r17 7 := ⟨rfl, rfl⟩
@[simp] def a_chunk_State_r18 : List COper := [
  ⟨(some 79), .bin .add, [.t 51, .c (.int .i64 1)], none⟩,
  ⟨(some 51), .mov, [.t 79], none⟩]
def c_chunk_State_r18 : List COper := a_chunk_State_r18
instance : Reg c_chunk_State_r18 a_chunk_State_r18 2 := ⟨rfl, rfl⟩
@[simp] def a_chunk_State_r19 : List COper := [
  ⟨(some 80), .mov, [.t 4], none⟩,
  ⟨(some 81), .call fn_code_Reader_End, [.t 80], none⟩,
  ⟨(some 82), .not, [.t 81], none⟩]
def c_chunk_State_r19 : List COper := a_chunk_State_r19
instance : Reg c_chunk_State_r19 a_chunk_State_r19 3 := ⟨rfl, rfl⟩
@[simp] def a_chunk_State_r20 : List COper := [
  ⟨(some 83), .build [.v (.slice none 0 0), .v (.slice none 0 0), .node [.v (.int .i64 0), .v (.slice none 0 0)]] [], [], none⟩,
  ⟨none, .store true 4, [.t 2, .t 83], none⟩,
  ⟨(some 3), .mov, [.c (.int .i64 4)], none⟩]
def c_chunk_State_r20 : List COper := a_chunk_State_r20
instance : Reg c_chunk_State_r20 a_chunk_State_r20 3 := ⟨rfl, rfl⟩
@[simp] def a_chunk_State_r21 : List COper := [
  ⟨(some 84), .load true 4, [.t 5], none⟩,
  ⟨none, .store true 4, [.t 2, .t 84], none⟩,
  ⟨(some 3), .mov, [.c (.int .i64 0)], none⟩]
def c_chunk_State_r21 : List COper := a_chunk_State_r21
instance : Reg c_chunk_State_r21 a_chunk_State_r21 3 := ⟨rfl, rfl⟩
@[simp] def c_chunk_State : CCode :=
  .seq (.region c_chunk_State_r0 none [0, 2]) (.seq (.region c_chunk_State_r1 none [2, 4]) (.seq (.region c_chunk_State_r2 none [2, 4, 5]) (.seq (.seq (.region c_chunk_State_r3 none [2, 4, 5, 16, 17]) (.block 0 (.loop (.seq (.region c_chunk_State_r4 none [2, 4, 5, 16, 17, 18]) (.seq (.cond (.t 18) (.skip) (.exit 0)) (.seq (.block 1 (.seq (.region c_chunk_State_r5 none [2, 4, 5, 6, 16, 17]) (.seq (.seq (.region c_chunk_State_r6 none [2, 4, 5, 6, 7, 16, 17]) (.seq (.region c_chunk_State_r7 (some ([0, 1, 3, 7, 15, 7, 39, 127, 255, 511, 7, 1031, 4095, 8191], [])) [2, 4, 5, 6, 16, 17, 40]) (.cond (.t 40) (.seq (.region c_chunk_State_r8 none [2, 3]) (.ret)) (.skip)))) (.region c_chunk_State_r9 none [2, 4, 5, 16, 17])))) (.region c_chunk_State_r10 none [2, 4, 5, 16, 17]))))))) (.seq (.seq (.region c_chunk_State_r11 none [2, 4, 5, 50, 51]) (.block 2 (.loop (.seq (.region c_chunk_State_r12 none [2, 4, 5, 50, 51, 52]) (.seq (.cond (.t 52) (.skip) (.exit 2)) (.seq (.block 3 (.seq (.region c_chunk_State_r13 none [2, 4, 5, 8, 50, 51]) (.seq (.seq (.region c_chunk_State_r14 none [2, 4, 5, 8, 9, 50, 51]) (.seq (.region c_chunk_State_r15 (some ([0, 1, 3, 7, 15, 7, 39, 127, 255, 511, 7, 1031, 4095, 8191], [])) [2, 4, 5, 8, 50, 51, 71]) (.cond (.t 71) (.seq (.region c_chunk_State_r16 none [2, 3]) (.ret)) (.skip)))) (.region c_chunk_State_r17 none [2, 4, 5, 50, 51])))) (.region c_chunk_State_r18 none [2, 4, 5, 50, 51]))))))) (.seq (.seq (.region c_chunk_State_r19 none [2, 5, 82]) (.cond (.t 82) (.seq (.region c_chunk_State_r20 none [2, 3]) (.ret)) (.skip))) (.seq (.region c_chunk_State_r21 none [2, 3]) (.ret)))))))
@[simp] def R_chunk_State : List CRes := [.cell 2 true 4, .tmp 3]
theorem k_chunk_State : chkFn Tryd.prog fn_chunk_State c_chunk_State R_chunk_State 1 = true := by kernel_rfl
/-! wapentake/wapentakeref08.Same -/
@[simp] def a_r08_Same_r0 : List COper := [
  ⟨(some 2), .box, [.t 0], none⟩,
  ⟨(some 3), .box, [.t 1], none⟩,
  ⟨(some 4), .mov, [.c (.bool false)], none⟩]
def c_r08_Same_r0 : List COper := a_r08_Same_r0
instance : Reg c_r08_Same_r0 a_r08_Same_r0 3 := ⟨rfl, rfl⟩
@[simp] def a_r08_Same_r1 : List COper := [
  ⟨(some 6), .faddr 0 1 false, [.t 2], none⟩,
  ⟨(some 7), .load false 1, [.t 6], none⟩,
  ⟨(some 8), .faddr 0 1 false, [.t 3], none⟩,
  ⟨(some 9), .load false 1, [.t 8], none⟩,
  ⟨(some 10), .bin .neq, [.t 7, .t 9], none⟩,
  ⟨(some 11), .mov, [.t 10], none⟩,
  ⟨(some 12), .faddr 1 1 false, [.t 2], (some (11, false))⟩,
  ⟨(some 13), .load false 1, [.t 12], (some (11, false))⟩,
  ⟨(some 14), .len, [.t 13], (some (11, false))⟩,
  ⟨(some 15), .faddr 1 1 false, [.t 3], (some (11, false))⟩,
  ⟨(some 16), .load false 1, [.t 15], (some (11, false))⟩,
  ⟨(some 17), .len, [.t 16], (some (11, false))⟩,
  ⟨(some 18), .bin .neq, [.t 14, .t 17], (some (11, false))⟩,
  ⟨(some 19), .pick, [.t 11, .c (.bool true), .t 18], none⟩]
def c_r08_Same_r1 : List COper := a_r08_Same_r1
instance : Reg c_r08_Same_r1 a_r08_Same_r1 14 := ⟨rfl, rfl⟩
@[simp] def a_r08_Same_r2 : List COper := [
  ⟨(some 4), .mov, [.c (.bool false)], none⟩]
def c_r08_Same_r2 : List COper := a_r08_Same_r2
instance : Reg c_r08_Same_r2 a_r08_Same_r2 1 := ⟨rfl, rfl⟩
@[simp] def a_r08_Same_r3 : List COper := [
  ⟨(some 20), .faddr 1 1 false, [.t 2], none⟩,
  ⟨(some 21), .load false 1, [.t 20], none⟩,
  ⟨(some 22), .len, [.t 21], none⟩,
  ⟨(some 23), .mov, [.c (.int .i64 0)], none⟩]
def c_r08_Same_r3 : List COper := a_r08_Same_r3
instance : Reg c_r08_Same_r3 a_r08_Same_r3 4 := ⟨rfl, rfl⟩
@[simp] def a_r08_Same_r4 : List COper := [
  ⟨(some 24), .bin .lss, [.t 23, .t 22], none⟩]
def c_r08_Same_r4 : List COper := a_r08_Same_r4
instance : Reg c_r08_Same_r4 a_r08_Same_r4 1 := ⟨rfl, rfl⟩
@[simp] def a_r08_Same_r5 : List COper := [
  ⟨(some 25), .mov, [.t 23], none⟩,
  ⟨(some 5), .mov, [.t 25], none⟩]
def c_r08_Same_r5 : List COper := a_r08_Same_r5
instance : Reg c_r08_Same_r5 a_r08_Same_r5 2 := ⟨rfl, rfl⟩
@[simp] def a_r08_Same_r6 : List COper := [
  ⟨(some 26), .faddr 1 1 false, [.t 2], none⟩,
  ⟨(some 27), .load false 1, [.t 26], none⟩,
  ⟨(some 28), .mov, [.t 5], none⟩,
  ⟨(some 29), .iaddr 34, [.t 27, .t 28], none⟩,
  ⟨(some 30), .load true 34, [.t 29], none⟩,
  ⟨(some 31), .faddr 1 1 false, [.t 3], none⟩,
  ⟨(some 32), .load false 1, [.t 31], none⟩,
  ⟨(some 33), .mov, [.t 5], none⟩,
  ⟨(some 34), .iaddr 34, [.t 32, .t 33], none⟩,
  ⟨(some 35), .load true 34, [.t 34], none⟩,
  ⟨(some 36), .eqs true (.st [.int .i64, .st [.ints .u8 32, .int .i64]]), [.t 30, .t 35], none⟩]
def c_r08_Same_r6 : List COper := a_r08_Same_r6
instance : Reg c_r08_Same_r6 a_r08_Same_r6 11 := ⟨rfl, rfl⟩
@[simp] def a_r08_Same_r7 : List COper := [
  ⟨(some 4), .mov, [.c (.bool false)], none⟩]
def c_r08_Same_r7 : List COper := a_r08_Same_r7
instance : Reg c_r08_Same_r7 a_r08_Same_r7 1 := ⟨rfl, rfl⟩
@[simp] def a_r08_Same_r8 : List COper := [
  ⟨(some 37), .bin .add, [.t 23, .c (.int .i64 1)], none⟩,
  ⟨(some 23), .mov, [.t 37], none⟩]
def c_r08_Same_r8 : List COper := a_r08_Same_r8
instance : Reg c_r08_Same_r8 a_r08_Same_r8 2 := ⟨rfl, rfl⟩
@[simp] def a_r08_Same_r9 : List COper := [
  ⟨(some 4), .mov, [.c (.bool true)], none⟩]
def c_r08_Same_r9 : List COper := a_r08_Same_r9
instance : Reg c_r08_Same_r9 a_r08_Same_r9 1 := ⟨rfl, rfl⟩
@[simp] def c_r08_Same : CCode :=
  .seq (.region c_r08_Same_r0 none [2, 3]) (.seq (.seq (.region c_r08_Same_r1 none [2, 3, 19]) (.cond (.t 19) (.seq (.region c_r08_Same_r2 none [4]) (.ret)) (.skip))) (.seq (.seq (.region c_r08_Same_r3 none [2, 3, 22, 23]) (.block 0 (.loop (.seq (.region c_r08_Same_r4 none [2, 3, 22, 23, 24]) (.seq (.cond (.t 24) (.skip) (.exit 0)) (.seq (.block 1 (.seq (.region c_r08_Same_r5 none [2, 3, 5, 22, 23]) (.seq (.region c_r08_Same_r6 (some ([0, 1, 0, 7, 15, 0, 32, 0, 224, 480, 1023], [])) [2, 3, 22, 23, 36]) (.cond (.t 36) (.seq (.region c_r08_Same_r7 none [4]) (.ret)) (.skip))))) (.region c_r08_Same_r8 none [2, 3, 22, 23]))))))) (.seq (.region c_r08_Same_r9 none [4]) (.ret))))
@[simp] def R_r08_Same : List CRes := [.tmp 4]
theorem k_r08_Same : chkFn Tryd.prog fn_r08_Same c_r08_Same R_r08_Same 2 = true := by kernel_rfl
/-! wapentake/wapentakeref09.Same -/
@[simp] def a_r09_Same_r0 : List COper := [
  ⟨(some 2), .box, [.t 0], none⟩,
  ⟨(some 3), .box, [.t 1], none⟩,
  ⟨(some 4), .mov, [.c (.bool false)], none⟩]
def c_r09_Same_r0 : List COper := a_r09_Same_r0
instance : Reg c_r09_Same_r0 a_r09_Same_r0 3 := ⟨rfl, rfl⟩
@[simp] def a_r09_Same_r1 : List COper := [
  ⟨(some 5), .faddr 0 1 false, [.t 2], none⟩,
  ⟨(some 6), .load false 1, [.t 5], none⟩,
  ⟨(some 7), .faddr 0 1 false, [.t 3], none⟩,
  ⟨(some 8), .load false 1, [.t 7], none⟩,
  ⟨(some 9), .bin .eql, [.t 6, .t 8], none⟩,
  ⟨(some 10), .mov, [.t 9], none⟩,
  ⟨(some 11), .faddr 1 1 false, [.t 2], (some (10, true))⟩,
  ⟨(some 12), .load false 1, [.t 11], (some (10, true))⟩,
  ⟨(some 13), .faddr 1 1 false, [.t 3], (some (10, true))⟩,
  ⟨(some 14), .load false 1, [.t 13], (some (10, true))⟩,
  ⟨(some 15), .bin .eql, [.t 12, .t 14], (some (10, true))⟩,
  ⟨(some 16), .pick, [.t 10, .t 15, .c (.bool false)], none⟩,
  ⟨(some 17), .mov, [.t 16], none⟩,
  ⟨(some 18), .faddr 2 1 false, [.t 2], (some (17, true))⟩,
  ⟨(some 19), .load false 1, [.t 18], (some (17, true))⟩,
  ⟨(some 20), .faddr 2 1 false, [.t 3], (some (17, true))⟩,
  ⟨(some 21), .load false 1, [.t 20], (some (17, true))⟩,
  ⟨(some 22), .bin .eql, [.t 19, .t 21], (some (17, true))⟩,
  ⟨(some 23), .pick, [.t 17, .t 22, .c (.bool false)], none⟩,
  ⟨(some 24), .mov, [.t 23], none⟩,
  ⟨(some 25), .faddr 3 1 false, [.t 2], (some (24, true))⟩,
  ⟨(some 26), .load false 1, [.t 25], (some (24, true))⟩,
  ⟨(some 27), .faddr 3 1 false, [.t 3], (some (24, true))⟩,
  ⟨(some 28), .load false 1, [.t 27], (some (24, true))⟩,
  ⟨(some 29), .call fn_r09_Texts, [.t 26, .t 28], (some (24, true))⟩,
  ⟨(some 30), .pick, [.t 24, .t 29, .c (.bool false)], none⟩,
  ⟨(some 4), .mov, [.t 30], none⟩]
def c_r09_Same_r1 : List COper := a_r09_Same_r1
instance : Reg c_r09_Same_r1 a_r09_Same_r1 27 := ⟨rfl, rfl⟩
@[simp] def c_r09_Same : CCode :=
  .seq (.region c_r09_Same_r0 none [2, 3]) (.seq (.region c_r09_Same_r1 none [4]) (.ret))
@[simp] def R_r09_Same : List CRes := [.tmp 4]
theorem k_r09_Same : chkFn Tryd.prog fn_r09_Same c_r09_Same R_r09_Same 2 = true := by kernel_rfl
/-! wapentake/config.Write -/
@[simp] def a_config_Write_r0 : List COper := [
  ⟨(some 3), .box, [.t 1], none⟩]
def c_config_Write_r0 : List COper := a_config_Write_r0
instance : Reg c_config_Write_r0 a_config_Write_r0 1 := ⟨rfl, rfl⟩
@[simp] def a_config_Write_r1 : List COper := [
  ⟨(some 6), .mov, [.t 0], none⟩,
  ⟨(some 7), .faddr 0 1 false, [.t 3], none⟩,
  ⟨(some 8), .load false 1, [.t 7], none⟩,
  ⟨(some 9), .faddr 1 1 false, [.t 3], none⟩,
  ⟨(some 10), .load false 1, [.t 9], none⟩,
  ⟨(some 11), .len, [.t 10], none⟩,
  ⟨(some 12), .bslice 1 2 (.v (.int .i64 0)) [0, 1], [.t 8, .t 11], none⟩,
  ⟨(some 13), .call fn_code_Writer_Num, [.t 6, .t 12], none⟩]
def c_config_Write_r1 : List COper := a_config_Write_r1
instance : Reg c_config_Write_r1 a_config_Write_r1 8 := ⟨rfl, rfl⟩
@[simp] def a_config_Write_r2 : List COper := [
  ⟨(some 14), .faddr 1 1 false, [.t 3], none⟩,
  ⟨(some 15), .load false 1, [.t 14], none⟩,
  ⟨(some 16), .len, [.t 15], none⟩,
  ⟨(some 17), .mov, [.c (.int .i64 0)], none⟩]
def c_config_Write_r2 : List COper := a_config_Write_r2
instance : Reg c_config_Write_r2 a_config_Write_r2 4 := ⟨rfl, rfl⟩
@[simp] def a_config_Write_r3 : List COper := [
  ⟨(some 18), .bin .lss, [.t 17, .t 16], none⟩]
def c_config_Write_r3 : List COper := a_config_Write_r3
instance : Reg c_config_Write_r3 a_config_Write_r3 1 := ⟨rfl, rfl⟩
@[simp] def a_config_Write_r4 : List COper := [
  ⟨(some 19), .iaddr 34, [.t 15, .t 17], none⟩,
  ⟨(some 20), .load true 34, [.t 19], none⟩,
  ⟨(some 5), .alloc (.node [.v (.int .i64 0), .node [.arr 1 (rep 32 (.v (.int .u8 0))), .v (.int .i64 0)]]), [], none⟩,
  ⟨none, .store true 34, [.t 5, .t 20], none⟩]
def c_config_Write_r4 : List COper := a_config_Write_r4
instance : Reg c_config_Write_r4 a_config_Write_r4 4 := ⟨rfl, rfl⟩
@[simp] def a_config_Write_r5 : List COper := [
  ⟨(some 21), .mov, [.t 0], none⟩,
  ⟨(some 22), .faddr 0 1 false, [.t 5], none⟩,
  ⟨(some 23), .load false 1, [.t 22], none⟩,
  ⟨(some 24), .faddr 1 33 true, [.t 5], none⟩,
  ⟨(some 25), .faddr 32 1 false, [.t 24], none⟩,
  ⟨(some 26), .load false 1, [.t 25], none⟩,
  ⟨(some 27), .bslice 1 2 (.v (.int .i64 0)) [0, 1], [.t 23, .t 26], none⟩,
  ⟨(some 28), .call fn_code_Writer_Num, [.t 21, .t 27], none⟩]
def c_config_Write_r5 : List COper := a_config_Write_r5
instance : Reg c_config_Write_r5 a_config_Write_r5 8 := ⟨rfl, rfl⟩
@[simp] def a_config_Write_r6 : List COper := [
  ⟨(some 29), .mov, [.t 0], none⟩,
  ⟨(some 30), .faddr 1 33 true, [.t 5], none⟩,
  ⟨(some 31), .faddr 0 32 true, [.t 30], none⟩,
  ⟨(some 32), .load true 32, [.t 31], none⟩,
  ⟨(some 33), .bslice 32 1 (.arr 1 (rep 32 (.v (.int .u8 0)))) [0], [.t 32], none⟩,
  ⟨(some 34), .call fn_code_Writer_Digest, [.t 29, .t 33], none⟩]
def c_config_Write_r6 : List COper := a_config_Write_r6
instance : Reg c_config_Write_r6 a_config_Write_r6 6 := ⟨rfl, rfl⟩
@[simp] def a_config_Write_r7 : List COper := [
  ⟨(some 35), .bin .add, [.t 17, .c (.int .i64 1)], none⟩,
  ⟨(some 17), .mov, [.t 35], none⟩]
def c_config_Write_r7 : List COper := a_config_Write_r7
instance : Reg c_config_Write_r7 a_config_Write_r7 2 := ⟨rfl, rfl⟩
@[simp] def c_config_Write : CCode :=
  .seq (.region c_config_Write_r0 none [0, 3]) (.seq (.region c_config_Write_r1 none [0, 3]) (.seq (.region c_config_Write_r2 none [0, 15, 16, 17]) (.block 0 (.loop (.seq (.region c_config_Write_r3 none [0, 15, 16, 17, 18]) (.seq (.cond (.t 18) (.skip) (.exit 0)) (.seq (.block 1 (.seq (.region c_config_Write_r4 none [0, 5, 15, 16, 17]) (.seq (.region c_config_Write_r5 none [0, 5, 15, 16, 17]) (.region c_config_Write_r6 none [0, 15, 16, 17])))) (.region c_config_Write_r7 none [0, 15, 16, 17]))))))))
@[simp] def R_config_Write : List CRes := []
theorem k_config_Write : chkFn Tryd.prog fn_config_Write c_config_Write R_config_Write 2 = true := by kernel_rfl
/-! (*wapentake/code.Writer).Num -/
@[simp] def a_code_Writer_Num_r0 : List COper := [
  ⟨(some 7), .mov, [.t 0], none⟩,
  ⟨(some 8), .eqp false, [.t 7, .c (.pointer none)], none⟩]
def c_code_Writer_Num_r0 : List COper := a_code_Writer_Num_r0
instance : Reg c_code_Writer_Num_r0 a_code_Writer_Num_r0 2 := ⟨rfl, rfl⟩
@[simp] def a_code_Writer_Num_r1 : List COper := [
  ⟨(some 9), .mov, [.t 1], none⟩,
  ⟨(some 10), .len, [.t 9], none⟩,
  ⟨(some 11), .mov, [.c (.int .i64 0)], none⟩]
def c_code_Writer_Num_r1 : List COper := a_code_Writer_Num_r1
instance : Reg c_code_Writer_Num_r1 a_code_Writer_Num_r1 3 := ⟨rfl, rfl⟩
@[simp] def a_code_Writer_Num_r2 : List COper := [
  ⟨(some 12), .bin .lss, [.t 11, .t 10], none⟩]
def c_code_Writer_Num_r2 : List COper := a_code_Writer_Num_r2
instance : Reg c_code_Writer_Num_r2 a_code_Writer_Num_r2 1 := ⟨rfl, rfl⟩
@[simp] def a_code_Writer_Num_r3 : List COper := [
  ⟨(some 13), .iaddr 1, [.t 9, .t 11], none⟩,
  ⟨(some 14), .load false 1, [.t 13], none⟩,
  ⟨(some 5), .mov, [.t 14], none⟩]
def c_code_Writer_Num_r3 : List COper := a_code_Writer_Num_r3
instance : Reg c_code_Writer_Num_r3 a_code_Writer_Num_r3 3 := ⟨rfl, rfl⟩
@[simp] def a_code_Writer_Num_r4 : List COper := [
  ⟨(some 6), .mov, [.c (.int .i64 56)], none⟩]
def c_code_Writer_Num_r4 : List COper := a_code_Writer_Num_r4
instance : Reg c_code_Writer_Num_r4 a_code_Writer_Num_r4 1 := ⟨rfl, rfl⟩
@[simp] def a_code_Writer_Num_r5 : List COper := [
  ⟨(some 15), .mov, [.t 6], none⟩,
  ⟨(some 16), .bin .geq, [.t 15, .c (.int .i64 0)], none⟩]
def c_code_Writer_Num_r5 : List COper := a_code_Writer_Num_r5
instance : Reg c_code_Writer_Num_r5 a_code_Writer_Num_r5 2 := ⟨rfl, rfl⟩
@[simp] def a_code_Writer_Num_r7 : List COper := [
  ⟨(some 19), .mov, [.t 0], none⟩,
  ⟨(some 20), .mov, [.t 0], none⟩,
  ⟨(some 21), .nilc, [.t 20], none⟩,
  ⟨(some 22), .faddr 0 1 false, [.t 21], none⟩,
  ⟨(some 23), .load false 1, [.t 22], none⟩,
  ⟨(some 24), .mov, [.t 5], none⟩,
  ⟨(some 25), .convI .u64, [.t 24], none⟩,
  ⟨(some 26), .mov, [.t 6], none⟩,
  ⟨(some 27), .bin .shr, [.t 25, .t 26], none⟩,
  ⟨(some 28), .convI .u8, [.t 27], none⟩,
  ⟨(some 29), .bslice 1 1 (.v (.int .u8 0)) [0], [.t 28], none⟩,
  ⟨(some 30), .app 1 1, [.t 23, .t 29], none⟩,
  ⟨(some 31), .nilc, [.t 19], none⟩,
  ⟨(some 32), .faddr 0 1 false, [.t 31], none⟩,
  ⟨none, .store false 1, [.t 32, .t 30], none⟩]
def c_code_Writer_Num_r7 : List COper := a_code_Writer_Num_r7
instance : Reg c_code_Writer_Num_r7 a_code_Writer_Num_r7 15 := ⟨rfl, rfl⟩
@[simp] def a_code_Writer_Num_r6 : List COper := [
  ⟨(some 17), .mov, [.t 6], none⟩,
  ⟨(some 18), .bin .sub, [.t 17, .c (.int .i64 8)], none⟩,
  ⟨(some 6), .mov, [.t 18], none⟩]
def c_code_Writer_Num_r6 : List COper := a_code_Writer_Num_r6
instance : Reg c_code_Writer_Num_r6 a_code_Writer_Num_r6 3 := ⟨rfl, rfl⟩
@[simp] def a_code_Writer_Num_r8 : List COper := [
  ⟨(some 33), .bin .add, [.t 11, .c (.int .i64 1)], none⟩,
  ⟨(some 11), .mov, [.t 33], none⟩]
def c_code_Writer_Num_r8 : List COper := a_code_Writer_Num_r8
instance : Reg c_code_Writer_Num_r8 a_code_Writer_Num_r8 2 := ⟨rfl, rfl⟩
@[simp] def c_code_Writer_Num : CCode :=
  .seq (.seq (.region c_code_Writer_Num_r0 none [0, 1, 8]) (.cond (.t 8) (.ret) (.skip))) (.seq (.region c_code_Writer_Num_r1 none [0, 9, 10, 11]) (.block 0 (.loop (.seq (.region c_code_Writer_Num_r2 none [0, 9, 10, 11, 12]) (.seq (.cond (.t 12) (.skip) (.exit 0)) (.seq (.block 1 (.seq (.region c_code_Writer_Num_r3 none [0, 5, 9, 10, 11]) (.seq (.region c_code_Writer_Num_r4 none [0, 5, 6, 9, 10, 11]) (.block 2 (.loop (.seq (.seq (.region c_code_Writer_Num_r5 none [0, 5, 6, 9, 10, 11, 16]) (.cond (.t 16) (.skip) (.exit 2))) (.seq (.block 3 (.region c_code_Writer_Num_r7 (some ([0, 0, 2, 6, 14, 0, 32, 0, 224, 480, 992, 2046, 4095, 8191, 16383], [(4, 10)])) [0, 5, 6, 9, 10, 11])) (.region c_code_Writer_Num_r6 none [0, 5, 6, 9, 10, 11])))))))) (.region c_code_Writer_Num_r8 none [0, 9, 10, 11])))))))
@[simp] def R_code_Writer_Num : List CRes := []
theorem k_code_Writer_Num : chkFn Tryd.prog fn_code_Writer_Num c_code_Writer_Num R_code_Writer_Num 2 = true := by kernel_rfl
/-! (*wapentake/code.Writer).Text -/
@[simp] def a_code_Writer_Text_r0 : List COper := [
  ⟨(some 7), .mov, [.t 0], none⟩,
  ⟨(some 8), .eqp false, [.t 7, .c (.pointer none)], none⟩]
def c_code_Writer_Text_r0 : List COper := a_code_Writer_Text_r0
instance : Reg c_code_Writer_Text_r0 a_code_Writer_Text_r0 2 := ⟨rfl, rfl⟩
@[simp] def a_code_Writer_Text_r1 : List COper := [
  ⟨(some 9), .mov, [.t 1], none⟩,
  ⟨(some 10), .len, [.t 9], none⟩,
  ⟨(some 11), .mov, [.c (.int .i64 0)], none⟩]
def c_code_Writer_Text_r1 : List COper := a_code_Writer_Text_r1
instance : Reg c_code_Writer_Text_r1 a_code_Writer_Text_r1 3 := ⟨rfl, rfl⟩
@[simp] def a_code_Writer_Text_r2 : List COper := [
  ⟨(some 12), .bin .lss, [.t 11, .t 10], none⟩]
def c_code_Writer_Text_r2 : List COper := a_code_Writer_Text_r2
instance : Reg c_code_Writer_Text_r2 a_code_Writer_Text_r2 1 := ⟨rfl, rfl⟩
@[simp] def a_code_Writer_Text_r3 : List COper := [
  ⟨(some 13), .iaddr 1, [.t 9, .t 11], none⟩,
  ⟨(some 14), .load false 1, [.t 13], none⟩,
  ⟨(some 5), .mov, [.t 14], none⟩]
def c_code_Writer_Text_r3 : List COper := a_code_Writer_Text_r3
instance : Reg c_code_Writer_Text_r3 a_code_Writer_Text_r3 3 := ⟨rfl, rfl⟩
@[simp] def a_code_Writer_Text_r4 : List COper := [
  ⟨(some 15), .mov, [.t 5], none⟩,
  ⟨(some 16), .lenS, [.t 15], none⟩,
  ⟨(some 6), .mov, [.t 16], none⟩]
def c_code_Writer_Text_r4 : List COper := a_code_Writer_Text_r4
instance : Reg c_code_Writer_Text_r4 a_code_Writer_Text_r4 3 := ⟨rfl, rfl⟩
@[simp] def a_code_Writer_Text_r5 : List COper := [
  ⟨(some 17), .mov, [.t 0], none⟩,
  ⟨(some 18), .mov, [.t 0], none⟩,
  ⟨(some 19), .nilc, [.t 18], none⟩,
  ⟨(some 20), .faddr 0 1 false, [.t 19], none⟩,
  ⟨(some 21), .load false 1, [.t 20], none⟩,
  ⟨(some 22), .mov, [.t 6], none⟩,
  ⟨(some 23), .bin .shr, [.t 22, .c (.int .u64 24)], none⟩,
  ⟨(some 24), .convI .u8, [.t 23], none⟩,
  ⟨(some 25), .mov, [.t 6], none⟩,
  ⟨(some 26), .bin .shr, [.t 25, .c (.int .u64 16)], none⟩,
  ⟨(some 27), .convI .u8, [.t 26], none⟩,
  ⟨(some 28), .mov, [.t 6], none⟩,
  ⟨(some 29), .bin .shr, [.t 28, .c (.int .u64 8)], none⟩,
  ⟨(some 30), .convI .u8, [.t 29], none⟩,
  ⟨(some 31), .mov, [.t 6], none⟩,
  ⟨(some 32), .convI .u8, [.t 31], none⟩,
  ⟨(some 33), .bslice 1 4 (.v (.int .u8 0)) [0, 1, 2, 3], [.t 24, .t 27, .t 30, .t 32], none⟩,
  ⟨(some 34), .app 1 1, [.t 21, .t 33], none⟩,
  ⟨(some 35), .nilc, [.t 17], none⟩,
  ⟨(some 36), .faddr 0 1 false, [.t 35], none⟩,
  ⟨none, .store false 1, [.t 36, .t 34], none⟩]
def c_code_Writer_Text_r5 : List COper := a_code_Writer_Text_r5
instance : Reg c_code_Writer_Text_r5 a_code_Writer_Text_r5 21 := ⟨rfl, rfl⟩
@[simp] def a_code_Writer_Text_r6 : List COper := [
  ⟨(some 37), .mov, [.t 0], none⟩,
  ⟨(some 38), .mov, [.t 0], none⟩,
  ⟨(some 39), .nilc, [.t 38], none⟩,
  ⟨(some 40), .faddr 0 1 false, [.t 39], none⟩,
  ⟨(some 41), .load false 1, [.t 40], none⟩,
  ⟨(some 42), .mov, [.t 5], none⟩,
  ⟨(some 43), .appS 1, [.t 41, .t 42], none⟩,
  ⟨(some 44), .nilc, [.t 37], none⟩,
  ⟨(some 45), .faddr 0 1 false, [.t 44], none⟩,
  ⟨none, .store false 1, [.t 45, .t 43], none⟩]
def c_code_Writer_Text_r6 : List COper := a_code_Writer_Text_r6
instance : Reg c_code_Writer_Text_r6 a_code_Writer_Text_r6 10 := ⟨rfl, rfl⟩
@[simp] def a_code_Writer_Text_r7 : List COper := [
  ⟨(some 46), .bin .add, [.t 11, .c (.int .i64 1)], none⟩,
  ⟨(some 11), .mov, [.t 46], none⟩]
def c_code_Writer_Text_r7 : List COper := a_code_Writer_Text_r7
instance : Reg c_code_Writer_Text_r7 a_code_Writer_Text_r7 2 := ⟨rfl, rfl⟩
@[simp] def c_code_Writer_Text : CCode :=
  .seq (.seq (.region c_code_Writer_Text_r0 none [0, 1, 8]) (.cond (.t 8) (.ret) (.skip))) (.seq (.region c_code_Writer_Text_r1 none [0, 9, 10, 11]) (.block 0 (.loop (.seq (.region c_code_Writer_Text_r2 none [0, 9, 10, 11, 12]) (.seq (.cond (.t 12) (.skip) (.exit 0)) (.seq (.block 1 (.seq (.region c_code_Writer_Text_r3 none [0, 5, 9, 10, 11]) (.seq (.region c_code_Writer_Text_r4 none [0, 5, 6, 9, 10, 11]) (.seq (.region c_code_Writer_Text_r5 none [0, 5, 9, 10, 11]) (.region c_code_Writer_Text_r6 none [0, 9, 10, 11]))))) (.region c_code_Writer_Text_r7 none [0, 9, 10, 11])))))))
@[simp] def R_code_Writer_Text : List CRes := []
theorem k_code_Writer_Text : chkFn Tryd.prog fn_code_Writer_Text c_code_Writer_Text R_code_Writer_Text 2 = true := by kernel_rfl
/-! wapentake/request.WriteReply -/
@[simp] def a_request_WriteReply_r0 : List COper := [
  ⟨(some 3), .box, [.t 1], none⟩]
def c_request_WriteReply_r0 : List COper := a_request_WriteReply_r0
instance : Reg c_request_WriteReply_r0 a_request_WriteReply_r0 1 := ⟨rfl, rfl⟩
@[simp] def a_request_WriteReply_r1 : List COper := [
  ⟨(some 4), .mov, [.t 0], none⟩,
  ⟨(some 5), .faddr 0 1 false, [.t 3], none⟩,
  ⟨(some 6), .load false 1, [.t 5], none⟩,
  ⟨(some 7), .faddr 1 1 false, [.t 3], none⟩,
  ⟨(some 8), .load false 1, [.t 7], none⟩,
  ⟨(some 9), .faddr 2 1 false, [.t 3], none⟩,
  ⟨(some 10), .load false 1, [.t 9], none⟩,
  ⟨(some 11), .faddr 3 1 false, [.t 3], none⟩,
  ⟨(some 12), .load false 1, [.t 11], none⟩,
  ⟨(some 13), .len, [.t 12], none⟩,
  ⟨(some 14), .bslice 1 4 (.v (.int .i64 0)) [0, 1, 2, 3], [.t 6, .t 8, .t 10, .t 13], none⟩,
  ⟨(some 15), .call fn_code_Writer_Num, [.t 4, .t 14], none⟩]
def c_request_WriteReply_r1 : List COper := a_request_WriteReply_r1
instance : Reg c_request_WriteReply_r1 a_request_WriteReply_r1 12 := ⟨rfl, rfl⟩
@[simp] def a_request_WriteReply_r2 : List COper := [
  ⟨(some 16), .mov, [.t 0], none⟩,
  ⟨(some 17), .faddr 3 1 false, [.t 3], none⟩,
  ⟨(some 18), .load false 1, [.t 17], none⟩,
  ⟨(some 19), .call fn_code_Writer_Text, [.t 16, .t 18], none⟩]
def c_request_WriteReply_r2 : List COper := a_request_WriteReply_r2
instance : Reg c_request_WriteReply_r2 a_request_WriteReply_r2 4 := ⟨rfl, rfl⟩
@[simp] def c_request_WriteReply : CCode :=
  .seq (.region c_request_WriteReply_r0 none [0, 3]) (.seq (.region c_request_WriteReply_r1 none [0, 3]) (.region c_request_WriteReply_r2 none []))
@[simp] def R_request_WriteReply : List CRes := []
theorem k_request_WriteReply : chkFn Tryd.prog fn_request_WriteReply c_request_WriteReply R_request_WriteReply 2 = true := by kernel_rfl
/-! (*wapentake/code.Writer).Bytes -/
@[simp] def a_code_Writer_Bytes_r0 : List COper := [
  ⟨(some 2), .mov, [.c (.slice none 0 0)], none⟩]
def c_code_Writer_Bytes_r0 : List COper := a_code_Writer_Bytes_r0
instance : Reg c_code_Writer_Bytes_r0 a_code_Writer_Bytes_r0 1 := ⟨rfl, rfl⟩
@[simp] def a_code_Writer_Bytes_r1 : List COper := [
  ⟨(some 3), .mov, [.t 0], none⟩,
  ⟨(some 4), .eqp false, [.t 3, .c (.pointer none)], none⟩]
def c_code_Writer_Bytes_r1 : List COper := a_code_Writer_Bytes_r1
instance : Reg c_code_Writer_Bytes_r1 a_code_Writer_Bytes_r1 2 := ⟨rfl, rfl⟩
@[simp] def a_code_Writer_Bytes_r2 : List COper := [
  ⟨(some 2), .mov, [.c (.slice none 0 0)], none⟩]
def c_code_Writer_Bytes_r2 : List COper := a_code_Writer_Bytes_r2
instance : Reg c_code_Writer_Bytes_r2 a_code_Writer_Bytes_r2 1 := ⟨rfl, rfl⟩
@[simp] def a_code_Writer_Bytes_r3 : List COper := [
  ⟨(some 5), .mov, [.t 0], none⟩,
  ⟨(some 6), .nilc, [.t 5], none⟩,
  ⟨(some 7), .faddr 0 1 false, [.t 6], none⟩,
  ⟨(some 8), .load false 1, [.t 7], none⟩,
  ⟨(some 9), .slice0 1, [.t 8], none⟩,
  ⟨(some 10), .mov, [.t 0], none⟩,
  ⟨(some 11), .nilc, [.t 10], none⟩,
  ⟨(some 12), .faddr 0 1 false, [.t 11], none⟩,
  ⟨(some 13), .load false 1, [.t 12], none⟩,
  ⟨(some 14), .app 1 1, [.t 9, .t 13], none⟩,
  ⟨(some 2), .mov, [.t 14], none⟩]
def c_code_Writer_Bytes_r3 : List COper := a_code_Writer_Bytes_r3
instance : Reg c_code_Writer_Bytes_r3 a_code_Writer_Bytes_r3 11 := ⟨rfl, rfl⟩
@[simp] def c_code_Writer_Bytes : CCode :=
  .seq (.region c_code_Writer_Bytes_r0 none [0]) (.seq (.seq (.region c_code_Writer_Bytes_r1 none [0, 4]) (.cond (.t 4) (.seq (.region c_code_Writer_Bytes_r2 none [2]) (.ret)) (.skip))) (.seq (.region c_code_Writer_Bytes_r3 (some ([0, 1, 3, 7, 15, 0, 32, 96, 224, 511, 1023], [(4, 8)])) [2]) (.ret)))
@[simp] def R_code_Writer_Bytes : List CRes := [.tmp 2]
theorem k_code_Writer_Bytes : chkFn Tryd.prog fn_code_Writer_Bytes c_code_Writer_Bytes R_code_Writer_Bytes 1 = true := by kernel_rfl
/-! (*wapentake/wapentakeref01.Reader).Take -/
@[simp] def a_r01_Reader_Take_r0 : List COper := [
  ⟨(some 4), .mov, [.c (.string (mkS []))], none⟩]
def c_r01_Reader_Take_r0 : List COper := a_r01_Reader_Take_r0
instance : Reg c_r01_Reader_Take_r0 a_r01_Reader_Take_r0 1 := ⟨rfl, rfl⟩
@[simp] def a_r01_Reader_Take_r1 : List COper := [
  ⟨(some 6), .mov, [.t 0], none⟩,
  ⟨(some 7), .nilc, [.t 6], none⟩,
  ⟨(some 8), .faddr 1 1 false, [.t 7], none⟩,
  ⟨(some 9), .load false 1, [.t 8], none⟩,
  ⟨(some 10), .mov, [.t 9], none⟩,
  ⟨(some 11), .mov, [.t 1], (some (10, false))⟩,
  ⟨(some 12), .bin .lss, [.t 11, .c (.int .i64 0)], (some (10, false))⟩,
  ⟨(some 13), .pick, [.t 10, .c (.bool true), .t 12], none⟩,
  ⟨(some 14), .mov, [.t 13], none⟩,
  ⟨(some 15), .mov, [.t 1], (some (14, false))⟩,
  ⟨(some 16), .mov, [.t 0], (some (14, false))⟩,
  ⟨(some 17), .nilc, [.t 16], (some (14, false))⟩,
  ⟨(some 18), .faddr 0 1 false, [.t 17], (some (14, false))⟩,
  ⟨(some 19), .load false 1, [.t 18], (some (14, false))⟩,
  ⟨(some 20), .lenS, [.t 19], (some (14, false))⟩,
  ⟨(some 21), .bin .gtr, [.t 15, .t 20], (some (14, false))⟩,
  ⟨(some 22), .pick, [.t 14, .c (.bool true), .t 21], none⟩]
def c_r01_Reader_Take_r1 : List COper := a_r01_Reader_Take_r1
instance : Reg c_r01_Reader_Take_r1 a_r01_Reader_Take_r1 17 := ⟨rfl, rfl⟩
@[simp] def a_r01_Reader_Take_r2 : List COper := [
  ⟨(some 23), .mov, [.t 0], none⟩,
  ⟨(some 24), .nilc, [.t 23], none⟩,
  ⟨(some 25), .faddr 1 1 false, [.t 24], none⟩,
  ⟨none, .store false 1, [.t 25, .c (.bool true)], none⟩]
def c_r01_Reader_Take_r2 : List COper := a_r01_Reader_Take_r2
instance : Reg c_r01_Reader_Take_r2 a_r01_Reader_Take_r2 4 := ⟨rfl, rfl⟩
@[simp] def a_r01_Reader_Take_r3 : List COper := [
  ⟨(some 26), .mov, [.t 0], none⟩,
  ⟨(some 27), .nilc, [.t 26], none⟩,
  ⟨(some 28), .faddr 0 1 false, [.t 27], none⟩,
  ⟨none, .store false 1, [.t 28, .c (.string (mkS []))], none⟩]
def c_r01_Reader_Take_r3 : List COper := a_r01_Reader_Take_r3
instance : Reg c_r01_Reader_Take_r3 a_r01_Reader_Take_r3 4 := ⟨rfl, rfl⟩
@[simp] def a_r01_Reader_Take_r4 : List COper := [
  ⟨(some 4), .mov, [.c (.string (mkS []))], none⟩]
def c_r01_Reader_Take_r4 : List COper := a_r01_Reader_Take_r4
instance : Reg c_r01_Reader_Take_r4 a_r01_Reader_Take_r4 1 := ⟨rfl, rfl⟩
@[simp] def a_r01_Reader_Take_r5 : List COper := [
  ⟨(some 29), .mov, [.t 0], none⟩,
  ⟨(some 30), .nilc, [.t 29], none⟩,
  ⟨(some 31), .faddr 0 1 false, [.t 30], none⟩,
  ⟨(some 32), .load false 1, [.t 31], none⟩,
  ⟨(some 33), .mov, [.t 1], none⟩,
  ⟨(some 34), .sliceStr false true, [.t 32, .t 33], none⟩,
  ⟨(some 5), .mov, [.t 34], none⟩]
def c_r01_Reader_Take_r5 : List COper := a_r01_Reader_Take_r5
instance : Reg c_r01_Reader_Take_r5 a_r01_Reader_Take_r5 7 := ⟨rfl, rfl⟩
@[simp] def a_r01_Reader_Take_r6 : List COper := [
  ⟨(some 35), .mov, [.t 0], none⟩,
  ⟨(some 36), .mov, [.t 0], none⟩,
  ⟨(some 37), .nilc, [.t 36], none⟩,
  ⟨(some 38), .faddr 0 1 false, [.t 37], none⟩,
  ⟨(some 39), .load false 1, [.t 38], none⟩,
  ⟨(some 40), .mov, [.t 1], none⟩,
  ⟨(some 41), .sliceStr true false, [.t 39, .t 40], none⟩,
  ⟨(some 42), .nilc, [.t 35], none⟩,
  ⟨(some 43), .faddr 0 1 false, [.t 42], none⟩,
  ⟨none, .store false 1, [.t 43, .t 41], none⟩]
def c_r01_Reader_Take_r6 : List COper := a_r01_Reader_Take_r6
instance : Reg c_r01_Reader_Take_r6 a_r01_Reader_Take_r6 10 := ⟨rfl, rfl⟩
@[simp] def a_r01_Reader_Take_r7 : List COper := [
  ⟨(some 44), .mov, [.t 5], none⟩,
  ⟨(some 4), .mov, [.t 44], none⟩]
def c_r01_Reader_Take_r7 : List COper := a_r01_Reader_Take_r7
instance : Reg c_r01_Reader_Take_r7 a_r01_Reader_Take_r7 2 := ⟨rfl, rfl⟩
@[simp] def c_r01_Reader_Take : CCode :=
  .seq (.region c_r01_Reader_Take_r0 none [0, 1]) (.seq (.seq (.region c_r01_Reader_Take_r1 none [0, 1, 22]) (.cond (.t 22) (.seq (.region c_r01_Reader_Take_r2 none [0]) (.seq (.region c_r01_Reader_Take_r3 none []) (.seq (.region c_r01_Reader_Take_r4 none [4]) (.ret)))) (.skip))) (.seq (.region c_r01_Reader_Take_r5 none [0, 1, 5]) (.seq (.region c_r01_Reader_Take_r6 none [5]) (.seq (.region c_r01_Reader_Take_r7 none [4]) (.ret)))))
@[simp] def R_r01_Reader_Take : List CRes := [.tmp 4]
theorem k_r01_Reader_Take : chkFn Tryd.prog fn_r01_Reader_Take c_r01_Reader_Take R_r01_Reader_Take 2 = true := by kernel_rfl
/-! (*wapentake/wapentakeref01.Reader).Num -/
@[simp] def a_r01_Reader_Num_r0 : List COper := [
  ⟨(some 2), .mov, [.c (.int .i64 0)], none⟩]
def c_r01_Reader_Num_r0 : List COper := a_r01_Reader_Num_r0
instance : Reg c_r01_Reader_Num_r0 a_r01_Reader_Num_r0 1 := ⟨rfl, rfl⟩
@[simp] def a_r01_Reader_Num_r1 : List COper := [
  ⟨(some 6), .mov, [.t 0], none⟩,
  ⟨(some 7), .call fn_r01_Reader_Take, [.t 6, .c (.int .i64 8)], none⟩,
  ⟨(some 3), .mov, [.t 7], none⟩]
def c_r01_Reader_Num_r1 : List COper := a_r01_Reader_Num_r1
instance : Reg c_r01_Reader_Num_r1 a_r01_Reader_Num_r1 3 := ⟨rfl, rfl⟩
@[simp] def a_r01_Reader_Num_r2 : List COper := [
  ⟨(some 4), .mov, [.c (.int .i64 0)], none⟩]
def c_r01_Reader_Num_r2 : List COper := a_r01_Reader_Num_r2
instance : Reg c_r01_Reader_Num_r2 a_r01_Reader_Num_r2 1 := ⟨rfl, rfl⟩
@[simp] def a_r01_Reader_Num_r3 : List COper := [
  ⟨(some 5), .mov, [.c (.int .i64 0)], none⟩]
def c_r01_Reader_Num_r3 : List COper := a_r01_Reader_Num_r3
instance : Reg c_r01_Reader_Num_r3 a_r01_Reader_Num_r3 1 := ⟨rfl, rfl⟩
@[simp] def a_r01_Reader_Num_r4 : List COper := [
  ⟨(some 8), .mov, [.t 5], none⟩,
  ⟨(some 9), .mov, [.t 3], none⟩,
  ⟨(some 10), .lenS, [.t 9], none⟩,
  ⟨(some 11), .bin .lss, [.t 8, .t 10], none⟩]
def c_r01_Reader_Num_r4 : List COper := a_r01_Reader_Num_r4
instance : Reg c_r01_Reader_Num_r4 a_r01_Reader_Num_r4 4 := ⟨rfl, rfl⟩
@[simp] def a_r01_Reader_Num_r6 : List COper := [
  ⟨(some 14), .mov, [.t 4], none⟩,
  ⟨(some 15), .bin .shl, [.t 14, .c (.int .u64 8)], none⟩,
  ⟨(some 16), .mov, [.t 3], none⟩,
  ⟨(some 17), .mov, [.t 5], none⟩,
  ⟨(some 18), .idxS, [.t 16, .t 17], none⟩,
  ⟨(some 19), .convI .i64, [.t 18], none⟩,
  ⟨(some 20), .bin .or, [.t 15, .t 19], none⟩,
  ⟨(some 4), .mov, [.t 20], none⟩]
def c_r01_Reader_Num_r6 : List COper := a_r01_Reader_Num_r6
instance : Reg c_r01_Reader_Num_r6 a_r01_Reader_Num_r6 8 := ⟨rfl, rfl⟩
@[simp] def a_r01_Reader_Num_r5 : List COper := [
  ⟨(some 12), .mov, [.t 5], none⟩,
  ⟨(some 13), .bin .add, [.t 12, .c (.int .i64 1)], none⟩,
  ⟨(some 5), .mov, [.t 13], none⟩]
def c_r01_Reader_Num_r5 : List COper := a_r01_Reader_Num_r5
instance : Reg c_r01_Reader_Num_r5 a_r01_Reader_Num_r5 3 := ⟨rfl, rfl⟩
@[simp] def a_r01_Reader_Num_r7 : List COper := [
  ⟨(some 21), .mov, [.t 4], none⟩,
  ⟨(some 2), .mov, [.t 21], none⟩]
def c_r01_Reader_Num_r7 : List COper := a_r01_Reader_Num_r7
instance : Reg c_r01_Reader_Num_r7 a_r01_Reader_Num_r7 2 := ⟨rfl, rfl⟩
@[simp] def c_r01_Reader_Num : CCode :=
  .seq (.region c_r01_Reader_Num_r0 none [0]) (.seq (.region c_r01_Reader_Num_r1 none [3]) (.seq (.region c_r01_Reader_Num_r2 none [3, 4]) (.seq (.seq (.region c_r01_Reader_Num_r3 none [3, 4, 5]) (.block 0 (.loop (.seq (.seq (.region c_r01_Reader_Num_r4 none [3, 4, 5, 11]) (.cond (.t 11) (.skip) (.exit 0))) (.seq (.block 1 (.region c_r01_Reader_Num_r6 none [3, 4, 5])) (.region c_r01_Reader_Num_r5 none [3, 4, 5])))))) (.seq (.region c_r01_Reader_Num_r7 none [2]) (.ret)))))
@[simp] def R_r01_Reader_Num : List CRes := [.tmp 2]
theorem k_r01_Reader_Num : chkFn Tryd.prog fn_r01_Reader_Num c_r01_Reader_Num R_r01_Reader_Num 1 = true := by kernel_rfl
/-! wapentake/wapentakeref02.Of -/
@[simp] def a_r02_Of_r0 : List COper := [
  ⟨(some 2), .alloc (.arr 1 (rep 32 (.v (.int .u8 0)))), [], none⟩]
def c_r02_Of_r0 : List COper := a_r02_Of_r0
instance : Reg c_r02_Of_r0 a_r02_Of_r0 1 := ⟨rfl, rfl⟩
@[simp] def a_r02_Of_r1 : List COper := [
  ⟨(some 11), .buildA 1 (rep 8 (.v (.int .u32 0))) (upTo 8), [.c (.int .u32 1779033703), .c (.int .u32 3144134277), .c (.int .u32 1013904242), .c (.int .u32 2773480762), .c (.int .u32 1359893119), .c (.int .u32 2600822924), .c (.int .u32 528734635), .c (.int .u32 1541459225)], none⟩,
  ⟨(some 3), .alloc (.arr 1 (rep 8 (.v (.int .u32 0)))), [], none⟩,
  ⟨none, .store true 8, [.t 3, .t 11], none⟩]
def c_r02_Of_r1 : List COper := a_r02_Of_r1
instance : Reg c_r02_Of_r1 a_r02_Of_r1 3 := ⟨rfl, rfl⟩
@[simp] def a_r02_Of_r2 : List COper := [
  ⟨(some 12), .mov, [.t 0], none⟩,
  ⟨(some 13), .call fn_r02_Padded, [.t 12], none⟩,
  ⟨(some 4), .mov, [.t 13], none⟩]
def c_r02_Of_r2 : List COper := a_r02_Of_r2
instance : Reg c_r02_Of_r2 a_r02_Of_r2 3 := ⟨rfl, rfl⟩
@[simp] def a_r02_Of_r3 : List COper := [
  ⟨(some 14), .call fn_r02_Numbers, [], none⟩,
  ⟨(some 5), .alloc (.arr 1 (rep 64 (.v (.int .u32 0)))), [], none⟩,
  ⟨none, .store true 64, [.t 5, .t 14], none⟩]
def c_r02_Of_r3 : List COper := a_r02_Of_r3
instance : Reg c_r02_Of_r3 a_r02_Of_r3 3 := ⟨rfl, rfl⟩
@[simp] def a_r02_Of_r4 : List COper := [
  ⟨(some 6), .mov, [.c (.int .i64 0)], none⟩]
def c_r02_Of_r4 : List COper := a_r02_Of_r4
instance : Reg c_r02_Of_r4 a_r02_Of_r4 1 := ⟨rfl, rfl⟩
@[simp] def a_r02_Of_r5 : List COper := [
  ⟨(some 15), .mov, [.t 6], none⟩,
  ⟨(some 16), .mov, [.t 4], none⟩,
  ⟨(some 17), .len, [.t 16], none⟩,
  ⟨(some 18), .bin .lss, [.t 15, .t 17], none⟩]
def c_r02_Of_r5 : List COper := a_r02_Of_r5
instance : Reg c_r02_Of_r5 a_r02_Of_r5 4 := ⟨rfl, rfl⟩
@[simp] def a_r02_Of_r7 : List COper := [
  ⟨(some 21), .load true 8, [.t 3], none⟩,
  ⟨(some 22), .mov, [.t 4], none⟩,
  ⟨(some 23), .mov, [.t 6], none⟩,
  ⟨(some 24), .mov, [.t 6], none⟩,
  ⟨(some 25), .bin .add, [.t 24, .c (.int .i64 64)], none⟩,
  ⟨(some 26), .slice 1 true true, [.t 22, .t 23, .t 25], none⟩,
  ⟨(some 27), .load true 64, [.t 5], none⟩,
  ⟨(some 28), .call fn_r02_Next, [.t 21, .t 26, .t 27], none⟩,
  ⟨none, .store true 8, [.t 3, .t 28], none⟩]
def c_r02_Of_r7 : List COper := a_r02_Of_r7
instance : Reg c_r02_Of_r7 a_r02_Of_r7 9 := ⟨rfl, rfl⟩
@[simp] def a_r02_Of_r6 : List COper := [
  ⟨(some 19), .mov, [.t 6], none⟩,
  ⟨(some 20), .bin .add, [.t 19, .c (.int .i64 64)], none⟩,
  ⟨(some 6), .mov, [.t 20], none⟩]
def c_r02_Of_r6 : List COper := a_r02_Of_r6
instance : Reg c_r02_Of_r6 a_r02_Of_r6 3 := ⟨rfl, rfl⟩
@[simp] def a_r02_Of_r8 : List COper := [
  ⟨(some 7), .alloc (.arr 1 (rep 32 (.v (.int .u8 0)))), [], none⟩]
def c_r02_Of_r8 : List COper := a_r02_Of_r8
instance : Reg c_r02_Of_r8 a_r02_Of_r8 1 := ⟨rfl, rfl⟩
@[simp] def a_r02_Of_r9 : List COper := [
  ⟨(some 29), .load true 8, [.t 3], none⟩,
  ⟨(some 30), .mov, [.c (.int .i64 0)], none⟩]
def c_r02_Of_r9 : List COper := a_r02_Of_r9
instance : Reg c_r02_Of_r9 a_r02_Of_r9 2 := ⟨rfl, rfl⟩
@[simp] def a_r02_Of_r10 : List COper := [
  ⟨(some 31), .bin .lss, [.t 30, .c (.int .i64 8)], none⟩]
def c_r02_Of_r10 : List COper := a_r02_Of_r10
instance : Reg c_r02_Of_r10 a_r02_Of_r10 1 := ⟨rfl, rfl⟩
@[simp] def a_r02_Of_r11 : List COper := [
  ⟨(some 32), .mov, [.t 30], none⟩,
  ⟨(some 33), .idx false 8 1, [.t 29, .t 30], none⟩,
  ⟨(some 8), .mov, [.t 32], none⟩,
  ⟨(some 9), .mov, [.t 33], none⟩]
def c_r02_Of_r11 : List COper := a_r02_Of_r11
instance : Reg c_r02_Of_r11 a_r02_Of_r11 4 := ⟨rfl, rfl⟩
@[simp] def a_r02_Of_r12 : List COper := [
  ⟨(some 10), .mov, [.c (.int .i64 0)], none⟩]
def c_r02_Of_r12 : List COper := a_r02_Of_r12
instance : Reg c_r02_Of_r12 a_r02_Of_r12 1 := ⟨rfl, rfl⟩
@[simp] def a_r02_Of_r13 : List COper := [
  ⟨(some 34), .mov, [.t 10], none⟩,
  ⟨(some 35), .bin .lss, [.t 34, .c (.int .i64 4)], none⟩]
def c_r02_Of_r13 : List COper := a_r02_Of_r13
instance : Reg c_r02_Of_r13 a_r02_Of_r13 2 := ⟨rfl, rfl⟩
@[simp] def a_r02_Of_r15 : List COper := [
  ⟨(some 38), .mov, [.t 8], none⟩,
  ⟨(some 39), .bin .mul, [.c (.int .i64 4), .t 38], none⟩,
  ⟨(some 40), .mov, [.t 10], none⟩,
  ⟨(some 41), .bin .add, [.t 39, .t 40], none⟩,
  ⟨(some 42), .mov, [.t 9], none⟩,
  ⟨(some 43), .mov, [.t 10], none⟩,
  ⟨(some 44), .bin .mul, [.c (.int .i64 8), .t 43], none⟩,
  ⟨(some 45), .bin .sub, [.c (.int .i64 24), .t 44], none⟩,
  ⟨(some 46), .convI .u64, [.t 45], none⟩,
  ⟨(some 47), .bin .shr, [.t 42, .t 46], none⟩,
  ⟨(some 48), .convI .u8, [.t 47], none⟩,
  ⟨(some 49), .iaddrArr 32 1 false, [.t 7, .t 41], none⟩,
  ⟨none, .store false 1, [.t 49, .t 48], none⟩]
def c_r02_Of_r15 : List COper := a_r02_Of_r15
instance : Reg c_r02_Of_r15 a_r02_Of_r15 13 := ⟨rfl, rfl⟩
@[simp] def a_r02_Of_r14 : List COper := [
  ⟨(some 36), .mov, [.t 10], none⟩,
  ⟨(some 37), .bin .add, [.t 36, .c (.int .i64 1)], none⟩,
  ⟨(some 10), .mov, [.t 37], none⟩]
def c_r02_Of_r14 : List COper := a_r02_Of_r14
instance : Reg c_r02_Of_r14 a_r02_Of_r14 3 := ⟨rfl, rfl⟩
@[simp] def a_r02_Of_r16 : List COper := [
  ⟨(some 50), .bin .add, [.t 30, .c (.int .i64 1)], none⟩,
  ⟨(some 30), .mov, [.t 50], none⟩]
def c_r02_Of_r16 : List COper := a_r02_Of_r16
instance : Reg c_r02_Of_r16 a_r02_Of_r16 2 := ⟨rfl, rfl⟩
@[simp] def a_r02_Of_r17 : List COper := [
  ⟨(some 51), .load true 32, [.t 7], none⟩,
  ⟨none, .store true 32, [.t 2, .t 51], none⟩]
def c_r02_Of_r17 : List COper := a_r02_Of_r17
instance : Reg c_r02_Of_r17 a_r02_Of_r17 2 := ⟨rfl, rfl⟩
@[simp] def c_r02_Of : CCode :=
  .seq (.region c_r02_Of_r0 none [0, 2]) (.seq (.region c_r02_Of_r1 none [0, 2, 3]) (.seq (.region c_r02_Of_r2 none [2, 3, 4]) (.seq (.region c_r02_Of_r3 none [2, 3, 4, 5]) (.seq (.seq (.region c_r02_Of_r4 none [2, 3, 4, 5, 6]) (.block 0 (.loop (.seq (.seq (.region c_r02_Of_r5 none [2, 3, 4, 5, 6, 18]) (.cond (.t 18) (.skip) (.exit 0))) (.seq (.block 1 (.region c_r02_Of_r7 (some ([0, 0, 0, 0, 8, 30, 0, 127, 255], [])) [2, 3, 4, 5, 6])) (.region c_r02_Of_r6 none [2, 3, 4, 5, 6])))))) (.seq (.region c_r02_Of_r8 none [2, 3, 7]) (.seq (.seq (.region c_r02_Of_r9 none [2, 7, 29, 30]) (.block 2 (.loop (.seq (.region c_r02_Of_r10 none [2, 7, 29, 30, 31]) (.seq (.cond (.t 31) (.skip) (.exit 2)) (.seq (.block 3 (.seq (.region c_r02_Of_r11 none [2, 7, 8, 9, 29, 30]) (.seq (.region c_r02_Of_r12 none [2, 7, 8, 9, 10, 29, 30]) (.block 4 (.loop (.seq (.seq (.region c_r02_Of_r13 none [2, 7, 8, 9, 10, 29, 30, 35]) (.cond (.t 35) (.skip) (.exit 4))) (.seq (.block 5 (.region c_r02_Of_r15 none [2, 7, 8, 9, 10, 29, 30])) (.region c_r02_Of_r14 none [2, 7, 8, 9, 10, 29, 30])))))))) (.region c_r02_Of_r16 none [2, 7, 29, 30]))))))) (.seq (.region c_r02_Of_r17 none [2]) (.ret))))))))
@[simp] def R_r02_Of : List CRes := [.cell 2 true 32]
theorem k_r02_Of : chkFn Tryd.prog fn_r02_Of c_r02_Of R_r02_Of 1 = true := by kernel_rfl
/-! wapentake/wapentakeref08.Read -/
@[simp] def a_r08_Read_r0 : List COper := [
  ⟨(some 2), .alloc (.node [.v (.int .i64 0), .v (.slice none 0 0)]), [], none⟩]
def c_r08_Read_r0 : List COper := a_r08_Read_r0
instance : Reg c_r08_Read_r0 a_r08_Read_r0 1 := ⟨rfl, rfl⟩
@[simp] def a_r08_Read_r1 : List COper := [
  ⟨(some 8), .mov, [.t 0], none⟩,
  ⟨(some 9), .call fn_r01_Reader_In, [.t 8, .c (.int .i64 0), .c (.int .i64 1073741824)], none⟩,
  ⟨(some 10), .build [.v (.int .i64 0), .v (.slice none 0 0)] [0], [.t 9], none⟩,
  ⟨(some 3), .alloc (.node [.v (.int .i64 0), .v (.slice none 0 0)]), [], none⟩,
  ⟨none, .store true 2, [.t 3, .t 10], none⟩]
def c_r08_Read_r1 : List COper := a_r08_Read_r1
instance : Reg c_r08_Read_r1 a_r08_Read_r1 5 := ⟨rfl, rfl⟩
@[simp] def a_r08_Read_r2 : List COper := [
  ⟨(some 11), .mov, [.t 0], none⟩,
  ⟨(some 12), .call fn_r01_Reader_In, [.t 11, .c (.int .i64 1), .c (.int .i64 10)], none⟩,
  ⟨(some 4), .mov, [.t 12], none⟩]
def c_r08_Read_r2 : List COper := a_r08_Read_r2
instance : Reg c_r08_Read_r2 a_r08_Read_r2 3 := ⟨rfl, rfl⟩
@[simp] def a_r08_Read_r3 : List COper := [
  ⟨(some 5), .mov, [.c (.int .i64 0)], none⟩]
def c_r08_Read_r3 : List COper := a_r08_Read_r3
instance : Reg c_r08_Read_r3 a_r08_Read_r3 1 := ⟨rfl, rfl⟩
@[simp] def a_r08_Read_r4 : List COper := [
  ⟨(some 6), .mov, [.c (.int .i64 0)], none⟩]
def c_r08_Read_r4 : List COper := a_r08_Read_r4
instance : Reg c_r08_Read_r4 a_r08_Read_r4 1 := ⟨rfl, rfl⟩
@[simp] def a_r08_Read_r5 : List COper := [
  ⟨(some 13), .mov, [.t 6], none⟩,
  ⟨(some 14), .mov, [.t 4], none⟩,
  ⟨(some 15), .bin .lss, [.t 13, .t 14], none⟩]
def c_r08_Read_r5 : List COper := a_r08_Read_r5
instance : Reg c_r08_Read_r5 a_r08_Read_r5 3 := ⟨rfl, rfl⟩
@[simp] def a_r08_Read_r7 : List COper := [
  ⟨(some 7), .alloc (.node [.v (.int .i64 0), .node [.arr 1 (rep 32 (.v (.int .u8 0))), .v (.int .i64 0)]]), [], none⟩]
def c_r08_Read_r7 : List COper := a_r08_Read_r7
instance : Reg c_r08_Read_r7 a_r08_Read_r7 1 := ⟨rfl, rfl⟩
@[simp] def a_r08_Read_r8 : List COper := [
  ⟨(some 18), .mov, [.t 0], none⟩,
  ⟨(some 19), .mov, [.t 5], none⟩,
  ⟨(some 20), .bin .add, [.t 19, .c (.int .i64 1)], none⟩,
  ⟨(some 21), .call fn_r01_Reader_In, [.t 18, .t 20, .c (.int .i64 63)], none⟩,
  ⟨(some 22), .faddr 0 1 false, [.t 7], none⟩,
  ⟨none, .store false 1, [.t 22, .t 21], none⟩]
def c_r08_Read_r8 : List COper := a_r08_Read_r8
instance : Reg c_r08_Read_r8 a_r08_Read_r8 6 := ⟨rfl, rfl⟩
@[simp] def a_r08_Read_r9 : List COper := [
  ⟨(some 23), .faddr 0 1 false, [.t 7], none⟩,
  ⟨(some 24), .load false 1, [.t 23], none⟩,
  ⟨(some 5), .mov, [.t 24], none⟩]
def c_r08_Read_r9 : List COper := a_r08_Read_r9
instance : Reg c_r08_Read_r9 a_r08_Read_r9 3 := ⟨rfl, rfl⟩
@[simp] def a_r08_Read_r10 : List COper := [
  ⟨(some 25), .mov, [.t 0], none⟩,
  ⟨(some 26), .call fn_r01_Reader_In, [.t 25, .c (.int .i64 0), .c (.int .i64 6)], none⟩,
  ⟨(some 27), .faddr 1 33 true, [.t 7], none⟩,
  ⟨(some 28), .faddr 32 1 false, [.t 27], none⟩,
  ⟨none, .store false 1, [.t 28, .t 26], none⟩]
def c_r08_Read_r10 : List COper := a_r08_Read_r10
instance : Reg c_r08_Read_r10 a_r08_Read_r10 5 := ⟨rfl, rfl⟩
@[simp] def a_r08_Read_r11 : List COper := [
  ⟨(some 29), .mov, [.t 0], none⟩,
  ⟨(some 30), .call fn_r01_Reader_Digest, [.t 29], none⟩,
  ⟨(some 31), .faddr 1 33 true, [.t 7], none⟩,
  ⟨(some 32), .faddr 0 32 true, [.t 31], none⟩,
  ⟨none, .store true 32, [.t 32, .t 30], none⟩]
def c_r08_Read_r11 : List COper := a_r08_Read_r11
instance : Reg c_r08_Read_r11 a_r08_Read_r11 5 := ⟨rfl, rfl⟩
@[simp] def a_r08_Read_r12 : List COper := [
  ⟨(some 33), .faddr 1 1 false, [.t 3], none⟩,
  ⟨(some 34), .load false 1, [.t 33], none⟩,
  ⟨(some 35), .load true 34, [.t 7], none⟩,
  ⟨(some 36), .bslice 34 1 (.node [.v (.int .i64 0), .node [.arr 1 (rep 32 (.v (.int .u8 0))), .v (.int .i64 0)]]) [0], [.t 35], none⟩,
  ⟨(some 37), .app 34 48, [.t 34, .t 36], none⟩,
  ⟨(some 38), .faddr 1 1 false, [.t 3], none⟩,
  ⟨none, .store false 1, [.t 38, .t 37], none⟩]
def c_r08_Read_r12 : List COper := a_r08_Read_r12
instance : Reg c_r08_Read_r12 a_r08_Read_r12 7 := ⟨rfl, rfl⟩
@[simp] def a_r08_Read_r6 : List COper := [
  ⟨(some 16), .mov, [.t 6], none⟩,
  ⟨(some 17), .bin .add, [.t 16, .c (.int .i64 1)], none⟩,
  ⟨(some 6), .mov, [.t 17], none⟩]
def c_r08_Read_r6 : List COper := a_r08_Read_r6
instance : Reg c_r08_Read_r6 a_r08_Read_r6 3 := ⟨rfl, rfl⟩
@[simp] def a_r08_Read_r13 : List COper := [
  ⟨(some 39), .mov, [.t 0], none⟩,
  ⟨(some 40), .call fn_r01_Reader_Good, [.t 39], none⟩,
  ⟨(some 41), .not, [.t 40], none⟩]
def c_r08_Read_r13 : List COper := a_r08_Read_r13
instance : Reg c_r08_Read_r13 a_r08_Read_r13 3 := ⟨rfl, rfl⟩
@[simp] def a_r08_Read_r14 : List COper := [
  ⟨(some 42), .build [.v (.int .i64 0), .v (.slice none 0 0)] [], [], none⟩,
  ⟨none, .store true 2, [.t 2, .t 42], none⟩]
def c_r08_Read_r14 : List COper := a_r08_Read_r14
instance : Reg c_r08_Read_r14 a_r08_Read_r14 2 := ⟨rfl, rfl⟩
@[simp] def a_r08_Read_r15 : List COper := [
  ⟨(some 43), .load true 2, [.t 3], none⟩,
  ⟨none, .store true 2, [.t 2, .t 43], none⟩]
def c_r08_Read_r15 : List COper := a_r08_Read_r15
instance : Reg c_r08_Read_r15 a_r08_Read_r15 2 := ⟨rfl, rfl⟩
@[simp] def c_r08_Read : CCode :=
  .seq (.region c_r08_Read_r0 none [0, 2]) (.seq (.region c_r08_Read_r1 none [0, 2, 3]) (.seq (.region c_r08_Read_r2 none [0, 2, 3, 4]) (.seq (.region c_r08_Read_r3 none [0, 2, 3, 4, 5]) (.seq (.seq (.region c_r08_Read_r4 none [0, 2, 3, 4, 5, 6]) (.block 0 (.loop (.seq (.seq (.region c_r08_Read_r5 none [0, 2, 3, 4, 5, 6, 15]) (.cond (.t 15) (.skip) (.exit 0))) (.seq (.block 1 (.seq (.region c_r08_Read_r7 none [0, 2, 3, 4, 5, 6, 7]) (.seq (.region c_r08_Read_r8 none [0, 2, 3, 4, 6, 7]) (.seq (.region c_r08_Read_r9 none [0, 2, 3, 4, 5, 6, 7]) (.seq (.region c_r08_Read_r10 none [0, 2, 3, 4, 5, 6, 7]) (.seq (.region c_r08_Read_r11 none [0, 2, 3, 4, 5, 6, 7]) (.region c_r08_Read_r12 none [0, 2, 3, 4, 5, 6]))))))) (.region c_r08_Read_r6 none [0, 2, 3, 4, 5, 6])))))) (.seq (.seq (.region c_r08_Read_r13 none [2, 3, 41]) (.cond (.t 41) (.seq (.region c_r08_Read_r14 none [2]) (.ret)) (.skip))) (.seq (.region c_r08_Read_r15 none [2]) (.ret)))))))
@[simp] def R_r08_Read : List CRes := [.cell 2 true 2]
theorem k_r08_Read : chkFn Tryd.prog fn_r08_Read c_r08_Read R_r08_Read 1 = true := by kernel_rfl
/-! (*wapentake/wapentakeref01.Reader).Good -/
@[simp] def a_r01_Reader_Good_r0 : List COper := [
  ⟨(some 2), .mov, [.c (.bool false)], none⟩]
def c_r01_Reader_Good_r0 : List COper := a_r01_Reader_Good_r0
instance : Reg c_r01_Reader_Good_r0 a_r01_Reader_Good_r0 1 := ⟨rfl, rfl⟩
@[simp] def a_r01_Reader_Good_r1 : List COper := [
  ⟨(some 3), .mov, [.t 0], none⟩,
  ⟨(some 4), .nilc, [.t 3], none⟩,
  ⟨(some 5), .faddr 1 1 false, [.t 4], none⟩,
  ⟨(some 6), .load false 1, [.t 5], none⟩,
  ⟨(some 7), .not, [.t 6], none⟩,
  ⟨(some 2), .mov, [.t 7], none⟩]
def c_r01_Reader_Good_r1 : List COper := a_r01_Reader_Good_r1
instance : Reg c_r01_Reader_Good_r1 a_r01_Reader_Good_r1 6 := ⟨rfl, rfl⟩
@[simp] def c_r01_Reader_Good : CCode :=
  .seq (.region c_r01_Reader_Good_r0 none [0]) (.seq (.region c_r01_Reader_Good_r1 none [2]) (.ret))
@[simp] def R_r01_Reader_Good : List CRes := [.tmp 2]
theorem k_r01_Reader_Good : chkFn Tryd.prog fn_r01_Reader_Good c_r01_Reader_Good R_r01_Reader_Good 1 = true := by kernel_rfl
/-! wapentake/wapentakeref09.ReadReply -/
@[simp] def a_r09_ReadReply_r0 : List COper := [
  ⟨(some 2), .alloc (.node [.v (.int .i64 0), .v (.int .i64 0), .v (.int .i64 0), .v (.slice none 0 0)]), [], none⟩]
def c_r09_ReadReply_r0 : List COper := a_r09_ReadReply_r0
instance : Reg c_r09_ReadReply_r0 a_r09_ReadReply_r0 1 := ⟨rfl, rfl⟩
@[simp] def a_r09_ReadReply_r1 : List COper := [
  ⟨(some 3), .alloc (.node [.v (.int .i64 0), .v (.int .i64 0), .v (.int .i64 0), .v (.slice none 0 0)]), [], none⟩]
def c_r09_ReadReply_r1 : List COper := a_r09_ReadReply_r1
instance : Reg c_r09_ReadReply_r1 a_r09_ReadReply_r1 1 := ⟨rfl, rfl⟩
@[simp] def a_r09_ReadReply_r2 : List COper := [
  ⟨(some 6), .mov, [.t 0], none⟩,
  ⟨(some 7), .call fn_r01_Reader_In, [.t 6, .c (.int .i64 1), .c (.int .i64 64)], none⟩,
  ⟨(some 8), .faddr 0 1 false, [.t 3], none⟩,
  ⟨none, .store false 1, [.t 8, .t 7], none⟩]
def c_r09_ReadReply_r2 : List COper := a_r09_ReadReply_r2
instance : Reg c_r09_ReadReply_r2 a_r09_ReadReply_r2 4 := ⟨rfl, rfl⟩
@[simp] def a_r09_ReadReply_r3 : List COper := [
  ⟨(some 9), .mov, [.t 0], none⟩,
  ⟨(some 10), .call fn_r01_Reader_In, [.t 9, .c (.int .i64 1), .c (.int .i64 1099511627776)], none⟩,
  ⟨(some 11), .faddr 1 1 false, [.t 3], none⟩,
  ⟨none, .store false 1, [.t 11, .t 10], none⟩]
def c_r09_ReadReply_r3 : List COper := a_r09_ReadReply_r3
instance : Reg c_r09_ReadReply_r3 a_r09_ReadReply_r3 4 := ⟨rfl, rfl⟩
@[simp] def a_r09_ReadReply_r4 : List COper := [
  ⟨(some 12), .mov, [.t 0], none⟩,
  ⟨(some 13), .call fn_r01_Reader_In, [.t 12, .c (.int .i64 0), .c (.int .i64 1024)], none⟩,
  ⟨(some 14), .faddr 2 1 false, [.t 3], none⟩,
  ⟨none, .store false 1, [.t 14, .t 13], none⟩]
def c_r09_ReadReply_r4 : List COper := a_r09_ReadReply_r4
instance : Reg c_r09_ReadReply_r4 a_r09_ReadReply_r4 4 := ⟨rfl, rfl⟩
@[simp] def a_r09_ReadReply_r5 : List COper := [
  ⟨(some 15), .mov, [.t 0], none⟩,
  ⟨(some 16), .call fn_r01_Reader_In, [.t 15, .c (.int .i64 0), .c (.int .i64 256)], none⟩,
  ⟨(some 4), .mov, [.t 16], none⟩]
def c_r09_ReadReply_r5 : List COper := a_r09_ReadReply_r5
instance : Reg c_r09_ReadReply_r5 a_r09_ReadReply_r5 3 := ⟨rfl, rfl⟩
@[simp] def a_r09_ReadReply_r6 : List COper := [
  ⟨(some 5), .mov, [.c (.int .i64 0)], none⟩]
def c_r09_ReadReply_r6 : List COper := a_r09_ReadReply_r6
instance : Reg c_r09_ReadReply_r6 a_r09_ReadReply_r6 1 := ⟨rfl, rfl⟩
@[simp] def a_r09_ReadReply_r7 : List COper := [
  ⟨(some 17), .mov, [.t 5], none⟩,
  ⟨(some 18), .mov, [.t 4], none⟩,
  ⟨(some 19), .bin .lss, [.t 17, .t 18], none⟩,
  ⟨(some 20), .mov, [.t 19], none⟩,
  ⟨(some 21), .mov, [.t 0], (some (20, true))⟩,
  ⟨(some 22), .call fn_r01_Reader_Good, [.t 21], (some (20, true))⟩,
  ⟨(some 23), .pick, [.t 20, .t 22, .c (.bool false)], none⟩]
def c_r09_ReadReply_r7 : List COper := a_r09_ReadReply_r7
instance : Reg c_r09_ReadReply_r7 a_r09_ReadReply_r7 7 := ⟨rfl, rfl⟩
@[simp] def a_r09_ReadReply_r9 : List COper := [
  ⟨(some 26), .faddr 3 1 false, [.t 3], none⟩,
  ⟨(some 27), .load false 1, [.t 26], none⟩,
  ⟨(some 28), .mov, [.t 0], none⟩,
  ⟨(some 29), .call fn_r01_Reader_Text, [.t 28, .c (.int .i64 1024)], none⟩,
  ⟨(some 30), .bslice 1 1 (.v (.string (mkS []))) [0], [.t 29], none⟩,
  ⟨(some 31), .app 1 16, [.t 27, .t 30], none⟩,
  ⟨(some 32), .faddr 3 1 false, [.t 3], none⟩,
  ⟨none, .store false 1, [.t 32, .t 31], none⟩]
def c_r09_ReadReply_r9 : List COper := a_r09_ReadReply_r9
instance : Reg c_r09_ReadReply_r9 a_r09_ReadReply_r9 8 := ⟨rfl, rfl⟩
@[simp] def a_r09_ReadReply_r8 : List COper := [
  ⟨(some 24), .mov, [.t 5], none⟩,
  ⟨(some 25), .bin .add, [.t 24, .c (.int .i64 1)], none⟩,
  ⟨(some 5), .mov, [.t 25], none⟩]
def c_r09_ReadReply_r8 : List COper := a_r09_ReadReply_r8
instance : Reg c_r09_ReadReply_r8 a_r09_ReadReply_r8 3 := ⟨rfl, rfl⟩
@[simp] def a_r09_ReadReply_r10 : List COper := [
  ⟨(some 33), .mov, [.t 0], none⟩,
  ⟨(some 34), .call fn_r01_Reader_Good, [.t 33], none⟩,
  ⟨(some 35), .not, [.t 34], none⟩]
def c_r09_ReadReply_r10 : List COper := a_r09_ReadReply_r10
instance : Reg c_r09_ReadReply_r10 a_r09_ReadReply_r10 3 := ⟨rfl, rfl⟩
@[simp] def a_r09_ReadReply_r11 : List COper := [
  ⟨(some 36), .build [.v (.int .i64 0), .v (.int .i64 0), .v (.int .i64 0), .v (.slice none 0 0)] [], [], none⟩,
  ⟨none, .store true 4, [.t 2, .t 36], none⟩]
def c_r09_ReadReply_r11 : List COper := a_r09_ReadReply_r11
instance : Reg c_r09_ReadReply_r11 a_r09_ReadReply_r11 2 := ⟨rfl, rfl⟩
@[simp] def a_r09_ReadReply_r12 : List COper := [
  ⟨(some 37), .load true 4, [.t 3], none⟩,
  ⟨none, .store true 4, [.t 2, .t 37], none⟩]
def c_r09_ReadReply_r12 : List COper := a_r09_ReadReply_r12
instance : Reg c_r09_ReadReply_r12 a_r09_ReadReply_r12 2 := ⟨rfl, rfl⟩
@[simp] def c_r09_ReadReply : CCode :=
  .seq (.region c_r09_ReadReply_r0 none [0, 2]) (.seq (.region c_r09_ReadReply_r1 none [0, 2, 3]) (.seq (.region c_r09_ReadReply_r2 none [0, 2, 3]) (.seq (.region c_r09_ReadReply_r3 none [0, 2, 3]) (.seq (.region c_r09_ReadReply_r4 none [0, 2, 3]) (.seq (.region c_r09_ReadReply_r5 none [0, 2, 3, 4]) (.seq (.seq (.region c_r09_ReadReply_r6 none [0, 2, 3, 4, 5]) (.block 0 (.loop (.seq (.seq (.region c_r09_ReadReply_r7 none [0, 2, 3, 4, 5, 23]) (.cond (.t 23) (.skip) (.exit 0))) (.seq (.block 1 (.region c_r09_ReadReply_r9 (some ([0, 1, 0, 4, 12, 31, 63, 127], [(1, 3), (1, 4)])) [0, 2, 3, 4, 5])) (.region c_r09_ReadReply_r8 none [0, 2, 3, 4, 5])))))) (.seq (.seq (.region c_r09_ReadReply_r10 none [2, 3, 35]) (.cond (.t 35) (.seq (.region c_r09_ReadReply_r11 none [2]) (.ret)) (.skip))) (.seq (.region c_r09_ReadReply_r12 none [2]) (.ret)))))))))
@[simp] def R_r09_ReadReply : List CRes := [.cell 2 true 4]
theorem k_r09_ReadReply : chkFn Tryd.prog fn_r09_ReadReply c_r09_ReadReply R_r09_ReadReply 1 = true := by kernel_rfl
/-! wapentake/wapentakeref10.Rises -/
@[simp] def a_r10_Rises_r0 : List COper := [
  ⟨(some 1), .box, [.t 0], none⟩,
  ⟨(some 2), .mov, [.c (.bool false)], none⟩]
def c_r10_Rises_r0 : List COper := a_r10_Rises_r0
instance : Reg c_r10_Rises_r0 a_r10_Rises_r0 2 := ⟨rfl, rfl⟩
@[simp] def a_r10_Rises_r1 : List COper := [
  ⟨(some 5), .faddr 0 1 false, [.t 1], none⟩,
  ⟨(some 6), .load false 1, [.t 5], none⟩,
  ⟨(some 7), .len, [.t 6], none⟩,
  ⟨(some 8), .mov, [.c (.int .i64 0)], none⟩]
def c_r10_Rises_r1 : List COper := a_r10_Rises_r1
instance : Reg c_r10_Rises_r1 a_r10_Rises_r1 4 := ⟨rfl, rfl⟩
@[simp] def a_r10_Rises_r2 : List COper := [
  ⟨(some 9), .bin .lss, [.t 8, .t 7], none⟩]
def c_r10_Rises_r2 : List COper := a_r10_Rises_r2
instance : Reg c_r10_Rises_r2 a_r10_Rises_r2 1 := ⟨rfl, rfl⟩
@[simp] def a_r10_Rises_r3 : List COper := [
  ⟨(some 10), .mov, [.t 8], none⟩,
  ⟨(some 3), .mov, [.t 10], none⟩]
def c_r10_Rises_r3 : List COper := a_r10_Rises_r3
instance : Reg c_r10_Rises_r3 a_r10_Rises_r3 2 := ⟨rfl, rfl⟩
@[simp] def a_r10_Rises_r4 : List COper := [
  ⟨(some 11), .mov, [.t 3], none⟩,
  ⟨(some 12), .bin .gtr, [.t 11, .c (.int .i64 0)], none⟩,
  ⟨(some 13), .mov, [.t 12], none⟩,
  ⟨(some 14), .faddr 0 1 false, [.t 1], (some (13, true))⟩,
  ⟨(some 15), .load false 1, [.t 14], (some (13, true))⟩,
  ⟨(some 16), .mov, [.t 3], (some (13, true))⟩,
  ⟨(some 17), .bin .sub, [.t 16, .c (.int .i64 1)], (some (13, true))⟩,
  ⟨(some 18), .iaddr 2, [.t 15, .t 17], (some (13, true))⟩,
  ⟨(some 19), .faddr 0 1 false, [.t 18], (some (13, true))⟩,
  ⟨(some 20), .load false 1, [.t 19], (some (13, true))⟩,
  ⟨(some 21), .faddr 0 1 false, [.t 1], (some (13, true))⟩,
  ⟨(some 22), .load false 1, [.t 21], (some (13, true))⟩,
  ⟨(some 23), .mov, [.t 3], (some (13, true))⟩,
  ⟨(some 24), .iaddr 2, [.t 22, .t 23], (some (13, true))⟩,
  ⟨(some 25), .faddr 0 1 false, [.t 24], (some (13, true))⟩,
  ⟨(some 26), .load false 1, [.t 25], (some (13, true))⟩,
  ⟨(some 27), .bin .geq, [.t 20, .t 26], (some (13, true))⟩,
  ⟨(some 28), .pick, [.t 13, .t 27, .c (.bool false)], none⟩]
def c_r10_Rises_r4 : List COper := a_r10_Rises_r4
instance : Reg c_r10_Rises_r4 a_r10_Rises_r4 18 := ⟨rfl, rfl⟩
@[simp] def a_r10_Rises_r5 : List COper := [
  ⟨(some 2), .mov, [.c (.bool false)], none⟩]
def c_r10_Rises_r5 : List COper := a_r10_Rises_r5
instance : Reg c_r10_Rises_r5 a_r10_Rises_r5 1 := ⟨rfl, rfl⟩
@[simp] def a_r10_Rises_r6 : List COper := [
  ⟨(some 29), .bin .add, [.t 8, .c (.int .i64 1)], none⟩,
  ⟨(some 8), .mov, [.t 29], none⟩]
def c_r10_Rises_r6 : List COper := a_r10_Rises_r6
instance : Reg c_r10_Rises_r6 a_r10_Rises_r6 2 := ⟨rfl, rfl⟩
@[simp] def a_r10_Rises_r7 : List COper := [
  ⟨(some 30), .faddr 1 1 false, [.t 1], none⟩,
  ⟨(some 31), .load false 1, [.t 30], none⟩,
  ⟨(some 32), .len, [.t 31], none⟩,
  ⟨(some 33), .mov, [.c (.int .i64 0)], none⟩]
def c_r10_Rises_r7 : List COper := a_r10_Rises_r7
instance : Reg c_r10_Rises_r7 a_r10_Rises_r7 4 := ⟨rfl, rfl⟩
@[simp] def a_r10_Rises_r8 : List COper := [
  ⟨(some 34), .bin .lss, [.t 33, .t 32], none⟩]
def c_r10_Rises_r8 : List COper := a_r10_Rises_r8
instance : Reg c_r10_Rises_r8 a_r10_Rises_r8 1 := ⟨rfl, rfl⟩
@[simp] def a_r10_Rises_r9 : List COper := [
  ⟨(some 35), .mov, [.t 33], none⟩,
  ⟨(some 4), .mov, [.t 35], none⟩]
def c_r10_Rises_r9 : List COper := a_r10_Rises_r9
instance : Reg c_r10_Rises_r9 a_r10_Rises_r9 2 := ⟨rfl, rfl⟩
@[simp] def a_r10_Rises_r10 : List COper := [
  ⟨(some 36), .mov, [.t 4], none⟩,
  ⟨(some 37), .bin .gtr, [.t 36, .c (.int .i64 0)], none⟩,
  ⟨(some 38), .mov, [.t 37], none⟩,
  ⟨(some 39), .faddr 1 1 false, [.t 1], (some (38, true))⟩,
  ⟨(some 40), .load false 1, [.t 39], (some (38, true))⟩,
  ⟨(some 41), .mov, [.t 4], (some (38, true))⟩,
  ⟨(some 42), .bin .sub, [.t 41, .c (.int .i64 1)], (some (38, true))⟩,
  ⟨(some 43), .iaddr 4, [.t 40, .t 42], (some (38, true))⟩,
  ⟨(some 44), .faddr 0 1 false, [.t 43], (some (38, true))⟩,
  ⟨(some 45), .load false 1, [.t 44], (some (38, true))⟩,
  ⟨(some 46), .faddr 1 1 false, [.t 1], (some (38, true))⟩,
  ⟨(some 47), .load false 1, [.t 46], (some (38, true))⟩,
  ⟨(some 48), .mov, [.t 4], (some (38, true))⟩,
  ⟨(some 49), .iaddr 4, [.t 47, .t 48], (some (38, true))⟩,
  ⟨(some 50), .faddr 0 1 false, [.t 49], (some (38, true))⟩,
  ⟨(some 51), .load false 1, [.t 50], (some (38, true))⟩,
  ⟨(some 52), .bin .geq, [.t 45, .t 51], (some (38, true))⟩,
  ⟨(some 53), .pick, [.t 38, .t 52, .c (.bool false)], none⟩]
def c_r10_Rises_r10 : List COper := a_r10_Rises_r10
instance : Reg c_r10_Rises_r10 a_r10_Rises_r10 18 := ⟨rfl, rfl⟩
@[simp] def a_r10_Rises_r11 : List COper := [
  ⟨(some 2), .mov, [.c (.bool false)], none⟩]
def c_r10_Rises_r11 : List COper := a_r10_Rises_r11
instance : Reg c_r10_Rises_r11 a_r10_Rises_r11 1 := ⟨rfl, rfl⟩
@[simp] def a_r10_Rises_r12 : List COper := [
  ⟨(some 54), .bin .add, [.t 33, .c (.int .i64 1)], none⟩,
  ⟨(some 33), .mov, [.t 54], none⟩]
def c_r10_Rises_r12 : List COper := a_r10_Rises_r12
instance : Reg c_r10_Rises_r12 a_r10_Rises_r12 2 := ⟨rfl, rfl⟩
@[simp] def a_r10_Rises_r13 : List COper := [
  ⟨(some 2), .mov, [.c (.bool true)], none⟩]
def c_r10_Rises_r13 : List COper := a_r10_Rises_r13
instance : Reg c_r10_Rises_r13 a_r10_Rises_r13 1 := ⟨rfl, rfl⟩
@[simp] def c_r10_Rises : CCode :=
  .seq (.region c_r10_Rises_r0 none [1]) (.seq (.seq (.region c_r10_Rises_r1 none [1, 7, 8]) (.block 0 (.loop (.seq (.region c_r10_Rises_r2 none [1, 7, 8, 9]) (.seq (.cond (.t 9) (.skip) (.exit 0)) (.seq (.block 1 (.seq (.region c_r10_Rises_r3 none [1, 3, 7, 8]) (.seq (.region c_r10_Rises_r4 (some ([0, 1, 3, 7, 15, 7, 39, 127, 255, 511, 7, 1031, 7, 7175, 15367, 31751, 65535, 131071], [])) [1, 7, 8, 28]) (.cond (.t 28) (.seq (.region c_r10_Rises_r5 none [2]) (.ret)) (.skip))))) (.region c_r10_Rises_r6 none [1, 7, 8]))))))) (.seq (.seq (.region c_r10_Rises_r7 none [1, 32, 33]) (.block 2 (.loop (.seq (.region c_r10_Rises_r8 none [1, 32, 33, 34]) (.seq (.cond (.t 34) (.skip) (.exit 2)) (.seq (.block 3 (.seq (.region c_r10_Rises_r9 none [1, 4, 32, 33]) (.seq (.region c_r10_Rises_r10 (some ([0, 1, 3, 7, 15, 7, 39, 127, 255, 511, 7, 1031, 7, 7175, 15367, 31751, 65535, 131071], [])) [1, 32, 33, 53]) (.cond (.t 53) (.seq (.region c_r10_Rises_r11 none [2]) (.ret)) (.skip))))) (.region c_r10_Rises_r12 none [1, 32, 33]))))))) (.seq (.region c_r10_Rises_r13 none [2]) (.ret))))
@[simp] def R_r10_Rises : List CRes := [.tmp 2]
theorem k_r10_Rises : chkFn Tryd.prog fn_r10_Rises c_r10_Rises R_r10_Rises 1 = true := by kernel_rfl
/-! wapentake/wapentakeref08.Bytes -/
@[simp] def a_r08_Bytes_r0 : List COper := [
  ⟨(some 1), .box, [.t 0], none⟩,
  ⟨(some 2), .mov, [.c (.string (mkS []))], none⟩]
def c_r08_Bytes_r0 : List COper := a_r08_Bytes_r0
instance : Reg c_r08_Bytes_r0 a_r08_Bytes_r0 2 := ⟨rfl, rfl⟩
@[simp] def a_r08_Bytes_r1 : List COper := [
  ⟨(some 6), .faddr 0 1 false, [.t 1], none⟩,
  ⟨(some 7), .load false 1, [.t 6], none⟩,
  ⟨(some 8), .call fn_r01_Num, [.t 7], none⟩,
  ⟨(some 9), .faddr 1 1 false, [.t 1], none⟩,
  ⟨(some 10), .load false 1, [.t 9], none⟩,
  ⟨(some 11), .len, [.t 10], none⟩,
  ⟨(some 12), .call fn_r01_Num, [.t 11], none⟩,
  ⟨(some 13), .bin .add, [.t 8, .t 12], none⟩,
  ⟨(some 3), .mov, [.t 13], none⟩]
def c_r08_Bytes_r1 : List COper := a_r08_Bytes_r1
instance : Reg c_r08_Bytes_r1 a_r08_Bytes_r1 9 := ⟨rfl, rfl⟩
@[simp] def a_r08_Bytes_r2 : List COper := [
  ⟨(some 14), .faddr 1 1 false, [.t 1], none⟩,
  ⟨(some 15), .load false 1, [.t 14], none⟩,
  ⟨(some 16), .len, [.t 15], none⟩,
  ⟨(some 17), .mov, [.c (.int .i64 0)], none⟩]
def c_r08_Bytes_r2 : List COper := a_r08_Bytes_r2
instance : Reg c_r08_Bytes_r2 a_r08_Bytes_r2 4 := ⟨rfl, rfl⟩
@[simp] def a_r08_Bytes_r3 : List COper := [
  ⟨(some 18), .bin .lss, [.t 17, .t 16], none⟩]
def c_r08_Bytes_r3 : List COper := a_r08_Bytes_r3
instance : Reg c_r08_Bytes_r3 a_r08_Bytes_r3 1 := ⟨rfl, rfl⟩
@[simp] def a_r08_Bytes_r4 : List COper := [
  ⟨(some 19), .iaddr 34, [.t 15, .t 17], none⟩,
  ⟨(some 20), .load true 34, [.t 19], none⟩,
  ⟨(some 5), .alloc (.node [.v (.int .i64 0), .node [.arr 1 (rep 32 (.v (.int .u8 0))), .v (.int .i64 0)]]), [], none⟩,
  ⟨none, .store true 34, [.t 5, .t 20], none⟩]
def c_r08_Bytes_r4 : List COper := a_r08_Bytes_r4
instance : Reg c_r08_Bytes_r4 a_r08_Bytes_r4 4 := ⟨rfl, rfl⟩
@[simp] def a_r08_Bytes_r5 : List COper := [
  ⟨(some 21), .mov, [.t 3], none⟩,
  ⟨(some 22), .faddr 0 1 false, [.t 5], none⟩,
  ⟨(some 23), .load false 1, [.t 22], none⟩,
  ⟨(some 24), .call fn_r01_Num, [.t 23], none⟩,
  ⟨(some 25), .bin .add, [.t 21, .t 24], none⟩,
  ⟨(some 26), .faddr 1 33 true, [.t 5], none⟩,
  ⟨(some 27), .faddr 32 1 false, [.t 26], none⟩,
  ⟨(some 28), .load false 1, [.t 27], none⟩,
  ⟨(some 29), .call fn_r01_Num, [.t 28], none⟩,
  ⟨(some 30), .bin .add, [.t 25, .t 29], none⟩,
  ⟨(some 31), .faddr 1 33 true, [.t 5], none⟩,
  ⟨(some 32), .faddr 0 32 true, [.t 31], none⟩,
  ⟨(some 33), .load true 32, [.t 32], none⟩,
  ⟨(some 34), .call fn_r01_Digest, [.t 33], none⟩,
  ⟨(some 35), .bin .add, [.t 30, .t 34], none⟩,
  ⟨(some 3), .mov, [.t 35], none⟩]
def c_r08_Bytes_r5 : List COper := a_r08_Bytes_r5
instance : Reg c_r08_Bytes_r5 a_r08_Bytes_r5 16 := ⟨rfl, rfl⟩
@[simp] def a_r08_Bytes_r6 : List COper := [
  ⟨(some 36), .bin .add, [.t 17, .c (.int .i64 1)], none⟩,
  ⟨(some 17), .mov, [.t 36], none⟩]
def c_r08_Bytes_r6 : List COper := a_r08_Bytes_r6
instance : Reg c_r08_Bytes_r6 a_r08_Bytes_r6 2 := ⟨rfl, rfl⟩
@[simp] def a_r08_Bytes_r7 : List COper := [
  ⟨(some 37), .mov, [.t 3], none⟩,
  ⟨(some 2), .mov, [.t 37], none⟩]
def c_r08_Bytes_r7 : List COper := a_r08_Bytes_r7
instance : Reg c_r08_Bytes_r7 a_r08_Bytes_r7 2 := ⟨rfl, rfl⟩
@[simp] def c_r08_Bytes : CCode :=
  .seq (.region c_r08_Bytes_r0 none [1]) (.seq (.region c_r08_Bytes_r1 (some ([0, 1, 3, 0, 8, 24, 63, 127, 255], [(2, 4)])) [1, 3]) (.seq (.seq (.region c_r08_Bytes_r2 none [3, 15, 16, 17]) (.block 0 (.loop (.seq (.region c_r08_Bytes_r3 none [3, 15, 16, 17, 18]) (.seq (.cond (.t 18) (.skip) (.exit 0)) (.seq (.block 1 (.seq (.region c_r08_Bytes_r4 none [3, 5, 15, 16, 17]) (.region c_r08_Bytes_r5 (some ([0, 0, 2, 6, 15, 0, 32, 96, 238, 511, 0, 1024, 3072, 7662, 16383, 32767], [(3, 7), (3, 12), (8, 12)])) [3, 15, 16, 17]))) (.region c_r08_Bytes_r6 none [3, 15, 16, 17]))))))) (.seq (.region c_r08_Bytes_r7 none [2]) (.ret))))
@[simp] def R_r08_Bytes : List CRes := [.tmp 2]
theorem k_r08_Bytes : chkFn Tryd.prog fn_r08_Bytes c_r08_Bytes R_r08_Bytes 1 = true := by kernel_rfl
/-! wapentake/wapentakeref09.ReplyBytes -/
@[simp] def a_r09_ReplyBytes_r0 : List COper := [
  ⟨(some 1), .box, [.t 0], none⟩,
  ⟨(some 2), .mov, [.c (.string (mkS []))], none⟩]
def c_r09_ReplyBytes_r0 : List COper := a_r09_ReplyBytes_r0
instance : Reg c_r09_ReplyBytes_r0 a_r09_ReplyBytes_r0 2 := ⟨rfl, rfl⟩
@[simp] def a_r09_ReplyBytes_r1 : List COper := [
  ⟨(some 6), .faddr 0 1 false, [.t 1], none⟩,
  ⟨(some 7), .load false 1, [.t 6], none⟩,
  ⟨(some 8), .faddr 1 1 false, [.t 1], none⟩,
  ⟨(some 9), .load false 1, [.t 8], none⟩,
  ⟨(some 10), .faddr 2 1 false, [.t 1], none⟩,
  ⟨(some 11), .load false 1, [.t 10], none⟩,
  ⟨(some 12), .faddr 3 1 false, [.t 1], none⟩,
  ⟨(some 13), .load false 1, [.t 12], none⟩,
  ⟨(some 14), .len, [.t 13], none⟩,
  ⟨(some 15), .bslice 1 4 (.v (.int .i64 0)) [0, 1, 2, 3], [.t 7, .t 9, .t 11, .t 14], none⟩,
  ⟨(some 16), .call fn_r09_nums, [.t 15], none⟩,
  ⟨(some 3), .mov, [.t 16], none⟩]
def c_r09_ReplyBytes_r1 : List COper := a_r09_ReplyBytes_r1
instance : Reg c_r09_ReplyBytes_r1 a_r09_ReplyBytes_r1 12 := ⟨rfl, rfl⟩
@[simp] def a_r09_ReplyBytes_r2 : List COper := [
  ⟨(some 17), .faddr 3 1 false, [.t 1], none⟩,
  ⟨(some 18), .load false 1, [.t 17], none⟩,
  ⟨(some 19), .len, [.t 18], none⟩,
  ⟨(some 20), .mov, [.c (.int .i64 0)], none⟩]
def c_r09_ReplyBytes_r2 : List COper := a_r09_ReplyBytes_r2
instance : Reg c_r09_ReplyBytes_r2 a_r09_ReplyBytes_r2 4 := ⟨rfl, rfl⟩
@[simp] def a_r09_ReplyBytes_r3 : List COper := [
  ⟨(some 21), .bin .lss, [.t 20, .t 19], none⟩]
def c_r09_ReplyBytes_r3 : List COper := a_r09_ReplyBytes_r3
instance : Reg c_r09_ReplyBytes_r3 a_r09_ReplyBytes_r3 1 := ⟨rfl, rfl⟩
@[simp] def a_r09_ReplyBytes_r4 : List COper := [
  ⟨(some 22), .iaddr 1, [.t 18, .t 20], none⟩,
  ⟨(some 23), .load false 1, [.t 22], none⟩,
  ⟨(some 5), .mov, [.t 23], none⟩]
def c_r09_ReplyBytes_r4 : List COper := a_r09_ReplyBytes_r4
instance : Reg c_r09_ReplyBytes_r4 a_r09_ReplyBytes_r4 3 := ⟨rfl, rfl⟩
@[simp] def a_r09_ReplyBytes_r5 : List COper := [
  ⟨(some 24), .mov, [.t 3], none⟩,
  ⟨(some 25), .mov, [.t 5], none⟩,
  ⟨(some 26), .call fn_r01_Text, [.t 25], none⟩,
  ⟨(some 27), .bin .add, [.t 24, .t 26], none⟩,
  ⟨(some 3), .mov, [.t 27], none⟩]
def c_r09_ReplyBytes_r5 : List COper := a_r09_ReplyBytes_r5
instance : Reg c_r09_ReplyBytes_r5 a_r09_ReplyBytes_r5 5 := ⟨rfl, rfl⟩
@[simp] def a_r09_ReplyBytes_r6 : List COper := [
  ⟨(some 28), .bin .add, [.t 20, .c (.int .i64 1)], none⟩,
  ⟨(some 20), .mov, [.t 28], none⟩]
def c_r09_ReplyBytes_r6 : List COper := a_r09_ReplyBytes_r6
instance : Reg c_r09_ReplyBytes_r6 a_r09_ReplyBytes_r6 2 := ⟨rfl, rfl⟩
@[simp] def a_r09_ReplyBytes_r7 : List COper := [
  ⟨(some 29), .mov, [.t 3], none⟩,
  ⟨(some 2), .mov, [.t 29], none⟩]
def c_r09_ReplyBytes_r7 : List COper := a_r09_ReplyBytes_r7
instance : Reg c_r09_ReplyBytes_r7 a_r09_ReplyBytes_r7 2 := ⟨rfl, rfl⟩
@[simp] def c_r09_ReplyBytes : CCode :=
  .seq (.region c_r09_ReplyBytes_r0 none [1]) (.seq (.region c_r09_ReplyBytes_r1 none [1, 3]) (.seq (.seq (.region c_r09_ReplyBytes_r2 none [3, 18, 19, 20]) (.block 0 (.loop (.seq (.region c_r09_ReplyBytes_r3 none [3, 18, 19, 20, 21]) (.seq (.cond (.t 21) (.skip) (.exit 0)) (.seq (.block 1 (.seq (.region c_r09_ReplyBytes_r4 none [3, 5, 18, 19, 20]) (.region c_r09_ReplyBytes_r5 none [3, 18, 19, 20]))) (.region c_r09_ReplyBytes_r6 none [3, 18, 19, 20]))))))) (.seq (.region c_r09_ReplyBytes_r7 none [2]) (.ret))))
@[simp] def R_r09_ReplyBytes : List CRes := [.tmp 2]
theorem k_r09_ReplyBytes : chkFn Tryd.prog fn_r09_ReplyBytes c_r09_ReplyBytes R_r09_ReplyBytes 1 = true := by kernel_rfl
/-! (*wapentake/disk.Disk).size -/
@[simp] def a_disk_Disk_size_r0 : List COper := [
  ⟨(some 2), .mov, [.c (.int .i64 0)], none⟩]
def c_disk_Disk_size_r0 : List COper := a_disk_Disk_size_r0
instance : Reg c_disk_Disk_size_r0 a_disk_Disk_size_r0 1 := ⟨rfl, rfl⟩
@[simp] def a_disk_Disk_size_r1 : List COper := [
  ⟨(some 3), .mov, [.c (.int .i64 0)], none⟩]
def c_disk_Disk_size_r1 : List COper := a_disk_Disk_size_r1
instance : Reg c_disk_Disk_size_r1 a_disk_Disk_size_r1 1 := ⟨rfl, rfl⟩
@[simp] def a_disk_Disk_size_r2 : List COper := [
  ⟨(some 6), .mov, [.t 0], none⟩,
  ⟨(some 7), .nilc, [.t 6], none⟩,
  ⟨(some 8), .faddr 0 1 false, [.t 7], none⟩,
  ⟨(some 9), .load false 1, [.t 8], none⟩,
  ⟨(some 10), .mrange, [.t 9], none⟩]
def c_disk_Disk_size_r2 : List COper := a_disk_Disk_size_r2
instance : Reg c_disk_Disk_size_r2 a_disk_Disk_size_r2 5 := ⟨rfl, rfl⟩
@[simp] def a_disk_Disk_size_r3 : List COper := [
  ⟨(some 12), .ext 0, [.t 11], none⟩]
def c_disk_Disk_size_r3 : List COper := a_disk_Disk_size_r3
instance : Reg c_disk_Disk_size_r3 a_disk_Disk_size_r3 1 := ⟨rfl, rfl⟩
@[simp] def a_disk_Disk_size_r4 : List COper := [
  ⟨(some 14), .ext 1, [.t 13], none⟩,
  ⟨(some 5), .mov, [.t 14], none⟩]
def c_disk_Disk_size_r4 : List COper := a_disk_Disk_size_r4
instance : Reg c_disk_Disk_size_r4 a_disk_Disk_size_r4 2 := ⟨rfl, rfl⟩
@[simp] def a_disk_Disk_size_r5 : List COper := [
  ⟨(some 15), .mov, [.t 3], none⟩,
  ⟨(some 16), .mov, [.t 5], none⟩,
  ⟨(some 17), .nilc, [.t 16], none⟩,
  ⟨(some 18), .faddr 0 1 false, [.t 17], none⟩,
  ⟨(some 19), .load false 1, [.t 18], none⟩,
  ⟨(some 20), .len, [.t 19], none⟩,
  ⟨(some 21), .mov, [.t 5], none⟩,
  ⟨(some 22), .nilc, [.t 21], none⟩,
  ⟨(some 23), .faddr 1 1 false, [.t 22], none⟩,
  ⟨(some 24), .load false 1, [.t 23], none⟩,
  ⟨(some 25), .len, [.t 24], none⟩,
  ⟨(some 26), .bin .add, [.t 20, .t 25], none⟩,
  ⟨(some 27), .bin .add, [.t 15, .t 26], none⟩,
  ⟨(some 3), .mov, [.t 27], none⟩]
def c_disk_Disk_size_r5 : List COper := a_disk_Disk_size_r5
instance : Reg c_disk_Disk_size_r5 a_disk_Disk_size_r5 14 := ⟨rfl, rfl⟩
@[simp] def a_disk_Disk_size_r6 : List COper := [
  ⟨(some 28), .mov, [.t 3], none⟩,
  ⟨(some 2), .mov, [.t 28], none⟩]
def c_disk_Disk_size_r6 : List COper := a_disk_Disk_size_r6
instance : Reg c_disk_Disk_size_r6 a_disk_Disk_size_r6 2 := ⟨rfl, rfl⟩
@[simp] def c_disk_Disk_size : CCode :=
  .seq (.region c_disk_Disk_size_r0 none [0]) (.seq (.region c_disk_Disk_size_r1 none [0, 3]) (.seq (.seq (.region c_disk_Disk_size_r2 none [3, 10]) (.block 0 (.loop (.seq (.head .next 11 (.t 10) c_disk_Disk_size_r3 [3, 10, 12]) (.seq (.cond (.t 12) (.skip) (.exit 0)) (.block 1 (.seq (.head .entry 13 (.t 10) c_disk_Disk_size_r4 [3, 5, 10]) (.region c_disk_Disk_size_r5 (some ([0, 0, 2, 6, 14, 30, 0, 64, 192, 448, 960, 2046, 4095, 8191], [])) [3, 10])))))))) (.seq (.region c_disk_Disk_size_r6 none [2]) (.ret))))
@[simp] def R_disk_Disk_size : List CRes := [.tmp 2]
theorem k_disk_Disk_size : chkFn Tryd.prog fn_disk_Disk_size c_disk_Disk_size R_disk_Disk_size 1 = true := by kernel_rfl
/-! (*wapentake/disk.Disk).act -/
@[simp] def a_disk_Disk_act_r0 : List COper := [
  ⟨(some 2), .mov, [.c (.int .i64 0)], none⟩]
def c_disk_Disk_act_r0 : List COper := a_disk_Disk_act_r0
instance : Reg c_disk_Disk_act_r0 a_disk_Disk_act_r0 1 := ⟨rfl, rfl⟩
@[simp] def a_disk_Disk_act_r1 : List COper := [
  ⟨(some 3), .mov, [.t 0], none⟩,
  ⟨(some 4), .eqp false, [.t 3, .c (.pointer none)], none⟩]
def c_disk_Disk_act_r1 : List COper := a_disk_Disk_act_r1
instance : Reg c_disk_Disk_act_r1 a_disk_Disk_act_r1 2 := ⟨rfl, rfl⟩
@[simp] def a_disk_Disk_act_r2 : List COper := [
  ⟨(some 2), .mov, [.c (.int .i64 2)], none⟩]
def c_disk_Disk_act_r2 : List COper := a_disk_Disk_act_r2
instance : Reg c_disk_Disk_act_r2 a_disk_Disk_act_r2 1 := ⟨rfl, rfl⟩
@[simp] def a_disk_Disk_act_r3 : List COper := [
  ⟨(some 5), .mov, [.t 0], none⟩,
  ⟨(some 6), .nilc, [.t 5], none⟩,
  ⟨(some 7), .faddr 1 1 false, [.t 6], none⟩,
  ⟨(some 8), .load false 1, [.t 7], none⟩]
def c_disk_Disk_act_r3 : List COper := a_disk_Disk_act_r3
instance : Reg c_disk_Disk_act_r3 a_disk_Disk_act_r3 4 := ⟨rfl, rfl⟩
@[simp] def a_disk_Disk_act_r4 : List COper := [
  ⟨(some 2), .mov, [.c (.int .i64 21)], none⟩]
def c_disk_Disk_act_r4 : List COper := a_disk_Disk_act_r4
instance : Reg c_disk_Disk_act_r4 a_disk_Disk_act_r4 1 := ⟨rfl, rfl⟩
@[simp] def a_disk_Disk_act_r5 : List COper := [
  ⟨(some 9), .mov, [.t 0], none⟩,
  ⟨(some 10), .nilc, [.t 9], none⟩,
  ⟨(some 11), .faddr 2 1 false, [.t 10], none⟩,
  ⟨(some 12), .load false 1, [.t 11], none⟩,
  ⟨(some 13), .bin .add, [.t 12, .c (.int .i64 1)], none⟩,
  ⟨(some 14), .nilc, [.t 9], none⟩,
  ⟨(some 15), .faddr 2 1 false, [.t 14], none⟩,
  ⟨none, .store false 1, [.t 15, .t 13], none⟩]
def c_disk_Disk_act_r5 : List COper := a_disk_Disk_act_r5
instance : Reg c_disk_Disk_act_r5 a_disk_Disk_act_r5 8 := ⟨rfl, rfl⟩
@[simp] def a_disk_Disk_act_r6 : List COper := [
  ⟨(some 16), .mov, [.t 0], none⟩,
  ⟨(some 17), .nilc, [.t 16], none⟩,
  ⟨(some 18), .faddr 3 1 false, [.t 17], none⟩,
  ⟨(some 19), .load false 1, [.t 18], none⟩,
  ⟨(some 20), .bin .gtr, [.t 19, .c (.int .i64 0)], none⟩]
def c_disk_Disk_act_r6 : List COper := a_disk_Disk_act_r6
instance : Reg c_disk_Disk_act_r6 a_disk_Disk_act_r6 5 := ⟨rfl, rfl⟩
@[simp] def a_disk_Disk_act_r7 : List COper := [
  ⟨(some 21), .mov, [.t 0], none⟩,
  ⟨(some 22), .nilc, [.t 21], none⟩,
  ⟨(some 23), .faddr 3 1 false, [.t 22], none⟩,
  ⟨(some 24), .load false 1, [.t 23], none⟩,
  ⟨(some 25), .bin .sub, [.t 24, .c (.int .i64 1)], none⟩,
  ⟨(some 26), .nilc, [.t 21], none⟩,
  ⟨(some 27), .faddr 3 1 false, [.t 26], none⟩,
  ⟨none, .store false 1, [.t 27, .t 25], none⟩]
def c_disk_Disk_act_r7 : List COper := a_disk_Disk_act_r7
instance : Reg c_disk_Disk_act_r7 a_disk_Disk_act_r7 8 := ⟨rfl, rfl⟩
@[simp] def a_disk_Disk_act_r8 : List COper := [
  ⟨(some 28), .mov, [.t 0], none⟩,
  ⟨(some 29), .nilc, [.t 28], none⟩,
  ⟨(some 30), .faddr 3 1 false, [.t 29], none⟩,
  ⟨(some 31), .load false 1, [.t 30], none⟩,
  ⟨(some 32), .bin .eql, [.t 31, .c (.int .i64 0)], none⟩]
def c_disk_Disk_act_r8 : List COper := a_disk_Disk_act_r8
instance : Reg c_disk_Disk_act_r8 a_disk_Disk_act_r8 5 := ⟨rfl, rfl⟩
@[simp] def a_disk_Disk_act_r9 : List COper := [
  ⟨(some 2), .mov, [.c (.int .i64 21)], none⟩]
def c_disk_Disk_act_r9 : List COper := a_disk_Disk_act_r9
instance : Reg c_disk_Disk_act_r9 a_disk_Disk_act_r9 1 := ⟨rfl, rfl⟩
@[simp] def a_disk_Disk_act_r10 : List COper := [
  ⟨(some 2), .mov, [.c (.int .i64 0)], none⟩]
def c_disk_Disk_act_r10 : List COper := a_disk_Disk_act_r10
instance : Reg c_disk_Disk_act_r10 a_disk_Disk_act_r10 1 := ⟨rfl, rfl⟩
@[simp] def c_disk_Disk_act : CCode :=
  .seq (.region c_disk_Disk_act_r0 none [0]) (.seq (.seq (.region c_disk_Disk_act_r1 none [0, 4]) (.cond (.t 4) (.seq (.region c_disk_Disk_act_r2 none [2]) (.ret)) (.skip))) (.seq (.seq (.region c_disk_Disk_act_r3 none [0, 8]) (.cond (.t 8) (.seq (.region c_disk_Disk_act_r4 none [2]) (.ret)) (.skip))) (.seq (.region c_disk_Disk_act_r5 none [0]) (.seq (.seq (.region c_disk_Disk_act_r6 none [0, 20]) (.cond (.t 20) (.seq (.region c_disk_Disk_act_r7 none [0]) (.seq (.region c_disk_Disk_act_r8 none [32]) (.cond (.t 32) (.seq (.region c_disk_Disk_act_r9 none [2]) (.ret)) (.skip)))) (.skip))) (.seq (.region c_disk_Disk_act_r10 none [2]) (.ret))))))
@[simp] def R_disk_Disk_act : List CRes := [.tmp 2]
theorem k_disk_Disk_act : chkFn Tryd.prog fn_disk_Disk_act c_disk_Disk_act R_disk_Disk_act 1 = true := by kernel_rfl
/-! (*wapentake/code.Writer).Digest -/
@[simp] def a_code_Writer_Digest_r0 : List COper := [
  ⟨(some 6), .mov, [.t 0], none⟩,
  ⟨(some 7), .eqp false, [.t 6, .c (.pointer none)], none⟩]
def c_code_Writer_Digest_r0 : List COper := a_code_Writer_Digest_r0
instance : Reg c_code_Writer_Digest_r0 a_code_Writer_Digest_r0 2 := ⟨rfl, rfl⟩
@[simp] def a_code_Writer_Digest_r1 : List COper := [
  ⟨(some 8), .mov, [.t 1], none⟩,
  ⟨(some 9), .len, [.t 8], none⟩,
  ⟨(some 10), .mov, [.c (.int .i64 0)], none⟩]
def c_code_Writer_Digest_r1 : List COper := a_code_Writer_Digest_r1
instance : Reg c_code_Writer_Digest_r1 a_code_Writer_Digest_r1 3 := ⟨rfl, rfl⟩
@[simp] def a_code_Writer_Digest_r2 : List COper := [
  ⟨(some 11), .bin .lss, [.t 10, .t 9], none⟩]
def c_code_Writer_Digest_r2 : List COper := a_code_Writer_Digest_r2
instance : Reg c_code_Writer_Digest_r2 a_code_Writer_Digest_r2 1 := ⟨rfl, rfl⟩
@[simp] def a_code_Writer_Digest_r3 : List COper := [
  ⟨(some 12), .iaddr 32, [.t 8, .t 10], none⟩,
  ⟨(some 13), .load true 32, [.t 12], none⟩,
  ⟨(some 5), .alloc (.arr 1 (rep 32 (.v (.int .u8 0)))), [], none⟩,
  ⟨none, .store true 32, [.t 5, .t 13], none⟩]
def c_code_Writer_Digest_r3 : List COper := a_code_Writer_Digest_r3
instance : Reg c_code_Writer_Digest_r3 a_code_Writer_Digest_r3 4 := ⟨rfl, rfl⟩
@[simp] def a_code_Writer_Digest_r4 : List COper := [
  ⟨(some 14), .mov, [.t 0], none⟩,
  ⟨(some 15), .mov, [.t 0], none⟩,
  ⟨(some 16), .nilc, [.t 15], none⟩,
  ⟨(some 17), .faddr 0 1 false, [.t 16], none⟩,
  ⟨(some 18), .load false 1, [.t 17], none⟩,
  ⟨(some 19), .sliceArr 32 1 false false, [.t 5], none⟩,
  ⟨(some 20), .app 1 1, [.t 18, .t 19], none⟩,
  ⟨(some 21), .nilc, [.t 14], none⟩,
  ⟨(some 22), .faddr 0 1 false, [.t 21], none⟩,
  ⟨none, .store false 1, [.t 22, .t 20], none⟩]
def c_code_Writer_Digest_r4 : List COper := a_code_Writer_Digest_r4
instance : Reg c_code_Writer_Digest_r4 a_code_Writer_Digest_r4 10 := ⟨rfl, rfl⟩
@[simp] def a_code_Writer_Digest_r5 : List COper := [
  ⟨(some 23), .bin .add, [.t 10, .c (.int .i64 1)], none⟩,
  ⟨(some 10), .mov, [.t 23], none⟩]
def c_code_Writer_Digest_r5 : List COper := a_code_Writer_Digest_r5
instance : Reg c_code_Writer_Digest_r5 a_code_Writer_Digest_r5 2 := ⟨rfl, rfl⟩
@[simp] def c_code_Writer_Digest : CCode :=
  .seq (.seq (.region c_code_Writer_Digest_r0 none [0, 1, 7]) (.cond (.t 7) (.ret) (.skip))) (.seq (.region c_code_Writer_Digest_r1 none [0, 8, 9, 10]) (.block 0 (.loop (.seq (.region c_code_Writer_Digest_r2 none [0, 8, 9, 10, 11]) (.seq (.cond (.t 11) (.skip) (.exit 0)) (.seq (.block 1 (.seq (.region c_code_Writer_Digest_r3 none [0, 5, 8, 9, 10]) (.region c_code_Writer_Digest_r4 (some ([0, 0, 2, 6, 14, 0, 62, 127, 255, 511], [])) [0, 8, 9, 10]))) (.region c_code_Writer_Digest_r5 none [0, 8, 9, 10])))))))
@[simp] def R_code_Writer_Digest : List CRes := []
theorem k_code_Writer_Digest : chkFn Tryd.prog fn_code_Writer_Digest c_code_Writer_Digest R_code_Writer_Digest 2 = true := by kernel_rfl
/-! wapentake/sha.Of -/
@[simp] def a_sha_Of_r0 : List COper := [
  ⟨(some 2), .alloc (.arr 1 (rep 32 (.v (.int .u8 0)))), [], none⟩]
def c_sha_Of_r0 : List COper := a_sha_Of_r0
instance : Reg c_sha_Of_r0 a_sha_Of_r0 1 := ⟨rfl, rfl⟩
@[simp] def a_sha_Of_r1 : List COper := [
  ⟨(some 13), .buildA 1 (rep 8 (.v (.int .u32 0))) (upTo 8), [.c (.int .u32 1779033703), .c (.int .u32 3144134277), .c (.int .u32 1013904242), .c (.int .u32 2773480762), .c (.int .u32 1359893119), .c (.int .u32 2600822924), .c (.int .u32 528734635), .c (.int .u32 1541459225)], none⟩,
  ⟨(some 3), .alloc (.arr 1 (rep 8 (.v (.int .u32 0)))), [], none⟩,
  ⟨none, .store true 8, [.t 3, .t 13], none⟩]
def c_sha_Of_r1 : List COper := a_sha_Of_r1
instance : Reg c_sha_Of_r1 a_sha_Of_r1 3 := ⟨rfl, rfl⟩
@[simp] def a_sha_Of_r2 : List COper := [
  ⟨(some 4), .alloc (.arr 1 (rep 64 (.v (.int .u8 0)))), [], none⟩]
def c_sha_Of_r2 : List COper := a_sha_Of_r2
instance : Reg c_sha_Of_r2 a_sha_Of_r2 1 := ⟨rfl, rfl⟩
@[simp] def a_sha_Of_r3 : List COper := [
  ⟨(some 5), .mov, [.c (.int .i64 0)], none⟩,
  ⟨(some 6), .mov, [.c (.int .i64 0)], none⟩]
def c_sha_Of_r3 : List COper := a_sha_Of_r3
instance : Reg c_sha_Of_r3 a_sha_Of_r3 2 := ⟨rfl, rfl⟩
@[simp] def a_sha_Of_r4 : List COper := [
  ⟨(some 14), .mov, [.t 0], none⟩,
  ⟨(some 15), .len, [.t 14], none⟩,
  ⟨(some 16), .mov, [.c (.int .i64 0)], none⟩]
def c_sha_Of_r4 : List COper := a_sha_Of_r4
instance : Reg c_sha_Of_r4 a_sha_Of_r4 3 := ⟨rfl, rfl⟩
@[simp] def a_sha_Of_r5 : List COper := [
  ⟨(some 17), .bin .lss, [.t 16, .t 15], none⟩]
def c_sha_Of_r5 : List COper := a_sha_Of_r5
instance : Reg c_sha_Of_r5 a_sha_Of_r5 1 := ⟨rfl, rfl⟩
@[simp] def a_sha_Of_r6 : List COper := [
  ⟨(some 18), .iaddr 1, [.t 14, .t 16], none⟩,
  ⟨(some 19), .load false 1, [.t 18], none⟩,
  ⟨(some 8), .mov, [.t 19], none⟩]
def c_sha_Of_r6 : List COper := a_sha_Of_r6
instance : Reg c_sha_Of_r6 a_sha_Of_r6 3 := ⟨rfl, rfl⟩
@[simp] def a_sha_Of_r7 : List COper := [
  ⟨(some 20), .mov, [.t 5], none⟩,
  ⟨(some 21), .mov, [.t 8], none⟩,
  ⟨(some 22), .len, [.t 21], none⟩,
  ⟨(some 23), .bin .add, [.t 20, .t 22], none⟩,
  ⟨(some 5), .mov, [.t 23], none⟩]
def c_sha_Of_r7 : List COper := a_sha_Of_r7
instance : Reg c_sha_Of_r7 a_sha_Of_r7 5 := ⟨rfl, rfl⟩
@[simp] def a_sha_Of_r8 : List COper := [
  ⟨(some 24), .mov, [.t 8], none⟩,
  ⟨(some 25), .len, [.t 24], none⟩,
  ⟨(some 26), .bin .gtr, [.t 25, .c (.int .i64 0)], none⟩]
def c_sha_Of_r8 : List COper := a_sha_Of_r8
instance : Reg c_sha_Of_r8 a_sha_Of_r8 3 := ⟨rfl, rfl⟩
@[simp] def a_sha_Of_r9 : List COper := [
  ⟨(some 27), .mov, [.t 6], none⟩,
  ⟨(some 28), .sliceArr 64 1 true false, [.t 4, .t 27], none⟩,
  ⟨(some 29), .mov, [.t 8], none⟩,
  ⟨(some 30), .copy 1, [.t 28, .t 29], none⟩,
  ⟨(some 9), .mov, [.t 30], none⟩]
def c_sha_Of_r9 : List COper := a_sha_Of_r9
instance : Reg c_sha_Of_r9 a_sha_Of_r9 5 := ⟨rfl, rfl⟩
@[simp] def a_sha_Of_r10 : List COper := [
  ⟨(some 31), .mov, [.t 6], none⟩,
  ⟨(some 32), .mov, [.t 9], none⟩,
  ⟨(some 33), .bin .add, [.t 31, .t 32], none⟩,
  ⟨(some 34), .mov, [.t 8], none⟩,
  ⟨(some 35), .mov, [.t 9], none⟩,
  ⟨(some 36), .slice 1 true false, [.t 34, .t 35], none⟩,
  ⟨(some 6), .mov, [.t 33], none⟩,
  ⟨(some 8), .mov, [.t 36], none⟩]
def c_sha_Of_r10 : List COper := a_sha_Of_r10
instance : Reg c_sha_Of_r10 a_sha_Of_r10 8 := ⟨rfl, rfl⟩
@[simp] def a_sha_Of_r11 : List COper := [
  ⟨(some 37), .mov, [.t 6], none⟩,
  ⟨(some 38), .bin .eql, [.t 37, .c (.int .i64 64)], none⟩]
def c_sha_Of_r11 : List COper := a_sha_Of_r11
instance : Reg c_sha_Of_r11 a_sha_Of_r11 2 := ⟨rfl, rfl⟩
@[simp] def a_sha_Of_r12 : List COper := [
  ⟨(some 39), .sliceArr 64 1 false false, [.t 4], none⟩,
  ⟨(some 40), .call fn_sha_state_block, [.t 3, .t 39], none⟩]
def c_sha_Of_r12 : List COper := a_sha_Of_r12
instance : Reg c_sha_Of_r12 a_sha_Of_r12 2 := ⟨rfl, rfl⟩
@[simp] def a_sha_Of_r13 : List COper := [
  ⟨(some 6), .mov, [.c (.int .i64 0)], none⟩]
def c_sha_Of_r13 : List COper := a_sha_Of_r13
instance : Reg c_sha_Of_r13 a_sha_Of_r13 1 := ⟨rfl, rfl⟩
@[simp] def a_sha_Of_r14 : List COper := [
  ⟨(some 41), .bin .add, [.t 16, .c (.int .i64 1)], none⟩,
  ⟨(some 16), .mov, [.t 41], none⟩]
def c_sha_Of_r14 : List COper := a_sha_Of_r14
instance : Reg c_sha_Of_r14 a_sha_Of_r14 2 := ⟨rfl, rfl⟩
@[simp] def a_sha_Of_r15 : List COper := [
  ⟨(some 42), .mov, [.t 6], none⟩,
  ⟨(some 43), .iaddrArr 64 1 false, [.t 4, .t 42], none⟩,
  ⟨none, .store false 1, [.t 43, .c (.int .u8 128)], none⟩]
def c_sha_Of_r15 : List COper := a_sha_Of_r15
instance : Reg c_sha_Of_r15 a_sha_Of_r15 3 := ⟨rfl, rfl⟩
@[simp] def a_sha_Of_r16 : List COper := [
  ⟨(some 44), .mov, [.t 6], none⟩,
  ⟨(some 45), .bin .add, [.t 44, .c (.int .i64 1)], none⟩,
  ⟨(some 46), .sliceArr 64 1 true false, [.t 4, .t 45], none⟩,
  ⟨none, .clear 1 (.v (.int .u8 0)), [.t 46], none⟩]
def c_sha_Of_r16 : List COper := a_sha_Of_r16
instance : Reg c_sha_Of_r16 a_sha_Of_r16 4 := ⟨rfl, rfl⟩
@[simp] def a_sha_Of_r17 : List COper := [
  ⟨(some 47), .mov, [.t 6], none⟩,
  ⟨(some 48), .bin .geq, [.t 47, .c (.int .i64 56)], none⟩]
def c_sha_Of_r17 : List COper := a_sha_Of_r17
instance : Reg c_sha_Of_r17 a_sha_Of_r17 2 := ⟨rfl, rfl⟩
@[simp] def a_sha_Of_r18 : List COper := [
  ⟨(some 49), .sliceArr 64 1 false false, [.t 4], none⟩,
  ⟨(some 50), .call fn_sha_state_block, [.t 3, .t 49], none⟩]
def c_sha_Of_r18 : List COper := a_sha_Of_r18
instance : Reg c_sha_Of_r18 a_sha_Of_r18 2 := ⟨rfl, rfl⟩
@[simp] def a_sha_Of_r19 : List COper := [
  ⟨(some 51), .sliceArr 64 1 false false, [.t 4], none⟩,
  ⟨none, .clear 1 (.v (.int .u8 0)), [.t 51], none⟩]
def c_sha_Of_r19 : List COper := a_sha_Of_r19
instance : Reg c_sha_Of_r19 a_sha_Of_r19 2 := ⟨rfl, rfl⟩
@[simp] def a_sha_Of_r20 : List COper := [
  ⟨(some 52), .mov, [.c (.int .i64 0)], none⟩]
def c_sha_Of_r20 : List COper := a_sha_Of_r20
instance : Reg c_sha_Of_r20 a_sha_Of_r20 1 := ⟨rfl, rfl⟩
@[simp] def a_sha_Of_r21 : List COper := [
  ⟨(some 53), .bin .lss, [.t 52, .c (.int .i64 8)], none⟩]
def c_sha_Of_r21 : List COper := a_sha_Of_r21
instance : Reg c_sha_Of_r21 a_sha_Of_r21 1 := ⟨rfl, rfl⟩
@[simp] def a_sha_Of_r22 : List COper := [
  ⟨(some 54), .mov, [.t 52], none⟩,
  ⟨(some 10), .mov, [.t 54], none⟩]
def c_sha_Of_r22 : List COper := a_sha_Of_r22
instance : Reg c_sha_Of_r22 a_sha_Of_r22 2 := ⟨rfl, rfl⟩
@[simp] def a_sha_Of_r23 : List COper := [
  ⟨(some 55), .mov, [.t 10], none⟩,
  ⟨(some 56), .bin .add, [.c (.int .i64 56), .t 55], none⟩,
  ⟨(some 57), .mov, [.t 5], none⟩,
  ⟨(some 58), .convI .u64, [.t 57], none⟩,
  ⟨(some 59), .bin .shl, [.t 58, .c (.int .u64 3)], none⟩,
  ⟨(some 60), .mov, [.t 10], none⟩,
  ⟨(some 61), .bin .mul, [.c (.int .i64 8), .t 60], none⟩,
  ⟨(some 62), .bin .sub, [.c (.int .i64 56), .t 61], none⟩,
  ⟨(some 63), .bin .shr, [.t 59, .t 62], none⟩,
  ⟨(some 64), .convI .u8, [.t 63], none⟩,
  ⟨(some 65), .iaddrArr 64 1 false, [.t 4, .t 56], none⟩,
  ⟨none, .store false 1, [.t 65, .t 64], none⟩]
def c_sha_Of_r23 : List COper := a_sha_Of_r23
instance : Reg c_sha_Of_r23 a_sha_Of_r23 12 := ⟨rfl, rfl⟩
@[simp] def a_sha_Of_r24 : List COper := [
  ⟨(some 66), .bin .add, [.t 52, .c (.int .i64 1)], none⟩,
  ⟨(some 52), .mov, [.t 66], none⟩]
def c_sha_Of_r24 : List COper := a_sha_Of_r24
instance : Reg c_sha_Of_r24 a_sha_Of_r24 2 := ⟨rfl, rfl⟩
@[simp] def a_sha_Of_r25 : List COper := [
  ⟨(some 67), .sliceArr 64 1 false false, [.t 4], none⟩,
  ⟨(some 68), .call fn_sha_state_block, [.t 3, .t 67], none⟩]
def c_sha_Of_r25 : List COper := a_sha_Of_r25
instance : Reg c_sha_Of_r25 a_sha_Of_r25 2 := ⟨rfl, rfl⟩
@[simp] def a_sha_Of_r26 : List COper := [
  ⟨(some 11), .alloc (.arr 1 (rep 32 (.v (.int .u8 0)))), [], none⟩]
def c_sha_Of_r26 : List COper := a_sha_Of_r26
instance : Reg c_sha_Of_r26 a_sha_Of_r26 1 := ⟨rfl, rfl⟩
@[simp] def a_sha_Of_r27 : List COper := [
  ⟨(some 69), .mov, [.c (.int .i64 0)], none⟩]
def c_sha_Of_r27 : List COper := a_sha_Of_r27
instance : Reg c_sha_Of_r27 a_sha_Of_r27 1 := ⟨rfl, rfl⟩
@[simp] def a_sha_Of_r28 : List COper := [
  ⟨(some 70), .bin .lss, [.t 69, .c (.int .i64 32)], none⟩]
def c_sha_Of_r28 : List COper := a_sha_Of_r28
instance : Reg c_sha_Of_r28 a_sha_Of_r28 1 := ⟨rfl, rfl⟩
@[simp] def a_sha_Of_r29 : List COper := [
  ⟨(some 71), .mov, [.t 69], none⟩,
  ⟨(some 12), .mov, [.t 71], none⟩]
def c_sha_Of_r29 : List COper := a_sha_Of_r29
instance : Reg c_sha_Of_r29 a_sha_Of_r29 2 := ⟨rfl, rfl⟩
@[simp] def a_sha_Of_r30 : List COper := [
  ⟨(some 72), .mov, [.t 12], none⟩,
  ⟨(some 73), .mov, [.t 12], none⟩,
  ⟨(some 74), .bin .quo, [.t 73, .c (.int .i64 4)], none⟩,
  ⟨(some 75), .iaddrArr 8 1 false, [.t 3, .t 74], none⟩,
  ⟨(some 76), .load false 1, [.t 75], none⟩,
  ⟨(some 77), .mov, [.t 12], none⟩,
  ⟨(some 78), .bin .rem, [.t 77, .c (.int .i64 4)], none⟩,
  ⟨(some 79), .bin .mul, [.c (.int .i64 8), .t 78], none⟩,
  ⟨(some 80), .bin .sub, [.c (.int .i64 24), .t 79], none⟩,
  ⟨(some 81), .bin .shr, [.t 76, .t 80], none⟩,
  ⟨(some 82), .convI .u8, [.t 81], none⟩,
  ⟨(some 83), .iaddrArr 32 1 false, [.t 11, .t 72], none⟩,
  ⟨none, .store false 1, [.t 83, .t 82], none⟩]
def c_sha_Of_r30 : List COper := a_sha_Of_r30
instance : Reg c_sha_Of_r30 a_sha_Of_r30 13 := ⟨rfl, rfl⟩
@[simp] def a_sha_Of_r31 : List COper := [
  ⟨(some 84), .bin .add, [.t 69, .c (.int .i64 1)], none⟩,
  ⟨(some 69), .mov, [.t 84], none⟩]
def c_sha_Of_r31 : List COper := a_sha_Of_r31
instance : Reg c_sha_Of_r31 a_sha_Of_r31 2 := ⟨rfl, rfl⟩
@[simp] def a_sha_Of_r32 : List COper := [
  ⟨(some 85), .load true 32, [.t 11], none⟩,
  ⟨none, .store true 32, [.t 2, .t 85], none⟩]
def c_sha_Of_r32 : List COper := a_sha_Of_r32
instance : Reg c_sha_Of_r32 a_sha_Of_r32 2 := ⟨rfl, rfl⟩
@[simp] def c_sha_Of : CCode :=
  .seq (.region c_sha_Of_r0 none [0, 2]) (.seq (.region c_sha_Of_r1 none [0, 2, 3]) (.seq (.region c_sha_Of_r2 none [0, 2, 3, 4]) (.seq (.region c_sha_Of_r3 none [0, 2, 3, 4, 5, 6]) (.seq (.seq (.region c_sha_Of_r4 none [2, 3, 4, 5, 6, 14, 15, 16]) (.block 0 (.loop (.seq (.region c_sha_Of_r5 none [2, 3, 4, 5, 6, 14, 15, 16, 17]) (.seq (.cond (.t 17) (.skip) (.exit 0)) (.seq (.block 1 (.seq (.region c_sha_Of_r6 none [2, 3, 4, 5, 6, 8, 14, 15, 16]) (.seq (.region c_sha_Of_r7 none [2, 3, 4, 5, 6, 8, 14, 15, 16]) (.block 2 (.loop (.seq (.seq (.region c_sha_Of_r8 none [2, 3, 4, 5, 6, 8, 14, 15, 16, 26]) (.cond (.t 26) (.skip) (.exit 2))) (.block 3 (.seq (.region c_sha_Of_r9 none [2, 3, 4, 5, 6, 8, 9, 14, 15, 16]) (.seq (.region c_sha_Of_r10 (some ([0, 0, 3, 0, 0, 24, 7, 127], [])) [2, 3, 4, 5, 6, 8, 14, 15, 16]) (.seq (.region c_sha_Of_r11 none [2, 3, 4, 5, 6, 8, 14, 15, 16, 38]) (.cond (.t 38) (.seq (.region c_sha_Of_r12 none [2, 3, 4, 5, 8, 14, 15, 16]) (.region c_sha_Of_r13 none [2, 3, 4, 5, 6, 8, 14, 15, 16])) (.skip)))))))))))) (.region c_sha_Of_r14 none [2, 3, 4, 5, 6, 14, 15, 16]))))))) (.seq (.region c_sha_Of_r15 none [2, 3, 4, 5, 6]) (.seq (.region c_sha_Of_r16 none [2, 3, 4, 5, 6]) (.seq (.seq (.region c_sha_Of_r17 none [2, 3, 4, 5, 48]) (.cond (.t 48) (.seq (.region c_sha_Of_r18 none [2, 3, 4, 5]) (.region c_sha_Of_r19 none [2, 3, 4, 5])) (.skip))) (.seq (.seq (.region c_sha_Of_r20 none [2, 3, 4, 5, 52]) (.block 4 (.loop (.seq (.region c_sha_Of_r21 none [2, 3, 4, 5, 52, 53]) (.seq (.cond (.t 53) (.skip) (.exit 4)) (.seq (.block 5 (.seq (.region c_sha_Of_r22 none [2, 3, 4, 5, 10, 52]) (.region c_sha_Of_r23 none [2, 3, 4, 5, 52]))) (.region c_sha_Of_r24 none [2, 3, 4, 5, 52]))))))) (.seq (.region c_sha_Of_r25 none [2, 3]) (.seq (.region c_sha_Of_r26 none [2, 3, 11]) (.seq (.seq (.region c_sha_Of_r27 none [2, 3, 11, 69]) (.block 6 (.loop (.seq (.region c_sha_Of_r28 none [2, 3, 11, 69, 70]) (.seq (.cond (.t 70) (.skip) (.exit 6)) (.seq (.block 7 (.seq (.region c_sha_Of_r29 none [2, 3, 11, 12, 69]) (.region c_sha_Of_r30 none [2, 3, 11, 69]))) (.region c_sha_Of_r31 none [2, 3, 11, 69]))))))) (.seq (.region c_sha_Of_r32 none [2]) (.ret)))))))))))))
@[simp] def R_sha_Of : List CRes := [.cell 2 true 32]
theorem k_sha_Of : chkFn Tryd.prog fn_sha_Of c_sha_Of R_sha_Of 1 = true := by kernel_rfl
/-! wapentake/code.Read -/
@[simp] def a_code_Read_r0 : List COper := [
  ⟨(some 2), .mov, [.c (.pointer none)], none⟩]
def c_code_Read_r0 : List COper := a_code_Read_r0
instance : Reg c_code_Read_r0 a_code_Read_r0 1 := ⟨rfl, rfl⟩
@[simp] def a_code_Read_r1 : List COper := [
  ⟨(some 3), .bslice 1 0 (.v (.int .u8 0)) [], [], none⟩,
  ⟨(some 4), .mov, [.t 0], none⟩,
  ⟨(some 5), .app 1 1, [.t 3, .t 4], none⟩,
  ⟨(some 6), .build [.v (.slice none 0 0), .v (.bool false)] [0], [.t 5], none⟩,
  ⟨(some 7), .box, [.t 6], none⟩,
  ⟨(some 2), .mov, [.t 7], none⟩]
def c_code_Read_r1 : List COper := a_code_Read_r1
instance : Reg c_code_Read_r1 a_code_Read_r1 6 := ⟨rfl, rfl⟩
@[simp] def c_code_Read : CCode :=
  .seq (.region c_code_Read_r0 none [0]) (.seq (.region c_code_Read_r1 none [2]) (.ret))
@[simp] def R_code_Read : List CRes := [.tmp 2]
theorem k_code_Read : chkFn Tryd.prog fn_code_Read c_code_Read R_code_Read 1 = true := by kernel_rfl
/-! (*wapentake/code.Reader).Digest -/
@[simp] def a_code_Reader_Digest_r0 : List COper := [
  ⟨(some 2), .alloc (.arr 1 (rep 32 (.v (.int .u8 0)))), [], none⟩]
def c_code_Reader_Digest_r0 : List COper := a_code_Reader_Digest_r0
instance : Reg c_code_Reader_Digest_r0 a_code_Reader_Digest_r0 1 := ⟨rfl, rfl⟩
@[simp] def a_code_Reader_Digest_r1 : List COper := [
  ⟨(some 3), .alloc (.arr 1 (rep 32 (.v (.int .u8 0)))), [], none⟩]
def c_code_Reader_Digest_r1 : List COper := a_code_Reader_Digest_r1
instance : Reg c_code_Reader_Digest_r1 a_code_Reader_Digest_r1 1 := ⟨rfl, rfl⟩
@[simp] def a_code_Reader_Digest_r2 : List COper := [
  ⟨(some 4), .sliceArr 32 1 false false, [.t 3], none⟩,
  ⟨(some 5), .mov, [.t 0], none⟩,
  ⟨(some 6), .call fn_code_Reader_take, [.t 5, .c (.int .i64 32)], none⟩,
  ⟨(some 7), .copy 1, [.t 4, .t 6], none⟩]
def c_code_Reader_Digest_r2 : List COper := a_code_Reader_Digest_r2
instance : Reg c_code_Reader_Digest_r2 a_code_Reader_Digest_r2 4 := ⟨rfl, rfl⟩
@[simp] def a_code_Reader_Digest_r3 : List COper := [
  ⟨(some 8), .load true 32, [.t 3], none⟩,
  ⟨none, .store true 32, [.t 2, .t 8], none⟩]
def c_code_Reader_Digest_r3 : List COper := a_code_Reader_Digest_r3
instance : Reg c_code_Reader_Digest_r3 a_code_Reader_Digest_r3 2 := ⟨rfl, rfl⟩
@[simp] def c_code_Reader_Digest : CCode :=
  .seq (.region c_code_Reader_Digest_r0 none [0, 2]) (.seq (.region c_code_Reader_Digest_r1 none [0, 2, 3]) (.seq (.region c_code_Reader_Digest_r2 (some ([0, 0, 2, 7], [])) [2, 3]) (.seq (.region c_code_Reader_Digest_r3 none [2]) (.ret))))
@[simp] def R_code_Reader_Digest : List CRes := [.cell 2 true 32]
theorem k_code_Reader_Digest : chkFn Tryd.prog fn_code_Reader_Digest c_code_Reader_Digest R_code_Reader_Digest 1 = true := by kernel_rfl
/-! (*wapentake/code.Reader).In -/
@[simp] def a_code_Reader_In_r0 : List COper := [
  ⟨(some 6), .mov, [.c (.int .i64 0)], none⟩]
def c_code_Reader_In_r0 : List COper := a_code_Reader_In_r0
instance : Reg c_code_Reader_In_r0 a_code_Reader_In_r0 1 := ⟨rfl, rfl⟩
@[simp] def a_code_Reader_In_r1 : List COper := [
  ⟨(some 8), .mov, [.t 0], none⟩,
  ⟨(some 9), .call fn_code_Reader_Num, [.t 8], none⟩,
  ⟨(some 7), .mov, [.t 9], none⟩]
def c_code_Reader_In_r1 : List COper := a_code_Reader_In_r1
instance : Reg c_code_Reader_In_r1 a_code_Reader_In_r1 3 := ⟨rfl, rfl⟩
@[simp] def a_code_Reader_In_r2 : List COper := [
  ⟨(some 10), .mov, [.t 0], none⟩,
  ⟨(some 11), .eqp false, [.t 10, .c (.pointer none)], none⟩,
  ⟨(some 12), .mov, [.t 11], none⟩,
  ⟨(some 13), .mov, [.t 7], (some (12, false))⟩,
  ⟨(some 14), .mov, [.t 1], (some (12, false))⟩,
  ⟨(some 15), .bin .geq, [.t 13, .t 14], (some (12, false))⟩,
  ⟨(some 16), .mov, [.t 15], (some (12, false))⟩,
  ⟨(some 17), .mov, [.t 7], (some (16, true))⟩,
  ⟨(some 18), .mov, [.t 2], (some (16, true))⟩,
  ⟨(some 19), .bin .leq, [.t 17, .t 18], (some (16, true))⟩,
  ⟨(some 20), .pick, [.t 16, .t 19, .c (.bool false)], (some (12, false))⟩,
  ⟨(some 21), .mov, [.t 20], (some (12, false))⟩,
  ⟨(some 22), .mov, [.t 0], (some (21, true))⟩,
  ⟨(some 23), .nilc, [.t 22], (some (21, true))⟩,
  ⟨(some 24), .faddr 1 1 false, [.t 23], (some (21, true))⟩,
  ⟨(some 25), .load false 1, [.t 24], (some (21, true))⟩,
  ⟨(some 26), .not, [.t 25], (some (21, true))⟩,
  ⟨(some 27), .pick, [.t 21, .t 26, .c (.bool false)], (some (12, false))⟩,
  ⟨(some 28), .pick, [.t 12, .c (.bool true), .t 27], none⟩]
def c_code_Reader_In_r2 : List COper := a_code_Reader_In_r2
instance : Reg c_code_Reader_In_r2 a_code_Reader_In_r2 19 := ⟨rfl, rfl⟩
@[simp] def a_code_Reader_In_r3 : List COper := [
  ⟨(some 29), .mov, [.t 7], none⟩,
  ⟨(some 6), .mov, [.t 29], none⟩]
def c_code_Reader_In_r3 : List COper := a_code_Reader_In_r3
instance : Reg c_code_Reader_In_r3 a_code_Reader_In_r3 2 := ⟨rfl, rfl⟩
@[simp] def a_code_Reader_In_r4 : List COper := [
  ⟨(some 30), .mov, [.t 0], none⟩,
  ⟨(some 31), .mov, [.t 0], none⟩,
  ⟨(some 32), .nilc, [.t 30], none⟩,
  ⟨(some 33), .faddr 1 1 false, [.t 32], none⟩,
  ⟨none, .store false 1, [.t 33, .c (.bool true)], none⟩,
  ⟨(some 34), .nilc, [.t 31], none⟩,
  ⟨(some 35), .faddr 0 1 false, [.t 34], none⟩,
  ⟨none, .store false 1, [.t 35, .c (.slice none 0 0)], none⟩]
def c_code_Reader_In_r4 : List COper := a_code_Reader_In_r4
instance : Reg c_code_Reader_In_r4 a_code_Reader_In_r4 8 := ⟨rfl, rfl⟩
@[simp] def a_code_Reader_In_r5 : List COper := [
  ⟨(some 6), .mov, [.c (.int .i64 0)], none⟩]
def c_code_Reader_In_r5 : List COper := a_code_Reader_In_r5
instance : Reg c_code_Reader_In_r5 a_code_Reader_In_r5 1 := ⟨rfl, rfl⟩
@[simp] def c_code_Reader_In : CCode :=
  .seq (.region c_code_Reader_In_r0 none [0, 1, 2]) (.seq (.region c_code_Reader_In_r1 none [0, 1, 2, 7]) (.seq (.seq (.region c_code_Reader_In_r2 none [0, 7, 28]) (.cond (.t 28) (.seq (.region c_code_Reader_In_r3 none [6]) (.ret)) (.skip))) (.seq (.region c_code_Reader_In_r4 none []) (.seq (.region c_code_Reader_In_r5 none [6]) (.ret)))))
@[simp] def R_code_Reader_In : List CRes := [.tmp 6]
theorem k_code_Reader_In : chkFn Tryd.prog fn_code_Reader_In c_code_Reader_In R_code_Reader_In 3 = true := by kernel_rfl
/-! (*wapentake/code.Reader).Text -/
@[simp] def a_code_Reader_Text_r0 : List COper := [
  ⟨(some 4), .mov, [.c (.string (mkS []))], none⟩]
def c_code_Reader_Text_r0 : List COper := a_code_Reader_Text_r0
instance : Reg c_code_Reader_Text_r0 a_code_Reader_Text_r0 1 := ⟨rfl, rfl⟩
@[simp] def a_code_Reader_Text_r1 : List COper := [
  ⟨(some 5), .mov, [.c (.int .i64 0)], none⟩]
def c_code_Reader_Text_r1 : List COper := a_code_Reader_Text_r1
instance : Reg c_code_Reader_Text_r1 a_code_Reader_Text_r1 1 := ⟨rfl, rfl⟩
@[simp] def a_code_Reader_Text_r2 : List COper := [
  ⟨(some 8), .mov, [.t 0], none⟩,
  ⟨(some 9), .call fn_code_Reader_take, [.t 8, .c (.int .i64 4)], none⟩,
  ⟨(some 10), .len, [.t 9], none⟩,
  ⟨(some 11), .mov, [.c (.int .i64 0)], none⟩]
def c_code_Reader_Text_r2 : List COper := a_code_Reader_Text_r2
instance : Reg c_code_Reader_Text_r2 a_code_Reader_Text_r2 4 := ⟨rfl, rfl⟩
@[simp] def a_code_Reader_Text_r3 : List COper := [
  ⟨(some 12), .bin .lss, [.t 11, .t 10], none⟩]
def c_code_Reader_Text_r3 : List COper := a_code_Reader_Text_r3
instance : Reg c_code_Reader_Text_r3 a_code_Reader_Text_r3 1 := ⟨rfl, rfl⟩
@[simp] def a_code_Reader_Text_r4 : List COper := [
  ⟨(some 13), .iaddr 1, [.t 9, .t 11], none⟩,
  ⟨(some 14), .load false 1, [.t 13], none⟩,
  ⟨(some 7), .mov, [.t 14], none⟩]
def c_code_Reader_Text_r4 : List COper := a_code_Reader_Text_r4
instance : Reg c_code_Reader_Text_r4 a_code_Reader_Text_r4 3 := ⟨rfl, rfl⟩
@[simp] def a_code_Reader_Text_r5 : List COper := [
  ⟨(some 15), .mov, [.t 5], none⟩,
  ⟨(some 16), .bin .shl, [.t 15, .c (.int .u64 8)], none⟩,
  ⟨(some 17), .mov, [.t 7], none⟩,
  ⟨(some 18), .convI .i64, [.t 17], none⟩,
  ⟨(some 19), .bin .or, [.t 16, .t 18], none⟩,
  ⟨(some 5), .mov, [.t 19], none⟩]
def c_code_Reader_Text_r5 : List COper := a_code_Reader_Text_r5
instance : Reg c_code_Reader_Text_r5 a_code_Reader_Text_r5 6 := ⟨rfl, rfl⟩
@[simp] def a_code_Reader_Text_r6 : List COper := [
  ⟨(some 20), .bin .add, [.t 11, .c (.int .i64 1)], none⟩,
  ⟨(some 11), .mov, [.t 20], none⟩]
def c_code_Reader_Text_r6 : List COper := a_code_Reader_Text_r6
instance : Reg c_code_Reader_Text_r6 a_code_Reader_Text_r6 2 := ⟨rfl, rfl⟩
@[simp] def a_code_Reader_Text_r7 : List COper := [
  ⟨(some 21), .mov, [.t 5], none⟩,
  ⟨(some 22), .mov, [.t 1], none⟩,
  ⟨(some 23), .bin .gtr, [.t 21, .t 22], none⟩]
def c_code_Reader_Text_r7 : List COper := a_code_Reader_Text_r7
instance : Reg c_code_Reader_Text_r7 a_code_Reader_Text_r7 3 := ⟨rfl, rfl⟩
@[simp] def a_code_Reader_Text_r8 : List COper := [
  ⟨(some 5), .mov, [.c (.int .i64 (-1))], none⟩]
def c_code_Reader_Text_r8 : List COper := a_code_Reader_Text_r8
instance : Reg c_code_Reader_Text_r8 a_code_Reader_Text_r8 1 := ⟨rfl, rfl⟩
@[simp] def a_code_Reader_Text_r9 : List COper := [
  ⟨(some 24), .mov, [.t 0], none⟩,
  ⟨(some 25), .mov, [.t 5], none⟩,
  ⟨(some 26), .call fn_code_Reader_take, [.t 24, .t 25], none⟩,
  ⟨(some 27), .convS, [.t 26], none⟩,
  ⟨(some 4), .mov, [.t 27], none⟩]
def c_code_Reader_Text_r9 : List COper := a_code_Reader_Text_r9
instance : Reg c_code_Reader_Text_r9 a_code_Reader_Text_r9 5 := ⟨rfl, rfl⟩
@[simp] def c_code_Reader_Text : CCode :=
  .seq (.region c_code_Reader_Text_r0 none [0, 1]) (.seq (.region c_code_Reader_Text_r1 none [0, 1, 5]) (.seq (.seq (.region c_code_Reader_Text_r2 none [0, 1, 5, 9, 10, 11]) (.block 0 (.loop (.seq (.region c_code_Reader_Text_r3 none [0, 1, 5, 9, 10, 11, 12]) (.seq (.cond (.t 12) (.skip) (.exit 0)) (.seq (.block 1 (.seq (.region c_code_Reader_Text_r4 none [0, 1, 5, 7, 9, 10, 11]) (.region c_code_Reader_Text_r5 none [0, 1, 5, 9, 10, 11]))) (.region c_code_Reader_Text_r6 none [0, 1, 5, 9, 10, 11]))))))) (.seq (.seq (.region c_code_Reader_Text_r7 none [0, 5, 23]) (.cond (.t 23) (.region c_code_Reader_Text_r8 none [0, 5]) (.skip))) (.seq (.region c_code_Reader_Text_r9 none [4]) (.ret)))))
@[simp] def R_code_Reader_Text : List CRes := [.tmp 4]
theorem k_code_Reader_Text : chkFn Tryd.prog fn_code_Reader_Text c_code_Reader_Text R_code_Reader_Text 2 = true := by kernel_rfl
/-! (*wapentake/code.Reader).End -/
@[simp] def a_code_Reader_End_r0 : List COper := [
  ⟨(some 2), .mov, [.c (.bool false)], none⟩]
def c_code_Reader_End_r0 : List COper := a_code_Reader_End_r0
instance : Reg c_code_Reader_End_r0 a_code_Reader_End_r0 1 := ⟨rfl, rfl⟩
@[simp] def a_code_Reader_End_r1 : List COper := [
  ⟨(some 3), .mov, [.t 0], none⟩,
  ⟨(some 4), .call fn_code_Reader_Good, [.t 3], none⟩,
  ⟨(some 5), .mov, [.t 4], none⟩,
  ⟨(some 6), .mov, [.t 0], (some (5, true))⟩,
  ⟨(some 7), .nilc, [.t 6], (some (5, true))⟩,
  ⟨(some 8), .faddr 0 1 false, [.t 7], (some (5, true))⟩,
  ⟨(some 9), .load false 1, [.t 8], (some (5, true))⟩,
  ⟨(some 10), .len, [.t 9], (some (5, true))⟩,
  ⟨(some 11), .bin .eql, [.t 10, .c (.int .i64 0)], (some (5, true))⟩,
  ⟨(some 12), .pick, [.t 5, .t 11, .c (.bool false)], none⟩,
  ⟨(some 2), .mov, [.t 12], none⟩]
def c_code_Reader_End_r1 : List COper := a_code_Reader_End_r1
instance : Reg c_code_Reader_End_r1 a_code_Reader_End_r1 11 := ⟨rfl, rfl⟩
@[simp] def c_code_Reader_End : CCode :=
  .seq (.region c_code_Reader_End_r0 none [0]) (.seq (.region c_code_Reader_End_r1 none [2]) (.ret))
@[simp] def R_code_Reader_End : List CRes := [.tmp 2]
theorem k_code_Reader_End : chkFn Tryd.prog fn_code_Reader_End c_code_Reader_End R_code_Reader_End 1 = true := by kernel_rfl
/-! wapentake/config.Read -/
@[simp] def a_config_Read_r0 : List COper := [
  ⟨(some 2), .alloc (.node [.v (.int .i64 0), .v (.slice none 0 0)]), [], none⟩]
def c_config_Read_r0 : List COper := a_config_Read_r0
instance : Reg c_config_Read_r0 a_config_Read_r0 1 := ⟨rfl, rfl⟩
@[simp] def a_config_Read_r1 : List COper := [
  ⟨(some 6), .mov, [.t 0], none⟩,
  ⟨(some 7), .call fn_code_Reader_In, [.t 6, .c (.int .i64 0), .c (.int .i64 1073741824)], none⟩,
  ⟨(some 8), .build [.v (.int .i64 0), .v (.slice none 0 0)] [0], [.t 7], none⟩,
  ⟨(some 3), .alloc (.node [.v (.int .i64 0), .v (.slice none 0 0)]), [], none⟩,
  ⟨none, .store true 2, [.t 3, .t 8], none⟩]
def c_config_Read_r1 : List COper := a_config_Read_r1
instance : Reg c_config_Read_r1 a_config_Read_r1 5 := ⟨rfl, rfl⟩
@[simp] def a_config_Read_r2 : List COper := [
  ⟨(some 4), .mov, [.c (.int .i64 0)], none⟩]
def c_config_Read_r2 : List COper := a_config_Read_r2
instance : Reg c_config_Read_r2 a_config_Read_r2 1 := ⟨rfl, rfl⟩
@[simp] def a_config_Read_r3 : List COper := [
  ⟨(some 9), .mov, [.t 0], none⟩,
  ⟨(some 10), .call fn_code_Reader_In, [.t 9, .c (.int .i64 1), .c (.int .i64 10)], none⟩,
  ⟨(some 11), .mov, [.c (.int .i64 0)], none⟩]
def c_config_Read_r3 : List COper := a_config_Read_r3
instance : Reg c_config_Read_r3 a_config_Read_r3 3 := ⟨rfl, rfl⟩
@[simp] def a_config_Read_r4 : List COper := [
  ⟨(some 12), .bin .lss, [.t 11, .t 10], none⟩]
def c_config_Read_r4 : List COper := a_config_Read_r4
instance : Reg c_config_Read_r4 a_config_Read_r4 1 := ⟨rfl, rfl⟩
@[simp] def a_config_Read_r5 : List COper := [
  ⟨(some 13), .mov, [.t 0], none⟩,
  ⟨(some 14), .mov, [.t 4], none⟩,
  ⟨(some 15), .bin .add, [.t 14, .c (.int .i64 1)], none⟩,
  ⟨(some 16), .call fn_code_Reader_In, [.t 13, .t 15, .c (.int .i64 63)], none⟩,
  ⟨(some 4), .mov, [.t 16], none⟩]
def c_config_Read_r5 : List COper := a_config_Read_r5
instance : Reg c_config_Read_r5 a_config_Read_r5 5 := ⟨rfl, rfl⟩
@[simp] def a_config_Read_r6 : List COper := [
  ⟨(some 17), .mov, [.t 0], none⟩,
  ⟨(some 18), .call fn_code_Reader_In, [.t 17, .c (.int .i64 0), .c (.int .i64 6)], none⟩,
  ⟨(some 5), .mov, [.t 18], none⟩]
def c_config_Read_r6 : List COper := a_config_Read_r6
instance : Reg c_config_Read_r6 a_config_Read_r6 3 := ⟨rfl, rfl⟩
@[simp] def a_config_Read_r7 : List COper := [
  ⟨(some 19), .faddr 1 1 false, [.t 3], none⟩,
  ⟨(some 20), .load false 1, [.t 19], none⟩,
  ⟨(some 21), .mov, [.t 4], none⟩,
  ⟨(some 22), .mov, [.t 0], none⟩,
  ⟨(some 23), .call fn_code_Reader_Digest, [.t 22], none⟩,
  ⟨(some 24), .mov, [.t 5], none⟩,
  ⟨(some 25), .build [.arr 1 (rep 32 (.v (.int .u8 0))), .v (.int .i64 0)] [0, 1], [.t 23, .t 24], none⟩,
  ⟨(some 26), .build [.v (.int .i64 0), .node [.arr 1 (rep 32 (.v (.int .u8 0))), .v (.int .i64 0)]] [0, 1], [.t 21, .t 25], none⟩,
  ⟨(some 27), .bslice 34 1 (.node [.v (.int .i64 0), .node [.arr 1 (rep 32 (.v (.int .u8 0))), .v (.int .i64 0)]]) [0], [.t 26], none⟩,
  ⟨(some 28), .app 34 48, [.t 20, .t 27], none⟩,
  ⟨(some 29), .faddr 1 1 false, [.t 3], none⟩,
  ⟨none, .store false 1, [.t 29, .t 28], none⟩]
def c_config_Read_r7 : List COper := a_config_Read_r7
instance : Reg c_config_Read_r7 a_config_Read_r7 12 := ⟨rfl, rfl⟩
@[simp] def a_config_Read_r8 : List COper := [
  ⟨(some 30), .bin .add, [.t 11, .c (.int .i64 1)], none⟩,
  ⟨(some 11), .mov, [.t 30], none⟩]
def c_config_Read_r8 : List COper := a_config_Read_r8
instance : Reg c_config_Read_r8 a_config_Read_r8 2 := ⟨rfl, rfl⟩
@[simp] def a_config_Read_r9 : List COper := [
  ⟨(some 31), .mov, [.t 0], none⟩,
  ⟨(some 32), .call fn_code_Reader_Good, [.t 31], none⟩,
  ⟨(some 33), .not, [.t 32], none⟩]
def c_config_Read_r9 : List COper := a_config_Read_r9
instance : Reg c_config_Read_r9 a_config_Read_r9 3 := ⟨rfl, rfl⟩
@[simp] def a_config_Read_r10 : List COper := [
  ⟨(some 34), .build [.v (.int .i64 0), .v (.slice none 0 0)] [], [], none⟩,
  ⟨none, .store true 2, [.t 2, .t 34], none⟩]
def c_config_Read_r10 : List COper := a_config_Read_r10
instance : Reg c_config_Read_r10 a_config_Read_r10 2 := ⟨rfl, rfl⟩
@[simp] def a_config_Read_r11 : List COper := [
  ⟨(some 35), .load true 2, [.t 3], none⟩,
  ⟨none, .store true 2, [.t 2, .t 35], none⟩]
def c_config_Read_r11 : List COper := a_config_Read_r11
instance : Reg c_config_Read_r11 a_config_Read_r11 2 := ⟨rfl, rfl⟩
@[simp] def c_config_Read : CCode :=
  .seq (.region c_config_Read_r0 none [0, 2]) (.seq (.region c_config_Read_r1 none [0, 2, 3]) (.seq (.region c_config_Read_r2 none [0, 2, 3, 4]) (.seq (.seq (.region c_config_Read_r3 none [0, 2, 3, 4, 10, 11]) (.block 0 (.loop (.seq (.region c_config_Read_r4 none [0, 2, 3, 4, 10, 11, 12]) (.seq (.cond (.t 12) (.skip) (.exit 0)) (.seq (.block 1 (.seq (.region c_config_Read_r5 none [0, 2, 3, 4, 10, 11]) (.seq (.region c_config_Read_r6 none [0, 2, 3, 4, 5, 10, 11]) (.region c_config_Read_r7 (some ([0, 1, 0, 0, 8, 0, 56, 124, 252, 511, 1023, 2047], [(1, 4), (1, 8)])) [0, 2, 3, 4, 10, 11])))) (.region c_config_Read_r8 none [0, 2, 3, 4, 10, 11]))))))) (.seq (.seq (.region c_config_Read_r9 none [2, 3, 33]) (.cond (.t 33) (.seq (.region c_config_Read_r10 none [2]) (.ret)) (.skip))) (.seq (.region c_config_Read_r11 none [2]) (.ret))))))
@[simp] def R_config_Read : List CRes := [.cell 2 true 2]
theorem k_config_Read : chkFn Tryd.prog fn_config_Read c_config_Read R_config_Read 1 = true := by kernel_rfl
/-! wapentake/request.ReadReply -/
@[simp] def a_request_ReadReply_r0 : List COper := [
  ⟨(some 2), .alloc (.node [.v (.int .i64 0), .v (.int .i64 0), .v (.int .i64 0), .v (.slice none 0 0)]), [], none⟩]
def c_request_ReadReply_r0 : List COper := a_request_ReadReply_r0
instance : Reg c_request_ReadReply_r0 a_request_ReadReply_r0 1 := ⟨rfl, rfl⟩
@[simp] def a_request_ReadReply_r1 : List COper := [
  ⟨(some 4), .mov, [.t 0], none⟩,
  ⟨(some 5), .call fn_code_Reader_In, [.t 4, .c (.int .i64 1), .c (.int .i64 64)], none⟩,
  ⟨(some 6), .mov, [.t 0], none⟩,
  ⟨(some 7), .call fn_code_Reader_In, [.t 6, .c (.int .i64 1), .c (.int .i64 1099511627776)], none⟩,
  ⟨(some 8), .mov, [.t 0], none⟩,
  ⟨(some 9), .call fn_code_Reader_In, [.t 8, .c (.int .i64 0), .c (.int .i64 1024)], none⟩,
  ⟨(some 10), .build [.v (.int .i64 0), .v (.int .i64 0), .v (.int .i64 0), .v (.slice none 0 0)] [0, 1, 2], [.t 5, .t 7, .t 9], none⟩,
  ⟨(some 3), .alloc (.node [.v (.int .i64 0), .v (.int .i64 0), .v (.int .i64 0), .v (.slice none 0 0)]), [], none⟩,
  ⟨none, .store true 4, [.t 3, .t 10], none⟩]
def c_request_ReadReply_r1 : List COper := a_request_ReadReply_r1
instance : Reg c_request_ReadReply_r1 a_request_ReadReply_r1 9 := ⟨rfl, rfl⟩
@[simp] def a_request_ReadReply_r2 : List COper := [
  ⟨(some 11), .mov, [.t 0], none⟩,
  ⟨(some 12), .call fn_code_Reader_In, [.t 11, .c (.int .i64 0), .c (.int .i64 256)], none⟩,
  ⟨(some 13), .mov, [.c (.int .i64 0)], none⟩]
def c_request_ReadReply_r2 : List COper := a_request_ReadReply_r2
instance : Reg c_request_ReadReply_r2 a_request_ReadReply_r2 3 := ⟨rfl, rfl⟩
@[simp] def a_request_ReadReply_r3 : List COper := [
  ⟨(some 14), .bin .lss, [.t 13, .t 12], none⟩]
def c_request_ReadReply_r3 : List COper := a_request_ReadReply_r3
instance : Reg c_request_ReadReply_r3 a_request_ReadReply_r3 1 := ⟨rfl, rfl⟩
@[simp] def a_request_ReadReply_r4 : List COper := [
  ⟨(some 15), .faddr 3 1 false, [.t 3], none⟩,
  ⟨(some 16), .load false 1, [.t 15], none⟩,
  ⟨(some 17), .mov, [.t 0], none⟩,
  ⟨(some 18), .call fn_code_Reader_Text, [.t 17, .c (.int .i64 1024)], none⟩,
  ⟨(some 19), .bslice 1 1 (.v (.string (mkS []))) [0], [.t 18], none⟩,
  ⟨(some 20), .app 1 16, [.t 16, .t 19], none⟩,
  ⟨(some 21), .faddr 3 1 false, [.t 3], none⟩,
  ⟨none, .store false 1, [.t 21, .t 20], none⟩]
def c_request_ReadReply_r4 : List COper := a_request_ReadReply_r4
instance : Reg c_request_ReadReply_r4 a_request_ReadReply_r4 8 := ⟨rfl, rfl⟩
@[simp] def a_request_ReadReply_r5 : List COper := [
  ⟨(some 22), .bin .add, [.t 13, .c (.int .i64 1)], none⟩,
  ⟨(some 13), .mov, [.t 22], none⟩]
def c_request_ReadReply_r5 : List COper := a_request_ReadReply_r5
instance : Reg c_request_ReadReply_r5 a_request_ReadReply_r5 2 := ⟨rfl, rfl⟩
@[simp] def a_request_ReadReply_r6 : List COper := [
  ⟨(some 23), .mov, [.t 0], none⟩,
  ⟨(some 24), .call fn_code_Reader_Good, [.t 23], none⟩,
  ⟨(some 25), .not, [.t 24], none⟩]
def c_request_ReadReply_r6 : List COper := a_request_ReadReply_r6
instance : Reg c_request_ReadReply_r6 a_request_ReadReply_r6 3 := ⟨rfl, rfl⟩
@[simp] def a_request_ReadReply_r7 : List COper := [
  ⟨(some 26), .build [.v (.int .i64 0), .v (.int .i64 0), .v (.int .i64 0), .v (.slice none 0 0)] [], [], none⟩,
  ⟨none, .store true 4, [.t 2, .t 26], none⟩]
def c_request_ReadReply_r7 : List COper := a_request_ReadReply_r7
instance : Reg c_request_ReadReply_r7 a_request_ReadReply_r7 2 := ⟨rfl, rfl⟩
@[simp] def a_request_ReadReply_r8 : List COper := [
  ⟨(some 27), .load true 4, [.t 3], none⟩,
  ⟨none, .store true 4, [.t 2, .t 27], none⟩]
def c_request_ReadReply_r8 : List COper := a_request_ReadReply_r8
instance : Reg c_request_ReadReply_r8 a_request_ReadReply_r8 2 := ⟨rfl, rfl⟩
@[simp] def c_request_ReadReply : CCode :=
  .seq (.region c_request_ReadReply_r0 none [0, 2]) (.seq (.region c_request_ReadReply_r1 none [0, 2, 3]) (.seq (.seq (.region c_request_ReadReply_r2 none [0, 2, 3, 12, 13]) (.block 0 (.loop (.seq (.region c_request_ReadReply_r3 none [0, 2, 3, 12, 13, 14]) (.seq (.cond (.t 14) (.skip) (.exit 0)) (.seq (.block 1 (.region c_request_ReadReply_r4 (some ([0, 1, 0, 4, 12, 31, 63, 127], [(1, 3), (1, 4)])) [0, 2, 3, 12, 13])) (.region c_request_ReadReply_r5 none [0, 2, 3, 12, 13]))))))) (.seq (.seq (.region c_request_ReadReply_r6 none [2, 3, 25]) (.cond (.t 25) (.seq (.region c_request_ReadReply_r7 none [2]) (.ret)) (.skip))) (.seq (.region c_request_ReadReply_r8 none [2]) (.ret)))))
@[simp] def R_request_ReadReply : List CRes := [.cell 2 true 4]
theorem k_request_ReadReply : chkFn Tryd.prog fn_request_ReadReply c_request_ReadReply R_request_ReadReply 1 = true := by kernel_rfl
/-! wapentake/wapentakeref09.Texts -/
@[simp] def a_r09_Texts_r0 : List COper := [
  ⟨(some 4), .mov, [.c (.bool false)], none⟩]
def c_r09_Texts_r0 : List COper := a_r09_Texts_r0
instance : Reg c_r09_Texts_r0 a_r09_Texts_r0 1 := ⟨rfl, rfl⟩
@[simp] def a_r09_Texts_r1 : List COper := [
  ⟨(some 6), .mov, [.t 0], none⟩,
  ⟨(some 7), .len, [.t 6], none⟩,
  ⟨(some 8), .mov, [.t 1], none⟩,
  ⟨(some 9), .len, [.t 8], none⟩,
  ⟨(some 10), .bin .neq, [.t 7, .t 9], none⟩]
def c_r09_Texts_r1 : List COper := a_r09_Texts_r1
instance : Reg c_r09_Texts_r1 a_r09_Texts_r1 5 := ⟨rfl, rfl⟩
@[simp] def a_r09_Texts_r2 : List COper := [
  ⟨(some 4), .mov, [.c (.bool false)], none⟩]
def c_r09_Texts_r2 : List COper := a_r09_Texts_r2
instance : Reg c_r09_Texts_r2 a_r09_Texts_r2 1 := ⟨rfl, rfl⟩
@[simp] def a_r09_Texts_r3 : List COper := [
  ⟨(some 11), .mov, [.t 0], none⟩,
  ⟨(some 12), .len, [.t 11], none⟩,
  ⟨(some 13), .mov, [.c (.int .i64 0)], none⟩]
def c_r09_Texts_r3 : List COper := a_r09_Texts_r3
instance : Reg c_r09_Texts_r3 a_r09_Texts_r3 3 := ⟨rfl, rfl⟩
@[simp] def a_r09_Texts_r4 : List COper := [
  ⟨(some 14), .bin .lss, [.t 13, .t 12], none⟩]
def c_r09_Texts_r4 : List COper := a_r09_Texts_r4
instance : Reg c_r09_Texts_r4 a_r09_Texts_r4 1 := ⟨rfl, rfl⟩
@[simp] def a_r09_Texts_r5 : List COper := [
  ⟨(some 15), .mov, [.t 13], none⟩,
  ⟨(some 5), .mov, [.t 15], none⟩]
def c_r09_Texts_r5 : List COper := a_r09_Texts_r5
instance : Reg c_r09_Texts_r5 a_r09_Texts_r5 2 := ⟨rfl, rfl⟩
@[simp] def a_r09_Texts_r6 : List COper := [
  ⟨(some 16), .mov, [.t 0], none⟩,
  ⟨(some 17), .mov, [.t 5], none⟩,
  ⟨(some 18), .iaddr 1, [.t 16, .t 17], none⟩,
  ⟨(some 19), .load false 1, [.t 18], none⟩,
  ⟨(some 20), .mov, [.t 1], none⟩,
  ⟨(some 21), .mov, [.t 5], none⟩,
  ⟨(some 22), .iaddr 1, [.t 20, .t 21], none⟩,
  ⟨(some 23), .load false 1, [.t 22], none⟩,
  ⟨(some 24), .bin .neq, [.t 19, .t 23], none⟩]
def c_r09_Texts_r6 : List COper := a_r09_Texts_r6
instance : Reg c_r09_Texts_r6 a_r09_Texts_r6 9 := ⟨rfl, rfl⟩
@[simp] def a_r09_Texts_r7 : List COper := [
  ⟨(some 4), .mov, [.c (.bool false)], none⟩]
def c_r09_Texts_r7 : List COper := a_r09_Texts_r7
instance : Reg c_r09_Texts_r7 a_r09_Texts_r7 1 := ⟨rfl, rfl⟩
@[simp] def a_r09_Texts_r8 : List COper := [
  ⟨(some 25), .bin .add, [.t 13, .c (.int .i64 1)], none⟩,
  ⟨(some 13), .mov, [.t 25], none⟩]
def c_r09_Texts_r8 : List COper := a_r09_Texts_r8
instance : Reg c_r09_Texts_r8 a_r09_Texts_r8 2 := ⟨rfl, rfl⟩
@[simp] def a_r09_Texts_r9 : List COper := [
  ⟨(some 4), .mov, [.c (.bool true)], none⟩]
def c_r09_Texts_r9 : List COper := a_r09_Texts_r9
instance : Reg c_r09_Texts_r9 a_r09_Texts_r9 1 := ⟨rfl, rfl⟩
@[simp] def c_r09_Texts : CCode :=
  .seq (.region c_r09_Texts_r0 none [0, 1]) (.seq (.seq (.region c_r09_Texts_r1 none [0, 1, 10]) (.cond (.t 10) (.seq (.region c_r09_Texts_r2 none [4]) (.ret)) (.skip))) (.seq (.seq (.region c_r09_Texts_r3 none [0, 1, 12, 13]) (.block 0 (.loop (.seq (.region c_r09_Texts_r4 none [0, 1, 12, 13, 14]) (.seq (.cond (.t 14) (.skip) (.exit 0)) (.seq (.block 1 (.seq (.region c_r09_Texts_r5 none [0, 1, 5, 12, 13]) (.seq (.region c_r09_Texts_r6 (some ([0, 0, 3, 7, 0, 0, 48, 112, 255], [])) [0, 1, 12, 13, 24]) (.cond (.t 24) (.seq (.region c_r09_Texts_r7 none [4]) (.ret)) (.skip))))) (.region c_r09_Texts_r8 none [0, 1, 12, 13]))))))) (.seq (.region c_r09_Texts_r9 none [4]) (.ret))))
@[simp] def R_r09_Texts : List CRes := [.tmp 4]
theorem k_r09_Texts : chkFn Tryd.prog fn_r09_Texts c_r09_Texts R_r09_Texts 2 = true := by kernel_rfl
/-! wapentake/wapentakeref02.Padded -/
@[simp] def a_r02_Padded_r0 : List COper := [
  ⟨(some 2), .mov, [.c (.slice none 0 0)], none⟩]
def c_r02_Padded_r0 : List COper := a_r02_Padded_r0
instance : Reg c_r02_Padded_r0 a_r02_Padded_r0 1 := ⟨rfl, rfl⟩
@[simp] def a_r02_Padded_r1 : List COper := [
  ⟨(some 7), .bslice 1 0 (.v (.int .u8 0)) [], [], none⟩,
  ⟨(some 8), .mov, [.t 0], none⟩,
  ⟨(some 9), .app 1 1, [.t 7, .t 8], none⟩,
  ⟨(some 10), .bslice 1 1 (.v (.int .u8 0)) [0], [.c (.int .u8 128)], none⟩,
  ⟨(some 11), .app 1 1, [.t 9, .t 10], none⟩,
  ⟨(some 3), .mov, [.t 11], none⟩]
def c_r02_Padded_r1 : List COper := a_r02_Padded_r1
instance : Reg c_r02_Padded_r1 a_r02_Padded_r1 6 := ⟨rfl, rfl⟩
@[simp] def a_r02_Padded_r2 : List COper := [
  ⟨(some 12), .mov, [.t 3], none⟩,
  ⟨(some 13), .len, [.t 12], none⟩,
  ⟨(some 14), .bin .rem, [.t 13, .c (.int .i64 64)], none⟩,
  ⟨(some 15), .bin .neq, [.t 14, .c (.int .i64 56)], none⟩]
def c_r02_Padded_r2 : List COper := a_r02_Padded_r2
instance : Reg c_r02_Padded_r2 a_r02_Padded_r2 4 := ⟨rfl, rfl⟩
@[simp] def a_r02_Padded_r3 : List COper := [
  ⟨(some 16), .mov, [.t 3], none⟩,
  ⟨(some 17), .bslice 1 1 (.v (.int .u8 0)) [0], [.c (.int .u8 0)], none⟩,
  ⟨(some 18), .app 1 1, [.t 16, .t 17], none⟩,
  ⟨(some 3), .mov, [.t 18], none⟩]
def c_r02_Padded_r3 : List COper := a_r02_Padded_r3
instance : Reg c_r02_Padded_r3 a_r02_Padded_r3 4 := ⟨rfl, rfl⟩
@[simp] def a_r02_Padded_r4 : List COper := [
  ⟨(some 19), .mov, [.t 0], none⟩,
  ⟨(some 20), .len, [.t 19], none⟩,
  ⟨(some 4), .mov, [.t 20], none⟩]
def c_r02_Padded_r4 : List COper := a_r02_Padded_r4
instance : Reg c_r02_Padded_r4 a_r02_Padded_r4 3 := ⟨rfl, rfl⟩
@[simp] def a_r02_Padded_r5 : List COper := [
  ⟨(some 5), .mov, [.c (.slice none 0 0)], none⟩]
def c_r02_Padded_r5 : List COper := a_r02_Padded_r5
instance : Reg c_r02_Padded_r5 a_r02_Padded_r5 1 := ⟨rfl, rfl⟩
@[simp] def a_r02_Padded_r6 : List COper := [
  ⟨(some 6), .mov, [.c (.int .i64 0)], none⟩]
def c_r02_Padded_r6 : List COper := a_r02_Padded_r6
instance : Reg c_r02_Padded_r6 a_r02_Padded_r6 1 := ⟨rfl, rfl⟩
@[simp] def a_r02_Padded_r7 : List COper := [
  ⟨(some 21), .mov, [.t 6], none⟩,
  ⟨(some 22), .bin .lss, [.t 21, .c (.int .i64 8)], none⟩]
def c_r02_Padded_r7 : List COper := a_r02_Padded_r7
instance : Reg c_r02_Padded_r7 a_r02_Padded_r7 2 := ⟨rfl, rfl⟩
@[simp] def a_r02_Padded_r9 : List COper := [
  ⟨(some 25), .mov, [.t 6], none⟩,
  ⟨(some 26), .bin .eql, [.t 25, .c (.int .i64 0)], none⟩]
def c_r02_Padded_r9 : List COper := a_r02_Padded_r9
instance : Reg c_r02_Padded_r9 a_r02_Padded_r9 2 := ⟨rfl, rfl⟩
@[simp] def a_r02_Padded_r10 : List COper := [
  ⟨(some 27), .mov, [.t 4], none⟩,
  ⟨(some 28), .bin .rem, [.t 27, .c (.int .i64 32)], none⟩,
  ⟨(some 29), .bin .mul, [.t 28, .c (.int .i64 8)], none⟩,
  ⟨(some 30), .convI .u8, [.t 29], none⟩,
  ⟨(some 31), .bslice 1 1 (.v (.int .u8 0)) [0], [.t 30], none⟩,
  ⟨(some 32), .mov, [.t 5], none⟩,
  ⟨(some 33), .app 1 1, [.t 31, .t 32], none⟩,
  ⟨(some 5), .mov, [.t 33], none⟩]
def c_r02_Padded_r10 : List COper := a_r02_Padded_r10
instance : Reg c_r02_Padded_r10 a_r02_Padded_r10 8 := ⟨rfl, rfl⟩
@[simp] def a_r02_Padded_r11 : List COper := [
  ⟨(some 34), .mov, [.t 4], none⟩,
  ⟨(some 35), .bin .quo, [.t 34, .c (.int .i64 32)], none⟩,
  ⟨(some 4), .mov, [.t 35], none⟩]
def c_r02_Padded_r11 : List COper := a_r02_Padded_r11
instance : Reg c_r02_Padded_r11 a_r02_Padded_r11 3 := ⟨rfl, rfl⟩
@[simp] def a_r02_Padded_r12 : List COper := [
  ⟨(some 36), .mov, [.t 4], none⟩,
  ⟨(some 37), .bin .rem, [.t 36, .c (.int .i64 256)], none⟩,
  ⟨(some 38), .convI .u8, [.t 37], none⟩,
  ⟨(some 39), .bslice 1 1 (.v (.int .u8 0)) [0], [.t 38], none⟩,
  ⟨(some 40), .mov, [.t 5], none⟩,
  ⟨(some 41), .app 1 1, [.t 39, .t 40], none⟩,
  ⟨(some 5), .mov, [.t 41], none⟩]
def c_r02_Padded_r12 : List COper := a_r02_Padded_r12
instance : Reg c_r02_Padded_r12 a_r02_Padded_r12 7 := ⟨rfl, rfl⟩
@[simp] def a_r02_Padded_r13 : List COper := [
  ⟨(some 42), .mov, [.t 4], none⟩,
  ⟨(some 43), .bin .quo, [.t 42, .c (.int .i64 256)], none⟩,
  ⟨(some 4), .mov, [.t 43], none⟩]
def c_r02_Padded_r13 : List COper := a_r02_Padded_r13
instance : Reg c_r02_Padded_r13 a_r02_Padded_r13 3 := ⟨rfl, rfl⟩
@[simp] def a_r02_Padded_r8 : List COper := [
  ⟨(some 23), .mov, [.t 6], none⟩,
  ⟨(some 24), .bin .add, [.t 23, .c (.int .i64 1)], none⟩,
  ⟨(some 6), .mov, [.t 24], none⟩]
def c_r02_Padded_r8 : List COper := a_r02_Padded_r8
instance : Reg c_r02_Padded_r8 a_r02_Padded_r8 3 := ⟨rfl, rfl⟩
@[simp] def a_r02_Padded_r14 : List COper := [
  ⟨(some 44), .mov, [.t 3], none⟩,
  ⟨(some 45), .mov, [.t 5], none⟩,
  ⟨(some 46), .app 1 1, [.t 44, .t 45], none⟩,
  ⟨(some 2), .mov, [.t 46], none⟩]
def c_r02_Padded_r14 : List COper := a_r02_Padded_r14
instance : Reg c_r02_Padded_r14 a_r02_Padded_r14 4 := ⟨rfl, rfl⟩
@[simp] def c_r02_Padded : CCode :=
  .seq (.region c_r02_Padded_r0 none [0]) (.seq (.region c_r02_Padded_r1 none [0, 3]) (.seq (.block 0 (.loop (.seq (.seq (.region c_r02_Padded_r2 none [0, 3, 15]) (.cond (.t 15) (.skip) (.exit 0))) (.block 1 (.region c_r02_Padded_r3 none [0, 3]))))) (.seq (.region c_r02_Padded_r4 none [3, 4]) (.seq (.region c_r02_Padded_r5 none [3, 4, 5]) (.seq (.seq (.region c_r02_Padded_r6 none [3, 4, 5, 6]) (.block 2 (.loop (.seq (.seq (.region c_r02_Padded_r7 none [3, 4, 5, 6, 22]) (.cond (.t 22) (.skip) (.exit 2))) (.seq (.block 3 (.seq (.region c_r02_Padded_r9 none [3, 4, 5, 6, 26]) (.cond (.t 26) (.seq (.region c_r02_Padded_r10 none [3, 4, 5, 6]) (.region c_r02_Padded_r11 none [3, 4, 5, 6])) (.seq (.region c_r02_Padded_r12 none [3, 4, 5, 6]) (.region c_r02_Padded_r13 none [3, 4, 5, 6]))))) (.region c_r02_Padded_r8 none [3, 4, 5, 6])))))) (.seq (.region c_r02_Padded_r14 none [2]) (.ret)))))))
@[simp] def R_r02_Padded : List CRes := [.tmp 2]
theorem k_r02_Padded : chkFn Tryd.prog fn_r02_Padded c_r02_Padded R_r02_Padded 1 = true := by kernel_rfl
/-! wapentake/wapentakeref02.Numbers -/
@[simp] def a_r02_Numbers_r0 : List COper := [
  ⟨(some 0), .alloc (.arr 1 (rep 64 (.v (.int .u32 0)))), [], none⟩]
def c_r02_Numbers_r0 : List COper := a_r02_Numbers_r0
instance : Reg c_r02_Numbers_r0 a_r02_Numbers_r0 1 := ⟨rfl, rfl⟩
@[simp] def a_r02_Numbers_r1 : List COper := [
  ⟨(some 1), .buildA 1 (rep 64 (.v (.int .u32 0))) (upTo 64), [.c (.int .u32 1116352408), .c (.int .u32 1899447441), .c (.int .u32 3049323471), .c (.int .u32 3921009573), .c (.int .u32 961987163), .c (.int .u32 1508970993), .c (.int .u32 2453635748), .c (.int .u32 2870763221), .c (.int .u32 3624381080), .c (.int .u32 310598401), .c (.int .u32 607225278), .c (.int .u32 1426881987), .c (.int .u32 1925078388), .c (.int .u32 2162078206), .c (.int .u32 2614888103), .c (.int .u32 3248222580), .c (.int .u32 3835390401), .c (.int .u32 4022224774), .c (.int .u32 264347078), .c (.int .u32 604807628), .c (.int .u32 770255983), .c (.int .u32 1249150122), .c (.int .u32 1555081692), .c (.int .u32 1996064986), .c (.int .u32 2554220882), .c (.int .u32 2821834349), .c (.int .u32 2952996808), .c (.int .u32 3210313671), .c (.int .u32 3336571891), .c (.int .u32 3584528711), .c (.int .u32 113926993), .c (.int .u32 338241895), .c (.int .u32 666307205), .c (.int .u32 773529912), .c (.int .u32 1294757372), .c (.int .u32 1396182291), .c (.int .u32 1695183700), .c (.int .u32 1986661051), .c (.int .u32 2177026350), .c (.int .u32 2456956037), .c (.int .u32 2730485921), .c (.int .u32 2820302411), .c (.int .u32 3259730800), .c (.int .u32 3345764771), .c (.int .u32 3516065817), .c (.int .u32 3600352804), .c (.int .u32 4094571909), .c (.int .u32 275423344), .c (.int .u32 430227734), .c (.int .u32 506948616), .c (.int .u32 659060556), .c (.int .u32 883997877), .c (.int .u32 958139571), .c (.int .u32 1322822218), .c (.int .u32 1537002063), .c (.int .u32 1747873779), .c (.int .u32 1955562222), .c (.int .u32 2024104815), .c (.int .u32 2227730452), .c (.int .u32 2361852424), .c (.int .u32 2428436474), .c (.int .u32 2756734187), .c (.int .u32 3204031479), .c (.int .u32 3329325298)], none⟩,
  ⟨none, .store true 64, [.t 0, .t 1], none⟩]
def c_r02_Numbers_r1 : List COper := a_r02_Numbers_r1
instance : Reg c_r02_Numbers_r1 a_r02_Numbers_r1 2 := ⟨rfl, rfl⟩
@[simp] def c_r02_Numbers : CCode :=
  .seq (.region c_r02_Numbers_r0 none [0]) (.seq (.region c_r02_Numbers_r1 none [0]) (.ret))
@[simp] def R_r02_Numbers : List CRes := [.cell 0 true 64]
theorem k_r02_Numbers : chkFn Tryd.prog fn_r02_Numbers c_r02_Numbers R_r02_Numbers 0 = true := by kernel_rfl

end Go.Proofs.YtbmdaaehogpeeaaDoor.WL
