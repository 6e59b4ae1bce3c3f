/- The program's functions as abstract texts, each held against the program by the kernel. -/
import Derived.Test.YtjlmpdbagmdbiaaDoorWm5
import Derived.Test.YtjlmpdbagmdbiaaDoorChecked
namespace Go.Proofs.YtjlmpdbagmdbiaaDoor.WL
open Go
theorem mix : Tryd.prog.follows .mixedOrders = true := by kernel_rfl
def fn_l15_ChainChecks : Nat := 3
def fn_l15_ChainParts : Nat := 4
def fn_l15_ChainGrows : Nat := 5
def fn_l14_CertChecks : Nat := 6
def fn_l14_CertMakes : Nat := 7
def fn_l14_CertFew : Nat := 8
def fn_l14_CertAgrees : Nat := 9
def fn_l14_CertWrites : Nat := 10
def fn_l15_ChainWrites : Nat := 11
def fn_l15_alive : Nat := 12
def fn_l15_great : Nat := 13
def fn_chain_Step : Nat := 14
def fn_r15_Step : Nat := 15
def fn_chain_Check : Nat := 16
def fn_r15_Check : Nat := 17
def fn_r08_Same : Nat := 18
def fn_l14_alive : Nat := 19
def fn_l14_great : Nat := 20
def fn_cert_Check : Nat := 21
def fn_r14_Check : Nat := 22
def fn_r08_Quorum : Nat := 23
def fn_cert_Make : Nat := 24
def fn_r14_Same : Nat := 25
def fn_config_Weak : Nat := 26
def fn_cert_Write : Nat := 27
def fn_r14_Bytes : Nat := 28
def fn_code_Writer_Bytes : Nat := 29
def fn_code_Read : Nat := 30
def fn_cert_Read : Nat := 31
def fn_r14_Read : Nat := 32
def fn_code_Reader_Good : Nat := 33
def fn_r01_Reader_Good : Nat := 34
def fn_code_Reader_End : Nat := 35
def fn_r01_Reader_End : Nat := 36
def fn_chain_Write : Nat := 37
def fn_r15_Bytes : Nat := 38
def fn_r15_Same : Nat := 39
def fn_chain_Read : Nat := 40
def fn_r15_Read : Nat := 41
def fn_r12_Great : Nat := 42
def fn_config_Good : Nat := 43
def fn_config_Digest : Nat := 44
def fn_r08_Good : Nat := 45
def fn_r08_Digest : Nat := 46
def fn_keys_New : Nat := 47
def fn_keys_Tree_Key : Nat := 48
def fn_block_Digest : Nat := 49
def fn_keys_Tree_Sign : Nat := 50
def fn_vote_Signs : Nat := 51
def fn_block_Good : Nat := 52
def fn_config_Quorum : Nat := 53
def fn_vote_Right : Nat := 54
def fn_r12_Good : Nat := 55
def fn_r12_Digest : Nat := 56
def fn_r13_Right : Nat := 57
def fn_r08_Faults : Nat := 58
def fn_r13_Same : Nat := 59
def fn_config_Faults : Nat := 60
def fn_code_Writer_Num : Nat := 61
def fn_vote_Write : Nat := 62
def fn_r01_Num : Nat := 63
def fn_r13_Bytes : Nat := 64
def fn_code_Reader_In : Nat := 65
def fn_vote_Read : Nat := 66
def fn_r01_Reader_In : Nat := 67
def fn_r13_Read : Nat := 68
def fn_block_Write : Nat := 69
def fn_config_Write : Nat := 70
def fn_r12_Bytes : Nat := 71
def fn_r08_Bytes : Nat := 72
def fn_r12_Same : Nat := 73
def fn_block_Read : Nat := 74
def fn_config_Read : Nat := 75
def fn_r12_Read : Nat := 76
def fn_r08_Read : Nat := 77
def fn_config_right : Nat := 78
def fn_sha_Of : Nat := 79
def fn_r08_Right : Nat := 80
def fn_r02_Text : Nat := 81
def fn_keys_leaf : Nat := 82
def fn_once_Public : Nat := 83
def fn_tree_Root : Nat := 84
def fn_tree_Path : Nat := 85
def fn_once_Sign : Nat := 86
def fn_vote_head : Nat := 87
def fn_request_Good : Nat := 88
def fn_config_Find : Nat := 89
def fn_vote_Good : Nat := 90
def fn_keys_Check : Nat := 91
def fn_r09_Good : Nat := 92
def fn_r08_Place : Nat := 93
def fn_r13_Good : Nat := 94
def fn_r05_Check : Nat := 95
def fn_r13_Signs : Nat := 96
def fn_r05_Same : Nat := 97
def fn_keys_Write : Nat := 98
def fn_r05_Write : Nat := 99
def fn_r13_Head : Nat := 100
def fn_code_Reader_Num : Nat := 101
def fn_code_Reader_Digest : Nat := 102
def fn_keys_Read : Nat := 103
def fn_r01_Reader_Num : Nat := 104
def fn_r01_Reader_Take : Nat := 105
def fn_r01_Reader_Digest : Nat := 106
def fn_r05_Read : Nat := 107
def fn_code_Writer_Digest : Nat := 108
def fn_request_Write : Nat := 109
def fn_r01_Digest : Nat := 110
def fn_r09_Bytes : Nat := 111
def fn_request_Read : Nat := 112
def fn_r09_Read : Nat := 113
def fn_sha_state_block : Nat := 114
def fn_r02_Of : Nat := 115
def fn_tree_Leaf : Nat := 116
def fn_once_shut : Nat := 117
def fn_once_secret : Nat := 118
def fn_once_whole : Nat := 119
def fn_tree_up : Nat := 120
def fn_once_bit : Nat := 121
def fn_request_short : Nat := 122
def fn_slices_IndexFunc : Nat := 123
def fn_config_Find_1 : Nat := 124
def fn_once_Of : Nat := 125
def fn_tree_Check : Nat := 126
def fn_r04_Of : Nat := 127
def fn_r03_Check : Nat := 128
def fn_r03_Leaf : Nat := 129
def fn_r04_Same : Nat := 130
def fn_r03_Same : Nat := 131
def fn_code_Reader_take : Nat := 132
def fn_code_Writer_Text : Nat := 133
def fn_r09_nums : Nat := 134
def fn_r01_Text : Nat := 135
def fn_code_Reader_Text : Nat := 136
def fn_r01_Reader_Text : Nat := 137
def fn_sha_word : Nat := 138
def fn_bits_RotateLeft32 : Nat := 139
def fn_r02_Padded : Nat := 140
def fn_r02_Numbers : Nat := 141
def fn_r02_Next : Nat := 142
def fn_sha_Pair : Nat := 143
def fn_r04_Shut : Nat := 144
def fn_r04_Bit : Nat := 145
def fn_r03_Pair : Nat := 146
def fn_r02_turn : Nat := 147
def fn_r02_three : Nat := 148
/-! wapentake/wapentakelaw15.ChainChecks -/
@[simp] def a_l15_ChainChecks_r0 : List COper := [
  ⟨(some 3), .box, [.t 0], none⟩,
  ⟨(some 6), .mov, [.c (.bool false)], none⟩]
def c_l15_ChainChecks_r0 : List COper := a_l15_ChainChecks_r0
instance : Reg c_l15_ChainChecks_r0 a_l15_ChainChecks_r0 2 := ⟨rfl, rfl⟩
@[simp] def a_l15_ChainChecks_r1 : List COper := [
  ⟨(some 15), .call fn_l15_alive, [], none⟩,
  ⟨(some 16), .not, [.t 15], none⟩]
def c_l15_ChainChecks_r1 : List COper := a_l15_ChainChecks_r1
instance : Reg c_l15_ChainChecks_r1 a_l15_ChainChecks_r1 2 := ⟨rfl, rfl⟩
@[simp] def a_l15_ChainChecks_r2 : List COper := [
  ⟨(some 6), .mov, [.c (.bool false)], none⟩]
def c_l15_ChainChecks_r2 : List COper := a_l15_ChainChecks_r2
instance : Reg c_l15_ChainChecks_r2 a_l15_ChainChecks_r2 1 := ⟨rfl, rfl⟩
@[simp] def a_l15_ChainChecks_r3 : List COper := [
  ⟨(some 17), .load true 2, [.t 3], none⟩,
  ⟨(some 18), .mov, [.t 2], none⟩,
  ⟨(some 19), .call fn_l15_great, [.t 17, .t 18], none⟩]
def c_l15_ChainChecks_r3 : List COper := a_l15_ChainChecks_r3
instance : Reg c_l15_ChainChecks_r3 a_l15_ChainChecks_r3 3 := ⟨rfl, rfl⟩
@[simp] def a_l15_ChainChecks_r4 : List COper := [
  ⟨(some 6), .mov, [.c (.bool true)], none⟩]
def c_l15_ChainChecks_r4 : List COper := a_l15_ChainChecks_r4
instance : Reg c_l15_ChainChecks_r4 a_l15_ChainChecks_r4 1 := ⟨rfl, rfl⟩
@[simp] def a_l15_ChainChecks_r5 : List COper := [
  ⟨(some 20), .mov, [.t 2], none⟩,
  ⟨(some 21), .len, [.t 20], none⟩,
  ⟨(some 22), .mov, [.c (.int .i64 0)], none⟩]
def c_l15_ChainChecks_r5 : List COper := a_l15_ChainChecks_r5
instance : Reg c_l15_ChainChecks_r5 a_l15_ChainChecks_r5 3 := ⟨rfl, rfl⟩
@[simp] def a_l15_ChainChecks_r6 : List COper := [
  ⟨(some 23), .bin .lss, [.t 22, .t 21], none⟩]
def c_l15_ChainChecks_r6 : List COper := a_l15_ChainChecks_r6
instance : Reg c_l15_ChainChecks_r6 a_l15_ChainChecks_r6 1 := ⟨rfl, rfl⟩
@[simp] def a_l15_ChainChecks_r7 : List COper := [
  ⟨(some 24), .iaddr 103, [.t 20, .t 22], none⟩,
  ⟨(some 25), .load true 103, [.t 24], none⟩,
  ⟨(some 8), .alloc (.node [.node [.v (.int .i64 0), .v (.int .i64 0), .arr 1 (rep 32 (.v (.int .u8 0))), .arr 1 (rep 32 (.v (.int .u8 0))), .arr 1 (rep 32 (.v (.int .u8 0))), .v (.slice none 0 0)], .node [.v (.int .i64 0), .v (.slice none 0 0)], .node [.v (.int .i64 0), .v (.slice none 0 0)]]), [], none⟩,
  ⟨none, .store true 103, [.t 8, .t 25], none⟩]
def c_l15_ChainChecks_r7 : List COper := a_l15_ChainChecks_r7
instance : Reg c_l15_ChainChecks_r7 a_l15_ChainChecks_r7 4 := ⟨rfl, rfl⟩
@[simp] def a_l15_ChainChecks_r8 : List COper := [
  ⟨(some 26), .load true 2, [.t 3], none⟩,
  ⟨(some 27), .mov, [.t 1], none⟩,
  ⟨(some 28), .load true 103, [.t 8], none⟩,
  ⟨(some 29), .call fn_chain_Step, [.t 26, .t 27, .t 28], none⟩,
  ⟨(some 30), .load true 2, [.t 3], none⟩,
  ⟨(some 31), .mov, [.t 1], none⟩,
  ⟨(some 32), .load true 103, [.t 8], none⟩,
  ⟨(some 33), .call fn_r15_Step, [.t 30, .t 31, .t 32], none⟩,
  ⟨(some 34), .bin .neq, [.t 29, .t 33], none⟩]
def c_l15_ChainChecks_r8 : List COper := a_l15_ChainChecks_r8
instance : Reg c_l15_ChainChecks_r8 a_l15_ChainChecks_r8 9 := ⟨rfl, rfl⟩
@[simp] def a_l15_ChainChecks_r9 : List COper := [
  ⟨(some 6), .mov, [.c (.bool false)], none⟩]
def c_l15_ChainChecks_r9 : List COper := a_l15_ChainChecks_r9
instance : Reg c_l15_ChainChecks_r9 a_l15_ChainChecks_r9 1 := ⟨rfl, rfl⟩
@[simp] def a_l15_ChainChecks_r10 : List COper := [
  ⟨(some 35), .bin .add, [.t 22, .c (.int .i64 1)], none⟩,
  ⟨(some 22), .mov, [.t 35], none⟩]
def c_l15_ChainChecks_r10 : List COper := a_l15_ChainChecks_r10
instance : Reg c_l15_ChainChecks_r10 a_l15_ChainChecks_r10 2 := ⟨rfl, rfl⟩
@[simp] def a_l15_ChainChecks_r11 : List COper := [
  ⟨(some 37), .load true 2, [.t 3], none⟩,
  ⟨(some 38), .mov, [.t 2], none⟩,
  ⟨(some 39), .call fn_chain_Check, [.t 37, .t 38], none⟩,
  ⟨(some 36), .mov, [.t 39], none⟩,
  ⟨(some 40), .ext 0, [.t 36], none⟩,
  ⟨(some 41), .ext 1, [.t 36], none⟩,
  ⟨(some 42), .ext 2, [.t 36], none⟩,
  ⟨(some 9), .alloc (.node [.v (.int .i64 0), .v (.slice none 0 0)]), [], none⟩,
  ⟨none, .store true 2, [.t 9, .t 40], none⟩,
  ⟨(some 10), .mov, [.t 41], none⟩,
  ⟨(some 11), .mov, [.t 42], none⟩]
def c_l15_ChainChecks_r11 : List COper := a_l15_ChainChecks_r11
instance : Reg c_l15_ChainChecks_r11 a_l15_ChainChecks_r11 11 := ⟨rfl, rfl⟩
@[simp] def a_l15_ChainChecks_r12 : List COper := [
  ⟨(some 44), .load true 2, [.t 3], none⟩,
  ⟨(some 45), .mov, [.t 2], none⟩,
  ⟨(some 46), .call fn_r15_Check, [.t 44, .t 45], none⟩,
  ⟨(some 43), .mov, [.t 46], none⟩,
  ⟨(some 47), .ext 0, [.t 43], none⟩,
  ⟨(some 48), .ext 1, [.t 43], none⟩,
  ⟨(some 49), .ext 2, [.t 43], none⟩,
  ⟨(some 12), .alloc (.node [.v (.int .i64 0), .v (.slice none 0 0)]), [], none⟩,
  ⟨none, .store true 2, [.t 12, .t 47], none⟩,
  ⟨(some 13), .mov, [.t 48], none⟩,
  ⟨(some 14), .mov, [.t 49], none⟩]
def c_l15_ChainChecks_r12 : List COper := a_l15_ChainChecks_r12
instance : Reg c_l15_ChainChecks_r12 a_l15_ChainChecks_r12 11 := ⟨rfl, rfl⟩
@[simp] def a_l15_ChainChecks_r13 : List COper := [
  ⟨(some 50), .mov, [.t 10], none⟩,
  ⟨(some 51), .mov, [.t 13], none⟩,
  ⟨(some 52), .bin .eql, [.t 50, .t 51], none⟩,
  ⟨(some 53), .mov, [.t 52], none⟩,
  ⟨(some 54), .mov, [.t 11], (some (53, true))⟩,
  ⟨(some 55), .mov, [.t 14], (some (53, true))⟩,
  ⟨(some 56), .bin .eql, [.t 54, .t 55], (some (53, true))⟩,
  ⟨(some 57), .pick, [.t 53, .t 56, .c (.bool false)], none⟩,
  ⟨(some 58), .mov, [.t 57], none⟩,
  ⟨(some 59), .load true 2, [.t 9], (some (58, true))⟩,
  ⟨(some 60), .load true 2, [.t 12], (some (58, true))⟩,
  ⟨(some 61), .call fn_r08_Same, [.t 59, .t 60], (some (58, true))⟩,
  ⟨(some 62), .pick, [.t 58, .t 61, .c (.bool false)], none⟩,
  ⟨(some 6), .mov, [.t 62], none⟩]
def c_l15_ChainChecks_r13 : List COper := a_l15_ChainChecks_r13
instance : Reg c_l15_ChainChecks_r13 a_l15_ChainChecks_r13 14 := ⟨rfl, rfl⟩
@[simp] def c_l15_ChainChecks : CCode :=
  .seq (.region c_l15_ChainChecks_r0 none [1, 2, 3]) (.seq (.seq (.region c_l15_ChainChecks_r1 none [1, 2, 3, 16]) (.cond (.t 16) (.seq (.region c_l15_ChainChecks_r2 none [6]) (.ret)) (.skip))) (.seq (.seq (.region c_l15_ChainChecks_r3 none [1, 2, 3, 19]) (.cond (.t 19) (.seq (.region c_l15_ChainChecks_r4 none [6]) (.ret)) (.skip))) (.seq (.seq (.region c_l15_ChainChecks_r5 none [1, 2, 3, 20, 21, 22]) (.block 0 (.loop (.seq (.region c_l15_ChainChecks_r6 none [1, 2, 3, 20, 21, 22, 23]) (.seq (.cond (.t 23) (.skip) (.exit 0)) (.seq (.block 1 (.seq (.region c_l15_ChainChecks_r7 none [1, 2, 3, 8, 20, 21, 22]) (.seq (.region c_l15_ChainChecks_r8 (some ([0, 0, 0, 7, 0, 0, 0, 127, 255], [(3, 4), (3, 6)])) [1, 2, 3, 20, 21, 22, 34]) (.cond (.t 34) (.seq (.region c_l15_ChainChecks_r9 none [6]) (.ret)) (.skip))))) (.region c_l15_ChainChecks_r10 none [1, 2, 3, 20, 21, 22]))))))) (.seq (.region c_l15_ChainChecks_r11 none [2, 3, 9, 10, 11]) (.seq (.region c_l15_ChainChecks_r12 none [9, 10, 11, 12, 13, 14]) (.seq (.region c_l15_ChainChecks_r13 none [6]) (.ret)))))))
@[simp] def R_l15_ChainChecks : List CRes := [.tmp 6]
theorem k_l15_ChainChecks : chkFn Tryd.prog fn_l15_ChainChecks c_l15_ChainChecks R_l15_ChainChecks 3 = true := by kernel_rfl
/-! wapentake/wapentakelaw15.ChainParts -/
@[simp] def a_l15_ChainParts_r0 : List COper := [
  ⟨(some 3), .box, [.t 0], none⟩,
  ⟨(some 6), .mov, [.c (.bool false)], none⟩]
def c_l15_ChainParts_r0 : List COper := a_l15_ChainParts_r0
instance : Reg c_l15_ChainParts_r0 a_l15_ChainParts_r0 2 := ⟨rfl, rfl⟩
@[simp] def a_l15_ChainParts_r1 : List COper := [
  ⟨(some 20), .call fn_l15_alive, [], none⟩,
  ⟨(some 21), .not, [.t 20], none⟩]
def c_l15_ChainParts_r1 : List COper := a_l15_ChainParts_r1
instance : Reg c_l15_ChainParts_r1 a_l15_ChainParts_r1 2 := ⟨rfl, rfl⟩
@[simp] def a_l15_ChainParts_r2 : List COper := [
  ⟨(some 6), .mov, [.c (.bool false)], none⟩]
def c_l15_ChainParts_r2 : List COper := a_l15_ChainParts_r2
instance : Reg c_l15_ChainParts_r2 a_l15_ChainParts_r2 1 := ⟨rfl, rfl⟩
@[simp] def a_l15_ChainParts_r3 : List COper := [
  ⟨(some 22), .load true 2, [.t 3], none⟩,
  ⟨(some 23), .mov, [.t 1], none⟩,
  ⟨(some 24), .call fn_l15_great, [.t 22, .t 23], none⟩,
  ⟨(some 25), .mov, [.t 24], none⟩,
  ⟨(some 26), .mov, [.t 2], (some (25, false))⟩,
  ⟨(some 27), .bin .lss, [.t 26, .c (.int .i64 0)], (some (25, false))⟩,
  ⟨(some 28), .pick, [.t 25, .c (.bool true), .t 27], none⟩,
  ⟨(some 29), .mov, [.t 28], none⟩,
  ⟨(some 30), .mov, [.t 2], (some (29, false))⟩,
  ⟨(some 31), .mov, [.t 1], (some (29, false))⟩,
  ⟨(some 32), .len, [.t 31], (some (29, false))⟩,
  ⟨(some 33), .bin .gtr, [.t 30, .t 32], (some (29, false))⟩,
  ⟨(some 34), .pick, [.t 29, .c (.bool true), .t 33], none⟩]
def c_l15_ChainParts_r3 : List COper := a_l15_ChainParts_r3
instance : Reg c_l15_ChainParts_r3 a_l15_ChainParts_r3 13 := ⟨rfl, rfl⟩
@[simp] def a_l15_ChainParts_r4 : List COper := [
  ⟨(some 6), .mov, [.c (.bool true)], none⟩]
def c_l15_ChainParts_r4 : List COper := a_l15_ChainParts_r4
instance : Reg c_l15_ChainParts_r4 a_l15_ChainParts_r4 1 := ⟨rfl, rfl⟩
@[simp] def a_l15_ChainParts_r5 : List COper := [
  ⟨(some 36), .load true 2, [.t 3], none⟩,
  ⟨(some 37), .mov, [.t 1], none⟩,
  ⟨(some 38), .call fn_chain_Check, [.t 36, .t 37], none⟩,
  ⟨(some 35), .mov, [.t 38], none⟩,
  ⟨(some 39), .ext 0, [.t 35], none⟩,
  ⟨(some 40), .ext 1, [.t 35], none⟩,
  ⟨(some 41), .ext 2, [.t 35], none⟩,
  ⟨(some 7), .alloc (.node [.v (.int .i64 0), .v (.slice none 0 0)]), [], none⟩,
  ⟨none, .store true 2, [.t 7, .t 39], none⟩,
  ⟨(some 8), .mov, [.t 40], none⟩,
  ⟨(some 9), .mov, [.t 41], none⟩]
def c_l15_ChainParts_r5 : List COper := a_l15_ChainParts_r5
instance : Reg c_l15_ChainParts_r5 a_l15_ChainParts_r5 11 := ⟨rfl, rfl⟩
@[simp] def a_l15_ChainParts_r6 : List COper := [
  ⟨(some 43), .load true 2, [.t 3], none⟩,
  ⟨(some 44), .mov, [.t 1], none⟩,
  ⟨(some 45), .mov, [.t 2], none⟩,
  ⟨(some 46), .slice 103 false true, [.t 44, .t 45], none⟩,
  ⟨(some 47), .call fn_chain_Check, [.t 43, .t 46], none⟩,
  ⟨(some 42), .mov, [.t 47], none⟩,
  ⟨(some 48), .ext 0, [.t 42], none⟩,
  ⟨(some 49), .ext 1, [.t 42], none⟩,
  ⟨(some 50), .ext 2, [.t 42], none⟩,
  ⟨(some 10), .alloc (.node [.v (.int .i64 0), .v (.slice none 0 0)]), [], none⟩,
  ⟨none, .store true 2, [.t 10, .t 48], none⟩,
  ⟨(some 11), .mov, [.t 49], none⟩,
  ⟨(some 12), .mov, [.t 50], none⟩]
def c_l15_ChainParts_r6 : List COper := a_l15_ChainParts_r6
instance : Reg c_l15_ChainParts_r6 a_l15_ChainParts_r6 13 := ⟨rfl, rfl⟩
@[simp] def a_l15_ChainParts_r7 : List COper := [
  ⟨(some 51), .mov, [.t 9], none⟩,
  ⟨(some 52), .bin .neq, [.t 51, .c (.int .i64 0)], none⟩]
def c_l15_ChainParts_r7 : List COper := a_l15_ChainParts_r7
instance : Reg c_l15_ChainParts_r7 a_l15_ChainParts_r7 2 := ⟨rfl, rfl⟩
@[simp] def a_l15_ChainParts_r8 : List COper := [
  ⟨(some 53), .mov, [.t 12], none⟩,
  ⟨(some 54), .bin .eql, [.t 53, .c (.int .i64 0)], none⟩,
  ⟨(some 55), .mov, [.t 54], none⟩,
  ⟨(some 56), .mov, [.t 11], (some (55, true))⟩,
  ⟨(some 57), .mov, [.t 2], (some (55, true))⟩,
  ⟨(some 58), .bin .eql, [.t 56, .t 57], (some (55, true))⟩,
  ⟨(some 59), .pick, [.t 55, .t 58, .c (.bool false)], none⟩,
  ⟨(some 60), .mov, [.t 59], none⟩,
  ⟨(some 61), .mov, [.t 8], (some (60, true))⟩,
  ⟨(some 62), .mov, [.t 2], (some (60, true))⟩,
  ⟨(some 63), .bin .geq, [.t 61, .t 62], (some (60, true))⟩,
  ⟨(some 64), .pick, [.t 60, .t 63, .c (.bool false)], none⟩,
  ⟨(some 65), .mov, [.t 64], none⟩,
  ⟨(some 66), .mov, [.t 12], (some (65, false))⟩,
  ⟨(some 67), .mov, [.t 9], (some (65, false))⟩,
  ⟨(some 68), .bin .eql, [.t 66, .t 67], (some (65, false))⟩,
  ⟨(some 69), .mov, [.t 68], (some (65, false))⟩,
  ⟨(some 70), .mov, [.t 11], (some (69, true))⟩,
  ⟨(some 71), .mov, [.t 8], (some (69, true))⟩,
  ⟨(some 72), .bin .eql, [.t 70, .t 71], (some (69, true))⟩,
  ⟨(some 73), .pick, [.t 69, .t 72, .c (.bool false)], (some (65, false))⟩,
  ⟨(some 74), .pick, [.t 65, .c (.bool true), .t 73], none⟩,
  ⟨(some 6), .mov, [.t 74], none⟩]
def c_l15_ChainParts_r8 : List COper := a_l15_ChainParts_r8
instance : Reg c_l15_ChainParts_r8 a_l15_ChainParts_r8 23 := ⟨rfl, rfl⟩
@[simp] def a_l15_ChainParts_r9 : List COper := [
  ⟨(some 75), .mov, [.t 12], none⟩,
  ⟨(some 76), .bin .neq, [.t 75, .c (.int .i64 0)], none⟩,
  ⟨(some 77), .mov, [.t 76], none⟩,
  ⟨(some 78), .mov, [.t 8], (some (77, false))⟩,
  ⟨(some 79), .mov, [.t 1], (some (77, false))⟩,
  ⟨(some 80), .len, [.t 79], (some (77, false))⟩,
  ⟨(some 81), .bin .neq, [.t 78, .t 80], (some (77, false))⟩,
  ⟨(some 82), .pick, [.t 77, .c (.bool true), .t 81], none⟩]
def c_l15_ChainParts_r9 : List COper := a_l15_ChainParts_r9
instance : Reg c_l15_ChainParts_r9 a_l15_ChainParts_r9 8 := ⟨rfl, rfl⟩
@[simp] def a_l15_ChainParts_r10 : List COper := [
  ⟨(some 6), .mov, [.c (.bool false)], none⟩]
def c_l15_ChainParts_r10 : List COper := a_l15_ChainParts_r10
instance : Reg c_l15_ChainParts_r10 a_l15_ChainParts_r10 1 := ⟨rfl, rfl⟩
@[simp] def a_l15_ChainParts_r11 : List COper := [
  ⟨(some 84), .load true 2, [.t 10], none⟩,
  ⟨(some 85), .mov, [.t 1], none⟩,
  ⟨(some 86), .mov, [.t 2], none⟩,
  ⟨(some 87), .slice 103 true false, [.t 85, .t 86], none⟩,
  ⟨(some 88), .call fn_chain_Check, [.t 84, .t 87], none⟩,
  ⟨(some 83), .mov, [.t 88], none⟩,
  ⟨(some 89), .ext 0, [.t 83], none⟩,
  ⟨(some 90), .ext 1, [.t 83], none⟩,
  ⟨(some 91), .ext 2, [.t 83], none⟩,
  ⟨(some 13), .alloc (.node [.v (.int .i64 0), .v (.slice none 0 0)]), [], none⟩,
  ⟨none, .store true 2, [.t 13, .t 89], none⟩,
  ⟨(some 14), .mov, [.t 90], none⟩,
  ⟨(some 15), .mov, [.t 91], none⟩]
def c_l15_ChainParts_r11 : List COper := a_l15_ChainParts_r11
instance : Reg c_l15_ChainParts_r11 a_l15_ChainParts_r11 13 := ⟨rfl, rfl⟩
@[simp] def a_l15_ChainParts_r12 : List COper := [
  ⟨(some 92), .faddr 0 1 false, [.t 3], none⟩,
  ⟨(some 93), .load false 1, [.t 92], none⟩,
  ⟨(some 16), .mov, [.t 93], none⟩,
  ⟨(some 17), .mov, [.c (.int .i64 0)], none⟩]
def c_l15_ChainParts_r12 : List COper := a_l15_ChainParts_r12
instance : Reg c_l15_ChainParts_r12 a_l15_ChainParts_r12 4 := ⟨rfl, rfl⟩
@[simp] def a_l15_ChainParts_r13 : List COper := [
  ⟨(some 94), .mov, [.t 1], none⟩,
  ⟨(some 95), .len, [.t 94], none⟩,
  ⟨(some 96), .mov, [.c (.int .i64 0)], none⟩]
def c_l15_ChainParts_r13 : List COper := a_l15_ChainParts_r13
instance : Reg c_l15_ChainParts_r13 a_l15_ChainParts_r13 3 := ⟨rfl, rfl⟩
@[simp] def a_l15_ChainParts_r14 : List COper := [
  ⟨(some 97), .bin .lss, [.t 96, .t 95], none⟩]
def c_l15_ChainParts_r14 : List COper := a_l15_ChainParts_r14
instance : Reg c_l15_ChainParts_r14 a_l15_ChainParts_r14 1 := ⟨rfl, rfl⟩
@[simp] def a_l15_ChainParts_r15 : List COper := [
  ⟨(some 98), .iaddr 103, [.t 94, .t 96], none⟩,
  ⟨(some 99), .load true 103, [.t 98], none⟩,
  ⟨(some 19), .alloc (.node [.node [.v (.int .i64 0), .v (.int .i64 0), .arr 1 (rep 32 (.v (.int .u8 0))), .arr 1 (rep 32 (.v (.int .u8 0))), .arr 1 (rep 32 (.v (.int .u8 0))), .v (.slice none 0 0)], .node [.v (.int .i64 0), .v (.slice none 0 0)], .node [.v (.int .i64 0), .v (.slice none 0 0)]]), [], none⟩,
  ⟨none, .store true 103, [.t 19, .t 99], none⟩]
def c_l15_ChainParts_r15 : List COper := a_l15_ChainParts_r15
instance : Reg c_l15_ChainParts_r15 a_l15_ChainParts_r15 4 := ⟨rfl, rfl⟩
@[simp] def a_l15_ChainParts_r16 : List COper := [
  ⟨(some 100), .faddr 101 2 true, [.t 19], none⟩,
  ⟨(some 101), .faddr 0 1 false, [.t 100], none⟩,
  ⟨(some 102), .load false 1, [.t 101], none⟩,
  ⟨(some 103), .mov, [.t 16], none⟩,
  ⟨(some 104), .bin .leq, [.t 102, .t 103], none⟩,
  ⟨(some 105), .mov, [.t 104], none⟩,
  ⟨(some 106), .faddr 0 99 true, [.t 19], (some (105, false))⟩,
  ⟨(some 107), .faddr 1 1 false, [.t 106], (some (105, false))⟩,
  ⟨(some 108), .load false 1, [.t 107], (some (105, false))⟩,
  ⟨(some 109), .mov, [.t 17], (some (105, false))⟩,
  ⟨(some 110), .bin .leq, [.t 108, .t 109], (some (105, false))⟩,
  ⟨(some 111), .pick, [.t 105, .c (.bool true), .t 110], none⟩,
  ⟨(some 112), .mov, [.t 111], none⟩,
  ⟨(some 113), .faddr 0 99 true, [.t 19], (some (112, false))⟩,
  ⟨(some 114), .faddr 0 1 false, [.t 113], (some (112, false))⟩,
  ⟨(some 115), .load false 1, [.t 114], (some (112, false))⟩,
  ⟨(some 116), .mov, [.t 16], (some (112, false))⟩,
  ⟨(some 117), .bin .neq, [.t 115, .t 116], (some (112, false))⟩,
  ⟨(some 118), .pick, [.t 112, .c (.bool true), .t 117], none⟩]
def c_l15_ChainParts_r16 : List COper := a_l15_ChainParts_r16
instance : Reg c_l15_ChainParts_r16 a_l15_ChainParts_r16 19 := ⟨rfl, rfl⟩
@[simp] def a_l15_ChainParts_r17 : List COper := [
  ⟨(some 6), .mov, [.c (.bool false)], none⟩]
def c_l15_ChainParts_r17 : List COper := a_l15_ChainParts_r17
instance : Reg c_l15_ChainParts_r17 a_l15_ChainParts_r17 1 := ⟨rfl, rfl⟩
@[simp] def a_l15_ChainParts_r18 : List COper := [
  ⟨(some 119), .faddr 101 2 true, [.t 19], none⟩,
  ⟨(some 120), .faddr 0 1 false, [.t 119], none⟩,
  ⟨(some 121), .load false 1, [.t 120], none⟩,
  ⟨(some 122), .faddr 0 99 true, [.t 19], none⟩,
  ⟨(some 123), .faddr 1 1 false, [.t 122], none⟩,
  ⟨(some 124), .load false 1, [.t 123], none⟩,
  ⟨(some 16), .mov, [.t 121], none⟩,
  ⟨(some 17), .mov, [.t 124], none⟩]
def c_l15_ChainParts_r18 : List COper := a_l15_ChainParts_r18
instance : Reg c_l15_ChainParts_r18 a_l15_ChainParts_r18 8 := ⟨rfl, rfl⟩
@[simp] def a_l15_ChainParts_r19 : List COper := [
  ⟨(some 125), .bin .add, [.t 96, .c (.int .i64 1)], none⟩,
  ⟨(some 96), .mov, [.t 125], none⟩]
def c_l15_ChainParts_r19 : List COper := a_l15_ChainParts_r19
instance : Reg c_l15_ChainParts_r19 a_l15_ChainParts_r19 2 := ⟨rfl, rfl⟩
@[simp] def a_l15_ChainParts_r20 : List COper := [
  ⟨(some 126), .mov, [.t 15], none⟩,
  ⟨(some 127), .bin .eql, [.t 126, .c (.int .i64 0)], none⟩,
  ⟨(some 128), .mov, [.t 127], none⟩,
  ⟨(some 129), .load true 2, [.t 13], (some (128, true))⟩,
  ⟨(some 130), .load true 2, [.t 7], (some (128, true))⟩,
  ⟨(some 131), .call fn_r08_Same, [.t 129, .t 130], (some (128, true))⟩,
  ⟨(some 132), .pick, [.t 128, .t 131, .c (.bool false)], none⟩,
  ⟨(some 6), .mov, [.t 132], none⟩]
def c_l15_ChainParts_r20 : List COper := a_l15_ChainParts_r20
instance : Reg c_l15_ChainParts_r20 a_l15_ChainParts_r20 8 := ⟨rfl, rfl⟩
@[simp] def c_l15_ChainParts : CCode :=
  .seq (.region c_l15_ChainParts_r0 none [1, 2, 3]) (.seq (.seq (.region c_l15_ChainParts_r1 none [1, 2, 3, 21]) (.cond (.t 21) (.seq (.region c_l15_ChainParts_r2 none [6]) (.ret)) (.skip))) (.seq (.seq (.region c_l15_ChainParts_r3 none [1, 2, 3, 34]) (.cond (.t 34) (.seq (.region c_l15_ChainParts_r4 none [6]) (.ret)) (.skip))) (.seq (.region c_l15_ChainParts_r5 none [1, 2, 3, 7, 8, 9]) (.seq (.region c_l15_ChainParts_r6 (some ([0, 0, 0, 6, 15, 31, 63, 63, 63, 0, 639, 1791, 4095], [(0, 9), (4, 9)])) [1, 2, 3, 7, 8, 9, 10, 11, 12]) (.seq (.seq (.region c_l15_ChainParts_r7 none [1, 2, 3, 7, 8, 9, 10, 11, 12, 52]) (.cond (.t 52) (.seq (.region c_l15_ChainParts_r8 none [6]) (.ret)) (.skip))) (.seq (.seq (.region c_l15_ChainParts_r9 none [1, 2, 3, 7, 10, 82]) (.cond (.t 82) (.seq (.region c_l15_ChainParts_r10 none [6]) (.ret)) (.skip))) (.seq (.region c_l15_ChainParts_r11 (some ([0, 0, 0, 6, 15, 31, 63, 63, 63, 0, 639, 1791, 4095], [(0, 9), (4, 9)])) [1, 3, 7, 13, 15]) (.seq (.region c_l15_ChainParts_r12 none [1, 7, 13, 15, 16, 17]) (.seq (.seq (.region c_l15_ChainParts_r13 none [7, 13, 15, 16, 17, 94, 95, 96]) (.block 0 (.loop (.seq (.region c_l15_ChainParts_r14 none [7, 13, 15, 16, 17, 94, 95, 96, 97]) (.seq (.cond (.t 97) (.skip) (.exit 0)) (.seq (.block 1 (.seq (.region c_l15_ChainParts_r15 none [7, 13, 15, 16, 17, 19, 94, 95, 96]) (.seq (.seq (.region c_l15_ChainParts_r16 none [7, 13, 15, 19, 94, 95, 96, 118]) (.cond (.t 118) (.seq (.region c_l15_ChainParts_r17 none [6]) (.ret)) (.skip))) (.region c_l15_ChainParts_r18 (some ([0, 1, 3, 0, 8, 24, 7, 127], [])) [7, 13, 15, 16, 17, 94, 95, 96])))) (.region c_l15_ChainParts_r19 none [7, 13, 15, 16, 17, 94, 95, 96]))))))) (.seq (.region c_l15_ChainParts_r20 none [6]) (.ret)))))))))))
@[simp] def R_l15_ChainParts : List CRes := [.tmp 6]
theorem k_l15_ChainParts : chkFn Tryd.prog fn_l15_ChainParts c_l15_ChainParts R_l15_ChainParts 3 = true := by kernel_rfl
/-! wapentake/wapentakelaw15.ChainGrows -/
@[simp] def a_l15_ChainGrows_r0 : List COper := [
  ⟨(some 3), .box, [.t 0], none⟩,
  ⟨(some 5), .box, [.t 2], none⟩,
  ⟨(some 6), .mov, [.c (.bool false)], none⟩]
def c_l15_ChainGrows_r0 : List COper := a_l15_ChainGrows_r0
instance : Reg c_l15_ChainGrows_r0 a_l15_ChainGrows_r0 3 := ⟨rfl, rfl⟩
@[simp] def a_l15_ChainGrows_r1 : List COper := [
  ⟨(some 15), .call fn_l15_alive, [], none⟩,
  ⟨(some 16), .not, [.t 15], none⟩]
def c_l15_ChainGrows_r1 : List COper := a_l15_ChainGrows_r1
instance : Reg c_l15_ChainGrows_r1 a_l15_ChainGrows_r1 2 := ⟨rfl, rfl⟩
@[simp] def a_l15_ChainGrows_r2 : List COper := [
  ⟨(some 6), .mov, [.c (.bool false)], none⟩]
def c_l15_ChainGrows_r2 : List COper := a_l15_ChainGrows_r2
instance : Reg c_l15_ChainGrows_r2 a_l15_ChainGrows_r2 1 := ⟨rfl, rfl⟩
@[simp] def a_l15_ChainGrows_r3 : List COper := [
  ⟨(some 17), .load true 2, [.t 3], none⟩,
  ⟨(some 18), .mov, [.t 1], none⟩,
  ⟨(some 19), .call fn_l15_great, [.t 17, .t 18], none⟩,
  ⟨(some 20), .mov, [.t 19], none⟩,
  ⟨(some 21), .load true 2, [.t 3], (some (20, false))⟩,
  ⟨(some 22), .load true 103, [.t 5], (some (20, false))⟩,
  ⟨(some 23), .bslice 103 1 (.node [.node [.v (.int .i64 0), .v (.int .i64 0), .arr 1 (rep 32 (.v (.int .u8 0))), .arr 1 (rep 32 (.v (.int .u8 0))), .arr 1 (rep 32 (.v (.int .u8 0))), .v (.slice none 0 0)], .node [.v (.int .i64 0), .v (.slice none 0 0)], .node [.v (.int .i64 0), .v (.slice none 0 0)]]) [0], [.t 22], (some (20, false))⟩,
  ⟨(some 24), .call fn_l15_great, [.t 21, .t 23], (some (20, false))⟩,
  ⟨(some 25), .pick, [.t 20, .c (.bool true), .t 24], none⟩,
  ⟨(some 26), .mov, [.t 25], none⟩,
  ⟨(some 27), .mov, [.t 1], (some (26, false))⟩,
  ⟨(some 28), .len, [.t 27], (some (26, false))⟩,
  ⟨(some 29), .bin .gtr, [.t 28, .c (.int .i64 5)], (some (26, false))⟩,
  ⟨(some 30), .pick, [.t 26, .c (.bool true), .t 29], none⟩]
def c_l15_ChainGrows_r3 : List COper := a_l15_ChainGrows_r3
instance : Reg c_l15_ChainGrows_r3 a_l15_ChainGrows_r3 14 := ⟨rfl, rfl⟩
@[simp] def a_l15_ChainGrows_r4 : List COper := [
  ⟨(some 6), .mov, [.c (.bool true)], none⟩]
def c_l15_ChainGrows_r4 : List COper := a_l15_ChainGrows_r4
instance : Reg c_l15_ChainGrows_r4 a_l15_ChainGrows_r4 1 := ⟨rfl, rfl⟩
@[simp] def a_l15_ChainGrows_r5 : List COper := [
  ⟨(some 32), .load true 2, [.t 3], none⟩,
  ⟨(some 33), .mov, [.t 1], none⟩,
  ⟨(some 34), .call fn_chain_Check, [.t 32, .t 33], none⟩,
  ⟨(some 31), .mov, [.t 34], none⟩,
  ⟨(some 35), .ext 0, [.t 31], none⟩,
  ⟨(some 36), .ext 1, [.t 31], none⟩,
  ⟨(some 37), .ext 2, [.t 31], none⟩,
  ⟨(some 7), .alloc (.node [.v (.int .i64 0), .v (.slice none 0 0)]), [], none⟩,
  ⟨none, .store true 2, [.t 7, .t 35], none⟩,
  ⟨(some 8), .mov, [.t 36], none⟩,
  ⟨(some 9), .mov, [.t 37], none⟩]
def c_l15_ChainGrows_r5 : List COper := a_l15_ChainGrows_r5
instance : Reg c_l15_ChainGrows_r5 a_l15_ChainGrows_r5 11 := ⟨rfl, rfl⟩
@[simp] def a_l15_ChainGrows_r6 : List COper := [
  ⟨(some 38), .mov, [.t 9], none⟩,
  ⟨(some 39), .bin .neq, [.t 38, .c (.int .i64 0)], none⟩]
def c_l15_ChainGrows_r6 : List COper := a_l15_ChainGrows_r6
instance : Reg c_l15_ChainGrows_r6 a_l15_ChainGrows_r6 2 := ⟨rfl, rfl⟩
@[simp] def a_l15_ChainGrows_r7 : List COper := [
  ⟨(some 6), .mov, [.c (.bool true)], none⟩]
def c_l15_ChainGrows_r7 : List COper := a_l15_ChainGrows_r7
instance : Reg c_l15_ChainGrows_r7 a_l15_ChainGrows_r7 1 := ⟨rfl, rfl⟩
@[simp] def a_l15_ChainGrows_r8 : List COper := [
  ⟨(some 10), .mov, [.c (.int .i64 0)], none⟩]
def c_l15_ChainGrows_r8 : List COper := a_l15_ChainGrows_r8
instance : Reg c_l15_ChainGrows_r8 a_l15_ChainGrows_r8 1 := ⟨rfl, rfl⟩
@[simp] def a_l15_ChainGrows_r9 : List COper := [
  ⟨(some 40), .mov, [.t 8], none⟩,
  ⟨(some 41), .bin .gtr, [.t 40, .c (.int .i64 0)], none⟩]
def c_l15_ChainGrows_r9 : List COper := a_l15_ChainGrows_r9
instance : Reg c_l15_ChainGrows_r9 a_l15_ChainGrows_r9 2 := ⟨rfl, rfl⟩
@[simp] def a_l15_ChainGrows_r10 : List COper := [
  ⟨(some 42), .mov, [.t 1], none⟩,
  ⟨(some 43), .mov, [.t 8], none⟩,
  ⟨(some 44), .bin .sub, [.t 43, .c (.int .i64 1)], none⟩,
  ⟨(some 45), .iaddr 103, [.t 42, .t 44], none⟩,
  ⟨(some 46), .faddr 0 99 true, [.t 45], none⟩,
  ⟨(some 47), .faddr 1 1 false, [.t 46], none⟩,
  ⟨(some 48), .load false 1, [.t 47], none⟩,
  ⟨(some 10), .mov, [.t 48], none⟩]
def c_l15_ChainGrows_r10 : List COper := a_l15_ChainGrows_r10
instance : Reg c_l15_ChainGrows_r10 a_l15_ChainGrows_r10 8 := ⟨rfl, rfl⟩
@[simp] def a_l15_ChainGrows_r11 : List COper := [
  ⟨(some 50), .load true 2, [.t 3], none⟩,
  ⟨(some 51), .bslice 103 0 (.node [.node [.v (.int .i64 0), .v (.int .i64 0), .arr 1 (rep 32 (.v (.int .u8 0))), .arr 1 (rep 32 (.v (.int .u8 0))), .arr 1 (rep 32 (.v (.int .u8 0))), .v (.slice none 0 0)], .node [.v (.int .i64 0), .v (.slice none 0 0)], .node [.v (.int .i64 0), .v (.slice none 0 0)]]) [], [], none⟩,
  ⟨(some 52), .mov, [.t 1], none⟩,
  ⟨(some 53), .app 103 200, [.t 51, .t 52], none⟩,
  ⟨(some 54), .load true 103, [.t 5], none⟩,
  ⟨(some 55), .bslice 103 1 (.node [.node [.v (.int .i64 0), .v (.int .i64 0), .arr 1 (rep 32 (.v (.int .u8 0))), .arr 1 (rep 32 (.v (.int .u8 0))), .arr 1 (rep 32 (.v (.int .u8 0))), .v (.slice none 0 0)], .node [.v (.int .i64 0), .v (.slice none 0 0)], .node [.v (.int .i64 0), .v (.slice none 0 0)]]) [0], [.t 54], none⟩,
  ⟨(some 56), .app 103 200, [.t 53, .t 55], none⟩,
  ⟨(some 57), .call fn_chain_Check, [.t 50, .t 56], none⟩,
  ⟨(some 49), .mov, [.t 57], none⟩,
  ⟨(some 58), .ext 0, [.t 49], none⟩,
  ⟨(some 59), .ext 1, [.t 49], none⟩,
  ⟨(some 60), .ext 2, [.t 49], none⟩,
  ⟨(some 11), .alloc (.node [.v (.int .i64 0), .v (.slice none 0 0)]), [], none⟩,
  ⟨none, .store true 2, [.t 11, .t 58], none⟩,
  ⟨(some 12), .mov, [.t 59], none⟩,
  ⟨(some 13), .mov, [.t 60], none⟩]
def c_l15_ChainGrows_r11 : List COper := a_l15_ChainGrows_r11
instance : Reg c_l15_ChainGrows_r11 a_l15_ChainGrows_r11 16 := ⟨rfl, rfl⟩
@[simp] def a_l15_ChainGrows_r12 : List COper := [
  ⟨(some 61), .load true 2, [.t 7], none⟩,
  ⟨(some 62), .mov, [.t 10], none⟩,
  ⟨(some 63), .load true 103, [.t 5], none⟩,
  ⟨(some 64), .call fn_chain_Step, [.t 61, .t 62, .t 63], none⟩,
  ⟨(some 14), .mov, [.t 64], none⟩]
def c_l15_ChainGrows_r12 : List COper := a_l15_ChainGrows_r12
instance : Reg c_l15_ChainGrows_r12 a_l15_ChainGrows_r12 5 := ⟨rfl, rfl⟩
@[simp] def a_l15_ChainGrows_r13 : List COper := [
  ⟨(some 65), .mov, [.t 13], none⟩,
  ⟨(some 66), .mov, [.t 14], none⟩,
  ⟨(some 67), .bin .eql, [.t 65, .t 66], none⟩,
  ⟨(some 68), .mov, [.t 67], none⟩,
  ⟨(some 69), .mov, [.t 14], (some (68, true))⟩,
  ⟨(some 70), .bin .neq, [.t 69, .c (.int .i64 0)], (some (68, true))⟩,
  ⟨(some 71), .mov, [.t 70], (some (68, true))⟩,
  ⟨(some 72), .mov, [.t 12], (some (71, true))⟩,
  ⟨(some 73), .mov, [.t 8], (some (71, true))⟩,
  ⟨(some 74), .bin .eql, [.t 72, .t 73], (some (71, true))⟩,
  ⟨(some 75), .pick, [.t 71, .t 74, .c (.bool false)], (some (68, true))⟩,
  ⟨(some 76), .mov, [.t 75], (some (68, true))⟩,
  ⟨(some 77), .mov, [.t 14], (some (76, false))⟩,
  ⟨(some 78), .bin .eql, [.t 77, .c (.int .i64 0)], (some (76, false))⟩,
  ⟨(some 79), .mov, [.t 78], (some (76, false))⟩,
  ⟨(some 80), .mov, [.t 12], (some (79, true))⟩,
  ⟨(some 81), .mov, [.t 8], (some (79, true))⟩,
  ⟨(some 82), .bin .add, [.t 81, .c (.int .i64 1)], (some (79, true))⟩,
  ⟨(some 83), .bin .eql, [.t 80, .t 82], (some (79, true))⟩,
  ⟨(some 84), .pick, [.t 79, .t 83, .c (.bool false)], (some (76, false))⟩,
  ⟨(some 85), .mov, [.t 84], (some (76, false))⟩,
  ⟨(some 86), .load true 2, [.t 11], (some (85, true))⟩,
  ⟨(some 87), .faddr 101 2 true, [.t 5], (some (85, true))⟩,
  ⟨(some 88), .load true 2, [.t 87], (some (85, true))⟩,
  ⟨(some 89), .call fn_r08_Same, [.t 86, .t 88], (some (85, true))⟩,
  ⟨(some 90), .pick, [.t 85, .t 89, .c (.bool false)], (some (76, false))⟩,
  ⟨(some 91), .pick, [.t 76, .c (.bool true), .t 90], (some (68, true))⟩,
  ⟨(some 92), .pick, [.t 68, .t 91, .c (.bool false)], none⟩,
  ⟨(some 6), .mov, [.t 92], none⟩]
def c_l15_ChainGrows_r13 : List COper := a_l15_ChainGrows_r13
instance : Reg c_l15_ChainGrows_r13 a_l15_ChainGrows_r13 29 := ⟨rfl, rfl⟩
@[simp] def c_l15_ChainGrows : CCode :=
  .seq (.region c_l15_ChainGrows_r0 none [1, 3, 5]) (.seq (.seq (.region c_l15_ChainGrows_r1 none [1, 3, 5, 16]) (.cond (.t 16) (.seq (.region c_l15_ChainGrows_r2 none [6]) (.ret)) (.skip))) (.seq (.seq (.region c_l15_ChainGrows_r3 none [1, 3, 5, 30]) (.cond (.t 30) (.seq (.region c_l15_ChainGrows_r4 none [6]) (.ret)) (.skip))) (.seq (.region c_l15_ChainGrows_r5 none [1, 3, 5, 7, 8, 9]) (.seq (.seq (.region c_l15_ChainGrows_r6 none [1, 3, 5, 7, 8, 39]) (.cond (.t 39) (.seq (.region c_l15_ChainGrows_r7 none [6]) (.ret)) (.skip))) (.seq (.region c_l15_ChainGrows_r8 none [1, 3, 5, 7, 8, 10]) (.seq (.seq (.region c_l15_ChainGrows_r9 none [1, 3, 5, 7, 8, 10, 41]) (.cond (.t 41) (.region c_l15_ChainGrows_r10 none [1, 3, 5, 7, 8, 10]) (.skip))) (.seq (.region c_l15_ChainGrows_r11 (some ([0, 0, 0, 6, 0, 16, 62, 127, 255, 511, 511, 511, 0, 5119, 14335, 32767], [(0, 1), (0, 3), (1, 4), (3, 4), (0, 5), (1, 5), (3, 5), (0, 6), (0, 12), (1, 12), (3, 12), (4, 12), (5, 12), (6, 12), (7, 12)])) [5, 7, 8, 10, 11, 12, 13]) (.seq (.region c_l15_ChainGrows_r12 none [5, 8, 11, 12, 13, 14]) (.seq (.region c_l15_ChainGrows_r13 none [6]) (.ret))))))))))
@[simp] def R_l15_ChainGrows : List CRes := [.tmp 6]
theorem k_l15_ChainGrows : chkFn Tryd.prog fn_l15_ChainGrows c_l15_ChainGrows R_l15_ChainGrows 3 = true := by kernel_rfl
/-! wapentake/wapentakelaw15.alive -/
@[simp] def a_l15_alive_r0 : List COper := [
  ⟨(some 0), .mov, [.c (.bool false)], none⟩]
def c_l15_alive_r0 : List COper := a_l15_alive_r0
instance : Reg c_l15_alive_r0 a_l15_alive_r0 1 := ⟨rfl, rfl⟩
@[simp] def a_l15_alive_r1 : List COper := [
  ⟨(some 5), .build [.v (.int .i64 0), .node [.arr 1 (rep 32 (.v (.int .u8 0))), .v (.int .i64 0)]] [0], [.c (.int .i64 1)], none⟩,
  ⟨(some 6), .bslice 34 1 (.node [.v (.int .i64 0), .node [.arr 1 (rep 32 (.v (.int .u8 0))), .v (.int .i64 0)]]) [0], [.t 5], none⟩,
  ⟨(some 7), .build [.v (.int .i64 0), .v (.slice none 0 0)] [1], [.t 6], none⟩,
  ⟨(some 1), .alloc (.node [.v (.int .i64 0), .v (.slice none 0 0)]), [], none⟩,
  ⟨none, .store true 2, [.t 1, .t 7], none⟩]
def c_l15_alive_r1 : List COper := a_l15_alive_r1
instance : Reg c_l15_alive_r1 a_l15_alive_r1 5 := ⟨rfl, rfl⟩
@[simp] def a_l15_alive_r2 : List COper := [
  ⟨(some 9), .load true 2, [.t 1], none⟩,
  ⟨(some 10), .call fn_chain_Check, [.t 9, .c (.slice none 0 0)], none⟩,
  ⟨(some 8), .mov, [.t 10], none⟩,
  ⟨(some 11), .ext 0, [.t 8], none⟩,
  ⟨(some 12), .ext 1, [.t 8], none⟩,
  ⟨(some 13), .ext 2, [.t 8], none⟩,
  ⟨(some 2), .alloc (.node [.v (.int .i64 0), .v (.slice none 0 0)]), [], none⟩,
  ⟨none, .store true 2, [.t 2, .t 11], none⟩,
  ⟨(some 3), .mov, [.t 12], none⟩,
  ⟨(some 4), .mov, [.t 13], none⟩]
def c_l15_alive_r2 : List COper := a_l15_alive_r2
instance : Reg c_l15_alive_r2 a_l15_alive_r2 10 := ⟨rfl, rfl⟩
@[simp] def a_l15_alive_r3 : List COper := [
  ⟨(some 14), .mov, [.t 4], none⟩,
  ⟨(some 15), .bin .eql, [.t 14, .c (.int .i64 0)], none⟩,
  ⟨(some 16), .mov, [.t 15], none⟩,
  ⟨(some 17), .mov, [.t 3], (some (16, true))⟩,
  ⟨(some 18), .bin .eql, [.t 17, .c (.int .i64 0)], (some (16, true))⟩,
  ⟨(some 19), .pick, [.t 16, .t 18, .c (.bool false)], none⟩,
  ⟨(some 20), .mov, [.t 19], none⟩,
  ⟨(some 21), .faddr 1 1 false, [.t 2], (some (20, true))⟩,
  ⟨(some 22), .load false 1, [.t 21], (some (20, true))⟩,
  ⟨(some 23), .len, [.t 22], (some (20, true))⟩,
  ⟨(some 24), .bin .eql, [.t 23, .c (.int .i64 1)], (some (20, true))⟩,
  ⟨(some 25), .pick, [.t 20, .t 24, .c (.bool false)], none⟩,
  ⟨(some 26), .mov, [.t 25], none⟩,
  ⟨(some 27), .load true 2, [.t 1], (some (26, true))⟩,
  ⟨(some 28), .build [.node [.v (.int .i64 0), .v (.int .i64 0), .arr 1 (rep 32 (.v (.int .u8 0))), .arr 1 (rep 32 (.v (.int .u8 0))), .arr 1 (rep 32 (.v (.int .u8 0))), .v (.slice none 0 0)], .node [.v (.int .i64 0), .v (.slice none 0 0)], .node [.v (.int .i64 0), .v (.slice none 0 0)]] [], [], (some (26, true))⟩,
  ⟨(some 29), .call fn_chain_Step, [.t 27, .c (.int .i64 0), .t 28], (some (26, true))⟩,
  ⟨(some 30), .bin .eql, [.t 29, .c (.int .i64 12)], (some (26, true))⟩,
  ⟨(some 31), .pick, [.t 26, .t 30, .c (.bool false)], none⟩,
  ⟨(some 0), .mov, [.t 31], none⟩]
def c_l15_alive_r3 : List COper := a_l15_alive_r3
instance : Reg c_l15_alive_r3 a_l15_alive_r3 19 := ⟨rfl, rfl⟩
@[simp] def c_l15_alive : CCode :=
  .seq (.region c_l15_alive_r0 none []) (.seq (.region c_l15_alive_r1 none [1]) (.seq (.region c_l15_alive_r2 none [1, 2, 3, 4]) (.seq (.region c_l15_alive_r3 none [0]) (.ret))))
@[simp] def R_l15_alive : List CRes := [.tmp 0]
theorem k_l15_alive : chkFn Tryd.prog fn_l15_alive c_l15_alive R_l15_alive 0 = true := by kernel_rfl
/-! wapentake/wapentakelaw15.great -/
@[simp] def a_l15_great_r0 : List COper := [
  ⟨(some 2), .box, [.t 0], none⟩,
  ⟨(some 4), .mov, [.c (.bool false)], none⟩]
def c_l15_great_r0 : List COper := a_l15_great_r0
instance : Reg c_l15_great_r0 a_l15_great_r0 2 := ⟨rfl, rfl⟩
@[simp] def a_l15_great_r1 : List COper := [
  ⟨(some 9), .faddr 1 1 false, [.t 2], none⟩,
  ⟨(some 10), .load false 1, [.t 9], none⟩,
  ⟨(some 11), .len, [.t 10], none⟩,
  ⟨(some 12), .bin .gtr, [.t 11, .c (.int .i64 20)], none⟩,
  ⟨(some 13), .mov, [.t 12], none⟩,
  ⟨(some 14), .mov, [.t 1], (some (13, false))⟩,
  ⟨(some 15), .len, [.t 14], (some (13, false))⟩,
  ⟨(some 16), .bin .gtr, [.t 15, .c (.int .i64 6)], (some (13, false))⟩,
  ⟨(some 17), .pick, [.t 13, .c (.bool true), .t 16], none⟩]
def c_l15_great_r1 : List COper := a_l15_great_r1
instance : Reg c_l15_great_r1 a_l15_great_r1 9 := ⟨rfl, rfl⟩
@[simp] def a_l15_great_r2 : List COper := [
  ⟨(some 4), .mov, [.c (.bool true)], none⟩]
def c_l15_great_r2 : List COper := a_l15_great_r2
instance : Reg c_l15_great_r2 a_l15_great_r2 1 := ⟨rfl, rfl⟩
@[simp] def a_l15_great_r3 : List COper := [
  ⟨(some 18), .mov, [.t 1], none⟩,
  ⟨(some 19), .len, [.t 18], none⟩,
  ⟨(some 20), .mov, [.c (.int .i64 0)], none⟩]
def c_l15_great_r3 : List COper := a_l15_great_r3
instance : Reg c_l15_great_r3 a_l15_great_r3 3 := ⟨rfl, rfl⟩
@[simp] def a_l15_great_r4 : List COper := [
  ⟨(some 21), .bin .lss, [.t 20, .t 19], none⟩]
def c_l15_great_r4 : List COper := a_l15_great_r4
instance : Reg c_l15_great_r4 a_l15_great_r4 1 := ⟨rfl, rfl⟩
@[simp] def a_l15_great_r5 : List COper := [
  ⟨(some 22), .iaddr 103, [.t 18, .t 20], none⟩,
  ⟨(some 23), .load true 103, [.t 22], none⟩,
  ⟨(some 6), .alloc (.node [.node [.v (.int .i64 0), .v (.int .i64 0), .arr 1 (rep 32 (.v (.int .u8 0))), .arr 1 (rep 32 (.v (.int .u8 0))), .arr 1 (rep 32 (.v (.int .u8 0))), .v (.slice none 0 0)], .node [.v (.int .i64 0), .v (.slice none 0 0)], .node [.v (.int .i64 0), .v (.slice none 0 0)]]), [], none⟩,
  ⟨none, .store true 103, [.t 6, .t 23], none⟩]
def c_l15_great_r5 : List COper := a_l15_great_r5
instance : Reg c_l15_great_r5 a_l15_great_r5 4 := ⟨rfl, rfl⟩
@[simp] def a_l15_great_r6 : List COper := [
  ⟨(some 24), .faddr 101 2 true, [.t 6], none⟩,
  ⟨(some 25), .faddr 1 1 false, [.t 24], none⟩,
  ⟨(some 26), .load false 1, [.t 25], none⟩,
  ⟨(some 27), .len, [.t 26], none⟩,
  ⟨(some 28), .bin .gtr, [.t 27, .c (.int .i64 20)], none⟩,
  ⟨(some 29), .mov, [.t 28], none⟩,
  ⟨(some 30), .faddr 99 2 true, [.t 6], (some (29, false))⟩,
  ⟨(some 31), .faddr 1 1 false, [.t 30], (some (29, false))⟩,
  ⟨(some 32), .load false 1, [.t 31], (some (29, false))⟩,
  ⟨(some 33), .len, [.t 32], (some (29, false))⟩,
  ⟨(some 34), .bin .gtr, [.t 33, .c (.int .i64 12)], (some (29, false))⟩,
  ⟨(some 35), .pick, [.t 29, .c (.bool true), .t 34], none⟩,
  ⟨(some 36), .mov, [.t 35], none⟩,
  ⟨(some 37), .faddr 0 99 true, [.t 6], (some (36, false))⟩,
  ⟨(some 38), .load true 99, [.t 37], (some (36, false))⟩,
  ⟨(some 39), .call fn_r12_Great, [.t 38, .c (.int .i64 4096)], (some (36, false))⟩,
  ⟨(some 40), .pick, [.t 36, .c (.bool true), .t 39], none⟩]
def c_l15_great_r6 : List COper := a_l15_great_r6
instance : Reg c_l15_great_r6 a_l15_great_r6 17 := ⟨rfl, rfl⟩
@[simp] def a_l15_great_r7 : List COper := [
  ⟨(some 4), .mov, [.c (.bool true)], none⟩]
def c_l15_great_r7 : List COper := a_l15_great_r7
instance : Reg c_l15_great_r7 a_l15_great_r7 1 := ⟨rfl, rfl⟩
@[simp] def a_l15_great_r8 : List COper := [
  ⟨(some 41), .faddr 99 2 true, [.t 6], none⟩,
  ⟨(some 42), .faddr 1 1 false, [.t 41], none⟩,
  ⟨(some 43), .load false 1, [.t 42], none⟩,
  ⟨(some 44), .len, [.t 43], none⟩,
  ⟨(some 45), .mov, [.c (.int .i64 0)], none⟩]
def c_l15_great_r8 : List COper := a_l15_great_r8
instance : Reg c_l15_great_r8 a_l15_great_r8 5 := ⟨rfl, rfl⟩
@[simp] def a_l15_great_r9 : List COper := [
  ⟨(some 46), .bin .lss, [.t 45, .t 44], none⟩]
def c_l15_great_r9 : List COper := a_l15_great_r9
instance : Reg c_l15_great_r9 a_l15_great_r9 1 := ⟨rfl, rfl⟩
@[simp] def a_l15_great_r10 : List COper := [
  ⟨(some 47), .iaddr 41, [.t 43, .t 45], none⟩,
  ⟨(some 48), .load true 41, [.t 47], none⟩,
  ⟨(some 8), .alloc (.node [.v (.int .i64 0), .v (.int .i64 0), .v (.int .i64 0), .v (.int .i64 0), .arr 1 (rep 32 (.v (.int .u8 0))), .v (.int .i64 0), .node [.v (.int .i64 0), .node [.v (.slice none 0 0), .v (.slice none 0 0)], .v (.slice none 0 0)]]), [], none⟩,
  ⟨none, .store true 41, [.t 8, .t 48], none⟩]
def c_l15_great_r10 : List COper := a_l15_great_r10
instance : Reg c_l15_great_r10 a_l15_great_r10 4 := ⟨rfl, rfl⟩
@[simp] def a_l15_great_r11 : List COper := [
  ⟨(some 49), .faddr 37 4 true, [.t 8], none⟩,
  ⟨(some 50), .faddr 1 2 true, [.t 49], none⟩,
  ⟨(some 51), .faddr 0 1 false, [.t 50], none⟩,
  ⟨(some 52), .load false 1, [.t 51], none⟩,
  ⟨(some 53), .len, [.t 52], none⟩,
  ⟨(some 54), .bin .gtr, [.t 53, .c (.int .i64 200)], none⟩,
  ⟨(some 55), .mov, [.t 54], none⟩,
  ⟨(some 56), .faddr 37 4 true, [.t 8], (some (55, false))⟩,
  ⟨(some 57), .faddr 1 2 true, [.t 56], (some (55, false))⟩,
  ⟨(some 58), .faddr 1 1 false, [.t 57], (some (55, false))⟩,
  ⟨(some 59), .load false 1, [.t 58], (some (55, false))⟩,
  ⟨(some 60), .len, [.t 59], (some (55, false))⟩,
  ⟨(some 61), .bin .gtr, [.t 60, .c (.int .i64 200)], (some (55, false))⟩,
  ⟨(some 62), .pick, [.t 55, .c (.bool true), .t 61], none⟩,
  ⟨(some 63), .mov, [.t 62], none⟩,
  ⟨(some 64), .faddr 37 4 true, [.t 8], (some (63, false))⟩,
  ⟨(some 65), .faddr 3 1 false, [.t 64], (some (63, false))⟩,
  ⟨(some 66), .load false 1, [.t 65], (some (63, false))⟩,
  ⟨(some 67), .len, [.t 66], (some (63, false))⟩,
  ⟨(some 68), .bin .gtr, [.t 67, .c (.int .i64 200)], (some (63, false))⟩,
  ⟨(some 69), .pick, [.t 63, .c (.bool true), .t 68], none⟩]
def c_l15_great_r11 : List COper := a_l15_great_r11
instance : Reg c_l15_great_r11 a_l15_great_r11 21 := ⟨rfl, rfl⟩
@[simp] def a_l15_great_r12 : List COper := [
  ⟨(some 4), .mov, [.c (.bool true)], none⟩]
def c_l15_great_r12 : List COper := a_l15_great_r12
instance : Reg c_l15_great_r12 a_l15_great_r12 1 := ⟨rfl, rfl⟩
@[simp] def a_l15_great_r13 : List COper := [
  ⟨(some 70), .bin .add, [.t 45, .c (.int .i64 1)], none⟩,
  ⟨(some 45), .mov, [.t 70], none⟩]
def c_l15_great_r13 : List COper := a_l15_great_r13
instance : Reg c_l15_great_r13 a_l15_great_r13 2 := ⟨rfl, rfl⟩
@[simp] def a_l15_great_r14 : List COper := [
  ⟨(some 71), .bin .add, [.t 20, .c (.int .i64 1)], none⟩,
  ⟨(some 20), .mov, [.t 71], none⟩]
def c_l15_great_r14 : List COper := a_l15_great_r14
instance : Reg c_l15_great_r14 a_l15_great_r14 2 := ⟨rfl, rfl⟩
@[simp] def a_l15_great_r15 : List COper := [
  ⟨(some 4), .mov, [.c (.bool false)], none⟩]
def c_l15_great_r15 : List COper := a_l15_great_r15
instance : Reg c_l15_great_r15 a_l15_great_r15 1 := ⟨rfl, rfl⟩
@[simp] def c_l15_great : CCode :=
  .seq (.region c_l15_great_r0 none [1, 2]) (.seq (.seq (.region c_l15_great_r1 none [1, 17]) (.cond (.t 17) (.seq (.region c_l15_great_r2 none [4]) (.ret)) (.skip))) (.seq (.seq (.region c_l15_great_r3 none [18, 19, 20]) (.block 0 (.loop (.seq (.region c_l15_great_r4 none [18, 19, 20, 21]) (.seq (.cond (.t 21) (.skip) (.exit 0)) (.seq (.block 1 (.seq (.region c_l15_great_r5 none [6, 18, 19, 20]) (.seq (.seq (.region c_l15_great_r6 none [6, 18, 19, 20, 40]) (.cond (.t 40) (.seq (.region c_l15_great_r7 none [4]) (.ret)) (.skip))) (.seq (.region c_l15_great_r8 none [18, 19, 20, 43, 44, 45]) (.block 2 (.loop (.seq (.region c_l15_great_r9 none [18, 19, 20, 43, 44, 45, 46]) (.seq (.cond (.t 46) (.skip) (.exit 2)) (.seq (.block 3 (.seq (.region c_l15_great_r10 none [8, 18, 19, 20, 43, 44, 45]) (.seq (.region c_l15_great_r11 none [18, 19, 20, 43, 44, 45, 69]) (.cond (.t 69) (.seq (.region c_l15_great_r12 none [4]) (.ret)) (.skip))))) (.region c_l15_great_r13 none [18, 19, 20, 43, 44, 45])))))))))) (.region c_l15_great_r14 none [18, 19, 20]))))))) (.seq (.region c_l15_great_r15 none [4]) (.ret))))
@[simp] def R_l15_great : List CRes := [.tmp 4]
theorem k_l15_great : chkFn Tryd.prog fn_l15_great c_l15_great R_l15_great 2 = true := by kernel_rfl
/-! wapentake/chain.Step -/
@[simp] def a_chain_Step_r0 : List COper := [
  ⟨(some 3), .box, [.t 0], none⟩,
  ⟨(some 5), .box, [.t 2], none⟩,
  ⟨(some 6), .mov, [.c (.int .i64 0)], none⟩]
def c_chain_Step_r0 : List COper := a_chain_Step_r0
instance : Reg c_chain_Step_r0 a_chain_Step_r0 3 := ⟨rfl, rfl⟩
@[simp] def a_chain_Step_r1 : List COper := [
  ⟨(some 8), .faddr 0 99 true, [.t 5], none⟩,
  ⟨(some 9), .faddr 1 1 false, [.t 8], none⟩,
  ⟨(some 10), .load false 1, [.t 9], none⟩,
  ⟨(some 11), .mov, [.t 1], none⟩,
  ⟨(some 12), .bin .leq, [.t 10, .t 11], none⟩,
  ⟨(some 13), .mov, [.t 12], none⟩,
  ⟨(some 14), .faddr 101 2 true, [.t 5], (some (13, false))⟩,
  ⟨(some 15), .load true 2, [.t 14], (some (13, false))⟩,
  ⟨(some 16), .call fn_config_Good, [.t 15], (some (13, false))⟩,
  ⟨(some 17), .not, [.t 16], (some (13, false))⟩,
  ⟨(some 18), .pick, [.t 13, .c (.bool true), .t 17], none⟩,
  ⟨(some 19), .mov, [.t 18], none⟩,
  ⟨(some 20), .faddr 101 2 true, [.t 5], (some (19, false))⟩,
  ⟨(some 21), .faddr 0 1 false, [.t 20], (some (19, false))⟩,
  ⟨(some 22), .load false 1, [.t 21], (some (19, false))⟩,
  ⟨(some 23), .faddr 0 1 false, [.t 3], (some (19, false))⟩,
  ⟨(some 24), .load false 1, [.t 23], (some (19, false))⟩,
  ⟨(some 25), .bin .leq, [.t 22, .t 24], (some (19, false))⟩,
  ⟨(some 26), .pick, [.t 19, .c (.bool true), .t 25], none⟩,
  ⟨(some 7), .mov, [.t 26], none⟩]
def c_chain_Step_r1 : List COper := a_chain_Step_r1
instance : Reg c_chain_Step_r1 a_chain_Step_r1 20 := ⟨rfl, rfl⟩
@[simp] def a_chain_Step_r2 : List COper := [
  ⟨(some 6), .mov, [.c (.int .i64 12)], none⟩]
def c_chain_Step_r2 : List COper := a_chain_Step_r2
instance : Reg c_chain_Step_r2 a_chain_Step_r2 1 := ⟨rfl, rfl⟩
@[simp] def a_chain_Step_r3 : List COper := [
  ⟨(some 28), .load true 2, [.t 3], none⟩,
  ⟨(some 29), .faddr 0 99 true, [.t 5], none⟩,
  ⟨(some 30), .load true 99, [.t 29], none⟩,
  ⟨(some 31), .faddr 99 2 true, [.t 5], none⟩,
  ⟨(some 32), .load true 2, [.t 31], none⟩,
  ⟨(some 33), .call fn_cert_Check, [.t 28, .t 30, .t 32], none⟩,
  ⟨(some 34), .not, [.t 33], none⟩,
  ⟨(some 27), .mov, [.t 34], none⟩]
def c_chain_Step_r3 : List COper := a_chain_Step_r3
instance : Reg c_chain_Step_r3 a_chain_Step_r3 8 := ⟨rfl, rfl⟩
@[simp] def a_chain_Step_r4 : List COper := [
  ⟨(some 6), .mov, [.c (.int .i64 10)], none⟩]
def c_chain_Step_r4 : List COper := a_chain_Step_r4
instance : Reg c_chain_Step_r4 a_chain_Step_r4 1 := ⟨rfl, rfl⟩
@[simp] def a_chain_Step_r5 : List COper := [
  ⟨(some 36), .faddr 101 2 true, [.t 5], none⟩,
  ⟨(some 37), .load true 2, [.t 36], none⟩,
  ⟨(some 38), .call fn_config_Digest, [.t 37], none⟩,
  ⟨(some 39), .faddr 0 99 true, [.t 5], none⟩,
  ⟨(some 40), .faddr 66 32 true, [.t 39], none⟩,
  ⟨(some 41), .load true 32, [.t 40], none⟩,
  ⟨(some 42), .eqa true .u8 32, [.t 38, .t 41], none⟩,
  ⟨(some 35), .mov, [.t 42], none⟩]
def c_chain_Step_r5 : List COper := a_chain_Step_r5
instance : Reg c_chain_Step_r5 a_chain_Step_r5 8 := ⟨rfl, rfl⟩
@[simp] def a_chain_Step_r6 : List COper := [
  ⟨(some 6), .mov, [.c (.int .i64 13)], none⟩]
def c_chain_Step_r6 : List COper := a_chain_Step_r6
instance : Reg c_chain_Step_r6 a_chain_Step_r6 1 := ⟨rfl, rfl⟩
@[simp] def a_chain_Step_r7 : List COper := [
  ⟨(some 6), .mov, [.c (.int .i64 0)], none⟩]
def c_chain_Step_r7 : List COper := a_chain_Step_r7
instance : Reg c_chain_Step_r7 a_chain_Step_r7 1 := ⟨rfl, rfl⟩
@[simp] def c_chain_Step : CCode :=
  .seq (.region c_chain_Step_r0 none [1, 3, 5]) (.seq (.block 0 (.seq (.region c_chain_Step_r1 none [3, 5, 7]) (.cond (.t 7) (.seq (.region c_chain_Step_r2 none [6]) (.ret)) (.seq (.region c_chain_Step_r3 none [5, 27]) (.cond (.t 27) (.seq (.region c_chain_Step_r4 none [6]) (.ret)) (.seq (.region c_chain_Step_r5 (some ([0, 1, 3, 0, 8, 24, 63, 127], [(2, 5)])) [35]) (.cond (.t 35) (.seq (.region c_chain_Step_r6 none [6]) (.ret)) (.skip)))))))) (.seq (.region c_chain_Step_r7 none [6]) (.ret)))
@[simp] def R_chain_Step : List CRes := [.tmp 6]
theorem k_chain_Step : chkFn Tryd.prog fn_chain_Step c_chain_Step R_chain_Step 3 = true := by kernel_rfl
/-! wapentake/wapentakeref15.Step -/
@[simp] def a_r15_Step_r0 : List COper := [
  ⟨(some 3), .box, [.t 0], none⟩,
  ⟨(some 5), .box, [.t 2], none⟩,
  ⟨(some 6), .mov, [.c (.int .i64 0)], none⟩]
def c_r15_Step_r0 : List COper := a_r15_Step_r0
instance : Reg c_r15_Step_r0 a_r15_Step_r0 3 := ⟨rfl, rfl⟩
@[simp] def a_r15_Step_r1 : List COper := [
  ⟨(some 7), .faddr 0 99 true, [.t 5], none⟩,
  ⟨(some 8), .faddr 1 1 false, [.t 7], none⟩,
  ⟨(some 9), .load false 1, [.t 8], none⟩,
  ⟨(some 10), .mov, [.t 1], none⟩,
  ⟨(some 11), .bin .leq, [.t 9, .t 10], none⟩,
  ⟨(some 12), .mov, [.t 11], none⟩,
  ⟨(some 13), .faddr 101 2 true, [.t 5], (some (12, false))⟩,
  ⟨(some 14), .load true 2, [.t 13], (some (12, false))⟩,
  ⟨(some 15), .call fn_r08_Good, [.t 14], (some (12, false))⟩,
  ⟨(some 16), .not, [.t 15], (some (12, false))⟩,
  ⟨(some 17), .pick, [.t 12, .c (.bool true), .t 16], none⟩,
  ⟨(some 18), .mov, [.t 17], none⟩,
  ⟨(some 19), .faddr 101 2 true, [.t 5], (some (18, false))⟩,
  ⟨(some 20), .faddr 0 1 false, [.t 19], (some (18, false))⟩,
  ⟨(some 21), .load false 1, [.t 20], (some (18, false))⟩,
  ⟨(some 22), .faddr 0 1 false, [.t 3], (some (18, false))⟩,
  ⟨(some 23), .load false 1, [.t 22], (some (18, false))⟩,
  ⟨(some 24), .bin .leq, [.t 21, .t 23], (some (18, false))⟩,
  ⟨(some 25), .pick, [.t 18, .c (.bool true), .t 24], none⟩]
def c_r15_Step_r1 : List COper := a_r15_Step_r1
instance : Reg c_r15_Step_r1 a_r15_Step_r1 19 := ⟨rfl, rfl⟩
@[simp] def a_r15_Step_r2 : List COper := [
  ⟨(some 6), .mov, [.c (.int .i64 12)], none⟩]
def c_r15_Step_r2 : List COper := a_r15_Step_r2
instance : Reg c_r15_Step_r2 a_r15_Step_r2 1 := ⟨rfl, rfl⟩
@[simp] def a_r15_Step_r3 : List COper := [
  ⟨(some 26), .load true 2, [.t 3], none⟩,
  ⟨(some 27), .faddr 0 99 true, [.t 5], none⟩,
  ⟨(some 28), .load true 99, [.t 27], none⟩,
  ⟨(some 29), .faddr 99 2 true, [.t 5], none⟩,
  ⟨(some 30), .load true 2, [.t 29], none⟩,
  ⟨(some 31), .call fn_r14_Check, [.t 26, .t 28, .t 30], none⟩,
  ⟨(some 32), .not, [.t 31], none⟩]
def c_r15_Step_r3 : List COper := a_r15_Step_r3
instance : Reg c_r15_Step_r3 a_r15_Step_r3 7 := ⟨rfl, rfl⟩
@[simp] def a_r15_Step_r4 : List COper := [
  ⟨(some 6), .mov, [.c (.int .i64 10)], none⟩]
def c_r15_Step_r4 : List COper := a_r15_Step_r4
instance : Reg c_r15_Step_r4 a_r15_Step_r4 1 := ⟨rfl, rfl⟩
@[simp] def a_r15_Step_r5 : List COper := [
  ⟨(some 33), .faddr 101 2 true, [.t 5], none⟩,
  ⟨(some 34), .load true 2, [.t 33], none⟩,
  ⟨(some 35), .call fn_r08_Digest, [.t 34], none⟩,
  ⟨(some 36), .faddr 0 99 true, [.t 5], none⟩,
  ⟨(some 37), .faddr 66 32 true, [.t 36], none⟩,
  ⟨(some 38), .load true 32, [.t 37], none⟩,
  ⟨(some 39), .eqa true .u8 32, [.t 35, .t 38], none⟩]
def c_r15_Step_r5 : List COper := a_r15_Step_r5
instance : Reg c_r15_Step_r5 a_r15_Step_r5 7 := ⟨rfl, rfl⟩
@[simp] def a_r15_Step_r6 : List COper := [
  ⟨(some 6), .mov, [.c (.int .i64 13)], none⟩]
def c_r15_Step_r6 : List COper := a_r15_Step_r6
instance : Reg c_r15_Step_r6 a_r15_Step_r6 1 := ⟨rfl, rfl⟩
@[simp] def a_r15_Step_r7 : List COper := [
  ⟨(some 6), .mov, [.c (.int .i64 0)], none⟩]
def c_r15_Step_r7 : List COper := a_r15_Step_r7
instance : Reg c_r15_Step_r7 a_r15_Step_r7 1 := ⟨rfl, rfl⟩
@[simp] def c_r15_Step : CCode :=
  .seq (.region c_r15_Step_r0 none [1, 3, 5]) (.seq (.seq (.region c_r15_Step_r1 none [3, 5, 25]) (.cond (.t 25) (.seq (.region c_r15_Step_r2 none [6]) (.ret)) (.skip))) (.seq (.seq (.region c_r15_Step_r3 none [5, 32]) (.cond (.t 32) (.seq (.region c_r15_Step_r4 none [6]) (.ret)) (.skip))) (.seq (.seq (.region c_r15_Step_r5 (some ([0, 1, 3, 0, 8, 24, 63], [(2, 5)])) [39]) (.cond (.t 39) (.seq (.region c_r15_Step_r6 none [6]) (.ret)) (.skip))) (.seq (.region c_r15_Step_r7 none [6]) (.ret)))))
@[simp] def R_r15_Step : List CRes := [.tmp 6]
theorem k_r15_Step : chkFn Tryd.prog fn_r15_Step c_r15_Step R_r15_Step 3 = true := by kernel_rfl
/-! wapentake/chain.Check -/
@[simp] def a_chain_Check_r0 : List COper := [
  ⟨(some 2), .box, [.t 0], none⟩,
  ⟨(some 4), .alloc (.node [.v (.int .i64 0), .v (.slice none 0 0)]), [], none⟩,
  ⟨(some 5), .mov, [.c (.int .i64 0)], none⟩,
  ⟨(some 6), .mov, [.c (.int .i64 0)], none⟩]
def c_chain_Check_r0 : List COper := a_chain_Check_r0
instance : Reg c_chain_Check_r0 a_chain_Check_r0 4 := ⟨rfl, rfl⟩
@[simp] def a_chain_Check_r1 : List COper := [
  ⟨(some 12), .load true 2, [.t 2], none⟩,
  ⟨(some 13), .call fn_config_Good, [.t 12], none⟩,
  ⟨(some 14), .not, [.t 13], none⟩]
def c_chain_Check_r1 : List COper := a_chain_Check_r1
instance : Reg c_chain_Check_r1 a_chain_Check_r1 3 := ⟨rfl, rfl⟩
@[simp] def a_chain_Check_r2 : List COper := [
  ⟨(some 15), .build [.v (.int .i64 0), .v (.slice none 0 0)] [], [], none⟩,
  ⟨none, .store true 2, [.t 4, .t 15], none⟩,
  ⟨(some 5), .mov, [.c (.int .i64 0)], none⟩,
  ⟨(some 6), .mov, [.c (.int .i64 1)], none⟩]
def c_chain_Check_r2 : List COper := a_chain_Check_r2
instance : Reg c_chain_Check_r2 a_chain_Check_r2 4 := ⟨rfl, rfl⟩
@[simp] def a_chain_Check_r3 : List COper := [
  ⟨(some 16), .mov, [.t 1], none⟩,
  ⟨(some 17), .len, [.t 16], none⟩,
  ⟨(some 18), .bin .gtr, [.t 17, .c (.int .i64 1024)], none⟩]
def c_chain_Check_r3 : List COper := a_chain_Check_r3
instance : Reg c_chain_Check_r3 a_chain_Check_r3 3 := ⟨rfl, rfl⟩
@[simp] def a_chain_Check_r4 : List COper := [
  ⟨(some 19), .build [.v (.int .i64 0), .v (.slice none 0 0)] [], [], none⟩,
  ⟨none, .store true 2, [.t 4, .t 19], none⟩,
  ⟨(some 5), .mov, [.c (.int .i64 0)], none⟩,
  ⟨(some 6), .mov, [.c (.int .i64 11)], none⟩]
def c_chain_Check_r4 : List COper := a_chain_Check_r4
instance : Reg c_chain_Check_r4 a_chain_Check_r4 4 := ⟨rfl, rfl⟩
@[simp] def a_chain_Check_r5 : List COper := [
  ⟨(some 20), .load true 2, [.t 2], none⟩,
  ⟨(some 7), .alloc (.node [.v (.int .i64 0), .v (.slice none 0 0)]), [], none⟩,
  ⟨none, .store true 2, [.t 7, .t 20], none⟩,
  ⟨(some 8), .mov, [.c (.int .i64 0)], none⟩]
def c_chain_Check_r5 : List COper := a_chain_Check_r5
instance : Reg c_chain_Check_r5 a_chain_Check_r5 4 := ⟨rfl, rfl⟩
@[simp] def a_chain_Check_r6 : List COper := [
  ⟨(some 21), .mov, [.t 1], none⟩,
  ⟨(some 22), .len, [.t 21], none⟩,
  ⟨(some 23), .mov, [.c (.int .i64 0)], none⟩]
def c_chain_Check_r6 : List COper := a_chain_Check_r6
instance : Reg c_chain_Check_r6 a_chain_Check_r6 3 := ⟨rfl, rfl⟩
@[simp] def a_chain_Check_r7 : List COper := [
  ⟨(some 24), .bin .lss, [.t 23, .t 22], none⟩]
def c_chain_Check_r7 : List COper := a_chain_Check_r7
instance : Reg c_chain_Check_r7 a_chain_Check_r7 1 := ⟨rfl, rfl⟩
@[simp] def a_chain_Check_r8 : List COper := [
  ⟨(some 25), .mov, [.t 23], none⟩,
  ⟨(some 26), .iaddr 103, [.t 21, .t 23], none⟩,
  ⟨(some 27), .load true 103, [.t 26], none⟩,
  ⟨(some 10), .alloc (.node [.node [.v (.int .i64 0), .v (.int .i64 0), .arr 1 (rep 32 (.v (.int .u8 0))), .arr 1 (rep 32 (.v (.int .u8 0))), .arr 1 (rep 32 (.v (.int .u8 0))), .v (.slice none 0 0)], .node [.v (.int .i64 0), .v (.slice none 0 0)], .node [.v (.int .i64 0), .v (.slice none 0 0)]]), [], none⟩,
  ⟨(some 9), .mov, [.t 25], none⟩,
  ⟨none, .store true 103, [.t 10, .t 27], none⟩]
def c_chain_Check_r8 : List COper := a_chain_Check_r8
instance : Reg c_chain_Check_r8 a_chain_Check_r8 6 := ⟨rfl, rfl⟩
@[simp] def a_chain_Check_r9 : List COper := [
  ⟨(some 28), .load true 2, [.t 7], none⟩,
  ⟨(some 29), .mov, [.t 8], none⟩,
  ⟨(some 30), .load true 103, [.t 10], none⟩,
  ⟨(some 31), .call fn_chain_Step, [.t 28, .t 29, .t 30], none⟩,
  ⟨(some 11), .mov, [.t 31], none⟩]
def c_chain_Check_r9 : List COper := a_chain_Check_r9
instance : Reg c_chain_Check_r9 a_chain_Check_r9 5 := ⟨rfl, rfl⟩
@[simp] def a_chain_Check_r10 : List COper := [
  ⟨(some 32), .mov, [.t 11], none⟩,
  ⟨(some 33), .bin .neq, [.t 32, .c (.int .i64 0)], none⟩]
def c_chain_Check_r10 : List COper := a_chain_Check_r10
instance : Reg c_chain_Check_r10 a_chain_Check_r10 2 := ⟨rfl, rfl⟩
@[simp] def a_chain_Check_r11 : List COper := [
  ⟨(some 34), .build [.v (.int .i64 0), .v (.slice none 0 0)] [], [], none⟩,
  ⟨(some 35), .mov, [.t 9], none⟩,
  ⟨(some 36), .mov, [.t 11], none⟩,
  ⟨none, .store true 2, [.t 4, .t 34], none⟩,
  ⟨(some 5), .mov, [.t 35], none⟩,
  ⟨(some 6), .mov, [.t 36], none⟩]
def c_chain_Check_r11 : List COper := a_chain_Check_r11
instance : Reg c_chain_Check_r11 a_chain_Check_r11 6 := ⟨rfl, rfl⟩
@[simp] def a_chain_Check_r12 : List COper := [
  ⟨(some 37), .faddr 101 2 true, [.t 10], none⟩,
  ⟨(some 38), .load true 2, [.t 37], none⟩,
  ⟨(some 39), .faddr 0 99 true, [.t 10], none⟩,
  ⟨(some 40), .faddr 1 1 false, [.t 39], none⟩,
  ⟨(some 41), .load false 1, [.t 40], none⟩,
  ⟨none, .store true 2, [.t 7, .t 38], none⟩,
  ⟨(some 8), .mov, [.t 41], none⟩]
def c_chain_Check_r12 : List COper := a_chain_Check_r12
instance : Reg c_chain_Check_r12 a_chain_Check_r12 7 := ⟨rfl, rfl⟩
@[simp] def a_chain_Check_r13 : List COper := [
  ⟨(some 42), .bin .add, [.t 23, .c (.int .i64 1)], none⟩,
  ⟨(some 23), .mov, [.t 42], none⟩]
def c_chain_Check_r13 : List COper := a_chain_Check_r13
instance : Reg c_chain_Check_r13 a_chain_Check_r13 2 := ⟨rfl, rfl⟩
@[simp] def a_chain_Check_r14 : List COper := [
  ⟨(some 43), .faddr 0 1 false, [.t 7], none⟩,
  ⟨(some 44), .load false 1, [.t 43], none⟩,
  ⟨(some 45), .bslice 34 0 (.node [.v (.int .i64 0), .node [.arr 1 (rep 32 (.v (.int .u8 0))), .v (.int .i64 0)]]) [], [], none⟩,
  ⟨(some 46), .faddr 1 1 false, [.t 7], none⟩,
  ⟨(some 47), .load false 1, [.t 46], none⟩,
  ⟨(some 48), .app 34 48, [.t 45, .t 47], none⟩,
  ⟨(some 49), .build [.v (.int .i64 0), .v (.slice none 0 0)] [0, 1], [.t 44, .t 48], none⟩,
  ⟨(some 50), .mov, [.t 1], none⟩,
  ⟨(some 51), .len, [.t 50], none⟩,
  ⟨none, .store true 2, [.t 4, .t 49], none⟩,
  ⟨(some 5), .mov, [.t 51], none⟩,
  ⟨(some 6), .mov, [.c (.int .i64 0)], none⟩]
def c_chain_Check_r14 : List COper := a_chain_Check_r14
instance : Reg c_chain_Check_r14 a_chain_Check_r14 12 := ⟨rfl, rfl⟩
@[simp] def c_chain_Check : CCode :=
  .seq (.region c_chain_Check_r0 none [1, 2, 4]) (.seq (.seq (.region c_chain_Check_r1 none [1, 2, 4, 14]) (.cond (.t 14) (.seq (.region c_chain_Check_r2 none [4, 5, 6]) (.ret)) (.skip))) (.seq (.seq (.region c_chain_Check_r3 none [1, 2, 4, 18]) (.cond (.t 18) (.seq (.region c_chain_Check_r4 none [4, 5, 6]) (.ret)) (.skip))) (.seq (.region c_chain_Check_r5 none [1, 4, 7, 8]) (.seq (.seq (.region c_chain_Check_r6 none [1, 4, 7, 8, 21, 22, 23]) (.block 0 (.loop (.seq (.region c_chain_Check_r7 none [1, 4, 7, 8, 21, 22, 23, 24]) (.seq (.cond (.t 24) (.skip) (.exit 0)) (.seq (.block 1 (.seq (.region c_chain_Check_r8 none [1, 4, 7, 8, 9, 10, 21, 22, 23]) (.seq (.seq (.region c_chain_Check_r9 none [1, 4, 7, 9, 10, 11, 21, 22, 23]) (.seq (.region c_chain_Check_r10 none [1, 4, 7, 9, 10, 11, 21, 22, 23, 33]) (.cond (.t 33) (.seq (.region c_chain_Check_r11 none [4, 5, 6]) (.ret)) (.skip)))) (.region c_chain_Check_r12 (some ([0, 1, 0, 4, 12, 3, 63], [(4, 5)])) [1, 4, 7, 8, 21, 22, 23])))) (.region c_chain_Check_r13 none [1, 4, 7, 8, 21, 22, 23]))))))) (.seq (.region c_chain_Check_r14 (some ([0, 1, 0, 0, 8, 28, 63, 0, 128, 127, 1023, 2047], [(1, 2), (2, 4), (1, 5)])) [4, 5, 6]) (.ret))))))
@[simp] def R_chain_Check : List CRes := [.cell 4 true 2, .tmp 5, .tmp 6]
theorem k_chain_Check : chkFn Tryd.prog fn_chain_Check c_chain_Check R_chain_Check 2 = true := by kernel_rfl
/-! wapentake/wapentakeref15.Check -/
@[simp] def a_r15_Check_r0 : List COper := [
  ⟨(some 2), .box, [.t 0], none⟩,
  ⟨(some 4), .alloc (.node [.v (.int .i64 0), .v (.slice none 0 0)]), [], none⟩,
  ⟨(some 5), .mov, [.c (.int .i64 0)], none⟩,
  ⟨(some 6), .mov, [.c (.int .i64 0)], none⟩]
def c_r15_Check_r0 : List COper := a_r15_Check_r0
instance : Reg c_r15_Check_r0 a_r15_Check_r0 4 := ⟨rfl, rfl⟩
@[simp] def a_r15_Check_r1 : List COper := [
  ⟨(some 11), .load true 2, [.t 2], none⟩,
  ⟨(some 12), .call fn_r08_Good, [.t 11], none⟩,
  ⟨(some 13), .not, [.t 12], none⟩]
def c_r15_Check_r1 : List COper := a_r15_Check_r1
instance : Reg c_r15_Check_r1 a_r15_Check_r1 3 := ⟨rfl, rfl⟩
@[simp] def a_r15_Check_r2 : List COper := [
  ⟨(some 14), .build [.v (.int .i64 0), .v (.slice none 0 0)] [], [], none⟩,
  ⟨none, .store true 2, [.t 4, .t 14], none⟩,
  ⟨(some 5), .mov, [.c (.int .i64 0)], none⟩,
  ⟨(some 6), .mov, [.c (.int .i64 1)], none⟩]
def c_r15_Check_r2 : List COper := a_r15_Check_r2
instance : Reg c_r15_Check_r2 a_r15_Check_r2 4 := ⟨rfl, rfl⟩
@[simp] def a_r15_Check_r3 : List COper := [
  ⟨(some 15), .mov, [.t 1], none⟩,
  ⟨(some 16), .len, [.t 15], none⟩,
  ⟨(some 17), .bin .gtr, [.t 16, .c (.int .i64 1024)], none⟩]
def c_r15_Check_r3 : List COper := a_r15_Check_r3
instance : Reg c_r15_Check_r3 a_r15_Check_r3 3 := ⟨rfl, rfl⟩
@[simp] def a_r15_Check_r4 : List COper := [
  ⟨(some 18), .build [.v (.int .i64 0), .v (.slice none 0 0)] [], [], none⟩,
  ⟨none, .store true 2, [.t 4, .t 18], none⟩,
  ⟨(some 5), .mov, [.c (.int .i64 0)], none⟩,
  ⟨(some 6), .mov, [.c (.int .i64 11)], none⟩]
def c_r15_Check_r4 : List COper := a_r15_Check_r4
instance : Reg c_r15_Check_r4 a_r15_Check_r4 4 := ⟨rfl, rfl⟩
@[simp] def a_r15_Check_r5 : List COper := [
  ⟨(some 7), .mov, [.c (.int .i64 0)], none⟩]
def c_r15_Check_r5 : List COper := a_r15_Check_r5
instance : Reg c_r15_Check_r5 a_r15_Check_r5 1 := ⟨rfl, rfl⟩
@[simp] def a_r15_Check_r6 : List COper := [
  ⟨(some 19), .mov, [.t 1], none⟩,
  ⟨(some 20), .len, [.t 19], none⟩,
  ⟨(some 21), .mov, [.c (.int .i64 0)], none⟩]
def c_r15_Check_r6 : List COper := a_r15_Check_r6
instance : Reg c_r15_Check_r6 a_r15_Check_r6 3 := ⟨rfl, rfl⟩
@[simp] def a_r15_Check_r7 : List COper := [
  ⟨(some 22), .bin .lss, [.t 21, .t 20], none⟩]
def c_r15_Check_r7 : List COper := a_r15_Check_r7
instance : Reg c_r15_Check_r7 a_r15_Check_r7 1 := ⟨rfl, rfl⟩
@[simp] def a_r15_Check_r8 : List COper := [
  ⟨(some 23), .mov, [.t 21], none⟩,
  ⟨(some 24), .iaddr 103, [.t 19, .t 21], none⟩,
  ⟨(some 25), .load true 103, [.t 24], none⟩,
  ⟨(some 9), .alloc (.node [.node [.v (.int .i64 0), .v (.int .i64 0), .arr 1 (rep 32 (.v (.int .u8 0))), .arr 1 (rep 32 (.v (.int .u8 0))), .arr 1 (rep 32 (.v (.int .u8 0))), .v (.slice none 0 0)], .node [.v (.int .i64 0), .v (.slice none 0 0)], .node [.v (.int .i64 0), .v (.slice none 0 0)]]), [], none⟩,
  ⟨(some 8), .mov, [.t 23], none⟩,
  ⟨none, .store true 103, [.t 9, .t 25], none⟩]
def c_r15_Check_r8 : List COper := a_r15_Check_r8
instance : Reg c_r15_Check_r8 a_r15_Check_r8 6 := ⟨rfl, rfl⟩
@[simp] def a_r15_Check_r9 : List COper := [
  ⟨(some 26), .load true 2, [.t 2], none⟩,
  ⟨(some 27), .mov, [.t 7], none⟩,
  ⟨(some 28), .load true 103, [.t 9], none⟩,
  ⟨(some 29), .call fn_r15_Step, [.t 26, .t 27, .t 28], none⟩,
  ⟨(some 10), .mov, [.t 29], none⟩]
def c_r15_Check_r9 : List COper := a_r15_Check_r9
instance : Reg c_r15_Check_r9 a_r15_Check_r9 5 := ⟨rfl, rfl⟩
@[simp] def a_r15_Check_r10 : List COper := [
  ⟨(some 30), .mov, [.t 10], none⟩,
  ⟨(some 31), .bin .neq, [.t 30, .c (.int .i64 0)], none⟩]
def c_r15_Check_r10 : List COper := a_r15_Check_r10
instance : Reg c_r15_Check_r10 a_r15_Check_r10 2 := ⟨rfl, rfl⟩
@[simp] def a_r15_Check_r11 : List COper := [
  ⟨(some 32), .build [.v (.int .i64 0), .v (.slice none 0 0)] [], [], none⟩,
  ⟨(some 33), .mov, [.t 8], none⟩,
  ⟨(some 34), .mov, [.t 10], none⟩,
  ⟨none, .store true 2, [.t 4, .t 32], none⟩,
  ⟨(some 5), .mov, [.t 33], none⟩,
  ⟨(some 6), .mov, [.t 34], none⟩]
def c_r15_Check_r11 : List COper := a_r15_Check_r11
instance : Reg c_r15_Check_r11 a_r15_Check_r11 6 := ⟨rfl, rfl⟩
@[simp] def a_r15_Check_r12 : List COper := [
  ⟨(some 35), .faddr 101 2 true, [.t 9], none⟩,
  ⟨(some 36), .load true 2, [.t 35], none⟩,
  ⟨none, .store true 2, [.t 2, .t 36], none⟩]
def c_r15_Check_r12 : List COper := a_r15_Check_r12
instance : Reg c_r15_Check_r12 a_r15_Check_r12 3 := ⟨rfl, rfl⟩
@[simp] def a_r15_Check_r13 : List COper := [
  ⟨(some 37), .faddr 0 99 true, [.t 9], none⟩,
  ⟨(some 38), .faddr 1 1 false, [.t 37], none⟩,
  ⟨(some 39), .load false 1, [.t 38], none⟩,
  ⟨(some 7), .mov, [.t 39], none⟩]
def c_r15_Check_r13 : List COper := a_r15_Check_r13
instance : Reg c_r15_Check_r13 a_r15_Check_r13 4 := ⟨rfl, rfl⟩
@[simp] def a_r15_Check_r14 : List COper := [
  ⟨(some 40), .bin .add, [.t 21, .c (.int .i64 1)], none⟩,
  ⟨(some 21), .mov, [.t 40], none⟩]
def c_r15_Check_r14 : List COper := a_r15_Check_r14
instance : Reg c_r15_Check_r14 a_r15_Check_r14 2 := ⟨rfl, rfl⟩
@[simp] def a_r15_Check_r15 : List COper := [
  ⟨(some 41), .load true 2, [.t 2], none⟩,
  ⟨(some 42), .mov, [.t 1], none⟩,
  ⟨(some 43), .len, [.t 42], none⟩,
  ⟨none, .store true 2, [.t 4, .t 41], none⟩,
  ⟨(some 5), .mov, [.t 43], none⟩,
  ⟨(some 6), .mov, [.c (.int .i64 0)], none⟩]
def c_r15_Check_r15 : List COper := a_r15_Check_r15
instance : Reg c_r15_Check_r15 a_r15_Check_r15 6 := ⟨rfl, rfl⟩
@[simp] def c_r15_Check : CCode :=
  .seq (.region c_r15_Check_r0 none [1, 2, 4]) (.seq (.seq (.region c_r15_Check_r1 none [1, 2, 4, 13]) (.cond (.t 13) (.seq (.region c_r15_Check_r2 none [4, 5, 6]) (.ret)) (.skip))) (.seq (.seq (.region c_r15_Check_r3 none [1, 2, 4, 17]) (.cond (.t 17) (.seq (.region c_r15_Check_r4 none [4, 5, 6]) (.ret)) (.skip))) (.seq (.region c_r15_Check_r5 none [1, 2, 4, 7]) (.seq (.seq (.region c_r15_Check_r6 none [1, 2, 4, 7, 19, 20, 21]) (.block 0 (.loop (.seq (.region c_r15_Check_r7 none [1, 2, 4, 7, 19, 20, 21, 22]) (.seq (.cond (.t 22) (.skip) (.exit 0)) (.seq (.block 1 (.seq (.region c_r15_Check_r8 none [1, 2, 4, 7, 8, 9, 19, 20, 21]) (.seq (.region c_r15_Check_r9 none [1, 2, 4, 8, 9, 10, 19, 20, 21]) (.seq (.seq (.region c_r15_Check_r10 none [1, 2, 4, 8, 9, 10, 19, 20, 21, 31]) (.cond (.t 31) (.seq (.region c_r15_Check_r11 none [4, 5, 6]) (.ret)) (.skip))) (.seq (.region c_r15_Check_r12 none [1, 2, 4, 9, 19, 20, 21]) (.region c_r15_Check_r13 none [1, 2, 4, 7, 19, 20, 21])))))) (.region c_r15_Check_r14 none [1, 2, 4, 7, 19, 20, 21]))))))) (.seq (.region c_r15_Check_r15 none [4, 5, 6]) (.ret))))))
@[simp] def R_r15_Check : List CRes := [.cell 4 true 2, .tmp 5, .tmp 6]
theorem k_r15_Check : chkFn Tryd.prog fn_r15_Check c_r15_Check R_r15_Check 2 = true := by kernel_rfl
/-! wapentake/wapentakeref08.Same -/
@[simp] def a_r08_Same_r0 : List COper := [
  ⟨(some 2), .box, [.t 0], none⟩,
  ⟨(some 3), .box, [.t 1], none⟩,
  ⟨(some 4), .mov, [.c (.bool false)], none⟩]
def c_r08_Same_r0 : List COper := a_r08_Same_r0
instance : Reg c_r08_Same_r0 a_r08_Same_r0 3 := ⟨rfl, rfl⟩
@[simp] def a_r08_Same_r1 : List COper := [
  ⟨(some 6), .faddr 0 1 false, [.t 2], none⟩,
  ⟨(some 7), .load false 1, [.t 6], none⟩,
  ⟨(some 8), .faddr 0 1 false, [.t 3], none⟩,
  ⟨(some 9), .load false 1, [.t 8], none⟩,
  ⟨(some 10), .bin .neq, [.t 7, .t 9], none⟩,
  ⟨(some 11), .mov, [.t 10], none⟩,
  ⟨(some 12), .faddr 1 1 false, [.t 2], (some (11, false))⟩,
  ⟨(some 13), .load false 1, [.t 12], (some (11, false))⟩,
  ⟨(some 14), .len, [.t 13], (some (11, false))⟩,
  ⟨(some 15), .faddr 1 1 false, [.t 3], (some (11, false))⟩,
  ⟨(some 16), .load false 1, [.t 15], (some (11, false))⟩,
  ⟨(some 17), .len, [.t 16], (some (11, false))⟩,
  ⟨(some 18), .bin .neq, [.t 14, .t 17], (some (11, false))⟩,
  ⟨(some 19), .pick, [.t 11, .c (.bool true), .t 18], none⟩]
def c_r08_Same_r1 : List COper := a_r08_Same_r1
instance : Reg c_r08_Same_r1 a_r08_Same_r1 14 := ⟨rfl, rfl⟩
@[simp] def a_r08_Same_r2 : List COper := [
  ⟨(some 4), .mov, [.c (.bool false)], none⟩]
def c_r08_Same_r2 : List COper := a_r08_Same_r2
instance : Reg c_r08_Same_r2 a_r08_Same_r2 1 := ⟨rfl, rfl⟩
@[simp] def a_r08_Same_r3 : List COper := [
  ⟨(some 20), .faddr 1 1 false, [.t 2], none⟩,
  ⟨(some 21), .load false 1, [.t 20], none⟩,
  ⟨(some 22), .len, [.t 21], none⟩,
  ⟨(some 23), .mov, [.c (.int .i64 0)], none⟩]
def c_r08_Same_r3 : List COper := a_r08_Same_r3
instance : Reg c_r08_Same_r3 a_r08_Same_r3 4 := ⟨rfl, rfl⟩
@[simp] def a_r08_Same_r4 : List COper := [
  ⟨(some 24), .bin .lss, [.t 23, .t 22], none⟩]
def c_r08_Same_r4 : List COper := a_r08_Same_r4
instance : Reg c_r08_Same_r4 a_r08_Same_r4 1 := ⟨rfl, rfl⟩
@[simp] def a_r08_Same_r5 : List COper := [
  ⟨(some 25), .mov, [.t 23], none⟩,
  ⟨(some 5), .mov, [.t 25], none⟩]
def c_r08_Same_r5 : List COper := a_r08_Same_r5
instance : Reg c_r08_Same_r5 a_r08_Same_r5 2 := ⟨rfl, rfl⟩
@[simp] def a_r08_Same_r6 : List COper := [
  ⟨(some 26), .faddr 1 1 false, [.t 2], none⟩,
  ⟨(some 27), .load false 1, [.t 26], none⟩,
  ⟨(some 28), .mov, [.t 5], none⟩,
  ⟨(some 29), .iaddr 34, [.t 27, .t 28], none⟩,
  ⟨(some 30), .load true 34, [.t 29], none⟩,
  ⟨(some 31), .faddr 1 1 false, [.t 3], none⟩,
  ⟨(some 32), .load false 1, [.t 31], none⟩,
  ⟨(some 33), .mov, [.t 5], none⟩,
  ⟨(some 34), .iaddr 34, [.t 32, .t 33], none⟩,
  ⟨(some 35), .load true 34, [.t 34], none⟩,
  ⟨(some 36), .eqs true (.st [.int .i64, .st [.ints .u8 32, .int .i64]]), [.t 30, .t 35], none⟩]
def c_r08_Same_r6 : List COper := a_r08_Same_r6
instance : Reg c_r08_Same_r6 a_r08_Same_r6 11 := ⟨rfl, rfl⟩
@[simp] def a_r08_Same_r7 : List COper := [
  ⟨(some 4), .mov, [.c (.bool false)], none⟩]
def c_r08_Same_r7 : List COper := a_r08_Same_r7
instance : Reg c_r08_Same_r7 a_r08_Same_r7 1 := ⟨rfl, rfl⟩
@[simp] def a_r08_Same_r8 : List COper := [
  ⟨(some 37), .bin .add, [.t 23, .c (.int .i64 1)], none⟩,
  ⟨(some 23), .mov, [.t 37], none⟩]
def c_r08_Same_r8 : List COper := a_r08_Same_r8
instance : Reg c_r08_Same_r8 a_r08_Same_r8 2 := ⟨rfl, rfl⟩
@[simp] def a_r08_Same_r9 : List COper := [
  ⟨(some 4), .mov, [.c (.bool true)], none⟩]
def c_r08_Same_r9 : List COper := a_r08_Same_r9
instance : Reg c_r08_Same_r9 a_r08_Same_r9 1 := ⟨rfl, rfl⟩
@[simp] def c_r08_Same : CCode :=
  .seq (.region c_r08_Same_r0 none [2, 3]) (.seq (.seq (.region c_r08_Same_r1 none [2, 3, 19]) (.cond (.t 19) (.seq (.region c_r08_Same_r2 none [4]) (.ret)) (.skip))) (.seq (.seq (.region c_r08_Same_r3 none [2, 3, 22, 23]) (.block 0 (.loop (.seq (.region c_r08_Same_r4 none [2, 3, 22, 23, 24]) (.seq (.cond (.t 24) (.skip) (.exit 0)) (.seq (.block 1 (.seq (.region c_r08_Same_r5 none [2, 3, 5, 22, 23]) (.seq (.region c_r08_Same_r6 (some ([0, 1, 0, 7, 15, 0, 32, 0, 224, 480, 1023], [])) [2, 3, 22, 23, 36]) (.cond (.t 36) (.seq (.region c_r08_Same_r7 none [4]) (.ret)) (.skip))))) (.region c_r08_Same_r8 none [2, 3, 22, 23]))))))) (.seq (.region c_r08_Same_r9 none [4]) (.ret))))
@[simp] def R_r08_Same : List CRes := [.tmp 4]
theorem k_r08_Same : chkFn Tryd.prog fn_r08_Same c_r08_Same R_r08_Same 2 = true := by kernel_rfl
/-! wapentake/cert.Check -/
@[simp] def a_cert_Check_r0 : List COper := [
  ⟨(some 3), .box, [.t 0], none⟩,
  ⟨(some 4), .box, [.t 1], none⟩,
  ⟨(some 5), .box, [.t 2], none⟩,
  ⟨(some 6), .mov, [.c (.bool false)], none⟩]
def c_cert_Check_r0 : List COper := a_cert_Check_r0
instance : Reg c_cert_Check_r0 a_cert_Check_r0 4 := ⟨rfl, rfl⟩
@[simp] def a_cert_Check_r1 : List COper := [
  ⟨(some 11), .load true 2, [.t 3], none⟩,
  ⟨(some 12), .call fn_config_Good, [.t 11], none⟩,
  ⟨(some 13), .not, [.t 12], none⟩,
  ⟨(some 14), .mov, [.t 13], none⟩,
  ⟨(some 15), .load true 99, [.t 4], (some (14, false))⟩,
  ⟨(some 16), .call fn_block_Good, [.t 15], (some (14, false))⟩,
  ⟨(some 17), .not, [.t 16], (some (14, false))⟩,
  ⟨(some 18), .pick, [.t 14, .c (.bool true), .t 17], none⟩,
  ⟨(some 19), .mov, [.t 18], none⟩,
  ⟨(some 20), .faddr 0 1 false, [.t 4], (some (19, false))⟩,
  ⟨(some 21), .load false 1, [.t 20], (some (19, false))⟩,
  ⟨(some 22), .faddr 0 1 false, [.t 3], (some (19, false))⟩,
  ⟨(some 23), .load false 1, [.t 22], (some (19, false))⟩,
  ⟨(some 24), .bin .neq, [.t 21, .t 23], (some (19, false))⟩,
  ⟨(some 25), .pick, [.t 19, .c (.bool true), .t 24], none⟩,
  ⟨(some 26), .mov, [.t 25], none⟩,
  ⟨(some 27), .faddr 1 1 false, [.t 5], (some (26, false))⟩,
  ⟨(some 28), .load false 1, [.t 27], (some (26, false))⟩,
  ⟨(some 29), .len, [.t 28], (some (26, false))⟩,
  ⟨(some 30), .load true 2, [.t 3], (some (26, false))⟩,
  ⟨(some 31), .call fn_config_Quorum, [.t 30], (some (26, false))⟩,
  ⟨(some 32), .bin .lss, [.t 29, .t 31], (some (26, false))⟩,
  ⟨(some 33), .pick, [.t 26, .c (.bool true), .t 32], none⟩]
def c_cert_Check_r1 : List COper := a_cert_Check_r1
instance : Reg c_cert_Check_r1 a_cert_Check_r1 23 := ⟨rfl, rfl⟩
@[simp] def a_cert_Check_r2 : List COper := [
  ⟨(some 6), .mov, [.c (.bool false)], none⟩]
def c_cert_Check_r2 : List COper := a_cert_Check_r2
instance : Reg c_cert_Check_r2 a_cert_Check_r2 1 := ⟨rfl, rfl⟩
@[simp] def a_cert_Check_r3 : List COper := [
  ⟨(some 34), .load true 99, [.t 4], none⟩,
  ⟨(some 35), .call fn_block_Digest, [.t 34], none⟩,
  ⟨(some 7), .alloc (.arr 1 (rep 32 (.v (.int .u8 0)))), [], none⟩,
  ⟨none, .store true 32, [.t 7, .t 35], none⟩]
def c_cert_Check_r3 : List COper := a_cert_Check_r3
instance : Reg c_cert_Check_r3 a_cert_Check_r3 4 := ⟨rfl, rfl⟩
@[simp] def a_cert_Check_r4 : List COper := [
  ⟨(some 8), .mov, [.c (.int .i64 0)], none⟩]
def c_cert_Check_r4 : List COper := a_cert_Check_r4
instance : Reg c_cert_Check_r4 a_cert_Check_r4 1 := ⟨rfl, rfl⟩
@[simp] def a_cert_Check_r5 : List COper := [
  ⟨(some 36), .faddr 1 1 false, [.t 5], none⟩,
  ⟨(some 37), .load false 1, [.t 36], none⟩,
  ⟨(some 38), .len, [.t 37], none⟩,
  ⟨(some 39), .mov, [.c (.int .i64 0)], none⟩]
def c_cert_Check_r5 : List COper := a_cert_Check_r5
instance : Reg c_cert_Check_r5 a_cert_Check_r5 4 := ⟨rfl, rfl⟩
@[simp] def a_cert_Check_r6 : List COper := [
  ⟨(some 40), .bin .lss, [.t 39, .t 38], none⟩]
def c_cert_Check_r6 : List COper := a_cert_Check_r6
instance : Reg c_cert_Check_r6 a_cert_Check_r6 1 := ⟨rfl, rfl⟩
@[simp] def a_cert_Check_r7 : List COper := [
  ⟨(some 41), .iaddr 41, [.t 37, .t 39], none⟩,
  ⟨(some 42), .load true 41, [.t 41], none⟩,
  ⟨(some 10), .alloc (.node [.v (.int .i64 0), .v (.int .i64 0), .v (.int .i64 0), .v (.int .i64 0), .arr 1 (rep 32 (.v (.int .u8 0))), .v (.int .i64 0), .node [.v (.int .i64 0), .node [.v (.slice none 0 0), .v (.slice none 0 0)], .v (.slice none 0 0)]]), [], none⟩,
  ⟨none, .store true 41, [.t 10, .t 42], none⟩]
def c_cert_Check_r7 : List COper := a_cert_Check_r7
instance : Reg c_cert_Check_r7 a_cert_Check_r7 4 := ⟨rfl, rfl⟩
@[simp] def a_cert_Check_r8 : List COper := [
  ⟨(some 43), .faddr 36 1 false, [.t 10], none⟩,
  ⟨(some 44), .load false 1, [.t 43], none⟩,
  ⟨(some 45), .mov, [.t 8], none⟩,
  ⟨(some 46), .bin .leq, [.t 44, .t 45], none⟩,
  ⟨(some 47), .mov, [.t 46], none⟩,
  ⟨(some 48), .faddr 0 1 false, [.t 10], (some (47, false))⟩,
  ⟨(some 49), .load false 1, [.t 48], (some (47, false))⟩,
  ⟨(some 50), .bin .neq, [.t 49, .c (.int .i64 2)], (some (47, false))⟩,
  ⟨(some 51), .pick, [.t 47, .c (.bool true), .t 50], none⟩,
  ⟨(some 52), .mov, [.t 51], none⟩,
  ⟨(some 53), .faddr 2 1 false, [.t 10], (some (52, false))⟩,
  ⟨(some 54), .load false 1, [.t 53], (some (52, false))⟩,
  ⟨(some 55), .faddr 1 1 false, [.t 4], (some (52, false))⟩,
  ⟨(some 56), .load false 1, [.t 55], (some (52, false))⟩,
  ⟨(some 57), .bin .neq, [.t 54, .t 56], (some (52, false))⟩,
  ⟨(some 58), .pick, [.t 52, .c (.bool true), .t 57], none⟩,
  ⟨(some 59), .mov, [.t 58], none⟩,
  ⟨(some 60), .faddr 3 1 false, [.t 10], (some (59, false))⟩,
  ⟨(some 61), .load false 1, [.t 60], (some (59, false))⟩,
  ⟨(some 62), .faddr 0 1 false, [.t 5], (some (59, false))⟩,
  ⟨(some 63), .load false 1, [.t 62], (some (59, false))⟩,
  ⟨(some 64), .bin .neq, [.t 61, .t 63], (some (59, false))⟩,
  ⟨(some 65), .pick, [.t 59, .c (.bool true), .t 64], none⟩,
  ⟨(some 66), .mov, [.t 65], none⟩,
  ⟨(some 67), .faddr 4 32 true, [.t 10], (some (66, false))⟩,
  ⟨(some 68), .load true 32, [.t 67], (some (66, false))⟩,
  ⟨(some 69), .load true 32, [.t 7], (some (66, false))⟩,
  ⟨(some 70), .eqa true .u8 32, [.t 68, .t 69], (some (66, false))⟩,
  ⟨(some 71), .pick, [.t 66, .c (.bool true), .t 70], none⟩,
  ⟨(some 72), .mov, [.t 71], none⟩,
  ⟨(some 73), .load true 2, [.t 3], (some (72, false))⟩,
  ⟨(some 74), .load true 41, [.t 10], (some (72, false))⟩,
  ⟨(some 75), .call fn_vote_Right, [.t 73, .t 74], (some (72, false))⟩,
  ⟨(some 76), .not, [.t 75], (some (72, false))⟩,
  ⟨(some 77), .pick, [.t 72, .c (.bool true), .t 76], none⟩]
def c_cert_Check_r8 : List COper := a_cert_Check_r8
instance : Reg c_cert_Check_r8 a_cert_Check_r8 35 := ⟨rfl, rfl⟩
@[simp] def a_cert_Check_r9 : List COper := [
  ⟨(some 6), .mov, [.c (.bool false)], none⟩]
def c_cert_Check_r9 : List COper := a_cert_Check_r9
instance : Reg c_cert_Check_r9 a_cert_Check_r9 1 := ⟨rfl, rfl⟩
@[simp] def a_cert_Check_r10 : List COper := [
  ⟨(some 78), .faddr 36 1 false, [.t 10], none⟩,
  ⟨(some 79), .load false 1, [.t 78], none⟩,
  ⟨(some 8), .mov, [.t 79], none⟩]
def c_cert_Check_r10 : List COper := a_cert_Check_r10
instance : Reg c_cert_Check_r10 a_cert_Check_r10 3 := ⟨rfl, rfl⟩
@[simp] def a_cert_Check_r11 : List COper := [
  ⟨(some 80), .bin .add, [.t 39, .c (.int .i64 1)], none⟩,
  ⟨(some 39), .mov, [.t 80], none⟩]
def c_cert_Check_r11 : List COper := a_cert_Check_r11
instance : Reg c_cert_Check_r11 a_cert_Check_r11 2 := ⟨rfl, rfl⟩
@[simp] def a_cert_Check_r12 : List COper := [
  ⟨(some 6), .mov, [.c (.bool true)], none⟩]
def c_cert_Check_r12 : List COper := a_cert_Check_r12
instance : Reg c_cert_Check_r12 a_cert_Check_r12 1 := ⟨rfl, rfl⟩
@[simp] def c_cert_Check : CCode :=
  .seq (.region c_cert_Check_r0 none [3, 4, 5]) (.seq (.seq (.region c_cert_Check_r1 (some ([0, 1, 3, 7, 15, 31, 63, 127, 255, 511, 1023, 511, 2559, 8191, 16383, 32767, 65535, 131071, 262143, 65535, 589823, 2097151, 4194303], [(17, 20)])) [3, 4, 5, 33]) (.cond (.t 33) (.seq (.region c_cert_Check_r2 none [6]) (.ret)) (.skip))) (.seq (.region c_cert_Check_r3 none [3, 4, 5, 7]) (.seq (.region c_cert_Check_r4 none [3, 4, 5, 7, 8]) (.seq (.seq (.region c_cert_Check_r5 none [3, 4, 5, 7, 8, 37, 38, 39]) (.block 0 (.loop (.seq (.region c_cert_Check_r6 none [3, 4, 5, 7, 8, 37, 38, 39, 40]) (.seq (.cond (.t 40) (.skip) (.exit 0)) (.seq (.block 1 (.seq (.region c_cert_Check_r7 none [3, 4, 5, 7, 8, 10, 37, 38, 39]) (.seq (.seq (.region c_cert_Check_r8 none [3, 4, 5, 7, 10, 37, 38, 39, 77]) (.cond (.t 77) (.seq (.region c_cert_Check_r9 none [6]) (.ret)) (.skip))) (.region c_cert_Check_r10 none [3, 4, 5, 7, 8, 37, 38, 39])))) (.region c_cert_Check_r11 none [3, 4, 5, 7, 8, 37, 38, 39]))))))) (.seq (.region c_cert_Check_r12 none [6]) (.ret))))))
@[simp] def R_cert_Check : List CRes := [.tmp 6]
theorem k_cert_Check : chkFn Tryd.prog fn_cert_Check c_cert_Check R_cert_Check 3 = true := by kernel_rfl
/-! wapentake/wapentakeref14.Check -/
@[simp] def a_r14_Check_r0 : List COper := [
  ⟨(some 3), .box, [.t 0], none⟩,
  ⟨(some 4), .box, [.t 1], none⟩,
  ⟨(some 5), .box, [.t 2], none⟩,
  ⟨(some 6), .mov, [.c (.bool false)], none⟩]
def c_r14_Check_r0 : List COper := a_r14_Check_r0
instance : Reg c_r14_Check_r0 a_r14_Check_r0 4 := ⟨rfl, rfl⟩
@[simp] def a_r14_Check_r1 : List COper := [
  ⟨(some 9), .load true 2, [.t 3], none⟩,
  ⟨(some 10), .call fn_r08_Good, [.t 9], none⟩,
  ⟨(some 11), .not, [.t 10], none⟩,
  ⟨(some 12), .mov, [.t 11], none⟩,
  ⟨(some 13), .load true 99, [.t 4], (some (12, false))⟩,
  ⟨(some 14), .call fn_r12_Good, [.t 13], (some (12, false))⟩,
  ⟨(some 15), .not, [.t 14], (some (12, false))⟩,
  ⟨(some 16), .pick, [.t 12, .c (.bool true), .t 15], none⟩,
  ⟨(some 17), .mov, [.t 16], none⟩,
  ⟨(some 18), .faddr 0 1 false, [.t 4], (some (17, false))⟩,
  ⟨(some 19), .load false 1, [.t 18], (some (17, false))⟩,
  ⟨(some 20), .faddr 0 1 false, [.t 3], (some (17, false))⟩,
  ⟨(some 21), .load false 1, [.t 20], (some (17, false))⟩,
  ⟨(some 22), .bin .neq, [.t 19, .t 21], (some (17, false))⟩,
  ⟨(some 23), .pick, [.t 17, .c (.bool true), .t 22], none⟩,
  ⟨(some 24), .mov, [.t 23], none⟩,
  ⟨(some 25), .faddr 1 1 false, [.t 5], (some (24, false))⟩,
  ⟨(some 26), .load false 1, [.t 25], (some (24, false))⟩,
  ⟨(some 27), .len, [.t 26], (some (24, false))⟩,
  ⟨(some 28), .faddr 1 1 false, [.t 3], (some (24, false))⟩,
  ⟨(some 29), .load false 1, [.t 28], (some (24, false))⟩,
  ⟨(some 30), .len, [.t 29], (some (24, false))⟩,
  ⟨(some 31), .call fn_r08_Quorum, [.t 30], (some (24, false))⟩,
  ⟨(some 32), .bin .lss, [.t 27, .t 31], (some (24, false))⟩,
  ⟨(some 33), .pick, [.t 24, .c (.bool true), .t 32], none⟩]
def c_r14_Check_r1 : List COper := a_r14_Check_r1
instance : Reg c_r14_Check_r1 a_r14_Check_r1 25 := ⟨rfl, rfl⟩
@[simp] def a_r14_Check_r2 : List COper := [
  ⟨(some 6), .mov, [.c (.bool false)], none⟩]
def c_r14_Check_r2 : List COper := a_r14_Check_r2
instance : Reg c_r14_Check_r2 a_r14_Check_r2 1 := ⟨rfl, rfl⟩
@[simp] def a_r14_Check_r3 : List COper := [
  ⟨(some 34), .faddr 1 1 false, [.t 5], none⟩,
  ⟨(some 35), .load false 1, [.t 34], none⟩,
  ⟨(some 36), .len, [.t 35], none⟩,
  ⟨(some 37), .mov, [.c (.int .i64 0)], none⟩]
def c_r14_Check_r3 : List COper := a_r14_Check_r3
instance : Reg c_r14_Check_r3 a_r14_Check_r3 4 := ⟨rfl, rfl⟩
@[simp] def a_r14_Check_r4 : List COper := [
  ⟨(some 38), .bin .lss, [.t 37, .t 36], none⟩]
def c_r14_Check_r4 : List COper := a_r14_Check_r4
instance : Reg c_r14_Check_r4 a_r14_Check_r4 1 := ⟨rfl, rfl⟩
@[simp] def a_r14_Check_r5 : List COper := [
  ⟨(some 39), .mov, [.t 37], none⟩,
  ⟨(some 40), .iaddr 41, [.t 35, .t 37], none⟩,
  ⟨(some 41), .load true 41, [.t 40], none⟩,
  ⟨(some 8), .alloc (.node [.v (.int .i64 0), .v (.int .i64 0), .v (.int .i64 0), .v (.int .i64 0), .arr 1 (rep 32 (.v (.int .u8 0))), .v (.int .i64 0), .node [.v (.int .i64 0), .node [.v (.slice none 0 0), .v (.slice none 0 0)], .v (.slice none 0 0)]]), [], none⟩,
  ⟨(some 7), .mov, [.t 39], none⟩,
  ⟨none, .store true 41, [.t 8, .t 41], none⟩]
def c_r14_Check_r5 : List COper := a_r14_Check_r5
instance : Reg c_r14_Check_r5 a_r14_Check_r5 6 := ⟨rfl, rfl⟩
@[simp] def a_r14_Check_r6 : List COper := [
  ⟨(some 42), .faddr 0 1 false, [.t 8], none⟩,
  ⟨(some 43), .load false 1, [.t 42], none⟩,
  ⟨(some 44), .bin .neq, [.t 43, .c (.int .i64 2)], none⟩,
  ⟨(some 45), .mov, [.t 44], none⟩,
  ⟨(some 46), .faddr 3 1 false, [.t 8], (some (45, false))⟩,
  ⟨(some 47), .load false 1, [.t 46], (some (45, false))⟩,
  ⟨(some 48), .faddr 0 1 false, [.t 5], (some (45, false))⟩,
  ⟨(some 49), .load false 1, [.t 48], (some (45, false))⟩,
  ⟨(some 50), .bin .neq, [.t 47, .t 49], (some (45, false))⟩,
  ⟨(some 51), .pick, [.t 45, .c (.bool true), .t 50], none⟩,
  ⟨(some 52), .mov, [.t 51], none⟩,
  ⟨(some 53), .faddr 2 1 false, [.t 8], (some (52, false))⟩,
  ⟨(some 54), .load false 1, [.t 53], (some (52, false))⟩,
  ⟨(some 55), .faddr 1 1 false, [.t 4], (some (52, false))⟩,
  ⟨(some 56), .load false 1, [.t 55], (some (52, false))⟩,
  ⟨(some 57), .bin .neq, [.t 54, .t 56], (some (52, false))⟩,
  ⟨(some 58), .pick, [.t 52, .c (.bool true), .t 57], none⟩,
  ⟨(some 59), .mov, [.t 58], none⟩,
  ⟨(some 60), .faddr 4 32 true, [.t 8], (some (59, false))⟩,
  ⟨(some 61), .load true 32, [.t 60], (some (59, false))⟩,
  ⟨(some 62), .load true 99, [.t 4], (some (59, false))⟩,
  ⟨(some 63), .call fn_r12_Digest, [.t 62], (some (59, false))⟩,
  ⟨(some 64), .eqa true .u8 32, [.t 61, .t 63], (some (59, false))⟩,
  ⟨(some 65), .pick, [.t 59, .c (.bool true), .t 64], none⟩]
def c_r14_Check_r6 : List COper := a_r14_Check_r6
instance : Reg c_r14_Check_r6 a_r14_Check_r6 24 := ⟨rfl, rfl⟩
@[simp] def a_r14_Check_r7 : List COper := [
  ⟨(some 6), .mov, [.c (.bool false)], none⟩]
def c_r14_Check_r7 : List COper := a_r14_Check_r7
instance : Reg c_r14_Check_r7 a_r14_Check_r7 1 := ⟨rfl, rfl⟩
@[simp] def a_r14_Check_r8 : List COper := [
  ⟨(some 66), .mov, [.t 7], none⟩,
  ⟨(some 67), .bin .gtr, [.t 66, .c (.int .i64 0)], none⟩,
  ⟨(some 68), .mov, [.t 67], none⟩,
  ⟨(some 69), .faddr 1 1 false, [.t 5], (some (68, true))⟩,
  ⟨(some 70), .load false 1, [.t 69], (some (68, true))⟩,
  ⟨(some 71), .mov, [.t 7], (some (68, true))⟩,
  ⟨(some 72), .bin .sub, [.t 71, .c (.int .i64 1)], (some (68, true))⟩,
  ⟨(some 73), .iaddr 41, [.t 70, .t 72], (some (68, true))⟩,
  ⟨(some 74), .faddr 36 1 false, [.t 73], (some (68, true))⟩,
  ⟨(some 75), .load false 1, [.t 74], (some (68, true))⟩,
  ⟨(some 76), .faddr 36 1 false, [.t 8], (some (68, true))⟩,
  ⟨(some 77), .load false 1, [.t 76], (some (68, true))⟩,
  ⟨(some 78), .bin .geq, [.t 75, .t 77], (some (68, true))⟩,
  ⟨(some 79), .pick, [.t 68, .t 78, .c (.bool false)], none⟩]
def c_r14_Check_r8 : List COper := a_r14_Check_r8
instance : Reg c_r14_Check_r8 a_r14_Check_r8 14 := ⟨rfl, rfl⟩
@[simp] def a_r14_Check_r9 : List COper := [
  ⟨(some 6), .mov, [.c (.bool false)], none⟩]
def c_r14_Check_r9 : List COper := a_r14_Check_r9
instance : Reg c_r14_Check_r9 a_r14_Check_r9 1 := ⟨rfl, rfl⟩
@[simp] def a_r14_Check_r10 : List COper := [
  ⟨(some 80), .load true 2, [.t 3], none⟩,
  ⟨(some 81), .load true 41, [.t 8], none⟩,
  ⟨(some 82), .call fn_r13_Right, [.t 80, .t 81], none⟩,
  ⟨(some 83), .not, [.t 82], none⟩]
def c_r14_Check_r10 : List COper := a_r14_Check_r10
instance : Reg c_r14_Check_r10 a_r14_Check_r10 4 := ⟨rfl, rfl⟩
@[simp] def a_r14_Check_r11 : List COper := [
  ⟨(some 6), .mov, [.c (.bool false)], none⟩]
def c_r14_Check_r11 : List COper := a_r14_Check_r11
instance : Reg c_r14_Check_r11 a_r14_Check_r11 1 := ⟨rfl, rfl⟩
@[simp] def a_r14_Check_r12 : List COper := [
  ⟨(some 84), .bin .add, [.t 37, .c (.int .i64 1)], none⟩,
  ⟨(some 37), .mov, [.t 84], none⟩]
def c_r14_Check_r12 : List COper := a_r14_Check_r12
instance : Reg c_r14_Check_r12 a_r14_Check_r12 2 := ⟨rfl, rfl⟩
@[simp] def a_r14_Check_r13 : List COper := [
  ⟨(some 6), .mov, [.c (.bool true)], none⟩]
def c_r14_Check_r13 : List COper := a_r14_Check_r13
instance : Reg c_r14_Check_r13 a_r14_Check_r13 1 := ⟨rfl, rfl⟩
@[simp] def c_r14_Check : CCode :=
  .seq (.region c_r14_Check_r0 none [3, 4, 5]) (.seq (.seq (.region c_r14_Check_r1 (some ([0, 1, 3, 7, 15, 31, 63, 127, 255, 511, 1023, 511, 2559, 8191, 16383, 32767, 65535, 131071, 262143, 65535, 589823, 1638399, 3735551, 8388607, 16777215], [(17, 22)])) [3, 4, 5, 33]) (.cond (.t 33) (.seq (.region c_r14_Check_r2 none [6]) (.ret)) (.skip))) (.seq (.seq (.region c_r14_Check_r3 none [3, 4, 5, 35, 36, 37]) (.block 0 (.loop (.seq (.region c_r14_Check_r4 none [3, 4, 5, 35, 36, 37, 38]) (.seq (.cond (.t 38) (.skip) (.exit 0)) (.seq (.block 1 (.seq (.region c_r14_Check_r5 none [3, 4, 5, 7, 8, 35, 36, 37]) (.seq (.seq (.region c_r14_Check_r6 (some ([0, 1, 3, 7, 15, 31, 15, 79, 255, 511, 1023, 2047, 4095, 2047, 10239, 32767, 65535, 131071, 262143, 524287, 262143, 1310719, 4194303, 8388607], [(19, 21)])) [3, 4, 5, 7, 8, 35, 36, 37, 65]) (.cond (.t 65) (.seq (.region c_r14_Check_r7 none [6]) (.ret)) (.skip))) (.seq (.seq (.region c_r14_Check_r8 (some ([0, 1, 3, 7, 15, 7, 39, 127, 255, 511, 7, 1031, 4095, 8191], [])) [3, 4, 5, 8, 35, 36, 37, 79]) (.cond (.t 79) (.seq (.region c_r14_Check_r9 none [6]) (.ret)) (.skip))) (.seq (.region c_r14_Check_r10 none [3, 4, 5, 35, 36, 37, 83]) (.cond (.t 83) (.seq (.region c_r14_Check_r11 none [6]) (.ret)) (.skip))))))) (.region c_r14_Check_r12 none [3, 4, 5, 35, 36, 37]))))))) (.seq (.region c_r14_Check_r13 none [6]) (.ret))))
@[simp] def R_r14_Check : List CRes := [.tmp 6]
theorem k_r14_Check : chkFn Tryd.prog fn_r14_Check c_r14_Check R_r14_Check 3 = true := by kernel_rfl
/-! wapentake/wapentakeref08.Quorum -/
@[simp] def a_r08_Quorum_r0 : List COper := [
  ⟨(some 2), .mov, [.c (.int .i64 0)], none⟩]
def c_r08_Quorum_r0 : List COper := a_r08_Quorum_r0
instance : Reg c_r08_Quorum_r0 a_r08_Quorum_r0 1 := ⟨rfl, rfl⟩
@[simp] def a_r08_Quorum_r1 : List COper := [
  ⟨(some 3), .mov, [.c (.int .i64 0)], none⟩]
def c_r08_Quorum_r1 : List COper := a_r08_Quorum_r1
instance : Reg c_r08_Quorum_r1 a_r08_Quorum_r1 1 := ⟨rfl, rfl⟩
@[simp] def a_r08_Quorum_r2 : List COper := [
  ⟨(some 4), .mov, [.t 3], none⟩,
  ⟨(some 5), .bin .mul, [.c (.int .i64 2), .t 4], none⟩,
  ⟨(some 6), .mov, [.t 0], none⟩,
  ⟨(some 7), .mov, [.t 0], none⟩,
  ⟨(some 8), .call fn_r08_Faults, [.t 7], none⟩,
  ⟨(some 9), .bin .add, [.t 6, .t 8], none⟩,
  ⟨(some 10), .bin .leq, [.t 5, .t 9], none⟩]
def c_r08_Quorum_r2 : List COper := a_r08_Quorum_r2
instance : Reg c_r08_Quorum_r2 a_r08_Quorum_r2 7 := ⟨rfl, rfl⟩
@[simp] def a_r08_Quorum_r3 : List COper := [
  ⟨(some 11), .mov, [.t 3], none⟩,
  ⟨(some 12), .bin .add, [.t 11, .c (.int .i64 1)], none⟩,
  ⟨(some 3), .mov, [.t 12], none⟩]
def c_r08_Quorum_r3 : List COper := a_r08_Quorum_r3
instance : Reg c_r08_Quorum_r3 a_r08_Quorum_r3 3 := ⟨rfl, rfl⟩
@[simp] def a_r08_Quorum_r4 : List COper := [
  ⟨(some 13), .mov, [.t 3], none⟩,
  ⟨(some 2), .mov, [.t 13], none⟩]
def c_r08_Quorum_r4 : List COper := a_r08_Quorum_r4
instance : Reg c_r08_Quorum_r4 a_r08_Quorum_r4 2 := ⟨rfl, rfl⟩
@[simp] def c_r08_Quorum : CCode :=
  .seq (.region c_r08_Quorum_r0 none [0]) (.seq (.region c_r08_Quorum_r1 none [0, 3]) (.seq (.block 0 (.loop (.seq (.seq (.region c_r08_Quorum_r2 none [0, 3, 10]) (.cond (.t 10) (.skip) (.exit 0))) (.block 1 (.region c_r08_Quorum_r3 none [0, 3]))))) (.seq (.region c_r08_Quorum_r4 none [2]) (.ret))))
@[simp] def R_r08_Quorum : List CRes := [.tmp 2]
theorem k_r08_Quorum : chkFn Tryd.prog fn_r08_Quorum c_r08_Quorum R_r08_Quorum 1 = true := by kernel_rfl
/-! (*wapentake/code.Writer).Bytes -/
@[simp] def a_code_Writer_Bytes_r0 : List COper := [
  ⟨(some 2), .mov, [.c (.slice none 0 0)], none⟩]
def c_code_Writer_Bytes_r0 : List COper := a_code_Writer_Bytes_r0
instance : Reg c_code_Writer_Bytes_r0 a_code_Writer_Bytes_r0 1 := ⟨rfl, rfl⟩
@[simp] def a_code_Writer_Bytes_r1 : List COper := [
  ⟨(some 3), .mov, [.t 0], none⟩,
  ⟨(some 4), .eqp false, [.t 3, .c (.pointer none)], none⟩]
def c_code_Writer_Bytes_r1 : List COper := a_code_Writer_Bytes_r1
instance : Reg c_code_Writer_Bytes_r1 a_code_Writer_Bytes_r1 2 := ⟨rfl, rfl⟩
@[simp] def a_code_Writer_Bytes_r2 : List COper := [
  ⟨(some 2), .mov, [.c (.slice none 0 0)], none⟩]
def c_code_Writer_Bytes_r2 : List COper := a_code_Writer_Bytes_r2
instance : Reg c_code_Writer_Bytes_r2 a_code_Writer_Bytes_r2 1 := ⟨rfl, rfl⟩
@[simp] def a_code_Writer_Bytes_r3 : List COper := [
  ⟨(some 5), .mov, [.t 0], none⟩,
  ⟨(some 6), .nilc, [.t 5], none⟩,
  ⟨(some 7), .faddr 0 1 false, [.t 6], none⟩,
  ⟨(some 8), .load false 1, [.t 7], none⟩,
  ⟨(some 9), .slice0 1, [.t 8], none⟩,
  ⟨(some 10), .mov, [.t 0], none⟩,
  ⟨(some 11), .nilc, [.t 10], none⟩,
  ⟨(some 12), .faddr 0 1 false, [.t 11], none⟩,
  ⟨(some 13), .load false 1, [.t 12], none⟩,
  ⟨(some 14), .app 1 1, [.t 9, .t 13], none⟩,
  ⟨(some 2), .mov, [.t 14], none⟩]
def c_code_Writer_Bytes_r3 : List COper := a_code_Writer_Bytes_r3
instance : Reg c_code_Writer_Bytes_r3 a_code_Writer_Bytes_r3 11 := ⟨rfl, rfl⟩
@[simp] def c_code_Writer_Bytes : CCode :=
  .seq (.region c_code_Writer_Bytes_r0 none [0]) (.seq (.seq (.region c_code_Writer_Bytes_r1 none [0, 4]) (.cond (.t 4) (.seq (.region c_code_Writer_Bytes_r2 none [2]) (.ret)) (.skip))) (.seq (.region c_code_Writer_Bytes_r3 (some ([0, 1, 3, 7, 15, 0, 32, 96, 224, 511, 1023], [(4, 8)])) [2]) (.ret)))
@[simp] def R_code_Writer_Bytes : List CRes := [.tmp 2]
theorem k_code_Writer_Bytes : chkFn Tryd.prog fn_code_Writer_Bytes c_code_Writer_Bytes R_code_Writer_Bytes 1 = true := by kernel_rfl
/-! wapentake/wapentakeref12.Great -/
@[simp] def a_r12_Great_r0 : List COper := [
  ⟨(some 2), .box, [.t 0], none⟩,
  ⟨(some 4), .mov, [.c (.bool false)], none⟩]
def c_r12_Great_r0 : List COper := a_r12_Great_r0
instance : Reg c_r12_Great_r0 a_r12_Great_r0 2 := ⟨rfl, rfl⟩
@[simp] def a_r12_Great_r1 : List COper := [
  ⟨(some 5), .mov, [.c (.int .i64 0)], none⟩]
def c_r12_Great_r1 : List COper := a_r12_Great_r1
instance : Reg c_r12_Great_r1 a_r12_Great_r1 1 := ⟨rfl, rfl⟩
@[simp] def a_r12_Great_r2 : List COper := [
  ⟨(some 10), .faddr 98 1 false, [.t 2], none⟩,
  ⟨(some 11), .load false 1, [.t 10], none⟩,
  ⟨(some 12), .len, [.t 11], none⟩,
  ⟨(some 13), .bin .gtr, [.t 12, .c (.int .i64 40)], none⟩]
def c_r12_Great_r2 : List COper := a_r12_Great_r2
instance : Reg c_r12_Great_r2 a_r12_Great_r2 4 := ⟨rfl, rfl⟩
@[simp] def a_r12_Great_r3 : List COper := [
  ⟨(some 4), .mov, [.c (.bool true)], none⟩]
def c_r12_Great_r3 : List COper := a_r12_Great_r3
instance : Reg c_r12_Great_r3 a_r12_Great_r3 1 := ⟨rfl, rfl⟩
@[simp] def a_r12_Great_r4 : List COper := [
  ⟨(some 14), .faddr 98 1 false, [.t 2], none⟩,
  ⟨(some 15), .load false 1, [.t 14], none⟩,
  ⟨(some 16), .len, [.t 15], none⟩,
  ⟨(some 17), .mov, [.c (.int .i64 0)], none⟩]
def c_r12_Great_r4 : List COper := a_r12_Great_r4
instance : Reg c_r12_Great_r4 a_r12_Great_r4 4 := ⟨rfl, rfl⟩
@[simp] def a_r12_Great_r5 : List COper := [
  ⟨(some 18), .bin .lss, [.t 17, .t 16], none⟩]
def c_r12_Great_r5 : List COper := a_r12_Great_r5
instance : Reg c_r12_Great_r5 a_r12_Great_r5 1 := ⟨rfl, rfl⟩
@[simp] def a_r12_Great_r6 : List COper := [
  ⟨(some 19), .iaddr 42, [.t 15, .t 17], none⟩,
  ⟨(some 20), .load true 42, [.t 19], none⟩,
  ⟨(some 7), .alloc (.node [.v (.int .i64 0), .v (.int .i64 0), .node [.v (.int .i64 0), .v (.string (mkS [])), .v (.string (mkS [])), .v (.string (mkS [])), .node [.v (.int .i64 0), .v (.int .i64 0), .v (.int .i64 0), .node [.arr 1 (rep 32 (.v (.int .u8 0))), .v (.int .i64 0)]]]]), [], none⟩,
  ⟨none, .store true 42, [.t 7, .t 20], none⟩]
def c_r12_Great_r6 : List COper := a_r12_Great_r6
instance : Reg c_r12_Great_r6 a_r12_Great_r6 4 := ⟨rfl, rfl⟩
@[simp] def a_r12_Great_r7 : List COper := [
  ⟨(some 21), .mov, [.t 5], none⟩,
  ⟨(some 22), .bin .add, [.t 21, .c (.int .i64 100)], none⟩,
  ⟨(some 5), .mov, [.t 22], none⟩]
def c_r12_Great_r7 : List COper := a_r12_Great_r7
instance : Reg c_r12_Great_r7 a_r12_Great_r7 3 := ⟨rfl, rfl⟩
@[simp] def a_r12_Great_r8 : List COper := [
  ⟨(some 23), .faddr 2 40 true, [.t 7], none⟩,
  ⟨(some 24), .faddr 1 1 false, [.t 23], none⟩,
  ⟨(some 25), .load false 1, [.t 24], none⟩,
  ⟨(some 26), .faddr 2 40 true, [.t 7], none⟩,
  ⟨(some 27), .faddr 2 1 false, [.t 26], none⟩,
  ⟨(some 28), .load false 1, [.t 27], none⟩,
  ⟨(some 29), .faddr 2 40 true, [.t 7], none⟩,
  ⟨(some 30), .faddr 3 1 false, [.t 29], none⟩,
  ⟨(some 31), .load false 1, [.t 30], none⟩,
  ⟨(some 32), .buildA 1 (rep 3 (.v (.string (mkS [])))) (upTo 3), [.t 25, .t 28, .t 31], none⟩,
  ⟨(some 33), .mov, [.c (.int .i64 0)], none⟩]
def c_r12_Great_r8 : List COper := a_r12_Great_r8
instance : Reg c_r12_Great_r8 a_r12_Great_r8 11 := ⟨rfl, rfl⟩
@[simp] def a_r12_Great_r9 : List COper := [
  ⟨(some 34), .bin .lss, [.t 33, .c (.int .i64 3)], none⟩]
def c_r12_Great_r9 : List COper := a_r12_Great_r9
instance : Reg c_r12_Great_r9 a_r12_Great_r9 1 := ⟨rfl, rfl⟩
@[simp] def a_r12_Great_r10 : List COper := [
  ⟨(some 35), .idx false 3 1, [.t 32, .t 33], none⟩,
  ⟨(some 9), .mov, [.t 35], none⟩]
def c_r12_Great_r10 : List COper := a_r12_Great_r10
instance : Reg c_r12_Great_r10 a_r12_Great_r10 2 := ⟨rfl, rfl⟩
@[simp] def a_r12_Great_r11 : List COper := [
  ⟨(some 36), .mov, [.t 5], none⟩,
  ⟨(some 37), .mov, [.t 9], none⟩,
  ⟨(some 38), .lenS, [.t 37], none⟩,
  ⟨(some 39), .bin .add, [.t 36, .t 38], none⟩,
  ⟨(some 5), .mov, [.t 39], none⟩]
def c_r12_Great_r11 : List COper := a_r12_Great_r11
instance : Reg c_r12_Great_r11 a_r12_Great_r11 5 := ⟨rfl, rfl⟩
@[simp] def a_r12_Great_r12 : List COper := [
  ⟨(some 40), .mov, [.t 5], none⟩,
  ⟨(some 41), .mov, [.t 1], none⟩,
  ⟨(some 42), .bin .gtr, [.t 40, .t 41], none⟩]
def c_r12_Great_r12 : List COper := a_r12_Great_r12
instance : Reg c_r12_Great_r12 a_r12_Great_r12 3 := ⟨rfl, rfl⟩
@[simp] def a_r12_Great_r13 : List COper := [
  ⟨(some 4), .mov, [.c (.bool true)], none⟩]
def c_r12_Great_r13 : List COper := a_r12_Great_r13
instance : Reg c_r12_Great_r13 a_r12_Great_r13 1 := ⟨rfl, rfl⟩
@[simp] def a_r12_Great_r14 : List COper := [
  ⟨(some 43), .bin .add, [.t 33, .c (.int .i64 1)], none⟩,
  ⟨(some 33), .mov, [.t 43], none⟩]
def c_r12_Great_r14 : List COper := a_r12_Great_r14
instance : Reg c_r12_Great_r14 a_r12_Great_r14 2 := ⟨rfl, rfl⟩
@[simp] def a_r12_Great_r15 : List COper := [
  ⟨(some 44), .bin .add, [.t 17, .c (.int .i64 1)], none⟩,
  ⟨(some 17), .mov, [.t 44], none⟩]
def c_r12_Great_r15 : List COper := a_r12_Great_r15
instance : Reg c_r12_Great_r15 a_r12_Great_r15 2 := ⟨rfl, rfl⟩
@[simp] def a_r12_Great_r16 : List COper := [
  ⟨(some 45), .mov, [.t 5], none⟩,
  ⟨(some 46), .mov, [.t 1], none⟩,
  ⟨(some 47), .bin .gtr, [.t 45, .t 46], none⟩,
  ⟨(some 4), .mov, [.t 47], none⟩]
def c_r12_Great_r16 : List COper := a_r12_Great_r16
instance : Reg c_r12_Great_r16 a_r12_Great_r16 4 := ⟨rfl, rfl⟩
@[simp] def c_r12_Great : CCode :=
  .seq (.region c_r12_Great_r0 none [1, 2]) (.seq (.region c_r12_Great_r1 none [1, 2, 5]) (.seq (.seq (.region c_r12_Great_r2 none [1, 2, 5, 13]) (.cond (.t 13) (.seq (.region c_r12_Great_r3 none [4]) (.ret)) (.skip))) (.seq (.seq (.region c_r12_Great_r4 none [1, 5, 15, 16, 17]) (.block 0 (.loop (.seq (.region c_r12_Great_r5 none [1, 5, 15, 16, 17, 18]) (.seq (.cond (.t 18) (.skip) (.exit 0)) (.seq (.block 1 (.seq (.region c_r12_Great_r6 none [1, 5, 7, 15, 16, 17]) (.seq (.region c_r12_Great_r7 none [1, 5, 7, 15, 16, 17]) (.seq (.region c_r12_Great_r8 none [1, 5, 15, 16, 17, 32, 33]) (.block 2 (.loop (.seq (.region c_r12_Great_r9 none [1, 5, 15, 16, 17, 32, 33, 34]) (.seq (.cond (.t 34) (.skip) (.exit 2)) (.seq (.block 3 (.seq (.region c_r12_Great_r10 none [1, 5, 9, 15, 16, 17, 32, 33]) (.seq (.region c_r12_Great_r11 none [1, 5, 15, 16, 17, 32, 33]) (.seq (.region c_r12_Great_r12 none [1, 5, 15, 16, 17, 32, 33, 42]) (.cond (.t 42) (.seq (.region c_r12_Great_r13 none [4]) (.ret)) (.skip)))))) (.region c_r12_Great_r14 none [1, 5, 15, 16, 17, 32, 33])))))))))) (.region c_r12_Great_r15 none [1, 5, 15, 16, 17]))))))) (.seq (.region c_r12_Great_r16 none [4]) (.ret)))))
@[simp] def R_r12_Great : List CRes := [.tmp 4]
theorem k_r12_Great : chkFn Tryd.prog fn_r12_Great c_r12_Great R_r12_Great 2 = true := by kernel_rfl
/-! wapentake/config.Good -/
@[simp] def a_config_Good_r0 : List COper := [
  ⟨(some 1), .box, [.t 0], none⟩,
  ⟨(some 2), .mov, [.c (.bool false)], none⟩]
def c_config_Good_r0 : List COper := a_config_Good_r0
instance : Reg c_config_Good_r0 a_config_Good_r0 2 := ⟨rfl, rfl⟩
@[simp] def a_config_Good_r1 : List COper := [
  ⟨(some 5), .faddr 0 1 false, [.t 1], none⟩,
  ⟨(some 6), .load false 1, [.t 5], none⟩,
  ⟨(some 7), .bin .lss, [.t 6, .c (.int .i64 0)], none⟩,
  ⟨(some 8), .mov, [.t 7], none⟩,
  ⟨(some 9), .faddr 0 1 false, [.t 1], (some (8, false))⟩,
  ⟨(some 10), .load false 1, [.t 9], (some (8, false))⟩,
  ⟨(some 11), .bin .gtr, [.t 10, .c (.int .i64 1073741824)], (some (8, false))⟩,
  ⟨(some 12), .pick, [.t 8, .c (.bool true), .t 11], none⟩,
  ⟨(some 13), .mov, [.t 12], none⟩,
  ⟨(some 14), .faddr 1 1 false, [.t 1], (some (13, false))⟩,
  ⟨(some 15), .load false 1, [.t 14], (some (13, false))⟩,
  ⟨(some 16), .len, [.t 15], (some (13, false))⟩,
  ⟨(some 17), .bin .eql, [.t 16, .c (.int .i64 0)], (some (13, false))⟩,
  ⟨(some 18), .pick, [.t 13, .c (.bool true), .t 17], none⟩,
  ⟨(some 19), .mov, [.t 18], none⟩,
  ⟨(some 20), .faddr 1 1 false, [.t 1], (some (19, false))⟩,
  ⟨(some 21), .load false 1, [.t 20], (some (19, false))⟩,
  ⟨(some 22), .len, [.t 21], (some (19, false))⟩,
  ⟨(some 23), .bin .gtr, [.t 22, .c (.int .i64 10)], (some (19, false))⟩,
  ⟨(some 24), .pick, [.t 19, .c (.bool true), .t 23], none⟩]
def c_config_Good_r1 : List COper := a_config_Good_r1
instance : Reg c_config_Good_r1 a_config_Good_r1 20 := ⟨rfl, rfl⟩
@[simp] def a_config_Good_r2 : List COper := [
  ⟨(some 2), .mov, [.c (.bool false)], none⟩]
def c_config_Good_r2 : List COper := a_config_Good_r2
instance : Reg c_config_Good_r2 a_config_Good_r2 1 := ⟨rfl, rfl⟩
@[simp] def a_config_Good_r3 : List COper := [
  ⟨(some 25), .faddr 1 1 false, [.t 1], none⟩,
  ⟨(some 26), .load false 1, [.t 25], none⟩,
  ⟨(some 27), .len, [.t 26], none⟩,
  ⟨(some 28), .mov, [.c (.int .i64 0)], none⟩]
def c_config_Good_r3 : List COper := a_config_Good_r3
instance : Reg c_config_Good_r3 a_config_Good_r3 4 := ⟨rfl, rfl⟩
@[simp] def a_config_Good_r4 : List COper := [
  ⟨(some 29), .bin .lss, [.t 28, .t 27], none⟩]
def c_config_Good_r4 : List COper := a_config_Good_r4
instance : Reg c_config_Good_r4 a_config_Good_r4 1 := ⟨rfl, rfl⟩
@[simp] def a_config_Good_r5 : List COper := [
  ⟨(some 30), .mov, [.t 28], none⟩,
  ⟨(some 31), .iaddr 34, [.t 26, .t 28], none⟩,
  ⟨(some 32), .load true 34, [.t 31], none⟩,
  ⟨(some 4), .alloc (.node [.v (.int .i64 0), .node [.arr 1 (rep 32 (.v (.int .u8 0))), .v (.int .i64 0)]]), [], none⟩,
  ⟨(some 3), .mov, [.t 30], none⟩,
  ⟨none, .store true 34, [.t 4, .t 32], none⟩]
def c_config_Good_r5 : List COper := a_config_Good_r5
instance : Reg c_config_Good_r5 a_config_Good_r5 6 := ⟨rfl, rfl⟩
@[simp] def a_config_Good_r6 : List COper := [
  ⟨(some 33), .load true 34, [.t 4], none⟩,
  ⟨(some 34), .call fn_config_right, [.t 33], none⟩,
  ⟨(some 35), .not, [.t 34], none⟩,
  ⟨(some 36), .mov, [.t 35], none⟩,
  ⟨(some 37), .mov, [.t 3], (some (36, false))⟩,
  ⟨(some 38), .bin .gtr, [.t 37, .c (.int .i64 0)], (some (36, false))⟩,
  ⟨(some 39), .mov, [.t 38], (some (36, false))⟩,
  ⟨(some 40), .faddr 1 1 false, [.t 1], (some (39, true))⟩,
  ⟨(some 41), .load false 1, [.t 40], (some (39, true))⟩,
  ⟨(some 42), .mov, [.t 3], (some (39, true))⟩,
  ⟨(some 43), .bin .sub, [.t 42, .c (.int .i64 1)], (some (39, true))⟩,
  ⟨(some 44), .iaddr 34, [.t 41, .t 43], (some (39, true))⟩,
  ⟨(some 45), .faddr 0 1 false, [.t 44], (some (39, true))⟩,
  ⟨(some 46), .load false 1, [.t 45], (some (39, true))⟩,
  ⟨(some 47), .faddr 0 1 false, [.t 4], (some (39, true))⟩,
  ⟨(some 48), .load false 1, [.t 47], (some (39, true))⟩,
  ⟨(some 49), .bin .geq, [.t 46, .t 48], (some (39, true))⟩,
  ⟨(some 50), .pick, [.t 39, .t 49, .c (.bool false)], (some (36, false))⟩,
  ⟨(some 51), .pick, [.t 36, .c (.bool true), .t 50], none⟩]
def c_config_Good_r6 : List COper := a_config_Good_r6
instance : Reg c_config_Good_r6 a_config_Good_r6 19 := ⟨rfl, rfl⟩
@[simp] def a_config_Good_r7 : List COper := [
  ⟨(some 2), .mov, [.c (.bool false)], none⟩]
def c_config_Good_r7 : List COper := a_config_Good_r7
instance : Reg c_config_Good_r7 a_config_Good_r7 1 := ⟨rfl, rfl⟩
@[simp] def a_config_Good_r8 : List COper := [
  ⟨(some 52), .bin .add, [.t 28, .c (.int .i64 1)], none⟩,
  ⟨(some 28), .mov, [.t 52], none⟩]
def c_config_Good_r8 : List COper := a_config_Good_r8
instance : Reg c_config_Good_r8 a_config_Good_r8 2 := ⟨rfl, rfl⟩
@[simp] def a_config_Good_r9 : List COper := [
  ⟨(some 2), .mov, [.c (.bool true)], none⟩]
def c_config_Good_r9 : List COper := a_config_Good_r9
instance : Reg c_config_Good_r9 a_config_Good_r9 1 := ⟨rfl, rfl⟩
@[simp] def c_config_Good : CCode :=
  .seq (.region c_config_Good_r0 none [1]) (.seq (.seq (.region c_config_Good_r1 none [1, 24]) (.cond (.t 24) (.seq (.region c_config_Good_r2 none [2]) (.ret)) (.skip))) (.seq (.seq (.region c_config_Good_r3 none [1, 26, 27, 28]) (.block 0 (.loop (.seq (.region c_config_Good_r4 none [1, 26, 27, 28, 29]) (.seq (.cond (.t 29) (.skip) (.exit 0)) (.seq (.block 1 (.seq (.region c_config_Good_r5 none [1, 3, 4, 26, 27, 28]) (.seq (.region c_config_Good_r6 (some ([0, 1, 3, 7, 15, 31, 63, 127, 255, 127, 639, 2047, 4095, 8191, 127, 16511, 65535, 131071, 262143], [])) [1, 26, 27, 28, 51]) (.cond (.t 51) (.seq (.region c_config_Good_r7 none [2]) (.ret)) (.skip))))) (.region c_config_Good_r8 none [1, 26, 27, 28]))))))) (.seq (.region c_config_Good_r9 none [2]) (.ret))))
@[simp] def R_config_Good : List CRes := [.tmp 2]
theorem k_config_Good : chkFn Tryd.prog fn_config_Good c_config_Good R_config_Good 1 = true := by kernel_rfl
/-! wapentake/config.Digest -/
@[simp] def a_config_Digest_r0 : List COper := [
  ⟨(some 1), .box, [.t 0], none⟩,
  ⟨(some 2), .alloc (.arr 1 (rep 32 (.v (.int .u8 0)))), [], none⟩]
def c_config_Digest_r0 : List COper := a_config_Digest_r0
instance : Reg c_config_Digest_r0 a_config_Digest_r0 2 := ⟨rfl, rfl⟩
@[simp] def a_config_Digest_r1 : List COper := [
  ⟨(some 4), .build [.v (.slice none 0 0)] [], [], none⟩,
  ⟨(some 5), .box, [.t 4], none⟩,
  ⟨(some 3), .mov, [.t 5], none⟩]
def c_config_Digest_r1 : List COper := a_config_Digest_r1
instance : Reg c_config_Digest_r1 a_config_Digest_r1 3 := ⟨rfl, rfl⟩
@[simp] def a_config_Digest_r2 : List COper := [
  ⟨(some 6), .mov, [.t 3], none⟩,
  ⟨(some 7), .load true 2, [.t 1], none⟩,
  ⟨(some 8), .call fn_config_Write, [.t 6, .t 7], none⟩]
def c_config_Digest_r2 : List COper := a_config_Digest_r2
instance : Reg c_config_Digest_r2 a_config_Digest_r2 3 := ⟨rfl, rfl⟩
@[simp] def a_config_Digest_r3 : List COper := [
  ⟨(some 9), .bslice 1 6 (.v (.int .u8 0)) [0, 1, 2, 3, 4, 5], [.c (.int .u8 99), .c (.int .u8 111), .c (.int .u8 110), .c (.int .u8 102), .c (.int .u8 105), .c (.int .u8 103)], none⟩,
  ⟨(some 10), .convM, [.t 9], none⟩,
  ⟨(some 11), .mov, [.t 3], none⟩,
  ⟨(some 12), .call fn_code_Writer_Bytes, [.t 11], none⟩,
  ⟨(some 13), .bslice 1 2 (.v (.slice none 0 0)) [0, 1], [.t 10, .t 12], none⟩,
  ⟨(some 14), .call fn_sha_Of, [.t 13], none⟩,
  ⟨none, .store true 32, [.t 2, .t 14], none⟩]
def c_config_Digest_r3 : List COper := a_config_Digest_r3
instance : Reg c_config_Digest_r3 a_config_Digest_r3 7 := ⟨rfl, rfl⟩
@[simp] def c_config_Digest : CCode :=
  .seq (.region c_config_Digest_r0 none [1, 2]) (.seq (.region c_config_Digest_r1 none [1, 2, 3]) (.seq (.region c_config_Digest_r2 none [2, 3]) (.seq (.region c_config_Digest_r3 none [2]) (.ret))))
@[simp] def R_config_Digest : List CRes := [.cell 2 true 32]
theorem k_config_Digest : chkFn Tryd.prog fn_config_Digest c_config_Digest R_config_Digest 1 = true := by kernel_rfl
/-! wapentake/wapentakeref08.Good -/
@[simp] def a_r08_Good_r0 : List COper := [
  ⟨(some 1), .box, [.t 0], none⟩,
  ⟨(some 2), .mov, [.c (.bool false)], none⟩]
def c_r08_Good_r0 : List COper := a_r08_Good_r0
instance : Reg c_r08_Good_r0 a_r08_Good_r0 2 := ⟨rfl, rfl⟩
@[simp] def a_r08_Good_r1 : List COper := [
  ⟨(some 6), .faddr 1 1 false, [.t 1], none⟩,
  ⟨(some 7), .load false 1, [.t 6], none⟩,
  ⟨(some 8), .len, [.t 7], none⟩,
  ⟨(some 3), .mov, [.t 8], none⟩]
def c_r08_Good_r1 : List COper := a_r08_Good_r1
instance : Reg c_r08_Good_r1 a_r08_Good_r1 4 := ⟨rfl, rfl⟩
@[simp] def a_r08_Good_r2 : List COper := [
  ⟨(some 9), .faddr 0 1 false, [.t 1], none⟩,
  ⟨(some 10), .load false 1, [.t 9], none⟩,
  ⟨(some 11), .bin .lss, [.t 10, .c (.int .i64 0)], none⟩,
  ⟨(some 12), .mov, [.t 11], none⟩,
  ⟨(some 13), .faddr 0 1 false, [.t 1], (some (12, false))⟩,
  ⟨(some 14), .load false 1, [.t 13], (some (12, false))⟩,
  ⟨(some 15), .bin .gtr, [.t 14, .c (.int .i64 1073741824)], (some (12, false))⟩,
  ⟨(some 16), .pick, [.t 12, .c (.bool true), .t 15], none⟩,
  ⟨(some 17), .mov, [.t 16], none⟩,
  ⟨(some 18), .mov, [.t 3], (some (17, false))⟩,
  ⟨(some 19), .bin .lss, [.t 18, .c (.int .i64 1)], (some (17, false))⟩,
  ⟨(some 20), .pick, [.t 17, .c (.bool true), .t 19], none⟩,
  ⟨(some 21), .mov, [.t 20], none⟩,
  ⟨(some 22), .mov, [.t 3], (some (21, false))⟩,
  ⟨(some 23), .bin .gtr, [.t 22, .c (.int .i64 10)], (some (21, false))⟩,
  ⟨(some 24), .pick, [.t 21, .c (.bool true), .t 23], none⟩]
def c_r08_Good_r2 : List COper := a_r08_Good_r2
instance : Reg c_r08_Good_r2 a_r08_Good_r2 16 := ⟨rfl, rfl⟩
@[simp] def a_r08_Good_r3 : List COper := [
  ⟨(some 2), .mov, [.c (.bool false)], none⟩]
def c_r08_Good_r3 : List COper := a_r08_Good_r3
instance : Reg c_r08_Good_r3 a_r08_Good_r3 1 := ⟨rfl, rfl⟩
@[simp] def a_r08_Good_r4 : List COper := [
  ⟨(some 25), .faddr 1 1 false, [.t 1], none⟩,
  ⟨(some 26), .load false 1, [.t 25], none⟩,
  ⟨(some 27), .len, [.t 26], none⟩,
  ⟨(some 28), .mov, [.c (.int .i64 0)], none⟩]
def c_r08_Good_r4 : List COper := a_r08_Good_r4
instance : Reg c_r08_Good_r4 a_r08_Good_r4 4 := ⟨rfl, rfl⟩
@[simp] def a_r08_Good_r5 : List COper := [
  ⟨(some 29), .bin .lss, [.t 28, .t 27], none⟩]
def c_r08_Good_r5 : List COper := a_r08_Good_r5
instance : Reg c_r08_Good_r5 a_r08_Good_r5 1 := ⟨rfl, rfl⟩
@[simp] def a_r08_Good_r6 : List COper := [
  ⟨(some 30), .mov, [.t 28], none⟩,
  ⟨(some 31), .iaddr 34, [.t 26, .t 28], none⟩,
  ⟨(some 32), .load true 34, [.t 31], none⟩,
  ⟨(some 5), .alloc (.node [.v (.int .i64 0), .node [.arr 1 (rep 32 (.v (.int .u8 0))), .v (.int .i64 0)]]), [], none⟩,
  ⟨(some 4), .mov, [.t 30], none⟩,
  ⟨none, .store true 34, [.t 5, .t 32], none⟩]
def c_r08_Good_r6 : List COper := a_r08_Good_r6
instance : Reg c_r08_Good_r6 a_r08_Good_r6 6 := ⟨rfl, rfl⟩
@[simp] def a_r08_Good_r7 : List COper := [
  ⟨(some 33), .load true 34, [.t 5], none⟩,
  ⟨(some 34), .call fn_r08_Right, [.t 33], none⟩,
  ⟨(some 35), .not, [.t 34], none⟩]
def c_r08_Good_r7 : List COper := a_r08_Good_r7
instance : Reg c_r08_Good_r7 a_r08_Good_r7 3 := ⟨rfl, rfl⟩
@[simp] def a_r08_Good_r8 : List COper := [
  ⟨(some 2), .mov, [.c (.bool false)], none⟩]
def c_r08_Good_r8 : List COper := a_r08_Good_r8
instance : Reg c_r08_Good_r8 a_r08_Good_r8 1 := ⟨rfl, rfl⟩
@[simp] def a_r08_Good_r9 : List COper := [
  ⟨(some 36), .mov, [.t 4], none⟩,
  ⟨(some 37), .bin .gtr, [.t 36, .c (.int .i64 0)], none⟩,
  ⟨(some 38), .mov, [.t 37], none⟩,
  ⟨(some 39), .faddr 0 1 false, [.t 5], (some (38, true))⟩,
  ⟨(some 40), .load false 1, [.t 39], (some (38, true))⟩,
  ⟨(some 41), .faddr 1 1 false, [.t 1], (some (38, true))⟩,
  ⟨(some 42), .load false 1, [.t 41], (some (38, true))⟩,
  ⟨(some 43), .mov, [.t 4], (some (38, true))⟩,
  ⟨(some 44), .bin .sub, [.t 43, .c (.int .i64 1)], (some (38, true))⟩,
  ⟨(some 45), .iaddr 34, [.t 42, .t 44], (some (38, true))⟩,
  ⟨(some 46), .faddr 0 1 false, [.t 45], (some (38, true))⟩,
  ⟨(some 47), .load false 1, [.t 46], (some (38, true))⟩,
  ⟨(some 48), .bin .leq, [.t 40, .t 47], (some (38, true))⟩,
  ⟨(some 49), .pick, [.t 38, .t 48, .c (.bool false)], none⟩]
def c_r08_Good_r9 : List COper := a_r08_Good_r9
instance : Reg c_r08_Good_r9 a_r08_Good_r9 14 := ⟨rfl, rfl⟩
@[simp] def a_r08_Good_r10 : List COper := [
  ⟨(some 2), .mov, [.c (.bool false)], none⟩]
def c_r08_Good_r10 : List COper := a_r08_Good_r10
instance : Reg c_r08_Good_r10 a_r08_Good_r10 1 := ⟨rfl, rfl⟩
@[simp] def a_r08_Good_r11 : List COper := [
  ⟨(some 50), .bin .add, [.t 28, .c (.int .i64 1)], none⟩,
  ⟨(some 28), .mov, [.t 50], none⟩]
def c_r08_Good_r11 : List COper := a_r08_Good_r11
instance : Reg c_r08_Good_r11 a_r08_Good_r11 2 := ⟨rfl, rfl⟩
@[simp] def a_r08_Good_r12 : List COper := [
  ⟨(some 2), .mov, [.c (.bool true)], none⟩]
def c_r08_Good_r12 : List COper := a_r08_Good_r12
instance : Reg c_r08_Good_r12 a_r08_Good_r12 1 := ⟨rfl, rfl⟩
@[simp] def c_r08_Good : CCode :=
  .seq (.region c_r08_Good_r0 none [1]) (.seq (.region c_r08_Good_r1 none [1, 3]) (.seq (.seq (.region c_r08_Good_r2 none [1, 24]) (.cond (.t 24) (.seq (.region c_r08_Good_r3 none [2]) (.ret)) (.skip))) (.seq (.seq (.region c_r08_Good_r4 none [1, 26, 27, 28]) (.block 0 (.loop (.seq (.region c_r08_Good_r5 none [1, 26, 27, 28, 29]) (.seq (.cond (.t 29) (.skip) (.exit 0)) (.seq (.block 1 (.seq (.region c_r08_Good_r6 none [1, 4, 5, 26, 27, 28]) (.seq (.seq (.region c_r08_Good_r7 none [1, 4, 5, 26, 27, 28, 35]) (.cond (.t 35) (.seq (.region c_r08_Good_r8 none [2]) (.ret)) (.skip))) (.seq (.region c_r08_Good_r9 (some ([0, 1, 3, 7, 15, 7, 39, 7, 135, 487, 999, 2023, 4095, 8191], [])) [1, 26, 27, 28, 49]) (.cond (.t 49) (.seq (.region c_r08_Good_r10 none [2]) (.ret)) (.skip)))))) (.region c_r08_Good_r11 none [1, 26, 27, 28]))))))) (.seq (.region c_r08_Good_r12 none [2]) (.ret)))))
@[simp] def R_r08_Good : List CRes := [.tmp 2]
theorem k_r08_Good : chkFn Tryd.prog fn_r08_Good c_r08_Good R_r08_Good 1 = true := by kernel_rfl
/-! wapentake/wapentakeref08.Digest -/
@[simp] def a_r08_Digest_r0 : List COper := [
  ⟨(some 1), .box, [.t 0], none⟩,
  ⟨(some 2), .alloc (.arr 1 (rep 32 (.v (.int .u8 0)))), [], none⟩]
def c_r08_Digest_r0 : List COper := a_r08_Digest_r0
instance : Reg c_r08_Digest_r0 a_r08_Digest_r0 2 := ⟨rfl, rfl⟩
@[simp] def a_r08_Digest_r1 : List COper := [
  ⟨(some 3), .load true 2, [.t 1], none⟩,
  ⟨(some 4), .call fn_r08_Bytes, [.t 3], none⟩,
  ⟨(some 5), .bin .add, [.c (.string (mkS [99, 111, 110, 102, 105, 103])), .t 4], none⟩,
  ⟨(some 6), .call fn_r02_Text, [.t 5], none⟩,
  ⟨none, .store true 32, [.t 2, .t 6], none⟩]
def c_r08_Digest_r1 : List COper := a_r08_Digest_r1
instance : Reg c_r08_Digest_r1 a_r08_Digest_r1 5 := ⟨rfl, rfl⟩
@[simp] def c_r08_Digest : CCode :=
  .seq (.region c_r08_Digest_r0 none [1, 2]) (.seq (.region c_r08_Digest_r1 none [2]) (.ret))
@[simp] def R_r08_Digest : List CRes := [.cell 2 true 32]
theorem k_r08_Digest : chkFn Tryd.prog fn_r08_Digest c_r08_Digest R_r08_Digest 1 = true := by kernel_rfl
/-! wapentake/block.Digest -/
@[simp] def a_block_Digest_r0 : List COper := [
  ⟨(some 1), .box, [.t 0], none⟩,
  ⟨(some 2), .alloc (.arr 1 (rep 32 (.v (.int .u8 0)))), [], none⟩]
def c_block_Digest_r0 : List COper := a_block_Digest_r0
instance : Reg c_block_Digest_r0 a_block_Digest_r0 2 := ⟨rfl, rfl⟩
@[simp] def a_block_Digest_r1 : List COper := [
  ⟨(some 4), .build [.v (.slice none 0 0)] [], [], none⟩,
  ⟨(some 5), .box, [.t 4], none⟩,
  ⟨(some 3), .mov, [.t 5], none⟩]
def c_block_Digest_r1 : List COper := a_block_Digest_r1
instance : Reg c_block_Digest_r1 a_block_Digest_r1 3 := ⟨rfl, rfl⟩
@[simp] def a_block_Digest_r2 : List COper := [
  ⟨(some 6), .mov, [.t 3], none⟩,
  ⟨(some 7), .load true 99, [.t 1], none⟩,
  ⟨(some 8), .call fn_block_Write, [.t 6, .t 7], none⟩]
def c_block_Digest_r2 : List COper := a_block_Digest_r2
instance : Reg c_block_Digest_r2 a_block_Digest_r2 3 := ⟨rfl, rfl⟩
@[simp] def a_block_Digest_r3 : List COper := [
  ⟨(some 9), .bslice 1 5 (.v (.int .u8 0)) [0, 1, 2, 3, 4], [.c (.int .u8 98), .c (.int .u8 108), .c (.int .u8 111), .c (.int .u8 99), .c (.int .u8 107)], none⟩,
  ⟨(some 10), .convM, [.t 9], none⟩,
  ⟨(some 11), .mov, [.t 3], none⟩,
  ⟨(some 12), .call fn_code_Writer_Bytes, [.t 11], none⟩,
  ⟨(some 13), .bslice 1 2 (.v (.slice none 0 0)) [0, 1], [.t 10, .t 12], none⟩,
  ⟨(some 14), .call fn_sha_Of, [.t 13], none⟩,
  ⟨none, .store true 32, [.t 2, .t 14], none⟩]
def c_block_Digest_r3 : List COper := a_block_Digest_r3
instance : Reg c_block_Digest_r3 a_block_Digest_r3 7 := ⟨rfl, rfl⟩
@[simp] def c_block_Digest : CCode :=
  .seq (.region c_block_Digest_r0 none [1, 2]) (.seq (.region c_block_Digest_r1 none [1, 2, 3]) (.seq (.region c_block_Digest_r2 none [2, 3]) (.seq (.region c_block_Digest_r3 none [2]) (.ret))))
@[simp] def R_block_Digest : List CRes := [.cell 2 true 32]
theorem k_block_Digest : chkFn Tryd.prog fn_block_Digest c_block_Digest R_block_Digest 1 = true := by kernel_rfl
/-! wapentake/vote.Signs -/
@[simp] def a_vote_Signs_r0 : List COper := [
  ⟨(some 1), .box, [.t 0], none⟩,
  ⟨(some 2), .alloc (.arr 1 (rep 32 (.v (.int .u8 0)))), [], none⟩]
def c_vote_Signs_r0 : List COper := a_vote_Signs_r0
instance : Reg c_vote_Signs_r0 a_vote_Signs_r0 2 := ⟨rfl, rfl⟩
@[simp] def a_vote_Signs_r1 : List COper := [
  ⟨(some 4), .build [.v (.slice none 0 0)] [], [], none⟩,
  ⟨(some 5), .box, [.t 4], none⟩,
  ⟨(some 3), .mov, [.t 5], none⟩]
def c_vote_Signs_r1 : List COper := a_vote_Signs_r1
instance : Reg c_vote_Signs_r1 a_vote_Signs_r1 3 := ⟨rfl, rfl⟩
@[simp] def a_vote_Signs_r2 : List COper := [
  ⟨(some 6), .mov, [.t 3], none⟩,
  ⟨(some 7), .load true 41, [.t 1], none⟩,
  ⟨(some 8), .call fn_vote_head, [.t 6, .t 7], none⟩]
def c_vote_Signs_r2 : List COper := a_vote_Signs_r2
instance : Reg c_vote_Signs_r2 a_vote_Signs_r2 3 := ⟨rfl, rfl⟩
@[simp] def a_vote_Signs_r3 : List COper := [
  ⟨(some 9), .bslice 1 4 (.v (.int .u8 0)) [0, 1, 2, 3], [.c (.int .u8 118), .c (.int .u8 111), .c (.int .u8 116), .c (.int .u8 101)], none⟩,
  ⟨(some 10), .convM, [.t 9], none⟩,
  ⟨(some 11), .mov, [.t 3], none⟩,
  ⟨(some 12), .call fn_code_Writer_Bytes, [.t 11], none⟩,
  ⟨(some 13), .bslice 1 2 (.v (.slice none 0 0)) [0, 1], [.t 10, .t 12], none⟩,
  ⟨(some 14), .call fn_sha_Of, [.t 13], none⟩,
  ⟨none, .store true 32, [.t 2, .t 14], none⟩]
def c_vote_Signs_r3 : List COper := a_vote_Signs_r3
instance : Reg c_vote_Signs_r3 a_vote_Signs_r3 7 := ⟨rfl, rfl⟩
@[simp] def c_vote_Signs : CCode :=
  .seq (.region c_vote_Signs_r0 none [1, 2]) (.seq (.region c_vote_Signs_r1 none [1, 2, 3]) (.seq (.region c_vote_Signs_r2 none [2, 3]) (.seq (.region c_vote_Signs_r3 none [2]) (.ret))))
@[simp] def R_vote_Signs : List CRes := [.cell 2 true 32]
theorem k_vote_Signs : chkFn Tryd.prog fn_vote_Signs c_vote_Signs R_vote_Signs 1 = true := by kernel_rfl
/-! wapentake/block.Good -/
@[simp] def a_block_Good_r0 : List COper := [
  ⟨(some 1), .box, [.t 0], none⟩,
  ⟨(some 2), .mov, [.c (.bool false)], none⟩]
def c_block_Good_r0 : List COper := a_block_Good_r0
instance : Reg c_block_Good_r0 a_block_Good_r0 2 := ⟨rfl, rfl⟩
@[simp] def a_block_Good_r1 : List COper := [
  ⟨(some 5), .faddr 0 1 false, [.t 1], none⟩,
  ⟨(some 6), .load false 1, [.t 5], none⟩,
  ⟨(some 7), .bin .lss, [.t 6, .c (.int .i64 0)], none⟩,
  ⟨(some 8), .mov, [.t 7], none⟩,
  ⟨(some 9), .faddr 0 1 false, [.t 1], (some (8, false))⟩,
  ⟨(some 10), .load false 1, [.t 9], (some (8, false))⟩,
  ⟨(some 11), .bin .gtr, [.t 10, .c (.int .i64 1073741824)], (some (8, false))⟩,
  ⟨(some 12), .pick, [.t 8, .c (.bool true), .t 11], none⟩,
  ⟨(some 13), .mov, [.t 12], none⟩,
  ⟨(some 14), .faddr 1 1 false, [.t 1], (some (13, false))⟩,
  ⟨(some 15), .load false 1, [.t 14], (some (13, false))⟩,
  ⟨(some 16), .bin .lss, [.t 15, .c (.int .i64 1)], (some (13, false))⟩,
  ⟨(some 17), .pick, [.t 13, .c (.bool true), .t 16], none⟩,
  ⟨(some 18), .mov, [.t 17], none⟩,
  ⟨(some 19), .faddr 1 1 false, [.t 1], (some (18, false))⟩,
  ⟨(some 20), .load false 1, [.t 19], (some (18, false))⟩,
  ⟨(some 21), .bin .gtr, [.t 20, .c (.int .i64 1024)], (some (18, false))⟩,
  ⟨(some 22), .pick, [.t 18, .c (.bool true), .t 21], none⟩,
  ⟨(some 23), .mov, [.t 22], none⟩,
  ⟨(some 24), .faddr 98 1 false, [.t 1], (some (23, false))⟩,
  ⟨(some 25), .load false 1, [.t 24], (some (23, false))⟩,
  ⟨(some 26), .len, [.t 25], (some (23, false))⟩,
  ⟨(some 27), .bin .gtr, [.t 26, .c (.int .i64 8)], (some (23, false))⟩,
  ⟨(some 28), .pick, [.t 23, .c (.bool true), .t 27], none⟩]
def c_block_Good_r1 : List COper := a_block_Good_r1
instance : Reg c_block_Good_r1 a_block_Good_r1 24 := ⟨rfl, rfl⟩
@[simp] def a_block_Good_r2 : List COper := [
  ⟨(some 2), .mov, [.c (.bool false)], none⟩]
def c_block_Good_r2 : List COper := a_block_Good_r2
instance : Reg c_block_Good_r2 a_block_Good_r2 1 := ⟨rfl, rfl⟩
@[simp] def a_block_Good_r3 : List COper := [
  ⟨(some 29), .faddr 98 1 false, [.t 1], none⟩,
  ⟨(some 30), .load false 1, [.t 29], none⟩,
  ⟨(some 31), .len, [.t 30], none⟩,
  ⟨(some 32), .mov, [.c (.int .i64 0)], none⟩]
def c_block_Good_r3 : List COper := a_block_Good_r3
instance : Reg c_block_Good_r3 a_block_Good_r3 4 := ⟨rfl, rfl⟩
@[simp] def a_block_Good_r4 : List COper := [
  ⟨(some 33), .bin .lss, [.t 32, .t 31], none⟩]
def c_block_Good_r4 : List COper := a_block_Good_r4
instance : Reg c_block_Good_r4 a_block_Good_r4 1 := ⟨rfl, rfl⟩
@[simp] def a_block_Good_r5 : List COper := [
  ⟨(some 34), .iaddr 42, [.t 30, .t 32], none⟩,
  ⟨(some 35), .load true 42, [.t 34], none⟩,
  ⟨(some 4), .alloc (.node [.v (.int .i64 0), .v (.int .i64 0), .node [.v (.int .i64 0), .v (.string (mkS [])), .v (.string (mkS [])), .v (.string (mkS [])), .node [.v (.int .i64 0), .v (.int .i64 0), .v (.int .i64 0), .node [.arr 1 (rep 32 (.v (.int .u8 0))), .v (.int .i64 0)]]]]), [], none⟩,
  ⟨none, .store true 42, [.t 4, .t 35], none⟩]
def c_block_Good_r5 : List COper := a_block_Good_r5
instance : Reg c_block_Good_r5 a_block_Good_r5 4 := ⟨rfl, rfl⟩
@[simp] def a_block_Good_r6 : List COper := [
  ⟨(some 36), .load true 42, [.t 4], none⟩,
  ⟨(some 37), .call fn_request_Good, [.t 36], none⟩,
  ⟨(some 38), .not, [.t 37], none⟩]
def c_block_Good_r6 : List COper := a_block_Good_r6
instance : Reg c_block_Good_r6 a_block_Good_r6 3 := ⟨rfl, rfl⟩
@[simp] def a_block_Good_r7 : List COper := [
  ⟨(some 2), .mov, [.c (.bool false)], none⟩]
def c_block_Good_r7 : List COper := a_block_Good_r7
instance : Reg c_block_Good_r7 a_block_Good_r7 1 := ⟨rfl, rfl⟩
@[simp] def a_block_Good_r8 : List COper := [
  ⟨(some 39), .bin .add, [.t 32, .c (.int .i64 1)], none⟩,
  ⟨(some 32), .mov, [.t 39], none⟩]
def c_block_Good_r8 : List COper := a_block_Good_r8
instance : Reg c_block_Good_r8 a_block_Good_r8 2 := ⟨rfl, rfl⟩
@[simp] def a_block_Good_r9 : List COper := [
  ⟨(some 2), .mov, [.c (.bool true)], none⟩]
def c_block_Good_r9 : List COper := a_block_Good_r9
instance : Reg c_block_Good_r9 a_block_Good_r9 1 := ⟨rfl, rfl⟩
@[simp] def c_block_Good : CCode :=
  .seq (.region c_block_Good_r0 none [1]) (.seq (.seq (.region c_block_Good_r1 none [1, 28]) (.cond (.t 28) (.seq (.region c_block_Good_r2 none [2]) (.ret)) (.skip))) (.seq (.seq (.region c_block_Good_r3 none [30, 31, 32]) (.block 0 (.loop (.seq (.region c_block_Good_r4 none [30, 31, 32, 33]) (.seq (.cond (.t 33) (.skip) (.exit 0)) (.seq (.block 1 (.seq (.region c_block_Good_r5 none [4, 30, 31, 32]) (.seq (.region c_block_Good_r6 none [30, 31, 32, 38]) (.cond (.t 38) (.seq (.region c_block_Good_r7 none [2]) (.ret)) (.skip))))) (.region c_block_Good_r8 none [30, 31, 32]))))))) (.seq (.region c_block_Good_r9 none [2]) (.ret))))
@[simp] def R_block_Good : List CRes := [.tmp 2]
theorem k_block_Good : chkFn Tryd.prog fn_block_Good c_block_Good R_block_Good 1 = true := by kernel_rfl
/-! wapentake/config.Quorum -/
@[simp] def a_config_Quorum_r0 : List COper := [
  ⟨(some 1), .box, [.t 0], none⟩,
  ⟨(some 2), .mov, [.c (.int .i64 0)], none⟩]
def c_config_Quorum_r0 : List COper := a_config_Quorum_r0
instance : Reg c_config_Quorum_r0 a_config_Quorum_r0 2 := ⟨rfl, rfl⟩
@[simp] def a_config_Quorum_r1 : List COper := [
  ⟨(some 3), .faddr 1 1 false, [.t 1], none⟩,
  ⟨(some 4), .load false 1, [.t 3], none⟩,
  ⟨(some 5), .len, [.t 4], none⟩,
  ⟨(some 6), .load true 2, [.t 1], none⟩,
  ⟨(some 7), .call fn_config_Faults, [.t 6], none⟩,
  ⟨(some 8), .bin .add, [.t 5, .t 7], none⟩,
  ⟨(some 9), .bin .quo, [.t 8, .c (.int .i64 2)], none⟩,
  ⟨(some 10), .bin .add, [.t 9, .c (.int .i64 1)], none⟩,
  ⟨(some 2), .mov, [.t 10], none⟩]
def c_config_Quorum_r1 : List COper := a_config_Quorum_r1
instance : Reg c_config_Quorum_r1 a_config_Quorum_r1 9 := ⟨rfl, rfl⟩
@[simp] def c_config_Quorum : CCode :=
  .seq (.region c_config_Quorum_r0 none [1]) (.seq (.region c_config_Quorum_r1 (some ([0, 1, 3, 0, 8, 31, 63, 127, 255], [(1, 4)])) [2]) (.ret))
@[simp] def R_config_Quorum : List CRes := [.tmp 2]
theorem k_config_Quorum : chkFn Tryd.prog fn_config_Quorum c_config_Quorum R_config_Quorum 1 = true := by kernel_rfl
/-! wapentake/vote.Right -/
@[simp] def a_vote_Right_r0 : List COper := [
  ⟨(some 2), .box, [.t 0], none⟩,
  ⟨(some 3), .box, [.t 1], none⟩,
  ⟨(some 4), .mov, [.c (.bool false)], none⟩]
def c_vote_Right_r0 : List COper := a_vote_Right_r0
instance : Reg c_vote_Right_r0 a_vote_Right_r0 3 := ⟨rfl, rfl⟩
@[simp] def a_vote_Right_r1 : List COper := [
  ⟨(some 9), .load true 2, [.t 2], none⟩,
  ⟨(some 10), .faddr 36 1 false, [.t 3], none⟩,
  ⟨(some 11), .load false 1, [.t 10], none⟩,
  ⟨(some 12), .call fn_config_Find, [.t 9, .t 11], none⟩,
  ⟨(some 8), .mov, [.t 12], none⟩,
  ⟨(some 13), .ext 0, [.t 8], none⟩,
  ⟨(some 14), .ext 1, [.t 8], none⟩,
  ⟨(some 15), .ext 2, [.t 8], none⟩,
  ⟨(some 5), .alloc (.node [.v (.int .i64 0), .node [.arr 1 (rep 32 (.v (.int .u8 0))), .v (.int .i64 0)]]), [], none⟩,
  ⟨none, .store true 34, [.t 5, .t 13], none⟩,
  ⟨(some 6), .mov, [.t 14], none⟩,
  ⟨(some 7), .mov, [.t 15], none⟩]
def c_vote_Right_r1 : List COper := a_vote_Right_r1
instance : Reg c_vote_Right_r1 a_vote_Right_r1 12 := ⟨rfl, rfl⟩
@[simp] def a_vote_Right_r2 : List COper := [
  ⟨(some 16), .mov, [.t 7], none⟩,
  ⟨(some 17), .mov, [.t 16], none⟩,
  ⟨(some 18), .load true 41, [.t 3], (some (17, true))⟩,
  ⟨(some 19), .call fn_vote_Good, [.t 18], (some (17, true))⟩,
  ⟨(some 20), .pick, [.t 17, .t 19, .c (.bool false)], none⟩,
  ⟨(some 21), .mov, [.t 20], none⟩,
  ⟨(some 22), .faddr 1 1 false, [.t 3], (some (21, true))⟩,
  ⟨(some 23), .load false 1, [.t 22], (some (21, true))⟩,
  ⟨(some 24), .faddr 0 1 false, [.t 2], (some (21, true))⟩,
  ⟨(some 25), .load false 1, [.t 24], (some (21, true))⟩,
  ⟨(some 26), .bin .eql, [.t 23, .t 25], (some (21, true))⟩,
  ⟨(some 27), .pick, [.t 21, .t 26, .c (.bool false)], none⟩,
  ⟨(some 28), .mov, [.t 27], none⟩,
  ⟨(some 29), .faddr 1 33 true, [.t 5], (some (28, true))⟩,
  ⟨(some 30), .load true 33, [.t 29], (some (28, true))⟩,
  ⟨(some 31), .load true 41, [.t 3], (some (28, true))⟩,
  ⟨(some 32), .call fn_vote_Signs, [.t 31], (some (28, true))⟩,
  ⟨(some 33), .faddr 37 4 true, [.t 3], (some (28, true))⟩,
  ⟨(some 34), .load true 4, [.t 33], (some (28, true))⟩,
  ⟨(some 35), .call fn_keys_Check, [.t 30, .t 32, .t 34], (some (28, true))⟩,
  ⟨(some 36), .pick, [.t 28, .t 35, .c (.bool false)], none⟩,
  ⟨(some 4), .mov, [.t 36], none⟩]
def c_vote_Right_r2 : List COper := a_vote_Right_r2
instance : Reg c_vote_Right_r2 a_vote_Right_r2 22 := ⟨rfl, rfl⟩
@[simp] def c_vote_Right : CCode :=
  .seq (.region c_vote_Right_r0 none [2, 3]) (.seq (.region c_vote_Right_r1 none [2, 3, 5, 7]) (.seq (.region c_vote_Right_r2 (some ([0, 1, 3, 7, 15, 31, 63, 127, 63, 319, 1023, 2047, 4095, 8191, 16383, 8191, 40959, 8191, 139263, 524287, 1048575, 2097151], [(14, 16), (16, 18)])) [4]) (.ret)))
@[simp] def R_vote_Right : List CRes := [.tmp 4]
theorem k_vote_Right : chkFn Tryd.prog fn_vote_Right c_vote_Right R_vote_Right 2 = true := by kernel_rfl
/-! wapentake/wapentakeref12.Good -/
@[simp] def a_r12_Good_r0 : List COper := [
  ⟨(some 1), .box, [.t 0], none⟩,
  ⟨(some 2), .mov, [.c (.bool false)], none⟩]
def c_r12_Good_r0 : List COper := a_r12_Good_r0
instance : Reg c_r12_Good_r0 a_r12_Good_r0 2 := ⟨rfl, rfl⟩
@[simp] def a_r12_Good_r1 : List COper := [
  ⟨(some 5), .faddr 0 1 false, [.t 1], none⟩,
  ⟨(some 6), .load false 1, [.t 5], none⟩,
  ⟨(some 7), .bin .lss, [.t 6, .c (.int .i64 0)], none⟩,
  ⟨(some 8), .mov, [.t 7], none⟩,
  ⟨(some 9), .faddr 0 1 false, [.t 1], (some (8, false))⟩,
  ⟨(some 10), .load false 1, [.t 9], (some (8, false))⟩,
  ⟨(some 11), .bin .gtr, [.t 10, .c (.int .i64 1073741824)], (some (8, false))⟩,
  ⟨(some 12), .pick, [.t 8, .c (.bool true), .t 11], none⟩,
  ⟨(some 13), .mov, [.t 12], none⟩,
  ⟨(some 14), .faddr 1 1 false, [.t 1], (some (13, false))⟩,
  ⟨(some 15), .load false 1, [.t 14], (some (13, false))⟩,
  ⟨(some 16), .bin .lss, [.t 15, .c (.int .i64 1)], (some (13, false))⟩,
  ⟨(some 17), .pick, [.t 13, .c (.bool true), .t 16], none⟩,
  ⟨(some 18), .mov, [.t 17], none⟩,
  ⟨(some 19), .faddr 1 1 false, [.t 1], (some (18, false))⟩,
  ⟨(some 20), .load false 1, [.t 19], (some (18, false))⟩,
  ⟨(some 21), .bin .gtr, [.t 20, .c (.int .i64 1024)], (some (18, false))⟩,
  ⟨(some 22), .pick, [.t 18, .c (.bool true), .t 21], none⟩,
  ⟨(some 23), .mov, [.t 22], none⟩,
  ⟨(some 24), .faddr 98 1 false, [.t 1], (some (23, false))⟩,
  ⟨(some 25), .load false 1, [.t 24], (some (23, false))⟩,
  ⟨(some 26), .len, [.t 25], (some (23, false))⟩,
  ⟨(some 27), .bin .gtr, [.t 26, .c (.int .i64 8)], (some (23, false))⟩,
  ⟨(some 28), .pick, [.t 23, .c (.bool true), .t 27], none⟩]
def c_r12_Good_r1 : List COper := a_r12_Good_r1
instance : Reg c_r12_Good_r1 a_r12_Good_r1 24 := ⟨rfl, rfl⟩
@[simp] def a_r12_Good_r2 : List COper := [
  ⟨(some 2), .mov, [.c (.bool false)], none⟩]
def c_r12_Good_r2 : List COper := a_r12_Good_r2
instance : Reg c_r12_Good_r2 a_r12_Good_r2 1 := ⟨rfl, rfl⟩
@[simp] def a_r12_Good_r3 : List COper := [
  ⟨(some 29), .faddr 98 1 false, [.t 1], none⟩,
  ⟨(some 30), .load false 1, [.t 29], none⟩,
  ⟨(some 31), .len, [.t 30], none⟩,
  ⟨(some 32), .mov, [.c (.int .i64 0)], none⟩]
def c_r12_Good_r3 : List COper := a_r12_Good_r3
instance : Reg c_r12_Good_r3 a_r12_Good_r3 4 := ⟨rfl, rfl⟩
@[simp] def a_r12_Good_r4 : List COper := [
  ⟨(some 33), .bin .lss, [.t 32, .t 31], none⟩]
def c_r12_Good_r4 : List COper := a_r12_Good_r4
instance : Reg c_r12_Good_r4 a_r12_Good_r4 1 := ⟨rfl, rfl⟩
@[simp] def a_r12_Good_r5 : List COper := [
  ⟨(some 34), .iaddr 42, [.t 30, .t 32], none⟩,
  ⟨(some 35), .load true 42, [.t 34], none⟩,
  ⟨(some 4), .alloc (.node [.v (.int .i64 0), .v (.int .i64 0), .node [.v (.int .i64 0), .v (.string (mkS [])), .v (.string (mkS [])), .v (.string (mkS [])), .node [.v (.int .i64 0), .v (.int .i64 0), .v (.int .i64 0), .node [.arr 1 (rep 32 (.v (.int .u8 0))), .v (.int .i64 0)]]]]), [], none⟩,
  ⟨none, .store true 42, [.t 4, .t 35], none⟩]
def c_r12_Good_r5 : List COper := a_r12_Good_r5
instance : Reg c_r12_Good_r5 a_r12_Good_r5 4 := ⟨rfl, rfl⟩
@[simp] def a_r12_Good_r6 : List COper := [
  ⟨(some 36), .load true 42, [.t 4], none⟩,
  ⟨(some 37), .call fn_r09_Good, [.t 36], none⟩,
  ⟨(some 38), .not, [.t 37], none⟩]
def c_r12_Good_r6 : List COper := a_r12_Good_r6
instance : Reg c_r12_Good_r6 a_r12_Good_r6 3 := ⟨rfl, rfl⟩
@[simp] def a_r12_Good_r7 : List COper := [
  ⟨(some 2), .mov, [.c (.bool false)], none⟩]
def c_r12_Good_r7 : List COper := a_r12_Good_r7
instance : Reg c_r12_Good_r7 a_r12_Good_r7 1 := ⟨rfl, rfl⟩
@[simp] def a_r12_Good_r8 : List COper := [
  ⟨(some 39), .bin .add, [.t 32, .c (.int .i64 1)], none⟩,
  ⟨(some 32), .mov, [.t 39], none⟩]
def c_r12_Good_r8 : List COper := a_r12_Good_r8
instance : Reg c_r12_Good_r8 a_r12_Good_r8 2 := ⟨rfl, rfl⟩
@[simp] def a_r12_Good_r9 : List COper := [
  ⟨(some 2), .mov, [.c (.bool true)], none⟩]
def c_r12_Good_r9 : List COper := a_r12_Good_r9
instance : Reg c_r12_Good_r9 a_r12_Good_r9 1 := ⟨rfl, rfl⟩
@[simp] def c_r12_Good : CCode :=
  .seq (.region c_r12_Good_r0 none [1]) (.seq (.seq (.region c_r12_Good_r1 none [1, 28]) (.cond (.t 28) (.seq (.region c_r12_Good_r2 none [2]) (.ret)) (.skip))) (.seq (.seq (.region c_r12_Good_r3 none [30, 31, 32]) (.block 0 (.loop (.seq (.region c_r12_Good_r4 none [30, 31, 32, 33]) (.seq (.cond (.t 33) (.skip) (.exit 0)) (.seq (.block 1 (.seq (.region c_r12_Good_r5 none [4, 30, 31, 32]) (.seq (.region c_r12_Good_r6 none [30, 31, 32, 38]) (.cond (.t 38) (.seq (.region c_r12_Good_r7 none [2]) (.ret)) (.skip))))) (.region c_r12_Good_r8 none [30, 31, 32]))))))) (.seq (.region c_r12_Good_r9 none [2]) (.ret))))
@[simp] def R_r12_Good : List CRes := [.tmp 2]
theorem k_r12_Good : chkFn Tryd.prog fn_r12_Good c_r12_Good R_r12_Good 1 = true := by kernel_rfl
/-! wapentake/wapentakeref12.Digest -/
@[simp] def a_r12_Digest_r0 : List COper := [
  ⟨(some 1), .box, [.t 0], none⟩,
  ⟨(some 2), .alloc (.arr 1 (rep 32 (.v (.int .u8 0)))), [], none⟩]
def c_r12_Digest_r0 : List COper := a_r12_Digest_r0
instance : Reg c_r12_Digest_r0 a_r12_Digest_r0 2 := ⟨rfl, rfl⟩
@[simp] def a_r12_Digest_r1 : List COper := [
  ⟨(some 3), .load true 99, [.t 1], none⟩,
  ⟨(some 4), .call fn_r12_Bytes, [.t 3], none⟩,
  ⟨(some 5), .bin .add, [.c (.string (mkS [98, 108, 111, 99, 107])), .t 4], none⟩,
  ⟨(some 6), .call fn_r02_Text, [.t 5], none⟩,
  ⟨none, .store true 32, [.t 2, .t 6], none⟩]
def c_r12_Digest_r1 : List COper := a_r12_Digest_r1
instance : Reg c_r12_Digest_r1 a_r12_Digest_r1 5 := ⟨rfl, rfl⟩
@[simp] def c_r12_Digest : CCode :=
  .seq (.region c_r12_Digest_r0 none [1, 2]) (.seq (.region c_r12_Digest_r1 none [2]) (.ret))
@[simp] def R_r12_Digest : List CRes := [.cell 2 true 32]
theorem k_r12_Digest : chkFn Tryd.prog fn_r12_Digest c_r12_Digest R_r12_Digest 1 = true := by kernel_rfl
/-! wapentake/wapentakeref13.Right -/
@[simp] def a_r13_Right_r0 : List COper := [
  ⟨(some 2), .box, [.t 0], none⟩,
  ⟨(some 3), .box, [.t 1], none⟩,
  ⟨(some 4), .mov, [.c (.bool false)], none⟩]
def c_r13_Right_r0 : List COper := a_r13_Right_r0
instance : Reg c_r13_Right_r0 a_r13_Right_r0 3 := ⟨rfl, rfl⟩
@[simp] def a_r13_Right_r1 : List COper := [
  ⟨(some 6), .load true 2, [.t 2], none⟩,
  ⟨(some 7), .faddr 36 1 false, [.t 3], none⟩,
  ⟨(some 8), .load false 1, [.t 7], none⟩,
  ⟨(some 9), .call fn_r08_Place, [.t 6, .t 8], none⟩,
  ⟨(some 5), .mov, [.t 9], none⟩]
def c_r13_Right_r1 : List COper := a_r13_Right_r1
instance : Reg c_r13_Right_r1 a_r13_Right_r1 5 := ⟨rfl, rfl⟩
@[simp] def a_r13_Right_r2 : List COper := [
  ⟨(some 10), .mov, [.t 5], none⟩,
  ⟨(some 11), .bin .lss, [.t 10, .c (.int .i64 0)], none⟩,
  ⟨(some 12), .mov, [.t 11], none⟩,
  ⟨(some 13), .load true 41, [.t 3], (some (12, false))⟩,
  ⟨(some 14), .call fn_r13_Good, [.t 13], (some (12, false))⟩,
  ⟨(some 15), .not, [.t 14], (some (12, false))⟩,
  ⟨(some 16), .pick, [.t 12, .c (.bool true), .t 15], none⟩,
  ⟨(some 17), .mov, [.t 16], none⟩,
  ⟨(some 18), .faddr 1 1 false, [.t 3], (some (17, false))⟩,
  ⟨(some 19), .load false 1, [.t 18], (some (17, false))⟩,
  ⟨(some 20), .faddr 0 1 false, [.t 2], (some (17, false))⟩,
  ⟨(some 21), .load false 1, [.t 20], (some (17, false))⟩,
  ⟨(some 22), .bin .neq, [.t 19, .t 21], (some (17, false))⟩,
  ⟨(some 23), .pick, [.t 17, .c (.bool true), .t 22], none⟩]
def c_r13_Right_r2 : List COper := a_r13_Right_r2
instance : Reg c_r13_Right_r2 a_r13_Right_r2 14 := ⟨rfl, rfl⟩
@[simp] def a_r13_Right_r3 : List COper := [
  ⟨(some 4), .mov, [.c (.bool false)], none⟩]
def c_r13_Right_r3 : List COper := a_r13_Right_r3
instance : Reg c_r13_Right_r3 a_r13_Right_r3 1 := ⟨rfl, rfl⟩
@[simp] def a_r13_Right_r4 : List COper := [
  ⟨(some 24), .faddr 1 1 false, [.t 2], none⟩,
  ⟨(some 25), .load false 1, [.t 24], none⟩,
  ⟨(some 26), .mov, [.t 5], none⟩,
  ⟨(some 27), .iaddr 34, [.t 25, .t 26], none⟩,
  ⟨(some 28), .faddr 1 33 true, [.t 27], none⟩,
  ⟨(some 29), .load true 33, [.t 28], none⟩,
  ⟨(some 30), .load true 41, [.t 3], none⟩,
  ⟨(some 31), .call fn_r13_Signs, [.t 30], none⟩,
  ⟨(some 32), .faddr 37 4 true, [.t 3], none⟩,
  ⟨(some 33), .load true 4, [.t 32], none⟩,
  ⟨(some 34), .call fn_r05_Check, [.t 29, .t 31, .t 33], none⟩,
  ⟨(some 4), .mov, [.t 34], none⟩]
def c_r13_Right_r4 : List COper := a_r13_Right_r4
instance : Reg c_r13_Right_r4 a_r13_Right_r4 12 := ⟨rfl, rfl⟩
@[simp] def c_r13_Right : CCode :=
  .seq (.region c_r13_Right_r0 none [2, 3]) (.seq (.region c_r13_Right_r1 none [2, 3, 5]) (.seq (.seq (.region c_r13_Right_r2 none [2, 3, 5, 23]) (.cond (.t 23) (.seq (.region c_r13_Right_r3 none [4]) (.ret)) (.skip))) (.seq (.region c_r13_Right_r4 (some ([0, 1, 0, 7, 15, 31, 0, 64, 0, 256, 1023, 2047], [(1, 7), (5, 7), (7, 9)])) [4]) (.ret))))
@[simp] def R_r13_Right : List CRes := [.tmp 4]
theorem k_r13_Right : chkFn Tryd.prog fn_r13_Right c_r13_Right R_r13_Right 2 = true := by kernel_rfl
/-! wapentake/wapentakeref08.Faults -/
@[simp] def a_r08_Faults_r0 : List COper := [
  ⟨(some 2), .mov, [.c (.int .i64 0)], none⟩]
def c_r08_Faults_r0 : List COper := a_r08_Faults_r0
instance : Reg c_r08_Faults_r0 a_r08_Faults_r0 1 := ⟨rfl, rfl⟩
@[simp] def a_r08_Faults_r1 : List COper := [
  ⟨(some 3), .mov, [.c (.int .i64 0)], none⟩]
def c_r08_Faults_r1 : List COper := a_r08_Faults_r1
instance : Reg c_r08_Faults_r1 a_r08_Faults_r1 1 := ⟨rfl, rfl⟩
@[simp] def a_r08_Faults_r2 : List COper := [
  ⟨(some 4), .mov, [.t 3], none⟩,
  ⟨(some 5), .bin .add, [.t 4, .c (.int .i64 1)], none⟩,
  ⟨(some 6), .bin .mul, [.c (.int .i64 3), .t 5], none⟩,
  ⟨(some 7), .bin .add, [.t 6, .c (.int .i64 1)], none⟩,
  ⟨(some 8), .mov, [.t 0], none⟩,
  ⟨(some 9), .bin .leq, [.t 7, .t 8], none⟩]
def c_r08_Faults_r2 : List COper := a_r08_Faults_r2
instance : Reg c_r08_Faults_r2 a_r08_Faults_r2 6 := ⟨rfl, rfl⟩
@[simp] def a_r08_Faults_r3 : List COper := [
  ⟨(some 10), .mov, [.t 3], none⟩,
  ⟨(some 11), .bin .add, [.t 10, .c (.int .i64 1)], none⟩,
  ⟨(some 3), .mov, [.t 11], none⟩]
def c_r08_Faults_r3 : List COper := a_r08_Faults_r3
instance : Reg c_r08_Faults_r3 a_r08_Faults_r3 3 := ⟨rfl, rfl⟩
@[simp] def a_r08_Faults_r4 : List COper := [
  ⟨(some 12), .mov, [.t 3], none⟩,
  ⟨(some 2), .mov, [.t 12], none⟩]
def c_r08_Faults_r4 : List COper := a_r08_Faults_r4
instance : Reg c_r08_Faults_r4 a_r08_Faults_r4 2 := ⟨rfl, rfl⟩
@[simp] def c_r08_Faults : CCode :=
  .seq (.region c_r08_Faults_r0 none [0]) (.seq (.region c_r08_Faults_r1 none [0, 3]) (.seq (.block 0 (.loop (.seq (.seq (.region c_r08_Faults_r2 none [0, 3, 9]) (.cond (.t 9) (.skip) (.exit 0))) (.block 1 (.region c_r08_Faults_r3 none [0, 3]))))) (.seq (.region c_r08_Faults_r4 none [2]) (.ret))))
@[simp] def R_r08_Faults : List CRes := [.tmp 2]
theorem k_r08_Faults : chkFn Tryd.prog fn_r08_Faults c_r08_Faults R_r08_Faults 1 = true := by kernel_rfl
/-! wapentake/config.Faults -/
@[simp] def a_config_Faults_r0 : List COper := [
  ⟨(some 1), .box, [.t 0], none⟩,
  ⟨(some 2), .mov, [.c (.int .i64 0)], none⟩]
def c_config_Faults_r0 : List COper := a_config_Faults_r0
instance : Reg c_config_Faults_r0 a_config_Faults_r0 2 := ⟨rfl, rfl⟩
@[simp] def a_config_Faults_r1 : List COper := [
  ⟨(some 3), .faddr 1 1 false, [.t 1], none⟩,
  ⟨(some 4), .load false 1, [.t 3], none⟩,
  ⟨(some 5), .len, [.t 4], none⟩,
  ⟨(some 6), .bin .sub, [.t 5, .c (.int .i64 1)], none⟩,
  ⟨(some 7), .mx, [.t 6, .c (.int .i64 0)], none⟩,
  ⟨(some 8), .bin .quo, [.t 7, .c (.int .i64 3)], none⟩,
  ⟨(some 2), .mov, [.t 8], none⟩]
def c_config_Faults_r1 : List COper := a_config_Faults_r1
instance : Reg c_config_Faults_r1 a_config_Faults_r1 7 := ⟨rfl, rfl⟩
@[simp] def c_config_Faults : CCode :=
  .seq (.region c_config_Faults_r0 none [1]) (.seq (.region c_config_Faults_r1 none [2]) (.ret))
@[simp] def R_config_Faults : List CRes := [.tmp 2]
theorem k_config_Faults : chkFn Tryd.prog fn_config_Faults c_config_Faults R_config_Faults 1 = true := by kernel_rfl
/-! (*wapentake/code.Writer).Num -/
@[simp] def a_code_Writer_Num_r0 : List COper := [
  ⟨(some 7), .mov, [.t 0], none⟩,
  ⟨(some 8), .eqp false, [.t 7, .c (.pointer none)], none⟩]
def c_code_Writer_Num_r0 : List COper := a_code_Writer_Num_r0
instance : Reg c_code_Writer_Num_r0 a_code_Writer_Num_r0 2 := ⟨rfl, rfl⟩
@[simp] def a_code_Writer_Num_r1 : List COper := [
  ⟨(some 9), .mov, [.t 1], none⟩,
  ⟨(some 10), .len, [.t 9], none⟩,
  ⟨(some 11), .mov, [.c (.int .i64 0)], none⟩]
def c_code_Writer_Num_r1 : List COper := a_code_Writer_Num_r1
instance : Reg c_code_Writer_Num_r1 a_code_Writer_Num_r1 3 := ⟨rfl, rfl⟩
@[simp] def a_code_Writer_Num_r2 : List COper := [
  ⟨(some 12), .bin .lss, [.t 11, .t 10], none⟩]
def c_code_Writer_Num_r2 : List COper := a_code_Writer_Num_r2
instance : Reg c_code_Writer_Num_r2 a_code_Writer_Num_r2 1 := ⟨rfl, rfl⟩
@[simp] def a_code_Writer_Num_r3 : List COper := [
  ⟨(some 13), .iaddr 1, [.t 9, .t 11], none⟩,
  ⟨(some 14), .load false 1, [.t 13], none⟩,
  ⟨(some 5), .mov, [.t 14], none⟩]
def c_code_Writer_Num_r3 : List COper := a_code_Writer_Num_r3
instance : Reg c_code_Writer_Num_r3 a_code_Writer_Num_r3 3 := ⟨rfl, rfl⟩
@[simp] def a_code_Writer_Num_r4 : List COper := [
  ⟨(some 6), .mov, [.c (.int .i64 56)], none⟩]
def c_code_Writer_Num_r4 : List COper := a_code_Writer_Num_r4
instance : Reg c_code_Writer_Num_r4 a_code_Writer_Num_r4 1 := ⟨rfl, rfl⟩
@[simp] def a_code_Writer_Num_r5 : List COper := [
  ⟨(some 15), .mov, [.t 6], none⟩,
  ⟨(some 16), .bin .geq, [.t 15, .c (.int .i64 0)], none⟩]
def c_code_Writer_Num_r5 : List COper := a_code_Writer_Num_r5
instance : Reg c_code_Writer_Num_r5 a_code_Writer_Num_r5 2 := ⟨rfl, rfl⟩
@[simp] def a_code_Writer_Num_r7 : List COper := [
  ⟨(some 19), .mov, [.t 0], none⟩,
  ⟨(some 20), .mov, [.t 0], none⟩,
  ⟨(some 21), .nilc, [.t 20], none⟩,
  ⟨(some 22), .faddr 0 1 false, [.t 21], none⟩,
  ⟨(some 23), .load false 1, [.t 22], none⟩,
  ⟨(some 24), .mov, [.t 5], none⟩,
  ⟨(some 25), .convI .u64, [.t 24], none⟩,
  ⟨(some 26), .mov, [.t 6], none⟩,
  ⟨(some 27), .bin .shr, [.t 25, .t 26], none⟩,
  ⟨(some 28), .convI .u8, [.t 27], none⟩,
  ⟨(some 29), .bslice 1 1 (.v (.int .u8 0)) [0], [.t 28], none⟩,
  ⟨(some 30), .app 1 1, [.t 23, .t 29], none⟩,
  ⟨(some 31), .nilc, [.t 19], none⟩,
  ⟨(some 32), .faddr 0 1 false, [.t 31], none⟩,
  ⟨none, .store false 1, [.t 32, .t 30], none⟩]
def c_code_Writer_Num_r7 : List COper := a_code_Writer_Num_r7
instance : Reg c_code_Writer_Num_r7 a_code_Writer_Num_r7 15 := ⟨rfl, rfl⟩
@[simp] def a_code_Writer_Num_r6 : List COper := [
  ⟨(some 17), .mov, [.t 6], none⟩,
  ⟨(some 18), .bin .sub, [.t 17, .c (.int .i64 8)], none⟩,
  ⟨(some 6), .mov, [.t 18], none⟩]
def c_code_Writer_Num_r6 : List COper := a_code_Writer_Num_r6
instance : Reg c_code_Writer_Num_r6 a_code_Writer_Num_r6 3 := ⟨rfl, rfl⟩
@[simp] def a_code_Writer_Num_r8 : List COper := [
  ⟨(some 33), .bin .add, [.t 11, .c (.int .i64 1)], none⟩,
  ⟨(some 11), .mov, [.t 33], none⟩]
def c_code_Writer_Num_r8 : List COper := a_code_Writer_Num_r8
instance : Reg c_code_Writer_Num_r8 a_code_Writer_Num_r8 2 := ⟨rfl, rfl⟩
@[simp] def c_code_Writer_Num : CCode :=
  .seq (.seq (.region c_code_Writer_Num_r0 none [0, 1, 8]) (.cond (.t 8) (.ret) (.skip))) (.seq (.region c_code_Writer_Num_r1 none [0, 9, 10, 11]) (.block 0 (.loop (.seq (.region c_code_Writer_Num_r2 none [0, 9, 10, 11, 12]) (.seq (.cond (.t 12) (.skip) (.exit 0)) (.seq (.block 1 (.seq (.region c_code_Writer_Num_r3 none [0, 5, 9, 10, 11]) (.seq (.region c_code_Writer_Num_r4 none [0, 5, 6, 9, 10, 11]) (.block 2 (.loop (.seq (.seq (.region c_code_Writer_Num_r5 none [0, 5, 6, 9, 10, 11, 16]) (.cond (.t 16) (.skip) (.exit 2))) (.seq (.block 3 (.region c_code_Writer_Num_r7 (some ([0, 0, 2, 6, 14, 0, 32, 0, 224, 480, 992, 2046, 4095, 8191, 16383], [(4, 10)])) [0, 5, 6, 9, 10, 11])) (.region c_code_Writer_Num_r6 none [0, 5, 6, 9, 10, 11])))))))) (.region c_code_Writer_Num_r8 none [0, 9, 10, 11])))))))
@[simp] def R_code_Writer_Num : List CRes := []
theorem k_code_Writer_Num : chkFn Tryd.prog fn_code_Writer_Num c_code_Writer_Num R_code_Writer_Num 2 = true := by kernel_rfl
/-! wapentake/wapentakeref01.Num -/
@[simp] def a_r01_Num_r0 : List COper := [
  ⟨(some 2), .mov, [.c (.string (mkS []))], none⟩]
def c_r01_Num_r0 : List COper := a_r01_Num_r0
instance : Reg c_r01_Num_r0 a_r01_Num_r0 1 := ⟨rfl, rfl⟩
@[simp] def a_r01_Num_r1 : List COper := [
  ⟨(some 3), .alloc (.arr 1 (rep 8 (.v (.int .u8 0)))), [], none⟩]
def c_r01_Num_r1 : List COper := a_r01_Num_r1
instance : Reg c_r01_Num_r1 a_r01_Num_r1 1 := ⟨rfl, rfl⟩
@[simp] def a_r01_Num_r2 : List COper := [
  ⟨(some 4), .mov, [.c (.int .i64 0)], none⟩]
def c_r01_Num_r2 : List COper := a_r01_Num_r2
instance : Reg c_r01_Num_r2 a_r01_Num_r2 1 := ⟨rfl, rfl⟩
@[simp] def a_r01_Num_r3 : List COper := [
  ⟨(some 5), .mov, [.t 4], none⟩,
  ⟨(some 6), .bin .lss, [.t 5, .c (.int .i64 8)], none⟩]
def c_r01_Num_r3 : List COper := a_r01_Num_r3
instance : Reg c_r01_Num_r3 a_r01_Num_r3 2 := ⟨rfl, rfl⟩
@[simp] def a_r01_Num_r5 : List COper := [
  ⟨(some 9), .mov, [.t 4], none⟩,
  ⟨(some 10), .bin .sub, [.c (.int .i64 7), .t 9], none⟩,
  ⟨(some 11), .mov, [.t 0], none⟩,
  ⟨(some 12), .mov, [.t 4], none⟩,
  ⟨(some 13), .bin .mul, [.c (.int .i64 8), .t 12], none⟩,
  ⟨(some 14), .convI .u64, [.t 13], none⟩,
  ⟨(some 15), .bin .shr, [.t 11, .t 14], none⟩,
  ⟨(some 16), .convI .u8, [.t 15], none⟩,
  ⟨(some 17), .iaddrArr 8 1 false, [.t 3, .t 10], none⟩,
  ⟨none, .store false 1, [.t 17, .t 16], none⟩]
def c_r01_Num_r5 : List COper := a_r01_Num_r5
instance : Reg c_r01_Num_r5 a_r01_Num_r5 10 := ⟨rfl, rfl⟩
@[simp] def a_r01_Num_r4 : List COper := [
  ⟨(some 7), .mov, [.t 4], none⟩,
  ⟨(some 8), .bin .add, [.t 7, .c (.int .i64 1)], none⟩,
  ⟨(some 4), .mov, [.t 8], none⟩]
def c_r01_Num_r4 : List COper := a_r01_Num_r4
instance : Reg c_r01_Num_r4 a_r01_Num_r4 3 := ⟨rfl, rfl⟩
@[simp] def a_r01_Num_r6 : List COper := [
  ⟨(some 18), .sliceArr 8 1 false false, [.t 3], none⟩,
  ⟨(some 19), .convS, [.t 18], none⟩,
  ⟨(some 2), .mov, [.t 19], none⟩]
def c_r01_Num_r6 : List COper := a_r01_Num_r6
instance : Reg c_r01_Num_r6 a_r01_Num_r6 3 := ⟨rfl, rfl⟩
@[simp] def c_r01_Num : CCode :=
  .seq (.region c_r01_Num_r0 none [0]) (.seq (.region c_r01_Num_r1 none [0, 3]) (.seq (.seq (.region c_r01_Num_r2 none [0, 3, 4]) (.block 0 (.loop (.seq (.seq (.region c_r01_Num_r3 none [0, 3, 4, 6]) (.cond (.t 6) (.skip) (.exit 0))) (.seq (.block 1 (.region c_r01_Num_r5 none [0, 3, 4])) (.region c_r01_Num_r4 none [0, 3, 4])))))) (.seq (.region c_r01_Num_r6 none [2]) (.ret))))
@[simp] def R_r01_Num : List CRes := [.tmp 2]
theorem k_r01_Num : chkFn Tryd.prog fn_r01_Num c_r01_Num R_r01_Num 1 = true := by kernel_rfl
/-! wapentake/block.Write -/
@[simp] def a_block_Write_r0 : List COper := [
  ⟨(some 3), .box, [.t 1], none⟩]
def c_block_Write_r0 : List COper := a_block_Write_r0
instance : Reg c_block_Write_r0 a_block_Write_r0 1 := ⟨rfl, rfl⟩
@[simp] def a_block_Write_r1 : List COper := [
  ⟨(some 6), .mov, [.t 0], none⟩,
  ⟨(some 7), .faddr 0 1 false, [.t 3], none⟩,
  ⟨(some 8), .load false 1, [.t 7], none⟩,
  ⟨(some 9), .faddr 1 1 false, [.t 3], none⟩,
  ⟨(some 10), .load false 1, [.t 9], none⟩,
  ⟨(some 11), .bslice 1 2 (.v (.int .i64 0)) [0, 1], [.t 8, .t 10], none⟩,
  ⟨(some 12), .call fn_code_Writer_Num, [.t 6, .t 11], none⟩]
def c_block_Write_r1 : List COper := a_block_Write_r1
instance : Reg c_block_Write_r1 a_block_Write_r1 7 := ⟨rfl, rfl⟩
@[simp] def a_block_Write_r2 : List COper := [
  ⟨(some 13), .mov, [.t 0], none⟩,
  ⟨(some 14), .faddr 2 32 true, [.t 3], none⟩,
  ⟨(some 15), .load true 32, [.t 14], none⟩,
  ⟨(some 16), .faddr 34 32 true, [.t 3], none⟩,
  ⟨(some 17), .load true 32, [.t 16], none⟩,
  ⟨(some 18), .faddr 66 32 true, [.t 3], none⟩,
  ⟨(some 19), .load true 32, [.t 18], none⟩,
  ⟨(some 20), .bslice 32 3 (.arr 1 (rep 32 (.v (.int .u8 0)))) [0, 1, 2], [.t 15, .t 17, .t 19], none⟩,
  ⟨(some 21), .call fn_code_Writer_Digest, [.t 13, .t 20], none⟩]
def c_block_Write_r2 : List COper := a_block_Write_r2
instance : Reg c_block_Write_r2 a_block_Write_r2 9 := ⟨rfl, rfl⟩
@[simp] def a_block_Write_r3 : List COper := [
  ⟨(some 22), .mov, [.t 0], none⟩,
  ⟨(some 23), .faddr 98 1 false, [.t 3], none⟩,
  ⟨(some 24), .load false 1, [.t 23], none⟩,
  ⟨(some 25), .len, [.t 24], none⟩,
  ⟨(some 26), .bslice 1 1 (.v (.int .i64 0)) [0], [.t 25], none⟩,
  ⟨(some 27), .call fn_code_Writer_Num, [.t 22, .t 26], none⟩]
def c_block_Write_r3 : List COper := a_block_Write_r3
instance : Reg c_block_Write_r3 a_block_Write_r3 6 := ⟨rfl, rfl⟩
@[simp] def a_block_Write_r4 : List COper := [
  ⟨(some 28), .faddr 98 1 false, [.t 3], none⟩,
  ⟨(some 29), .load false 1, [.t 28], none⟩,
  ⟨(some 30), .len, [.t 29], none⟩,
  ⟨(some 31), .mov, [.c (.int .i64 0)], none⟩]
def c_block_Write_r4 : List COper := a_block_Write_r4
instance : Reg c_block_Write_r4 a_block_Write_r4 4 := ⟨rfl, rfl⟩
@[simp] def a_block_Write_r5 : List COper := [
  ⟨(some 32), .bin .lss, [.t 31, .t 30], none⟩]
def c_block_Write_r5 : List COper := a_block_Write_r5
instance : Reg c_block_Write_r5 a_block_Write_r5 1 := ⟨rfl, rfl⟩
@[simp] def a_block_Write_r6 : List COper := [
  ⟨(some 33), .iaddr 42, [.t 29, .t 31], none⟩,
  ⟨(some 34), .load true 42, [.t 33], none⟩,
  ⟨(some 5), .alloc (.node [.v (.int .i64 0), .v (.int .i64 0), .node [.v (.int .i64 0), .v (.string (mkS [])), .v (.string (mkS [])), .v (.string (mkS [])), .node [.v (.int .i64 0), .v (.int .i64 0), .v (.int .i64 0), .node [.arr 1 (rep 32 (.v (.int .u8 0))), .v (.int .i64 0)]]]]), [], none⟩,
  ⟨none, .store true 42, [.t 5, .t 34], none⟩]
def c_block_Write_r6 : List COper := a_block_Write_r6
instance : Reg c_block_Write_r6 a_block_Write_r6 4 := ⟨rfl, rfl⟩
@[simp] def a_block_Write_r7 : List COper := [
  ⟨(some 35), .mov, [.t 0], none⟩,
  ⟨(some 36), .load true 42, [.t 5], none⟩,
  ⟨(some 37), .call fn_request_Write, [.t 35, .t 36], none⟩]
def c_block_Write_r7 : List COper := a_block_Write_r7
instance : Reg c_block_Write_r7 a_block_Write_r7 3 := ⟨rfl, rfl⟩
@[simp] def a_block_Write_r8 : List COper := [
  ⟨(some 38), .bin .add, [.t 31, .c (.int .i64 1)], none⟩,
  ⟨(some 31), .mov, [.t 38], none⟩]
def c_block_Write_r8 : List COper := a_block_Write_r8
instance : Reg c_block_Write_r8 a_block_Write_r8 2 := ⟨rfl, rfl⟩
@[simp] def c_block_Write : CCode :=
  .seq (.region c_block_Write_r0 none [0, 3]) (.seq (.region c_block_Write_r1 none [0, 3]) (.seq (.region c_block_Write_r2 none [0, 3]) (.seq (.region c_block_Write_r3 none [0, 3]) (.seq (.region c_block_Write_r4 none [0, 29, 30, 31]) (.block 0 (.loop (.seq (.region c_block_Write_r5 none [0, 29, 30, 31, 32]) (.seq (.cond (.t 32) (.skip) (.exit 0)) (.seq (.block 1 (.seq (.region c_block_Write_r6 none [0, 5, 29, 30, 31]) (.region c_block_Write_r7 none [0, 29, 30, 31]))) (.region c_block_Write_r8 none [0, 29, 30, 31]))))))))))
@[simp] def R_block_Write : List CRes := []
theorem k_block_Write : chkFn Tryd.prog fn_block_Write c_block_Write R_block_Write 2 = true := by kernel_rfl
/-! wapentake/config.Write -/
@[simp] def a_config_Write_r0 : List COper := [
  ⟨(some 3), .box, [.t 1], none⟩]
def c_config_Write_r0 : List COper := a_config_Write_r0
instance : Reg c_config_Write_r0 a_config_Write_r0 1 := ⟨rfl, rfl⟩
@[simp] def a_config_Write_r1 : List COper := [
  ⟨(some 6), .mov, [.t 0], none⟩,
  ⟨(some 7), .faddr 0 1 false, [.t 3], none⟩,
  ⟨(some 8), .load false 1, [.t 7], none⟩,
  ⟨(some 9), .faddr 1 1 false, [.t 3], none⟩,
  ⟨(some 10), .load false 1, [.t 9], none⟩,
  ⟨(some 11), .len, [.t 10], none⟩,
  ⟨(some 12), .bslice 1 2 (.v (.int .i64 0)) [0, 1], [.t 8, .t 11], none⟩,
  ⟨(some 13), .call fn_code_Writer_Num, [.t 6, .t 12], none⟩]
def c_config_Write_r1 : List COper := a_config_Write_r1
instance : Reg c_config_Write_r1 a_config_Write_r1 8 := ⟨rfl, rfl⟩
@[simp] def a_config_Write_r2 : List COper := [
  ⟨(some 14), .faddr 1 1 false, [.t 3], none⟩,
  ⟨(some 15), .load false 1, [.t 14], none⟩,
  ⟨(some 16), .len, [.t 15], none⟩,
  ⟨(some 17), .mov, [.c (.int .i64 0)], none⟩]
def c_config_Write_r2 : List COper := a_config_Write_r2
instance : Reg c_config_Write_r2 a_config_Write_r2 4 := ⟨rfl, rfl⟩
@[simp] def a_config_Write_r3 : List COper := [
  ⟨(some 18), .bin .lss, [.t 17, .t 16], none⟩]
def c_config_Write_r3 : List COper := a_config_Write_r3
instance : Reg c_config_Write_r3 a_config_Write_r3 1 := ⟨rfl, rfl⟩
@[simp] def a_config_Write_r4 : List COper := [
  ⟨(some 19), .iaddr 34, [.t 15, .t 17], none⟩,
  ⟨(some 20), .load true 34, [.t 19], none⟩,
  ⟨(some 5), .alloc (.node [.v (.int .i64 0), .node [.arr 1 (rep 32 (.v (.int .u8 0))), .v (.int .i64 0)]]), [], none⟩,
  ⟨none, .store true 34, [.t 5, .t 20], none⟩]
def c_config_Write_r4 : List COper := a_config_Write_r4
instance : Reg c_config_Write_r4 a_config_Write_r4 4 := ⟨rfl, rfl⟩
@[simp] def a_config_Write_r5 : List COper := [
  ⟨(some 21), .mov, [.t 0], none⟩,
  ⟨(some 22), .faddr 0 1 false, [.t 5], none⟩,
  ⟨(some 23), .load false 1, [.t 22], none⟩,
  ⟨(some 24), .faddr 1 33 true, [.t 5], none⟩,
  ⟨(some 25), .faddr 32 1 false, [.t 24], none⟩,
  ⟨(some 26), .load false 1, [.t 25], none⟩,
  ⟨(some 27), .bslice 1 2 (.v (.int .i64 0)) [0, 1], [.t 23, .t 26], none⟩,
  ⟨(some 28), .call fn_code_Writer_Num, [.t 21, .t 27], none⟩]
def c_config_Write_r5 : List COper := a_config_Write_r5
instance : Reg c_config_Write_r5 a_config_Write_r5 8 := ⟨rfl, rfl⟩
@[simp] def a_config_Write_r6 : List COper := [
  ⟨(some 29), .mov, [.t 0], none⟩,
  ⟨(some 30), .faddr 1 33 true, [.t 5], none⟩,
  ⟨(some 31), .faddr 0 32 true, [.t 30], none⟩,
  ⟨(some 32), .load true 32, [.t 31], none⟩,
  ⟨(some 33), .bslice 32 1 (.arr 1 (rep 32 (.v (.int .u8 0)))) [0], [.t 32], none⟩,
  ⟨(some 34), .call fn_code_Writer_Digest, [.t 29, .t 33], none⟩]
def c_config_Write_r6 : List COper := a_config_Write_r6
instance : Reg c_config_Write_r6 a_config_Write_r6 6 := ⟨rfl, rfl⟩
@[simp] def a_config_Write_r7 : List COper := [
  ⟨(some 35), .bin .add, [.t 17, .c (.int .i64 1)], none⟩,
  ⟨(some 17), .mov, [.t 35], none⟩]
def c_config_Write_r7 : List COper := a_config_Write_r7
instance : Reg c_config_Write_r7 a_config_Write_r7 2 := ⟨rfl, rfl⟩
@[simp] def c_config_Write : CCode :=
  .seq (.region c_config_Write_r0 none [0, 3]) (.seq (.region c_config_Write_r1 none [0, 3]) (.seq (.region c_config_Write_r2 none [0, 15, 16, 17]) (.block 0 (.loop (.seq (.region c_config_Write_r3 none [0, 15, 16, 17, 18]) (.seq (.cond (.t 18) (.skip) (.exit 0)) (.seq (.block 1 (.seq (.region c_config_Write_r4 none [0, 5, 15, 16, 17]) (.seq (.region c_config_Write_r5 none [0, 5, 15, 16, 17]) (.region c_config_Write_r6 none [0, 15, 16, 17])))) (.region c_config_Write_r7 none [0, 15, 16, 17]))))))))
@[simp] def R_config_Write : List CRes := []
theorem k_config_Write : chkFn Tryd.prog fn_config_Write c_config_Write R_config_Write 2 = true := by kernel_rfl
/-! wapentake/wapentakeref12.Bytes -/
@[simp] def a_r12_Bytes_r0 : List COper := [
  ⟨(some 1), .box, [.t 0], none⟩,
  ⟨(some 2), .mov, [.c (.string (mkS []))], none⟩]
def c_r12_Bytes_r0 : List COper := a_r12_Bytes_r0
instance : Reg c_r12_Bytes_r0 a_r12_Bytes_r0 2 := ⟨rfl, rfl⟩
@[simp] def a_r12_Bytes_r1 : List COper := [
  ⟨(some 6), .faddr 0 1 false, [.t 1], none⟩,
  ⟨(some 7), .load false 1, [.t 6], none⟩,
  ⟨(some 8), .call fn_r01_Num, [.t 7], none⟩,
  ⟨(some 9), .faddr 1 1 false, [.t 1], none⟩,
  ⟨(some 10), .load false 1, [.t 9], none⟩,
  ⟨(some 11), .call fn_r01_Num, [.t 10], none⟩,
  ⟨(some 12), .bin .add, [.t 8, .t 11], none⟩,
  ⟨(some 13), .faddr 2 32 true, [.t 1], none⟩,
  ⟨(some 14), .load true 32, [.t 13], none⟩,
  ⟨(some 15), .call fn_r01_Digest, [.t 14], none⟩,
  ⟨(some 16), .bin .add, [.t 12, .t 15], none⟩,
  ⟨(some 17), .faddr 34 32 true, [.t 1], none⟩,
  ⟨(some 18), .load true 32, [.t 17], none⟩,
  ⟨(some 19), .call fn_r01_Digest, [.t 18], none⟩,
  ⟨(some 20), .bin .add, [.t 16, .t 19], none⟩,
  ⟨(some 21), .faddr 66 32 true, [.t 1], none⟩,
  ⟨(some 22), .load true 32, [.t 21], none⟩,
  ⟨(some 23), .call fn_r01_Digest, [.t 22], none⟩,
  ⟨(some 24), .bin .add, [.t 20, .t 23], none⟩,
  ⟨(some 25), .faddr 98 1 false, [.t 1], none⟩,
  ⟨(some 26), .load false 1, [.t 25], none⟩,
  ⟨(some 27), .len, [.t 26], none⟩,
  ⟨(some 28), .call fn_r01_Num, [.t 27], none⟩,
  ⟨(some 29), .bin .add, [.t 24, .t 28], none⟩,
  ⟨(some 3), .mov, [.t 29], none⟩]
def c_r12_Bytes_r1 : List COper := a_r12_Bytes_r1
instance : Reg c_r12_Bytes_r1 a_r12_Bytes_r1 25 := ⟨rfl, rfl⟩
@[simp] def a_r12_Bytes_r2 : List COper := [
  ⟨(some 30), .faddr 98 1 false, [.t 1], none⟩,
  ⟨(some 31), .load false 1, [.t 30], none⟩,
  ⟨(some 32), .len, [.t 31], none⟩,
  ⟨(some 33), .mov, [.c (.int .i64 0)], none⟩]
def c_r12_Bytes_r2 : List COper := a_r12_Bytes_r2
instance : Reg c_r12_Bytes_r2 a_r12_Bytes_r2 4 := ⟨rfl, rfl⟩
@[simp] def a_r12_Bytes_r3 : List COper := [
  ⟨(some 34), .bin .lss, [.t 33, .t 32], none⟩]
def c_r12_Bytes_r3 : List COper := a_r12_Bytes_r3
instance : Reg c_r12_Bytes_r3 a_r12_Bytes_r3 1 := ⟨rfl, rfl⟩
@[simp] def a_r12_Bytes_r4 : List COper := [
  ⟨(some 35), .iaddr 42, [.t 31, .t 33], none⟩,
  ⟨(some 36), .load true 42, [.t 35], none⟩,
  ⟨(some 5), .alloc (.node [.v (.int .i64 0), .v (.int .i64 0), .node [.v (.int .i64 0), .v (.string (mkS [])), .v (.string (mkS [])), .v (.string (mkS [])), .node [.v (.int .i64 0), .v (.int .i64 0), .v (.int .i64 0), .node [.arr 1 (rep 32 (.v (.int .u8 0))), .v (.int .i64 0)]]]]), [], none⟩,
  ⟨none, .store true 42, [.t 5, .t 36], none⟩]
def c_r12_Bytes_r4 : List COper := a_r12_Bytes_r4
instance : Reg c_r12_Bytes_r4 a_r12_Bytes_r4 4 := ⟨rfl, rfl⟩
@[simp] def a_r12_Bytes_r5 : List COper := [
  ⟨(some 37), .mov, [.t 3], none⟩,
  ⟨(some 38), .load true 42, [.t 5], none⟩,
  ⟨(some 39), .call fn_r09_Bytes, [.t 38], none⟩,
  ⟨(some 40), .bin .add, [.t 37, .t 39], none⟩,
  ⟨(some 3), .mov, [.t 40], none⟩]
def c_r12_Bytes_r5 : List COper := a_r12_Bytes_r5
instance : Reg c_r12_Bytes_r5 a_r12_Bytes_r5 5 := ⟨rfl, rfl⟩
@[simp] def a_r12_Bytes_r6 : List COper := [
  ⟨(some 41), .bin .add, [.t 33, .c (.int .i64 1)], none⟩,
  ⟨(some 33), .mov, [.t 41], none⟩]
def c_r12_Bytes_r6 : List COper := a_r12_Bytes_r6
instance : Reg c_r12_Bytes_r6 a_r12_Bytes_r6 2 := ⟨rfl, rfl⟩
@[simp] def a_r12_Bytes_r7 : List COper := [
  ⟨(some 42), .mov, [.t 3], none⟩,
  ⟨(some 2), .mov, [.t 42], none⟩]
def c_r12_Bytes_r7 : List COper := a_r12_Bytes_r7
instance : Reg c_r12_Bytes_r7 a_r12_Bytes_r7 2 := ⟨rfl, rfl⟩
@[simp] def c_r12_Bytes : CCode :=
  .seq (.region c_r12_Bytes_r0 none [1]) (.seq (.region c_r12_Bytes_r1 (some ([0, 1, 3, 0, 8, 31, 63, 0, 128, 447, 1023, 0, 2048, 7103, 16383, 0, 32768, 113599, 262143, 0, 524288, 1572864, 3914687, 8388607, 16777215], [(2, 4), (2, 8), (5, 8), (2, 12), (5, 12), (9, 12), (2, 16), (5, 16), (9, 16), (13, 16), (2, 20), (5, 20), (9, 20), (13, 20), (17, 20)])) [1, 3]) (.seq (.seq (.region c_r12_Bytes_r2 none [3, 31, 32, 33]) (.block 0 (.loop (.seq (.region c_r12_Bytes_r3 none [3, 31, 32, 33, 34]) (.seq (.cond (.t 34) (.skip) (.exit 0)) (.seq (.block 1 (.seq (.region c_r12_Bytes_r4 none [3, 5, 31, 32, 33]) (.region c_r12_Bytes_r5 none [3, 31, 32, 33]))) (.region c_r12_Bytes_r6 none [3, 31, 32, 33]))))))) (.seq (.region c_r12_Bytes_r7 none [2]) (.ret))))
@[simp] def R_r12_Bytes : List CRes := [.tmp 2]
theorem k_r12_Bytes : chkFn Tryd.prog fn_r12_Bytes c_r12_Bytes R_r12_Bytes 1 = true := by kernel_rfl
/-! wapentake/wapentakeref08.Bytes -/
@[simp] def a_r08_Bytes_r0 : List COper := [
  ⟨(some 1), .box, [.t 0], none⟩,
  ⟨(some 2), .mov, [.c (.string (mkS []))], none⟩]
def c_r08_Bytes_r0 : List COper := a_r08_Bytes_r0
instance : Reg c_r08_Bytes_r0 a_r08_Bytes_r0 2 := ⟨rfl, rfl⟩
@[simp] def a_r08_Bytes_r1 : List COper := [
  ⟨(some 6), .faddr 0 1 false, [.t 1], none⟩,
  ⟨(some 7), .load false 1, [.t 6], none⟩,
  ⟨(some 8), .call fn_r01_Num, [.t 7], none⟩,
  ⟨(some 9), .faddr 1 1 false, [.t 1], none⟩,
  ⟨(some 10), .load false 1, [.t 9], none⟩,
  ⟨(some 11), .len, [.t 10], none⟩,
  ⟨(some 12), .call fn_r01_Num, [.t 11], none⟩,
  ⟨(some 13), .bin .add, [.t 8, .t 12], none⟩,
  ⟨(some 3), .mov, [.t 13], none⟩]
def c_r08_Bytes_r1 : List COper := a_r08_Bytes_r1
instance : Reg c_r08_Bytes_r1 a_r08_Bytes_r1 9 := ⟨rfl, rfl⟩
@[simp] def a_r08_Bytes_r2 : List COper := [
  ⟨(some 14), .faddr 1 1 false, [.t 1], none⟩,
  ⟨(some 15), .load false 1, [.t 14], none⟩,
  ⟨(some 16), .len, [.t 15], none⟩,
  ⟨(some 17), .mov, [.c (.int .i64 0)], none⟩]
def c_r08_Bytes_r2 : List COper := a_r08_Bytes_r2
instance : Reg c_r08_Bytes_r2 a_r08_Bytes_r2 4 := ⟨rfl, rfl⟩
@[simp] def a_r08_Bytes_r3 : List COper := [
  ⟨(some 18), .bin .lss, [.t 17, .t 16], none⟩]
def c_r08_Bytes_r3 : List COper := a_r08_Bytes_r3
instance : Reg c_r08_Bytes_r3 a_r08_Bytes_r3 1 := ⟨rfl, rfl⟩
@[simp] def a_r08_Bytes_r4 : List COper := [
  ⟨(some 19), .iaddr 34, [.t 15, .t 17], none⟩,
  ⟨(some 20), .load true 34, [.t 19], none⟩,
  ⟨(some 5), .alloc (.node [.v (.int .i64 0), .node [.arr 1 (rep 32 (.v (.int .u8 0))), .v (.int .i64 0)]]), [], none⟩,
  ⟨none, .store true 34, [.t 5, .t 20], none⟩]
def c_r08_Bytes_r4 : List COper := a_r08_Bytes_r4
instance : Reg c_r08_Bytes_r4 a_r08_Bytes_r4 4 := ⟨rfl, rfl⟩
@[simp] def a_r08_Bytes_r5 : List COper := [
  ⟨(some 21), .mov, [.t 3], none⟩,
  ⟨(some 22), .faddr 0 1 false, [.t 5], none⟩,
  ⟨(some 23), .load false 1, [.t 22], none⟩,
  ⟨(some 24), .call fn_r01_Num, [.t 23], none⟩,
  ⟨(some 25), .bin .add, [.t 21, .t 24], none⟩,
  ⟨(some 26), .faddr 1 33 true, [.t 5], none⟩,
  ⟨(some 27), .faddr 32 1 false, [.t 26], none⟩,
  ⟨(some 28), .load false 1, [.t 27], none⟩,
  ⟨(some 29), .call fn_r01_Num, [.t 28], none⟩,
  ⟨(some 30), .bin .add, [.t 25, .t 29], none⟩,
  ⟨(some 31), .faddr 1 33 true, [.t 5], none⟩,
  ⟨(some 32), .faddr 0 32 true, [.t 31], none⟩,
  ⟨(some 33), .load true 32, [.t 32], none⟩,
  ⟨(some 34), .call fn_r01_Digest, [.t 33], none⟩,
  ⟨(some 35), .bin .add, [.t 30, .t 34], none⟩,
  ⟨(some 3), .mov, [.t 35], none⟩]
def c_r08_Bytes_r5 : List COper := a_r08_Bytes_r5
instance : Reg c_r08_Bytes_r5 a_r08_Bytes_r5 16 := ⟨rfl, rfl⟩
@[simp] def a_r08_Bytes_r6 : List COper := [
  ⟨(some 36), .bin .add, [.t 17, .c (.int .i64 1)], none⟩,
  ⟨(some 17), .mov, [.t 36], none⟩]
def c_r08_Bytes_r6 : List COper := a_r08_Bytes_r6
instance : Reg c_r08_Bytes_r6 a_r08_Bytes_r6 2 := ⟨rfl, rfl⟩
@[simp] def a_r08_Bytes_r7 : List COper := [
  ⟨(some 37), .mov, [.t 3], none⟩,
  ⟨(some 2), .mov, [.t 37], none⟩]
def c_r08_Bytes_r7 : List COper := a_r08_Bytes_r7
instance : Reg c_r08_Bytes_r7 a_r08_Bytes_r7 2 := ⟨rfl, rfl⟩
@[simp] def c_r08_Bytes : CCode :=
  .seq (.region c_r08_Bytes_r0 none [1]) (.seq (.region c_r08_Bytes_r1 (some ([0, 1, 3, 0, 8, 24, 63, 127, 255], [(2, 4)])) [1, 3]) (.seq (.seq (.region c_r08_Bytes_r2 none [3, 15, 16, 17]) (.block 0 (.loop (.seq (.region c_r08_Bytes_r3 none [3, 15, 16, 17, 18]) (.seq (.cond (.t 18) (.skip) (.exit 0)) (.seq (.block 1 (.seq (.region c_r08_Bytes_r4 none [3, 5, 15, 16, 17]) (.region c_r08_Bytes_r5 (some ([0, 0, 2, 6, 15, 0, 32, 96, 238, 511, 0, 1024, 3072, 7662, 16383, 32767], [(3, 7), (3, 12), (8, 12)])) [3, 15, 16, 17]))) (.region c_r08_Bytes_r6 none [3, 15, 16, 17]))))))) (.seq (.region c_r08_Bytes_r7 none [2]) (.ret))))
@[simp] def R_r08_Bytes : List CRes := [.tmp 2]
theorem k_r08_Bytes : chkFn Tryd.prog fn_r08_Bytes c_r08_Bytes R_r08_Bytes 1 = true := by kernel_rfl
/-! wapentake/config.right -/
@[simp] def a_config_right_r0 : List COper := [
  ⟨(some 1), .box, [.t 0], none⟩,
  ⟨(some 2), .mov, [.c (.bool false)], none⟩]
def c_config_right_r0 : List COper := a_config_right_r0
instance : Reg c_config_right_r0 a_config_right_r0 2 := ⟨rfl, rfl⟩
@[simp] def a_config_right_r1 : List COper := [
  ⟨(some 3), .faddr 0 1 false, [.t 1], none⟩,
  ⟨(some 4), .load false 1, [.t 3], none⟩,
  ⟨(some 5), .bin .geq, [.t 4, .c (.int .i64 1)], none⟩,
  ⟨(some 6), .mov, [.t 5], none⟩,
  ⟨(some 7), .faddr 0 1 false, [.t 1], (some (6, true))⟩,
  ⟨(some 8), .load false 1, [.t 7], (some (6, true))⟩,
  ⟨(some 9), .bin .leq, [.t 8, .c (.int .i64 63)], (some (6, true))⟩,
  ⟨(some 10), .pick, [.t 6, .t 9, .c (.bool false)], none⟩,
  ⟨(some 11), .mov, [.t 10], none⟩,
  ⟨(some 12), .faddr 1 33 true, [.t 1], (some (11, true))⟩,
  ⟨(some 13), .faddr 32 1 false, [.t 12], (some (11, true))⟩,
  ⟨(some 14), .load false 1, [.t 13], (some (11, true))⟩,
  ⟨(some 15), .bin .geq, [.t 14, .c (.int .i64 0)], (some (11, true))⟩,
  ⟨(some 16), .pick, [.t 11, .t 15, .c (.bool false)], none⟩,
  ⟨(some 17), .mov, [.t 16], none⟩,
  ⟨(some 18), .faddr 1 33 true, [.t 1], (some (17, true))⟩,
  ⟨(some 19), .faddr 32 1 false, [.t 18], (some (17, true))⟩,
  ⟨(some 20), .load false 1, [.t 19], (some (17, true))⟩,
  ⟨(some 21), .bin .leq, [.t 20, .c (.int .i64 6)], (some (17, true))⟩,
  ⟨(some 22), .pick, [.t 17, .t 21, .c (.bool false)], none⟩,
  ⟨(some 2), .mov, [.t 22], none⟩]
def c_config_right_r1 : List COper := a_config_right_r1
instance : Reg c_config_right_r1 a_config_right_r1 21 := ⟨rfl, rfl⟩
@[simp] def c_config_right : CCode :=
  .seq (.region c_config_right_r0 none [1]) (.seq (.region c_config_right_r1 none [2]) (.ret))
@[simp] def R_config_right : List CRes := [.tmp 2]
theorem k_config_right : chkFn Tryd.prog fn_config_right c_config_right R_config_right 1 = true := by kernel_rfl
/-! wapentake/sha.Of -/
@[simp] def a_sha_Of_r0 : List COper := [
  ⟨(some 2), .alloc (.arr 1 (rep 32 (.v (.int .u8 0)))), [], none⟩]
def c_sha_Of_r0 : List COper := a_sha_Of_r0
instance : Reg c_sha_Of_r0 a_sha_Of_r0 1 := ⟨rfl, rfl⟩
@[simp] def a_sha_Of_r1 : List COper := [
  ⟨(some 13), .buildA 1 (rep 8 (.v (.int .u32 0))) (upTo 8), [.c (.int .u32 1779033703), .c (.int .u32 3144134277), .c (.int .u32 1013904242), .c (.int .u32 2773480762), .c (.int .u32 1359893119), .c (.int .u32 2600822924), .c (.int .u32 528734635), .c (.int .u32 1541459225)], none⟩,
  ⟨(some 3), .alloc (.arr 1 (rep 8 (.v (.int .u32 0)))), [], none⟩,
  ⟨none, .store true 8, [.t 3, .t 13], none⟩]
def c_sha_Of_r1 : List COper := a_sha_Of_r1
instance : Reg c_sha_Of_r1 a_sha_Of_r1 3 := ⟨rfl, rfl⟩
@[simp] def a_sha_Of_r2 : List COper := [
  ⟨(some 4), .alloc (.arr 1 (rep 64 (.v (.int .u8 0)))), [], none⟩]
def c_sha_Of_r2 : List COper := a_sha_Of_r2
instance : Reg c_sha_Of_r2 a_sha_Of_r2 1 := ⟨rfl, rfl⟩
@[simp] def a_sha_Of_r3 : List COper := [
  ⟨(some 5), .mov, [.c (.int .i64 0)], none⟩,
  ⟨(some 6), .mov, [.c (.int .i64 0)], none⟩]
def c_sha_Of_r3 : List COper := a_sha_Of_r3
instance : Reg c_sha_Of_r3 a_sha_Of_r3 2 := ⟨rfl, rfl⟩
@[simp] def a_sha_Of_r4 : List COper := [
  ⟨(some 14), .mov, [.t 0], none⟩,
  ⟨(some 15), .len, [.t 14], none⟩,
  ⟨(some 16), .mov, [.c (.int .i64 0)], none⟩]
def c_sha_Of_r4 : List COper := a_sha_Of_r4
instance : Reg c_sha_Of_r4 a_sha_Of_r4 3 := ⟨rfl, rfl⟩
@[simp] def a_sha_Of_r5 : List COper := [
  ⟨(some 17), .bin .lss, [.t 16, .t 15], none⟩]
def c_sha_Of_r5 : List COper := a_sha_Of_r5
instance : Reg c_sha_Of_r5 a_sha_Of_r5 1 := ⟨rfl, rfl⟩
@[simp] def a_sha_Of_r6 : List COper := [
  ⟨(some 18), .iaddr 1, [.t 14, .t 16], none⟩,
  ⟨(some 19), .load false 1, [.t 18], none⟩,
  ⟨(some 8), .mov, [.t 19], none⟩]
def c_sha_Of_r6 : List COper := a_sha_Of_r6
instance : Reg c_sha_Of_r6 a_sha_Of_r6 3 := ⟨rfl, rfl⟩
@[simp] def a_sha_Of_r7 : List COper := [
  ⟨(some 20), .mov, [.t 5], none⟩,
  ⟨(some 21), .mov, [.t 8], none⟩,
  ⟨(some 22), .len, [.t 21], none⟩,
  ⟨(some 23), .bin .add, [.t 20, .t 22], none⟩,
  ⟨(some 5), .mov, [.t 23], none⟩]
def c_sha_Of_r7 : List COper := a_sha_Of_r7
instance : Reg c_sha_Of_r7 a_sha_Of_r7 5 := ⟨rfl, rfl⟩
@[simp] def a_sha_Of_r8 : List COper := [
  ⟨(some 24), .mov, [.t 8], none⟩,
  ⟨(some 25), .len, [.t 24], none⟩,
  ⟨(some 26), .bin .gtr, [.t 25, .c (.int .i64 0)], none⟩]
def c_sha_Of_r8 : List COper := a_sha_Of_r8
instance : Reg c_sha_Of_r8 a_sha_Of_r8 3 := ⟨rfl, rfl⟩
@[simp] def a_sha_Of_r9 : List COper := [
  ⟨(some 27), .mov, [.t 6], none⟩,
  ⟨(some 28), .sliceArr 64 1 true false, [.t 4, .t 27], none⟩,
  ⟨(some 29), .mov, [.t 8], none⟩,
  ⟨(some 30), .copy 1, [.t 28, .t 29], none⟩,
  ⟨(some 9), .mov, [.t 30], none⟩]
def c_sha_Of_r9 : List COper := a_sha_Of_r9
instance : Reg c_sha_Of_r9 a_sha_Of_r9 5 := ⟨rfl, rfl⟩
@[simp] def a_sha_Of_r10 : List COper := [
  ⟨(some 31), .mov, [.t 6], none⟩,
  ⟨(some 32), .mov, [.t 9], none⟩,
  ⟨(some 33), .bin .add, [.t 31, .t 32], none⟩,
  ⟨(some 34), .mov, [.t 8], none⟩,
  ⟨(some 35), .mov, [.t 9], none⟩,
  ⟨(some 36), .slice 1 true false, [.t 34, .t 35], none⟩,
  ⟨(some 6), .mov, [.t 33], none⟩,
  ⟨(some 8), .mov, [.t 36], none⟩]
def c_sha_Of_r10 : List COper := a_sha_Of_r10
instance : Reg c_sha_Of_r10 a_sha_Of_r10 8 := ⟨rfl, rfl⟩
@[simp] def a_sha_Of_r11 : List COper := [
  ⟨(some 37), .mov, [.t 6], none⟩,
  ⟨(some 38), .bin .eql, [.t 37, .c (.int .i64 64)], none⟩]
def c_sha_Of_r11 : List COper := a_sha_Of_r11
instance : Reg c_sha_Of_r11 a_sha_Of_r11 2 := ⟨rfl, rfl⟩
@[simp] def a_sha_Of_r12 : List COper := [
  ⟨(some 39), .sliceArr 64 1 false false, [.t 4], none⟩,
  ⟨(some 40), .call fn_sha_state_block, [.t 3, .t 39], none⟩]
def c_sha_Of_r12 : List COper := a_sha_Of_r12
instance : Reg c_sha_Of_r12 a_sha_Of_r12 2 := ⟨rfl, rfl⟩
@[simp] def a_sha_Of_r13 : List COper := [
  ⟨(some 6), .mov, [.c (.int .i64 0)], none⟩]
def c_sha_Of_r13 : List COper := a_sha_Of_r13
instance : Reg c_sha_Of_r13 a_sha_Of_r13 1 := ⟨rfl, rfl⟩
@[simp] def a_sha_Of_r14 : List COper := [
  ⟨(some 41), .bin .add, [.t 16, .c (.int .i64 1)], none⟩,
  ⟨(some 16), .mov, [.t 41], none⟩]
def c_sha_Of_r14 : List COper := a_sha_Of_r14
instance : Reg c_sha_Of_r14 a_sha_Of_r14 2 := ⟨rfl, rfl⟩
@[simp] def a_sha_Of_r15 : List COper := [
  ⟨(some 42), .mov, [.t 6], none⟩,
  ⟨(some 43), .iaddrArr 64 1 false, [.t 4, .t 42], none⟩,
  ⟨none, .store false 1, [.t 43, .c (.int .u8 128)], none⟩]
def c_sha_Of_r15 : List COper := a_sha_Of_r15
instance : Reg c_sha_Of_r15 a_sha_Of_r15 3 := ⟨rfl, rfl⟩
@[simp] def a_sha_Of_r16 : List COper := [
  ⟨(some 44), .mov, [.t 6], none⟩,
  ⟨(some 45), .bin .add, [.t 44, .c (.int .i64 1)], none⟩,
  ⟨(some 46), .sliceArr 64 1 true false, [.t 4, .t 45], none⟩,
  ⟨none, .clear 1 (.v (.int .u8 0)), [.t 46], none⟩]
def c_sha_Of_r16 : List COper := a_sha_Of_r16
instance : Reg c_sha_Of_r16 a_sha_Of_r16 4 := ⟨rfl, rfl⟩
@[simp] def a_sha_Of_r17 : List COper := [
  ⟨(some 47), .mov, [.t 6], none⟩,
  ⟨(some 48), .bin .geq, [.t 47, .c (.int .i64 56)], none⟩]
def c_sha_Of_r17 : List COper := a_sha_Of_r17
instance : Reg c_sha_Of_r17 a_sha_Of_r17 2 := ⟨rfl, rfl⟩
@[simp] def a_sha_Of_r18 : List COper := [
  ⟨(some 49), .sliceArr 64 1 false false, [.t 4], none⟩,
  ⟨(some 50), .call fn_sha_state_block, [.t 3, .t 49], none⟩]
def c_sha_Of_r18 : List COper := a_sha_Of_r18
instance : Reg c_sha_Of_r18 a_sha_Of_r18 2 := ⟨rfl, rfl⟩
@[simp] def a_sha_Of_r19 : List COper := [
  ⟨(some 51), .sliceArr 64 1 false false, [.t 4], none⟩,
  ⟨none, .clear 1 (.v (.int .u8 0)), [.t 51], none⟩]
def c_sha_Of_r19 : List COper := a_sha_Of_r19
instance : Reg c_sha_Of_r19 a_sha_Of_r19 2 := ⟨rfl, rfl⟩
@[simp] def a_sha_Of_r20 : List COper := [
  ⟨(some 52), .mov, [.c (.int .i64 0)], none⟩]
def c_sha_Of_r20 : List COper := a_sha_Of_r20
instance : Reg c_sha_Of_r20 a_sha_Of_r20 1 := ⟨rfl, rfl⟩
@[simp] def a_sha_Of_r21 : List COper := [
  ⟨(some 53), .bin .lss, [.t 52, .c (.int .i64 8)], none⟩]
def c_sha_Of_r21 : List COper := a_sha_Of_r21
instance : Reg c_sha_Of_r21 a_sha_Of_r21 1 := ⟨rfl, rfl⟩
@[simp] def a_sha_Of_r22 : List COper := [
  ⟨(some 54), .mov, [.t 52], none⟩,
  ⟨(some 10), .mov, [.t 54], none⟩]
def c_sha_Of_r22 : List COper := a_sha_Of_r22
instance : Reg c_sha_Of_r22 a_sha_Of_r22 2 := ⟨rfl, rfl⟩
@[simp] def a_sha_Of_r23 : List COper := [
  ⟨(some 55), .mov, [.t 10], none⟩,
  ⟨(some 56), .bin .add, [.c (.int .i64 56), .t 55], none⟩,
  ⟨(some 57), .mov, [.t 5], none⟩,
  ⟨(some 58), .convI .u64, [.t 57], none⟩,
  ⟨(some 59), .bin .shl, [.t 58, .c (.int .u64 3)], none⟩,
  ⟨(some 60), .mov, [.t 10], none⟩,
  ⟨(some 61), .bin .mul, [.c (.int .i64 8), .t 60], none⟩,
  ⟨(some 62), .bin .sub, [.c (.int .i64 56), .t 61], none⟩,
  ⟨(some 63), .bin .shr, [.t 59, .t 62], none⟩,
  ⟨(some 64), .convI .u8, [.t 63], none⟩,
  ⟨(some 65), .iaddrArr 64 1 false, [.t 4, .t 56], none⟩,
  ⟨none, .store false 1, [.t 65, .t 64], none⟩]
def c_sha_Of_r23 : List COper := a_sha_Of_r23
instance : Reg c_sha_Of_r23 a_sha_Of_r23 12 := ⟨rfl, rfl⟩
@[simp] def a_sha_Of_r24 : List COper := [
  ⟨(some 66), .bin .add, [.t 52, .c (.int .i64 1)], none⟩,
  ⟨(some 52), .mov, [.t 66], none⟩]
def c_sha_Of_r24 : List COper := a_sha_Of_r24
instance : Reg c_sha_Of_r24 a_sha_Of_r24 2 := ⟨rfl, rfl⟩
@[simp] def a_sha_Of_r25 : List COper := [
  ⟨(some 67), .sliceArr 64 1 false false, [.t 4], none⟩,
  ⟨(some 68), .call fn_sha_state_block, [.t 3, .t 67], none⟩]
def c_sha_Of_r25 : List COper := a_sha_Of_r25
instance : Reg c_sha_Of_r25 a_sha_Of_r25 2 := ⟨rfl, rfl⟩
@[simp] def a_sha_Of_r26 : List COper := [
  ⟨(some 11), .alloc (.arr 1 (rep 32 (.v (.int .u8 0)))), [], none⟩]
def c_sha_Of_r26 : List COper := a_sha_Of_r26
instance : Reg c_sha_Of_r26 a_sha_Of_r26 1 := ⟨rfl, rfl⟩
@[simp] def a_sha_Of_r27 : List COper := [
  ⟨(some 69), .mov, [.c (.int .i64 0)], none⟩]
def c_sha_Of_r27 : List COper := a_sha_Of_r27
instance : Reg c_sha_Of_r27 a_sha_Of_r27 1 := ⟨rfl, rfl⟩
@[simp] def a_sha_Of_r28 : List COper := [
  ⟨(some 70), .bin .lss, [.t 69, .c (.int .i64 32)], none⟩]
def c_sha_Of_r28 : List COper := a_sha_Of_r28
instance : Reg c_sha_Of_r28 a_sha_Of_r28 1 := ⟨rfl, rfl⟩
@[simp] def a_sha_Of_r29 : List COper := [
  ⟨(some 71), .mov, [.t 69], none⟩,
  ⟨(some 12), .mov, [.t 71], none⟩]
def c_sha_Of_r29 : List COper := a_sha_Of_r29
instance : Reg c_sha_Of_r29 a_sha_Of_r29 2 := ⟨rfl, rfl⟩
@[simp] def a_sha_Of_r30 : List COper := [
  ⟨(some 72), .mov, [.t 12], none⟩,
  ⟨(some 73), .mov, [.t 12], none⟩,
  ⟨(some 74), .bin .quo, [.t 73, .c (.int .i64 4)], none⟩,
  ⟨(some 75), .iaddrArr 8 1 false, [.t 3, .t 74], none⟩,
  ⟨(some 76), .load false 1, [.t 75], none⟩,
  ⟨(some 77), .mov, [.t 12], none⟩,
  ⟨(some 78), .bin .rem, [.t 77, .c (.int .i64 4)], none⟩,
  ⟨(some 79), .bin .mul, [.c (.int .i64 8), .t 78], none⟩,
  ⟨(some 80), .bin .sub, [.c (.int .i64 24), .t 79], none⟩,
  ⟨(some 81), .bin .shr, [.t 76, .t 80], none⟩,
  ⟨(some 82), .convI .u8, [.t 81], none⟩,
  ⟨(some 83), .iaddrArr 32 1 false, [.t 11, .t 72], none⟩,
  ⟨none, .store false 1, [.t 83, .t 82], none⟩]
def c_sha_Of_r30 : List COper := a_sha_Of_r30
instance : Reg c_sha_Of_r30 a_sha_Of_r30 13 := ⟨rfl, rfl⟩
@[simp] def a_sha_Of_r31 : List COper := [
  ⟨(some 84), .bin .add, [.t 69, .c (.int .i64 1)], none⟩,
  ⟨(some 69), .mov, [.t 84], none⟩]
def c_sha_Of_r31 : List COper := a_sha_Of_r31
instance : Reg c_sha_Of_r31 a_sha_Of_r31 2 := ⟨rfl, rfl⟩
@[simp] def a_sha_Of_r32 : List COper := [
  ⟨(some 85), .load true 32, [.t 11], none⟩,
  ⟨none, .store true 32, [.t 2, .t 85], none⟩]
def c_sha_Of_r32 : List COper := a_sha_Of_r32
instance : Reg c_sha_Of_r32 a_sha_Of_r32 2 := ⟨rfl, rfl⟩
@[simp] def c_sha_Of : CCode :=
  .seq (.region c_sha_Of_r0 none [0, 2]) (.seq (.region c_sha_Of_r1 none [0, 2, 3]) (.seq (.region c_sha_Of_r2 none [0, 2, 3, 4]) (.seq (.region c_sha_Of_r3 none [0, 2, 3, 4, 5, 6]) (.seq (.seq (.region c_sha_Of_r4 none [2, 3, 4, 5, 6, 14, 15, 16]) (.block 0 (.loop (.seq (.region c_sha_Of_r5 none [2, 3, 4, 5, 6, 14, 15, 16, 17]) (.seq (.cond (.t 17) (.skip) (.exit 0)) (.seq (.block 1 (.seq (.region c_sha_Of_r6 none [2, 3, 4, 5, 6, 8, 14, 15, 16]) (.seq (.region c_sha_Of_r7 none [2, 3, 4, 5, 6, 8, 14, 15, 16]) (.block 2 (.loop (.seq (.seq (.region c_sha_Of_r8 none [2, 3, 4, 5, 6, 8, 14, 15, 16, 26]) (.cond (.t 26) (.skip) (.exit 2))) (.block 3 (.seq (.region c_sha_Of_r9 none [2, 3, 4, 5, 6, 8, 9, 14, 15, 16]) (.seq (.region c_sha_Of_r10 (some ([0, 0, 3, 0, 0, 24, 7, 127], [])) [2, 3, 4, 5, 6, 8, 14, 15, 16]) (.seq (.region c_sha_Of_r11 none [2, 3, 4, 5, 6, 8, 14, 15, 16, 38]) (.cond (.t 38) (.seq (.region c_sha_Of_r12 none [2, 3, 4, 5, 8, 14, 15, 16]) (.region c_sha_Of_r13 none [2, 3, 4, 5, 6, 8, 14, 15, 16])) (.skip)))))))))))) (.region c_sha_Of_r14 none [2, 3, 4, 5, 6, 14, 15, 16]))))))) (.seq (.region c_sha_Of_r15 none [2, 3, 4, 5, 6]) (.seq (.region c_sha_Of_r16 none [2, 3, 4, 5, 6]) (.seq (.seq (.region c_sha_Of_r17 none [2, 3, 4, 5, 48]) (.cond (.t 48) (.seq (.region c_sha_Of_r18 none [2, 3, 4, 5]) (.region c_sha_Of_r19 none [2, 3, 4, 5])) (.skip))) (.seq (.seq (.region c_sha_Of_r20 none [2, 3, 4, 5, 52]) (.block 4 (.loop (.seq (.region c_sha_Of_r21 none [2, 3, 4, 5, 52, 53]) (.seq (.cond (.t 53) (.skip) (.exit 4)) (.seq (.block 5 (.seq (.region c_sha_Of_r22 none [2, 3, 4, 5, 10, 52]) (.region c_sha_Of_r23 none [2, 3, 4, 5, 52]))) (.region c_sha_Of_r24 none [2, 3, 4, 5, 52]))))))) (.seq (.region c_sha_Of_r25 none [2, 3]) (.seq (.region c_sha_Of_r26 none [2, 3, 11]) (.seq (.seq (.region c_sha_Of_r27 none [2, 3, 11, 69]) (.block 6 (.loop (.seq (.region c_sha_Of_r28 none [2, 3, 11, 69, 70]) (.seq (.cond (.t 70) (.skip) (.exit 6)) (.seq (.block 7 (.seq (.region c_sha_Of_r29 none [2, 3, 11, 12, 69]) (.region c_sha_Of_r30 none [2, 3, 11, 69]))) (.region c_sha_Of_r31 none [2, 3, 11, 69]))))))) (.seq (.region c_sha_Of_r32 none [2]) (.ret)))))))))))))
@[simp] def R_sha_Of : List CRes := [.cell 2 true 32]
theorem k_sha_Of : chkFn Tryd.prog fn_sha_Of c_sha_Of R_sha_Of 1 = true := by kernel_rfl
/-! wapentake/wapentakeref08.Right -/
@[simp] def a_r08_Right_r0 : List COper := [
  ⟨(some 1), .box, [.t 0], none⟩,
  ⟨(some 2), .mov, [.c (.bool false)], none⟩]
def c_r08_Right_r0 : List COper := a_r08_Right_r0
instance : Reg c_r08_Right_r0 a_r08_Right_r0 2 := ⟨rfl, rfl⟩
@[simp] def a_r08_Right_r1 : List COper := [
  ⟨(some 3), .faddr 0 1 false, [.t 1], none⟩,
  ⟨(some 4), .load false 1, [.t 3], none⟩,
  ⟨(some 5), .bin .gtr, [.t 4, .c (.int .i64 0)], none⟩,
  ⟨(some 6), .mov, [.t 5], none⟩,
  ⟨(some 7), .faddr 0 1 false, [.t 1], (some (6, true))⟩,
  ⟨(some 8), .load false 1, [.t 7], (some (6, true))⟩,
  ⟨(some 9), .bin .lss, [.t 8, .c (.int .i64 64)], (some (6, true))⟩,
  ⟨(some 10), .pick, [.t 6, .t 9, .c (.bool false)], none⟩,
  ⟨(some 11), .mov, [.t 10], none⟩,
  ⟨(some 12), .faddr 1 33 true, [.t 1], (some (11, true))⟩,
  ⟨(some 13), .faddr 32 1 false, [.t 12], (some (11, true))⟩,
  ⟨(some 14), .load false 1, [.t 13], (some (11, true))⟩,
  ⟨(some 15), .bin .geq, [.t 14, .c (.int .i64 0)], (some (11, true))⟩,
  ⟨(some 16), .pick, [.t 11, .t 15, .c (.bool false)], none⟩,
  ⟨(some 17), .mov, [.t 16], none⟩,
  ⟨(some 18), .faddr 1 33 true, [.t 1], (some (17, true))⟩,
  ⟨(some 19), .faddr 32 1 false, [.t 18], (some (17, true))⟩,
  ⟨(some 20), .load false 1, [.t 19], (some (17, true))⟩,
  ⟨(some 21), .bin .lss, [.t 20, .c (.int .i64 7)], (some (17, true))⟩,
  ⟨(some 22), .pick, [.t 17, .t 21, .c (.bool false)], none⟩,
  ⟨(some 2), .mov, [.t 22], none⟩]
def c_r08_Right_r1 : List COper := a_r08_Right_r1
instance : Reg c_r08_Right_r1 a_r08_Right_r1 21 := ⟨rfl, rfl⟩
@[simp] def c_r08_Right : CCode :=
  .seq (.region c_r08_Right_r0 none [1]) (.seq (.region c_r08_Right_r1 none [2]) (.ret))
@[simp] def R_r08_Right : List CRes := [.tmp 2]
theorem k_r08_Right : chkFn Tryd.prog fn_r08_Right c_r08_Right R_r08_Right 1 = true := by kernel_rfl
/-! wapentake/wapentakeref02.Text -/
@[simp] def a_r02_Text_r0 : List COper := [
  ⟨(some 2), .alloc (.arr 1 (rep 32 (.v (.int .u8 0)))), [], none⟩]
def c_r02_Text_r0 : List COper := a_r02_Text_r0
instance : Reg c_r02_Text_r0 a_r02_Text_r0 1 := ⟨rfl, rfl⟩
@[simp] def a_r02_Text_r1 : List COper := [
  ⟨(some 3), .mov, [.t 0], none⟩,
  ⟨(some 4), .convB, [.t 3], none⟩,
  ⟨(some 5), .call fn_r02_Of, [.t 4], none⟩,
  ⟨none, .store true 32, [.t 2, .t 5], none⟩]
def c_r02_Text_r1 : List COper := a_r02_Text_r1
instance : Reg c_r02_Text_r1 a_r02_Text_r1 4 := ⟨rfl, rfl⟩
@[simp] def c_r02_Text : CCode :=
  .seq (.region c_r02_Text_r0 none [0, 2]) (.seq (.region c_r02_Text_r1 none [2]) (.ret))
@[simp] def R_r02_Text : List CRes := [.cell 2 true 32]
theorem k_r02_Text : chkFn Tryd.prog fn_r02_Text c_r02_Text R_r02_Text 1 = true := by kernel_rfl
/-! wapentake/keys.leaf -/
@[simp] def a_keys_leaf_r0 : List COper := [
  ⟨(some 1), .box, [.t 0], none⟩,
  ⟨(some 2), .alloc (.arr 1 (rep 32 (.v (.int .u8 0)))), [], none⟩]
def c_keys_leaf_r0 : List COper := a_keys_leaf_r0
instance : Reg c_keys_leaf_r0 a_keys_leaf_r0 2 := ⟨rfl, rfl⟩
@[simp] def a_keys_leaf_r1 : List COper := [
  ⟨(some 3), .sliceArr 32 1 false false, [.t 1], none⟩,
  ⟨(some 4), .call fn_tree_Leaf, [.t 3], none⟩,
  ⟨none, .store true 32, [.t 2, .t 4], none⟩]
def c_keys_leaf_r1 : List COper := a_keys_leaf_r1
instance : Reg c_keys_leaf_r1 a_keys_leaf_r1 3 := ⟨rfl, rfl⟩
@[simp] def c_keys_leaf : CCode :=
  .seq (.region c_keys_leaf_r0 none [1, 2]) (.seq (.region c_keys_leaf_r1 none [2]) (.ret))
@[simp] def R_keys_leaf : List CRes := [.cell 2 true 32]
theorem k_keys_leaf : chkFn Tryd.prog fn_keys_leaf c_keys_leaf R_keys_leaf 1 = true := by kernel_rfl
/-! wapentake/vote.head -/
@[simp] def a_vote_head_r0 : List COper := [
  ⟨(some 3), .box, [.t 1], none⟩]
def c_vote_head_r0 : List COper := a_vote_head_r0
instance : Reg c_vote_head_r0 a_vote_head_r0 1 := ⟨rfl, rfl⟩
@[simp] def a_vote_head_r1 : List COper := [
  ⟨(some 4), .mov, [.t 0], none⟩,
  ⟨(some 5), .faddr 0 1 false, [.t 3], none⟩,
  ⟨(some 6), .load false 1, [.t 5], none⟩,
  ⟨(some 7), .faddr 1 1 false, [.t 3], none⟩,
  ⟨(some 8), .load false 1, [.t 7], none⟩,
  ⟨(some 9), .faddr 2 1 false, [.t 3], none⟩,
  ⟨(some 10), .load false 1, [.t 9], none⟩,
  ⟨(some 11), .faddr 3 1 false, [.t 3], none⟩,
  ⟨(some 12), .load false 1, [.t 11], none⟩,
  ⟨(some 13), .faddr 36 1 false, [.t 3], none⟩,
  ⟨(some 14), .load false 1, [.t 13], none⟩,
  ⟨(some 15), .bslice 1 5 (.v (.int .i64 0)) [0, 1, 2, 3, 4], [.t 6, .t 8, .t 10, .t 12, .t 14], none⟩,
  ⟨(some 16), .call fn_code_Writer_Num, [.t 4, .t 15], none⟩]
def c_vote_head_r1 : List COper := a_vote_head_r1
instance : Reg c_vote_head_r1 a_vote_head_r1 13 := ⟨rfl, rfl⟩
@[simp] def a_vote_head_r2 : List COper := [
  ⟨(some 17), .mov, [.t 0], none⟩,
  ⟨(some 18), .faddr 4 32 true, [.t 3], none⟩,
  ⟨(some 19), .load true 32, [.t 18], none⟩,
  ⟨(some 20), .bslice 32 1 (.arr 1 (rep 32 (.v (.int .u8 0)))) [0], [.t 19], none⟩,
  ⟨(some 21), .call fn_code_Writer_Digest, [.t 17, .t 20], none⟩]
def c_vote_head_r2 : List COper := a_vote_head_r2
instance : Reg c_vote_head_r2 a_vote_head_r2 5 := ⟨rfl, rfl⟩
@[simp] def c_vote_head : CCode :=
  .seq (.region c_vote_head_r0 none [0, 3]) (.seq (.region c_vote_head_r1 none [0, 3]) (.region c_vote_head_r2 none []))
@[simp] def R_vote_head : List CRes := []
theorem k_vote_head : chkFn Tryd.prog fn_vote_head c_vote_head R_vote_head 2 = true := by kernel_rfl
/-! wapentake/request.Good -/
@[simp] def a_request_Good_r0 : List COper := [
  ⟨(some 1), .box, [.t 0], none⟩,
  ⟨(some 2), .mov, [.c (.bool false)], none⟩]
def c_request_Good_r0 : List COper := a_request_Good_r0
instance : Reg c_request_Good_r0 a_request_Good_r0 2 := ⟨rfl, rfl⟩
@[simp] def a_request_Good_r1 : List COper := [
  ⟨(some 4), .faddr 2 40 true, [.t 1], none⟩,
  ⟨(some 5), .load true 40, [.t 4], none⟩,
  ⟨(some 3), .alloc (.node [.v (.int .i64 0), .v (.string (mkS [])), .v (.string (mkS [])), .v (.string (mkS [])), .node [.v (.int .i64 0), .v (.int .i64 0), .v (.int .i64 0), .node [.arr 1 (rep 32 (.v (.int .u8 0))), .v (.int .i64 0)]]]), [], none⟩,
  ⟨none, .store true 40, [.t 3, .t 5], none⟩]
def c_request_Good_r1 : List COper := a_request_Good_r1
instance : Reg c_request_Good_r1 a_request_Good_r1 4 := ⟨rfl, rfl⟩
@[simp] def a_request_Good_r2 : List COper := [
  ⟨(some 6), .faddr 0 1 false, [.t 1], none⟩,
  ⟨(some 7), .load false 1, [.t 6], none⟩,
  ⟨(some 8), .bin .geq, [.t 7, .c (.int .i64 1)], none⟩,
  ⟨(some 9), .mov, [.t 8], none⟩,
  ⟨(some 10), .faddr 0 1 false, [.t 1], (some (9, true))⟩,
  ⟨(some 11), .load false 1, [.t 10], (some (9, true))⟩,
  ⟨(some 12), .bin .leq, [.t 11, .c (.int .i64 64)], (some (9, true))⟩,
  ⟨(some 13), .pick, [.t 9, .t 12, .c (.bool false)], none⟩,
  ⟨(some 14), .mov, [.t 13], none⟩,
  ⟨(some 15), .faddr 1 1 false, [.t 1], (some (14, true))⟩,
  ⟨(some 16), .load false 1, [.t 15], (some (14, true))⟩,
  ⟨(some 17), .bin .geq, [.t 16, .c (.int .i64 1)], (some (14, true))⟩,
  ⟨(some 18), .pick, [.t 14, .t 17, .c (.bool false)], none⟩,
  ⟨(some 19), .mov, [.t 18], none⟩,
  ⟨(some 20), .faddr 1 1 false, [.t 1], (some (19, true))⟩,
  ⟨(some 21), .load false 1, [.t 20], (some (19, true))⟩,
  ⟨(some 22), .bin .leq, [.t 21, .c (.int .i64 1099511627776)], (some (19, true))⟩,
  ⟨(some 23), .pick, [.t 19, .t 22, .c (.bool false)], none⟩,
  ⟨(some 24), .mov, [.t 23], none⟩,
  ⟨(some 25), .faddr 0 1 false, [.t 3], (some (24, true))⟩,
  ⟨(some 26), .load false 1, [.t 25], (some (24, true))⟩,
  ⟨(some 27), .bin .geq, [.t 26, .c (.int .i64 1)], (some (24, true))⟩,
  ⟨(some 28), .pick, [.t 24, .t 27, .c (.bool false)], none⟩,
  ⟨(some 29), .mov, [.t 28], none⟩,
  ⟨(some 30), .faddr 0 1 false, [.t 3], (some (29, true))⟩,
  ⟨(some 31), .load false 1, [.t 30], (some (29, true))⟩,
  ⟨(some 32), .bin .leq, [.t 31, .c (.int .i64 7)], (some (29, true))⟩,
  ⟨(some 33), .pick, [.t 29, .t 32, .c (.bool false)], none⟩,
  ⟨(some 34), .mov, [.t 33], none⟩,
  ⟨(some 35), .faddr 1 1 false, [.t 3], (some (34, true))⟩,
  ⟨(some 36), .load false 1, [.t 35], (some (34, true))⟩,
  ⟨(some 37), .faddr 2 1 false, [.t 3], (some (34, true))⟩,
  ⟨(some 38), .load false 1, [.t 37], (some (34, true))⟩,
  ⟨(some 39), .faddr 3 1 false, [.t 3], (some (34, true))⟩,
  ⟨(some 40), .load false 1, [.t 39], (some (34, true))⟩,
  ⟨(some 41), .bslice 1 3 (.v (.string (mkS []))) [0, 1, 2], [.t 36, .t 38, .t 40], (some (34, true))⟩,
  ⟨(some 42), .call fn_request_short, [.t 41], (some (34, true))⟩,
  ⟨(some 43), .pick, [.t 34, .t 42, .c (.bool false)], none⟩,
  ⟨(some 2), .mov, [.t 43], none⟩]
def c_request_Good_r2 : List COper := a_request_Good_r2
instance : Reg c_request_Good_r2 a_request_Good_r2 39 := ⟨rfl, rfl⟩
@[simp] def c_request_Good : CCode :=
  .seq (.region c_request_Good_r0 none [1]) (.seq (.region c_request_Good_r1 none [1, 3]) (.seq (.region c_request_Good_r2 none [2]) (.ret)))
@[simp] def R_request_Good : List CRes := [.tmp 2]
theorem k_request_Good : chkFn Tryd.prog fn_request_Good c_request_Good R_request_Good 1 = true := by kernel_rfl
-- NOT: 89 ('STR', 'wapentake/config.Find'): Exception('op makeFunc')
/-! wapentake/vote.Good -/
@[simp] def a_vote_Good_r0 : List COper := [
  ⟨(some 1), .box, [.t 0], none⟩,
  ⟨(some 2), .mov, [.c (.bool false)], none⟩]
def c_vote_Good_r0 : List COper := a_vote_Good_r0
instance : Reg c_vote_Good_r0 a_vote_Good_r0 2 := ⟨rfl, rfl⟩
@[simp] def a_vote_Good_r1 : List COper := [
  ⟨(some 3), .faddr 0 1 false, [.t 1], none⟩,
  ⟨(some 4), .load false 1, [.t 3], none⟩,
  ⟨(some 5), .bin .geq, [.t 4, .c (.int .i64 1)], none⟩,
  ⟨(some 6), .mov, [.t 5], none⟩,
  ⟨(some 7), .faddr 0 1 false, [.t 1], (some (6, true))⟩,
  ⟨(some 8), .load false 1, [.t 7], (some (6, true))⟩,
  ⟨(some 9), .bin .leq, [.t 8, .c (.int .i64 2)], (some (6, true))⟩,
  ⟨(some 10), .pick, [.t 6, .t 9, .c (.bool false)], none⟩,
  ⟨(some 11), .mov, [.t 10], none⟩,
  ⟨(some 12), .faddr 1 1 false, [.t 1], (some (11, true))⟩,
  ⟨(some 13), .load false 1, [.t 12], (some (11, true))⟩,
  ⟨(some 14), .bin .geq, [.t 13, .c (.int .i64 0)], (some (11, true))⟩,
  ⟨(some 15), .pick, [.t 11, .t 14, .c (.bool false)], none⟩,
  ⟨(some 16), .mov, [.t 15], none⟩,
  ⟨(some 17), .faddr 1 1 false, [.t 1], (some (16, true))⟩,
  ⟨(some 18), .load false 1, [.t 17], (some (16, true))⟩,
  ⟨(some 19), .bin .leq, [.t 18, .c (.int .i64 1073741824)], (some (16, true))⟩,
  ⟨(some 20), .pick, [.t 16, .t 19, .c (.bool false)], none⟩,
  ⟨(some 21), .mov, [.t 20], none⟩,
  ⟨(some 22), .faddr 2 1 false, [.t 1], (some (21, true))⟩,
  ⟨(some 23), .load false 1, [.t 22], (some (21, true))⟩,
  ⟨(some 24), .bin .geq, [.t 23, .c (.int .i64 1)], (some (21, true))⟩,
  ⟨(some 25), .pick, [.t 21, .t 24, .c (.bool false)], none⟩,
  ⟨(some 26), .mov, [.t 25], none⟩,
  ⟨(some 27), .faddr 2 1 false, [.t 1], (some (26, true))⟩,
  ⟨(some 28), .load false 1, [.t 27], (some (26, true))⟩,
  ⟨(some 29), .bin .leq, [.t 28, .c (.int .i64 1024)], (some (26, true))⟩,
  ⟨(some 30), .pick, [.t 26, .t 29, .c (.bool false)], none⟩,
  ⟨(some 31), .mov, [.t 30], none⟩,
  ⟨(some 32), .faddr 3 1 false, [.t 1], (some (31, true))⟩,
  ⟨(some 33), .load false 1, [.t 32], (some (31, true))⟩,
  ⟨(some 34), .bin .geq, [.t 33, .c (.int .i64 0)], (some (31, true))⟩,
  ⟨(some 35), .pick, [.t 31, .t 34, .c (.bool false)], none⟩,
  ⟨(some 36), .mov, [.t 35], none⟩,
  ⟨(some 37), .faddr 3 1 false, [.t 1], (some (36, true))⟩,
  ⟨(some 38), .load false 1, [.t 37], (some (36, true))⟩,
  ⟨(some 39), .bin .leq, [.t 38, .c (.int .i64 1024)], (some (36, true))⟩,
  ⟨(some 40), .pick, [.t 36, .t 39, .c (.bool false)], none⟩,
  ⟨(some 41), .mov, [.t 40], none⟩,
  ⟨(some 42), .faddr 36 1 false, [.t 1], (some (41, true))⟩,
  ⟨(some 43), .load false 1, [.t 42], (some (41, true))⟩,
  ⟨(some 44), .bin .geq, [.t 43, .c (.int .i64 1)], (some (41, true))⟩,
  ⟨(some 45), .pick, [.t 41, .t 44, .c (.bool false)], none⟩,
  ⟨(some 46), .mov, [.t 45], none⟩,
  ⟨(some 47), .faddr 36 1 false, [.t 1], (some (46, true))⟩,
  ⟨(some 48), .load false 1, [.t 47], (some (46, true))⟩,
  ⟨(some 49), .bin .leq, [.t 48, .c (.int .i64 63)], (some (46, true))⟩,
  ⟨(some 50), .pick, [.t 46, .t 49, .c (.bool false)], none⟩,
  ⟨(some 2), .mov, [.t 50], none⟩]
def c_vote_Good_r1 : List COper := a_vote_Good_r1
instance : Reg c_vote_Good_r1 a_vote_Good_r1 49 := ⟨rfl, rfl⟩
@[simp] def c_vote_Good : CCode :=
  .seq (.region c_vote_Good_r0 none [1]) (.seq (.region c_vote_Good_r1 none [2]) (.ret))
@[simp] def R_vote_Good : List CRes := [.tmp 2]
theorem k_vote_Good : chkFn Tryd.prog fn_vote_Good c_vote_Good R_vote_Good 1 = true := by kernel_rfl
/-! wapentake/keys.Check -/
@[simp] def a_keys_Check_r0 : List COper := [
  ⟨(some 3), .box, [.t 0], none⟩,
  ⟨(some 4), .box, [.t 1], none⟩,
  ⟨(some 5), .box, [.t 2], none⟩,
  ⟨(some 6), .mov, [.c (.bool false)], none⟩]
def c_keys_Check_r0 : List COper := a_keys_Check_r0
instance : Reg c_keys_Check_r0 a_keys_Check_r0 4 := ⟨rfl, rfl⟩
@[simp] def a_keys_Check_r1 : List COper := [
  ⟨(some 10), .load true 32, [.t 4], none⟩,
  ⟨(some 11), .faddr 1 2 true, [.t 5], none⟩,
  ⟨(some 12), .load true 2, [.t 11], none⟩,
  ⟨(some 13), .call fn_once_Of, [.t 10, .t 12], none⟩,
  ⟨(some 9), .mov, [.t 13], none⟩,
  ⟨(some 14), .ext 0, [.t 9], none⟩,
  ⟨(some 15), .ext 1, [.t 9], none⟩,
  ⟨(some 7), .alloc (.arr 1 (rep 32 (.v (.int .u8 0)))), [], none⟩,
  ⟨none, .store true 32, [.t 7, .t 14], none⟩,
  ⟨(some 8), .mov, [.t 15], none⟩]
def c_keys_Check_r1 : List COper := a_keys_Check_r1
instance : Reg c_keys_Check_r1 a_keys_Check_r1 10 := ⟨rfl, rfl⟩
@[simp] def a_keys_Check_r2 : List COper := [
  ⟨(some 16), .mov, [.t 8], none⟩,
  ⟨(some 17), .mov, [.t 16], none⟩,
  ⟨(some 18), .faddr 32 1 false, [.t 3], (some (17, true))⟩,
  ⟨(some 19), .load false 1, [.t 18], (some (17, true))⟩,
  ⟨(some 20), .bin .geq, [.t 19, .c (.int .i64 0)], (some (17, true))⟩,
  ⟨(some 21), .pick, [.t 17, .t 20, .c (.bool false)], none⟩,
  ⟨(some 22), .mov, [.t 21], none⟩,
  ⟨(some 23), .faddr 32 1 false, [.t 3], (some (22, true))⟩,
  ⟨(some 24), .load false 1, [.t 23], (some (22, true))⟩,
  ⟨(some 25), .bin .leq, [.t 24, .c (.int .i64 6)], (some (22, true))⟩,
  ⟨(some 26), .pick, [.t 22, .t 25, .c (.bool false)], none⟩,
  ⟨(some 27), .mov, [.t 26], none⟩,
  ⟨(some 28), .faddr 0 32 true, [.t 3], (some (27, true))⟩,
  ⟨(some 29), .load true 32, [.t 28], (some (27, true))⟩,
  ⟨(some 30), .load true 32, [.t 7], (some (27, true))⟩,
  ⟨(some 31), .call fn_keys_leaf, [.t 30], (some (27, true))⟩,
  ⟨(some 32), .faddr 0 1 false, [.t 5], (some (27, true))⟩,
  ⟨(some 33), .load false 1, [.t 32], (some (27, true))⟩,
  ⟨(some 34), .faddr 32 1 false, [.t 3], (some (27, true))⟩,
  ⟨(some 35), .load false 1, [.t 34], (some (27, true))⟩,
  ⟨(some 36), .bin .shl, [.c (.int .i64 1), .t 35], (some (27, true))⟩,
  ⟨(some 37), .faddr 3 1 false, [.t 5], (some (27, true))⟩,
  ⟨(some 38), .load false 1, [.t 37], (some (27, true))⟩,
  ⟨(some 39), .call fn_tree_Check, [.t 29, .t 31, .t 33, .t 36, .t 38], (some (27, true))⟩,
  ⟨(some 40), .pick, [.t 27, .t 39, .c (.bool false)], none⟩,
  ⟨(some 6), .mov, [.t 40], none⟩]
def c_keys_Check_r2 : List COper := a_keys_Check_r2
instance : Reg c_keys_Check_r2 a_keys_Check_r2 26 := ⟨rfl, rfl⟩
@[simp] def c_keys_Check : CCode :=
  .seq (.region c_keys_Check_r0 none [3, 4, 5]) (.seq (.region c_keys_Check_r1 none [3, 5, 7, 8]) (.seq (.region c_keys_Check_r2 (some ([0, 1, 3, 7, 15, 31, 63, 127, 255, 511, 1023, 2047, 4095, 8191, 4095, 20479, 4095, 69631, 4095, 266239, 790527, 4095, 2101247, 8388607, 16777215, 33554431], [(13, 15), (15, 17), (15, 19), (15, 22)])) [6]) (.ret)))
@[simp] def R_keys_Check : List CRes := [.tmp 6]
theorem k_keys_Check : chkFn Tryd.prog fn_keys_Check c_keys_Check R_keys_Check 3 = true := by kernel_rfl
/-! wapentake/wapentakeref09.Good -/
@[simp] def a_r09_Good_r0 : List COper := [
  ⟨(some 1), .box, [.t 0], none⟩,
  ⟨(some 2), .mov, [.c (.bool false)], none⟩]
def c_r09_Good_r0 : List COper := a_r09_Good_r0
instance : Reg c_r09_Good_r0 a_r09_Good_r0 2 := ⟨rfl, rfl⟩
@[simp] def a_r09_Good_r1 : List COper := [
  ⟨(some 3), .faddr 0 1 false, [.t 1], none⟩,
  ⟨(some 4), .load false 1, [.t 3], none⟩,
  ⟨(some 5), .bin .lss, [.t 4, .c (.int .i64 1)], none⟩,
  ⟨(some 6), .mov, [.t 5], none⟩,
  ⟨(some 7), .faddr 0 1 false, [.t 1], (some (6, false))⟩,
  ⟨(some 8), .load false 1, [.t 7], (some (6, false))⟩,
  ⟨(some 9), .bin .gtr, [.t 8, .c (.int .i64 64)], (some (6, false))⟩,
  ⟨(some 10), .pick, [.t 6, .c (.bool true), .t 9], none⟩,
  ⟨(some 11), .mov, [.t 10], none⟩,
  ⟨(some 12), .faddr 1 1 false, [.t 1], (some (11, false))⟩,
  ⟨(some 13), .load false 1, [.t 12], (some (11, false))⟩,
  ⟨(some 14), .bin .lss, [.t 13, .c (.int .i64 1)], (some (11, false))⟩,
  ⟨(some 15), .pick, [.t 11, .c (.bool true), .t 14], none⟩,
  ⟨(some 16), .mov, [.t 15], none⟩,
  ⟨(some 17), .faddr 1 1 false, [.t 1], (some (16, false))⟩,
  ⟨(some 18), .load false 1, [.t 17], (some (16, false))⟩,
  ⟨(some 19), .bin .gtr, [.t 18, .c (.int .i64 1099511627776)], (some (16, false))⟩,
  ⟨(some 20), .pick, [.t 16, .c (.bool true), .t 19], none⟩,
  ⟨(some 21), .mov, [.t 20], none⟩,
  ⟨(some 22), .faddr 2 40 true, [.t 1], (some (21, false))⟩,
  ⟨(some 23), .faddr 0 1 false, [.t 22], (some (21, false))⟩,
  ⟨(some 24), .load false 1, [.t 23], (some (21, false))⟩,
  ⟨(some 25), .bin .lss, [.t 24, .c (.int .i64 1)], (some (21, false))⟩,
  ⟨(some 26), .pick, [.t 21, .c (.bool true), .t 25], none⟩,
  ⟨(some 27), .mov, [.t 26], none⟩,
  ⟨(some 28), .faddr 2 40 true, [.t 1], (some (27, false))⟩,
  ⟨(some 29), .faddr 0 1 false, [.t 28], (some (27, false))⟩,
  ⟨(some 30), .load false 1, [.t 29], (some (27, false))⟩,
  ⟨(some 31), .bin .gtr, [.t 30, .c (.int .i64 7)], (some (27, false))⟩,
  ⟨(some 32), .pick, [.t 27, .c (.bool true), .t 31], none⟩]
def c_r09_Good_r1 : List COper := a_r09_Good_r1
instance : Reg c_r09_Good_r1 a_r09_Good_r1 30 := ⟨rfl, rfl⟩
@[simp] def a_r09_Good_r2 : List COper := [
  ⟨(some 2), .mov, [.c (.bool false)], none⟩]
def c_r09_Good_r2 : List COper := a_r09_Good_r2
instance : Reg c_r09_Good_r2 a_r09_Good_r2 1 := ⟨rfl, rfl⟩
@[simp] def a_r09_Good_r3 : List COper := [
  ⟨(some 33), .faddr 2 40 true, [.t 1], none⟩,
  ⟨(some 34), .faddr 1 1 false, [.t 33], none⟩,
  ⟨(some 35), .load false 1, [.t 34], none⟩,
  ⟨(some 36), .lenS, [.t 35], none⟩,
  ⟨(some 37), .bin .leq, [.t 36, .c (.int .i64 1024)], none⟩,
  ⟨(some 38), .mov, [.t 37], none⟩,
  ⟨(some 39), .faddr 2 40 true, [.t 1], (some (38, true))⟩,
  ⟨(some 40), .faddr 2 1 false, [.t 39], (some (38, true))⟩,
  ⟨(some 41), .load false 1, [.t 40], (some (38, true))⟩,
  ⟨(some 42), .lenS, [.t 41], (some (38, true))⟩,
  ⟨(some 43), .bin .leq, [.t 42, .c (.int .i64 1024)], (some (38, true))⟩,
  ⟨(some 44), .pick, [.t 38, .t 43, .c (.bool false)], none⟩,
  ⟨(some 45), .mov, [.t 44], none⟩,
  ⟨(some 46), .faddr 2 40 true, [.t 1], (some (45, true))⟩,
  ⟨(some 47), .faddr 3 1 false, [.t 46], (some (45, true))⟩,
  ⟨(some 48), .load false 1, [.t 47], (some (45, true))⟩,
  ⟨(some 49), .lenS, [.t 48], (some (45, true))⟩,
  ⟨(some 50), .bin .leq, [.t 49, .c (.int .i64 1024)], (some (45, true))⟩,
  ⟨(some 51), .pick, [.t 45, .t 50, .c (.bool false)], none⟩,
  ⟨(some 2), .mov, [.t 51], none⟩]
def c_r09_Good_r3 : List COper := a_r09_Good_r3
instance : Reg c_r09_Good_r3 a_r09_Good_r3 20 := ⟨rfl, rfl⟩
@[simp] def c_r09_Good : CCode :=
  .seq (.region c_r09_Good_r0 none [1]) (.seq (.seq (.region c_r09_Good_r1 none [1, 32]) (.cond (.t 32) (.seq (.region c_r09_Good_r2 none [2]) (.ret)) (.skip))) (.seq (.region c_r09_Good_r3 none [2]) (.ret)))
@[simp] def R_r09_Good : List CRes := [.tmp 2]
theorem k_r09_Good : chkFn Tryd.prog fn_r09_Good c_r09_Good R_r09_Good 1 = true := by kernel_rfl
/-! wapentake/wapentakeref08.Place -/
@[simp] def a_r08_Place_r0 : List COper := [
  ⟨(some 2), .box, [.t 0], none⟩,
  ⟨(some 4), .mov, [.c (.int .i64 0)], none⟩]
def c_r08_Place_r0 : List COper := a_r08_Place_r0
instance : Reg c_r08_Place_r0 a_r08_Place_r0 2 := ⟨rfl, rfl⟩
@[simp] def a_r08_Place_r1 : List COper := [
  ⟨(some 7), .faddr 1 1 false, [.t 2], none⟩,
  ⟨(some 8), .load false 1, [.t 7], none⟩,
  ⟨(some 9), .len, [.t 8], none⟩,
  ⟨(some 10), .mov, [.c (.int .i64 0)], none⟩]
def c_r08_Place_r1 : List COper := a_r08_Place_r1
instance : Reg c_r08_Place_r1 a_r08_Place_r1 4 := ⟨rfl, rfl⟩
@[simp] def a_r08_Place_r2 : List COper := [
  ⟨(some 11), .bin .lss, [.t 10, .t 9], none⟩]
def c_r08_Place_r2 : List COper := a_r08_Place_r2
instance : Reg c_r08_Place_r2 a_r08_Place_r2 1 := ⟨rfl, rfl⟩
@[simp] def a_r08_Place_r3 : List COper := [
  ⟨(some 12), .mov, [.t 10], none⟩,
  ⟨(some 13), .iaddr 34, [.t 8, .t 10], none⟩,
  ⟨(some 14), .load true 34, [.t 13], none⟩,
  ⟨(some 6), .alloc (.node [.v (.int .i64 0), .node [.arr 1 (rep 32 (.v (.int .u8 0))), .v (.int .i64 0)]]), [], none⟩,
  ⟨(some 5), .mov, [.t 12], none⟩,
  ⟨none, .store true 34, [.t 6, .t 14], none⟩]
def c_r08_Place_r3 : List COper := a_r08_Place_r3
instance : Reg c_r08_Place_r3 a_r08_Place_r3 6 := ⟨rfl, rfl⟩
@[simp] def a_r08_Place_r4 : List COper := [
  ⟨(some 15), .faddr 0 1 false, [.t 6], none⟩,
  ⟨(some 16), .load false 1, [.t 15], none⟩,
  ⟨(some 17), .mov, [.t 1], none⟩,
  ⟨(some 18), .bin .eql, [.t 16, .t 17], none⟩]
def c_r08_Place_r4 : List COper := a_r08_Place_r4
instance : Reg c_r08_Place_r4 a_r08_Place_r4 4 := ⟨rfl, rfl⟩
@[simp] def a_r08_Place_r5 : List COper := [
  ⟨(some 19), .mov, [.t 5], none⟩,
  ⟨(some 4), .mov, [.t 19], none⟩]
def c_r08_Place_r5 : List COper := a_r08_Place_r5
instance : Reg c_r08_Place_r5 a_r08_Place_r5 2 := ⟨rfl, rfl⟩
@[simp] def a_r08_Place_r6 : List COper := [
  ⟨(some 20), .bin .add, [.t 10, .c (.int .i64 1)], none⟩,
  ⟨(some 10), .mov, [.t 20], none⟩]
def c_r08_Place_r6 : List COper := a_r08_Place_r6
instance : Reg c_r08_Place_r6 a_r08_Place_r6 2 := ⟨rfl, rfl⟩
@[simp] def a_r08_Place_r7 : List COper := [
  ⟨(some 4), .mov, [.c (.int .i64 (-1))], none⟩]
def c_r08_Place_r7 : List COper := a_r08_Place_r7
instance : Reg c_r08_Place_r7 a_r08_Place_r7 1 := ⟨rfl, rfl⟩
@[simp] def c_r08_Place : CCode :=
  .seq (.region c_r08_Place_r0 none [1, 2]) (.seq (.seq (.region c_r08_Place_r1 none [1, 8, 9, 10]) (.block 0 (.loop (.seq (.region c_r08_Place_r2 none [1, 8, 9, 10, 11]) (.seq (.cond (.t 11) (.skip) (.exit 0)) (.seq (.block 1 (.seq (.region c_r08_Place_r3 none [1, 5, 6, 8, 9, 10]) (.seq (.region c_r08_Place_r4 none [1, 5, 8, 9, 10, 18]) (.cond (.t 18) (.seq (.region c_r08_Place_r5 none [4]) (.ret)) (.skip))))) (.region c_r08_Place_r6 none [1, 8, 9, 10]))))))) (.seq (.region c_r08_Place_r7 none [4]) (.ret)))
@[simp] def R_r08_Place : List CRes := [.tmp 4]
theorem k_r08_Place : chkFn Tryd.prog fn_r08_Place c_r08_Place R_r08_Place 2 = true := by kernel_rfl
/-! wapentake/wapentakeref13.Good -/
@[simp] def a_r13_Good_r0 : List COper := [
  ⟨(some 1), .box, [.t 0], none⟩,
  ⟨(some 2), .mov, [.c (.bool false)], none⟩]
def c_r13_Good_r0 : List COper := a_r13_Good_r0
instance : Reg c_r13_Good_r0 a_r13_Good_r0 2 := ⟨rfl, rfl⟩
@[simp] def a_r13_Good_r1 : List COper := [
  ⟨(some 3), .faddr 0 1 false, [.t 1], none⟩,
  ⟨(some 4), .load false 1, [.t 3], none⟩,
  ⟨(some 5), .bin .neq, [.t 4, .c (.int .i64 1)], none⟩,
  ⟨(some 6), .mov, [.t 5], none⟩,
  ⟨(some 7), .faddr 0 1 false, [.t 1], (some (6, true))⟩,
  ⟨(some 8), .load false 1, [.t 7], (some (6, true))⟩,
  ⟨(some 9), .bin .neq, [.t 8, .c (.int .i64 2)], (some (6, true))⟩,
  ⟨(some 10), .pick, [.t 6, .t 9, .c (.bool false)], none⟩,
  ⟨(some 11), .mov, [.t 10], none⟩,
  ⟨(some 12), .faddr 1 1 false, [.t 1], (some (11, false))⟩,
  ⟨(some 13), .load false 1, [.t 12], (some (11, false))⟩,
  ⟨(some 14), .bin .lss, [.t 13, .c (.int .i64 0)], (some (11, false))⟩,
  ⟨(some 15), .pick, [.t 11, .c (.bool true), .t 14], none⟩,
  ⟨(some 16), .mov, [.t 15], none⟩,
  ⟨(some 17), .faddr 1 1 false, [.t 1], (some (16, false))⟩,
  ⟨(some 18), .load false 1, [.t 17], (some (16, false))⟩,
  ⟨(some 19), .bin .gtr, [.t 18, .c (.int .i64 1073741824)], (some (16, false))⟩,
  ⟨(some 20), .pick, [.t 16, .c (.bool true), .t 19], none⟩,
  ⟨(some 21), .mov, [.t 20], none⟩,
  ⟨(some 22), .faddr 2 1 false, [.t 1], (some (21, false))⟩,
  ⟨(some 23), .load false 1, [.t 22], (some (21, false))⟩,
  ⟨(some 24), .bin .lss, [.t 23, .c (.int .i64 1)], (some (21, false))⟩,
  ⟨(some 25), .pick, [.t 21, .c (.bool true), .t 24], none⟩,
  ⟨(some 26), .mov, [.t 25], none⟩,
  ⟨(some 27), .faddr 2 1 false, [.t 1], (some (26, false))⟩,
  ⟨(some 28), .load false 1, [.t 27], (some (26, false))⟩,
  ⟨(some 29), .bin .gtr, [.t 28, .c (.int .i64 1024)], (some (26, false))⟩,
  ⟨(some 30), .pick, [.t 26, .c (.bool true), .t 29], none⟩]
def c_r13_Good_r1 : List COper := a_r13_Good_r1
instance : Reg c_r13_Good_r1 a_r13_Good_r1 28 := ⟨rfl, rfl⟩
@[simp] def a_r13_Good_r2 : List COper := [
  ⟨(some 2), .mov, [.c (.bool false)], none⟩]
def c_r13_Good_r2 : List COper := a_r13_Good_r2
instance : Reg c_r13_Good_r2 a_r13_Good_r2 1 := ⟨rfl, rfl⟩
@[simp] def a_r13_Good_r3 : List COper := [
  ⟨(some 31), .faddr 3 1 false, [.t 1], none⟩,
  ⟨(some 32), .load false 1, [.t 31], none⟩,
  ⟨(some 33), .bin .geq, [.t 32, .c (.int .i64 0)], none⟩,
  ⟨(some 34), .mov, [.t 33], none⟩,
  ⟨(some 35), .faddr 3 1 false, [.t 1], (some (34, true))⟩,
  ⟨(some 36), .load false 1, [.t 35], (some (34, true))⟩,
  ⟨(some 37), .bin .leq, [.t 36, .c (.int .i64 1024)], (some (34, true))⟩,
  ⟨(some 38), .pick, [.t 34, .t 37, .c (.bool false)], none⟩,
  ⟨(some 39), .mov, [.t 38], none⟩,
  ⟨(some 40), .faddr 36 1 false, [.t 1], (some (39, true))⟩,
  ⟨(some 41), .load false 1, [.t 40], (some (39, true))⟩,
  ⟨(some 42), .bin .geq, [.t 41, .c (.int .i64 1)], (some (39, true))⟩,
  ⟨(some 43), .pick, [.t 39, .t 42, .c (.bool false)], none⟩,
  ⟨(some 44), .mov, [.t 43], none⟩,
  ⟨(some 45), .faddr 36 1 false, [.t 1], (some (44, true))⟩,
  ⟨(some 46), .load false 1, [.t 45], (some (44, true))⟩,
  ⟨(some 47), .bin .leq, [.t 46, .c (.int .i64 63)], (some (44, true))⟩,
  ⟨(some 48), .pick, [.t 44, .t 47, .c (.bool false)], none⟩,
  ⟨(some 2), .mov, [.t 48], none⟩]
def c_r13_Good_r3 : List COper := a_r13_Good_r3
instance : Reg c_r13_Good_r3 a_r13_Good_r3 19 := ⟨rfl, rfl⟩
@[simp] def c_r13_Good : CCode :=
  .seq (.region c_r13_Good_r0 none [1]) (.seq (.seq (.region c_r13_Good_r1 none [1, 30]) (.cond (.t 30) (.seq (.region c_r13_Good_r2 none [2]) (.ret)) (.skip))) (.seq (.region c_r13_Good_r3 none [2]) (.ret)))
@[simp] def R_r13_Good : List CRes := [.tmp 2]
theorem k_r13_Good : chkFn Tryd.prog fn_r13_Good c_r13_Good R_r13_Good 1 = true := by kernel_rfl
/-! wapentake/wapentakeref05.Check -/
@[simp] def a_r05_Check_r0 : List COper := [
  ⟨(some 3), .box, [.t 0], none⟩,
  ⟨(some 4), .box, [.t 1], none⟩,
  ⟨(some 5), .box, [.t 2], none⟩,
  ⟨(some 6), .mov, [.c (.bool false)], none⟩]
def c_r05_Check_r0 : List COper := a_r05_Check_r0
instance : Reg c_r05_Check_r0 a_r05_Check_r0 4 := ⟨rfl, rfl⟩
@[simp] def a_r05_Check_r1 : List COper := [
  ⟨(some 11), .load true 32, [.t 4], none⟩,
  ⟨(some 12), .faddr 1 2 true, [.t 5], none⟩,
  ⟨(some 13), .load true 2, [.t 12], none⟩,
  ⟨(some 14), .call fn_r04_Of, [.t 11, .t 13], none⟩,
  ⟨(some 10), .mov, [.t 14], none⟩,
  ⟨(some 15), .ext 0, [.t 10], none⟩,
  ⟨(some 16), .ext 1, [.t 10], none⟩,
  ⟨(some 7), .alloc (.arr 1 (rep 32 (.v (.int .u8 0)))), [], none⟩,
  ⟨none, .store true 32, [.t 7, .t 15], none⟩,
  ⟨(some 8), .mov, [.t 16], none⟩]
def c_r05_Check_r1 : List COper := a_r05_Check_r1
instance : Reg c_r05_Check_r1 a_r05_Check_r1 10 := ⟨rfl, rfl⟩
@[simp] def a_r05_Check_r2 : List COper := [
  ⟨(some 17), .mov, [.t 8], none⟩,
  ⟨(some 18), .not, [.t 17], none⟩,
  ⟨(some 19), .mov, [.t 18], none⟩,
  ⟨(some 20), .faddr 32 1 false, [.t 3], (some (19, false))⟩,
  ⟨(some 21), .load false 1, [.t 20], (some (19, false))⟩,
  ⟨(some 22), .bin .lss, [.t 21, .c (.int .i64 0)], (some (19, false))⟩,
  ⟨(some 23), .pick, [.t 19, .c (.bool true), .t 22], none⟩,
  ⟨(some 24), .mov, [.t 23], none⟩,
  ⟨(some 25), .faddr 32 1 false, [.t 3], (some (24, false))⟩,
  ⟨(some 26), .load false 1, [.t 25], (some (24, false))⟩,
  ⟨(some 27), .bin .gtr, [.t 26, .c (.int .i64 6)], (some (24, false))⟩,
  ⟨(some 28), .pick, [.t 24, .c (.bool true), .t 27], none⟩,
  ⟨(some 29), .mov, [.t 28], none⟩,
  ⟨(some 30), .faddr 0 1 false, [.t 5], (some (29, false))⟩,
  ⟨(some 31), .load false 1, [.t 30], (some (29, false))⟩,
  ⟨(some 32), .bin .lss, [.t 31, .c (.int .i64 0)], (some (29, false))⟩,
  ⟨(some 33), .pick, [.t 29, .c (.bool true), .t 32], none⟩]
def c_r05_Check_r2 : List COper := a_r05_Check_r2
instance : Reg c_r05_Check_r2 a_r05_Check_r2 17 := ⟨rfl, rfl⟩
@[simp] def a_r05_Check_r3 : List COper := [
  ⟨(some 6), .mov, [.c (.bool false)], none⟩]
def c_r05_Check_r3 : List COper := a_r05_Check_r3
instance : Reg c_r05_Check_r3 a_r05_Check_r3 1 := ⟨rfl, rfl⟩
@[simp] def a_r05_Check_r4 : List COper := [
  ⟨(some 34), .faddr 32 1 false, [.t 3], none⟩,
  ⟨(some 35), .load false 1, [.t 34], none⟩,
  ⟨(some 36), .convI .u64, [.t 35], none⟩,
  ⟨(some 37), .bin .shl, [.c (.int .i64 1), .t 36], none⟩,
  ⟨(some 9), .mov, [.t 37], none⟩]
def c_r05_Check_r4 : List COper := a_r05_Check_r4
instance : Reg c_r05_Check_r4 a_r05_Check_r4 5 := ⟨rfl, rfl⟩
@[simp] def a_r05_Check_r5 : List COper := [
  ⟨(some 38), .faddr 0 1 false, [.t 5], none⟩,
  ⟨(some 39), .load false 1, [.t 38], none⟩,
  ⟨(some 40), .mov, [.t 9], none⟩,
  ⟨(some 41), .bin .geq, [.t 39, .t 40], none⟩]
def c_r05_Check_r5 : List COper := a_r05_Check_r5
instance : Reg c_r05_Check_r5 a_r05_Check_r5 4 := ⟨rfl, rfl⟩
@[simp] def a_r05_Check_r6 : List COper := [
  ⟨(some 6), .mov, [.c (.bool false)], none⟩]
def c_r05_Check_r6 : List COper := a_r05_Check_r6
instance : Reg c_r05_Check_r6 a_r05_Check_r6 1 := ⟨rfl, rfl⟩
@[simp] def a_r05_Check_r7 : List COper := [
  ⟨(some 42), .faddr 0 32 true, [.t 3], none⟩,
  ⟨(some 43), .load true 32, [.t 42], none⟩,
  ⟨(some 44), .load true 32, [.t 7], none⟩,
  ⟨(some 45), .call fn_r01_Digest, [.t 44], none⟩,
  ⟨(some 46), .call fn_r03_Leaf, [.t 45], none⟩,
  ⟨(some 47), .faddr 0 1 false, [.t 5], none⟩,
  ⟨(some 48), .load false 1, [.t 47], none⟩,
  ⟨(some 49), .mov, [.t 9], none⟩,
  ⟨(some 50), .faddr 3 1 false, [.t 5], none⟩,
  ⟨(some 51), .load false 1, [.t 50], none⟩,
  ⟨(some 52), .call fn_r03_Check, [.t 43, .t 46, .t 48, .t 49, .t 51], none⟩,
  ⟨(some 6), .mov, [.t 52], none⟩]
def c_r05_Check_r7 : List COper := a_r05_Check_r7
instance : Reg c_r05_Check_r7 a_r05_Check_r7 12 := ⟨rfl, rfl⟩
@[simp] def c_r05_Check : CCode :=
  .seq (.region c_r05_Check_r0 none [3, 4, 5]) (.seq (.region c_r05_Check_r1 none [3, 5, 7, 8]) (.seq (.seq (.region c_r05_Check_r2 none [3, 5, 7, 33]) (.cond (.t 33) (.seq (.region c_r05_Check_r3 none [6]) (.ret)) (.skip))) (.seq (.region c_r05_Check_r4 none [3, 5, 7, 9]) (.seq (.seq (.region c_r05_Check_r5 none [3, 5, 7, 9, 41]) (.cond (.t 41) (.seq (.region c_r05_Check_r6 none [6]) (.ret)) (.skip))) (.seq (.region c_r05_Check_r7 (some ([0, 1, 0, 4, 12, 0, 32, 0, 0, 256, 1023, 2047], [(1, 3), (1, 4), (3, 6), (4, 6), (3, 9), (4, 9)])) [6]) (.ret))))))
@[simp] def R_r05_Check : List CRes := [.tmp 6]
theorem k_r05_Check : chkFn Tryd.prog fn_r05_Check c_r05_Check R_r05_Check 3 = true := by kernel_rfl
/-! wapentake/wapentakeref13.Signs -/
@[simp] def a_r13_Signs_r0 : List COper := [
  ⟨(some 1), .box, [.t 0], none⟩,
  ⟨(some 2), .alloc (.arr 1 (rep 32 (.v (.int .u8 0)))), [], none⟩]
def c_r13_Signs_r0 : List COper := a_r13_Signs_r0
instance : Reg c_r13_Signs_r0 a_r13_Signs_r0 2 := ⟨rfl, rfl⟩
@[simp] def a_r13_Signs_r1 : List COper := [
  ⟨(some 3), .load true 41, [.t 1], none⟩,
  ⟨(some 4), .call fn_r13_Head, [.t 3], none⟩,
  ⟨(some 5), .bin .add, [.c (.string (mkS [118, 111, 116, 101])), .t 4], none⟩,
  ⟨(some 6), .call fn_r02_Text, [.t 5], none⟩,
  ⟨none, .store true 32, [.t 2, .t 6], none⟩]
def c_r13_Signs_r1 : List COper := a_r13_Signs_r1
instance : Reg c_r13_Signs_r1 a_r13_Signs_r1 5 := ⟨rfl, rfl⟩
@[simp] def c_r13_Signs : CCode :=
  .seq (.region c_r13_Signs_r0 none [1, 2]) (.seq (.region c_r13_Signs_r1 none [2]) (.ret))
@[simp] def R_r13_Signs : List CRes := [.cell 2 true 32]
theorem k_r13_Signs : chkFn Tryd.prog fn_r13_Signs c_r13_Signs R_r13_Signs 1 = true := by kernel_rfl
/-! wapentake/wapentakeref13.Head -/
@[simp] def a_r13_Head_r0 : List COper := [
  ⟨(some 1), .box, [.t 0], none⟩,
  ⟨(some 2), .mov, [.c (.string (mkS []))], none⟩]
def c_r13_Head_r0 : List COper := a_r13_Head_r0
instance : Reg c_r13_Head_r0 a_r13_Head_r0 2 := ⟨rfl, rfl⟩
@[simp] def a_r13_Head_r1 : List COper := [
  ⟨(some 3), .mov, [.c (.string (mkS []))], none⟩]
def c_r13_Head_r1 : List COper := a_r13_Head_r1
instance : Reg c_r13_Head_r1 a_r13_Head_r1 1 := ⟨rfl, rfl⟩
@[simp] def a_r13_Head_r2 : List COper := [
  ⟨(some 6), .faddr 0 1 false, [.t 1], none⟩,
  ⟨(some 7), .load false 1, [.t 6], none⟩,
  ⟨(some 8), .faddr 1 1 false, [.t 1], none⟩,
  ⟨(some 9), .load false 1, [.t 8], none⟩,
  ⟨(some 10), .faddr 2 1 false, [.t 1], none⟩,
  ⟨(some 11), .load false 1, [.t 10], none⟩,
  ⟨(some 12), .faddr 3 1 false, [.t 1], none⟩,
  ⟨(some 13), .load false 1, [.t 12], none⟩,
  ⟨(some 14), .faddr 36 1 false, [.t 1], none⟩,
  ⟨(some 15), .load false 1, [.t 14], none⟩,
  ⟨(some 16), .buildA 1 (rep 5 (.v (.int .i64 0))) (upTo 5), [.t 7, .t 9, .t 11, .t 13, .t 15], none⟩,
  ⟨(some 17), .mov, [.c (.int .i64 0)], none⟩]
def c_r13_Head_r2 : List COper := a_r13_Head_r2
instance : Reg c_r13_Head_r2 a_r13_Head_r2 12 := ⟨rfl, rfl⟩
@[simp] def a_r13_Head_r3 : List COper := [
  ⟨(some 18), .bin .lss, [.t 17, .c (.int .i64 5)], none⟩]
def c_r13_Head_r3 : List COper := a_r13_Head_r3
instance : Reg c_r13_Head_r3 a_r13_Head_r3 1 := ⟨rfl, rfl⟩
@[simp] def a_r13_Head_r4 : List COper := [
  ⟨(some 19), .idx false 5 1, [.t 16, .t 17], none⟩,
  ⟨(some 5), .mov, [.t 19], none⟩]
def c_r13_Head_r4 : List COper := a_r13_Head_r4
instance : Reg c_r13_Head_r4 a_r13_Head_r4 2 := ⟨rfl, rfl⟩
@[simp] def a_r13_Head_r5 : List COper := [
  ⟨(some 20), .mov, [.t 3], none⟩,
  ⟨(some 21), .mov, [.t 5], none⟩,
  ⟨(some 22), .call fn_r01_Num, [.t 21], none⟩,
  ⟨(some 23), .bin .add, [.t 20, .t 22], none⟩,
  ⟨(some 3), .mov, [.t 23], none⟩]
def c_r13_Head_r5 : List COper := a_r13_Head_r5
instance : Reg c_r13_Head_r5 a_r13_Head_r5 5 := ⟨rfl, rfl⟩
@[simp] def a_r13_Head_r6 : List COper := [
  ⟨(some 24), .bin .add, [.t 17, .c (.int .i64 1)], none⟩,
  ⟨(some 17), .mov, [.t 24], none⟩]
def c_r13_Head_r6 : List COper := a_r13_Head_r6
instance : Reg c_r13_Head_r6 a_r13_Head_r6 2 := ⟨rfl, rfl⟩
@[simp] def a_r13_Head_r7 : List COper := [
  ⟨(some 25), .mov, [.t 3], none⟩,
  ⟨(some 26), .faddr 4 32 true, [.t 1], none⟩,
  ⟨(some 27), .load true 32, [.t 26], none⟩,
  ⟨(some 28), .call fn_r01_Digest, [.t 27], none⟩,
  ⟨(some 29), .bin .add, [.t 25, .t 28], none⟩,
  ⟨(some 2), .mov, [.t 29], none⟩]
def c_r13_Head_r7 : List COper := a_r13_Head_r7
instance : Reg c_r13_Head_r7 a_r13_Head_r7 6 := ⟨rfl, rfl⟩
@[simp] def c_r13_Head : CCode :=
  .seq (.region c_r13_Head_r0 none [1]) (.seq (.region c_r13_Head_r1 none [1, 3]) (.seq (.seq (.region c_r13_Head_r2 none [1, 3, 16, 17]) (.block 0 (.loop (.seq (.region c_r13_Head_r3 none [1, 3, 16, 17, 18]) (.seq (.cond (.t 18) (.skip) (.exit 0)) (.seq (.block 1 (.seq (.region c_r13_Head_r4 none [1, 3, 5, 16, 17]) (.region c_r13_Head_r5 none [1, 3, 16, 17]))) (.region c_r13_Head_r6 none [1, 3, 16, 17]))))))) (.seq (.region c_r13_Head_r7 none [2]) (.ret))))
@[simp] def R_r13_Head : List CRes := [.tmp 2]
theorem k_r13_Head : chkFn Tryd.prog fn_r13_Head c_r13_Head R_r13_Head 1 = true := by kernel_rfl
/-! (*wapentake/code.Writer).Digest -/
@[simp] def a_code_Writer_Digest_r0 : List COper := [
  ⟨(some 6), .mov, [.t 0], none⟩,
  ⟨(some 7), .eqp false, [.t 6, .c (.pointer none)], none⟩]
def c_code_Writer_Digest_r0 : List COper := a_code_Writer_Digest_r0
instance : Reg c_code_Writer_Digest_r0 a_code_Writer_Digest_r0 2 := ⟨rfl, rfl⟩
@[simp] def a_code_Writer_Digest_r1 : List COper := [
  ⟨(some 8), .mov, [.t 1], none⟩,
  ⟨(some 9), .len, [.t 8], none⟩,
  ⟨(some 10), .mov, [.c (.int .i64 0)], none⟩]
def c_code_Writer_Digest_r1 : List COper := a_code_Writer_Digest_r1
instance : Reg c_code_Writer_Digest_r1 a_code_Writer_Digest_r1 3 := ⟨rfl, rfl⟩
@[simp] def a_code_Writer_Digest_r2 : List COper := [
  ⟨(some 11), .bin .lss, [.t 10, .t 9], none⟩]
def c_code_Writer_Digest_r2 : List COper := a_code_Writer_Digest_r2
instance : Reg c_code_Writer_Digest_r2 a_code_Writer_Digest_r2 1 := ⟨rfl, rfl⟩
@[simp] def a_code_Writer_Digest_r3 : List COper := [
  ⟨(some 12), .iaddr 32, [.t 8, .t 10], none⟩,
  ⟨(some 13), .load true 32, [.t 12], none⟩,
  ⟨(some 5), .alloc (.arr 1 (rep 32 (.v (.int .u8 0)))), [], none⟩,
  ⟨none, .store true 32, [.t 5, .t 13], none⟩]
def c_code_Writer_Digest_r3 : List COper := a_code_Writer_Digest_r3
instance : Reg c_code_Writer_Digest_r3 a_code_Writer_Digest_r3 4 := ⟨rfl, rfl⟩
@[simp] def a_code_Writer_Digest_r4 : List COper := [
  ⟨(some 14), .mov, [.t 0], none⟩,
  ⟨(some 15), .mov, [.t 0], none⟩,
  ⟨(some 16), .nilc, [.t 15], none⟩,
  ⟨(some 17), .faddr 0 1 false, [.t 16], none⟩,
  ⟨(some 18), .load false 1, [.t 17], none⟩,
  ⟨(some 19), .sliceArr 32 1 false false, [.t 5], none⟩,
  ⟨(some 20), .app 1 1, [.t 18, .t 19], none⟩,
  ⟨(some 21), .nilc, [.t 14], none⟩,
  ⟨(some 22), .faddr 0 1 false, [.t 21], none⟩,
  ⟨none, .store false 1, [.t 22, .t 20], none⟩]
def c_code_Writer_Digest_r4 : List COper := a_code_Writer_Digest_r4
instance : Reg c_code_Writer_Digest_r4 a_code_Writer_Digest_r4 10 := ⟨rfl, rfl⟩
@[simp] def a_code_Writer_Digest_r5 : List COper := [
  ⟨(some 23), .bin .add, [.t 10, .c (.int .i64 1)], none⟩,
  ⟨(some 10), .mov, [.t 23], none⟩]
def c_code_Writer_Digest_r5 : List COper := a_code_Writer_Digest_r5
instance : Reg c_code_Writer_Digest_r5 a_code_Writer_Digest_r5 2 := ⟨rfl, rfl⟩
@[simp] def c_code_Writer_Digest : CCode :=
  .seq (.seq (.region c_code_Writer_Digest_r0 none [0, 1, 7]) (.cond (.t 7) (.ret) (.skip))) (.seq (.region c_code_Writer_Digest_r1 none [0, 8, 9, 10]) (.block 0 (.loop (.seq (.region c_code_Writer_Digest_r2 none [0, 8, 9, 10, 11]) (.seq (.cond (.t 11) (.skip) (.exit 0)) (.seq (.block 1 (.seq (.region c_code_Writer_Digest_r3 none [0, 5, 8, 9, 10]) (.region c_code_Writer_Digest_r4 (some ([0, 0, 2, 6, 14, 0, 62, 127, 255, 511], [])) [0, 8, 9, 10]))) (.region c_code_Writer_Digest_r5 none [0, 8, 9, 10])))))))
@[simp] def R_code_Writer_Digest : List CRes := []
theorem k_code_Writer_Digest : chkFn Tryd.prog fn_code_Writer_Digest c_code_Writer_Digest R_code_Writer_Digest 2 = true := by kernel_rfl
/-! wapentake/request.Write -/
@[simp] def a_request_Write_r0 : List COper := [
  ⟨(some 3), .box, [.t 1], none⟩]
def c_request_Write_r0 : List COper := a_request_Write_r0
instance : Reg c_request_Write_r0 a_request_Write_r0 1 := ⟨rfl, rfl⟩
@[simp] def a_request_Write_r1 : List COper := [
  ⟨(some 5), .faddr 2 40 true, [.t 3], none⟩,
  ⟨(some 6), .faddr 4 36 true, [.t 5], none⟩,
  ⟨(some 7), .load true 36, [.t 6], none⟩,
  ⟨(some 4), .alloc (.node [.v (.int .i64 0), .v (.int .i64 0), .v (.int .i64 0), .node [.arr 1 (rep 32 (.v (.int .u8 0))), .v (.int .i64 0)]]), [], none⟩,
  ⟨none, .store true 36, [.t 4, .t 7], none⟩]
def c_request_Write_r1 : List COper := a_request_Write_r1
instance : Reg c_request_Write_r1 a_request_Write_r1 5 := ⟨rfl, rfl⟩
@[simp] def a_request_Write_r2 : List COper := [
  ⟨(some 8), .mov, [.t 0], none⟩,
  ⟨(some 9), .faddr 0 1 false, [.t 3], none⟩,
  ⟨(some 10), .load false 1, [.t 9], none⟩,
  ⟨(some 11), .faddr 1 1 false, [.t 3], none⟩,
  ⟨(some 12), .load false 1, [.t 11], none⟩,
  ⟨(some 13), .faddr 2 40 true, [.t 3], none⟩,
  ⟨(some 14), .faddr 0 1 false, [.t 13], none⟩,
  ⟨(some 15), .load false 1, [.t 14], none⟩,
  ⟨(some 16), .bslice 1 3 (.v (.int .i64 0)) [0, 1, 2], [.t 10, .t 12, .t 15], none⟩,
  ⟨(some 17), .call fn_code_Writer_Num, [.t 8, .t 16], none⟩]
def c_request_Write_r2 : List COper := a_request_Write_r2
instance : Reg c_request_Write_r2 a_request_Write_r2 10 := ⟨rfl, rfl⟩
@[simp] def a_request_Write_r3 : List COper := [
  ⟨(some 18), .mov, [.t 0], none⟩,
  ⟨(some 19), .faddr 2 40 true, [.t 3], none⟩,
  ⟨(some 20), .faddr 1 1 false, [.t 19], none⟩,
  ⟨(some 21), .load false 1, [.t 20], none⟩,
  ⟨(some 22), .faddr 2 40 true, [.t 3], none⟩,
  ⟨(some 23), .faddr 2 1 false, [.t 22], none⟩,
  ⟨(some 24), .load false 1, [.t 23], none⟩,
  ⟨(some 25), .faddr 2 40 true, [.t 3], none⟩,
  ⟨(some 26), .faddr 3 1 false, [.t 25], none⟩,
  ⟨(some 27), .load false 1, [.t 26], none⟩,
  ⟨(some 28), .bslice 1 3 (.v (.string (mkS []))) [0, 1, 2], [.t 21, .t 24, .t 27], none⟩,
  ⟨(some 29), .call fn_code_Writer_Text, [.t 18, .t 28], none⟩]
def c_request_Write_r3 : List COper := a_request_Write_r3
instance : Reg c_request_Write_r3 a_request_Write_r3 12 := ⟨rfl, rfl⟩
@[simp] def a_request_Write_r4 : List COper := [
  ⟨(some 30), .mov, [.t 0], none⟩,
  ⟨(some 31), .faddr 0 1 false, [.t 4], none⟩,
  ⟨(some 32), .load false 1, [.t 31], none⟩,
  ⟨(some 33), .faddr 1 1 false, [.t 4], none⟩,
  ⟨(some 34), .load false 1, [.t 33], none⟩,
  ⟨(some 35), .faddr 2 1 false, [.t 4], none⟩,
  ⟨(some 36), .load false 1, [.t 35], none⟩,
  ⟨(some 37), .faddr 3 33 true, [.t 4], none⟩,
  ⟨(some 38), .faddr 32 1 false, [.t 37], none⟩,
  ⟨(some 39), .load false 1, [.t 38], none⟩,
  ⟨(some 40), .bslice 1 4 (.v (.int .i64 0)) [0, 1, 2, 3], [.t 32, .t 34, .t 36, .t 39], none⟩,
  ⟨(some 41), .call fn_code_Writer_Num, [.t 30, .t 40], none⟩]
def c_request_Write_r4 : List COper := a_request_Write_r4
instance : Reg c_request_Write_r4 a_request_Write_r4 12 := ⟨rfl, rfl⟩
@[simp] def a_request_Write_r5 : List COper := [
  ⟨(some 42), .mov, [.t 0], none⟩,
  ⟨(some 43), .faddr 3 33 true, [.t 4], none⟩,
  ⟨(some 44), .faddr 0 32 true, [.t 43], none⟩,
  ⟨(some 45), .load true 32, [.t 44], none⟩,
  ⟨(some 46), .bslice 32 1 (.arr 1 (rep 32 (.v (.int .u8 0)))) [0], [.t 45], none⟩,
  ⟨(some 47), .call fn_code_Writer_Digest, [.t 42, .t 46], none⟩]
def c_request_Write_r5 : List COper := a_request_Write_r5
instance : Reg c_request_Write_r5 a_request_Write_r5 6 := ⟨rfl, rfl⟩
@[simp] def c_request_Write : CCode :=
  .seq (.region c_request_Write_r0 none [0, 3]) (.seq (.region c_request_Write_r1 none [0, 3, 4]) (.seq (.region c_request_Write_r2 none [0, 3, 4]) (.seq (.region c_request_Write_r3 none [0, 4]) (.seq (.region c_request_Write_r4 none [0, 4]) (.region c_request_Write_r5 none [])))))
@[simp] def R_request_Write : List CRes := []
theorem k_request_Write : chkFn Tryd.prog fn_request_Write c_request_Write R_request_Write 2 = true := by kernel_rfl
/-! wapentake/wapentakeref01.Digest -/
@[simp] def a_r01_Digest_r0 : List COper := [
  ⟨(some 1), .box, [.t 0], none⟩,
  ⟨(some 2), .mov, [.c (.string (mkS []))], none⟩]
def c_r01_Digest_r0 : List COper := a_r01_Digest_r0
instance : Reg c_r01_Digest_r0 a_r01_Digest_r0 2 := ⟨rfl, rfl⟩
@[simp] def a_r01_Digest_r1 : List COper := [
  ⟨(some 3), .sliceArr 32 1 false false, [.t 1], none⟩,
  ⟨(some 4), .convS, [.t 3], none⟩,
  ⟨(some 2), .mov, [.t 4], none⟩]
def c_r01_Digest_r1 : List COper := a_r01_Digest_r1
instance : Reg c_r01_Digest_r1 a_r01_Digest_r1 3 := ⟨rfl, rfl⟩
@[simp] def c_r01_Digest : CCode :=
  .seq (.region c_r01_Digest_r0 none [1]) (.seq (.region c_r01_Digest_r1 none [2]) (.ret))
@[simp] def R_r01_Digest : List CRes := [.tmp 2]
theorem k_r01_Digest : chkFn Tryd.prog fn_r01_Digest c_r01_Digest R_r01_Digest 1 = true := by kernel_rfl
/-! wapentake/wapentakeref09.Bytes -/
@[simp] def a_r09_Bytes_r0 : List COper := [
  ⟨(some 1), .box, [.t 0], none⟩,
  ⟨(some 2), .mov, [.c (.string (mkS []))], none⟩]
def c_r09_Bytes_r0 : List COper := a_r09_Bytes_r0
instance : Reg c_r09_Bytes_r0 a_r09_Bytes_r0 2 := ⟨rfl, rfl⟩
@[simp] def a_r09_Bytes_r1 : List COper := [
  ⟨(some 5), .faddr 2 40 true, [.t 1], none⟩,
  ⟨(some 6), .load true 40, [.t 5], none⟩,
  ⟨(some 3), .alloc (.node [.v (.int .i64 0), .v (.string (mkS [])), .v (.string (mkS [])), .v (.string (mkS [])), .node [.v (.int .i64 0), .v (.int .i64 0), .v (.int .i64 0), .node [.arr 1 (rep 32 (.v (.int .u8 0))), .v (.int .i64 0)]]]), [], none⟩,
  ⟨none, .store true 40, [.t 3, .t 6], none⟩]
def c_r09_Bytes_r1 : List COper := a_r09_Bytes_r1
instance : Reg c_r09_Bytes_r1 a_r09_Bytes_r1 4 := ⟨rfl, rfl⟩
@[simp] def a_r09_Bytes_r2 : List COper := [
  ⟨(some 7), .faddr 0 1 false, [.t 1], none⟩,
  ⟨(some 8), .load false 1, [.t 7], none⟩,
  ⟨(some 9), .faddr 1 1 false, [.t 1], none⟩,
  ⟨(some 10), .load false 1, [.t 9], none⟩,
  ⟨(some 11), .faddr 0 1 false, [.t 3], none⟩,
  ⟨(some 12), .load false 1, [.t 11], none⟩,
  ⟨(some 13), .bslice 1 3 (.v (.int .i64 0)) [0, 1, 2], [.t 8, .t 10, .t 12], none⟩,
  ⟨(some 14), .call fn_r09_nums, [.t 13], none⟩,
  ⟨(some 15), .faddr 1 1 false, [.t 3], none⟩,
  ⟨(some 16), .load false 1, [.t 15], none⟩,
  ⟨(some 17), .call fn_r01_Text, [.t 16], none⟩,
  ⟨(some 18), .bin .add, [.t 14, .t 17], none⟩,
  ⟨(some 19), .faddr 2 1 false, [.t 3], none⟩,
  ⟨(some 20), .load false 1, [.t 19], none⟩,
  ⟨(some 21), .call fn_r01_Text, [.t 20], none⟩,
  ⟨(some 22), .bin .add, [.t 18, .t 21], none⟩,
  ⟨(some 23), .faddr 3 1 false, [.t 3], none⟩,
  ⟨(some 24), .load false 1, [.t 23], none⟩,
  ⟨(some 25), .call fn_r01_Text, [.t 24], none⟩,
  ⟨(some 26), .bin .add, [.t 22, .t 25], none⟩,
  ⟨(some 4), .mov, [.t 26], none⟩]
def c_r09_Bytes_r2 : List COper := a_r09_Bytes_r2
instance : Reg c_r09_Bytes_r2 a_r09_Bytes_r2 21 := ⟨rfl, rfl⟩
@[simp] def a_r09_Bytes_r3 : List COper := [
  ⟨(some 27), .mov, [.t 4], none⟩,
  ⟨(some 28), .faddr 4 36 true, [.t 3], none⟩,
  ⟨(some 29), .faddr 0 1 false, [.t 28], none⟩,
  ⟨(some 30), .load false 1, [.t 29], none⟩,
  ⟨(some 31), .faddr 4 36 true, [.t 3], none⟩,
  ⟨(some 32), .faddr 1 1 false, [.t 31], none⟩,
  ⟨(some 33), .load false 1, [.t 32], none⟩,
  ⟨(some 34), .faddr 4 36 true, [.t 3], none⟩,
  ⟨(some 35), .faddr 2 1 false, [.t 34], none⟩,
  ⟨(some 36), .load false 1, [.t 35], none⟩,
  ⟨(some 37), .faddr 4 36 true, [.t 3], none⟩,
  ⟨(some 38), .faddr 3 33 true, [.t 37], none⟩,
  ⟨(some 39), .faddr 32 1 false, [.t 38], none⟩,
  ⟨(some 40), .load false 1, [.t 39], none⟩,
  ⟨(some 41), .bslice 1 4 (.v (.int .i64 0)) [0, 1, 2, 3], [.t 30, .t 33, .t 36, .t 40], none⟩,
  ⟨(some 42), .call fn_r09_nums, [.t 41], none⟩,
  ⟨(some 43), .bin .add, [.t 27, .t 42], none⟩,
  ⟨(some 44), .faddr 4 36 true, [.t 3], none⟩,
  ⟨(some 45), .faddr 3 33 true, [.t 44], none⟩,
  ⟨(some 46), .faddr 0 32 true, [.t 45], none⟩,
  ⟨(some 47), .load true 32, [.t 46], none⟩,
  ⟨(some 48), .call fn_r01_Digest, [.t 47], none⟩,
  ⟨(some 49), .bin .add, [.t 43, .t 48], none⟩,
  ⟨(some 2), .mov, [.t 49], none⟩]
def c_r09_Bytes_r3 : List COper := a_r09_Bytes_r3
instance : Reg c_r09_Bytes_r3 a_r09_Bytes_r3 24 := ⟨rfl, rfl⟩
@[simp] def c_r09_Bytes : CCode :=
  .seq (.region c_r09_Bytes_r0 none [1]) (.seq (.region c_r09_Bytes_r1 none [1, 3]) (.seq (.region c_r09_Bytes_r2 (some ([0, 1, 0, 4, 0, 16, 63, 127, 0, 256, 1023, 2047, 0, 4096, 14335, 32767, 0, 65536, 227327, 524287, 1048575], [(6, 9), (7, 9), (6, 13), (7, 13), (10, 13), (6, 17), (7, 17), (10, 17), (14, 17)])) [3, 4]) (.seq (.region c_r09_Bytes_r3 (some ([0, 0, 2, 6, 0, 16, 48, 0, 128, 384, 0, 1024, 3072, 7168, 16382, 32766, 65535, 0, 131072, 393216, 917504, 2031614, 4194303, 8388607], [(14, 20), (15, 20)])) [2]) (.ret))))
@[simp] def R_r09_Bytes : List CRes := [.tmp 2]
theorem k_r09_Bytes : chkFn Tryd.prog fn_r09_Bytes c_r09_Bytes R_r09_Bytes 1 = true := by kernel_rfl

end Go.Proofs.YtjlmpdbagmdbiaaDoor.WL
