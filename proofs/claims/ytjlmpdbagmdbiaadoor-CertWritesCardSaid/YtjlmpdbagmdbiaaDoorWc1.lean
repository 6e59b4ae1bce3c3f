/- The program's functions as abstract texts, each held against the program by the kernel. -/
import Derived.Test.YtjlmpdbagmdbiaaDoorWm6
import Derived.Test.YtjlmpdbagmdbiaaDoorChecked
namespace Go.Proofs.YtjlmpdbagmdbiaaDoor.WL
open Go
theorem mix : Tryd.prog.follows .mixedOrders = true := by kernel_rfl
def fn_l15_ChainChecks : Nat := 3
def fn_l15_ChainParts : Nat := 4
def fn_l15_ChainGrows : Nat := 5
def fn_l14_CertChecks : Nat := 6
def fn_l14_CertMakes : Nat := 7
def fn_l14_CertFew : Nat := 8
def fn_l14_CertAgrees : Nat := 9
def fn_l14_CertWrites : Nat := 10
def fn_l15_ChainWrites : Nat := 11
def fn_l15_alive : Nat := 12
def fn_l15_great : Nat := 13
def fn_chain_Step : Nat := 14
def fn_r15_Step : Nat := 15
def fn_chain_Check : Nat := 16
def fn_r15_Check : Nat := 17
def fn_r08_Same : Nat := 18
def fn_l14_alive : Nat := 19
def fn_l14_great : Nat := 20
def fn_cert_Check : Nat := 21
def fn_r14_Check : Nat := 22
def fn_r08_Quorum : Nat := 23
def fn_cert_Make : Nat := 24
def fn_r14_Same : Nat := 25
def fn_config_Weak : Nat := 26
def fn_cert_Write : Nat := 27
def fn_r14_Bytes : Nat := 28
def fn_code_Writer_Bytes : Nat := 29
def fn_code_Read : Nat := 30
def fn_cert_Read : Nat := 31
def fn_r14_Read : Nat := 32
def fn_code_Reader_Good : Nat := 33
def fn_r01_Reader_Good : Nat := 34
def fn_code_Reader_End : Nat := 35
def fn_r01_Reader_End : Nat := 36
def fn_chain_Write : Nat := 37
def fn_r15_Bytes : Nat := 38
def fn_r15_Same : Nat := 39
def fn_chain_Read : Nat := 40
def fn_r15_Read : Nat := 41
def fn_r12_Great : Nat := 42
def fn_config_Good : Nat := 43
def fn_config_Digest : Nat := 44
def fn_r08_Good : Nat := 45
def fn_r08_Digest : Nat := 46
def fn_keys_New : Nat := 47
def fn_keys_Tree_Key : Nat := 48
def fn_block_Digest : Nat := 49
def fn_keys_Tree_Sign : Nat := 50
def fn_vote_Signs : Nat := 51
def fn_block_Good : Nat := 52
def fn_config_Quorum : Nat := 53
def fn_vote_Right : Nat := 54
def fn_r12_Good : Nat := 55
def fn_r12_Digest : Nat := 56
def fn_r13_Right : Nat := 57
def fn_r08_Faults : Nat := 58
def fn_r13_Same : Nat := 59
def fn_config_Faults : Nat := 60
def fn_code_Writer_Num : Nat := 61
def fn_vote_Write : Nat := 62
def fn_r01_Num : Nat := 63
def fn_r13_Bytes : Nat := 64
def fn_code_Reader_In : Nat := 65
def fn_vote_Read : Nat := 66
def fn_r01_Reader_In : Nat := 67
def fn_r13_Read : Nat := 68
def fn_block_Write : Nat := 69
def fn_config_Write : Nat := 70
def fn_r12_Bytes : Nat := 71
def fn_r08_Bytes : Nat := 72
def fn_r12_Same : Nat := 73
def fn_block_Read : Nat := 74
def fn_config_Read : Nat := 75
def fn_r12_Read : Nat := 76
def fn_r08_Read : Nat := 77
def fn_config_right : Nat := 78
def fn_sha_Of : Nat := 79
def fn_r08_Right : Nat := 80
def fn_r02_Text : Nat := 81
def fn_keys_leaf : Nat := 82
def fn_once_Public : Nat := 83
def fn_tree_Root : Nat := 84
def fn_tree_Path : Nat := 85
def fn_once_Sign : Nat := 86
def fn_vote_head : Nat := 87
def fn_request_Good : Nat := 88
def fn_config_Find : Nat := 89
def fn_vote_Good : Nat := 90
def fn_keys_Check : Nat := 91
def fn_r09_Good : Nat := 92
def fn_r08_Place : Nat := 93
def fn_r13_Good : Nat := 94
def fn_r05_Check : Nat := 95
def fn_r13_Signs : Nat := 96
def fn_r05_Same : Nat := 97
def fn_keys_Write : Nat := 98
def fn_r05_Write : Nat := 99
def fn_r13_Head : Nat := 100
def fn_code_Reader_Num : Nat := 101
def fn_code_Reader_Digest : Nat := 102
def fn_keys_Read : Nat := 103
def fn_r01_Reader_Num : Nat := 104
def fn_r01_Reader_Take : Nat := 105
def fn_r01_Reader_Digest : Nat := 106
def fn_r05_Read : Nat := 107
def fn_code_Writer_Digest : Nat := 108
def fn_request_Write : Nat := 109
def fn_r01_Digest : Nat := 110
def fn_r09_Bytes : Nat := 111
def fn_request_Read : Nat := 112
def fn_r09_Read : Nat := 113
def fn_sha_state_block : Nat := 114
def fn_r02_Of : Nat := 115
def fn_tree_Leaf : Nat := 116
def fn_once_shut : Nat := 117
def fn_once_secret : Nat := 118
def fn_once_whole : Nat := 119
def fn_tree_up : Nat := 120
def fn_once_bit : Nat := 121
def fn_request_short : Nat := 122
def fn_slices_IndexFunc : Nat := 123
def fn_config_Find_1 : Nat := 124
def fn_once_Of : Nat := 125
def fn_tree_Check : Nat := 126
def fn_r04_Of : Nat := 127
def fn_r03_Check : Nat := 128
def fn_r03_Leaf : Nat := 129
def fn_r04_Same : Nat := 130
def fn_r03_Same : Nat := 131
def fn_code_Reader_take : Nat := 132
def fn_code_Writer_Text : Nat := 133
def fn_r09_nums : Nat := 134
def fn_r01_Text : Nat := 135
def fn_code_Reader_Text : Nat := 136
def fn_r01_Reader_Text : Nat := 137
def fn_sha_word : Nat := 138
def fn_bits_RotateLeft32 : Nat := 139
def fn_r02_Padded : Nat := 140
def fn_r02_Numbers : Nat := 141
def fn_r02_Next : Nat := 142
def fn_sha_Pair : Nat := 143
def fn_r04_Shut : Nat := 144
def fn_r04_Bit : Nat := 145
def fn_r03_Pair : Nat := 146
def fn_r02_turn : Nat := 147
def fn_r02_three : Nat := 148
/-! wapentake/wapentakelaw14.CertWrites -/
@[simp] def a_l14_CertWrites_r0 : List COper := [
  ⟨(some 4), .box, [.t 0], none⟩,
  ⟨(some 5), .box, [.t 1], none⟩,
  ⟨(some 6), .box, [.t 2], none⟩,
  ⟨(some 8), .mov, [.c (.bool false)], none⟩]
def c_l14_CertWrites_r0 : List COper := a_l14_CertWrites_r0
instance : Reg c_l14_CertWrites_r0 a_l14_CertWrites_r0 4 := ⟨rfl, rfl⟩
@[simp] def a_l14_CertWrites_r1 : List COper := [
  ⟨(some 19), .call fn_l14_alive, [], none⟩,
  ⟨(some 20), .not, [.t 19], none⟩]
def c_l14_CertWrites_r1 : List COper := a_l14_CertWrites_r1
instance : Reg c_l14_CertWrites_r1 a_l14_CertWrites_r1 2 := ⟨rfl, rfl⟩
@[simp] def a_l14_CertWrites_r2 : List COper := [
  ⟨(some 8), .mov, [.c (.bool false)], none⟩]
def c_l14_CertWrites_r2 : List COper := a_l14_CertWrites_r2
instance : Reg c_l14_CertWrites_r2 a_l14_CertWrites_r2 1 := ⟨rfl, rfl⟩
@[simp] def a_l14_CertWrites_r3 : List COper := [
  ⟨(some 21), .load true 2, [.t 4], none⟩,
  ⟨(some 22), .load true 99, [.t 5], none⟩,
  ⟨(some 23), .load true 2, [.t 6], none⟩,
  ⟨(some 24), .call fn_l14_great, [.t 21, .t 22, .t 23], none⟩,
  ⟨(some 25), .mov, [.t 24], none⟩,
  ⟨(some 26), .mov, [.t 3], (some (25, false))⟩,
  ⟨(some 27), .len, [.t 26], (some (25, false))⟩,
  ⟨(some 28), .bin .gtr, [.t 27, .c (.int .i64 65536)], (some (25, false))⟩,
  ⟨(some 29), .pick, [.t 25, .c (.bool true), .t 28], none⟩]
def c_l14_CertWrites_r3 : List COper := a_l14_CertWrites_r3
instance : Reg c_l14_CertWrites_r3 a_l14_CertWrites_r3 9 := ⟨rfl, rfl⟩
@[simp] def a_l14_CertWrites_r4 : List COper := [
  ⟨(some 8), .mov, [.c (.bool true)], none⟩]
def c_l14_CertWrites_r4 : List COper := a_l14_CertWrites_r4
instance : Reg c_l14_CertWrites_r4 a_l14_CertWrites_r4 1 := ⟨rfl, rfl⟩
@[simp] def a_l14_CertWrites_r5 : List COper := [
  ⟨(some 30), .build [.v (.slice none 0 0)] [], [], none⟩,
  ⟨(some 31), .box, [.t 30], none⟩,
  ⟨(some 9), .mov, [.t 31], none⟩]
def c_l14_CertWrites_r5 : List COper := a_l14_CertWrites_r5
instance : Reg c_l14_CertWrites_r5 a_l14_CertWrites_r5 3 := ⟨rfl, rfl⟩
@[simp] def a_l14_CertWrites_r6 : List COper := [
  ⟨(some 32), .mov, [.t 9], none⟩,
  ⟨(some 33), .load true 2, [.t 6], none⟩,
  ⟨(some 34), .call fn_cert_Write, [.t 32, .t 33], none⟩,
  ⟨(some 10), .mov, [.t 34], none⟩]
def c_l14_CertWrites_r6 : List COper := a_l14_CertWrites_r6
instance : Reg c_l14_CertWrites_r6 a_l14_CertWrites_r6 4 := ⟨rfl, rfl⟩
@[simp] def a_l14_CertWrites_r7 : List COper := [
  ⟨(some 36), .load true 2, [.t 6], none⟩,
  ⟨(some 37), .call fn_r14_Bytes, [.t 36], none⟩,
  ⟨(some 35), .mov, [.t 37], none⟩,
  ⟨(some 38), .ext 0, [.t 35], none⟩,
  ⟨(some 39), .ext 1, [.t 35], none⟩,
  ⟨(some 11), .mov, [.t 38], none⟩,
  ⟨(some 12), .mov, [.t 39], none⟩]
def c_l14_CertWrites_r7 : List COper := a_l14_CertWrites_r7
instance : Reg c_l14_CertWrites_r7 a_l14_CertWrites_r7 7 := ⟨rfl, rfl⟩
@[simp] def a_l14_CertWrites_r8 : List COper := [
  ⟨(some 40), .mov, [.t 10], none⟩,
  ⟨(some 41), .mov, [.t 12], none⟩,
  ⟨(some 42), .eqb true, [.t 40, .t 41], none⟩,
  ⟨(some 43), .mov, [.t 42], none⟩,
  ⟨(some 44), .mov, [.t 9], (some (43, false))⟩,
  ⟨(some 45), .call fn_code_Writer_Bytes, [.t 44], (some (43, false))⟩,
  ⟨(some 46), .convS, [.t 45], (some (43, false))⟩,
  ⟨(some 47), .mov, [.t 11], (some (43, false))⟩,
  ⟨(some 48), .bin .neq, [.t 46, .t 47], (some (43, false))⟩,
  ⟨(some 49), .pick, [.t 43, .c (.bool true), .t 48], none⟩]
def c_l14_CertWrites_r8 : List COper := a_l14_CertWrites_r8
instance : Reg c_l14_CertWrites_r8 a_l14_CertWrites_r8 10 := ⟨rfl, rfl⟩
@[simp] def a_l14_CertWrites_r9 : List COper := [
  ⟨(some 8), .mov, [.c (.bool false)], none⟩]
def c_l14_CertWrites_r9 : List COper := a_l14_CertWrites_r9
instance : Reg c_l14_CertWrites_r9 a_l14_CertWrites_r9 1 := ⟨rfl, rfl⟩
@[simp] def a_l14_CertWrites_r10 : List COper := [
  ⟨(some 50), .mov, [.t 3], none⟩,
  ⟨(some 51), .convS, [.t 50], none⟩,
  ⟨(some 52), .mov, [.t 11], none⟩,
  ⟨(some 53), .buildA 1 (rep 2 (.v (.string (mkS [])))) [0, 1], [.t 51, .t 52], none⟩,
  ⟨(some 54), .mov, [.c (.int .i64 0)], none⟩]
def c_l14_CertWrites_r10 : List COper := a_l14_CertWrites_r10
instance : Reg c_l14_CertWrites_r10 a_l14_CertWrites_r10 5 := ⟨rfl, rfl⟩
@[simp] def a_l14_CertWrites_r11 : List COper := [
  ⟨(some 55), .bin .lss, [.t 54, .c (.int .i64 2)], none⟩]
def c_l14_CertWrites_r11 : List COper := a_l14_CertWrites_r11
instance : Reg c_l14_CertWrites_r11 a_l14_CertWrites_r11 1 := ⟨rfl, rfl⟩
@[simp] def a_l14_CertWrites_r12 : List COper := [
  ⟨(some 56), .idx false 2 1, [.t 53, .t 54], none⟩,
  ⟨(some 14), .mov, [.t 56], none⟩]
def c_l14_CertWrites_r12 : List COper := a_l14_CertWrites_r12
instance : Reg c_l14_CertWrites_r12 a_l14_CertWrites_r12 2 := ⟨rfl, rfl⟩
@[simp] def a_l14_CertWrites_r13 : List COper := [
  ⟨(some 57), .mov, [.t 14], none⟩,
  ⟨(some 58), .convB, [.t 57], none⟩,
  ⟨(some 59), .call fn_code_Read, [.t 58], none⟩,
  ⟨(some 60), .mov, [.t 14], none⟩,
  ⟨(some 61), .build [.v (.string (mkS [])), .v (.bool false)] [0], [.t 60], none⟩,
  ⟨(some 62), .box, [.t 61], none⟩,
  ⟨(some 15), .mov, [.t 59], none⟩,
  ⟨(some 16), .mov, [.t 62], none⟩]
def c_l14_CertWrites_r13 : List COper := a_l14_CertWrites_r13
instance : Reg c_l14_CertWrites_r13 a_l14_CertWrites_r13 8 := ⟨rfl, rfl⟩
@[simp] def a_l14_CertWrites_r14 : List COper := [
  ⟨(some 63), .mov, [.t 15], none⟩,
  ⟨(some 64), .call fn_cert_Read, [.t 63], none⟩,
  ⟨(some 65), .mov, [.t 16], none⟩,
  ⟨(some 66), .call fn_r14_Read, [.t 65], none⟩,
  ⟨(some 67), .call fn_r14_Same, [.t 64, .t 66], none⟩,
  ⟨(some 68), .not, [.t 67], none⟩,
  ⟨(some 69), .mov, [.t 68], none⟩,
  ⟨(some 70), .mov, [.t 15], (some (69, false))⟩,
  ⟨(some 71), .call fn_code_Reader_Good, [.t 70], (some (69, false))⟩,
  ⟨(some 72), .mov, [.t 16], (some (69, false))⟩,
  ⟨(some 73), .call fn_r01_Reader_Good, [.t 72], (some (69, false))⟩,
  ⟨(some 74), .eqb true, [.t 71, .t 73], (some (69, false))⟩,
  ⟨(some 75), .pick, [.t 69, .c (.bool true), .t 74], none⟩,
  ⟨(some 76), .mov, [.t 75], none⟩,
  ⟨(some 77), .mov, [.t 15], (some (76, false))⟩,
  ⟨(some 78), .call fn_code_Reader_End, [.t 77], (some (76, false))⟩,
  ⟨(some 79), .mov, [.t 16], (some (76, false))⟩,
  ⟨(some 80), .call fn_r01_Reader_End, [.t 79], (some (76, false))⟩,
  ⟨(some 81), .eqb true, [.t 78, .t 80], (some (76, false))⟩,
  ⟨(some 82), .pick, [.t 76, .c (.bool true), .t 81], none⟩]
def c_l14_CertWrites_r14 : List COper := a_l14_CertWrites_r14
instance : Reg c_l14_CertWrites_r14 a_l14_CertWrites_r14 20 := ⟨rfl, rfl⟩
@[simp] def a_l14_CertWrites_r15 : List COper := [
  ⟨(some 8), .mov, [.c (.bool false)], none⟩]
def c_l14_CertWrites_r15 : List COper := a_l14_CertWrites_r15
instance : Reg c_l14_CertWrites_r15 a_l14_CertWrites_r15 1 := ⟨rfl, rfl⟩
@[simp] def a_l14_CertWrites_r16 : List COper := [
  ⟨(some 83), .bin .add, [.t 54, .c (.int .i64 1)], none⟩,
  ⟨(some 54), .mov, [.t 83], none⟩]
def c_l14_CertWrites_r16 : List COper := a_l14_CertWrites_r16
instance : Reg c_l14_CertWrites_r16 a_l14_CertWrites_r16 2 := ⟨rfl, rfl⟩
@[simp] def a_l14_CertWrites_r17 : List COper := [
  ⟨(some 84), .mov, [.t 9], none⟩,
  ⟨(some 85), .call fn_code_Writer_Bytes, [.t 84], none⟩,
  ⟨(some 86), .call fn_code_Read, [.t 85], none⟩,
  ⟨(some 17), .mov, [.t 86], none⟩]
def c_l14_CertWrites_r17 : List COper := a_l14_CertWrites_r17
instance : Reg c_l14_CertWrites_r17 a_l14_CertWrites_r17 4 := ⟨rfl, rfl⟩
@[simp] def a_l14_CertWrites_r18 : List COper := [
  ⟨(some 87), .mov, [.t 17], none⟩,
  ⟨(some 88), .call fn_cert_Read, [.t 87], none⟩,
  ⟨(some 18), .alloc (.node [.v (.int .i64 0), .v (.slice none 0 0)]), [], none⟩,
  ⟨none, .store true 2, [.t 18, .t 88], none⟩]
def c_l14_CertWrites_r18 : List COper := a_l14_CertWrites_r18
instance : Reg c_l14_CertWrites_r18 a_l14_CertWrites_r18 4 := ⟨rfl, rfl⟩
@[simp] def a_l14_CertWrites_r19 : List COper := [
  ⟨(some 89), .faddr 1 1 false, [.t 6], none⟩,
  ⟨(some 90), .load false 1, [.t 89], none⟩,
  ⟨(some 91), .len, [.t 90], none⟩,
  ⟨(some 92), .bin .gtr, [.t 91, .c (.int .i64 10)], none⟩,
  ⟨(some 93), .mov, [.t 92], none⟩,
  ⟨(some 94), .load true 2, [.t 4], (some (93, false))⟩,
  ⟨(some 95), .load true 99, [.t 5], (some (93, false))⟩,
  ⟨(some 96), .load true 2, [.t 6], (some (93, false))⟩,
  ⟨(some 97), .call fn_cert_Check, [.t 94, .t 95, .t 96], (some (93, false))⟩,
  ⟨(some 98), .not, [.t 97], (some (93, false))⟩,
  ⟨(some 99), .pick, [.t 93, .c (.bool true), .t 98], none⟩,
  ⟨(some 100), .mov, [.t 99], none⟩,
  ⟨(some 101), .mov, [.t 12], (some (100, false))⟩,
  ⟨(some 102), .mov, [.t 101], (some (100, false))⟩,
  ⟨(some 103), .mov, [.t 17], (some (102, true))⟩,
  ⟨(some 104), .call fn_code_Reader_End, [.t 103], (some (102, true))⟩,
  ⟨(some 105), .pick, [.t 102, .t 104, .c (.bool false)], (some (100, false))⟩,
  ⟨(some 106), .mov, [.t 105], (some (100, false))⟩,
  ⟨(some 107), .load true 2, [.t 6], (some (106, true))⟩,
  ⟨(some 108), .load true 2, [.t 18], (some (106, true))⟩,
  ⟨(some 109), .call fn_r14_Same, [.t 107, .t 108], (some (106, true))⟩,
  ⟨(some 110), .pick, [.t 106, .t 109, .c (.bool false)], (some (100, false))⟩,
  ⟨(some 111), .pick, [.t 100, .c (.bool true), .t 110], none⟩,
  ⟨(some 8), .mov, [.t 111], none⟩]
def c_l14_CertWrites_r19 : List COper := a_l14_CertWrites_r19
instance : Reg c_l14_CertWrites_r19 a_l14_CertWrites_r19 24 := ⟨rfl, rfl⟩
@[simp] def c_l14_CertWrites : CCode :=
  .seq (.region c_l14_CertWrites_r0 none [3, 4, 5, 6]) (.seq (.seq (.region c_l14_CertWrites_r1 none [3, 4, 5, 6, 20]) (.cond (.t 20) (.seq (.region c_l14_CertWrites_r2 none [8]) (.ret)) (.skip))) (.seq (.seq (.region c_l14_CertWrites_r3 none [3, 4, 5, 6, 29]) (.cond (.t 29) (.seq (.region c_l14_CertWrites_r4 none [8]) (.ret)) (.skip))) (.seq (.region c_l14_CertWrites_r5 none [3, 4, 5, 6, 9]) (.seq (.region c_l14_CertWrites_r6 none [3, 4, 5, 6, 9, 10]) (.seq (.region c_l14_CertWrites_r7 none [3, 4, 5, 6, 9, 10, 11, 12]) (.seq (.seq (.region c_l14_CertWrites_r8 none [3, 4, 5, 6, 9, 11, 12, 49]) (.cond (.t 49) (.seq (.region c_l14_CertWrites_r9 none [8]) (.ret)) (.skip))) (.seq (.seq (.region c_l14_CertWrites_r10 none [4, 5, 6, 9, 12, 53, 54]) (.block 0 (.loop (.seq (.region c_l14_CertWrites_r11 none [4, 5, 6, 9, 12, 53, 54, 55]) (.seq (.cond (.t 55) (.skip) (.exit 0)) (.seq (.block 1 (.seq (.region c_l14_CertWrites_r12 none [4, 5, 6, 9, 12, 14, 53, 54]) (.seq (.region c_l14_CertWrites_r13 none [4, 5, 6, 9, 12, 15, 16, 53, 54]) (.seq (.region c_l14_CertWrites_r14 none [4, 5, 6, 9, 12, 53, 54, 82]) (.cond (.t 82) (.seq (.region c_l14_CertWrites_r15 none [8]) (.ret)) (.skip)))))) (.region c_l14_CertWrites_r16 none [4, 5, 6, 9, 12, 53, 54]))))))) (.seq (.region c_l14_CertWrites_r17 none [4, 5, 6, 12, 17]) (.seq (.region c_l14_CertWrites_r18 none [4, 5, 6, 12, 17, 18]) (.seq (.region c_l14_CertWrites_r19 none [8]) (.ret)))))))))))
@[simp] def R_l14_CertWrites : List CRes := [.tmp 8]
theorem k_l14_CertWrites : chkFn Tryd.prog fn_l14_CertWrites c_l14_CertWrites R_l14_CertWrites 4 = true := by kernel_rfl
/-! wapentake/wapentakelaw14.alive -/
@[simp] def a_l14_alive_r0 : List COper := [
  ⟨(some 0), .mov, [.c (.bool false)], none⟩]
def c_l14_alive_r0 : List COper := a_l14_alive_r0
instance : Reg c_l14_alive_r0 a_l14_alive_r0 1 := ⟨rfl, rfl⟩
@[simp] def a_l14_alive_r1 : List COper := [
  ⟨(some 9), .buildA 1 (rep 32 (.v (.int .u8 0))) [0], [.c (.int .u8 1)], none⟩,
  ⟨(some 10), .call fn_keys_New, [.t 9, .c (.int .i64 0)], none⟩,
  ⟨(some 8), .mov, [.t 10], none⟩,
  ⟨(some 11), .ext 0, [.t 8], none⟩,
  ⟨(some 12), .ext 1, [.t 8], none⟩,
  ⟨(some 1), .mov, [.t 11], none⟩,
  ⟨(some 2), .mov, [.t 12], none⟩]
def c_l14_alive_r1 : List COper := a_l14_alive_r1
instance : Reg c_l14_alive_r1 a_l14_alive_r1 7 := ⟨rfl, rfl⟩
@[simp] def a_l14_alive_r2 : List COper := [
  ⟨(some 13), .mov, [.t 2], none⟩,
  ⟨(some 14), .bin .neq, [.t 13, .c (.int .i64 0)], none⟩]
def c_l14_alive_r2 : List COper := a_l14_alive_r2
instance : Reg c_l14_alive_r2 a_l14_alive_r2 2 := ⟨rfl, rfl⟩
@[simp] def a_l14_alive_r3 : List COper := [
  ⟨(some 0), .mov, [.c (.bool false)], none⟩]
def c_l14_alive_r3 : List COper := a_l14_alive_r3
instance : Reg c_l14_alive_r3 a_l14_alive_r3 1 := ⟨rfl, rfl⟩
@[simp] def a_l14_alive_r4 : List COper := [
  ⟨(some 15), .mov, [.t 1], none⟩,
  ⟨(some 16), .call fn_keys_Tree_Key, [.t 15], none⟩,
  ⟨(some 17), .build [.v (.int .i64 0), .node [.arr 1 (rep 32 (.v (.int .u8 0))), .v (.int .i64 0)]] [0, 1], [.c (.int .i64 1), .t 16], none⟩,
  ⟨(some 18), .bslice 34 1 (.node [.v (.int .i64 0), .node [.arr 1 (rep 32 (.v (.int .u8 0))), .v (.int .i64 0)]]) [0], [.t 17], none⟩,
  ⟨(some 19), .build [.v (.int .i64 0), .v (.slice none 0 0)] [1], [.t 18], none⟩,
  ⟨(some 3), .alloc (.node [.v (.int .i64 0), .v (.slice none 0 0)]), [], none⟩,
  ⟨none, .store true 2, [.t 3, .t 19], none⟩]
def c_l14_alive_r4 : List COper := a_l14_alive_r4
instance : Reg c_l14_alive_r4 a_l14_alive_r4 7 := ⟨rfl, rfl⟩
@[simp] def a_l14_alive_r5 : List COper := [
  ⟨(some 20), .build [.v (.int .i64 0), .v (.int .i64 0), .arr 1 (rep 32 (.v (.int .u8 0))), .arr 1 (rep 32 (.v (.int .u8 0))), .arr 1 (rep 32 (.v (.int .u8 0))), .v (.slice none 0 0)] [1], [.c (.int .i64 1)], none⟩,
  ⟨(some 4), .alloc (.node [.v (.int .i64 0), .v (.int .i64 0), .arr 1 (rep 32 (.v (.int .u8 0))), .arr 1 (rep 32 (.v (.int .u8 0))), .arr 1 (rep 32 (.v (.int .u8 0))), .v (.slice none 0 0)]), [], none⟩,
  ⟨none, .store true 99, [.t 4, .t 20], none⟩]
def c_l14_alive_r5 : List COper := a_l14_alive_r5
instance : Reg c_l14_alive_r5 a_l14_alive_r5 3 := ⟨rfl, rfl⟩
@[simp] def a_l14_alive_r6 : List COper := [
  ⟨(some 21), .load true 99, [.t 4], none⟩,
  ⟨(some 22), .call fn_block_Digest, [.t 21], none⟩,
  ⟨(some 23), .build [.v (.int .i64 0), .v (.int .i64 0), .v (.int .i64 0), .v (.int .i64 0), .arr 1 (rep 32 (.v (.int .u8 0))), .v (.int .i64 0), .node [.v (.int .i64 0), .node [.v (.slice none 0 0), .v (.slice none 0 0)], .v (.slice none 0 0)]] [0, 2, 4, 5], [.c (.int .i64 2), .c (.int .i64 1), .t 22, .c (.int .i64 1)], none⟩,
  ⟨(some 5), .alloc (.node [.v (.int .i64 0), .v (.int .i64 0), .v (.int .i64 0), .v (.int .i64 0), .arr 1 (rep 32 (.v (.int .u8 0))), .v (.int .i64 0), .node [.v (.int .i64 0), .node [.v (.slice none 0 0), .v (.slice none 0 0)], .v (.slice none 0 0)]]), [], none⟩,
  ⟨none, .store true 41, [.t 5, .t 23], none⟩]
def c_l14_alive_r6 : List COper := a_l14_alive_r6
instance : Reg c_l14_alive_r6 a_l14_alive_r6 5 := ⟨rfl, rfl⟩
@[simp] def a_l14_alive_r7 : List COper := [
  ⟨(some 25), .mov, [.t 1], none⟩,
  ⟨(some 26), .load true 41, [.t 5], none⟩,
  ⟨(some 27), .call fn_vote_Signs, [.t 26], none⟩,
  ⟨(some 28), .call fn_keys_Tree_Sign, [.t 25, .c (.int .i64 0), .t 27], none⟩,
  ⟨(some 24), .mov, [.t 28], none⟩,
  ⟨(some 29), .ext 0, [.t 24], none⟩,
  ⟨(some 30), .ext 1, [.t 24], none⟩,
  ⟨(some 31), .faddr 37 4 true, [.t 5], none⟩,
  ⟨none, .store true 4, [.t 31, .t 29], none⟩]
def c_l14_alive_r7 : List COper := a_l14_alive_r7
instance : Reg c_l14_alive_r7 a_l14_alive_r7 9 := ⟨rfl, rfl⟩
@[simp] def a_l14_alive_r8 : List COper := [
  ⟨(some 33), .load true 2, [.t 3], none⟩,
  ⟨(some 34), .load true 41, [.t 5], none⟩,
  ⟨(some 35), .bslice 41 1 (.node [.v (.int .i64 0), .v (.int .i64 0), .v (.int .i64 0), .v (.int .i64 0), .arr 1 (rep 32 (.v (.int .u8 0))), .v (.int .i64 0), .node [.v (.int .i64 0), .node [.v (.slice none 0 0), .v (.slice none 0 0)], .v (.slice none 0 0)]]) [0], [.t 34], none⟩,
  ⟨(some 36), .call fn_cert_Make, [.t 33, .t 35], none⟩,
  ⟨(some 32), .mov, [.t 36], none⟩,
  ⟨(some 37), .ext 0, [.t 32], none⟩,
  ⟨(some 38), .ext 1, [.t 32], none⟩,
  ⟨(some 6), .alloc (.node [.v (.int .i64 0), .v (.slice none 0 0)]), [], none⟩,
  ⟨none, .store true 2, [.t 6, .t 37], none⟩,
  ⟨(some 7), .mov, [.t 38], none⟩]
def c_l14_alive_r8 : List COper := a_l14_alive_r8
instance : Reg c_l14_alive_r8 a_l14_alive_r8 10 := ⟨rfl, rfl⟩
@[simp] def a_l14_alive_r9 : List COper := [
  ⟨(some 39), .mov, [.t 7], none⟩,
  ⟨(some 40), .mov, [.t 39], none⟩,
  ⟨(some 41), .load true 2, [.t 3], (some (40, true))⟩,
  ⟨(some 42), .load true 99, [.t 4], (some (40, true))⟩,
  ⟨(some 43), .load true 2, [.t 6], (some (40, true))⟩,
  ⟨(some 44), .call fn_cert_Check, [.t 41, .t 42, .t 43], (some (40, true))⟩,
  ⟨(some 45), .pick, [.t 40, .t 44, .c (.bool false)], none⟩,
  ⟨(some 0), .mov, [.t 45], none⟩]
def c_l14_alive_r9 : List COper := a_l14_alive_r9
instance : Reg c_l14_alive_r9 a_l14_alive_r9 8 := ⟨rfl, rfl⟩
@[simp] def c_l14_alive : CCode :=
  .seq (.region c_l14_alive_r0 none []) (.seq (.region c_l14_alive_r1 none [1, 2]) (.seq (.seq (.region c_l14_alive_r2 none [1, 14]) (.cond (.t 14) (.seq (.region c_l14_alive_r3 none [0]) (.ret)) (.skip))) (.seq (.region c_l14_alive_r4 none [1, 3]) (.seq (.region c_l14_alive_r5 none [1, 3, 4]) (.seq (.region c_l14_alive_r6 none [1, 3, 4, 5]) (.seq (.region c_l14_alive_r7 none [3, 4, 5]) (.seq (.region c_l14_alive_r8 none [3, 4, 6, 7]) (.seq (.region c_l14_alive_r9 none [0]) (.ret)))))))))
@[simp] def R_l14_alive : List CRes := [.tmp 0]
theorem k_l14_alive : chkFn Tryd.prog fn_l14_alive c_l14_alive R_l14_alive 0 = true := by kernel_rfl
/-! wapentake/wapentakelaw14.great -/
@[simp] def a_l14_great_r0 : List COper := [
  ⟨(some 3), .box, [.t 0], none⟩,
  ⟨(some 4), .box, [.t 1], none⟩,
  ⟨(some 5), .box, [.t 2], none⟩,
  ⟨(some 6), .mov, [.c (.bool false)], none⟩]
def c_l14_great_r0 : List COper := a_l14_great_r0
instance : Reg c_l14_great_r0 a_l14_great_r0 4 := ⟨rfl, rfl⟩
@[simp] def a_l14_great_r1 : List COper := [
  ⟨(some 9), .faddr 1 1 false, [.t 3], none⟩,
  ⟨(some 10), .load false 1, [.t 9], none⟩,
  ⟨(some 11), .len, [.t 10], none⟩,
  ⟨(some 12), .bin .gtr, [.t 11, .c (.int .i64 20)], none⟩,
  ⟨(some 13), .mov, [.t 12], none⟩,
  ⟨(some 14), .load true 99, [.t 4], (some (13, false))⟩,
  ⟨(some 15), .call fn_r12_Great, [.t 14, .c (.int .i64 4096)], (some (13, false))⟩,
  ⟨(some 16), .pick, [.t 13, .c (.bool true), .t 15], none⟩,
  ⟨(some 17), .mov, [.t 16], none⟩,
  ⟨(some 18), .faddr 1 1 false, [.t 5], (some (17, false))⟩,
  ⟨(some 19), .load false 1, [.t 18], (some (17, false))⟩,
  ⟨(some 20), .len, [.t 19], (some (17, false))⟩,
  ⟨(some 21), .bin .gtr, [.t 20, .c (.int .i64 12)], (some (17, false))⟩,
  ⟨(some 22), .pick, [.t 17, .c (.bool true), .t 21], none⟩]
def c_l14_great_r1 : List COper := a_l14_great_r1
instance : Reg c_l14_great_r1 a_l14_great_r1 14 := ⟨rfl, rfl⟩
@[simp] def a_l14_great_r2 : List COper := [
  ⟨(some 6), .mov, [.c (.bool true)], none⟩]
def c_l14_great_r2 : List COper := a_l14_great_r2
instance : Reg c_l14_great_r2 a_l14_great_r2 1 := ⟨rfl, rfl⟩
@[simp] def a_l14_great_r3 : List COper := [
  ⟨(some 23), .faddr 1 1 false, [.t 5], none⟩,
  ⟨(some 24), .load false 1, [.t 23], none⟩,
  ⟨(some 25), .len, [.t 24], none⟩,
  ⟨(some 26), .mov, [.c (.int .i64 0)], none⟩]
def c_l14_great_r3 : List COper := a_l14_great_r3
instance : Reg c_l14_great_r3 a_l14_great_r3 4 := ⟨rfl, rfl⟩
@[simp] def a_l14_great_r4 : List COper := [
  ⟨(some 27), .bin .lss, [.t 26, .t 25], none⟩]
def c_l14_great_r4 : List COper := a_l14_great_r4
instance : Reg c_l14_great_r4 a_l14_great_r4 1 := ⟨rfl, rfl⟩
@[simp] def a_l14_great_r5 : List COper := [
  ⟨(some 28), .iaddr 41, [.t 24, .t 26], none⟩,
  ⟨(some 29), .load true 41, [.t 28], none⟩,
  ⟨(some 8), .alloc (.node [.v (.int .i64 0), .v (.int .i64 0), .v (.int .i64 0), .v (.int .i64 0), .arr 1 (rep 32 (.v (.int .u8 0))), .v (.int .i64 0), .node [.v (.int .i64 0), .node [.v (.slice none 0 0), .v (.slice none 0 0)], .v (.slice none 0 0)]]), [], none⟩,
  ⟨none, .store true 41, [.t 8, .t 29], none⟩]
def c_l14_great_r5 : List COper := a_l14_great_r5
instance : Reg c_l14_great_r5 a_l14_great_r5 4 := ⟨rfl, rfl⟩
@[simp] def a_l14_great_r6 : List COper := [
  ⟨(some 30), .faddr 37 4 true, [.t 8], none⟩,
  ⟨(some 31), .faddr 1 2 true, [.t 30], none⟩,
  ⟨(some 32), .faddr 0 1 false, [.t 31], none⟩,
  ⟨(some 33), .load false 1, [.t 32], none⟩,
  ⟨(some 34), .len, [.t 33], none⟩,
  ⟨(some 35), .bin .gtr, [.t 34, .c (.int .i64 200)], none⟩,
  ⟨(some 36), .mov, [.t 35], none⟩,
  ⟨(some 37), .faddr 37 4 true, [.t 8], (some (36, false))⟩,
  ⟨(some 38), .faddr 1 2 true, [.t 37], (some (36, false))⟩,
  ⟨(some 39), .faddr 1 1 false, [.t 38], (some (36, false))⟩,
  ⟨(some 40), .load false 1, [.t 39], (some (36, false))⟩,
  ⟨(some 41), .len, [.t 40], (some (36, false))⟩,
  ⟨(some 42), .bin .gtr, [.t 41, .c (.int .i64 200)], (some (36, false))⟩,
  ⟨(some 43), .pick, [.t 36, .c (.bool true), .t 42], none⟩,
  ⟨(some 44), .mov, [.t 43], none⟩,
  ⟨(some 45), .faddr 37 4 true, [.t 8], (some (44, false))⟩,
  ⟨(some 46), .faddr 3 1 false, [.t 45], (some (44, false))⟩,
  ⟨(some 47), .load false 1, [.t 46], (some (44, false))⟩,
  ⟨(some 48), .len, [.t 47], (some (44, false))⟩,
  ⟨(some 49), .bin .gtr, [.t 48, .c (.int .i64 200)], (some (44, false))⟩,
  ⟨(some 50), .pick, [.t 44, .c (.bool true), .t 49], none⟩]
def c_l14_great_r6 : List COper := a_l14_great_r6
instance : Reg c_l14_great_r6 a_l14_great_r6 21 := ⟨rfl, rfl⟩
@[simp] def a_l14_great_r7 : List COper := [
  ⟨(some 6), .mov, [.c (.bool true)], none⟩]
def c_l14_great_r7 : List COper := a_l14_great_r7
instance : Reg c_l14_great_r7 a_l14_great_r7 1 := ⟨rfl, rfl⟩
@[simp] def a_l14_great_r8 : List COper := [
  ⟨(some 51), .bin .add, [.t 26, .c (.int .i64 1)], none⟩,
  ⟨(some 26), .mov, [.t 51], none⟩]
def c_l14_great_r8 : List COper := a_l14_great_r8
instance : Reg c_l14_great_r8 a_l14_great_r8 2 := ⟨rfl, rfl⟩
@[simp] def a_l14_great_r9 : List COper := [
  ⟨(some 6), .mov, [.c (.bool false)], none⟩]
def c_l14_great_r9 : List COper := a_l14_great_r9
instance : Reg c_l14_great_r9 a_l14_great_r9 1 := ⟨rfl, rfl⟩
@[simp] def c_l14_great : CCode :=
  .seq (.region c_l14_great_r0 none [3, 4, 5]) (.seq (.seq (.region c_l14_great_r1 none [5, 22]) (.cond (.t 22) (.seq (.region c_l14_great_r2 none [6]) (.ret)) (.skip))) (.seq (.seq (.region c_l14_great_r3 none [24, 25, 26]) (.block 0 (.loop (.seq (.region c_l14_great_r4 none [24, 25, 26, 27]) (.seq (.cond (.t 27) (.skip) (.exit 0)) (.seq (.block 1 (.seq (.region c_l14_great_r5 none [8, 24, 25, 26]) (.seq (.region c_l14_great_r6 none [24, 25, 26, 50]) (.cond (.t 50) (.seq (.region c_l14_great_r7 none [6]) (.ret)) (.skip))))) (.region c_l14_great_r8 none [24, 25, 26]))))))) (.seq (.region c_l14_great_r9 none [6]) (.ret))))
@[simp] def R_l14_great : List CRes := [.tmp 6]
theorem k_l14_great : chkFn Tryd.prog fn_l14_great c_l14_great R_l14_great 3 = true := by kernel_rfl
/-! wapentake/cert.Check -/
@[simp] def a_cert_Check_r0 : List COper := [
  ⟨(some 3), .box, [.t 0], none⟩,
  ⟨(some 4), .box, [.t 1], none⟩,
  ⟨(some 5), .box, [.t 2], none⟩,
  ⟨(some 6), .mov, [.c (.bool false)], none⟩]
def c_cert_Check_r0 : List COper := a_cert_Check_r0
instance : Reg c_cert_Check_r0 a_cert_Check_r0 4 := ⟨rfl, rfl⟩
@[simp] def a_cert_Check_r1 : List COper := [
  ⟨(some 11), .load true 2, [.t 3], none⟩,
  ⟨(some 12), .call fn_config_Good, [.t 11], none⟩,
  ⟨(some 13), .not, [.t 12], none⟩,
  ⟨(some 14), .mov, [.t 13], none⟩,
  ⟨(some 15), .load true 99, [.t 4], (some (14, false))⟩,
  ⟨(some 16), .call fn_block_Good, [.t 15], (some (14, false))⟩,
  ⟨(some 17), .not, [.t 16], (some (14, false))⟩,
  ⟨(some 18), .pick, [.t 14, .c (.bool true), .t 17], none⟩,
  ⟨(some 19), .mov, [.t 18], none⟩,
  ⟨(some 20), .faddr 0 1 false, [.t 4], (some (19, false))⟩,
  ⟨(some 21), .load false 1, [.t 20], (some (19, false))⟩,
  ⟨(some 22), .faddr 0 1 false, [.t 3], (some (19, false))⟩,
  ⟨(some 23), .load false 1, [.t 22], (some (19, false))⟩,
  ⟨(some 24), .bin .neq, [.t 21, .t 23], (some (19, false))⟩,
  ⟨(some 25), .pick, [.t 19, .c (.bool true), .t 24], none⟩,
  ⟨(some 26), .mov, [.t 25], none⟩,
  ⟨(some 27), .faddr 1 1 false, [.t 5], (some (26, false))⟩,
  ⟨(some 28), .load false 1, [.t 27], (some (26, false))⟩,
  ⟨(some 29), .len, [.t 28], (some (26, false))⟩,
  ⟨(some 30), .load true 2, [.t 3], (some (26, false))⟩,
  ⟨(some 31), .call fn_config_Quorum, [.t 30], (some (26, false))⟩,
  ⟨(some 32), .bin .lss, [.t 29, .t 31], (some (26, false))⟩,
  ⟨(some 33), .pick, [.t 26, .c (.bool true), .t 32], none⟩]
def c_cert_Check_r1 : List COper := a_cert_Check_r1
instance : Reg c_cert_Check_r1 a_cert_Check_r1 23 := ⟨rfl, rfl⟩
@[simp] def a_cert_Check_r2 : List COper := [
  ⟨(some 6), .mov, [.c (.bool false)], none⟩]
def c_cert_Check_r2 : List COper := a_cert_Check_r2
instance : Reg c_cert_Check_r2 a_cert_Check_r2 1 := ⟨rfl, rfl⟩
@[simp] def a_cert_Check_r3 : List COper := [
  ⟨(some 34), .load true 99, [.t 4], none⟩,
  ⟨(some 35), .call fn_block_Digest, [.t 34], none⟩,
  ⟨(some 7), .alloc (.arr 1 (rep 32 (.v (.int .u8 0)))), [], none⟩,
  ⟨none, .store true 32, [.t 7, .t 35], none⟩]
def c_cert_Check_r3 : List COper := a_cert_Check_r3
instance : Reg c_cert_Check_r3 a_cert_Check_r3 4 := ⟨rfl, rfl⟩
@[simp] def a_cert_Check_r4 : List COper := [
  ⟨(some 8), .mov, [.c (.int .i64 0)], none⟩]
def c_cert_Check_r4 : List COper := a_cert_Check_r4
instance : Reg c_cert_Check_r4 a_cert_Check_r4 1 := ⟨rfl, rfl⟩
@[simp] def a_cert_Check_r5 : List COper := [
  ⟨(some 36), .faddr 1 1 false, [.t 5], none⟩,
  ⟨(some 37), .load false 1, [.t 36], none⟩,
  ⟨(some 38), .len, [.t 37], none⟩,
  ⟨(some 39), .mov, [.c (.int .i64 0)], none⟩]
def c_cert_Check_r5 : List COper := a_cert_Check_r5
instance : Reg c_cert_Check_r5 a_cert_Check_r5 4 := ⟨rfl, rfl⟩
@[simp] def a_cert_Check_r6 : List COper := [
  ⟨(some 40), .bin .lss, [.t 39, .t 38], none⟩]
def c_cert_Check_r6 : List COper := a_cert_Check_r6
instance : Reg c_cert_Check_r6 a_cert_Check_r6 1 := ⟨rfl, rfl⟩
@[simp] def a_cert_Check_r7 : List COper := [
  ⟨(some 41), .iaddr 41, [.t 37, .t 39], none⟩,
  ⟨(some 42), .load true 41, [.t 41], none⟩,
  ⟨(some 10), .alloc (.node [.v (.int .i64 0), .v (.int .i64 0), .v (.int .i64 0), .v (.int .i64 0), .arr 1 (rep 32 (.v (.int .u8 0))), .v (.int .i64 0), .node [.v (.int .i64 0), .node [.v (.slice none 0 0), .v (.slice none 0 0)], .v (.slice none 0 0)]]), [], none⟩,
  ⟨none, .store true 41, [.t 10, .t 42], none⟩]
def c_cert_Check_r7 : List COper := a_cert_Check_r7
instance : Reg c_cert_Check_r7 a_cert_Check_r7 4 := ⟨rfl, rfl⟩
@[simp] def a_cert_Check_r8 : List COper := [
  ⟨(some 43), .faddr 36 1 false, [.t 10], none⟩,
  ⟨(some 44), .load false 1, [.t 43], none⟩,
  ⟨(some 45), .mov, [.t 8], none⟩,
  ⟨(some 46), .bin .leq, [.t 44, .t 45], none⟩,
  ⟨(some 47), .mov, [.t 46], none⟩,
  ⟨(some 48), .faddr 0 1 false, [.t 10], (some (47, false))⟩,
  ⟨(some 49), .load false 1, [.t 48], (some (47, false))⟩,
  ⟨(some 50), .bin .neq, [.t 49, .c (.int .i64 2)], (some (47, false))⟩,
  ⟨(some 51), .pick, [.t 47, .c (.bool true), .t 50], none⟩,
  ⟨(some 52), .mov, [.t 51], none⟩,
  ⟨(some 53), .faddr 2 1 false, [.t 10], (some (52, false))⟩,
  ⟨(some 54), .load false 1, [.t 53], (some (52, false))⟩,
  ⟨(some 55), .faddr 1 1 false, [.t 4], (some (52, false))⟩,
  ⟨(some 56), .load false 1, [.t 55], (some (52, false))⟩,
  ⟨(some 57), .bin .neq, [.t 54, .t 56], (some (52, false))⟩,
  ⟨(some 58), .pick, [.t 52, .c (.bool true), .t 57], none⟩,
  ⟨(some 59), .mov, [.t 58], none⟩,
  ⟨(some 60), .faddr 3 1 false, [.t 10], (some (59, false))⟩,
  ⟨(some 61), .load false 1, [.t 60], (some (59, false))⟩,
  ⟨(some 62), .faddr 0 1 false, [.t 5], (some (59, false))⟩,
  ⟨(some 63), .load false 1, [.t 62], (some (59, false))⟩,
  ⟨(some 64), .bin .neq, [.t 61, .t 63], (some (59, false))⟩,
  ⟨(some 65), .pick, [.t 59, .c (.bool true), .t 64], none⟩,
  ⟨(some 66), .mov, [.t 65], none⟩,
  ⟨(some 67), .faddr 4 32 true, [.t 10], (some (66, false))⟩,
  ⟨(some 68), .load true 32, [.t 67], (some (66, false))⟩,
  ⟨(some 69), .load true 32, [.t 7], (some (66, false))⟩,
  ⟨(some 70), .eqa true .u8 32, [.t 68, .t 69], (some (66, false))⟩,
  ⟨(some 71), .pick, [.t 66, .c (.bool true), .t 70], none⟩,
  ⟨(some 72), .mov, [.t 71], none⟩,
  ⟨(some 73), .load true 2, [.t 3], (some (72, false))⟩,
  ⟨(some 74), .load true 41, [.t 10], (some (72, false))⟩,
  ⟨(some 75), .call fn_vote_Right, [.t 73, .t 74], (some (72, false))⟩,
  ⟨(some 76), .not, [.t 75], (some (72, false))⟩,
  ⟨(some 77), .pick, [.t 72, .c (.bool true), .t 76], none⟩]
def c_cert_Check_r8 : List COper := a_cert_Check_r8
instance : Reg c_cert_Check_r8 a_cert_Check_r8 35 := ⟨rfl, rfl⟩
@[simp] def a_cert_Check_r9 : List COper := [
  ⟨(some 6), .mov, [.c (.bool false)], none⟩]
def c_cert_Check_r9 : List COper := a_cert_Check_r9
instance : Reg c_cert_Check_r9 a_cert_Check_r9 1 := ⟨rfl, rfl⟩
@[simp] def a_cert_Check_r10 : List COper := [
  ⟨(some 78), .faddr 36 1 false, [.t 10], none⟩,
  ⟨(some 79), .load false 1, [.t 78], none⟩,
  ⟨(some 8), .mov, [.t 79], none⟩]
def c_cert_Check_r10 : List COper := a_cert_Check_r10
instance : Reg c_cert_Check_r10 a_cert_Check_r10 3 := ⟨rfl, rfl⟩
@[simp] def a_cert_Check_r11 : List COper := [
  ⟨(some 80), .bin .add, [.t 39, .c (.int .i64 1)], none⟩,
  ⟨(some 39), .mov, [.t 80], none⟩]
def c_cert_Check_r11 : List COper := a_cert_Check_r11
instance : Reg c_cert_Check_r11 a_cert_Check_r11 2 := ⟨rfl, rfl⟩
@[simp] def a_cert_Check_r12 : List COper := [
  ⟨(some 6), .mov, [.c (.bool true)], none⟩]
def c_cert_Check_r12 : List COper := a_cert_Check_r12
instance : Reg c_cert_Check_r12 a_cert_Check_r12 1 := ⟨rfl, rfl⟩
@[simp] def c_cert_Check : CCode :=
  .seq (.region c_cert_Check_r0 none [3, 4, 5]) (.seq (.seq (.region c_cert_Check_r1 (some ([0, 1, 3, 7, 15, 31, 63, 127, 255, 511, 1023, 511, 2559, 8191, 16383, 32767, 65535, 131071, 262143, 65535, 589823, 2097151, 4194303], [(17, 20)])) [3, 4, 5, 33]) (.cond (.t 33) (.seq (.region c_cert_Check_r2 none [6]) (.ret)) (.skip))) (.seq (.region c_cert_Check_r3 none [3, 4, 5, 7]) (.seq (.region c_cert_Check_r4 none [3, 4, 5, 7, 8]) (.seq (.seq (.region c_cert_Check_r5 none [3, 4, 5, 7, 8, 37, 38, 39]) (.block 0 (.loop (.seq (.region c_cert_Check_r6 none [3, 4, 5, 7, 8, 37, 38, 39, 40]) (.seq (.cond (.t 40) (.skip) (.exit 0)) (.seq (.block 1 (.seq (.region c_cert_Check_r7 none [3, 4, 5, 7, 8, 10, 37, 38, 39]) (.seq (.seq (.region c_cert_Check_r8 none [3, 4, 5, 7, 10, 37, 38, 39, 77]) (.cond (.t 77) (.seq (.region c_cert_Check_r9 none [6]) (.ret)) (.skip))) (.region c_cert_Check_r10 none [3, 4, 5, 7, 8, 37, 38, 39])))) (.region c_cert_Check_r11 none [3, 4, 5, 7, 8, 37, 38, 39]))))))) (.seq (.region c_cert_Check_r12 none [6]) (.ret))))))
@[simp] def R_cert_Check : List CRes := [.tmp 6]
theorem k_cert_Check : chkFn Tryd.prog fn_cert_Check c_cert_Check R_cert_Check 3 = true := by kernel_rfl
/-! wapentake/cert.Make -/
@[simp] def a_cert_Make_r0 : List COper := [
  ⟨(some 2), .box, [.t 0], none⟩,
  ⟨(some 4), .alloc (.node [.v (.int .i64 0), .v (.slice none 0 0)]), [], none⟩,
  ⟨(some 5), .mov, [.c (.bool false)], none⟩]
def c_cert_Make_r0 : List COper := a_cert_Make_r0
instance : Reg c_cert_Make_r0 a_cert_Make_r0 3 := ⟨rfl, rfl⟩
@[simp] def a_cert_Make_r1 : List COper := [
  ⟨(some 7), .load true 2, [.t 2], none⟩,
  ⟨(some 8), .call fn_config_Quorum, [.t 7], none⟩,
  ⟨(some 6), .mov, [.t 8], none⟩]
def c_cert_Make_r1 : List COper := a_cert_Make_r1
instance : Reg c_cert_Make_r1 a_cert_Make_r1 3 := ⟨rfl, rfl⟩
@[simp] def a_cert_Make_r2 : List COper := [
  ⟨(some 9), .mov, [.t 1], none⟩,
  ⟨(some 10), .len, [.t 9], none⟩,
  ⟨(some 11), .mov, [.t 6], none⟩,
  ⟨(some 12), .bin .lss, [.t 10, .t 11], none⟩]
def c_cert_Make_r2 : List COper := a_cert_Make_r2
instance : Reg c_cert_Make_r2 a_cert_Make_r2 4 := ⟨rfl, rfl⟩
@[simp] def a_cert_Make_r3 : List COper := [
  ⟨(some 13), .build [.v (.int .i64 0), .v (.slice none 0 0)] [], [], none⟩,
  ⟨none, .store true 2, [.t 4, .t 13], none⟩,
  ⟨(some 5), .mov, [.c (.bool false)], none⟩]
def c_cert_Make_r3 : List COper := a_cert_Make_r3
instance : Reg c_cert_Make_r3 a_cert_Make_r3 3 := ⟨rfl, rfl⟩
@[simp] def a_cert_Make_r4 : List COper := [
  ⟨(some 14), .mov, [.t 1], none⟩,
  ⟨(some 15), .iaddr 41, [.t 14, .c (.int .i64 0)], none⟩,
  ⟨(some 16), .faddr 3 1 false, [.t 15], none⟩,
  ⟨(some 17), .load false 1, [.t 16], none⟩,
  ⟨(some 18), .bslice 41 0 (.node [.v (.int .i64 0), .v (.int .i64 0), .v (.int .i64 0), .v (.int .i64 0), .arr 1 (rep 32 (.v (.int .u8 0))), .v (.int .i64 0), .node [.v (.int .i64 0), .node [.v (.slice none 0 0), .v (.slice none 0 0)], .v (.slice none 0 0)]]) [], [], none⟩,
  ⟨(some 19), .mov, [.t 1], none⟩,
  ⟨(some 20), .mov, [.t 6], none⟩,
  ⟨(some 21), .slice 41 false true, [.t 19, .t 20], none⟩,
  ⟨(some 22), .app 41 152, [.t 18, .t 21], none⟩,
  ⟨(some 23), .build [.v (.int .i64 0), .v (.slice none 0 0)] [0, 1], [.t 17, .t 22], none⟩,
  ⟨none, .store true 2, [.t 4, .t 23], none⟩,
  ⟨(some 5), .mov, [.c (.bool true)], none⟩]
def c_cert_Make_r4 : List COper := a_cert_Make_r4
instance : Reg c_cert_Make_r4 a_cert_Make_r4 12 := ⟨rfl, rfl⟩
@[simp] def c_cert_Make : CCode :=
  .seq (.region c_cert_Make_r0 none [1, 2, 4]) (.seq (.region c_cert_Make_r1 none [1, 4, 6]) (.seq (.seq (.region c_cert_Make_r2 none [1, 4, 6, 12]) (.cond (.t 12) (.seq (.region c_cert_Make_r3 none [4, 5]) (.ret)) (.skip))) (.seq (.region c_cert_Make_r4 (some ([0, 1, 3, 7, 0, 0, 0, 96, 240, 511, 1023, 2047], [(3, 4), (3, 8)])) [4, 5]) (.ret))))
@[simp] def R_cert_Make : List CRes := [.cell 4 true 2, .tmp 5]
theorem k_cert_Make : chkFn Tryd.prog fn_cert_Make c_cert_Make R_cert_Make 2 = true := by kernel_rfl
/-! wapentake/wapentakeref14.Same -/
@[simp] def a_r14_Same_r0 : List COper := [
  ⟨(some 2), .box, [.t 0], none⟩,
  ⟨(some 3), .box, [.t 1], none⟩,
  ⟨(some 4), .mov, [.c (.bool false)], none⟩]
def c_r14_Same_r0 : List COper := a_r14_Same_r0
instance : Reg c_r14_Same_r0 a_r14_Same_r0 3 := ⟨rfl, rfl⟩
@[simp] def a_r14_Same_r1 : List COper := [
  ⟨(some 6), .faddr 0 1 false, [.t 2], none⟩,
  ⟨(some 7), .load false 1, [.t 6], none⟩,
  ⟨(some 8), .faddr 0 1 false, [.t 3], none⟩,
  ⟨(some 9), .load false 1, [.t 8], none⟩,
  ⟨(some 10), .bin .neq, [.t 7, .t 9], none⟩,
  ⟨(some 11), .mov, [.t 10], none⟩,
  ⟨(some 12), .faddr 1 1 false, [.t 2], (some (11, false))⟩,
  ⟨(some 13), .load false 1, [.t 12], (some (11, false))⟩,
  ⟨(some 14), .len, [.t 13], (some (11, false))⟩,
  ⟨(some 15), .faddr 1 1 false, [.t 3], (some (11, false))⟩,
  ⟨(some 16), .load false 1, [.t 15], (some (11, false))⟩,
  ⟨(some 17), .len, [.t 16], (some (11, false))⟩,
  ⟨(some 18), .bin .neq, [.t 14, .t 17], (some (11, false))⟩,
  ⟨(some 19), .pick, [.t 11, .c (.bool true), .t 18], none⟩]
def c_r14_Same_r1 : List COper := a_r14_Same_r1
instance : Reg c_r14_Same_r1 a_r14_Same_r1 14 := ⟨rfl, rfl⟩
@[simp] def a_r14_Same_r2 : List COper := [
  ⟨(some 4), .mov, [.c (.bool false)], none⟩]
def c_r14_Same_r2 : List COper := a_r14_Same_r2
instance : Reg c_r14_Same_r2 a_r14_Same_r2 1 := ⟨rfl, rfl⟩
@[simp] def a_r14_Same_r3 : List COper := [
  ⟨(some 20), .faddr 1 1 false, [.t 2], none⟩,
  ⟨(some 21), .load false 1, [.t 20], none⟩,
  ⟨(some 22), .len, [.t 21], none⟩,
  ⟨(some 23), .mov, [.c (.int .i64 0)], none⟩]
def c_r14_Same_r3 : List COper := a_r14_Same_r3
instance : Reg c_r14_Same_r3 a_r14_Same_r3 4 := ⟨rfl, rfl⟩
@[simp] def a_r14_Same_r4 : List COper := [
  ⟨(some 24), .bin .lss, [.t 23, .t 22], none⟩]
def c_r14_Same_r4 : List COper := a_r14_Same_r4
instance : Reg c_r14_Same_r4 a_r14_Same_r4 1 := ⟨rfl, rfl⟩
@[simp] def a_r14_Same_r5 : List COper := [
  ⟨(some 25), .mov, [.t 23], none⟩,
  ⟨(some 5), .mov, [.t 25], none⟩]
def c_r14_Same_r5 : List COper := a_r14_Same_r5
instance : Reg c_r14_Same_r5 a_r14_Same_r5 2 := ⟨rfl, rfl⟩
@[simp] def a_r14_Same_r6 : List COper := [
  ⟨(some 26), .faddr 1 1 false, [.t 2], none⟩,
  ⟨(some 27), .load false 1, [.t 26], none⟩,
  ⟨(some 28), .mov, [.t 5], none⟩,
  ⟨(some 29), .iaddr 41, [.t 27, .t 28], none⟩,
  ⟨(some 30), .load true 41, [.t 29], none⟩,
  ⟨(some 31), .faddr 1 1 false, [.t 3], none⟩,
  ⟨(some 32), .load false 1, [.t 31], none⟩,
  ⟨(some 33), .mov, [.t 5], none⟩,
  ⟨(some 34), .iaddr 41, [.t 32, .t 33], none⟩,
  ⟨(some 35), .load true 41, [.t 34], none⟩,
  ⟨(some 36), .call fn_r13_Same, [.t 30, .t 35], none⟩,
  ⟨(some 37), .not, [.t 36], none⟩]
def c_r14_Same_r6 : List COper := a_r14_Same_r6
instance : Reg c_r14_Same_r6 a_r14_Same_r6 12 := ⟨rfl, rfl⟩
@[simp] def a_r14_Same_r7 : List COper := [
  ⟨(some 4), .mov, [.c (.bool false)], none⟩]
def c_r14_Same_r7 : List COper := a_r14_Same_r7
instance : Reg c_r14_Same_r7 a_r14_Same_r7 1 := ⟨rfl, rfl⟩
@[simp] def a_r14_Same_r8 : List COper := [
  ⟨(some 38), .bin .add, [.t 23, .c (.int .i64 1)], none⟩,
  ⟨(some 23), .mov, [.t 38], none⟩]
def c_r14_Same_r8 : List COper := a_r14_Same_r8
instance : Reg c_r14_Same_r8 a_r14_Same_r8 2 := ⟨rfl, rfl⟩
@[simp] def a_r14_Same_r9 : List COper := [
  ⟨(some 4), .mov, [.c (.bool true)], none⟩]
def c_r14_Same_r9 : List COper := a_r14_Same_r9
instance : Reg c_r14_Same_r9 a_r14_Same_r9 1 := ⟨rfl, rfl⟩
@[simp] def c_r14_Same : CCode :=
  .seq (.region c_r14_Same_r0 none [2, 3]) (.seq (.seq (.region c_r14_Same_r1 none [2, 3, 19]) (.cond (.t 19) (.seq (.region c_r14_Same_r2 none [4]) (.ret)) (.skip))) (.seq (.seq (.region c_r14_Same_r3 none [2, 3, 22, 23]) (.block 0 (.loop (.seq (.region c_r14_Same_r4 none [2, 3, 22, 23, 24]) (.seq (.cond (.t 24) (.skip) (.exit 0)) (.seq (.block 1 (.seq (.region c_r14_Same_r5 none [2, 3, 5, 22, 23]) (.seq (.region c_r14_Same_r6 (some ([0, 1, 0, 7, 15, 0, 32, 0, 224, 480, 1023, 2047], [])) [2, 3, 22, 23, 37]) (.cond (.t 37) (.seq (.region c_r14_Same_r7 none [4]) (.ret)) (.skip))))) (.region c_r14_Same_r8 none [2, 3, 22, 23]))))))) (.seq (.region c_r14_Same_r9 none [4]) (.ret))))
@[simp] def R_r14_Same : List CRes := [.tmp 4]
theorem k_r14_Same : chkFn Tryd.prog fn_r14_Same c_r14_Same R_r14_Same 2 = true := by kernel_rfl
/-! wapentake/cert.Write -/
@[simp] def a_cert_Write_r0 : List COper := [
  ⟨(some 3), .box, [.t 1], none⟩,
  ⟨(some 4), .mov, [.c (.bool false)], none⟩]
def c_cert_Write_r0 : List COper := a_cert_Write_r0
instance : Reg c_cert_Write_r0 a_cert_Write_r0 2 := ⟨rfl, rfl⟩
@[simp] def a_cert_Write_r1 : List COper := [
  ⟨(some 10), .build [.v (.slice none 0 0)] [], [], none⟩,
  ⟨(some 11), .box, [.t 10], none⟩,
  ⟨(some 5), .mov, [.t 11], none⟩]
def c_cert_Write_r1 : List COper := a_cert_Write_r1
instance : Reg c_cert_Write_r1 a_cert_Write_r1 3 := ⟨rfl, rfl⟩
@[simp] def a_cert_Write_r2 : List COper := [
  ⟨(some 12), .mov, [.t 5], none⟩,
  ⟨(some 13), .faddr 0 1 false, [.t 3], none⟩,
  ⟨(some 14), .load false 1, [.t 13], none⟩,
  ⟨(some 15), .faddr 1 1 false, [.t 3], none⟩,
  ⟨(some 16), .load false 1, [.t 15], none⟩,
  ⟨(some 17), .len, [.t 16], none⟩,
  ⟨(some 18), .bslice 1 2 (.v (.int .i64 0)) [0, 1], [.t 14, .t 17], none⟩,
  ⟨(some 19), .call fn_code_Writer_Num, [.t 12, .t 18], none⟩]
def c_cert_Write_r2 : List COper := a_cert_Write_r2
instance : Reg c_cert_Write_r2 a_cert_Write_r2 8 := ⟨rfl, rfl⟩
@[simp] def a_cert_Write_r3 : List COper := [
  ⟨(some 20), .faddr 1 1 false, [.t 3], none⟩,
  ⟨(some 21), .load false 1, [.t 20], none⟩,
  ⟨(some 22), .len, [.t 21], none⟩,
  ⟨(some 23), .mov, [.c (.int .i64 0)], none⟩]
def c_cert_Write_r3 : List COper := a_cert_Write_r3
instance : Reg c_cert_Write_r3 a_cert_Write_r3 4 := ⟨rfl, rfl⟩
@[simp] def a_cert_Write_r4 : List COper := [
  ⟨(some 24), .bin .lss, [.t 23, .t 22], none⟩]
def c_cert_Write_r4 : List COper := a_cert_Write_r4
instance : Reg c_cert_Write_r4 a_cert_Write_r4 1 := ⟨rfl, rfl⟩
@[simp] def a_cert_Write_r5 : List COper := [
  ⟨(some 25), .iaddr 41, [.t 21, .t 23], none⟩,
  ⟨(some 26), .load true 41, [.t 25], none⟩,
  ⟨(some 7), .alloc (.node [.v (.int .i64 0), .v (.int .i64 0), .v (.int .i64 0), .v (.int .i64 0), .arr 1 (rep 32 (.v (.int .u8 0))), .v (.int .i64 0), .node [.v (.int .i64 0), .node [.v (.slice none 0 0), .v (.slice none 0 0)], .v (.slice none 0 0)]]), [], none⟩,
  ⟨none, .store true 41, [.t 7, .t 26], none⟩]
def c_cert_Write_r5 : List COper := a_cert_Write_r5
instance : Reg c_cert_Write_r5 a_cert_Write_r5 4 := ⟨rfl, rfl⟩
@[simp] def a_cert_Write_r6 : List COper := [
  ⟨(some 27), .mov, [.t 5], none⟩,
  ⟨(some 28), .load true 41, [.t 7], none⟩,
  ⟨(some 29), .call fn_vote_Write, [.t 27, .t 28], none⟩,
  ⟨(some 30), .not, [.t 29], none⟩]
def c_cert_Write_r6 : List COper := a_cert_Write_r6
instance : Reg c_cert_Write_r6 a_cert_Write_r6 4 := ⟨rfl, rfl⟩
@[simp] def a_cert_Write_r7 : List COper := [
  ⟨(some 4), .mov, [.c (.bool false)], none⟩]
def c_cert_Write_r7 : List COper := a_cert_Write_r7
instance : Reg c_cert_Write_r7 a_cert_Write_r7 1 := ⟨rfl, rfl⟩
@[simp] def a_cert_Write_r8 : List COper := [
  ⟨(some 31), .bin .add, [.t 23, .c (.int .i64 1)], none⟩,
  ⟨(some 23), .mov, [.t 31], none⟩]
def c_cert_Write_r8 : List COper := a_cert_Write_r8
instance : Reg c_cert_Write_r8 a_cert_Write_r8 2 := ⟨rfl, rfl⟩
@[simp] def a_cert_Write_r9 : List COper := [
  ⟨(some 32), .mov, [.t 0], none⟩,
  ⟨(some 33), .faddr 0 1 false, [.t 3], none⟩,
  ⟨(some 34), .load false 1, [.t 33], none⟩,
  ⟨(some 35), .faddr 1 1 false, [.t 3], none⟩,
  ⟨(some 36), .load false 1, [.t 35], none⟩,
  ⟨(some 37), .len, [.t 36], none⟩,
  ⟨(some 38), .bslice 1 2 (.v (.int .i64 0)) [0, 1], [.t 34, .t 37], none⟩,
  ⟨(some 39), .call fn_code_Writer_Num, [.t 32, .t 38], none⟩]
def c_cert_Write_r9 : List COper := a_cert_Write_r9
instance : Reg c_cert_Write_r9 a_cert_Write_r9 8 := ⟨rfl, rfl⟩
@[simp] def a_cert_Write_r10 : List COper := [
  ⟨(some 40), .faddr 1 1 false, [.t 3], none⟩,
  ⟨(some 41), .load false 1, [.t 40], none⟩,
  ⟨(some 42), .len, [.t 41], none⟩,
  ⟨(some 43), .mov, [.c (.int .i64 0)], none⟩]
def c_cert_Write_r10 : List COper := a_cert_Write_r10
instance : Reg c_cert_Write_r10 a_cert_Write_r10 4 := ⟨rfl, rfl⟩
@[simp] def a_cert_Write_r11 : List COper := [
  ⟨(some 44), .bin .lss, [.t 43, .t 42], none⟩]
def c_cert_Write_r11 : List COper := a_cert_Write_r11
instance : Reg c_cert_Write_r11 a_cert_Write_r11 1 := ⟨rfl, rfl⟩
@[simp] def a_cert_Write_r12 : List COper := [
  ⟨(some 45), .iaddr 41, [.t 41, .t 43], none⟩,
  ⟨(some 46), .load true 41, [.t 45], none⟩,
  ⟨(some 9), .alloc (.node [.v (.int .i64 0), .v (.int .i64 0), .v (.int .i64 0), .v (.int .i64 0), .arr 1 (rep 32 (.v (.int .u8 0))), .v (.int .i64 0), .node [.v (.int .i64 0), .node [.v (.slice none 0 0), .v (.slice none 0 0)], .v (.slice none 0 0)]]), [], none⟩,
  ⟨none, .store true 41, [.t 9, .t 46], none⟩]
def c_cert_Write_r12 : List COper := a_cert_Write_r12
instance : Reg c_cert_Write_r12 a_cert_Write_r12 4 := ⟨rfl, rfl⟩
@[simp] def a_cert_Write_r13 : List COper := [
  ⟨(some 47), .mov, [.t 0], none⟩,
  ⟨(some 48), .load true 41, [.t 9], none⟩,
  ⟨(some 49), .call fn_vote_Write, [.t 47, .t 48], none⟩]
def c_cert_Write_r13 : List COper := a_cert_Write_r13
instance : Reg c_cert_Write_r13 a_cert_Write_r13 3 := ⟨rfl, rfl⟩
@[simp] def a_cert_Write_r14 : List COper := [
  ⟨(some 50), .bin .add, [.t 43, .c (.int .i64 1)], none⟩,
  ⟨(some 43), .mov, [.t 50], none⟩]
def c_cert_Write_r14 : List COper := a_cert_Write_r14
instance : Reg c_cert_Write_r14 a_cert_Write_r14 2 := ⟨rfl, rfl⟩
@[simp] def a_cert_Write_r15 : List COper := [
  ⟨(some 4), .mov, [.c (.bool true)], none⟩]
def c_cert_Write_r15 : List COper := a_cert_Write_r15
instance : Reg c_cert_Write_r15 a_cert_Write_r15 1 := ⟨rfl, rfl⟩
@[simp] def c_cert_Write : CCode :=
  .seq (.region c_cert_Write_r0 none [0, 3]) (.seq (.region c_cert_Write_r1 none [0, 3, 5]) (.seq (.region c_cert_Write_r2 none [0, 3, 5]) (.seq (.seq (.region c_cert_Write_r3 none [0, 3, 5, 21, 22, 23]) (.block 0 (.loop (.seq (.region c_cert_Write_r4 none [0, 3, 5, 21, 22, 23, 24]) (.seq (.cond (.t 24) (.skip) (.exit 0)) (.seq (.block 1 (.seq (.region c_cert_Write_r5 none [0, 3, 5, 7, 21, 22, 23]) (.seq (.region c_cert_Write_r6 none [0, 3, 5, 21, 22, 23, 30]) (.cond (.t 30) (.seq (.region c_cert_Write_r7 none [4]) (.ret)) (.skip))))) (.region c_cert_Write_r8 none [0, 3, 5, 21, 22, 23]))))))) (.seq (.region c_cert_Write_r9 none [0, 3]) (.seq (.seq (.region c_cert_Write_r10 none [0, 41, 42, 43]) (.block 2 (.loop (.seq (.region c_cert_Write_r11 none [0, 41, 42, 43, 44]) (.seq (.cond (.t 44) (.skip) (.exit 2)) (.seq (.block 3 (.seq (.region c_cert_Write_r12 none [0, 9, 41, 42, 43]) (.region c_cert_Write_r13 none [0, 41, 42, 43]))) (.region c_cert_Write_r14 none [0, 41, 42, 43]))))))) (.seq (.region c_cert_Write_r15 none [4]) (.ret)))))))
@[simp] def R_cert_Write : List CRes := [.tmp 4]
theorem k_cert_Write : chkFn Tryd.prog fn_cert_Write c_cert_Write R_cert_Write 2 = true := by kernel_rfl
/-! wapentake/wapentakeref14.Bytes -/
@[simp] def a_r14_Bytes_r0 : List COper := [
  ⟨(some 1), .box, [.t 0], none⟩,
  ⟨(some 2), .mov, [.c (.string (mkS []))], none⟩,
  ⟨(some 3), .mov, [.c (.bool false)], none⟩]
def c_r14_Bytes_r0 : List COper := a_r14_Bytes_r0
instance : Reg c_r14_Bytes_r0 a_r14_Bytes_r0 3 := ⟨rfl, rfl⟩
@[simp] def a_r14_Bytes_r1 : List COper := [
  ⟨(some 9), .faddr 0 1 false, [.t 1], none⟩,
  ⟨(some 10), .load false 1, [.t 9], none⟩,
  ⟨(some 11), .call fn_r01_Num, [.t 10], none⟩,
  ⟨(some 12), .faddr 1 1 false, [.t 1], none⟩,
  ⟨(some 13), .load false 1, [.t 12], none⟩,
  ⟨(some 14), .len, [.t 13], none⟩,
  ⟨(some 15), .call fn_r01_Num, [.t 14], none⟩,
  ⟨(some 16), .bin .add, [.t 11, .t 15], none⟩,
  ⟨(some 4), .mov, [.t 16], none⟩]
def c_r14_Bytes_r1 : List COper := a_r14_Bytes_r1
instance : Reg c_r14_Bytes_r1 a_r14_Bytes_r1 9 := ⟨rfl, rfl⟩
@[simp] def a_r14_Bytes_r2 : List COper := [
  ⟨(some 17), .faddr 1 1 false, [.t 1], none⟩,
  ⟨(some 18), .load false 1, [.t 17], none⟩,
  ⟨(some 19), .len, [.t 18], none⟩,
  ⟨(some 20), .mov, [.c (.int .i64 0)], none⟩]
def c_r14_Bytes_r2 : List COper := a_r14_Bytes_r2
instance : Reg c_r14_Bytes_r2 a_r14_Bytes_r2 4 := ⟨rfl, rfl⟩
@[simp] def a_r14_Bytes_r3 : List COper := [
  ⟨(some 21), .bin .lss, [.t 20, .t 19], none⟩]
def c_r14_Bytes_r3 : List COper := a_r14_Bytes_r3
instance : Reg c_r14_Bytes_r3 a_r14_Bytes_r3 1 := ⟨rfl, rfl⟩
@[simp] def a_r14_Bytes_r4 : List COper := [
  ⟨(some 22), .iaddr 41, [.t 18, .t 20], none⟩,
  ⟨(some 23), .load true 41, [.t 22], none⟩,
  ⟨(some 6), .alloc (.node [.v (.int .i64 0), .v (.int .i64 0), .v (.int .i64 0), .v (.int .i64 0), .arr 1 (rep 32 (.v (.int .u8 0))), .v (.int .i64 0), .node [.v (.int .i64 0), .node [.v (.slice none 0 0), .v (.slice none 0 0)], .v (.slice none 0 0)]]), [], none⟩,
  ⟨none, .store true 41, [.t 6, .t 23], none⟩]
def c_r14_Bytes_r4 : List COper := a_r14_Bytes_r4
instance : Reg c_r14_Bytes_r4 a_r14_Bytes_r4 4 := ⟨rfl, rfl⟩
@[simp] def a_r14_Bytes_r5 : List COper := [
  ⟨(some 25), .load true 41, [.t 6], none⟩,
  ⟨(some 26), .call fn_r13_Bytes, [.t 25], none⟩,
  ⟨(some 24), .mov, [.t 26], none⟩,
  ⟨(some 27), .ext 0, [.t 24], none⟩,
  ⟨(some 28), .ext 1, [.t 24], none⟩,
  ⟨(some 7), .mov, [.t 27], none⟩,
  ⟨(some 8), .mov, [.t 28], none⟩]
def c_r14_Bytes_r5 : List COper := a_r14_Bytes_r5
instance : Reg c_r14_Bytes_r5 a_r14_Bytes_r5 7 := ⟨rfl, rfl⟩
@[simp] def a_r14_Bytes_r6 : List COper := [
  ⟨(some 29), .mov, [.t 8], none⟩,
  ⟨(some 30), .not, [.t 29], none⟩]
def c_r14_Bytes_r6 : List COper := a_r14_Bytes_r6
instance : Reg c_r14_Bytes_r6 a_r14_Bytes_r6 2 := ⟨rfl, rfl⟩
@[simp] def a_r14_Bytes_r7 : List COper := [
  ⟨(some 2), .mov, [.c (.string (mkS []))], none⟩,
  ⟨(some 3), .mov, [.c (.bool false)], none⟩]
def c_r14_Bytes_r7 : List COper := a_r14_Bytes_r7
instance : Reg c_r14_Bytes_r7 a_r14_Bytes_r7 2 := ⟨rfl, rfl⟩
@[simp] def a_r14_Bytes_r8 : List COper := [
  ⟨(some 31), .mov, [.t 4], none⟩,
  ⟨(some 32), .mov, [.t 7], none⟩,
  ⟨(some 33), .bin .add, [.t 31, .t 32], none⟩,
  ⟨(some 4), .mov, [.t 33], none⟩]
def c_r14_Bytes_r8 : List COper := a_r14_Bytes_r8
instance : Reg c_r14_Bytes_r8 a_r14_Bytes_r8 4 := ⟨rfl, rfl⟩
@[simp] def a_r14_Bytes_r9 : List COper := [
  ⟨(some 34), .bin .add, [.t 20, .c (.int .i64 1)], none⟩,
  ⟨(some 20), .mov, [.t 34], none⟩]
def c_r14_Bytes_r9 : List COper := a_r14_Bytes_r9
instance : Reg c_r14_Bytes_r9 a_r14_Bytes_r9 2 := ⟨rfl, rfl⟩
@[simp] def a_r14_Bytes_r10 : List COper := [
  ⟨(some 35), .mov, [.t 4], none⟩,
  ⟨(some 2), .mov, [.t 35], none⟩,
  ⟨(some 3), .mov, [.c (.bool true)], none⟩]
def c_r14_Bytes_r10 : List COper := a_r14_Bytes_r10
instance : Reg c_r14_Bytes_r10 a_r14_Bytes_r10 3 := ⟨rfl, rfl⟩
@[simp] def c_r14_Bytes : CCode :=
  .seq (.region c_r14_Bytes_r0 none [1]) (.seq (.region c_r14_Bytes_r1 (some ([0, 1, 3, 0, 8, 24, 63, 127, 255], [(2, 4)])) [1, 4]) (.seq (.seq (.region c_r14_Bytes_r2 none [4, 18, 19, 20]) (.block 0 (.loop (.seq (.region c_r14_Bytes_r3 none [4, 18, 19, 20, 21]) (.seq (.cond (.t 21) (.skip) (.exit 0)) (.seq (.block 1 (.seq (.region c_r14_Bytes_r4 none [4, 6, 18, 19, 20]) (.seq (.region c_r14_Bytes_r5 none [4, 7, 8, 18, 19, 20]) (.seq (.seq (.region c_r14_Bytes_r6 none [4, 7, 18, 19, 20, 30]) (.cond (.t 30) (.seq (.region c_r14_Bytes_r7 none [2, 3]) (.ret)) (.skip))) (.region c_r14_Bytes_r8 none [4, 18, 19, 20]))))) (.region c_r14_Bytes_r9 none [4, 18, 19, 20]))))))) (.seq (.region c_r14_Bytes_r10 none [2, 3]) (.ret))))
@[simp] def R_r14_Bytes : List CRes := [.tmp 2, .tmp 3]
theorem k_r14_Bytes : chkFn Tryd.prog fn_r14_Bytes c_r14_Bytes R_r14_Bytes 1 = true := by kernel_rfl
/-! (*wapentake/code.Writer).Bytes -/
@[simp] def a_code_Writer_Bytes_r0 : List COper := [
  ⟨(some 2), .mov, [.c (.slice none 0 0)], none⟩]
def c_code_Writer_Bytes_r0 : List COper := a_code_Writer_Bytes_r0
instance : Reg c_code_Writer_Bytes_r0 a_code_Writer_Bytes_r0 1 := ⟨rfl, rfl⟩
@[simp] def a_code_Writer_Bytes_r1 : List COper := [
  ⟨(some 3), .mov, [.t 0], none⟩,
  ⟨(some 4), .eqp false, [.t 3, .c (.pointer none)], none⟩]
def c_code_Writer_Bytes_r1 : List COper := a_code_Writer_Bytes_r1
instance : Reg c_code_Writer_Bytes_r1 a_code_Writer_Bytes_r1 2 := ⟨rfl, rfl⟩
@[simp] def a_code_Writer_Bytes_r2 : List COper := [
  ⟨(some 2), .mov, [.c (.slice none 0 0)], none⟩]
def c_code_Writer_Bytes_r2 : List COper := a_code_Writer_Bytes_r2
instance : Reg c_code_Writer_Bytes_r2 a_code_Writer_Bytes_r2 1 := ⟨rfl, rfl⟩
@[simp] def a_code_Writer_Bytes_r3 : List COper := [
  ⟨(some 5), .mov, [.t 0], none⟩,
  ⟨(some 6), .nilc, [.t 5], none⟩,
  ⟨(some 7), .faddr 0 1 false, [.t 6], none⟩,
  ⟨(some 8), .load false 1, [.t 7], none⟩,
  ⟨(some 9), .slice0 1, [.t 8], none⟩,
  ⟨(some 10), .mov, [.t 0], none⟩,
  ⟨(some 11), .nilc, [.t 10], none⟩,
  ⟨(some 12), .faddr 0 1 false, [.t 11], none⟩,
  ⟨(some 13), .load false 1, [.t 12], none⟩,
  ⟨(some 14), .app 1 1, [.t 9, .t 13], none⟩,
  ⟨(some 2), .mov, [.t 14], none⟩]
def c_code_Writer_Bytes_r3 : List COper := a_code_Writer_Bytes_r3
instance : Reg c_code_Writer_Bytes_r3 a_code_Writer_Bytes_r3 11 := ⟨rfl, rfl⟩
@[simp] def c_code_Writer_Bytes : CCode :=
  .seq (.region c_code_Writer_Bytes_r0 none [0]) (.seq (.seq (.region c_code_Writer_Bytes_r1 none [0, 4]) (.cond (.t 4) (.seq (.region c_code_Writer_Bytes_r2 none [2]) (.ret)) (.skip))) (.seq (.region c_code_Writer_Bytes_r3 (some ([0, 1, 3, 7, 15, 0, 32, 96, 224, 511, 1023], [(4, 8)])) [2]) (.ret)))
@[simp] def R_code_Writer_Bytes : List CRes := [.tmp 2]
theorem k_code_Writer_Bytes : chkFn Tryd.prog fn_code_Writer_Bytes c_code_Writer_Bytes R_code_Writer_Bytes 1 = true := by kernel_rfl
/-! wapentake/code.Read -/
@[simp] def a_code_Read_r0 : List COper := [
  ⟨(some 2), .mov, [.c (.pointer none)], none⟩]
def c_code_Read_r0 : List COper := a_code_Read_r0
instance : Reg c_code_Read_r0 a_code_Read_r0 1 := ⟨rfl, rfl⟩
@[simp] def a_code_Read_r1 : List COper := [
  ⟨(some 3), .bslice 1 0 (.v (.int .u8 0)) [], [], none⟩,
  ⟨(some 4), .mov, [.t 0], none⟩,
  ⟨(some 5), .app 1 1, [.t 3, .t 4], none⟩,
  ⟨(some 6), .build [.v (.slice none 0 0), .v (.bool false)] [0], [.t 5], none⟩,
  ⟨(some 7), .box, [.t 6], none⟩,
  ⟨(some 2), .mov, [.t 7], none⟩]
def c_code_Read_r1 : List COper := a_code_Read_r1
instance : Reg c_code_Read_r1 a_code_Read_r1 6 := ⟨rfl, rfl⟩
@[simp] def c_code_Read : CCode :=
  .seq (.region c_code_Read_r0 none [0]) (.seq (.region c_code_Read_r1 none [2]) (.ret))
@[simp] def R_code_Read : List CRes := [.tmp 2]
theorem k_code_Read : chkFn Tryd.prog fn_code_Read c_code_Read R_code_Read 1 = true := by kernel_rfl
/-! wapentake/cert.Read -/
@[simp] def a_cert_Read_r0 : List COper := [
  ⟨(some 2), .alloc (.node [.v (.int .i64 0), .v (.slice none 0 0)]), [], none⟩]
def c_cert_Read_r0 : List COper := a_cert_Read_r0
instance : Reg c_cert_Read_r0 a_cert_Read_r0 1 := ⟨rfl, rfl⟩
@[simp] def a_cert_Read_r1 : List COper := [
  ⟨(some 4), .mov, [.t 0], none⟩,
  ⟨(some 5), .call fn_code_Reader_In, [.t 4, .c (.int .i64 0), .c (.int .i64 1024)], none⟩,
  ⟨(some 6), .build [.v (.int .i64 0), .v (.slice none 0 0)] [0], [.t 5], none⟩,
  ⟨(some 3), .alloc (.node [.v (.int .i64 0), .v (.slice none 0 0)]), [], none⟩,
  ⟨none, .store true 2, [.t 3, .t 6], none⟩]
def c_cert_Read_r1 : List COper := a_cert_Read_r1
instance : Reg c_cert_Read_r1 a_cert_Read_r1 5 := ⟨rfl, rfl⟩
@[simp] def a_cert_Read_r2 : List COper := [
  ⟨(some 7), .mov, [.t 0], none⟩,
  ⟨(some 8), .call fn_code_Reader_In, [.t 7, .c (.int .i64 1), .c (.int .i64 10)], none⟩,
  ⟨(some 9), .mov, [.c (.int .i64 0)], none⟩]
def c_cert_Read_r2 : List COper := a_cert_Read_r2
instance : Reg c_cert_Read_r2 a_cert_Read_r2 3 := ⟨rfl, rfl⟩
@[simp] def a_cert_Read_r3 : List COper := [
  ⟨(some 10), .bin .lss, [.t 9, .t 8], none⟩]
def c_cert_Read_r3 : List COper := a_cert_Read_r3
instance : Reg c_cert_Read_r3 a_cert_Read_r3 1 := ⟨rfl, rfl⟩
@[simp] def a_cert_Read_r4 : List COper := [
  ⟨(some 11), .faddr 1 1 false, [.t 3], none⟩,
  ⟨(some 12), .load false 1, [.t 11], none⟩,
  ⟨(some 13), .mov, [.t 0], none⟩,
  ⟨(some 14), .call fn_vote_Read, [.t 13], none⟩,
  ⟨(some 15), .bslice 41 1 (.node [.v (.int .i64 0), .v (.int .i64 0), .v (.int .i64 0), .v (.int .i64 0), .arr 1 (rep 32 (.v (.int .u8 0))), .v (.int .i64 0), .node [.v (.int .i64 0), .node [.v (.slice none 0 0), .v (.slice none 0 0)], .v (.slice none 0 0)]]) [0], [.t 14], none⟩,
  ⟨(some 16), .app 41 152, [.t 12, .t 15], none⟩,
  ⟨(some 17), .faddr 1 1 false, [.t 3], none⟩,
  ⟨none, .store false 1, [.t 17, .t 16], none⟩]
def c_cert_Read_r4 : List COper := a_cert_Read_r4
instance : Reg c_cert_Read_r4 a_cert_Read_r4 8 := ⟨rfl, rfl⟩
@[simp] def a_cert_Read_r5 : List COper := [
  ⟨(some 18), .bin .add, [.t 9, .c (.int .i64 1)], none⟩,
  ⟨(some 9), .mov, [.t 18], none⟩]
def c_cert_Read_r5 : List COper := a_cert_Read_r5
instance : Reg c_cert_Read_r5 a_cert_Read_r5 2 := ⟨rfl, rfl⟩
@[simp] def a_cert_Read_r6 : List COper := [
  ⟨(some 19), .mov, [.t 0], none⟩,
  ⟨(some 20), .call fn_code_Reader_Good, [.t 19], none⟩,
  ⟨(some 21), .not, [.t 20], none⟩]
def c_cert_Read_r6 : List COper := a_cert_Read_r6
instance : Reg c_cert_Read_r6 a_cert_Read_r6 3 := ⟨rfl, rfl⟩
@[simp] def a_cert_Read_r7 : List COper := [
  ⟨(some 22), .build [.v (.int .i64 0), .v (.slice none 0 0)] [], [], none⟩,
  ⟨none, .store true 2, [.t 2, .t 22], none⟩]
def c_cert_Read_r7 : List COper := a_cert_Read_r7
instance : Reg c_cert_Read_r7 a_cert_Read_r7 2 := ⟨rfl, rfl⟩
@[simp] def a_cert_Read_r8 : List COper := [
  ⟨(some 23), .load true 2, [.t 3], none⟩,
  ⟨none, .store true 2, [.t 2, .t 23], none⟩]
def c_cert_Read_r8 : List COper := a_cert_Read_r8
instance : Reg c_cert_Read_r8 a_cert_Read_r8 2 := ⟨rfl, rfl⟩
@[simp] def c_cert_Read : CCode :=
  .seq (.region c_cert_Read_r0 none [0, 2]) (.seq (.region c_cert_Read_r1 none [0, 2, 3]) (.seq (.seq (.region c_cert_Read_r2 none [0, 2, 3, 8, 9]) (.block 0 (.loop (.seq (.region c_cert_Read_r3 none [0, 2, 3, 8, 9, 10]) (.seq (.cond (.t 10) (.skip) (.exit 0)) (.seq (.block 1 (.region c_cert_Read_r4 (some ([0, 1, 0, 4, 12, 31, 63, 127], [(1, 3), (1, 4)])) [0, 2, 3, 8, 9])) (.region c_cert_Read_r5 none [0, 2, 3, 8, 9]))))))) (.seq (.seq (.region c_cert_Read_r6 none [2, 3, 21]) (.cond (.t 21) (.seq (.region c_cert_Read_r7 none [2]) (.ret)) (.skip))) (.seq (.region c_cert_Read_r8 none [2]) (.ret)))))
@[simp] def R_cert_Read : List CRes := [.cell 2 true 2]
theorem k_cert_Read : chkFn Tryd.prog fn_cert_Read c_cert_Read R_cert_Read 1 = true := by kernel_rfl
/-! wapentake/wapentakeref14.Read -/
@[simp] def a_r14_Read_r0 : List COper := [
  ⟨(some 2), .alloc (.node [.v (.int .i64 0), .v (.slice none 0 0)]), [], none⟩]
def c_r14_Read_r0 : List COper := a_r14_Read_r0
instance : Reg c_r14_Read_r0 a_r14_Read_r0 1 := ⟨rfl, rfl⟩
@[simp] def a_r14_Read_r1 : List COper := [
  ⟨(some 3), .alloc (.node [.v (.int .i64 0), .v (.slice none 0 0)]), [], none⟩]
def c_r14_Read_r1 : List COper := a_r14_Read_r1
instance : Reg c_r14_Read_r1 a_r14_Read_r1 1 := ⟨rfl, rfl⟩
@[simp] def a_r14_Read_r2 : List COper := [
  ⟨(some 6), .mov, [.t 0], none⟩,
  ⟨(some 7), .call fn_r01_Reader_In, [.t 6, .c (.int .i64 0), .c (.int .i64 1024)], none⟩,
  ⟨(some 8), .faddr 0 1 false, [.t 3], none⟩,
  ⟨none, .store false 1, [.t 8, .t 7], none⟩]
def c_r14_Read_r2 : List COper := a_r14_Read_r2
instance : Reg c_r14_Read_r2 a_r14_Read_r2 4 := ⟨rfl, rfl⟩
@[simp] def a_r14_Read_r3 : List COper := [
  ⟨(some 9), .mov, [.t 0], none⟩,
  ⟨(some 10), .call fn_r01_Reader_In, [.t 9, .c (.int .i64 1), .c (.int .i64 10)], none⟩,
  ⟨(some 4), .mov, [.t 10], none⟩]
def c_r14_Read_r3 : List COper := a_r14_Read_r3
instance : Reg c_r14_Read_r3 a_r14_Read_r3 3 := ⟨rfl, rfl⟩
@[simp] def a_r14_Read_r4 : List COper := [
  ⟨(some 5), .mov, [.c (.int .i64 0)], none⟩]
def c_r14_Read_r4 : List COper := a_r14_Read_r4
instance : Reg c_r14_Read_r4 a_r14_Read_r4 1 := ⟨rfl, rfl⟩
@[simp] def a_r14_Read_r5 : List COper := [
  ⟨(some 11), .mov, [.t 5], none⟩,
  ⟨(some 12), .mov, [.t 4], none⟩,
  ⟨(some 13), .bin .lss, [.t 11, .t 12], none⟩,
  ⟨(some 14), .mov, [.t 13], none⟩,
  ⟨(some 15), .mov, [.t 0], (some (14, true))⟩,
  ⟨(some 16), .call fn_r01_Reader_Good, [.t 15], (some (14, true))⟩,
  ⟨(some 17), .pick, [.t 14, .t 16, .c (.bool false)], none⟩]
def c_r14_Read_r5 : List COper := a_r14_Read_r5
instance : Reg c_r14_Read_r5 a_r14_Read_r5 7 := ⟨rfl, rfl⟩
@[simp] def a_r14_Read_r7 : List COper := [
  ⟨(some 20), .faddr 1 1 false, [.t 3], none⟩,
  ⟨(some 21), .load false 1, [.t 20], none⟩,
  ⟨(some 22), .mov, [.t 0], none⟩,
  ⟨(some 23), .call fn_r13_Read, [.t 22], none⟩,
  ⟨(some 24), .bslice 41 1 (.node [.v (.int .i64 0), .v (.int .i64 0), .v (.int .i64 0), .v (.int .i64 0), .arr 1 (rep 32 (.v (.int .u8 0))), .v (.int .i64 0), .node [.v (.int .i64 0), .node [.v (.slice none 0 0), .v (.slice none 0 0)], .v (.slice none 0 0)]]) [0], [.t 23], none⟩,
  ⟨(some 25), .app 41 152, [.t 21, .t 24], none⟩,
  ⟨(some 26), .faddr 1 1 false, [.t 3], none⟩,
  ⟨none, .store false 1, [.t 26, .t 25], none⟩]
def c_r14_Read_r7 : List COper := a_r14_Read_r7
instance : Reg c_r14_Read_r7 a_r14_Read_r7 8 := ⟨rfl, rfl⟩
@[simp] def a_r14_Read_r6 : List COper := [
  ⟨(some 18), .mov, [.t 5], none⟩,
  ⟨(some 19), .bin .add, [.t 18, .c (.int .i64 1)], none⟩,
  ⟨(some 5), .mov, [.t 19], none⟩]
def c_r14_Read_r6 : List COper := a_r14_Read_r6
instance : Reg c_r14_Read_r6 a_r14_Read_r6 3 := ⟨rfl, rfl⟩
@[simp] def a_r14_Read_r8 : List COper := [
  ⟨(some 27), .mov, [.t 0], none⟩,
  ⟨(some 28), .call fn_r01_Reader_Good, [.t 27], none⟩,
  ⟨(some 29), .not, [.t 28], none⟩]
def c_r14_Read_r8 : List COper := a_r14_Read_r8
instance : Reg c_r14_Read_r8 a_r14_Read_r8 3 := ⟨rfl, rfl⟩
@[simp] def a_r14_Read_r9 : List COper := [
  ⟨(some 30), .build [.v (.int .i64 0), .v (.slice none 0 0)] [], [], none⟩,
  ⟨none, .store true 2, [.t 2, .t 30], none⟩]
def c_r14_Read_r9 : List COper := a_r14_Read_r9
instance : Reg c_r14_Read_r9 a_r14_Read_r9 2 := ⟨rfl, rfl⟩
@[simp] def a_r14_Read_r10 : List COper := [
  ⟨(some 31), .load true 2, [.t 3], none⟩,
  ⟨none, .store true 2, [.t 2, .t 31], none⟩]
def c_r14_Read_r10 : List COper := a_r14_Read_r10
instance : Reg c_r14_Read_r10 a_r14_Read_r10 2 := ⟨rfl, rfl⟩
@[simp] def c_r14_Read : CCode :=
  .seq (.region c_r14_Read_r0 none [0, 2]) (.seq (.region c_r14_Read_r1 none [0, 2, 3]) (.seq (.region c_r14_Read_r2 none [0, 2, 3]) (.seq (.region c_r14_Read_r3 none [0, 2, 3, 4]) (.seq (.seq (.region c_r14_Read_r4 none [0, 2, 3, 4, 5]) (.block 0 (.loop (.seq (.seq (.region c_r14_Read_r5 none [0, 2, 3, 4, 5, 17]) (.cond (.t 17) (.skip) (.exit 0))) (.seq (.block 1 (.region c_r14_Read_r7 (some ([0, 1, 0, 4, 12, 31, 63, 127], [(1, 3), (1, 4)])) [0, 2, 3, 4, 5])) (.region c_r14_Read_r6 none [0, 2, 3, 4, 5])))))) (.seq (.seq (.region c_r14_Read_r8 none [2, 3, 29]) (.cond (.t 29) (.seq (.region c_r14_Read_r9 none [2]) (.ret)) (.skip))) (.seq (.region c_r14_Read_r10 none [2]) (.ret)))))))
@[simp] def R_r14_Read : List CRes := [.cell 2 true 2]
theorem k_r14_Read : chkFn Tryd.prog fn_r14_Read c_r14_Read R_r14_Read 1 = true := by kernel_rfl
/-! (*wapentake/code.Reader).Good -/
@[simp] def a_code_Reader_Good_r0 : List COper := [
  ⟨(some 2), .mov, [.c (.bool false)], none⟩]
def c_code_Reader_Good_r0 : List COper := a_code_Reader_Good_r0
instance : Reg c_code_Reader_Good_r0 a_code_Reader_Good_r0 1 := ⟨rfl, rfl⟩
@[simp] def a_code_Reader_Good_r1 : List COper := [
  ⟨(some 3), .mov, [.t 0], none⟩,
  ⟨(some 4), .eqp true, [.t 3, .c (.pointer none)], none⟩,
  ⟨(some 5), .mov, [.t 4], none⟩,
  ⟨(some 6), .mov, [.t 0], (some (5, true))⟩,
  ⟨(some 7), .nilc, [.t 6], (some (5, true))⟩,
  ⟨(some 8), .faddr 1 1 false, [.t 7], (some (5, true))⟩,
  ⟨(some 9), .load false 1, [.t 8], (some (5, true))⟩,
  ⟨(some 10), .not, [.t 9], (some (5, true))⟩,
  ⟨(some 11), .pick, [.t 5, .t 10, .c (.bool false)], none⟩,
  ⟨(some 2), .mov, [.t 11], none⟩]
def c_code_Reader_Good_r1 : List COper := a_code_Reader_Good_r1
instance : Reg c_code_Reader_Good_r1 a_code_Reader_Good_r1 10 := ⟨rfl, rfl⟩
@[simp] def c_code_Reader_Good : CCode :=
  .seq (.region c_code_Reader_Good_r0 none [0]) (.seq (.region c_code_Reader_Good_r1 none [2]) (.ret))
@[simp] def R_code_Reader_Good : List CRes := [.tmp 2]
theorem k_code_Reader_Good : chkFn Tryd.prog fn_code_Reader_Good c_code_Reader_Good R_code_Reader_Good 1 = true := by kernel_rfl
/-! (*wapentake/wapentakeref01.Reader).Good -/
@[simp] def a_r01_Reader_Good_r0 : List COper := [
  ⟨(some 2), .mov, [.c (.bool false)], none⟩]
def c_r01_Reader_Good_r0 : List COper := a_r01_Reader_Good_r0
instance : Reg c_r01_Reader_Good_r0 a_r01_Reader_Good_r0 1 := ⟨rfl, rfl⟩
@[simp] def a_r01_Reader_Good_r1 : List COper := [
  ⟨(some 3), .mov, [.t 0], none⟩,
  ⟨(some 4), .nilc, [.t 3], none⟩,
  ⟨(some 5), .faddr 1 1 false, [.t 4], none⟩,
  ⟨(some 6), .load false 1, [.t 5], none⟩,
  ⟨(some 7), .not, [.t 6], none⟩,
  ⟨(some 2), .mov, [.t 7], none⟩]
def c_r01_Reader_Good_r1 : List COper := a_r01_Reader_Good_r1
instance : Reg c_r01_Reader_Good_r1 a_r01_Reader_Good_r1 6 := ⟨rfl, rfl⟩
@[simp] def c_r01_Reader_Good : CCode :=
  .seq (.region c_r01_Reader_Good_r0 none [0]) (.seq (.region c_r01_Reader_Good_r1 none [2]) (.ret))
@[simp] def R_r01_Reader_Good : List CRes := [.tmp 2]
theorem k_r01_Reader_Good : chkFn Tryd.prog fn_r01_Reader_Good c_r01_Reader_Good R_r01_Reader_Good 1 = true := by kernel_rfl
/-! (*wapentake/code.Reader).End -/
@[simp] def a_code_Reader_End_r0 : List COper := [
  ⟨(some 2), .mov, [.c (.bool false)], none⟩]
def c_code_Reader_End_r0 : List COper := a_code_Reader_End_r0
instance : Reg c_code_Reader_End_r0 a_code_Reader_End_r0 1 := ⟨rfl, rfl⟩
@[simp] def a_code_Reader_End_r1 : List COper := [
  ⟨(some 3), .mov, [.t 0], none⟩,
  ⟨(some 4), .call fn_code_Reader_Good, [.t 3], none⟩,
  ⟨(some 5), .mov, [.t 4], none⟩,
  ⟨(some 6), .mov, [.t 0], (some (5, true))⟩,
  ⟨(some 7), .nilc, [.t 6], (some (5, true))⟩,
  ⟨(some 8), .faddr 0 1 false, [.t 7], (some (5, true))⟩,
  ⟨(some 9), .load false 1, [.t 8], (some (5, true))⟩,
  ⟨(some 10), .len, [.t 9], (some (5, true))⟩,
  ⟨(some 11), .bin .eql, [.t 10, .c (.int .i64 0)], (some (5, true))⟩,
  ⟨(some 12), .pick, [.t 5, .t 11, .c (.bool false)], none⟩,
  ⟨(some 2), .mov, [.t 12], none⟩]
def c_code_Reader_End_r1 : List COper := a_code_Reader_End_r1
instance : Reg c_code_Reader_End_r1 a_code_Reader_End_r1 11 := ⟨rfl, rfl⟩
@[simp] def c_code_Reader_End : CCode :=
  .seq (.region c_code_Reader_End_r0 none [0]) (.seq (.region c_code_Reader_End_r1 none [2]) (.ret))
@[simp] def R_code_Reader_End : List CRes := [.tmp 2]
theorem k_code_Reader_End : chkFn Tryd.prog fn_code_Reader_End c_code_Reader_End R_code_Reader_End 1 = true := by kernel_rfl
/-! (*wapentake/wapentakeref01.Reader).End -/
@[simp] def a_r01_Reader_End_r0 : List COper := [
  ⟨(some 2), .mov, [.c (.bool false)], none⟩]
def c_r01_Reader_End_r0 : List COper := a_r01_Reader_End_r0
instance : Reg c_r01_Reader_End_r0 a_r01_Reader_End_r0 1 := ⟨rfl, rfl⟩
@[simp] def a_r01_Reader_End_r1 : List COper := [
  ⟨(some 3), .mov, [.t 0], none⟩,
  ⟨(some 4), .nilc, [.t 3], none⟩,
  ⟨(some 5), .faddr 1 1 false, [.t 4], none⟩,
  ⟨(some 6), .load false 1, [.t 5], none⟩,
  ⟨(some 7), .not, [.t 6], none⟩,
  ⟨(some 8), .mov, [.t 7], none⟩,
  ⟨(some 9), .mov, [.t 0], (some (8, true))⟩,
  ⟨(some 10), .nilc, [.t 9], (some (8, true))⟩,
  ⟨(some 11), .faddr 0 1 false, [.t 10], (some (8, true))⟩,
  ⟨(some 12), .load false 1, [.t 11], (some (8, true))⟩,
  ⟨(some 13), .bin .eql, [.t 12, .c (.string (mkS []))], (some (8, true))⟩,
  ⟨(some 14), .pick, [.t 8, .t 13, .c (.bool false)], none⟩,
  ⟨(some 2), .mov, [.t 14], none⟩]
def c_r01_Reader_End_r1 : List COper := a_r01_Reader_End_r1
instance : Reg c_r01_Reader_End_r1 a_r01_Reader_End_r1 13 := ⟨rfl, rfl⟩
@[simp] def c_r01_Reader_End : CCode :=
  .seq (.region c_r01_Reader_End_r0 none [0]) (.seq (.region c_r01_Reader_End_r1 none [2]) (.ret))
@[simp] def R_r01_Reader_End : List CRes := [.tmp 2]
theorem k_r01_Reader_End : chkFn Tryd.prog fn_r01_Reader_End c_r01_Reader_End R_r01_Reader_End 1 = true := by kernel_rfl
/-! wapentake/wapentakeref12.Great -/
@[simp] def a_r12_Great_r0 : List COper := [
  ⟨(some 2), .box, [.t 0], none⟩,
  ⟨(some 4), .mov, [.c (.bool false)], none⟩]
def c_r12_Great_r0 : List COper := a_r12_Great_r0
instance : Reg c_r12_Great_r0 a_r12_Great_r0 2 := ⟨rfl, rfl⟩
@[simp] def a_r12_Great_r1 : List COper := [
  ⟨(some 5), .mov, [.c (.int .i64 0)], none⟩]
def c_r12_Great_r1 : List COper := a_r12_Great_r1
instance : Reg c_r12_Great_r1 a_r12_Great_r1 1 := ⟨rfl, rfl⟩
@[simp] def a_r12_Great_r2 : List COper := [
  ⟨(some 10), .faddr 98 1 false, [.t 2], none⟩,
  ⟨(some 11), .load false 1, [.t 10], none⟩,
  ⟨(some 12), .len, [.t 11], none⟩,
  ⟨(some 13), .bin .gtr, [.t 12, .c (.int .i64 40)], none⟩]
def c_r12_Great_r2 : List COper := a_r12_Great_r2
instance : Reg c_r12_Great_r2 a_r12_Great_r2 4 := ⟨rfl, rfl⟩
@[simp] def a_r12_Great_r3 : List COper := [
  ⟨(some 4), .mov, [.c (.bool true)], none⟩]
def c_r12_Great_r3 : List COper := a_r12_Great_r3
instance : Reg c_r12_Great_r3 a_r12_Great_r3 1 := ⟨rfl, rfl⟩
@[simp] def a_r12_Great_r4 : List COper := [
  ⟨(some 14), .faddr 98 1 false, [.t 2], none⟩,
  ⟨(some 15), .load false 1, [.t 14], none⟩,
  ⟨(some 16), .len, [.t 15], none⟩,
  ⟨(some 17), .mov, [.c (.int .i64 0)], none⟩]
def c_r12_Great_r4 : List COper := a_r12_Great_r4
instance : Reg c_r12_Great_r4 a_r12_Great_r4 4 := ⟨rfl, rfl⟩
@[simp] def a_r12_Great_r5 : List COper := [
  ⟨(some 18), .bin .lss, [.t 17, .t 16], none⟩]
def c_r12_Great_r5 : List COper := a_r12_Great_r5
instance : Reg c_r12_Great_r5 a_r12_Great_r5 1 := ⟨rfl, rfl⟩
@[simp] def a_r12_Great_r6 : List COper := [
  ⟨(some 19), .iaddr 42, [.t 15, .t 17], none⟩,
  ⟨(some 20), .load true 42, [.t 19], none⟩,
  ⟨(some 7), .alloc (.node [.v (.int .i64 0), .v (.int .i64 0), .node [.v (.int .i64 0), .v (.string (mkS [])), .v (.string (mkS [])), .v (.string (mkS [])), .node [.v (.int .i64 0), .v (.int .i64 0), .v (.int .i64 0), .node [.arr 1 (rep 32 (.v (.int .u8 0))), .v (.int .i64 0)]]]]), [], none⟩,
  ⟨none, .store true 42, [.t 7, .t 20], none⟩]
def c_r12_Great_r6 : List COper := a_r12_Great_r6
instance : Reg c_r12_Great_r6 a_r12_Great_r6 4 := ⟨rfl, rfl⟩
@[simp] def a_r12_Great_r7 : List COper := [
  ⟨(some 21), .mov, [.t 5], none⟩,
  ⟨(some 22), .bin .add, [.t 21, .c (.int .i64 100)], none⟩,
  ⟨(some 5), .mov, [.t 22], none⟩]
def c_r12_Great_r7 : List COper := a_r12_Great_r7
instance : Reg c_r12_Great_r7 a_r12_Great_r7 3 := ⟨rfl, rfl⟩
@[simp] def a_r12_Great_r8 : List COper := [
  ⟨(some 23), .faddr 2 40 true, [.t 7], none⟩,
  ⟨(some 24), .faddr 1 1 false, [.t 23], none⟩,
  ⟨(some 25), .load false 1, [.t 24], none⟩,
  ⟨(some 26), .faddr 2 40 true, [.t 7], none⟩,
  ⟨(some 27), .faddr 2 1 false, [.t 26], none⟩,
  ⟨(some 28), .load false 1, [.t 27], none⟩,
  ⟨(some 29), .faddr 2 40 true, [.t 7], none⟩,
  ⟨(some 30), .faddr 3 1 false, [.t 29], none⟩,
  ⟨(some 31), .load false 1, [.t 30], none⟩,
  ⟨(some 32), .buildA 1 (rep 3 (.v (.string (mkS [])))) (upTo 3), [.t 25, .t 28, .t 31], none⟩,
  ⟨(some 33), .mov, [.c (.int .i64 0)], none⟩]
def c_r12_Great_r8 : List COper := a_r12_Great_r8
instance : Reg c_r12_Great_r8 a_r12_Great_r8 11 := ⟨rfl, rfl⟩
@[simp] def a_r12_Great_r9 : List COper := [
  ⟨(some 34), .bin .lss, [.t 33, .c (.int .i64 3)], none⟩]
def c_r12_Great_r9 : List COper := a_r12_Great_r9
instance : Reg c_r12_Great_r9 a_r12_Great_r9 1 := ⟨rfl, rfl⟩
@[simp] def a_r12_Great_r10 : List COper := [
  ⟨(some 35), .idx false 3 1, [.t 32, .t 33], none⟩,
  ⟨(some 9), .mov, [.t 35], none⟩]
def c_r12_Great_r10 : List COper := a_r12_Great_r10
instance : Reg c_r12_Great_r10 a_r12_Great_r10 2 := ⟨rfl, rfl⟩
@[simp] def a_r12_Great_r11 : List COper := [
  ⟨(some 36), .mov, [.t 5], none⟩,
  ⟨(some 37), .mov, [.t 9], none⟩,
  ⟨(some 38), .lenS, [.t 37], none⟩,
  ⟨(some 39), .bin .add, [.t 36, .t 38], none⟩,
  ⟨(some 5), .mov, [.t 39], none⟩]
def c_r12_Great_r11 : List COper := a_r12_Great_r11
instance : Reg c_r12_Great_r11 a_r12_Great_r11 5 := ⟨rfl, rfl⟩
@[simp] def a_r12_Great_r12 : List COper := [
  ⟨(some 40), .mov, [.t 5], none⟩,
  ⟨(some 41), .mov, [.t 1], none⟩,
  ⟨(some 42), .bin .gtr, [.t 40, .t 41], none⟩]
def c_r12_Great_r12 : List COper := a_r12_Great_r12
instance : Reg c_r12_Great_r12 a_r12_Great_r12 3 := ⟨rfl, rfl⟩
@[simp] def a_r12_Great_r13 : List COper := [
  ⟨(some 4), .mov, [.c (.bool true)], none⟩]
def c_r12_Great_r13 : List COper := a_r12_Great_r13
instance : Reg c_r12_Great_r13 a_r12_Great_r13 1 := ⟨rfl, rfl⟩
@[simp] def a_r12_Great_r14 : List COper := [
  ⟨(some 43), .bin .add, [.t 33, .c (.int .i64 1)], none⟩,
  ⟨(some 33), .mov, [.t 43], none⟩]
def c_r12_Great_r14 : List COper := a_r12_Great_r14
instance : Reg c_r12_Great_r14 a_r12_Great_r14 2 := ⟨rfl, rfl⟩
@[simp] def a_r12_Great_r15 : List COper := [
  ⟨(some 44), .bin .add, [.t 17, .c (.int .i64 1)], none⟩,
  ⟨(some 17), .mov, [.t 44], none⟩]
def c_r12_Great_r15 : List COper := a_r12_Great_r15
instance : Reg c_r12_Great_r15 a_r12_Great_r15 2 := ⟨rfl, rfl⟩
@[simp] def a_r12_Great_r16 : List COper := [
  ⟨(some 45), .mov, [.t 5], none⟩,
  ⟨(some 46), .mov, [.t 1], none⟩,
  ⟨(some 47), .bin .gtr, [.t 45, .t 46], none⟩,
  ⟨(some 4), .mov, [.t 47], none⟩]
def c_r12_Great_r16 : List COper := a_r12_Great_r16
instance : Reg c_r12_Great_r16 a_r12_Great_r16 4 := ⟨rfl, rfl⟩
@[simp] def c_r12_Great : CCode :=
  .seq (.region c_r12_Great_r0 none [1, 2]) (.seq (.region c_r12_Great_r1 none [1, 2, 5]) (.seq (.seq (.region c_r12_Great_r2 none [1, 2, 5, 13]) (.cond (.t 13) (.seq (.region c_r12_Great_r3 none [4]) (.ret)) (.skip))) (.seq (.seq (.region c_r12_Great_r4 none [1, 5, 15, 16, 17]) (.block 0 (.loop (.seq (.region c_r12_Great_r5 none [1, 5, 15, 16, 17, 18]) (.seq (.cond (.t 18) (.skip) (.exit 0)) (.seq (.block 1 (.seq (.region c_r12_Great_r6 none [1, 5, 7, 15, 16, 17]) (.seq (.region c_r12_Great_r7 none [1, 5, 7, 15, 16, 17]) (.seq (.region c_r12_Great_r8 none [1, 5, 15, 16, 17, 32, 33]) (.block 2 (.loop (.seq (.region c_r12_Great_r9 none [1, 5, 15, 16, 17, 32, 33, 34]) (.seq (.cond (.t 34) (.skip) (.exit 2)) (.seq (.block 3 (.seq (.region c_r12_Great_r10 none [1, 5, 9, 15, 16, 17, 32, 33]) (.seq (.region c_r12_Great_r11 none [1, 5, 15, 16, 17, 32, 33]) (.seq (.region c_r12_Great_r12 none [1, 5, 15, 16, 17, 32, 33, 42]) (.cond (.t 42) (.seq (.region c_r12_Great_r13 none [4]) (.ret)) (.skip)))))) (.region c_r12_Great_r14 none [1, 5, 15, 16, 17, 32, 33])))))))))) (.region c_r12_Great_r15 none [1, 5, 15, 16, 17]))))))) (.seq (.region c_r12_Great_r16 none [4]) (.ret)))))
@[simp] def R_r12_Great : List CRes := [.tmp 4]
theorem k_r12_Great : chkFn Tryd.prog fn_r12_Great c_r12_Great R_r12_Great 2 = true := by kernel_rfl
/-! wapentake/config.Good -/
@[simp] def a_config_Good_r0 : List COper := [
  ⟨(some 1), .box, [.t 0], none⟩,
  ⟨(some 2), .mov, [.c (.bool false)], none⟩]
def c_config_Good_r0 : List COper := a_config_Good_r0
instance : Reg c_config_Good_r0 a_config_Good_r0 2 := ⟨rfl, rfl⟩
@[simp] def a_config_Good_r1 : List COper := [
  ⟨(some 5), .faddr 0 1 false, [.t 1], none⟩,
  ⟨(some 6), .load false 1, [.t 5], none⟩,
  ⟨(some 7), .bin .lss, [.t 6, .c (.int .i64 0)], none⟩,
  ⟨(some 8), .mov, [.t 7], none⟩,
  ⟨(some 9), .faddr 0 1 false, [.t 1], (some (8, false))⟩,
  ⟨(some 10), .load false 1, [.t 9], (some (8, false))⟩,
  ⟨(some 11), .bin .gtr, [.t 10, .c (.int .i64 1073741824)], (some (8, false))⟩,
  ⟨(some 12), .pick, [.t 8, .c (.bool true), .t 11], none⟩,
  ⟨(some 13), .mov, [.t 12], none⟩,
  ⟨(some 14), .faddr 1 1 false, [.t 1], (some (13, false))⟩,
  ⟨(some 15), .load false 1, [.t 14], (some (13, false))⟩,
  ⟨(some 16), .len, [.t 15], (some (13, false))⟩,
  ⟨(some 17), .bin .eql, [.t 16, .c (.int .i64 0)], (some (13, false))⟩,
  ⟨(some 18), .pick, [.t 13, .c (.bool true), .t 17], none⟩,
  ⟨(some 19), .mov, [.t 18], none⟩,
  ⟨(some 20), .faddr 1 1 false, [.t 1], (some (19, false))⟩,
  ⟨(some 21), .load false 1, [.t 20], (some (19, false))⟩,
  ⟨(some 22), .len, [.t 21], (some (19, false))⟩,
  ⟨(some 23), .bin .gtr, [.t 22, .c (.int .i64 10)], (some (19, false))⟩,
  ⟨(some 24), .pick, [.t 19, .c (.bool true), .t 23], none⟩]
def c_config_Good_r1 : List COper := a_config_Good_r1
instance : Reg c_config_Good_r1 a_config_Good_r1 20 := ⟨rfl, rfl⟩
@[simp] def a_config_Good_r2 : List COper := [
  ⟨(some 2), .mov, [.c (.bool false)], none⟩]
def c_config_Good_r2 : List COper := a_config_Good_r2
instance : Reg c_config_Good_r2 a_config_Good_r2 1 := ⟨rfl, rfl⟩
@[simp] def a_config_Good_r3 : List COper := [
  ⟨(some 25), .faddr 1 1 false, [.t 1], none⟩,
  ⟨(some 26), .load false 1, [.t 25], none⟩,
  ⟨(some 27), .len, [.t 26], none⟩,
  ⟨(some 28), .mov, [.c (.int .i64 0)], none⟩]
def c_config_Good_r3 : List COper := a_config_Good_r3
instance : Reg c_config_Good_r3 a_config_Good_r3 4 := ⟨rfl, rfl⟩
@[simp] def a_config_Good_r4 : List COper := [
  ⟨(some 29), .bin .lss, [.t 28, .t 27], none⟩]
def c_config_Good_r4 : List COper := a_config_Good_r4
instance : Reg c_config_Good_r4 a_config_Good_r4 1 := ⟨rfl, rfl⟩
@[simp] def a_config_Good_r5 : List COper := [
  ⟨(some 30), .mov, [.t 28], none⟩,
  ⟨(some 31), .iaddr 34, [.t 26, .t 28], none⟩,
  ⟨(some 32), .load true 34, [.t 31], none⟩,
  ⟨(some 4), .alloc (.node [.v (.int .i64 0), .node [.arr 1 (rep 32 (.v (.int .u8 0))), .v (.int .i64 0)]]), [], none⟩,
  ⟨(some 3), .mov, [.t 30], none⟩,
  ⟨none, .store true 34, [.t 4, .t 32], none⟩]
def c_config_Good_r5 : List COper := a_config_Good_r5
instance : Reg c_config_Good_r5 a_config_Good_r5 6 := ⟨rfl, rfl⟩
@[simp] def a_config_Good_r6 : List COper := [
  ⟨(some 33), .load true 34, [.t 4], none⟩,
  ⟨(some 34), .call fn_config_right, [.t 33], none⟩,
  ⟨(some 35), .not, [.t 34], none⟩,
  ⟨(some 36), .mov, [.t 35], none⟩,
  ⟨(some 37), .mov, [.t 3], (some (36, false))⟩,
  ⟨(some 38), .bin .gtr, [.t 37, .c (.int .i64 0)], (some (36, false))⟩,
  ⟨(some 39), .mov, [.t 38], (some (36, false))⟩,
  ⟨(some 40), .faddr 1 1 false, [.t 1], (some (39, true))⟩,
  ⟨(some 41), .load false 1, [.t 40], (some (39, true))⟩,
  ⟨(some 42), .mov, [.t 3], (some (39, true))⟩,
  ⟨(some 43), .bin .sub, [.t 42, .c (.int .i64 1)], (some (39, true))⟩,
  ⟨(some 44), .iaddr 34, [.t 41, .t 43], (some (39, true))⟩,
  ⟨(some 45), .faddr 0 1 false, [.t 44], (some (39, true))⟩,
  ⟨(some 46), .load false 1, [.t 45], (some (39, true))⟩,
  ⟨(some 47), .faddr 0 1 false, [.t 4], (some (39, true))⟩,
  ⟨(some 48), .load false 1, [.t 47], (some (39, true))⟩,
  ⟨(some 49), .bin .geq, [.t 46, .t 48], (some (39, true))⟩,
  ⟨(some 50), .pick, [.t 39, .t 49, .c (.bool false)], (some (36, false))⟩,
  ⟨(some 51), .pick, [.t 36, .c (.bool true), .t 50], none⟩]
def c_config_Good_r6 : List COper := a_config_Good_r6
instance : Reg c_config_Good_r6 a_config_Good_r6 19 := ⟨rfl, rfl⟩
@[simp] def a_config_Good_r7 : List COper := [
  ⟨(some 2), .mov, [.c (.bool false)], none⟩]
def c_config_Good_r7 : List COper := a_config_Good_r7
instance : Reg c_config_Good_r7 a_config_Good_r7 1 := ⟨rfl, rfl⟩
@[simp] def a_config_Good_r8 : List COper := [
  ⟨(some 52), .bin .add, [.t 28, .c (.int .i64 1)], none⟩,
  ⟨(some 28), .mov, [.t 52], none⟩]
def c_config_Good_r8 : List COper := a_config_Good_r8
instance : Reg c_config_Good_r8 a_config_Good_r8 2 := ⟨rfl, rfl⟩
@[simp] def a_config_Good_r9 : List COper := [
  ⟨(some 2), .mov, [.c (.bool true)], none⟩]
def c_config_Good_r9 : List COper := a_config_Good_r9
instance : Reg c_config_Good_r9 a_config_Good_r9 1 := ⟨rfl, rfl⟩
@[simp] def c_config_Good : CCode :=
  .seq (.region c_config_Good_r0 none [1]) (.seq (.seq (.region c_config_Good_r1 none [1, 24]) (.cond (.t 24) (.seq (.region c_config_Good_r2 none [2]) (.ret)) (.skip))) (.seq (.seq (.region c_config_Good_r3 none [1, 26, 27, 28]) (.block 0 (.loop (.seq (.region c_config_Good_r4 none [1, 26, 27, 28, 29]) (.seq (.cond (.t 29) (.skip) (.exit 0)) (.seq (.block 1 (.seq (.region c_config_Good_r5 none [1, 3, 4, 26, 27, 28]) (.seq (.region c_config_Good_r6 (some ([0, 1, 3, 7, 15, 31, 63, 127, 255, 127, 639, 2047, 4095, 8191, 127, 16511, 65535, 131071, 262143], [])) [1, 26, 27, 28, 51]) (.cond (.t 51) (.seq (.region c_config_Good_r7 none [2]) (.ret)) (.skip))))) (.region c_config_Good_r8 none [1, 26, 27, 28]))))))) (.seq (.region c_config_Good_r9 none [2]) (.ret))))
@[simp] def R_config_Good : List CRes := [.tmp 2]
theorem k_config_Good : chkFn Tryd.prog fn_config_Good c_config_Good R_config_Good 1 = true := by kernel_rfl
/-! wapentake/keys.New -/
@[simp] def a_keys_New_r0 : List COper := [
  ⟨(some 2), .box, [.t 0], none⟩,
  ⟨(some 4), .mov, [.c (.pointer none)], none⟩,
  ⟨(some 5), .mov, [.c (.int .i64 0)], none⟩]
def c_keys_New_r0 : List COper := a_keys_New_r0
instance : Reg c_keys_New_r0 a_keys_New_r0 3 := ⟨rfl, rfl⟩
@[simp] def a_keys_New_r1 : List COper := [
  ⟨(some 8), .mov, [.t 1], none⟩,
  ⟨(some 9), .bin .lss, [.t 8, .c (.int .i64 0)], none⟩,
  ⟨(some 10), .mov, [.t 9], none⟩,
  ⟨(some 11), .mov, [.t 1], (some (10, false))⟩,
  ⟨(some 12), .bin .gtr, [.t 11, .c (.int .i64 6)], (some (10, false))⟩,
  ⟨(some 13), .pick, [.t 10, .c (.bool true), .t 12], none⟩]
def c_keys_New_r1 : List COper := a_keys_New_r1
instance : Reg c_keys_New_r1 a_keys_New_r1 6 := ⟨rfl, rfl⟩
@[simp] def a_keys_New_r2 : List COper := [
  ⟨(some 4), .mov, [.c (.pointer none)], none⟩,
  ⟨(some 5), .mov, [.c (.int .i64 1)], none⟩]
def c_keys_New_r2 : List COper := a_keys_New_r2
instance : Reg c_keys_New_r2 a_keys_New_r2 2 := ⟨rfl, rfl⟩
@[simp] def a_keys_New_r3 : List COper := [
  ⟨(some 14), .load true 32, [.t 2], none⟩,
  ⟨(some 15), .mov, [.t 1], none⟩,
  ⟨(some 16), .build [.arr 1 (rep 32 (.v (.int .u8 0))), .v (.int .i64 0), .v (.slice none 0 0)] [0, 1], [.t 14, .t 15], none⟩,
  ⟨(some 17), .box, [.t 16], none⟩,
  ⟨(some 6), .mov, [.t 17], none⟩]
def c_keys_New_r3 : List COper := a_keys_New_r3
instance : Reg c_keys_New_r3 a_keys_New_r3 5 := ⟨rfl, rfl⟩
@[simp] def a_keys_New_r4 : List COper := [
  ⟨(some 18), .mov, [.t 1], none⟩,
  ⟨(some 19), .bin .shl, [.c (.int .i64 1), .t 18], none⟩,
  ⟨(some 20), .mov, [.c (.int .i64 0)], none⟩]
def c_keys_New_r4 : List COper := a_keys_New_r4
instance : Reg c_keys_New_r4 a_keys_New_r4 3 := ⟨rfl, rfl⟩
@[simp] def a_keys_New_r5 : List COper := [
  ⟨(some 21), .bin .lss, [.t 20, .t 19], none⟩]
def c_keys_New_r5 : List COper := a_keys_New_r5
instance : Reg c_keys_New_r5 a_keys_New_r5 1 := ⟨rfl, rfl⟩
@[simp] def a_keys_New_r6 : List COper := [
  ⟨(some 22), .mov, [.t 20], none⟩,
  ⟨(some 7), .mov, [.t 22], none⟩]
def c_keys_New_r6 : List COper := a_keys_New_r6
instance : Reg c_keys_New_r6 a_keys_New_r6 2 := ⟨rfl, rfl⟩
@[simp] def a_keys_New_r7 : List COper := [
  ⟨(some 23), .mov, [.t 6], none⟩,
  ⟨(some 24), .mov, [.t 6], none⟩,
  ⟨(some 25), .nilc, [.t 24], none⟩,
  ⟨(some 26), .faddr 33 1 false, [.t 25], none⟩,
  ⟨(some 27), .load false 1, [.t 26], none⟩,
  ⟨(some 28), .load true 32, [.t 2], none⟩,
  ⟨(some 29), .mov, [.t 7], none⟩,
  ⟨(some 30), .call fn_once_Public, [.t 28, .t 29], none⟩,
  ⟨(some 31), .call fn_keys_leaf, [.t 30], none⟩,
  ⟨(some 32), .bslice 32 1 (.arr 1 (rep 32 (.v (.int .u8 0)))) [0], [.t 31], none⟩,
  ⟨(some 33), .app 32 32, [.t 27, .t 32], none⟩,
  ⟨(some 34), .nilc, [.t 23], none⟩,
  ⟨(some 35), .faddr 33 1 false, [.t 34], none⟩,
  ⟨none, .store false 1, [.t 35, .t 33], none⟩]
def c_keys_New_r7 : List COper := a_keys_New_r7
instance : Reg c_keys_New_r7 a_keys_New_r7 14 := ⟨rfl, rfl⟩
@[simp] def a_keys_New_r8 : List COper := [
  ⟨(some 36), .bin .add, [.t 20, .c (.int .i64 1)], none⟩,
  ⟨(some 20), .mov, [.t 36], none⟩]
def c_keys_New_r8 : List COper := a_keys_New_r8
instance : Reg c_keys_New_r8 a_keys_New_r8 2 := ⟨rfl, rfl⟩
@[simp] def a_keys_New_r9 : List COper := [
  ⟨(some 37), .mov, [.t 6], none⟩,
  ⟨(some 4), .mov, [.t 37], none⟩,
  ⟨(some 5), .mov, [.c (.int .i64 0)], none⟩]
def c_keys_New_r9 : List COper := a_keys_New_r9
instance : Reg c_keys_New_r9 a_keys_New_r9 3 := ⟨rfl, rfl⟩
@[simp] def c_keys_New : CCode :=
  .seq (.region c_keys_New_r0 none [1, 2]) (.seq (.seq (.region c_keys_New_r1 none [1, 2, 13]) (.cond (.t 13) (.seq (.region c_keys_New_r2 none [4, 5]) (.ret)) (.skip))) (.seq (.region c_keys_New_r3 none [1, 2, 6]) (.seq (.seq (.region c_keys_New_r4 none [2, 6, 19, 20]) (.block 0 (.loop (.seq (.region c_keys_New_r5 none [2, 6, 19, 20, 21]) (.seq (.cond (.t 21) (.skip) (.exit 0)) (.seq (.block 1 (.seq (.region c_keys_New_r6 none [2, 6, 7, 19, 20]) (.region c_keys_New_r7 (some ([0, 0, 2, 6, 14, 0, 0, 96, 224, 480, 1022, 2047, 4095, 8191], [(4, 7), (4, 8), (4, 9)])) [2, 6, 19, 20]))) (.region c_keys_New_r8 none [2, 6, 19, 20]))))))) (.seq (.region c_keys_New_r9 none [4, 5]) (.ret)))))
@[simp] def R_keys_New : List CRes := [.tmp 4, .tmp 5]
theorem k_keys_New : chkFn Tryd.prog fn_keys_New c_keys_New R_keys_New 2 = true := by kernel_rfl
/-! (*wapentake/keys.Tree).Key -/
@[simp] def a_keys_Tree_Key_r0 : List COper := [
  ⟨(some 2), .alloc (.node [.arr 1 (rep 32 (.v (.int .u8 0))), .v (.int .i64 0)]), [], none⟩]
def c_keys_Tree_Key_r0 : List COper := a_keys_Tree_Key_r0
instance : Reg c_keys_Tree_Key_r0 a_keys_Tree_Key_r0 1 := ⟨rfl, rfl⟩
@[simp] def a_keys_Tree_Key_r1 : List COper := [
  ⟨(some 3), .mov, [.t 0], none⟩,
  ⟨(some 4), .eqp false, [.t 3, .c (.pointer none)], none⟩]
def c_keys_Tree_Key_r1 : List COper := a_keys_Tree_Key_r1
instance : Reg c_keys_Tree_Key_r1 a_keys_Tree_Key_r1 2 := ⟨rfl, rfl⟩
@[simp] def a_keys_Tree_Key_r2 : List COper := [
  ⟨(some 5), .build [.arr 1 (rep 32 (.v (.int .u8 0))), .v (.int .i64 0)] [], [], none⟩,
  ⟨none, .store true 33, [.t 2, .t 5], none⟩]
def c_keys_Tree_Key_r2 : List COper := a_keys_Tree_Key_r2
instance : Reg c_keys_Tree_Key_r2 a_keys_Tree_Key_r2 2 := ⟨rfl, rfl⟩
@[simp] def a_keys_Tree_Key_r3 : List COper := [
  ⟨(some 6), .mov, [.t 0], none⟩,
  ⟨(some 7), .nilc, [.t 6], none⟩,
  ⟨(some 8), .faddr 33 1 false, [.t 7], none⟩,
  ⟨(some 9), .load false 1, [.t 8], none⟩,
  ⟨(some 10), .call fn_tree_Root, [.t 9], none⟩,
  ⟨(some 11), .mov, [.t 0], none⟩,
  ⟨(some 12), .nilc, [.t 11], none⟩,
  ⟨(some 13), .faddr 32 1 false, [.t 12], none⟩,
  ⟨(some 14), .load false 1, [.t 13], none⟩,
  ⟨(some 15), .build [.arr 1 (rep 32 (.v (.int .u8 0))), .v (.int .i64 0)] [0, 1], [.t 10, .t 14], none⟩,
  ⟨none, .store true 33, [.t 2, .t 15], none⟩]
def c_keys_Tree_Key_r3 : List COper := a_keys_Tree_Key_r3
instance : Reg c_keys_Tree_Key_r3 a_keys_Tree_Key_r3 11 := ⟨rfl, rfl⟩
@[simp] def c_keys_Tree_Key : CCode :=
  .seq (.region c_keys_Tree_Key_r0 none [0, 2]) (.seq (.seq (.region c_keys_Tree_Key_r1 none [0, 2, 4]) (.cond (.t 4) (.seq (.region c_keys_Tree_Key_r2 none [2]) (.ret)) (.skip))) (.seq (.region c_keys_Tree_Key_r3 (some ([0, 1, 3, 7, 15, 0, 32, 96, 224, 511, 1023], [(4, 8)])) [2]) (.ret)))
@[simp] def R_keys_Tree_Key : List CRes := [.cell 2 true 33]
theorem k_keys_Tree_Key : chkFn Tryd.prog fn_keys_Tree_Key c_keys_Tree_Key R_keys_Tree_Key 1 = true := by kernel_rfl
/-! wapentake/block.Digest -/
@[simp] def a_block_Digest_r0 : List COper := [
  ⟨(some 1), .box, [.t 0], none⟩,
  ⟨(some 2), .alloc (.arr 1 (rep 32 (.v (.int .u8 0)))), [], none⟩]
def c_block_Digest_r0 : List COper := a_block_Digest_r0
instance : Reg c_block_Digest_r0 a_block_Digest_r0 2 := ⟨rfl, rfl⟩
@[simp] def a_block_Digest_r1 : List COper := [
  ⟨(some 4), .build [.v (.slice none 0 0)] [], [], none⟩,
  ⟨(some 5), .box, [.t 4], none⟩,
  ⟨(some 3), .mov, [.t 5], none⟩]
def c_block_Digest_r1 : List COper := a_block_Digest_r1
instance : Reg c_block_Digest_r1 a_block_Digest_r1 3 := ⟨rfl, rfl⟩
@[simp] def a_block_Digest_r2 : List COper := [
  ⟨(some 6), .mov, [.t 3], none⟩,
  ⟨(some 7), .load true 99, [.t 1], none⟩,
  ⟨(some 8), .call fn_block_Write, [.t 6, .t 7], none⟩]
def c_block_Digest_r2 : List COper := a_block_Digest_r2
instance : Reg c_block_Digest_r2 a_block_Digest_r2 3 := ⟨rfl, rfl⟩
@[simp] def a_block_Digest_r3 : List COper := [
  ⟨(some 9), .bslice 1 5 (.v (.int .u8 0)) [0, 1, 2, 3, 4], [.c (.int .u8 98), .c (.int .u8 108), .c (.int .u8 111), .c (.int .u8 99), .c (.int .u8 107)], none⟩,
  ⟨(some 10), .convM, [.t 9], none⟩,
  ⟨(some 11), .mov, [.t 3], none⟩,
  ⟨(some 12), .call fn_code_Writer_Bytes, [.t 11], none⟩,
  ⟨(some 13), .bslice 1 2 (.v (.slice none 0 0)) [0, 1], [.t 10, .t 12], none⟩,
  ⟨(some 14), .call fn_sha_Of, [.t 13], none⟩,
  ⟨none, .store true 32, [.t 2, .t 14], none⟩]
def c_block_Digest_r3 : List COper := a_block_Digest_r3
instance : Reg c_block_Digest_r3 a_block_Digest_r3 7 := ⟨rfl, rfl⟩
@[simp] def c_block_Digest : CCode :=
  .seq (.region c_block_Digest_r0 none [1, 2]) (.seq (.region c_block_Digest_r1 none [1, 2, 3]) (.seq (.region c_block_Digest_r2 none [2, 3]) (.seq (.region c_block_Digest_r3 none [2]) (.ret))))
@[simp] def R_block_Digest : List CRes := [.cell 2 true 32]
theorem k_block_Digest : chkFn Tryd.prog fn_block_Digest c_block_Digest R_block_Digest 1 = true := by kernel_rfl
/-! (*wapentake/keys.Tree).Sign -/
@[simp] def a_keys_Tree_Sign_r0 : List COper := [
  ⟨(some 5), .box, [.t 2], none⟩,
  ⟨(some 6), .alloc (.node [.v (.int .i64 0), .node [.v (.slice none 0 0), .v (.slice none 0 0)], .v (.slice none 0 0)]), [], none⟩,
  ⟨(some 7), .mov, [.c (.int .i64 0)], none⟩]
def c_keys_Tree_Sign_r0 : List COper := a_keys_Tree_Sign_r0
instance : Reg c_keys_Tree_Sign_r0 a_keys_Tree_Sign_r0 3 := ⟨rfl, rfl⟩
@[simp] def a_keys_Tree_Sign_r1 : List COper := [
  ⟨(some 10), .mov, [.t 0], none⟩,
  ⟨(some 11), .eqp false, [.t 10, .c (.pointer none)], none⟩]
def c_keys_Tree_Sign_r1 : List COper := a_keys_Tree_Sign_r1
instance : Reg c_keys_Tree_Sign_r1 a_keys_Tree_Sign_r1 2 := ⟨rfl, rfl⟩
@[simp] def a_keys_Tree_Sign_r2 : List COper := [
  ⟨(some 12), .build [.v (.int .i64 0), .node [.v (.slice none 0 0), .v (.slice none 0 0)], .v (.slice none 0 0)] [], [], none⟩,
  ⟨none, .store true 4, [.t 6, .t 12], none⟩,
  ⟨(some 7), .mov, [.c (.int .i64 2)], none⟩]
def c_keys_Tree_Sign_r2 : List COper := a_keys_Tree_Sign_r2
instance : Reg c_keys_Tree_Sign_r2 a_keys_Tree_Sign_r2 3 := ⟨rfl, rfl⟩
@[simp] def a_keys_Tree_Sign_r3 : List COper := [
  ⟨(some 14), .mov, [.t 1], none⟩,
  ⟨(some 15), .mov, [.t 0], none⟩,
  ⟨(some 16), .nilc, [.t 15], none⟩,
  ⟨(some 17), .faddr 33 1 false, [.t 16], none⟩,
  ⟨(some 18), .load false 1, [.t 17], none⟩,
  ⟨(some 19), .call fn_tree_Path, [.t 14, .t 18], none⟩,
  ⟨(some 13), .mov, [.t 19], none⟩,
  ⟨(some 20), .ext 0, [.t 13], none⟩,
  ⟨(some 21), .ext 1, [.t 13], none⟩,
  ⟨(some 8), .mov, [.t 20], none⟩,
  ⟨(some 9), .mov, [.t 21], none⟩]
def c_keys_Tree_Sign_r3 : List COper := a_keys_Tree_Sign_r3
instance : Reg c_keys_Tree_Sign_r3 a_keys_Tree_Sign_r3 11 := ⟨rfl, rfl⟩
@[simp] def a_keys_Tree_Sign_r4 : List COper := [
  ⟨(some 22), .mov, [.t 9], none⟩,
  ⟨(some 23), .not, [.t 22], none⟩]
def c_keys_Tree_Sign_r4 : List COper := a_keys_Tree_Sign_r4
instance : Reg c_keys_Tree_Sign_r4 a_keys_Tree_Sign_r4 2 := ⟨rfl, rfl⟩
@[simp] def a_keys_Tree_Sign_r5 : List COper := [
  ⟨(some 24), .build [.v (.int .i64 0), .node [.v (.slice none 0 0), .v (.slice none 0 0)], .v (.slice none 0 0)] [], [], none⟩,
  ⟨none, .store true 4, [.t 6, .t 24], none⟩,
  ⟨(some 7), .mov, [.c (.int .i64 1)], none⟩]
def c_keys_Tree_Sign_r5 : List COper := a_keys_Tree_Sign_r5
instance : Reg c_keys_Tree_Sign_r5 a_keys_Tree_Sign_r5 3 := ⟨rfl, rfl⟩
@[simp] def a_keys_Tree_Sign_r6 : List COper := [
  ⟨(some 25), .mov, [.t 1], none⟩,
  ⟨(some 26), .mov, [.t 0], none⟩,
  ⟨(some 27), .nilc, [.t 26], none⟩,
  ⟨(some 28), .faddr 0 32 true, [.t 27], none⟩,
  ⟨(some 29), .load true 32, [.t 28], none⟩,
  ⟨(some 30), .mov, [.t 1], none⟩,
  ⟨(some 31), .load true 32, [.t 5], none⟩,
  ⟨(some 32), .call fn_once_Sign, [.t 29, .t 30, .t 31], none⟩,
  ⟨(some 33), .mov, [.t 8], none⟩,
  ⟨(some 34), .build [.v (.int .i64 0), .node [.v (.slice none 0 0), .v (.slice none 0 0)], .v (.slice none 0 0)] [0, 1, 2], [.t 25, .t 32, .t 33], none⟩,
  ⟨none, .store true 4, [.t 6, .t 34], none⟩,
  ⟨(some 7), .mov, [.c (.int .i64 0)], none⟩]
def c_keys_Tree_Sign_r6 : List COper := a_keys_Tree_Sign_r6
instance : Reg c_keys_Tree_Sign_r6 a_keys_Tree_Sign_r6 12 := ⟨rfl, rfl⟩
@[simp] def c_keys_Tree_Sign : CCode :=
  .seq (.region c_keys_Tree_Sign_r0 none [0, 1, 5, 6]) (.seq (.seq (.region c_keys_Tree_Sign_r1 none [0, 1, 5, 6, 11]) (.cond (.t 11) (.seq (.region c_keys_Tree_Sign_r2 none [6, 7]) (.ret)) (.skip))) (.seq (.region c_keys_Tree_Sign_r3 none [0, 1, 5, 6, 8, 9]) (.seq (.seq (.region c_keys_Tree_Sign_r4 none [0, 1, 5, 6, 8, 23]) (.cond (.t 23) (.seq (.region c_keys_Tree_Sign_r5 none [6, 7]) (.ret)) (.skip))) (.seq (.region c_keys_Tree_Sign_r6 (some ([0, 0, 2, 6, 14, 0, 0, 126, 0, 511, 1023, 2047], [])) [6, 7]) (.ret)))))
@[simp] def R_keys_Tree_Sign : List CRes := [.cell 6 true 4, .tmp 7]
theorem k_keys_Tree_Sign : chkFn Tryd.prog fn_keys_Tree_Sign c_keys_Tree_Sign R_keys_Tree_Sign 3 = true := by kernel_rfl
/-! wapentake/vote.Signs -/
@[simp] def a_vote_Signs_r0 : List COper := [
  ⟨(some 1), .box, [.t 0], none⟩,
  ⟨(some 2), .alloc (.arr 1 (rep 32 (.v (.int .u8 0)))), [], none⟩]
def c_vote_Signs_r0 : List COper := a_vote_Signs_r0
instance : Reg c_vote_Signs_r0 a_vote_Signs_r0 2 := ⟨rfl, rfl⟩
@[simp] def a_vote_Signs_r1 : List COper := [
  ⟨(some 4), .build [.v (.slice none 0 0)] [], [], none⟩,
  ⟨(some 5), .box, [.t 4], none⟩,
  ⟨(some 3), .mov, [.t 5], none⟩]
def c_vote_Signs_r1 : List COper := a_vote_Signs_r1
instance : Reg c_vote_Signs_r1 a_vote_Signs_r1 3 := ⟨rfl, rfl⟩
@[simp] def a_vote_Signs_r2 : List COper := [
  ⟨(some 6), .mov, [.t 3], none⟩,
  ⟨(some 7), .load true 41, [.t 1], none⟩,
  ⟨(some 8), .call fn_vote_head, [.t 6, .t 7], none⟩]
def c_vote_Signs_r2 : List COper := a_vote_Signs_r2
instance : Reg c_vote_Signs_r2 a_vote_Signs_r2 3 := ⟨rfl, rfl⟩
@[simp] def a_vote_Signs_r3 : List COper := [
  ⟨(some 9), .bslice 1 4 (.v (.int .u8 0)) [0, 1, 2, 3], [.c (.int .u8 118), .c (.int .u8 111), .c (.int .u8 116), .c (.int .u8 101)], none⟩,
  ⟨(some 10), .convM, [.t 9], none⟩,
  ⟨(some 11), .mov, [.t 3], none⟩,
  ⟨(some 12), .call fn_code_Writer_Bytes, [.t 11], none⟩,
  ⟨(some 13), .bslice 1 2 (.v (.slice none 0 0)) [0, 1], [.t 10, .t 12], none⟩,
  ⟨(some 14), .call fn_sha_Of, [.t 13], none⟩,
  ⟨none, .store true 32, [.t 2, .t 14], none⟩]
def c_vote_Signs_r3 : List COper := a_vote_Signs_r3
instance : Reg c_vote_Signs_r3 a_vote_Signs_r3 7 := ⟨rfl, rfl⟩
@[simp] def c_vote_Signs : CCode :=
  .seq (.region c_vote_Signs_r0 none [1, 2]) (.seq (.region c_vote_Signs_r1 none [1, 2, 3]) (.seq (.region c_vote_Signs_r2 none [2, 3]) (.seq (.region c_vote_Signs_r3 none [2]) (.ret))))
@[simp] def R_vote_Signs : List CRes := [.cell 2 true 32]
theorem k_vote_Signs : chkFn Tryd.prog fn_vote_Signs c_vote_Signs R_vote_Signs 1 = true := by kernel_rfl
/-! wapentake/block.Good -/
@[simp] def a_block_Good_r0 : List COper := [
  ⟨(some 1), .box, [.t 0], none⟩,
  ⟨(some 2), .mov, [.c (.bool false)], none⟩]
def c_block_Good_r0 : List COper := a_block_Good_r0
instance : Reg c_block_Good_r0 a_block_Good_r0 2 := ⟨rfl, rfl⟩
@[simp] def a_block_Good_r1 : List COper := [
  ⟨(some 5), .faddr 0 1 false, [.t 1], none⟩,
  ⟨(some 6), .load false 1, [.t 5], none⟩,
  ⟨(some 7), .bin .lss, [.t 6, .c (.int .i64 0)], none⟩,
  ⟨(some 8), .mov, [.t 7], none⟩,
  ⟨(some 9), .faddr 0 1 false, [.t 1], (some (8, false))⟩,
  ⟨(some 10), .load false 1, [.t 9], (some (8, false))⟩,
  ⟨(some 11), .bin .gtr, [.t 10, .c (.int .i64 1073741824)], (some (8, false))⟩,
  ⟨(some 12), .pick, [.t 8, .c (.bool true), .t 11], none⟩,
  ⟨(some 13), .mov, [.t 12], none⟩,
  ⟨(some 14), .faddr 1 1 false, [.t 1], (some (13, false))⟩,
  ⟨(some 15), .load false 1, [.t 14], (some (13, false))⟩,
  ⟨(some 16), .bin .lss, [.t 15, .c (.int .i64 1)], (some (13, false))⟩,
  ⟨(some 17), .pick, [.t 13, .c (.bool true), .t 16], none⟩,
  ⟨(some 18), .mov, [.t 17], none⟩,
  ⟨(some 19), .faddr 1 1 false, [.t 1], (some (18, false))⟩,
  ⟨(some 20), .load false 1, [.t 19], (some (18, false))⟩,
  ⟨(some 21), .bin .gtr, [.t 20, .c (.int .i64 1024)], (some (18, false))⟩,
  ⟨(some 22), .pick, [.t 18, .c (.bool true), .t 21], none⟩,
  ⟨(some 23), .mov, [.t 22], none⟩,
  ⟨(some 24), .faddr 98 1 false, [.t 1], (some (23, false))⟩,
  ⟨(some 25), .load false 1, [.t 24], (some (23, false))⟩,
  ⟨(some 26), .len, [.t 25], (some (23, false))⟩,
  ⟨(some 27), .bin .gtr, [.t 26, .c (.int .i64 8)], (some (23, false))⟩,
  ⟨(some 28), .pick, [.t 23, .c (.bool true), .t 27], none⟩]
def c_block_Good_r1 : List COper := a_block_Good_r1
instance : Reg c_block_Good_r1 a_block_Good_r1 24 := ⟨rfl, rfl⟩
@[simp] def a_block_Good_r2 : List COper := [
  ⟨(some 2), .mov, [.c (.bool false)], none⟩]
def c_block_Good_r2 : List COper := a_block_Good_r2
instance : Reg c_block_Good_r2 a_block_Good_r2 1 := ⟨rfl, rfl⟩
@[simp] def a_block_Good_r3 : List COper := [
  ⟨(some 29), .faddr 98 1 false, [.t 1], none⟩,
  ⟨(some 30), .load false 1, [.t 29], none⟩,
  ⟨(some 31), .len, [.t 30], none⟩,
  ⟨(some 32), .mov, [.c (.int .i64 0)], none⟩]
def c_block_Good_r3 : List COper := a_block_Good_r3
instance : Reg c_block_Good_r3 a_block_Good_r3 4 := ⟨rfl, rfl⟩
@[simp] def a_block_Good_r4 : List COper := [
  ⟨(some 33), .bin .lss, [.t 32, .t 31], none⟩]
def c_block_Good_r4 : List COper := a_block_Good_r4
instance : Reg c_block_Good_r4 a_block_Good_r4 1 := ⟨rfl, rfl⟩
@[simp] def a_block_Good_r5 : List COper := [
  ⟨(some 34), .iaddr 42, [.t 30, .t 32], none⟩,
  ⟨(some 35), .load true 42, [.t 34], none⟩,
  ⟨(some 4), .alloc (.node [.v (.int .i64 0), .v (.int .i64 0), .node [.v (.int .i64 0), .v (.string (mkS [])), .v (.string (mkS [])), .v (.string (mkS [])), .node [.v (.int .i64 0), .v (.int .i64 0), .v (.int .i64 0), .node [.arr 1 (rep 32 (.v (.int .u8 0))), .v (.int .i64 0)]]]]), [], none⟩,
  ⟨none, .store true 42, [.t 4, .t 35], none⟩]
def c_block_Good_r5 : List COper := a_block_Good_r5
instance : Reg c_block_Good_r5 a_block_Good_r5 4 := ⟨rfl, rfl⟩
@[simp] def a_block_Good_r6 : List COper := [
  ⟨(some 36), .load true 42, [.t 4], none⟩,
  ⟨(some 37), .call fn_request_Good, [.t 36], none⟩,
  ⟨(some 38), .not, [.t 37], none⟩]
def c_block_Good_r6 : List COper := a_block_Good_r6
instance : Reg c_block_Good_r6 a_block_Good_r6 3 := ⟨rfl, rfl⟩
@[simp] def a_block_Good_r7 : List COper := [
  ⟨(some 2), .mov, [.c (.bool false)], none⟩]
def c_block_Good_r7 : List COper := a_block_Good_r7
instance : Reg c_block_Good_r7 a_block_Good_r7 1 := ⟨rfl, rfl⟩
@[simp] def a_block_Good_r8 : List COper := [
  ⟨(some 39), .bin .add, [.t 32, .c (.int .i64 1)], none⟩,
  ⟨(some 32), .mov, [.t 39], none⟩]
def c_block_Good_r8 : List COper := a_block_Good_r8
instance : Reg c_block_Good_r8 a_block_Good_r8 2 := ⟨rfl, rfl⟩
@[simp] def a_block_Good_r9 : List COper := [
  ⟨(some 2), .mov, [.c (.bool true)], none⟩]
def c_block_Good_r9 : List COper := a_block_Good_r9
instance : Reg c_block_Good_r9 a_block_Good_r9 1 := ⟨rfl, rfl⟩
@[simp] def c_block_Good : CCode :=
  .seq (.region c_block_Good_r0 none [1]) (.seq (.seq (.region c_block_Good_r1 none [1, 28]) (.cond (.t 28) (.seq (.region c_block_Good_r2 none [2]) (.ret)) (.skip))) (.seq (.seq (.region c_block_Good_r3 none [30, 31, 32]) (.block 0 (.loop (.seq (.region c_block_Good_r4 none [30, 31, 32, 33]) (.seq (.cond (.t 33) (.skip) (.exit 0)) (.seq (.block 1 (.seq (.region c_block_Good_r5 none [4, 30, 31, 32]) (.seq (.region c_block_Good_r6 none [30, 31, 32, 38]) (.cond (.t 38) (.seq (.region c_block_Good_r7 none [2]) (.ret)) (.skip))))) (.region c_block_Good_r8 none [30, 31, 32]))))))) (.seq (.region c_block_Good_r9 none [2]) (.ret))))
@[simp] def R_block_Good : List CRes := [.tmp 2]
theorem k_block_Good : chkFn Tryd.prog fn_block_Good c_block_Good R_block_Good 1 = true := by kernel_rfl
/-! wapentake/config.Quorum -/
@[simp] def a_config_Quorum_r0 : List COper := [
  ⟨(some 1), .box, [.t 0], none⟩,
  ⟨(some 2), .mov, [.c (.int .i64 0)], none⟩]
def c_config_Quorum_r0 : List COper := a_config_Quorum_r0
instance : Reg c_config_Quorum_r0 a_config_Quorum_r0 2 := ⟨rfl, rfl⟩
@[simp] def a_config_Quorum_r1 : List COper := [
  ⟨(some 3), .faddr 1 1 false, [.t 1], none⟩,
  ⟨(some 4), .load false 1, [.t 3], none⟩,
  ⟨(some 5), .len, [.t 4], none⟩,
  ⟨(some 6), .load true 2, [.t 1], none⟩,
  ⟨(some 7), .call fn_config_Faults, [.t 6], none⟩,
  ⟨(some 8), .bin .add, [.t 5, .t 7], none⟩,
  ⟨(some 9), .bin .quo, [.t 8, .c (.int .i64 2)], none⟩,
  ⟨(some 10), .bin .add, [.t 9, .c (.int .i64 1)], none⟩,
  ⟨(some 2), .mov, [.t 10], none⟩]
def c_config_Quorum_r1 : List COper := a_config_Quorum_r1
instance : Reg c_config_Quorum_r1 a_config_Quorum_r1 9 := ⟨rfl, rfl⟩
@[simp] def c_config_Quorum : CCode :=
  .seq (.region c_config_Quorum_r0 none [1]) (.seq (.region c_config_Quorum_r1 (some ([0, 1, 3, 0, 8, 31, 63, 127, 255], [(1, 4)])) [2]) (.ret))
@[simp] def R_config_Quorum : List CRes := [.tmp 2]
theorem k_config_Quorum : chkFn Tryd.prog fn_config_Quorum c_config_Quorum R_config_Quorum 1 = true := by kernel_rfl
/-! wapentake/vote.Right -/
@[simp] def a_vote_Right_r0 : List COper := [
  ⟨(some 2), .box, [.t 0], none⟩,
  ⟨(some 3), .box, [.t 1], none⟩,
  ⟨(some 4), .mov, [.c (.bool false)], none⟩]
def c_vote_Right_r0 : List COper := a_vote_Right_r0
instance : Reg c_vote_Right_r0 a_vote_Right_r0 3 := ⟨rfl, rfl⟩
@[simp] def a_vote_Right_r1 : List COper := [
  ⟨(some 9), .load true 2, [.t 2], none⟩,
  ⟨(some 10), .faddr 36 1 false, [.t 3], none⟩,
  ⟨(some 11), .load false 1, [.t 10], none⟩,
  ⟨(some 12), .call fn_config_Find, [.t 9, .t 11], none⟩,
  ⟨(some 8), .mov, [.t 12], none⟩,
  ⟨(some 13), .ext 0, [.t 8], none⟩,
  ⟨(some 14), .ext 1, [.t 8], none⟩,
  ⟨(some 15), .ext 2, [.t 8], none⟩,
  ⟨(some 5), .alloc (.node [.v (.int .i64 0), .node [.arr 1 (rep 32 (.v (.int .u8 0))), .v (.int .i64 0)]]), [], none⟩,
  ⟨none, .store true 34, [.t 5, .t 13], none⟩,
  ⟨(some 6), .mov, [.t 14], none⟩,
  ⟨(some 7), .mov, [.t 15], none⟩]
def c_vote_Right_r1 : List COper := a_vote_Right_r1
instance : Reg c_vote_Right_r1 a_vote_Right_r1 12 := ⟨rfl, rfl⟩
@[simp] def a_vote_Right_r2 : List COper := [
  ⟨(some 16), .mov, [.t 7], none⟩,
  ⟨(some 17), .mov, [.t 16], none⟩,
  ⟨(some 18), .load true 41, [.t 3], (some (17, true))⟩,
  ⟨(some 19), .call fn_vote_Good, [.t 18], (some (17, true))⟩,
  ⟨(some 20), .pick, [.t 17, .t 19, .c (.bool false)], none⟩,
  ⟨(some 21), .mov, [.t 20], none⟩,
  ⟨(some 22), .faddr 1 1 false, [.t 3], (some (21, true))⟩,
  ⟨(some 23), .load false 1, [.t 22], (some (21, true))⟩,
  ⟨(some 24), .faddr 0 1 false, [.t 2], (some (21, true))⟩,
  ⟨(some 25), .load false 1, [.t 24], (some (21, true))⟩,
  ⟨(some 26), .bin .eql, [.t 23, .t 25], (some (21, true))⟩,
  ⟨(some 27), .pick, [.t 21, .t 26, .c (.bool false)], none⟩,
  ⟨(some 28), .mov, [.t 27], none⟩,
  ⟨(some 29), .faddr 1 33 true, [.t 5], (some (28, true))⟩,
  ⟨(some 30), .load true 33, [.t 29], (some (28, true))⟩,
  ⟨(some 31), .load true 41, [.t 3], (some (28, true))⟩,
  ⟨(some 32), .call fn_vote_Signs, [.t 31], (some (28, true))⟩,
  ⟨(some 33), .faddr 37 4 true, [.t 3], (some (28, true))⟩,
  ⟨(some 34), .load true 4, [.t 33], (some (28, true))⟩,
  ⟨(some 35), .call fn_keys_Check, [.t 30, .t 32, .t 34], (some (28, true))⟩,
  ⟨(some 36), .pick, [.t 28, .t 35, .c (.bool false)], none⟩,
  ⟨(some 4), .mov, [.t 36], none⟩]
def c_vote_Right_r2 : List COper := a_vote_Right_r2
instance : Reg c_vote_Right_r2 a_vote_Right_r2 22 := ⟨rfl, rfl⟩
@[simp] def c_vote_Right : CCode :=
  .seq (.region c_vote_Right_r0 none [2, 3]) (.seq (.region c_vote_Right_r1 none [2, 3, 5, 7]) (.seq (.region c_vote_Right_r2 (some ([0, 1, 3, 7, 15, 31, 63, 127, 63, 319, 1023, 2047, 4095, 8191, 16383, 8191, 40959, 8191, 139263, 524287, 1048575, 2097151], [(14, 16), (16, 18)])) [4]) (.ret)))
@[simp] def R_vote_Right : List CRes := [.tmp 4]
theorem k_vote_Right : chkFn Tryd.prog fn_vote_Right c_vote_Right R_vote_Right 2 = true := by kernel_rfl
/-! wapentake/wapentakeref13.Same -/
@[simp] def a_r13_Same_r0 : List COper := [
  ⟨(some 2), .box, [.t 0], none⟩,
  ⟨(some 3), .box, [.t 1], none⟩,
  ⟨(some 4), .mov, [.c (.bool false)], none⟩]
def c_r13_Same_r0 : List COper := a_r13_Same_r0
instance : Reg c_r13_Same_r0 a_r13_Same_r0 3 := ⟨rfl, rfl⟩
@[simp] def a_r13_Same_r1 : List COper := [
  ⟨(some 5), .faddr 0 1 false, [.t 2], none⟩,
  ⟨(some 6), .load false 1, [.t 5], none⟩,
  ⟨(some 7), .faddr 0 1 false, [.t 3], none⟩,
  ⟨(some 8), .load false 1, [.t 7], none⟩,
  ⟨(some 9), .bin .eql, [.t 6, .t 8], none⟩,
  ⟨(some 10), .mov, [.t 9], none⟩,
  ⟨(some 11), .faddr 1 1 false, [.t 2], (some (10, true))⟩,
  ⟨(some 12), .load false 1, [.t 11], (some (10, true))⟩,
  ⟨(some 13), .faddr 1 1 false, [.t 3], (some (10, true))⟩,
  ⟨(some 14), .load false 1, [.t 13], (some (10, true))⟩,
  ⟨(some 15), .bin .eql, [.t 12, .t 14], (some (10, true))⟩,
  ⟨(some 16), .pick, [.t 10, .t 15, .c (.bool false)], none⟩,
  ⟨(some 17), .mov, [.t 16], none⟩,
  ⟨(some 18), .faddr 2 1 false, [.t 2], (some (17, true))⟩,
  ⟨(some 19), .load false 1, [.t 18], (some (17, true))⟩,
  ⟨(some 20), .faddr 2 1 false, [.t 3], (some (17, true))⟩,
  ⟨(some 21), .load false 1, [.t 20], (some (17, true))⟩,
  ⟨(some 22), .bin .eql, [.t 19, .t 21], (some (17, true))⟩,
  ⟨(some 23), .pick, [.t 17, .t 22, .c (.bool false)], none⟩,
  ⟨(some 24), .mov, [.t 23], none⟩,
  ⟨(some 25), .faddr 3 1 false, [.t 2], (some (24, true))⟩,
  ⟨(some 26), .load false 1, [.t 25], (some (24, true))⟩,
  ⟨(some 27), .faddr 3 1 false, [.t 3], (some (24, true))⟩,
  ⟨(some 28), .load false 1, [.t 27], (some (24, true))⟩,
  ⟨(some 29), .bin .eql, [.t 26, .t 28], (some (24, true))⟩,
  ⟨(some 30), .pick, [.t 24, .t 29, .c (.bool false)], none⟩,
  ⟨(some 31), .mov, [.t 30], none⟩,
  ⟨(some 32), .faddr 4 32 true, [.t 2], (some (31, true))⟩,
  ⟨(some 33), .load true 32, [.t 32], (some (31, true))⟩,
  ⟨(some 34), .faddr 4 32 true, [.t 3], (some (31, true))⟩,
  ⟨(some 35), .load true 32, [.t 34], (some (31, true))⟩,
  ⟨(some 36), .eqa false .u8 32, [.t 33, .t 35], (some (31, true))⟩,
  ⟨(some 37), .pick, [.t 31, .t 36, .c (.bool false)], none⟩,
  ⟨(some 38), .mov, [.t 37], none⟩,
  ⟨(some 39), .faddr 36 1 false, [.t 2], (some (38, true))⟩,
  ⟨(some 40), .load false 1, [.t 39], (some (38, true))⟩,
  ⟨(some 41), .faddr 36 1 false, [.t 3], (some (38, true))⟩,
  ⟨(some 42), .load false 1, [.t 41], (some (38, true))⟩,
  ⟨(some 43), .bin .eql, [.t 40, .t 42], (some (38, true))⟩,
  ⟨(some 44), .pick, [.t 38, .t 43, .c (.bool false)], none⟩,
  ⟨(some 45), .mov, [.t 44], none⟩,
  ⟨(some 46), .faddr 37 4 true, [.t 2], (some (45, true))⟩,
  ⟨(some 47), .load true 4, [.t 46], (some (45, true))⟩,
  ⟨(some 48), .faddr 37 4 true, [.t 3], (some (45, true))⟩,
  ⟨(some 49), .load true 4, [.t 48], (some (45, true))⟩,
  ⟨(some 50), .call fn_r05_Same, [.t 47, .t 49], (some (45, true))⟩,
  ⟨(some 51), .pick, [.t 45, .t 50, .c (.bool false)], none⟩,
  ⟨(some 4), .mov, [.t 51], none⟩]
def c_r13_Same_r1 : List COper := a_r13_Same_r1
instance : Reg c_r13_Same_r1 a_r13_Same_r1 48 := ⟨rfl, rfl⟩
@[simp] def c_r13_Same : CCode :=
  .seq (.region c_r13_Same_r0 none [2, 3]) (.seq (.region c_r13_Same_r1 none [4]) (.ret))
@[simp] def R_r13_Same : List CRes := [.tmp 4]
theorem k_r13_Same : chkFn Tryd.prog fn_r13_Same c_r13_Same R_r13_Same 2 = true := by kernel_rfl
/-! wapentake/config.Faults -/
@[simp] def a_config_Faults_r0 : List COper := [
  ⟨(some 1), .box, [.t 0], none⟩,
  ⟨(some 2), .mov, [.c (.int .i64 0)], none⟩]
def c_config_Faults_r0 : List COper := a_config_Faults_r0
instance : Reg c_config_Faults_r0 a_config_Faults_r0 2 := ⟨rfl, rfl⟩
@[simp] def a_config_Faults_r1 : List COper := [
  ⟨(some 3), .faddr 1 1 false, [.t 1], none⟩,
  ⟨(some 4), .load false 1, [.t 3], none⟩,
  ⟨(some 5), .len, [.t 4], none⟩,
  ⟨(some 6), .bin .sub, [.t 5, .c (.int .i64 1)], none⟩,
  ⟨(some 7), .mx, [.t 6, .c (.int .i64 0)], none⟩,
  ⟨(some 8), .bin .quo, [.t 7, .c (.int .i64 3)], none⟩,
  ⟨(some 2), .mov, [.t 8], none⟩]
def c_config_Faults_r1 : List COper := a_config_Faults_r1
instance : Reg c_config_Faults_r1 a_config_Faults_r1 7 := ⟨rfl, rfl⟩
@[simp] def c_config_Faults : CCode :=
  .seq (.region c_config_Faults_r0 none [1]) (.seq (.region c_config_Faults_r1 none [2]) (.ret))
@[simp] def R_config_Faults : List CRes := [.tmp 2]
theorem k_config_Faults : chkFn Tryd.prog fn_config_Faults c_config_Faults R_config_Faults 1 = true := by kernel_rfl
/-! (*wapentake/code.Writer).Num -/
@[simp] def a_code_Writer_Num_r0 : List COper := [
  ⟨(some 7), .mov, [.t 0], none⟩,
  ⟨(some 8), .eqp false, [.t 7, .c (.pointer none)], none⟩]
def c_code_Writer_Num_r0 : List COper := a_code_Writer_Num_r0
instance : Reg c_code_Writer_Num_r0 a_code_Writer_Num_r0 2 := ⟨rfl, rfl⟩
@[simp] def a_code_Writer_Num_r1 : List COper := [
  ⟨(some 9), .mov, [.t 1], none⟩,
  ⟨(some 10), .len, [.t 9], none⟩,
  ⟨(some 11), .mov, [.c (.int .i64 0)], none⟩]
def c_code_Writer_Num_r1 : List COper := a_code_Writer_Num_r1
instance : Reg c_code_Writer_Num_r1 a_code_Writer_Num_r1 3 := ⟨rfl, rfl⟩
@[simp] def a_code_Writer_Num_r2 : List COper := [
  ⟨(some 12), .bin .lss, [.t 11, .t 10], none⟩]
def c_code_Writer_Num_r2 : List COper := a_code_Writer_Num_r2
instance : Reg c_code_Writer_Num_r2 a_code_Writer_Num_r2 1 := ⟨rfl, rfl⟩
@[simp] def a_code_Writer_Num_r3 : List COper := [
  ⟨(some 13), .iaddr 1, [.t 9, .t 11], none⟩,
  ⟨(some 14), .load false 1, [.t 13], none⟩,
  ⟨(some 5), .mov, [.t 14], none⟩]
def c_code_Writer_Num_r3 : List COper := a_code_Writer_Num_r3
instance : Reg c_code_Writer_Num_r3 a_code_Writer_Num_r3 3 := ⟨rfl, rfl⟩
@[simp] def a_code_Writer_Num_r4 : List COper := [
  ⟨(some 6), .mov, [.c (.int .i64 56)], none⟩]
def c_code_Writer_Num_r4 : List COper := a_code_Writer_Num_r4
instance : Reg c_code_Writer_Num_r4 a_code_Writer_Num_r4 1 := ⟨rfl, rfl⟩
@[simp] def a_code_Writer_Num_r5 : List COper := [
  ⟨(some 15), .mov, [.t 6], none⟩,
  ⟨(some 16), .bin .geq, [.t 15, .c (.int .i64 0)], none⟩]
def c_code_Writer_Num_r5 : List COper := a_code_Writer_Num_r5
instance : Reg c_code_Writer_Num_r5 a_code_Writer_Num_r5 2 := ⟨rfl, rfl⟩
@[simp] def a_code_Writer_Num_r7 : List COper := [
  ⟨(some 19), .mov, [.t 0], none⟩,
  ⟨(some 20), .mov, [.t 0], none⟩,
  ⟨(some 21), .nilc, [.t 20], none⟩,
  ⟨(some 22), .faddr 0 1 false, [.t 21], none⟩,
  ⟨(some 23), .load false 1, [.t 22], none⟩,
  ⟨(some 24), .mov, [.t 5], none⟩,
  ⟨(some 25), .convI .u64, [.t 24], none⟩,
  ⟨(some 26), .mov, [.t 6], none⟩,
  ⟨(some 27), .bin .shr, [.t 25, .t 26], none⟩,
  ⟨(some 28), .convI .u8, [.t 27], none⟩,
  ⟨(some 29), .bslice 1 1 (.v (.int .u8 0)) [0], [.t 28], none⟩,
  ⟨(some 30), .app 1 1, [.t 23, .t 29], none⟩,
  ⟨(some 31), .nilc, [.t 19], none⟩,
  ⟨(some 32), .faddr 0 1 false, [.t 31], none⟩,
  ⟨none, .store false 1, [.t 32, .t 30], none⟩]
def c_code_Writer_Num_r7 : List COper := a_code_Writer_Num_r7
instance : Reg c_code_Writer_Num_r7 a_code_Writer_Num_r7 15 := ⟨rfl, rfl⟩
@[simp] def a_code_Writer_Num_r6 : List COper := [
  ⟨(some 17), .mov, [.t 6], none⟩,
  ⟨(some 18), .bin .sub, [.t 17, .c (.int .i64 8)], none⟩,
  ⟨(some 6), .mov, [.t 18], none⟩]
def c_code_Writer_Num_r6 : List COper := a_code_Writer_Num_r6
instance : Reg c_code_Writer_Num_r6 a_code_Writer_Num_r6 3 := ⟨rfl, rfl⟩
@[simp] def a_code_Writer_Num_r8 : List COper := [
  ⟨(some 33), .bin .add, [.t 11, .c (.int .i64 1)], none⟩,
  ⟨(some 11), .mov, [.t 33], none⟩]
def c_code_Writer_Num_r8 : List COper := a_code_Writer_Num_r8
instance : Reg c_code_Writer_Num_r8 a_code_Writer_Num_r8 2 := ⟨rfl, rfl⟩
@[simp] def c_code_Writer_Num : CCode :=
  .seq (.seq (.region c_code_Writer_Num_r0 none [0, 1, 8]) (.cond (.t 8) (.ret) (.skip))) (.seq (.region c_code_Writer_Num_r1 none [0, 9, 10, 11]) (.block 0 (.loop (.seq (.region c_code_Writer_Num_r2 none [0, 9, 10, 11, 12]) (.seq (.cond (.t 12) (.skip) (.exit 0)) (.seq (.block 1 (.seq (.region c_code_Writer_Num_r3 none [0, 5, 9, 10, 11]) (.seq (.region c_code_Writer_Num_r4 none [0, 5, 6, 9, 10, 11]) (.block 2 (.loop (.seq (.seq (.region c_code_Writer_Num_r5 none [0, 5, 6, 9, 10, 11, 16]) (.cond (.t 16) (.skip) (.exit 2))) (.seq (.block 3 (.region c_code_Writer_Num_r7 (some ([0, 0, 2, 6, 14, 0, 32, 0, 224, 480, 992, 2046, 4095, 8191, 16383], [(4, 10)])) [0, 5, 6, 9, 10, 11])) (.region c_code_Writer_Num_r6 none [0, 5, 6, 9, 10, 11])))))))) (.region c_code_Writer_Num_r8 none [0, 9, 10, 11])))))))
@[simp] def R_code_Writer_Num : List CRes := []
theorem k_code_Writer_Num : chkFn Tryd.prog fn_code_Writer_Num c_code_Writer_Num R_code_Writer_Num 2 = true := by kernel_rfl
/-! wapentake/vote.Write -/
@[simp] def a_vote_Write_r0 : List COper := [
  ⟨(some 3), .box, [.t 1], none⟩,
  ⟨(some 4), .mov, [.c (.bool false)], none⟩]
def c_vote_Write_r0 : List COper := a_vote_Write_r0
instance : Reg c_vote_Write_r0 a_vote_Write_r0 2 := ⟨rfl, rfl⟩
@[simp] def a_vote_Write_r1 : List COper := [
  ⟨(some 6), .build [.v (.slice none 0 0)] [], [], none⟩,
  ⟨(some 7), .box, [.t 6], none⟩,
  ⟨(some 5), .mov, [.t 7], none⟩]
def c_vote_Write_r1 : List COper := a_vote_Write_r1
instance : Reg c_vote_Write_r1 a_vote_Write_r1 3 := ⟨rfl, rfl⟩
@[simp] def a_vote_Write_r2 : List COper := [
  ⟨(some 8), .mov, [.t 5], none⟩,
  ⟨(some 9), .faddr 37 4 true, [.t 3], none⟩,
  ⟨(some 10), .load true 4, [.t 9], none⟩,
  ⟨(some 11), .call fn_keys_Write, [.t 8, .t 10], none⟩,
  ⟨(some 12), .not, [.t 11], none⟩]
def c_vote_Write_r2 : List COper := a_vote_Write_r2
instance : Reg c_vote_Write_r2 a_vote_Write_r2 5 := ⟨rfl, rfl⟩
@[simp] def a_vote_Write_r3 : List COper := [
  ⟨(some 4), .mov, [.c (.bool false)], none⟩]
def c_vote_Write_r3 : List COper := a_vote_Write_r3
instance : Reg c_vote_Write_r3 a_vote_Write_r3 1 := ⟨rfl, rfl⟩
@[simp] def a_vote_Write_r4 : List COper := [
  ⟨(some 13), .mov, [.t 0], none⟩,
  ⟨(some 14), .load true 41, [.t 3], none⟩,
  ⟨(some 15), .call fn_vote_head, [.t 13, .t 14], none⟩]
def c_vote_Write_r4 : List COper := a_vote_Write_r4
instance : Reg c_vote_Write_r4 a_vote_Write_r4 3 := ⟨rfl, rfl⟩
@[simp] def a_vote_Write_r5 : List COper := [
  ⟨(some 16), .mov, [.t 0], none⟩,
  ⟨(some 17), .faddr 37 4 true, [.t 3], none⟩,
  ⟨(some 18), .load true 4, [.t 17], none⟩,
  ⟨(some 19), .call fn_keys_Write, [.t 16, .t 18], none⟩,
  ⟨(some 4), .mov, [.t 19], none⟩]
def c_vote_Write_r5 : List COper := a_vote_Write_r5
instance : Reg c_vote_Write_r5 a_vote_Write_r5 5 := ⟨rfl, rfl⟩
@[simp] def c_vote_Write : CCode :=
  .seq (.region c_vote_Write_r0 none [0, 3]) (.seq (.region c_vote_Write_r1 none [0, 3, 5]) (.seq (.seq (.region c_vote_Write_r2 none [0, 3, 12]) (.cond (.t 12) (.seq (.region c_vote_Write_r3 none [4]) (.ret)) (.skip))) (.seq (.region c_vote_Write_r4 none [0, 3]) (.seq (.region c_vote_Write_r5 none [4]) (.ret)))))
@[simp] def R_vote_Write : List CRes := [.tmp 4]
theorem k_vote_Write : chkFn Tryd.prog fn_vote_Write c_vote_Write R_vote_Write 2 = true := by kernel_rfl
/-! wapentake/wapentakeref01.Num -/
@[simp] def a_r01_Num_r0 : List COper := [
  ⟨(some 2), .mov, [.c (.string (mkS []))], none⟩]
def c_r01_Num_r0 : List COper := a_r01_Num_r0
instance : Reg c_r01_Num_r0 a_r01_Num_r0 1 := ⟨rfl, rfl⟩
@[simp] def a_r01_Num_r1 : List COper := [
  ⟨(some 3), .alloc (.arr 1 (rep 8 (.v (.int .u8 0)))), [], none⟩]
def c_r01_Num_r1 : List COper := a_r01_Num_r1
instance : Reg c_r01_Num_r1 a_r01_Num_r1 1 := ⟨rfl, rfl⟩
@[simp] def a_r01_Num_r2 : List COper := [
  ⟨(some 4), .mov, [.c (.int .i64 0)], none⟩]
def c_r01_Num_r2 : List COper := a_r01_Num_r2
instance : Reg c_r01_Num_r2 a_r01_Num_r2 1 := ⟨rfl, rfl⟩
@[simp] def a_r01_Num_r3 : List COper := [
  ⟨(some 5), .mov, [.t 4], none⟩,
  ⟨(some 6), .bin .lss, [.t 5, .c (.int .i64 8)], none⟩]
def c_r01_Num_r3 : List COper := a_r01_Num_r3
instance : Reg c_r01_Num_r3 a_r01_Num_r3 2 := ⟨rfl, rfl⟩
@[simp] def a_r01_Num_r5 : List COper := [
  ⟨(some 9), .mov, [.t 4], none⟩,
  ⟨(some 10), .bin .sub, [.c (.int .i64 7), .t 9], none⟩,
  ⟨(some 11), .mov, [.t 0], none⟩,
  ⟨(some 12), .mov, [.t 4], none⟩,
  ⟨(some 13), .bin .mul, [.c (.int .i64 8), .t 12], none⟩,
  ⟨(some 14), .convI .u64, [.t 13], none⟩,
  ⟨(some 15), .bin .shr, [.t 11, .t 14], none⟩,
  ⟨(some 16), .convI .u8, [.t 15], none⟩,
  ⟨(some 17), .iaddrArr 8 1 false, [.t 3, .t 10], none⟩,
  ⟨none, .store false 1, [.t 17, .t 16], none⟩]
def c_r01_Num_r5 : List COper := a_r01_Num_r5
instance : Reg c_r01_Num_r5 a_r01_Num_r5 10 := ⟨rfl, rfl⟩
@[simp] def a_r01_Num_r4 : List COper := [
  ⟨(some 7), .mov, [.t 4], none⟩,
  ⟨(some 8), .bin .add, [.t 7, .c (.int .i64 1)], none⟩,
  ⟨(some 4), .mov, [.t 8], none⟩]
def c_r01_Num_r4 : List COper := a_r01_Num_r4
instance : Reg c_r01_Num_r4 a_r01_Num_r4 3 := ⟨rfl, rfl⟩
@[simp] def a_r01_Num_r6 : List COper := [
  ⟨(some 18), .sliceArr 8 1 false false, [.t 3], none⟩,
  ⟨(some 19), .convS, [.t 18], none⟩,
  ⟨(some 2), .mov, [.t 19], none⟩]
def c_r01_Num_r6 : List COper := a_r01_Num_r6
instance : Reg c_r01_Num_r6 a_r01_Num_r6 3 := ⟨rfl, rfl⟩
@[simp] def c_r01_Num : CCode :=
  .seq (.region c_r01_Num_r0 none [0]) (.seq (.region c_r01_Num_r1 none [0, 3]) (.seq (.seq (.region c_r01_Num_r2 none [0, 3, 4]) (.block 0 (.loop (.seq (.seq (.region c_r01_Num_r3 none [0, 3, 4, 6]) (.cond (.t 6) (.skip) (.exit 0))) (.seq (.block 1 (.region c_r01_Num_r5 none [0, 3, 4])) (.region c_r01_Num_r4 none [0, 3, 4])))))) (.seq (.region c_r01_Num_r6 none [2]) (.ret))))
@[simp] def R_r01_Num : List CRes := [.tmp 2]
theorem k_r01_Num : chkFn Tryd.prog fn_r01_Num c_r01_Num R_r01_Num 1 = true := by kernel_rfl
/-! wapentake/wapentakeref13.Bytes -/
@[simp] def a_r13_Bytes_r0 : List COper := [
  ⟨(some 1), .box, [.t 0], none⟩,
  ⟨(some 2), .mov, [.c (.string (mkS []))], none⟩,
  ⟨(some 3), .mov, [.c (.bool false)], none⟩]
def c_r13_Bytes_r0 : List COper := a_r13_Bytes_r0
instance : Reg c_r13_Bytes_r0 a_r13_Bytes_r0 3 := ⟨rfl, rfl⟩
@[simp] def a_r13_Bytes_r1 : List COper := [
  ⟨(some 7), .faddr 37 4 true, [.t 1], none⟩,
  ⟨(some 8), .load true 4, [.t 7], none⟩,
  ⟨(some 9), .call fn_r05_Write, [.t 8], none⟩,
  ⟨(some 6), .mov, [.t 9], none⟩,
  ⟨(some 10), .ext 0, [.t 6], none⟩,
  ⟨(some 11), .ext 1, [.t 6], none⟩,
  ⟨(some 4), .mov, [.t 10], none⟩,
  ⟨(some 5), .mov, [.t 11], none⟩]
def c_r13_Bytes_r1 : List COper := a_r13_Bytes_r1
instance : Reg c_r13_Bytes_r1 a_r13_Bytes_r1 8 := ⟨rfl, rfl⟩
@[simp] def a_r13_Bytes_r2 : List COper := [
  ⟨(some 12), .mov, [.t 5], none⟩,
  ⟨(some 13), .not, [.t 12], none⟩]
def c_r13_Bytes_r2 : List COper := a_r13_Bytes_r2
instance : Reg c_r13_Bytes_r2 a_r13_Bytes_r2 2 := ⟨rfl, rfl⟩
@[simp] def a_r13_Bytes_r3 : List COper := [
  ⟨(some 2), .mov, [.c (.string (mkS []))], none⟩,
  ⟨(some 3), .mov, [.c (.bool false)], none⟩]
def c_r13_Bytes_r3 : List COper := a_r13_Bytes_r3
instance : Reg c_r13_Bytes_r3 a_r13_Bytes_r3 2 := ⟨rfl, rfl⟩
@[simp] def a_r13_Bytes_r4 : List COper := [
  ⟨(some 14), .load true 41, [.t 1], none⟩,
  ⟨(some 15), .call fn_r13_Head, [.t 14], none⟩,
  ⟨(some 16), .mov, [.t 4], none⟩,
  ⟨(some 17), .bin .add, [.t 15, .t 16], none⟩,
  ⟨(some 2), .mov, [.t 17], none⟩,
  ⟨(some 3), .mov, [.c (.bool true)], none⟩]
def c_r13_Bytes_r4 : List COper := a_r13_Bytes_r4
instance : Reg c_r13_Bytes_r4 a_r13_Bytes_r4 6 := ⟨rfl, rfl⟩
@[simp] def c_r13_Bytes : CCode :=
  .seq (.region c_r13_Bytes_r0 none [1]) (.seq (.region c_r13_Bytes_r1 none [1, 4, 5]) (.seq (.seq (.region c_r13_Bytes_r2 none [1, 4, 13]) (.cond (.t 13) (.seq (.region c_r13_Bytes_r3 none [2, 3]) (.ret)) (.skip))) (.seq (.region c_r13_Bytes_r4 none [2, 3]) (.ret))))
@[simp] def R_r13_Bytes : List CRes := [.tmp 2, .tmp 3]
theorem k_r13_Bytes : chkFn Tryd.prog fn_r13_Bytes c_r13_Bytes R_r13_Bytes 1 = true := by kernel_rfl
/-! (*wapentake/code.Reader).In -/
@[simp] def a_code_Reader_In_r0 : List COper := [
  ⟨(some 6), .mov, [.c (.int .i64 0)], none⟩]
def c_code_Reader_In_r0 : List COper := a_code_Reader_In_r0
instance : Reg c_code_Reader_In_r0 a_code_Reader_In_r0 1 := ⟨rfl, rfl⟩
@[simp] def a_code_Reader_In_r1 : List COper := [
  ⟨(some 8), .mov, [.t 0], none⟩,
  ⟨(some 9), .call fn_code_Reader_Num, [.t 8], none⟩,
  ⟨(some 7), .mov, [.t 9], none⟩]
def c_code_Reader_In_r1 : List COper := a_code_Reader_In_r1
instance : Reg c_code_Reader_In_r1 a_code_Reader_In_r1 3 := ⟨rfl, rfl⟩
@[simp] def a_code_Reader_In_r2 : List COper := [
  ⟨(some 10), .mov, [.t 0], none⟩,
  ⟨(some 11), .eqp false, [.t 10, .c (.pointer none)], none⟩,
  ⟨(some 12), .mov, [.t 11], none⟩,
  ⟨(some 13), .mov, [.t 7], (some (12, false))⟩,
  ⟨(some 14), .mov, [.t 1], (some (12, false))⟩,
  ⟨(some 15), .bin .geq, [.t 13, .t 14], (some (12, false))⟩,
  ⟨(some 16), .mov, [.t 15], (some (12, false))⟩,
  ⟨(some 17), .mov, [.t 7], (some (16, true))⟩,
  ⟨(some 18), .mov, [.t 2], (some (16, true))⟩,
  ⟨(some 19), .bin .leq, [.t 17, .t 18], (some (16, true))⟩,
  ⟨(some 20), .pick, [.t 16, .t 19, .c (.bool false)], (some (12, false))⟩,
  ⟨(some 21), .mov, [.t 20], (some (12, false))⟩,
  ⟨(some 22), .mov, [.t 0], (some (21, true))⟩,
  ⟨(some 23), .nilc, [.t 22], (some (21, true))⟩,
  ⟨(some 24), .faddr 1 1 false, [.t 23], (some (21, true))⟩,
  ⟨(some 25), .load false 1, [.t 24], (some (21, true))⟩,
  ⟨(some 26), .not, [.t 25], (some (21, true))⟩,
  ⟨(some 27), .pick, [.t 21, .t 26, .c (.bool false)], (some (12, false))⟩,
  ⟨(some 28), .pick, [.t 12, .c (.bool true), .t 27], none⟩]
def c_code_Reader_In_r2 : List COper := a_code_Reader_In_r2
instance : Reg c_code_Reader_In_r2 a_code_Reader_In_r2 19 := ⟨rfl, rfl⟩
@[simp] def a_code_Reader_In_r3 : List COper := [
  ⟨(some 29), .mov, [.t 7], none⟩,
  ⟨(some 6), .mov, [.t 29], none⟩]
def c_code_Reader_In_r3 : List COper := a_code_Reader_In_r3
instance : Reg c_code_Reader_In_r3 a_code_Reader_In_r3 2 := ⟨rfl, rfl⟩
@[simp] def a_code_Reader_In_r4 : List COper := [
  ⟨(some 30), .mov, [.t 0], none⟩,
  ⟨(some 31), .mov, [.t 0], none⟩,
  ⟨(some 32), .nilc, [.t 30], none⟩,
  ⟨(some 33), .faddr 1 1 false, [.t 32], none⟩,
  ⟨none, .store false 1, [.t 33, .c (.bool true)], none⟩,
  ⟨(some 34), .nilc, [.t 31], none⟩,
  ⟨(some 35), .faddr 0 1 false, [.t 34], none⟩,
  ⟨none, .store false 1, [.t 35, .c (.slice none 0 0)], none⟩]
def c_code_Reader_In_r4 : List COper := a_code_Reader_In_r4
instance : Reg c_code_Reader_In_r4 a_code_Reader_In_r4 8 := ⟨rfl, rfl⟩
@[simp] def a_code_Reader_In_r5 : List COper := [
  ⟨(some 6), .mov, [.c (.int .i64 0)], none⟩]
def c_code_Reader_In_r5 : List COper := a_code_Reader_In_r5
instance : Reg c_code_Reader_In_r5 a_code_Reader_In_r5 1 := ⟨rfl, rfl⟩
@[simp] def c_code_Reader_In : CCode :=
  .seq (.region c_code_Reader_In_r0 none [0, 1, 2]) (.seq (.region c_code_Reader_In_r1 none [0, 1, 2, 7]) (.seq (.seq (.region c_code_Reader_In_r2 none [0, 7, 28]) (.cond (.t 28) (.seq (.region c_code_Reader_In_r3 none [6]) (.ret)) (.skip))) (.seq (.region c_code_Reader_In_r4 none []) (.seq (.region c_code_Reader_In_r5 none [6]) (.ret)))))
@[simp] def R_code_Reader_In : List CRes := [.tmp 6]
theorem k_code_Reader_In : chkFn Tryd.prog fn_code_Reader_In c_code_Reader_In R_code_Reader_In 3 = true := by kernel_rfl
/-! wapentake/vote.Read -/
@[simp] def a_vote_Read_r0 : List COper := [
  ⟨(some 2), .alloc (.node [.v (.int .i64 0), .v (.int .i64 0), .v (.int .i64 0), .v (.int .i64 0), .arr 1 (rep 32 (.v (.int .u8 0))), .v (.int .i64 0), .node [.v (.int .i64 0), .node [.v (.slice none 0 0), .v (.slice none 0 0)], .v (.slice none 0 0)]]), [], none⟩]
def c_vote_Read_r0 : List COper := a_vote_Read_r0
instance : Reg c_vote_Read_r0 a_vote_Read_r0 1 := ⟨rfl, rfl⟩
@[simp] def a_vote_Read_r1 : List COper := [
  ⟨(some 4), .mov, [.t 0], none⟩,
  ⟨(some 5), .call fn_code_Reader_In, [.t 4, .c (.int .i64 1), .c (.int .i64 2)], none⟩,
  ⟨(some 6), .mov, [.t 0], none⟩,
  ⟨(some 7), .call fn_code_Reader_In, [.t 6, .c (.int .i64 0), .c (.int .i64 1073741824)], none⟩,
  ⟨(some 8), .mov, [.t 0], none⟩,
  ⟨(some 9), .call fn_code_Reader_In, [.t 8, .c (.int .i64 1), .c (.int .i64 1024)], none⟩,
  ⟨(some 10), .mov, [.t 0], none⟩,
  ⟨(some 11), .call fn_code_Reader_In, [.t 10, .c (.int .i64 0), .c (.int .i64 1024)], none⟩,
  ⟨(some 12), .mov, [.t 0], none⟩,
  ⟨(some 13), .call fn_code_Reader_In, [.t 12, .c (.int .i64 1), .c (.int .i64 63)], none⟩,
  ⟨(some 14), .mov, [.t 0], none⟩,
  ⟨(some 15), .call fn_code_Reader_Digest, [.t 14], none⟩,
  ⟨(some 16), .build [.v (.int .i64 0), .v (.int .i64 0), .v (.int .i64 0), .v (.int .i64 0), .arr 1 (rep 32 (.v (.int .u8 0))), .v (.int .i64 0), .node [.v (.int .i64 0), .node [.v (.slice none 0 0), .v (.slice none 0 0)], .v (.slice none 0 0)]] [0, 1, 2, 3, 5, 4], [.t 5, .t 7, .t 9, .t 11, .t 13, .t 15], none⟩,
  ⟨(some 3), .alloc (.node [.v (.int .i64 0), .v (.int .i64 0), .v (.int .i64 0), .v (.int .i64 0), .arr 1 (rep 32 (.v (.int .u8 0))), .v (.int .i64 0), .node [.v (.int .i64 0), .node [.v (.slice none 0 0), .v (.slice none 0 0)], .v (.slice none 0 0)]]), [], none⟩,
  ⟨none, .store true 41, [.t 3, .t 16], none⟩]
def c_vote_Read_r1 : List COper := a_vote_Read_r1
instance : Reg c_vote_Read_r1 a_vote_Read_r1 15 := ⟨rfl, rfl⟩
@[simp] def a_vote_Read_r2 : List COper := [
  ⟨(some 17), .mov, [.t 0], none⟩,
  ⟨(some 18), .call fn_keys_Read, [.t 17], none⟩,
  ⟨(some 19), .faddr 37 4 true, [.t 3], none⟩,
  ⟨none, .store true 4, [.t 19, .t 18], none⟩]
def c_vote_Read_r2 : List COper := a_vote_Read_r2
instance : Reg c_vote_Read_r2 a_vote_Read_r2 4 := ⟨rfl, rfl⟩
@[simp] def a_vote_Read_r3 : List COper := [
  ⟨(some 20), .mov, [.t 0], none⟩,
  ⟨(some 21), .call fn_code_Reader_Good, [.t 20], none⟩,
  ⟨(some 22), .not, [.t 21], none⟩]
def c_vote_Read_r3 : List COper := a_vote_Read_r3
instance : Reg c_vote_Read_r3 a_vote_Read_r3 3 := ⟨rfl, rfl⟩
@[simp] def a_vote_Read_r4 : List COper := [
  ⟨(some 23), .build [.v (.int .i64 0), .v (.int .i64 0), .v (.int .i64 0), .v (.int .i64 0), .arr 1 (rep 32 (.v (.int .u8 0))), .v (.int .i64 0), .node [.v (.int .i64 0), .node [.v (.slice none 0 0), .v (.slice none 0 0)], .v (.slice none 0 0)]] [], [], none⟩,
  ⟨none, .store true 41, [.t 2, .t 23], none⟩]
def c_vote_Read_r4 : List COper := a_vote_Read_r4
instance : Reg c_vote_Read_r4 a_vote_Read_r4 2 := ⟨rfl, rfl⟩
@[simp] def a_vote_Read_r5 : List COper := [
  ⟨(some 24), .load true 41, [.t 3], none⟩,
  ⟨none, .store true 41, [.t 2, .t 24], none⟩]
def c_vote_Read_r5 : List COper := a_vote_Read_r5
instance : Reg c_vote_Read_r5 a_vote_Read_r5 2 := ⟨rfl, rfl⟩
@[simp] def c_vote_Read : CCode :=
  .seq (.region c_vote_Read_r0 none [0, 2]) (.seq (.region c_vote_Read_r1 none [0, 2, 3]) (.seq (.region c_vote_Read_r2 none [0, 2, 3]) (.seq (.seq (.region c_vote_Read_r3 none [2, 3, 22]) (.cond (.t 22) (.seq (.region c_vote_Read_r4 none [2]) (.ret)) (.skip))) (.seq (.region c_vote_Read_r5 none [2]) (.ret)))))
@[simp] def R_vote_Read : List CRes := [.cell 2 true 41]
theorem k_vote_Read : chkFn Tryd.prog fn_vote_Read c_vote_Read R_vote_Read 1 = true := by kernel_rfl
/-! (*wapentake/wapentakeref01.Reader).In -/
@[simp] def a_r01_Reader_In_r0 : List COper := [
  ⟨(some 6), .mov, [.c (.int .i64 0)], none⟩]
def c_r01_Reader_In_r0 : List COper := a_r01_Reader_In_r0
instance : Reg c_r01_Reader_In_r0 a_r01_Reader_In_r0 1 := ⟨rfl, rfl⟩
@[simp] def a_r01_Reader_In_r1 : List COper := [
  ⟨(some 8), .mov, [.t 0], none⟩,
  ⟨(some 9), .call fn_r01_Reader_Num, [.t 8], none⟩,
  ⟨(some 7), .mov, [.t 9], none⟩]
def c_r01_Reader_In_r1 : List COper := a_r01_Reader_In_r1
instance : Reg c_r01_Reader_In_r1 a_r01_Reader_In_r1 3 := ⟨rfl, rfl⟩
@[simp] def a_r01_Reader_In_r2 : List COper := [
  ⟨(some 10), .mov, [.t 0], none⟩,
  ⟨(some 11), .nilc, [.t 10], none⟩,
  ⟨(some 12), .faddr 1 1 false, [.t 11], none⟩,
  ⟨(some 13), .load false 1, [.t 12], none⟩,
  ⟨(some 14), .mov, [.t 13], none⟩,
  ⟨(some 15), .mov, [.t 7], (some (14, false))⟩,
  ⟨(some 16), .mov, [.t 1], (some (14, false))⟩,
  ⟨(some 17), .bin .lss, [.t 15, .t 16], (some (14, false))⟩,
  ⟨(some 18), .pick, [.t 14, .c (.bool true), .t 17], none⟩,
  ⟨(some 19), .mov, [.t 18], none⟩,
  ⟨(some 20), .mov, [.t 7], (some (19, false))⟩,
  ⟨(some 21), .mov, [.t 2], (some (19, false))⟩,
  ⟨(some 22), .bin .gtr, [.t 20, .t 21], (some (19, false))⟩,
  ⟨(some 23), .pick, [.t 19, .c (.bool true), .t 22], none⟩]
def c_r01_Reader_In_r2 : List COper := a_r01_Reader_In_r2
instance : Reg c_r01_Reader_In_r2 a_r01_Reader_In_r2 14 := ⟨rfl, rfl⟩
@[simp] def a_r01_Reader_In_r3 : List COper := [
  ⟨(some 24), .mov, [.t 0], none⟩,
  ⟨(some 25), .call fn_r01_Reader_Take, [.t 24, .c (.int .i64 (-1))], none⟩]
def c_r01_Reader_In_r3 : List COper := a_r01_Reader_In_r3
instance : Reg c_r01_Reader_In_r3 a_r01_Reader_In_r3 2 := ⟨rfl, rfl⟩
@[simp] def a_r01_Reader_In_r4 : List COper := [
  ⟨(some 6), .mov, [.c (.int .i64 0)], none⟩]
def c_r01_Reader_In_r4 : List COper := a_r01_Reader_In_r4
instance : Reg c_r01_Reader_In_r4 a_r01_Reader_In_r4 1 := ⟨rfl, rfl⟩
@[simp] def a_r01_Reader_In_r5 : List COper := [
  ⟨(some 26), .mov, [.t 7], none⟩,
  ⟨(some 6), .mov, [.t 26], none⟩]
def c_r01_Reader_In_r5 : List COper := a_r01_Reader_In_r5
instance : Reg c_r01_Reader_In_r5 a_r01_Reader_In_r5 2 := ⟨rfl, rfl⟩
@[simp] def c_r01_Reader_In : CCode :=
  .seq (.region c_r01_Reader_In_r0 none [0, 1, 2]) (.seq (.region c_r01_Reader_In_r1 none [0, 1, 2, 7]) (.seq (.seq (.region c_r01_Reader_In_r2 none [0, 7, 23]) (.cond (.t 23) (.seq (.region c_r01_Reader_In_r3 none []) (.seq (.region c_r01_Reader_In_r4 none [6]) (.ret))) (.skip))) (.seq (.region c_r01_Reader_In_r5 none [6]) (.ret))))
@[simp] def R_r01_Reader_In : List CRes := [.tmp 6]
theorem k_r01_Reader_In : chkFn Tryd.prog fn_r01_Reader_In c_r01_Reader_In R_r01_Reader_In 3 = true := by kernel_rfl
/-! wapentake/wapentakeref13.Read -/
@[simp] def a_r13_Read_r0 : List COper := [
  ⟨(some 2), .alloc (.node [.v (.int .i64 0), .v (.int .i64 0), .v (.int .i64 0), .v (.int .i64 0), .arr 1 (rep 32 (.v (.int .u8 0))), .v (.int .i64 0), .node [.v (.int .i64 0), .node [.v (.slice none 0 0), .v (.slice none 0 0)], .v (.slice none 0 0)]]), [], none⟩]
def c_r13_Read_r0 : List COper := a_r13_Read_r0
instance : Reg c_r13_Read_r0 a_r13_Read_r0 1 := ⟨rfl, rfl⟩
@[simp] def a_r13_Read_r1 : List COper := [
  ⟨(some 3), .alloc (.node [.v (.int .i64 0), .v (.int .i64 0), .v (.int .i64 0), .v (.int .i64 0), .arr 1 (rep 32 (.v (.int .u8 0))), .v (.int .i64 0), .node [.v (.int .i64 0), .node [.v (.slice none 0 0), .v (.slice none 0 0)], .v (.slice none 0 0)]]), [], none⟩]
def c_r13_Read_r1 : List COper := a_r13_Read_r1
instance : Reg c_r13_Read_r1 a_r13_Read_r1 1 := ⟨rfl, rfl⟩
@[simp] def a_r13_Read_r2 : List COper := [
  ⟨(some 4), .mov, [.t 0], none⟩,
  ⟨(some 5), .call fn_r01_Reader_In, [.t 4, .c (.int .i64 1), .c (.int .i64 2)], none⟩,
  ⟨(some 6), .faddr 0 1 false, [.t 3], none⟩,
  ⟨none, .store false 1, [.t 6, .t 5], none⟩]
def c_r13_Read_r2 : List COper := a_r13_Read_r2
instance : Reg c_r13_Read_r2 a_r13_Read_r2 4 := ⟨rfl, rfl⟩
@[simp] def a_r13_Read_r3 : List COper := [
  ⟨(some 7), .mov, [.t 0], none⟩,
  ⟨(some 8), .call fn_r01_Reader_In, [.t 7, .c (.int .i64 0), .c (.int .i64 1073741824)], none⟩,
  ⟨(some 9), .faddr 1 1 false, [.t 3], none⟩,
  ⟨none, .store false 1, [.t 9, .t 8], none⟩]
def c_r13_Read_r3 : List COper := a_r13_Read_r3
instance : Reg c_r13_Read_r3 a_r13_Read_r3 4 := ⟨rfl, rfl⟩
@[simp] def a_r13_Read_r4 : List COper := [
  ⟨(some 10), .mov, [.t 0], none⟩,
  ⟨(some 11), .call fn_r01_Reader_In, [.t 10, .c (.int .i64 1), .c (.int .i64 1024)], none⟩,
  ⟨(some 12), .faddr 2 1 false, [.t 3], none⟩,
  ⟨none, .store false 1, [.t 12, .t 11], none⟩]
def c_r13_Read_r4 : List COper := a_r13_Read_r4
instance : Reg c_r13_Read_r4 a_r13_Read_r4 4 := ⟨rfl, rfl⟩
@[simp] def a_r13_Read_r5 : List COper := [
  ⟨(some 13), .mov, [.t 0], none⟩,
  ⟨(some 14), .call fn_r01_Reader_In, [.t 13, .c (.int .i64 0), .c (.int .i64 1024)], none⟩,
  ⟨(some 15), .faddr 3 1 false, [.t 3], none⟩,
  ⟨none, .store false 1, [.t 15, .t 14], none⟩]
def c_r13_Read_r5 : List COper := a_r13_Read_r5
instance : Reg c_r13_Read_r5 a_r13_Read_r5 4 := ⟨rfl, rfl⟩
@[simp] def a_r13_Read_r6 : List COper := [
  ⟨(some 16), .mov, [.t 0], none⟩,
  ⟨(some 17), .call fn_r01_Reader_In, [.t 16, .c (.int .i64 1), .c (.int .i64 63)], none⟩,
  ⟨(some 18), .faddr 36 1 false, [.t 3], none⟩,
  ⟨none, .store false 1, [.t 18, .t 17], none⟩]
def c_r13_Read_r6 : List COper := a_r13_Read_r6
instance : Reg c_r13_Read_r6 a_r13_Read_r6 4 := ⟨rfl, rfl⟩
@[simp] def a_r13_Read_r7 : List COper := [
  ⟨(some 19), .mov, [.t 0], none⟩,
  ⟨(some 20), .call fn_r01_Reader_Digest, [.t 19], none⟩,
  ⟨(some 21), .faddr 4 32 true, [.t 3], none⟩,
  ⟨none, .store true 32, [.t 21, .t 20], none⟩]
def c_r13_Read_r7 : List COper := a_r13_Read_r7
instance : Reg c_r13_Read_r7 a_r13_Read_r7 4 := ⟨rfl, rfl⟩
@[simp] def a_r13_Read_r8 : List COper := [
  ⟨(some 22), .mov, [.t 0], none⟩,
  ⟨(some 23), .call fn_r05_Read, [.t 22], none⟩,
  ⟨(some 24), .faddr 37 4 true, [.t 3], none⟩,
  ⟨none, .store true 4, [.t 24, .t 23], none⟩]
def c_r13_Read_r8 : List COper := a_r13_Read_r8
instance : Reg c_r13_Read_r8 a_r13_Read_r8 4 := ⟨rfl, rfl⟩
@[simp] def a_r13_Read_r9 : List COper := [
  ⟨(some 25), .mov, [.t 0], none⟩,
  ⟨(some 26), .call fn_r01_Reader_Good, [.t 25], none⟩,
  ⟨(some 27), .not, [.t 26], none⟩]
def c_r13_Read_r9 : List COper := a_r13_Read_r9
instance : Reg c_r13_Read_r9 a_r13_Read_r9 3 := ⟨rfl, rfl⟩
@[simp] def a_r13_Read_r10 : List COper := [
  ⟨(some 28), .build [.v (.int .i64 0), .v (.int .i64 0), .v (.int .i64 0), .v (.int .i64 0), .arr 1 (rep 32 (.v (.int .u8 0))), .v (.int .i64 0), .node [.v (.int .i64 0), .node [.v (.slice none 0 0), .v (.slice none 0 0)], .v (.slice none 0 0)]] [], [], none⟩,
  ⟨none, .store true 41, [.t 2, .t 28], none⟩]
def c_r13_Read_r10 : List COper := a_r13_Read_r10
instance : Reg c_r13_Read_r10 a_r13_Read_r10 2 := ⟨rfl, rfl⟩
@[simp] def a_r13_Read_r11 : List COper := [
  ⟨(some 29), .load true 41, [.t 3], none⟩,
  ⟨none, .store true 41, [.t 2, .t 29], none⟩]
def c_r13_Read_r11 : List COper := a_r13_Read_r11
instance : Reg c_r13_Read_r11 a_r13_Read_r11 2 := ⟨rfl, rfl⟩
@[simp] def c_r13_Read : CCode :=
  .seq (.region c_r13_Read_r0 none [0, 2]) (.seq (.region c_r13_Read_r1 none [0, 2, 3]) (.seq (.region c_r13_Read_r2 none [0, 2, 3]) (.seq (.region c_r13_Read_r3 none [0, 2, 3]) (.seq (.region c_r13_Read_r4 none [0, 2, 3]) (.seq (.region c_r13_Read_r5 none [0, 2, 3]) (.seq (.region c_r13_Read_r6 none [0, 2, 3]) (.seq (.region c_r13_Read_r7 none [0, 2, 3]) (.seq (.region c_r13_Read_r8 none [0, 2, 3]) (.seq (.seq (.region c_r13_Read_r9 none [2, 3, 27]) (.cond (.t 27) (.seq (.region c_r13_Read_r10 none [2]) (.ret)) (.skip))) (.seq (.region c_r13_Read_r11 none [2]) (.ret)))))))))))
@[simp] def R_r13_Read : List CRes := [.cell 2 true 41]
theorem k_r13_Read : chkFn Tryd.prog fn_r13_Read c_r13_Read R_r13_Read 1 = true := by kernel_rfl
/-! wapentake/block.Write -/
@[simp] def a_block_Write_r0 : List COper := [
  ⟨(some 3), .box, [.t 1], none⟩]
def c_block_Write_r0 : List COper := a_block_Write_r0
instance : Reg c_block_Write_r0 a_block_Write_r0 1 := ⟨rfl, rfl⟩
@[simp] def a_block_Write_r1 : List COper := [
  ⟨(some 6), .mov, [.t 0], none⟩,
  ⟨(some 7), .faddr 0 1 false, [.t 3], none⟩,
  ⟨(some 8), .load false 1, [.t 7], none⟩,
  ⟨(some 9), .faddr 1 1 false, [.t 3], none⟩,
  ⟨(some 10), .load false 1, [.t 9], none⟩,
  ⟨(some 11), .bslice 1 2 (.v (.int .i64 0)) [0, 1], [.t 8, .t 10], none⟩,
  ⟨(some 12), .call fn_code_Writer_Num, [.t 6, .t 11], none⟩]
def c_block_Write_r1 : List COper := a_block_Write_r1
instance : Reg c_block_Write_r1 a_block_Write_r1 7 := ⟨rfl, rfl⟩
@[simp] def a_block_Write_r2 : List COper := [
  ⟨(some 13), .mov, [.t 0], none⟩,
  ⟨(some 14), .faddr 2 32 true, [.t 3], none⟩,
  ⟨(some 15), .load true 32, [.t 14], none⟩,
  ⟨(some 16), .faddr 34 32 true, [.t 3], none⟩,
  ⟨(some 17), .load true 32, [.t 16], none⟩,
  ⟨(some 18), .faddr 66 32 true, [.t 3], none⟩,
  ⟨(some 19), .load true 32, [.t 18], none⟩,
  ⟨(some 20), .bslice 32 3 (.arr 1 (rep 32 (.v (.int .u8 0)))) [0, 1, 2], [.t 15, .t 17, .t 19], none⟩,
  ⟨(some 21), .call fn_code_Writer_Digest, [.t 13, .t 20], none⟩]
def c_block_Write_r2 : List COper := a_block_Write_r2
instance : Reg c_block_Write_r2 a_block_Write_r2 9 := ⟨rfl, rfl⟩
@[simp] def a_block_Write_r3 : List COper := [
  ⟨(some 22), .mov, [.t 0], none⟩,
  ⟨(some 23), .faddr 98 1 false, [.t 3], none⟩,
  ⟨(some 24), .load false 1, [.t 23], none⟩,
  ⟨(some 25), .len, [.t 24], none⟩,
  ⟨(some 26), .bslice 1 1 (.v (.int .i64 0)) [0], [.t 25], none⟩,
  ⟨(some 27), .call fn_code_Writer_Num, [.t 22, .t 26], none⟩]
def c_block_Write_r3 : List COper := a_block_Write_r3
instance : Reg c_block_Write_r3 a_block_Write_r3 6 := ⟨rfl, rfl⟩
@[simp] def a_block_Write_r4 : List COper := [
  ⟨(some 28), .faddr 98 1 false, [.t 3], none⟩,
  ⟨(some 29), .load false 1, [.t 28], none⟩,
  ⟨(some 30), .len, [.t 29], none⟩,
  ⟨(some 31), .mov, [.c (.int .i64 0)], none⟩]
def c_block_Write_r4 : List COper := a_block_Write_r4
instance : Reg c_block_Write_r4 a_block_Write_r4 4 := ⟨rfl, rfl⟩
@[simp] def a_block_Write_r5 : List COper := [
  ⟨(some 32), .bin .lss, [.t 31, .t 30], none⟩]
def c_block_Write_r5 : List COper := a_block_Write_r5
instance : Reg c_block_Write_r5 a_block_Write_r5 1 := ⟨rfl, rfl⟩
@[simp] def a_block_Write_r6 : List COper := [
  ⟨(some 33), .iaddr 42, [.t 29, .t 31], none⟩,
  ⟨(some 34), .load true 42, [.t 33], none⟩,
  ⟨(some 5), .alloc (.node [.v (.int .i64 0), .v (.int .i64 0), .node [.v (.int .i64 0), .v (.string (mkS [])), .v (.string (mkS [])), .v (.string (mkS [])), .node [.v (.int .i64 0), .v (.int .i64 0), .v (.int .i64 0), .node [.arr 1 (rep 32 (.v (.int .u8 0))), .v (.int .i64 0)]]]]), [], none⟩,
  ⟨none, .store true 42, [.t 5, .t 34], none⟩]
def c_block_Write_r6 : List COper := a_block_Write_r6
instance : Reg c_block_Write_r6 a_block_Write_r6 4 := ⟨rfl, rfl⟩
@[simp] def a_block_Write_r7 : List COper := [
  ⟨(some 35), .mov, [.t 0], none⟩,
  ⟨(some 36), .load true 42, [.t 5], none⟩,
  ⟨(some 37), .call fn_request_Write, [.t 35, .t 36], none⟩]
def c_block_Write_r7 : List COper := a_block_Write_r7
instance : Reg c_block_Write_r7 a_block_Write_r7 3 := ⟨rfl, rfl⟩
@[simp] def a_block_Write_r8 : List COper := [
  ⟨(some 38), .bin .add, [.t 31, .c (.int .i64 1)], none⟩,
  ⟨(some 31), .mov, [.t 38], none⟩]
def c_block_Write_r8 : List COper := a_block_Write_r8
instance : Reg c_block_Write_r8 a_block_Write_r8 2 := ⟨rfl, rfl⟩
@[simp] def c_block_Write : CCode :=
  .seq (.region c_block_Write_r0 none [0, 3]) (.seq (.region c_block_Write_r1 none [0, 3]) (.seq (.region c_block_Write_r2 none [0, 3]) (.seq (.region c_block_Write_r3 none [0, 3]) (.seq (.region c_block_Write_r4 none [0, 29, 30, 31]) (.block 0 (.loop (.seq (.region c_block_Write_r5 none [0, 29, 30, 31, 32]) (.seq (.cond (.t 32) (.skip) (.exit 0)) (.seq (.block 1 (.seq (.region c_block_Write_r6 none [0, 5, 29, 30, 31]) (.region c_block_Write_r7 none [0, 29, 30, 31]))) (.region c_block_Write_r8 none [0, 29, 30, 31]))))))))))
@[simp] def R_block_Write : List CRes := []
theorem k_block_Write : chkFn Tryd.prog fn_block_Write c_block_Write R_block_Write 2 = true := by kernel_rfl
/-! wapentake/config.right -/
@[simp] def a_config_right_r0 : List COper := [
  ⟨(some 1), .box, [.t 0], none⟩,
  ⟨(some 2), .mov, [.c (.bool false)], none⟩]
def c_config_right_r0 : List COper := a_config_right_r0
instance : Reg c_config_right_r0 a_config_right_r0 2 := ⟨rfl, rfl⟩
@[simp] def a_config_right_r1 : List COper := [
  ⟨(some 3), .faddr 0 1 false, [.t 1], none⟩,
  ⟨(some 4), .load false 1, [.t 3], none⟩,
  ⟨(some 5), .bin .geq, [.t 4, .c (.int .i64 1)], none⟩,
  ⟨(some 6), .mov, [.t 5], none⟩,
  ⟨(some 7), .faddr 0 1 false, [.t 1], (some (6, true))⟩,
  ⟨(some 8), .load false 1, [.t 7], (some (6, true))⟩,
  ⟨(some 9), .bin .leq, [.t 8, .c (.int .i64 63)], (some (6, true))⟩,
  ⟨(some 10), .pick, [.t 6, .t 9, .c (.bool false)], none⟩,
  ⟨(some 11), .mov, [.t 10], none⟩,
  ⟨(some 12), .faddr 1 33 true, [.t 1], (some (11, true))⟩,
  ⟨(some 13), .faddr 32 1 false, [.t 12], (some (11, true))⟩,
  ⟨(some 14), .load false 1, [.t 13], (some (11, true))⟩,
  ⟨(some 15), .bin .geq, [.t 14, .c (.int .i64 0)], (some (11, true))⟩,
  ⟨(some 16), .pick, [.t 11, .t 15, .c (.bool false)], none⟩,
  ⟨(some 17), .mov, [.t 16], none⟩,
  ⟨(some 18), .faddr 1 33 true, [.t 1], (some (17, true))⟩,
  ⟨(some 19), .faddr 32 1 false, [.t 18], (some (17, true))⟩,
  ⟨(some 20), .load false 1, [.t 19], (some (17, true))⟩,
  ⟨(some 21), .bin .leq, [.t 20, .c (.int .i64 6)], (some (17, true))⟩,
  ⟨(some 22), .pick, [.t 17, .t 21, .c (.bool false)], none⟩,
  ⟨(some 2), .mov, [.t 22], none⟩]
def c_config_right_r1 : List COper := a_config_right_r1
instance : Reg c_config_right_r1 a_config_right_r1 21 := ⟨rfl, rfl⟩
@[simp] def c_config_right : CCode :=
  .seq (.region c_config_right_r0 none [1]) (.seq (.region c_config_right_r1 none [2]) (.ret))
@[simp] def R_config_right : List CRes := [.tmp 2]
theorem k_config_right : chkFn Tryd.prog fn_config_right c_config_right R_config_right 1 = true := by kernel_rfl
/-! wapentake/sha.Of -/
@[simp] def a_sha_Of_r0 : List COper := [
  ⟨(some 2), .alloc (.arr 1 (rep 32 (.v (.int .u8 0)))), [], none⟩]
def c_sha_Of_r0 : List COper := a_sha_Of_r0
instance : Reg c_sha_Of_r0 a_sha_Of_r0 1 := ⟨rfl, rfl⟩
@[simp] def a_sha_Of_r1 : List COper := [
  ⟨(some 13), .buildA 1 (rep 8 (.v (.int .u32 0))) (upTo 8), [.c (.int .u32 1779033703), .c (.int .u32 3144134277), .c (.int .u32 1013904242), .c (.int .u32 2773480762), .c (.int .u32 1359893119), .c (.int .u32 2600822924), .c (.int .u32 528734635), .c (.int .u32 1541459225)], none⟩,
  ⟨(some 3), .alloc (.arr 1 (rep 8 (.v (.int .u32 0)))), [], none⟩,
  ⟨none, .store true 8, [.t 3, .t 13], none⟩]
def c_sha_Of_r1 : List COper := a_sha_Of_r1
instance : Reg c_sha_Of_r1 a_sha_Of_r1 3 := ⟨rfl, rfl⟩
@[simp] def a_sha_Of_r2 : List COper := [
  ⟨(some 4), .alloc (.arr 1 (rep 64 (.v (.int .u8 0)))), [], none⟩]
def c_sha_Of_r2 : List COper := a_sha_Of_r2
instance : Reg c_sha_Of_r2 a_sha_Of_r2 1 := ⟨rfl, rfl⟩
@[simp] def a_sha_Of_r3 : List COper := [
  ⟨(some 5), .mov, [.c (.int .i64 0)], none⟩,
  ⟨(some 6), .mov, [.c (.int .i64 0)], none⟩]
def c_sha_Of_r3 : List COper := a_sha_Of_r3
instance : Reg c_sha_Of_r3 a_sha_Of_r3 2 := ⟨rfl, rfl⟩
@[simp] def a_sha_Of_r4 : List COper := [
  ⟨(some 14), .mov, [.t 0], none⟩,
  ⟨(some 15), .len, [.t 14], none⟩,
  ⟨(some 16), .mov, [.c (.int .i64 0)], none⟩]
def c_sha_Of_r4 : List COper := a_sha_Of_r4
instance : Reg c_sha_Of_r4 a_sha_Of_r4 3 := ⟨rfl, rfl⟩
@[simp] def a_sha_Of_r5 : List COper := [
  ⟨(some 17), .bin .lss, [.t 16, .t 15], none⟩]
def c_sha_Of_r5 : List COper := a_sha_Of_r5
instance : Reg c_sha_Of_r5 a_sha_Of_r5 1 := ⟨rfl, rfl⟩
@[simp] def a_sha_Of_r6 : List COper := [
  ⟨(some 18), .iaddr 1, [.t 14, .t 16], none⟩,
  ⟨(some 19), .load false 1, [.t 18], none⟩,
  ⟨(some 8), .mov, [.t 19], none⟩]
def c_sha_Of_r6 : List COper := a_sha_Of_r6
instance : Reg c_sha_Of_r6 a_sha_Of_r6 3 := ⟨rfl, rfl⟩
@[simp] def a_sha_Of_r7 : List COper := [
  ⟨(some 20), .mov, [.t 5], none⟩,
  ⟨(some 21), .mov, [.t 8], none⟩,
  ⟨(some 22), .len, [.t 21], none⟩,
  ⟨(some 23), .bin .add, [.t 20, .t 22], none⟩,
  ⟨(some 5), .mov, [.t 23], none⟩]
def c_sha_Of_r7 : List COper := a_sha_Of_r7
instance : Reg c_sha_Of_r7 a_sha_Of_r7 5 := ⟨rfl, rfl⟩
@[simp] def a_sha_Of_r8 : List COper := [
  ⟨(some 24), .mov, [.t 8], none⟩,
  ⟨(some 25), .len, [.t 24], none⟩,
  ⟨(some 26), .bin .gtr, [.t 25, .c (.int .i64 0)], none⟩]
def c_sha_Of_r8 : List COper := a_sha_Of_r8
instance : Reg c_sha_Of_r8 a_sha_Of_r8 3 := ⟨rfl, rfl⟩
@[simp] def a_sha_Of_r9 : List COper := [
  ⟨(some 27), .mov, [.t 6], none⟩,
  ⟨(some 28), .sliceArr 64 1 true false, [.t 4, .t 27], none⟩,
  ⟨(some 29), .mov, [.t 8], none⟩,
  ⟨(some 30), .copy 1, [.t 28, .t 29], none⟩,
  ⟨(some 9), .mov, [.t 30], none⟩]
def c_sha_Of_r9 : List COper := a_sha_Of_r9
instance : Reg c_sha_Of_r9 a_sha_Of_r9 5 := ⟨rfl, rfl⟩
@[simp] def a_sha_Of_r10 : List COper := [
  ⟨(some 31), .mov, [.t 6], none⟩,
  ⟨(some 32), .mov, [.t 9], none⟩,
  ⟨(some 33), .bin .add, [.t 31, .t 32], none⟩,
  ⟨(some 34), .mov, [.t 8], none⟩,
  ⟨(some 35), .mov, [.t 9], none⟩,
  ⟨(some 36), .slice 1 true false, [.t 34, .t 35], none⟩,
  ⟨(some 6), .mov, [.t 33], none⟩,
  ⟨(some 8), .mov, [.t 36], none⟩]
def c_sha_Of_r10 : List COper := a_sha_Of_r10
instance : Reg c_sha_Of_r10 a_sha_Of_r10 8 := ⟨rfl, rfl⟩
@[simp] def a_sha_Of_r11 : List COper := [
  ⟨(some 37), .mov, [.t 6], none⟩,
  ⟨(some 38), .bin .eql, [.t 37, .c (.int .i64 64)], none⟩]
def c_sha_Of_r11 : List COper := a_sha_Of_r11
instance : Reg c_sha_Of_r11 a_sha_Of_r11 2 := ⟨rfl, rfl⟩
@[simp] def a_sha_Of_r12 : List COper := [
  ⟨(some 39), .sliceArr 64 1 false false, [.t 4], none⟩,
  ⟨(some 40), .call fn_sha_state_block, [.t 3, .t 39], none⟩]
def c_sha_Of_r12 : List COper := a_sha_Of_r12
instance : Reg c_sha_Of_r12 a_sha_Of_r12 2 := ⟨rfl, rfl⟩
@[simp] def a_sha_Of_r13 : List COper := [
  ⟨(some 6), .mov, [.c (.int .i64 0)], none⟩]
def c_sha_Of_r13 : List COper := a_sha_Of_r13
instance : Reg c_sha_Of_r13 a_sha_Of_r13 1 := ⟨rfl, rfl⟩
@[simp] def a_sha_Of_r14 : List COper := [
  ⟨(some 41), .bin .add, [.t 16, .c (.int .i64 1)], none⟩,
  ⟨(some 16), .mov, [.t 41], none⟩]
def c_sha_Of_r14 : List COper := a_sha_Of_r14
instance : Reg c_sha_Of_r14 a_sha_Of_r14 2 := ⟨rfl, rfl⟩
@[simp] def a_sha_Of_r15 : List COper := [
  ⟨(some 42), .mov, [.t 6], none⟩,
  ⟨(some 43), .iaddrArr 64 1 false, [.t 4, .t 42], none⟩,
  ⟨none, .store false 1, [.t 43, .c (.int .u8 128)], none⟩]
def c_sha_Of_r15 : List COper := a_sha_Of_r15
instance : Reg c_sha_Of_r15 a_sha_Of_r15 3 := ⟨rfl, rfl⟩
@[simp] def a_sha_Of_r16 : List COper := [
  ⟨(some 44), .mov, [.t 6], none⟩,
  ⟨(some 45), .bin .add, [.t 44, .c (.int .i64 1)], none⟩,
  ⟨(some 46), .sliceArr 64 1 true false, [.t 4, .t 45], none⟩,
  ⟨none, .clear 1 (.v (.int .u8 0)), [.t 46], none⟩]
def c_sha_Of_r16 : List COper := a_sha_Of_r16
instance : Reg c_sha_Of_r16 a_sha_Of_r16 4 := ⟨rfl, rfl⟩
@[simp] def a_sha_Of_r17 : List COper := [
  ⟨(some 47), .mov, [.t 6], none⟩,
  ⟨(some 48), .bin .geq, [.t 47, .c (.int .i64 56)], none⟩]
def c_sha_Of_r17 : List COper := a_sha_Of_r17
instance : Reg c_sha_Of_r17 a_sha_Of_r17 2 := ⟨rfl, rfl⟩
@[simp] def a_sha_Of_r18 : List COper := [
  ⟨(some 49), .sliceArr 64 1 false false, [.t 4], none⟩,
  ⟨(some 50), .call fn_sha_state_block, [.t 3, .t 49], none⟩]
def c_sha_Of_r18 : List COper := a_sha_Of_r18
instance : Reg c_sha_Of_r18 a_sha_Of_r18 2 := ⟨rfl, rfl⟩
@[simp] def a_sha_Of_r19 : List COper := [
  ⟨(some 51), .sliceArr 64 1 false false, [.t 4], none⟩,
  ⟨none, .clear 1 (.v (.int .u8 0)), [.t 51], none⟩]
def c_sha_Of_r19 : List COper := a_sha_Of_r19
instance : Reg c_sha_Of_r19 a_sha_Of_r19 2 := ⟨rfl, rfl⟩
@[simp] def a_sha_Of_r20 : List COper := [
  ⟨(some 52), .mov, [.c (.int .i64 0)], none⟩]
def c_sha_Of_r20 : List COper := a_sha_Of_r20
instance : Reg c_sha_Of_r20 a_sha_Of_r20 1 := ⟨rfl, rfl⟩
@[simp] def a_sha_Of_r21 : List COper := [
  ⟨(some 53), .bin .lss, [.t 52, .c (.int .i64 8)], none⟩]
def c_sha_Of_r21 : List COper := a_sha_Of_r21
instance : Reg c_sha_Of_r21 a_sha_Of_r21 1 := ⟨rfl, rfl⟩
@[simp] def a_sha_Of_r22 : List COper := [
  ⟨(some 54), .mov, [.t 52], none⟩,
  ⟨(some 10), .mov, [.t 54], none⟩]
def c_sha_Of_r22 : List COper := a_sha_Of_r22
instance : Reg c_sha_Of_r22 a_sha_Of_r22 2 := ⟨rfl, rfl⟩
@[simp] def a_sha_Of_r23 : List COper := [
  ⟨(some 55), .mov, [.t 10], none⟩,
  ⟨(some 56), .bin .add, [.c (.int .i64 56), .t 55], none⟩,
  ⟨(some 57), .mov, [.t 5], none⟩,
  ⟨(some 58), .convI .u64, [.t 57], none⟩,
  ⟨(some 59), .bin .shl, [.t 58, .c (.int .u64 3)], none⟩,
  ⟨(some 60), .mov, [.t 10], none⟩,
  ⟨(some 61), .bin .mul, [.c (.int .i64 8), .t 60], none⟩,
  ⟨(some 62), .bin .sub, [.c (.int .i64 56), .t 61], none⟩,
  ⟨(some 63), .bin .shr, [.t 59, .t 62], none⟩,
  ⟨(some 64), .convI .u8, [.t 63], none⟩,
  ⟨(some 65), .iaddrArr 64 1 false, [.t 4, .t 56], none⟩,
  ⟨none, .store false 1, [.t 65, .t 64], none⟩]
def c_sha_Of_r23 : List COper := a_sha_Of_r23
instance : Reg c_sha_Of_r23 a_sha_Of_r23 12 := ⟨rfl, rfl⟩
@[simp] def a_sha_Of_r24 : List COper := [
  ⟨(some 66), .bin .add, [.t 52, .c (.int .i64 1)], none⟩,
  ⟨(some 52), .mov, [.t 66], none⟩]
def c_sha_Of_r24 : List COper := a_sha_Of_r24
instance : Reg c_sha_Of_r24 a_sha_Of_r24 2 := ⟨rfl, rfl⟩
@[simp] def a_sha_Of_r25 : List COper := [
  ⟨(some 67), .sliceArr 64 1 false false, [.t 4], none⟩,
  ⟨(some 68), .call fn_sha_state_block, [.t 3, .t 67], none⟩]
def c_sha_Of_r25 : List COper := a_sha_Of_r25
instance : Reg c_sha_Of_r25 a_sha_Of_r25 2 := ⟨rfl, rfl⟩
@[simp] def a_sha_Of_r26 : List COper := [
  ⟨(some 11), .alloc (.arr 1 (rep 32 (.v (.int .u8 0)))), [], none⟩]
def c_sha_Of_r26 : List COper := a_sha_Of_r26
instance : Reg c_sha_Of_r26 a_sha_Of_r26 1 := ⟨rfl, rfl⟩
@[simp] def a_sha_Of_r27 : List COper := [
  ⟨(some 69), .mov, [.c (.int .i64 0)], none⟩]
def c_sha_Of_r27 : List COper := a_sha_Of_r27
instance : Reg c_sha_Of_r27 a_sha_Of_r27 1 := ⟨rfl, rfl⟩
@[simp] def a_sha_Of_r28 : List COper := [
  ⟨(some 70), .bin .lss, [.t 69, .c (.int .i64 32)], none⟩]
def c_sha_Of_r28 : List COper := a_sha_Of_r28
instance : Reg c_sha_Of_r28 a_sha_Of_r28 1 := ⟨rfl, rfl⟩
@[simp] def a_sha_Of_r29 : List COper := [
  ⟨(some 71), .mov, [.t 69], none⟩,
  ⟨(some 12), .mov, [.t 71], none⟩]
def c_sha_Of_r29 : List COper := a_sha_Of_r29
instance : Reg c_sha_Of_r29 a_sha_Of_r29 2 := ⟨rfl, rfl⟩
@[simp] def a_sha_Of_r30 : List COper := [
  ⟨(some 72), .mov, [.t 12], none⟩,
  ⟨(some 73), .mov, [.t 12], none⟩,
  ⟨(some 74), .bin .quo, [.t 73, .c (.int .i64 4)], none⟩,
  ⟨(some 75), .iaddrArr 8 1 false, [.t 3, .t 74], none⟩,
  ⟨(some 76), .load false 1, [.t 75], none⟩,
  ⟨(some 77), .mov, [.t 12], none⟩,
  ⟨(some 78), .bin .rem, [.t 77, .c (.int .i64 4)], none⟩,
  ⟨(some 79), .bin .mul, [.c (.int .i64 8), .t 78], none⟩,
  ⟨(some 80), .bin .sub, [.c (.int .i64 24), .t 79], none⟩,
  ⟨(some 81), .bin .shr, [.t 76, .t 80], none⟩,
  ⟨(some 82), .convI .u8, [.t 81], none⟩,
  ⟨(some 83), .iaddrArr 32 1 false, [.t 11, .t 72], none⟩,
  ⟨none, .store false 1, [.t 83, .t 82], none⟩]
def c_sha_Of_r30 : List COper := a_sha_Of_r30
instance : Reg c_sha_Of_r30 a_sha_Of_r30 13 := ⟨rfl, rfl⟩
@[simp] def a_sha_Of_r31 : List COper := [
  ⟨(some 84), .bin .add, [.t 69, .c (.int .i64 1)], none⟩,
  ⟨(some 69), .mov, [.t 84], none⟩]
def c_sha_Of_r31 : List COper := a_sha_Of_r31
instance : Reg c_sha_Of_r31 a_sha_Of_r31 2 := ⟨rfl, rfl⟩
@[simp] def a_sha_Of_r32 : List COper := [
  ⟨(some 85), .load true 32, [.t 11], none⟩,
  ⟨none, .store true 32, [.t 2, .t 85], none⟩]
def c_sha_Of_r32 : List COper := a_sha_Of_r32
instance : Reg c_sha_Of_r32 a_sha_Of_r32 2 := ⟨rfl, rfl⟩
@[simp] def c_sha_Of : CCode :=
  .seq (.region c_sha_Of_r0 none [0, 2]) (.seq (.region c_sha_Of_r1 none [0, 2, 3]) (.seq (.region c_sha_Of_r2 none [0, 2, 3, 4]) (.seq (.region c_sha_Of_r3 none [0, 2, 3, 4, 5, 6]) (.seq (.seq (.region c_sha_Of_r4 none [2, 3, 4, 5, 6, 14, 15, 16]) (.block 0 (.loop (.seq (.region c_sha_Of_r5 none [2, 3, 4, 5, 6, 14, 15, 16, 17]) (.seq (.cond (.t 17) (.skip) (.exit 0)) (.seq (.block 1 (.seq (.region c_sha_Of_r6 none [2, 3, 4, 5, 6, 8, 14, 15, 16]) (.seq (.region c_sha_Of_r7 none [2, 3, 4, 5, 6, 8, 14, 15, 16]) (.block 2 (.loop (.seq (.seq (.region c_sha_Of_r8 none [2, 3, 4, 5, 6, 8, 14, 15, 16, 26]) (.cond (.t 26) (.skip) (.exit 2))) (.block 3 (.seq (.region c_sha_Of_r9 none [2, 3, 4, 5, 6, 8, 9, 14, 15, 16]) (.seq (.region c_sha_Of_r10 (some ([0, 0, 3, 0, 0, 24, 7, 127], [])) [2, 3, 4, 5, 6, 8, 14, 15, 16]) (.seq (.region c_sha_Of_r11 none [2, 3, 4, 5, 6, 8, 14, 15, 16, 38]) (.cond (.t 38) (.seq (.region c_sha_Of_r12 none [2, 3, 4, 5, 8, 14, 15, 16]) (.region c_sha_Of_r13 none [2, 3, 4, 5, 6, 8, 14, 15, 16])) (.skip)))))))))))) (.region c_sha_Of_r14 none [2, 3, 4, 5, 6, 14, 15, 16]))))))) (.seq (.region c_sha_Of_r15 none [2, 3, 4, 5, 6]) (.seq (.region c_sha_Of_r16 none [2, 3, 4, 5, 6]) (.seq (.seq (.region c_sha_Of_r17 none [2, 3, 4, 5, 48]) (.cond (.t 48) (.seq (.region c_sha_Of_r18 none [2, 3, 4, 5]) (.region c_sha_Of_r19 none [2, 3, 4, 5])) (.skip))) (.seq (.seq (.region c_sha_Of_r20 none [2, 3, 4, 5, 52]) (.block 4 (.loop (.seq (.region c_sha_Of_r21 none [2, 3, 4, 5, 52, 53]) (.seq (.cond (.t 53) (.skip) (.exit 4)) (.seq (.block 5 (.seq (.region c_sha_Of_r22 none [2, 3, 4, 5, 10, 52]) (.region c_sha_Of_r23 none [2, 3, 4, 5, 52]))) (.region c_sha_Of_r24 none [2, 3, 4, 5, 52]))))))) (.seq (.region c_sha_Of_r25 none [2, 3]) (.seq (.region c_sha_Of_r26 none [2, 3, 11]) (.seq (.seq (.region c_sha_Of_r27 none [2, 3, 11, 69]) (.block 6 (.loop (.seq (.region c_sha_Of_r28 none [2, 3, 11, 69, 70]) (.seq (.cond (.t 70) (.skip) (.exit 6)) (.seq (.block 7 (.seq (.region c_sha_Of_r29 none [2, 3, 11, 12, 69]) (.region c_sha_Of_r30 none [2, 3, 11, 69]))) (.region c_sha_Of_r31 none [2, 3, 11, 69]))))))) (.seq (.region c_sha_Of_r32 none [2]) (.ret)))))))))))))
@[simp] def R_sha_Of : List CRes := [.cell 2 true 32]
theorem k_sha_Of : chkFn Tryd.prog fn_sha_Of c_sha_Of R_sha_Of 1 = true := by kernel_rfl
/-! wapentake/keys.leaf -/
@[simp] def a_keys_leaf_r0 : List COper := [
  ⟨(some 1), .box, [.t 0], none⟩,
  ⟨(some 2), .alloc (.arr 1 (rep 32 (.v (.int .u8 0)))), [], none⟩]
def c_keys_leaf_r0 : List COper := a_keys_leaf_r0
instance : Reg c_keys_leaf_r0 a_keys_leaf_r0 2 := ⟨rfl, rfl⟩
@[simp] def a_keys_leaf_r1 : List COper := [
  ⟨(some 3), .sliceArr 32 1 false false, [.t 1], none⟩,
  ⟨(some 4), .call fn_tree_Leaf, [.t 3], none⟩,
  ⟨none, .store true 32, [.t 2, .t 4], none⟩]
def c_keys_leaf_r1 : List COper := a_keys_leaf_r1
instance : Reg c_keys_leaf_r1 a_keys_leaf_r1 3 := ⟨rfl, rfl⟩
@[simp] def c_keys_leaf : CCode :=
  .seq (.region c_keys_leaf_r0 none [1, 2]) (.seq (.region c_keys_leaf_r1 none [2]) (.ret))
@[simp] def R_keys_leaf : List CRes := [.cell 2 true 32]
theorem k_keys_leaf : chkFn Tryd.prog fn_keys_leaf c_keys_leaf R_keys_leaf 1 = true := by kernel_rfl
/-! wapentake/once.Public -/
@[simp] def a_once_Public_r0 : List COper := [
  ⟨(some 2), .box, [.t 0], none⟩,
  ⟨(some 4), .alloc (.arr 1 (rep 32 (.v (.int .u8 0)))), [], none⟩]
def c_once_Public_r0 : List COper := a_once_Public_r0
instance : Reg c_once_Public_r0 a_once_Public_r0 2 := ⟨rfl, rfl⟩
@[simp] def a_once_Public_r1 : List COper := [
  ⟨(some 5), .mov, [.c (.slice none 0 0)], none⟩]
def c_once_Public_r1 : List COper := a_once_Public_r1
instance : Reg c_once_Public_r1 a_once_Public_r1 1 := ⟨rfl, rfl⟩
@[simp] def a_once_Public_r2 : List COper := [
  ⟨(some 7), .mov, [.c (.int .i64 0)], none⟩]
def c_once_Public_r2 : List COper := a_once_Public_r2
instance : Reg c_once_Public_r2 a_once_Public_r2 1 := ⟨rfl, rfl⟩
@[simp] def a_once_Public_r3 : List COper := [
  ⟨(some 8), .bin .lss, [.t 7, .c (.int .i64 32)], none⟩]
def c_once_Public_r3 : List COper := a_once_Public_r3
instance : Reg c_once_Public_r3 a_once_Public_r3 1 := ⟨rfl, rfl⟩
@[simp] def a_once_Public_r4 : List COper := [
  ⟨(some 9), .mov, [.t 7], none⟩,
  ⟨(some 6), .mov, [.t 9], none⟩]
def c_once_Public_r4 : List COper := a_once_Public_r4
instance : Reg c_once_Public_r4 a_once_Public_r4 2 := ⟨rfl, rfl⟩
@[simp] def a_once_Public_r5 : List COper := [
  ⟨(some 10), .mov, [.t 5], none⟩,
  ⟨(some 11), .load true 32, [.t 2], none⟩,
  ⟨(some 12), .mov, [.t 1], none⟩,
  ⟨(some 13), .mov, [.t 6], none⟩,
  ⟨(some 14), .call fn_once_secret, [.t 11, .t 12, .t 13, .c (.int .i64 0)], none⟩,
  ⟨(some 15), .call fn_once_shut, [.t 14], none⟩,
  ⟨(some 16), .load true 32, [.t 2], none⟩,
  ⟨(some 17), .mov, [.t 1], none⟩,
  ⟨(some 18), .mov, [.t 6], none⟩,
  ⟨(some 19), .call fn_once_secret, [.t 16, .t 17, .t 18, .c (.int .i64 1)], none⟩,
  ⟨(some 20), .call fn_once_shut, [.t 19], none⟩,
  ⟨(some 21), .bslice 32 2 (.arr 1 (rep 32 (.v (.int .u8 0)))) [0, 1], [.t 15, .t 20], none⟩,
  ⟨(some 22), .app 32 32, [.t 10, .t 21], none⟩,
  ⟨(some 5), .mov, [.t 22], none⟩]
def c_once_Public_r5 : List COper := a_once_Public_r5
instance : Reg c_once_Public_r5 a_once_Public_r5 14 := ⟨rfl, rfl⟩
@[simp] def a_once_Public_r6 : List COper := [
  ⟨(some 23), .bin .add, [.t 7, .c (.int .i64 1)], none⟩,
  ⟨(some 7), .mov, [.t 23], none⟩]
def c_once_Public_r6 : List COper := a_once_Public_r6
instance : Reg c_once_Public_r6 a_once_Public_r6 2 := ⟨rfl, rfl⟩
@[simp] def a_once_Public_r7 : List COper := [
  ⟨(some 24), .mov, [.t 5], none⟩,
  ⟨(some 25), .call fn_once_whole, [.t 24], none⟩,
  ⟨none, .store true 32, [.t 4, .t 25], none⟩]
def c_once_Public_r7 : List COper := a_once_Public_r7
instance : Reg c_once_Public_r7 a_once_Public_r7 3 := ⟨rfl, rfl⟩
@[simp] def c_once_Public : CCode :=
  .seq (.region c_once_Public_r0 none [1, 2, 4]) (.seq (.region c_once_Public_r1 none [1, 2, 4, 5]) (.seq (.seq (.region c_once_Public_r2 none [1, 2, 4, 5, 7]) (.block 0 (.loop (.seq (.region c_once_Public_r3 none [1, 2, 4, 5, 7, 8]) (.seq (.cond (.t 8) (.skip) (.exit 0)) (.seq (.block 1 (.seq (.region c_once_Public_r4 none [1, 2, 4, 5, 6, 7]) (.region c_once_Public_r5 (some ([0, 0, 0, 0, 14, 30, 0, 0, 0, 510, 1022, 2046, 4095, 8191], [(4, 6), (5, 6)])) [1, 2, 4, 5, 7]))) (.region c_once_Public_r6 none [1, 2, 4, 5, 7]))))))) (.seq (.region c_once_Public_r7 none [4]) (.ret))))
@[simp] def R_once_Public : List CRes := [.cell 4 true 32]
theorem k_once_Public : chkFn Tryd.prog fn_once_Public c_once_Public R_once_Public 2 = true := by kernel_rfl
/-! wapentake/tree.Root -/
@[simp] def a_tree_Root_r0 : List COper := [
  ⟨(some 2), .alloc (.arr 1 (rep 32 (.v (.int .u8 0)))), [], none⟩]
def c_tree_Root_r0 : List COper := a_tree_Root_r0
instance : Reg c_tree_Root_r0 a_tree_Root_r0 1 := ⟨rfl, rfl⟩
@[simp] def a_tree_Root_r1 : List COper := [
  ⟨(some 4), .mov, [.t 0], none⟩,
  ⟨(some 5), .len, [.t 4], none⟩,
  ⟨(some 6), .bin .eql, [.t 5, .c (.int .i64 0)], none⟩]
def c_tree_Root_r1 : List COper := a_tree_Root_r1
instance : Reg c_tree_Root_r1 a_tree_Root_r1 3 := ⟨rfl, rfl⟩
@[simp] def a_tree_Root_r2 : List COper := [
  ⟨(some 7), .call fn_sha_Of, [.c (.slice none 0 0)], none⟩,
  ⟨none, .store true 32, [.t 2, .t 7], none⟩]
def c_tree_Root_r2 : List COper := a_tree_Root_r2
instance : Reg c_tree_Root_r2 a_tree_Root_r2 2 := ⟨rfl, rfl⟩
@[simp] def a_tree_Root_r3 : List COper := [
  ⟨(some 8), .bslice 32 0 (.arr 1 (rep 32 (.v (.int .u8 0)))) [], [], none⟩,
  ⟨(some 9), .mov, [.t 0], none⟩,
  ⟨(some 10), .app 32 32, [.t 8, .t 9], none⟩,
  ⟨(some 3), .mov, [.t 10], none⟩]
def c_tree_Root_r3 : List COper := a_tree_Root_r3
instance : Reg c_tree_Root_r3 a_tree_Root_r3 4 := ⟨rfl, rfl⟩
@[simp] def a_tree_Root_r4 : List COper := [
  ⟨(some 11), .mov, [.t 3], none⟩,
  ⟨(some 12), .len, [.t 11], none⟩,
  ⟨(some 13), .bin .gtr, [.t 12, .c (.int .i64 1)], none⟩]
def c_tree_Root_r4 : List COper := a_tree_Root_r4
instance : Reg c_tree_Root_r4 a_tree_Root_r4 3 := ⟨rfl, rfl⟩
@[simp] def a_tree_Root_r5 : List COper := [
  ⟨(some 14), .mov, [.t 3], none⟩,
  ⟨(some 15), .call fn_tree_up, [.t 14], none⟩,
  ⟨(some 3), .mov, [.t 15], none⟩]
def c_tree_Root_r5 : List COper := a_tree_Root_r5
instance : Reg c_tree_Root_r5 a_tree_Root_r5 3 := ⟨rfl, rfl⟩
@[simp] def a_tree_Root_r6 : List COper := [
  ⟨(some 16), .mov, [.t 3], none⟩,
  ⟨(some 17), .iaddr 32, [.t 16, .c (.int .i64 0)], none⟩,
  ⟨(some 18), .load true 32, [.t 17], none⟩,
  ⟨none, .store true 32, [.t 2, .t 18], none⟩]
def c_tree_Root_r6 : List COper := a_tree_Root_r6
instance : Reg c_tree_Root_r6 a_tree_Root_r6 4 := ⟨rfl, rfl⟩
@[simp] def c_tree_Root : CCode :=
  .seq (.region c_tree_Root_r0 none [0, 2]) (.seq (.seq (.region c_tree_Root_r1 none [0, 2, 6]) (.cond (.t 6) (.seq (.region c_tree_Root_r2 none [2]) (.ret)) (.skip))) (.seq (.region c_tree_Root_r3 none [2, 3]) (.seq (.block 0 (.loop (.seq (.seq (.region c_tree_Root_r4 none [2, 3, 13]) (.cond (.t 13) (.skip) (.exit 0))) (.block 1 (.region c_tree_Root_r5 none [2, 3]))))) (.seq (.region c_tree_Root_r6 none [2]) (.ret)))))
@[simp] def R_tree_Root : List CRes := [.cell 2 true 32]
theorem k_tree_Root : chkFn Tryd.prog fn_tree_Root c_tree_Root R_tree_Root 1 = true := by kernel_rfl
/-! wapentake/tree.Path -/
@[simp] def a_tree_Path_r0 : List COper := [
  ⟨(some 4), .mov, [.c (.slice none 0 0)], none⟩,
  ⟨(some 5), .mov, [.c (.bool false)], none⟩]
def c_tree_Path_r0 : List COper := a_tree_Path_r0
instance : Reg c_tree_Path_r0 a_tree_Path_r0 2 := ⟨rfl, rfl⟩
@[simp] def a_tree_Path_r1 : List COper := [
  ⟨(some 9), .mov, [.t 0], none⟩,
  ⟨(some 10), .bin .lss, [.t 9, .c (.int .i64 0)], none⟩,
  ⟨(some 11), .mov, [.t 10], none⟩,
  ⟨(some 12), .mov, [.t 0], (some (11, false))⟩,
  ⟨(some 13), .mov, [.t 1], (some (11, false))⟩,
  ⟨(some 14), .len, [.t 13], (some (11, false))⟩,
  ⟨(some 15), .bin .geq, [.t 12, .t 14], (some (11, false))⟩,
  ⟨(some 16), .pick, [.t 11, .c (.bool true), .t 15], none⟩]
def c_tree_Path_r1 : List COper := a_tree_Path_r1
instance : Reg c_tree_Path_r1 a_tree_Path_r1 8 := ⟨rfl, rfl⟩
@[simp] def a_tree_Path_r2 : List COper := [
  ⟨(some 4), .mov, [.c (.slice none 0 0)], none⟩,
  ⟨(some 5), .mov, [.c (.bool false)], none⟩]
def c_tree_Path_r2 : List COper := a_tree_Path_r2
instance : Reg c_tree_Path_r2 a_tree_Path_r2 2 := ⟨rfl, rfl⟩
@[simp] def a_tree_Path_r3 : List COper := [
  ⟨(some 6), .mov, [.c (.slice none 0 0)], none⟩]
def c_tree_Path_r3 : List COper := a_tree_Path_r3
instance : Reg c_tree_Path_r3 a_tree_Path_r3 1 := ⟨rfl, rfl⟩
@[simp] def a_tree_Path_r4 : List COper := [
  ⟨(some 17), .bslice 32 0 (.arr 1 (rep 32 (.v (.int .u8 0)))) [], [], none⟩,
  ⟨(some 18), .mov, [.t 1], none⟩,
  ⟨(some 19), .app 32 32, [.t 17, .t 18], none⟩,
  ⟨(some 7), .mov, [.t 19], none⟩]
def c_tree_Path_r4 : List COper := a_tree_Path_r4
instance : Reg c_tree_Path_r4 a_tree_Path_r4 4 := ⟨rfl, rfl⟩
@[simp] def a_tree_Path_r5 : List COper := [
  ⟨(some 20), .mov, [.t 7], none⟩,
  ⟨(some 21), .len, [.t 20], none⟩,
  ⟨(some 22), .bin .gtr, [.t 21, .c (.int .i64 1)], none⟩]
def c_tree_Path_r5 : List COper := a_tree_Path_r5
instance : Reg c_tree_Path_r5 a_tree_Path_r5 3 := ⟨rfl, rfl⟩
@[simp] def a_tree_Path_r7 : List COper := [
  ⟨(some 27), .mov, [.t 0], none⟩,
  ⟨(some 28), .bin .xor, [.t 27, .c (.int .i64 1)], none⟩,
  ⟨(some 8), .mov, [.t 28], none⟩]
def c_tree_Path_r7 : List COper := a_tree_Path_r7
instance : Reg c_tree_Path_r7 a_tree_Path_r7 3 := ⟨rfl, rfl⟩
@[simp] def a_tree_Path_r8 : List COper := [
  ⟨(some 29), .mov, [.t 8], none⟩,
  ⟨(some 30), .mov, [.t 7], none⟩,
  ⟨(some 31), .len, [.t 30], none⟩,
  ⟨(some 32), .bin .lss, [.t 29, .t 31], none⟩]
def c_tree_Path_r8 : List COper := a_tree_Path_r8
instance : Reg c_tree_Path_r8 a_tree_Path_r8 4 := ⟨rfl, rfl⟩
@[simp] def a_tree_Path_r9 : List COper := [
  ⟨(some 33), .mov, [.t 6], none⟩,
  ⟨(some 34), .mov, [.t 7], none⟩,
  ⟨(some 35), .mov, [.t 8], none⟩,
  ⟨(some 36), .iaddr 32, [.t 34, .t 35], none⟩,
  ⟨(some 37), .load true 32, [.t 36], none⟩,
  ⟨(some 38), .bslice 32 1 (.arr 1 (rep 32 (.v (.int .u8 0)))) [0], [.t 37], none⟩,
  ⟨(some 39), .app 32 32, [.t 33, .t 38], none⟩,
  ⟨(some 6), .mov, [.t 39], none⟩]
def c_tree_Path_r9 : List COper := a_tree_Path_r9
instance : Reg c_tree_Path_r9 a_tree_Path_r9 8 := ⟨rfl, rfl⟩
@[simp] def a_tree_Path_r6 : List COper := [
  ⟨(some 23), .mov, [.t 7], none⟩,
  ⟨(some 24), .call fn_tree_up, [.t 23], none⟩,
  ⟨(some 25), .mov, [.t 0], none⟩,
  ⟨(some 26), .bin .quo, [.t 25, .c (.int .i64 2)], none⟩,
  ⟨(some 7), .mov, [.t 24], none⟩,
  ⟨(some 0), .mov, [.t 26], none⟩]
def c_tree_Path_r6 : List COper := a_tree_Path_r6
instance : Reg c_tree_Path_r6 a_tree_Path_r6 6 := ⟨rfl, rfl⟩
@[simp] def a_tree_Path_r10 : List COper := [
  ⟨(some 40), .mov, [.t 6], none⟩,
  ⟨(some 4), .mov, [.t 40], none⟩,
  ⟨(some 5), .mov, [.c (.bool true)], none⟩]
def c_tree_Path_r10 : List COper := a_tree_Path_r10
instance : Reg c_tree_Path_r10 a_tree_Path_r10 3 := ⟨rfl, rfl⟩
@[simp] def c_tree_Path : CCode :=
  .seq (.region c_tree_Path_r0 none [0, 1]) (.seq (.seq (.region c_tree_Path_r1 none [0, 1, 16]) (.cond (.t 16) (.seq (.region c_tree_Path_r2 none [4, 5]) (.ret)) (.skip))) (.seq (.region c_tree_Path_r3 none [0, 1, 6]) (.seq (.region c_tree_Path_r4 none [0, 6, 7]) (.seq (.block 0 (.loop (.seq (.seq (.region c_tree_Path_r5 none [0, 6, 7, 22]) (.cond (.t 22) (.skip) (.exit 0))) (.seq (.block 1 (.seq (.region c_tree_Path_r7 none [0, 6, 7, 8]) (.seq (.region c_tree_Path_r8 none [0, 6, 7, 8, 32]) (.cond (.t 32) (.region c_tree_Path_r9 none [0, 6, 7]) (.skip))))) (.region c_tree_Path_r6 none [0, 6, 7]))))) (.seq (.region c_tree_Path_r10 none [4, 5]) (.ret))))))
@[simp] def R_tree_Path : List CRes := [.tmp 4, .tmp 5]
theorem k_tree_Path : chkFn Tryd.prog fn_tree_Path c_tree_Path R_tree_Path 2 = true := by kernel_rfl
/-! wapentake/once.Sign -/
@[simp] def a_once_Sign_r0 : List COper := [
  ⟨(some 3), .box, [.t 0], none⟩,
  ⟨(some 5), .box, [.t 2], none⟩,
  ⟨(some 6), .alloc (.node [.v (.slice none 0 0), .v (.slice none 0 0)]), [], none⟩]
def c_once_Sign_r0 : List COper := a_once_Sign_r0
instance : Reg c_once_Sign_r0 a_once_Sign_r0 3 := ⟨rfl, rfl⟩
@[simp] def a_once_Sign_r1 : List COper := [
  ⟨(some 7), .alloc (.node [.v (.slice none 0 0), .v (.slice none 0 0)]), [], none⟩]
def c_once_Sign_r1 : List COper := a_once_Sign_r1
instance : Reg c_once_Sign_r1 a_once_Sign_r1 1 := ⟨rfl, rfl⟩
@[simp] def a_once_Sign_r2 : List COper := [
  ⟨(some 10), .mov, [.c (.int .i64 0)], none⟩]
def c_once_Sign_r2 : List COper := a_once_Sign_r2
instance : Reg c_once_Sign_r2 a_once_Sign_r2 1 := ⟨rfl, rfl⟩
@[simp] def a_once_Sign_r3 : List COper := [
  ⟨(some 11), .bin .lss, [.t 10, .c (.int .i64 32)], none⟩]
def c_once_Sign_r3 : List COper := a_once_Sign_r3
instance : Reg c_once_Sign_r3 a_once_Sign_r3 1 := ⟨rfl, rfl⟩
@[simp] def a_once_Sign_r4 : List COper := [
  ⟨(some 12), .mov, [.t 10], none⟩,
  ⟨(some 8), .mov, [.t 12], none⟩]
def c_once_Sign_r4 : List COper := a_once_Sign_r4
instance : Reg c_once_Sign_r4 a_once_Sign_r4 2 := ⟨rfl, rfl⟩
@[simp] def a_once_Sign_r5 : List COper := [
  ⟨(some 13), .load true 32, [.t 5], none⟩,
  ⟨(some 14), .mov, [.t 8], none⟩,
  ⟨(some 15), .call fn_once_bit, [.t 13, .t 14], none⟩,
  ⟨(some 9), .mov, [.t 15], none⟩]
def c_once_Sign_r5 : List COper := a_once_Sign_r5
instance : Reg c_once_Sign_r5 a_once_Sign_r5 4 := ⟨rfl, rfl⟩
@[simp] def a_once_Sign_r6 : List COper := [
  ⟨(some 16), .faddr 0 1 false, [.t 7], none⟩,
  ⟨(some 17), .load false 1, [.t 16], none⟩,
  ⟨(some 18), .load true 32, [.t 3], none⟩,
  ⟨(some 19), .mov, [.t 1], none⟩,
  ⟨(some 20), .mov, [.t 8], none⟩,
  ⟨(some 21), .mov, [.t 9], none⟩,
  ⟨(some 22), .call fn_once_secret, [.t 18, .t 19, .t 20, .t 21], none⟩,
  ⟨(some 23), .bslice 32 1 (.arr 1 (rep 32 (.v (.int .u8 0)))) [0], [.t 22], none⟩,
  ⟨(some 24), .app 32 32, [.t 17, .t 23], none⟩,
  ⟨(some 25), .faddr 0 1 false, [.t 7], none⟩,
  ⟨none, .store false 1, [.t 25, .t 24], none⟩]
def c_once_Sign_r6 : List COper := a_once_Sign_r6
instance : Reg c_once_Sign_r6 a_once_Sign_r6 11 := ⟨rfl, rfl⟩
@[simp] def a_once_Sign_r7 : List COper := [
  ⟨(some 26), .faddr 1 1 false, [.t 7], none⟩,
  ⟨(some 27), .load false 1, [.t 26], none⟩,
  ⟨(some 28), .load true 32, [.t 3], none⟩,
  ⟨(some 29), .mov, [.t 1], none⟩,
  ⟨(some 30), .mov, [.t 8], none⟩,
  ⟨(some 31), .mov, [.t 9], none⟩,
  ⟨(some 32), .bin .sub, [.c (.int .i64 1), .t 31], none⟩,
  ⟨(some 33), .call fn_once_secret, [.t 28, .t 29, .t 30, .t 32], none⟩,
  ⟨(some 34), .call fn_once_shut, [.t 33], none⟩,
  ⟨(some 35), .bslice 32 1 (.arr 1 (rep 32 (.v (.int .u8 0)))) [0], [.t 34], none⟩,
  ⟨(some 36), .app 32 32, [.t 27, .t 35], none⟩,
  ⟨(some 37), .faddr 1 1 false, [.t 7], none⟩,
  ⟨none, .store false 1, [.t 37, .t 36], none⟩]
def c_once_Sign_r7 : List COper := a_once_Sign_r7
instance : Reg c_once_Sign_r7 a_once_Sign_r7 13 := ⟨rfl, rfl⟩
@[simp] def a_once_Sign_r8 : List COper := [
  ⟨(some 38), .bin .add, [.t 10, .c (.int .i64 1)], none⟩,
  ⟨(some 10), .mov, [.t 38], none⟩]
def c_once_Sign_r8 : List COper := a_once_Sign_r8
instance : Reg c_once_Sign_r8 a_once_Sign_r8 2 := ⟨rfl, rfl⟩
@[simp] def a_once_Sign_r9 : List COper := [
  ⟨(some 39), .load true 2, [.t 7], none⟩,
  ⟨none, .store true 2, [.t 6, .t 39], none⟩]
def c_once_Sign_r9 : List COper := a_once_Sign_r9
instance : Reg c_once_Sign_r9 a_once_Sign_r9 2 := ⟨rfl, rfl⟩
@[simp] def c_once_Sign : CCode :=
  .seq (.region c_once_Sign_r0 none [1, 3, 5, 6]) (.seq (.region c_once_Sign_r1 none [1, 3, 5, 6, 7]) (.seq (.seq (.region c_once_Sign_r2 none [1, 3, 5, 6, 7, 10]) (.block 0 (.loop (.seq (.region c_once_Sign_r3 none [1, 3, 5, 6, 7, 10, 11]) (.seq (.cond (.t 11) (.skip) (.exit 0)) (.seq (.block 1 (.seq (.region c_once_Sign_r4 none [1, 3, 5, 6, 7, 8, 10]) (.seq (.region c_once_Sign_r5 none [1, 3, 5, 6, 7, 8, 9, 10]) (.seq (.region c_once_Sign_r6 (some ([0, 1, 0, 0, 0, 0, 60, 124, 255, 511, 1023], [(1, 6), (1, 7)])) [1, 3, 5, 6, 7, 8, 9, 10]) (.region c_once_Sign_r7 (some ([0, 1, 0, 0, 0, 0, 32, 124, 252, 508, 1023, 2047, 4095], [(1, 7), (1, 8), (1, 9)])) [1, 3, 5, 6, 7, 10]))))) (.region c_once_Sign_r8 none [1, 3, 5, 6, 7, 10]))))))) (.seq (.region c_once_Sign_r9 none [6]) (.ret))))
@[simp] def R_once_Sign : List CRes := [.cell 6 true 2]
theorem k_once_Sign : chkFn Tryd.prog fn_once_Sign c_once_Sign R_once_Sign 3 = true := by kernel_rfl
/-! wapentake/vote.head -/
@[simp] def a_vote_head_r0 : List COper := [
  ⟨(some 3), .box, [.t 1], none⟩]
def c_vote_head_r0 : List COper := a_vote_head_r0
instance : Reg c_vote_head_r0 a_vote_head_r0 1 := ⟨rfl, rfl⟩
@[simp] def a_vote_head_r1 : List COper := [
  ⟨(some 4), .mov, [.t 0], none⟩,
  ⟨(some 5), .faddr 0 1 false, [.t 3], none⟩,
  ⟨(some 6), .load false 1, [.t 5], none⟩,
  ⟨(some 7), .faddr 1 1 false, [.t 3], none⟩,
  ⟨(some 8), .load false 1, [.t 7], none⟩,
  ⟨(some 9), .faddr 2 1 false, [.t 3], none⟩,
  ⟨(some 10), .load false 1, [.t 9], none⟩,
  ⟨(some 11), .faddr 3 1 false, [.t 3], none⟩,
  ⟨(some 12), .load false 1, [.t 11], none⟩,
  ⟨(some 13), .faddr 36 1 false, [.t 3], none⟩,
  ⟨(some 14), .load false 1, [.t 13], none⟩,
  ⟨(some 15), .bslice 1 5 (.v (.int .i64 0)) [0, 1, 2, 3, 4], [.t 6, .t 8, .t 10, .t 12, .t 14], none⟩,
  ⟨(some 16), .call fn_code_Writer_Num, [.t 4, .t 15], none⟩]
def c_vote_head_r1 : List COper := a_vote_head_r1
instance : Reg c_vote_head_r1 a_vote_head_r1 13 := ⟨rfl, rfl⟩
@[simp] def a_vote_head_r2 : List COper := [
  ⟨(some 17), .mov, [.t 0], none⟩,
  ⟨(some 18), .faddr 4 32 true, [.t 3], none⟩,
  ⟨(some 19), .load true 32, [.t 18], none⟩,
  ⟨(some 20), .bslice 32 1 (.arr 1 (rep 32 (.v (.int .u8 0)))) [0], [.t 19], none⟩,
  ⟨(some 21), .call fn_code_Writer_Digest, [.t 17, .t 20], none⟩]
def c_vote_head_r2 : List COper := a_vote_head_r2
instance : Reg c_vote_head_r2 a_vote_head_r2 5 := ⟨rfl, rfl⟩
@[simp] def c_vote_head : CCode :=
  .seq (.region c_vote_head_r0 none [0, 3]) (.seq (.region c_vote_head_r1 none [0, 3]) (.region c_vote_head_r2 none []))
@[simp] def R_vote_head : List CRes := []
theorem k_vote_head : chkFn Tryd.prog fn_vote_head c_vote_head R_vote_head 2 = true := by kernel_rfl
/-! wapentake/request.Good -/
@[simp] def a_request_Good_r0 : List COper := [
  ⟨(some 1), .box, [.t 0], none⟩,
  ⟨(some 2), .mov, [.c (.bool false)], none⟩]
def c_request_Good_r0 : List COper := a_request_Good_r0
instance : Reg c_request_Good_r0 a_request_Good_r0 2 := ⟨rfl, rfl⟩
@[simp] def a_request_Good_r1 : List COper := [
  ⟨(some 4), .faddr 2 40 true, [.t 1], none⟩,
  ⟨(some 5), .load true 40, [.t 4], none⟩,
  ⟨(some 3), .alloc (.node [.v (.int .i64 0), .v (.string (mkS [])), .v (.string (mkS [])), .v (.string (mkS [])), .node [.v (.int .i64 0), .v (.int .i64 0), .v (.int .i64 0), .node [.arr 1 (rep 32 (.v (.int .u8 0))), .v (.int .i64 0)]]]), [], none⟩,
  ⟨none, .store true 40, [.t 3, .t 5], none⟩]
def c_request_Good_r1 : List COper := a_request_Good_r1
instance : Reg c_request_Good_r1 a_request_Good_r1 4 := ⟨rfl, rfl⟩
@[simp] def a_request_Good_r2 : List COper := [
  ⟨(some 6), .faddr 0 1 false, [.t 1], none⟩,
  ⟨(some 7), .load false 1, [.t 6], none⟩,
  ⟨(some 8), .bin .geq, [.t 7, .c (.int .i64 1)], none⟩,
  ⟨(some 9), .mov, [.t 8], none⟩,
  ⟨(some 10), .faddr 0 1 false, [.t 1], (some (9, true))⟩,
  ⟨(some 11), .load false 1, [.t 10], (some (9, true))⟩,
  ⟨(some 12), .bin .leq, [.t 11, .c (.int .i64 64)], (some (9, true))⟩,
  ⟨(some 13), .pick, [.t 9, .t 12, .c (.bool false)], none⟩,
  ⟨(some 14), .mov, [.t 13], none⟩,
  ⟨(some 15), .faddr 1 1 false, [.t 1], (some (14, true))⟩,
  ⟨(some 16), .load false 1, [.t 15], (some (14, true))⟩,
  ⟨(some 17), .bin .geq, [.t 16, .c (.int .i64 1)], (some (14, true))⟩,
  ⟨(some 18), .pick, [.t 14, .t 17, .c (.bool false)], none⟩,
  ⟨(some 19), .mov, [.t 18], none⟩,
  ⟨(some 20), .faddr 1 1 false, [.t 1], (some (19, true))⟩,
  ⟨(some 21), .load false 1, [.t 20], (some (19, true))⟩,
  ⟨(some 22), .bin .leq, [.t 21, .c (.int .i64 1099511627776)], (some (19, true))⟩,
  ⟨(some 23), .pick, [.t 19, .t 22, .c (.bool false)], none⟩,
  ⟨(some 24), .mov, [.t 23], none⟩,
  ⟨(some 25), .faddr 0 1 false, [.t 3], (some (24, true))⟩,
  ⟨(some 26), .load false 1, [.t 25], (some (24, true))⟩,
  ⟨(some 27), .bin .geq, [.t 26, .c (.int .i64 1)], (some (24, true))⟩,
  ⟨(some 28), .pick, [.t 24, .t 27, .c (.bool false)], none⟩,
  ⟨(some 29), .mov, [.t 28], none⟩,
  ⟨(some 30), .faddr 0 1 false, [.t 3], (some (29, true))⟩,
  ⟨(some 31), .load false 1, [.t 30], (some (29, true))⟩,
  ⟨(some 32), .bin .leq, [.t 31, .c (.int .i64 7)], (some (29, true))⟩,
  ⟨(some 33), .pick, [.t 29, .t 32, .c (.bool false)], none⟩,
  ⟨(some 34), .mov, [.t 33], none⟩,
  ⟨(some 35), .faddr 1 1 false, [.t 3], (some (34, true))⟩,
  ⟨(some 36), .load false 1, [.t 35], (some (34, true))⟩,
  ⟨(some 37), .faddr 2 1 false, [.t 3], (some (34, true))⟩,
  ⟨(some 38), .load false 1, [.t 37], (some (34, true))⟩,
  ⟨(some 39), .faddr 3 1 false, [.t 3], (some (34, true))⟩,
  ⟨(some 40), .load false 1, [.t 39], (some (34, true))⟩,
  ⟨(some 41), .bslice 1 3 (.v (.string (mkS []))) [0, 1, 2], [.t 36, .t 38, .t 40], (some (34, true))⟩,
  ⟨(some 42), .call fn_request_short, [.t 41], (some (34, true))⟩,
  ⟨(some 43), .pick, [.t 34, .t 42, .c (.bool false)], none⟩,
  ⟨(some 2), .mov, [.t 43], none⟩]
def c_request_Good_r2 : List COper := a_request_Good_r2
instance : Reg c_request_Good_r2 a_request_Good_r2 39 := ⟨rfl, rfl⟩
@[simp] def c_request_Good : CCode :=
  .seq (.region c_request_Good_r0 none [1]) (.seq (.region c_request_Good_r1 none [1, 3]) (.seq (.region c_request_Good_r2 none [2]) (.ret)))
@[simp] def R_request_Good : List CRes := [.tmp 2]
theorem k_request_Good : chkFn Tryd.prog fn_request_Good c_request_Good R_request_Good 1 = true := by kernel_rfl
-- NOT: 89 ('STR', 'wapentake/config.Find'): Exception('op makeFunc')
/-! wapentake/vote.Good -/
@[simp] def a_vote_Good_r0 : List COper := [
  ⟨(some 1), .box, [.t 0], none⟩,
  ⟨(some 2), .mov, [.c (.bool false)], none⟩]
def c_vote_Good_r0 : List COper := a_vote_Good_r0
instance : Reg c_vote_Good_r0 a_vote_Good_r0 2 := ⟨rfl, rfl⟩
@[simp] def a_vote_Good_r1 : List COper := [
  ⟨(some 3), .faddr 0 1 false, [.t 1], none⟩,
  ⟨(some 4), .load false 1, [.t 3], none⟩,
  ⟨(some 5), .bin .geq, [.t 4, .c (.int .i64 1)], none⟩,
  ⟨(some 6), .mov, [.t 5], none⟩,
  ⟨(some 7), .faddr 0 1 false, [.t 1], (some (6, true))⟩,
  ⟨(some 8), .load false 1, [.t 7], (some (6, true))⟩,
  ⟨(some 9), .bin .leq, [.t 8, .c (.int .i64 2)], (some (6, true))⟩,
  ⟨(some 10), .pick, [.t 6, .t 9, .c (.bool false)], none⟩,
  ⟨(some 11), .mov, [.t 10], none⟩,
  ⟨(some 12), .faddr 1 1 false, [.t 1], (some (11, true))⟩,
  ⟨(some 13), .load false 1, [.t 12], (some (11, true))⟩,
  ⟨(some 14), .bin .geq, [.t 13, .c (.int .i64 0)], (some (11, true))⟩,
  ⟨(some 15), .pick, [.t 11, .t 14, .c (.bool false)], none⟩,
  ⟨(some 16), .mov, [.t 15], none⟩,
  ⟨(some 17), .faddr 1 1 false, [.t 1], (some (16, true))⟩,
  ⟨(some 18), .load false 1, [.t 17], (some (16, true))⟩,
  ⟨(some 19), .bin .leq, [.t 18, .c (.int .i64 1073741824)], (some (16, true))⟩,
  ⟨(some 20), .pick, [.t 16, .t 19, .c (.bool false)], none⟩,
  ⟨(some 21), .mov, [.t 20], none⟩,
  ⟨(some 22), .faddr 2 1 false, [.t 1], (some (21, true))⟩,
  ⟨(some 23), .load false 1, [.t 22], (some (21, true))⟩,
  ⟨(some 24), .bin .geq, [.t 23, .c (.int .i64 1)], (some (21, true))⟩,
  ⟨(some 25), .pick, [.t 21, .t 24, .c (.bool false)], none⟩,
  ⟨(some 26), .mov, [.t 25], none⟩,
  ⟨(some 27), .faddr 2 1 false, [.t 1], (some (26, true))⟩,
  ⟨(some 28), .load false 1, [.t 27], (some (26, true))⟩,
  ⟨(some 29), .bin .leq, [.t 28, .c (.int .i64 1024)], (some (26, true))⟩,
  ⟨(some 30), .pick, [.t 26, .t 29, .c (.bool false)], none⟩,
  ⟨(some 31), .mov, [.t 30], none⟩,
  ⟨(some 32), .faddr 3 1 false, [.t 1], (some (31, true))⟩,
  ⟨(some 33), .load false 1, [.t 32], (some (31, true))⟩,
  ⟨(some 34), .bin .geq, [.t 33, .c (.int .i64 0)], (some (31, true))⟩,
  ⟨(some 35), .pick, [.t 31, .t 34, .c (.bool false)], none⟩,
  ⟨(some 36), .mov, [.t 35], none⟩,
  ⟨(some 37), .faddr 3 1 false, [.t 1], (some (36, true))⟩,
  ⟨(some 38), .load false 1, [.t 37], (some (36, true))⟩,
  ⟨(some 39), .bin .leq, [.t 38, .c (.int .i64 1024)], (some (36, true))⟩,
  ⟨(some 40), .pick, [.t 36, .t 39, .c (.bool false)], none⟩,
  ⟨(some 41), .mov, [.t 40], none⟩,
  ⟨(some 42), .faddr 36 1 false, [.t 1], (some (41, true))⟩,
  ⟨(some 43), .load false 1, [.t 42], (some (41, true))⟩,
  ⟨(some 44), .bin .geq, [.t 43, .c (.int .i64 1)], (some (41, true))⟩,
  ⟨(some 45), .pick, [.t 41, .t 44, .c (.bool false)], none⟩,
  ⟨(some 46), .mov, [.t 45], none⟩,
  ⟨(some 47), .faddr 36 1 false, [.t 1], (some (46, true))⟩,
  ⟨(some 48), .load false 1, [.t 47], (some (46, true))⟩,
  ⟨(some 49), .bin .leq, [.t 48, .c (.int .i64 63)], (some (46, true))⟩,
  ⟨(some 50), .pick, [.t 46, .t 49, .c (.bool false)], none⟩,
  ⟨(some 2), .mov, [.t 50], none⟩]
def c_vote_Good_r1 : List COper := a_vote_Good_r1
instance : Reg c_vote_Good_r1 a_vote_Good_r1 49 := ⟨rfl, rfl⟩
@[simp] def c_vote_Good : CCode :=
  .seq (.region c_vote_Good_r0 none [1]) (.seq (.region c_vote_Good_r1 none [2]) (.ret))
@[simp] def R_vote_Good : List CRes := [.tmp 2]
theorem k_vote_Good : chkFn Tryd.prog fn_vote_Good c_vote_Good R_vote_Good 1 = true := by kernel_rfl
/-! wapentake/keys.Check -/
@[simp] def a_keys_Check_r0 : List COper := [
  ⟨(some 3), .box, [.t 0], none⟩,
  ⟨(some 4), .box, [.t 1], none⟩,
  ⟨(some 5), .box, [.t 2], none⟩,
  ⟨(some 6), .mov, [.c (.bool false)], none⟩]
def c_keys_Check_r0 : List COper := a_keys_Check_r0
instance : Reg c_keys_Check_r0 a_keys_Check_r0 4 := ⟨rfl, rfl⟩
@[simp] def a_keys_Check_r1 : List COper := [
  ⟨(some 10), .load true 32, [.t 4], none⟩,
  ⟨(some 11), .faddr 1 2 true, [.t 5], none⟩,
  ⟨(some 12), .load true 2, [.t 11], none⟩,
  ⟨(some 13), .call fn_once_Of, [.t 10, .t 12], none⟩,
  ⟨(some 9), .mov, [.t 13], none⟩,
  ⟨(some 14), .ext 0, [.t 9], none⟩,
  ⟨(some 15), .ext 1, [.t 9], none⟩,
  ⟨(some 7), .alloc (.arr 1 (rep 32 (.v (.int .u8 0)))), [], none⟩,
  ⟨none, .store true 32, [.t 7, .t 14], none⟩,
  ⟨(some 8), .mov, [.t 15], none⟩]
def c_keys_Check_r1 : List COper := a_keys_Check_r1
instance : Reg c_keys_Check_r1 a_keys_Check_r1 10 := ⟨rfl, rfl⟩
@[simp] def a_keys_Check_r2 : List COper := [
  ⟨(some 16), .mov, [.t 8], none⟩,
  ⟨(some 17), .mov, [.t 16], none⟩,
  ⟨(some 18), .faddr 32 1 false, [.t 3], (some (17, true))⟩,
  ⟨(some 19), .load false 1, [.t 18], (some (17, true))⟩,
  ⟨(some 20), .bin .geq, [.t 19, .c (.int .i64 0)], (some (17, true))⟩,
  ⟨(some 21), .pick, [.t 17, .t 20, .c (.bool false)], none⟩,
  ⟨(some 22), .mov, [.t 21], none⟩,
  ⟨(some 23), .faddr 32 1 false, [.t 3], (some (22, true))⟩,
  ⟨(some 24), .load false 1, [.t 23], (some (22, true))⟩,
  ⟨(some 25), .bin .leq, [.t 24, .c (.int .i64 6)], (some (22, true))⟩,
  ⟨(some 26), .pick, [.t 22, .t 25, .c (.bool false)], none⟩,
  ⟨(some 27), .mov, [.t 26], none⟩,
  ⟨(some 28), .faddr 0 32 true, [.t 3], (some (27, true))⟩,
  ⟨(some 29), .load true 32, [.t 28], (some (27, true))⟩,
  ⟨(some 30), .load true 32, [.t 7], (some (27, true))⟩,
  ⟨(some 31), .call fn_keys_leaf, [.t 30], (some (27, true))⟩,
  ⟨(some 32), .faddr 0 1 false, [.t 5], (some (27, true))⟩,
  ⟨(some 33), .load false 1, [.t 32], (some (27, true))⟩,
  ⟨(some 34), .faddr 32 1 false, [.t 3], (some (27, true))⟩,
  ⟨(some 35), .load false 1, [.t 34], (some (27, true))⟩,
  ⟨(some 36), .bin .shl, [.c (.int .i64 1), .t 35], (some (27, true))⟩,
  ⟨(some 37), .faddr 3 1 false, [.t 5], (some (27, true))⟩,
  ⟨(some 38), .load false 1, [.t 37], (some (27, true))⟩,
  ⟨(some 39), .call fn_tree_Check, [.t 29, .t 31, .t 33, .t 36, .t 38], (some (27, true))⟩,
  ⟨(some 40), .pick, [.t 27, .t 39, .c (.bool false)], none⟩,
  ⟨(some 6), .mov, [.t 40], none⟩]
def c_keys_Check_r2 : List COper := a_keys_Check_r2
instance : Reg c_keys_Check_r2 a_keys_Check_r2 26 := ⟨rfl, rfl⟩
@[simp] def c_keys_Check : CCode :=
  .seq (.region c_keys_Check_r0 none [3, 4, 5]) (.seq (.region c_keys_Check_r1 none [3, 5, 7, 8]) (.seq (.region c_keys_Check_r2 (some ([0, 1, 3, 7, 15, 31, 63, 127, 255, 511, 1023, 2047, 4095, 8191, 4095, 20479, 4095, 69631, 4095, 266239, 790527, 4095, 2101247, 8388607, 16777215, 33554431], [(13, 15), (15, 17), (15, 19), (15, 22)])) [6]) (.ret)))
@[simp] def R_keys_Check : List CRes := [.tmp 6]
theorem k_keys_Check : chkFn Tryd.prog fn_keys_Check c_keys_Check R_keys_Check 3 = true := by kernel_rfl
/-! wapentake/wapentakeref05.Same -/
@[simp] def a_r05_Same_r0 : List COper := [
  ⟨(some 2), .box, [.t 0], none⟩,
  ⟨(some 3), .box, [.t 1], none⟩,
  ⟨(some 4), .mov, [.c (.bool false)], none⟩]
def c_r05_Same_r0 : List COper := a_r05_Same_r0
instance : Reg c_r05_Same_r0 a_r05_Same_r0 3 := ⟨rfl, rfl⟩
@[simp] def a_r05_Same_r1 : List COper := [
  ⟨(some 5), .faddr 0 1 false, [.t 2], none⟩,
  ⟨(some 6), .load false 1, [.t 5], none⟩,
  ⟨(some 7), .faddr 0 1 false, [.t 3], none⟩,
  ⟨(some 8), .load false 1, [.t 7], none⟩,
  ⟨(some 9), .bin .eql, [.t 6, .t 8], none⟩,
  ⟨(some 10), .mov, [.t 9], none⟩,
  ⟨(some 11), .faddr 1 2 true, [.t 2], (some (10, true))⟩,
  ⟨(some 12), .load true 2, [.t 11], (some (10, true))⟩,
  ⟨(some 13), .faddr 1 2 true, [.t 3], (some (10, true))⟩,
  ⟨(some 14), .load true 2, [.t 13], (some (10, true))⟩,
  ⟨(some 15), .call fn_r04_Same, [.t 12, .t 14], (some (10, true))⟩,
  ⟨(some 16), .pick, [.t 10, .t 15, .c (.bool false)], none⟩,
  ⟨(some 17), .mov, [.t 16], none⟩,
  ⟨(some 18), .faddr 3 1 false, [.t 2], (some (17, true))⟩,
  ⟨(some 19), .load false 1, [.t 18], (some (17, true))⟩,
  ⟨(some 20), .faddr 3 1 false, [.t 3], (some (17, true))⟩,
  ⟨(some 21), .load false 1, [.t 20], (some (17, true))⟩,
  ⟨(some 22), .call fn_r03_Same, [.t 19, .t 21], (some (17, true))⟩,
  ⟨(some 23), .pick, [.t 17, .t 22, .c (.bool false)], none⟩,
  ⟨(some 4), .mov, [.t 23], none⟩]
def c_r05_Same_r1 : List COper := a_r05_Same_r1
instance : Reg c_r05_Same_r1 a_r05_Same_r1 20 := ⟨rfl, rfl⟩
@[simp] def c_r05_Same : CCode :=
  .seq (.region c_r05_Same_r0 none [2, 3]) (.seq (.region c_r05_Same_r1 none [4]) (.ret))
@[simp] def R_r05_Same : List CRes := [.tmp 4]
theorem k_r05_Same : chkFn Tryd.prog fn_r05_Same c_r05_Same R_r05_Same 2 = true := by kernel_rfl
/-! wapentake/keys.Write -/
@[simp] def a_keys_Write_r0 : List COper := [
  ⟨(some 3), .box, [.t 1], none⟩,
  ⟨(some 4), .mov, [.c (.bool false)], none⟩]
def c_keys_Write_r0 : List COper := a_keys_Write_r0
instance : Reg c_keys_Write_r0 a_keys_Write_r0 2 := ⟨rfl, rfl⟩
@[simp] def a_keys_Write_r1 : List COper := [
  ⟨(some 5), .faddr 1 2 true, [.t 3], none⟩,
  ⟨(some 6), .faddr 0 1 false, [.t 5], none⟩,
  ⟨(some 7), .load false 1, [.t 6], none⟩,
  ⟨(some 8), .len, [.t 7], none⟩,
  ⟨(some 9), .bin .neq, [.t 8, .c (.int .i64 32)], none⟩,
  ⟨(some 10), .mov, [.t 9], none⟩,
  ⟨(some 11), .faddr 1 2 true, [.t 3], (some (10, false))⟩,
  ⟨(some 12), .faddr 1 1 false, [.t 11], (some (10, false))⟩,
  ⟨(some 13), .load false 1, [.t 12], (some (10, false))⟩,
  ⟨(some 14), .len, [.t 13], (some (10, false))⟩,
  ⟨(some 15), .bin .neq, [.t 14, .c (.int .i64 32)], (some (10, false))⟩,
  ⟨(some 16), .pick, [.t 10, .c (.bool true), .t 15], none⟩,
  ⟨(some 17), .mov, [.t 16], none⟩,
  ⟨(some 18), .faddr 3 1 false, [.t 3], (some (17, false))⟩,
  ⟨(some 19), .load false 1, [.t 18], (some (17, false))⟩,
  ⟨(some 20), .len, [.t 19], (some (17, false))⟩,
  ⟨(some 21), .bin .gtr, [.t 20, .c (.int .i64 6)], (some (17, false))⟩,
  ⟨(some 22), .pick, [.t 17, .c (.bool true), .t 21], none⟩]
def c_keys_Write_r1 : List COper := a_keys_Write_r1
instance : Reg c_keys_Write_r1 a_keys_Write_r1 18 := ⟨rfl, rfl⟩
@[simp] def a_keys_Write_r2 : List COper := [
  ⟨(some 4), .mov, [.c (.bool false)], none⟩]
def c_keys_Write_r2 : List COper := a_keys_Write_r2
instance : Reg c_keys_Write_r2 a_keys_Write_r2 1 := ⟨rfl, rfl⟩
@[simp] def a_keys_Write_r3 : List COper := [
  ⟨(some 23), .mov, [.t 0], none⟩,
  ⟨(some 24), .faddr 0 1 false, [.t 3], none⟩,
  ⟨(some 25), .load false 1, [.t 24], none⟩,
  ⟨(some 26), .faddr 3 1 false, [.t 3], none⟩,
  ⟨(some 27), .load false 1, [.t 26], none⟩,
  ⟨(some 28), .len, [.t 27], none⟩,
  ⟨(some 29), .bslice 1 2 (.v (.int .i64 0)) [0, 1], [.t 25, .t 28], none⟩,
  ⟨(some 30), .call fn_code_Writer_Num, [.t 23, .t 29], none⟩]
def c_keys_Write_r3 : List COper := a_keys_Write_r3
instance : Reg c_keys_Write_r3 a_keys_Write_r3 8 := ⟨rfl, rfl⟩
@[simp] def a_keys_Write_r4 : List COper := [
  ⟨(some 31), .mov, [.t 0], none⟩,
  ⟨(some 32), .faddr 1 2 true, [.t 3], none⟩,
  ⟨(some 33), .faddr 0 1 false, [.t 32], none⟩,
  ⟨(some 34), .load false 1, [.t 33], none⟩,
  ⟨(some 35), .call fn_code_Writer_Digest, [.t 31, .t 34], none⟩]
def c_keys_Write_r4 : List COper := a_keys_Write_r4
instance : Reg c_keys_Write_r4 a_keys_Write_r4 5 := ⟨rfl, rfl⟩
@[simp] def a_keys_Write_r5 : List COper := [
  ⟨(some 36), .mov, [.t 0], none⟩,
  ⟨(some 37), .faddr 1 2 true, [.t 3], none⟩,
  ⟨(some 38), .faddr 1 1 false, [.t 37], none⟩,
  ⟨(some 39), .load false 1, [.t 38], none⟩,
  ⟨(some 40), .call fn_code_Writer_Digest, [.t 36, .t 39], none⟩]
def c_keys_Write_r5 : List COper := a_keys_Write_r5
instance : Reg c_keys_Write_r5 a_keys_Write_r5 5 := ⟨rfl, rfl⟩
@[simp] def a_keys_Write_r6 : List COper := [
  ⟨(some 41), .mov, [.t 0], none⟩,
  ⟨(some 42), .faddr 3 1 false, [.t 3], none⟩,
  ⟨(some 43), .load false 1, [.t 42], none⟩,
  ⟨(some 44), .call fn_code_Writer_Digest, [.t 41, .t 43], none⟩]
def c_keys_Write_r6 : List COper := a_keys_Write_r6
instance : Reg c_keys_Write_r6 a_keys_Write_r6 4 := ⟨rfl, rfl⟩
@[simp] def a_keys_Write_r7 : List COper := [
  ⟨(some 4), .mov, [.c (.bool true)], none⟩]
def c_keys_Write_r7 : List COper := a_keys_Write_r7
instance : Reg c_keys_Write_r7 a_keys_Write_r7 1 := ⟨rfl, rfl⟩
@[simp] def c_keys_Write : CCode :=
  .seq (.region c_keys_Write_r0 none [0, 3]) (.seq (.seq (.region c_keys_Write_r1 none [0, 3, 22]) (.cond (.t 22) (.seq (.region c_keys_Write_r2 none [4]) (.ret)) (.skip))) (.seq (.region c_keys_Write_r3 none [0, 3]) (.seq (.region c_keys_Write_r4 none [0, 3]) (.seq (.region c_keys_Write_r5 none [0, 3]) (.seq (.region c_keys_Write_r6 none []) (.seq (.region c_keys_Write_r7 none [4]) (.ret)))))))
@[simp] def R_keys_Write : List CRes := [.tmp 4]
theorem k_keys_Write : chkFn Tryd.prog fn_keys_Write c_keys_Write R_keys_Write 2 = true := by kernel_rfl
/-! wapentake/wapentakeref05.Write -/
@[simp] def a_r05_Write_r0 : List COper := [
  ⟨(some 1), .box, [.t 0], none⟩,
  ⟨(some 2), .mov, [.c (.string (mkS []))], none⟩,
  ⟨(some 3), .mov, [.c (.bool false)], none⟩]
def c_r05_Write_r0 : List COper := a_r05_Write_r0
instance : Reg c_r05_Write_r0 a_r05_Write_r0 3 := ⟨rfl, rfl⟩
@[simp] def a_r05_Write_r1 : List COper := [
  ⟨(some 9), .faddr 1 2 true, [.t 1], none⟩,
  ⟨(some 10), .faddr 0 1 false, [.t 9], none⟩,
  ⟨(some 11), .load false 1, [.t 10], none⟩,
  ⟨(some 12), .len, [.t 11], none⟩,
  ⟨(some 13), .bin .neq, [.t 12, .c (.int .i64 32)], none⟩,
  ⟨(some 14), .mov, [.t 13], none⟩,
  ⟨(some 15), .faddr 1 2 true, [.t 1], (some (14, false))⟩,
  ⟨(some 16), .faddr 1 1 false, [.t 15], (some (14, false))⟩,
  ⟨(some 17), .load false 1, [.t 16], (some (14, false))⟩,
  ⟨(some 18), .len, [.t 17], (some (14, false))⟩,
  ⟨(some 19), .bin .neq, [.t 18, .c (.int .i64 32)], (some (14, false))⟩,
  ⟨(some 20), .pick, [.t 14, .c (.bool true), .t 19], none⟩,
  ⟨(some 21), .mov, [.t 20], none⟩,
  ⟨(some 22), .faddr 3 1 false, [.t 1], (some (21, false))⟩,
  ⟨(some 23), .load false 1, [.t 22], (some (21, false))⟩,
  ⟨(some 24), .len, [.t 23], (some (21, false))⟩,
  ⟨(some 25), .bin .gtr, [.t 24, .c (.int .i64 6)], (some (21, false))⟩,
  ⟨(some 26), .pick, [.t 21, .c (.bool true), .t 25], none⟩]
def c_r05_Write_r1 : List COper := a_r05_Write_r1
instance : Reg c_r05_Write_r1 a_r05_Write_r1 18 := ⟨rfl, rfl⟩
@[simp] def a_r05_Write_r2 : List COper := [
  ⟨(some 2), .mov, [.c (.string (mkS []))], none⟩,
  ⟨(some 3), .mov, [.c (.bool false)], none⟩]
def c_r05_Write_r2 : List COper := a_r05_Write_r2
instance : Reg c_r05_Write_r2 a_r05_Write_r2 2 := ⟨rfl, rfl⟩
@[simp] def a_r05_Write_r3 : List COper := [
  ⟨(some 27), .faddr 0 1 false, [.t 1], none⟩,
  ⟨(some 28), .load false 1, [.t 27], none⟩,
  ⟨(some 29), .call fn_r01_Num, [.t 28], none⟩,
  ⟨(some 30), .faddr 3 1 false, [.t 1], none⟩,
  ⟨(some 31), .load false 1, [.t 30], none⟩,
  ⟨(some 32), .len, [.t 31], none⟩,
  ⟨(some 33), .call fn_r01_Num, [.t 32], none⟩,
  ⟨(some 34), .bin .add, [.t 29, .t 33], none⟩,
  ⟨(some 4), .mov, [.t 34], none⟩]
def c_r05_Write_r3 : List COper := a_r05_Write_r3
instance : Reg c_r05_Write_r3 a_r05_Write_r3 9 := ⟨rfl, rfl⟩
@[simp] def a_r05_Write_r4 : List COper := [
  ⟨(some 35), .faddr 1 2 true, [.t 1], none⟩,
  ⟨(some 36), .faddr 0 1 false, [.t 35], none⟩,
  ⟨(some 37), .load false 1, [.t 36], none⟩,
  ⟨(some 38), .faddr 1 2 true, [.t 1], none⟩,
  ⟨(some 39), .faddr 1 1 false, [.t 38], none⟩,
  ⟨(some 40), .load false 1, [.t 39], none⟩,
  ⟨(some 41), .faddr 3 1 false, [.t 1], none⟩,
  ⟨(some 42), .load false 1, [.t 41], none⟩,
  ⟨(some 43), .bslice 1 3 (.v (.slice none 0 0)) [0, 1, 2], [.t 37, .t 40, .t 42], none⟩,
  ⟨(some 44), .len, [.t 43], none⟩,
  ⟨(some 45), .mov, [.c (.int .i64 0)], none⟩]
def c_r05_Write_r4 : List COper := a_r05_Write_r4
instance : Reg c_r05_Write_r4 a_r05_Write_r4 11 := ⟨rfl, rfl⟩
@[simp] def a_r05_Write_r5 : List COper := [
  ⟨(some 46), .bin .lss, [.t 45, .t 44], none⟩]
def c_r05_Write_r5 : List COper := a_r05_Write_r5
instance : Reg c_r05_Write_r5 a_r05_Write_r5 1 := ⟨rfl, rfl⟩
@[simp] def a_r05_Write_r6 : List COper := [
  ⟨(some 47), .iaddr 1, [.t 43, .t 45], none⟩,
  ⟨(some 48), .load false 1, [.t 47], none⟩,
  ⟨(some 6), .mov, [.t 48], none⟩]
def c_r05_Write_r6 : List COper := a_r05_Write_r6
instance : Reg c_r05_Write_r6 a_r05_Write_r6 3 := ⟨rfl, rfl⟩
@[simp] def a_r05_Write_r7 : List COper := [
  ⟨(some 49), .mov, [.t 6], none⟩,
  ⟨(some 50), .len, [.t 49], none⟩,
  ⟨(some 51), .mov, [.c (.int .i64 0)], none⟩]
def c_r05_Write_r7 : List COper := a_r05_Write_r7
instance : Reg c_r05_Write_r7 a_r05_Write_r7 3 := ⟨rfl, rfl⟩
@[simp] def a_r05_Write_r8 : List COper := [
  ⟨(some 52), .bin .lss, [.t 51, .t 50], none⟩]
def c_r05_Write_r8 : List COper := a_r05_Write_r8
instance : Reg c_r05_Write_r8 a_r05_Write_r8 1 := ⟨rfl, rfl⟩
@[simp] def a_r05_Write_r9 : List COper := [
  ⟨(some 53), .iaddr 32, [.t 49, .t 51], none⟩,
  ⟨(some 54), .load true 32, [.t 53], none⟩,
  ⟨(some 8), .alloc (.arr 1 (rep 32 (.v (.int .u8 0)))), [], none⟩,
  ⟨none, .store true 32, [.t 8, .t 54], none⟩]
def c_r05_Write_r9 : List COper := a_r05_Write_r9
instance : Reg c_r05_Write_r9 a_r05_Write_r9 4 := ⟨rfl, rfl⟩
@[simp] def a_r05_Write_r10 : List COper := [
  ⟨(some 55), .mov, [.t 4], none⟩,
  ⟨(some 56), .load true 32, [.t 8], none⟩,
  ⟨(some 57), .call fn_r01_Digest, [.t 56], none⟩,
  ⟨(some 58), .bin .add, [.t 55, .t 57], none⟩,
  ⟨(some 4), .mov, [.t 58], none⟩]
def c_r05_Write_r10 : List COper := a_r05_Write_r10
instance : Reg c_r05_Write_r10 a_r05_Write_r10 5 := ⟨rfl, rfl⟩
@[simp] def a_r05_Write_r11 : List COper := [
  ⟨(some 59), .bin .add, [.t 51, .c (.int .i64 1)], none⟩,
  ⟨(some 51), .mov, [.t 59], none⟩]
def c_r05_Write_r11 : List COper := a_r05_Write_r11
instance : Reg c_r05_Write_r11 a_r05_Write_r11 2 := ⟨rfl, rfl⟩
@[simp] def a_r05_Write_r12 : List COper := [
  ⟨(some 60), .bin .add, [.t 45, .c (.int .i64 1)], none⟩,
  ⟨(some 45), .mov, [.t 60], none⟩]
def c_r05_Write_r12 : List COper := a_r05_Write_r12
instance : Reg c_r05_Write_r12 a_r05_Write_r12 2 := ⟨rfl, rfl⟩
@[simp] def a_r05_Write_r13 : List COper := [
  ⟨(some 61), .mov, [.t 4], none⟩,
  ⟨(some 2), .mov, [.t 61], none⟩,
  ⟨(some 3), .mov, [.c (.bool true)], none⟩]
def c_r05_Write_r13 : List COper := a_r05_Write_r13
instance : Reg c_r05_Write_r13 a_r05_Write_r13 3 := ⟨rfl, rfl⟩
@[simp] def c_r05_Write : CCode :=
  .seq (.region c_r05_Write_r0 none [1]) (.seq (.seq (.region c_r05_Write_r1 none [1, 26]) (.cond (.t 26) (.seq (.region c_r05_Write_r2 none [2, 3]) (.ret)) (.skip))) (.seq (.region c_r05_Write_r3 (some ([0, 1, 3, 0, 8, 24, 63, 127, 255], [(2, 4)])) [1, 4]) (.seq (.seq (.region c_r05_Write_r4 none [4, 43, 44, 45]) (.block 0 (.loop (.seq (.region c_r05_Write_r5 none [4, 43, 44, 45, 46]) (.seq (.cond (.t 46) (.skip) (.exit 0)) (.seq (.block 1 (.seq (.region c_r05_Write_r6 none [4, 6, 43, 44, 45]) (.seq (.region c_r05_Write_r7 none [4, 43, 44, 45, 49, 50, 51]) (.block 2 (.loop (.seq (.region c_r05_Write_r8 none [4, 43, 44, 45, 49, 50, 51, 52]) (.seq (.cond (.t 52) (.skip) (.exit 2)) (.seq (.block 3 (.seq (.region c_r05_Write_r9 none [4, 8, 43, 44, 45, 49, 50, 51]) (.region c_r05_Write_r10 none [4, 43, 44, 45, 49, 50, 51]))) (.region c_r05_Write_r11 none [4, 43, 44, 45, 49, 50, 51]))))))))) (.region c_r05_Write_r12 none [4, 43, 44, 45]))))))) (.seq (.region c_r05_Write_r13 none [2, 3]) (.ret)))))
@[simp] def R_r05_Write : List CRes := [.tmp 2, .tmp 3]
theorem k_r05_Write : chkFn Tryd.prog fn_r05_Write c_r05_Write R_r05_Write 1 = true := by kernel_rfl
/-! wapentake/wapentakeref13.Head -/
@[simp] def a_r13_Head_r0 : List COper := [
  ⟨(some 1), .box, [.t 0], none⟩,
  ⟨(some 2), .mov, [.c (.string (mkS []))], none⟩]
def c_r13_Head_r0 : List COper := a_r13_Head_r0
instance : Reg c_r13_Head_r0 a_r13_Head_r0 2 := ⟨rfl, rfl⟩
@[simp] def a_r13_Head_r1 : List COper := [
  ⟨(some 3), .mov, [.c (.string (mkS []))], none⟩]
def c_r13_Head_r1 : List COper := a_r13_Head_r1
instance : Reg c_r13_Head_r1 a_r13_Head_r1 1 := ⟨rfl, rfl⟩
@[simp] def a_r13_Head_r2 : List COper := [
  ⟨(some 6), .faddr 0 1 false, [.t 1], none⟩,
  ⟨(some 7), .load false 1, [.t 6], none⟩,
  ⟨(some 8), .faddr 1 1 false, [.t 1], none⟩,
  ⟨(some 9), .load false 1, [.t 8], none⟩,
  ⟨(some 10), .faddr 2 1 false, [.t 1], none⟩,
  ⟨(some 11), .load false 1, [.t 10], none⟩,
  ⟨(some 12), .faddr 3 1 false, [.t 1], none⟩,
  ⟨(some 13), .load false 1, [.t 12], none⟩,
  ⟨(some 14), .faddr 36 1 false, [.t 1], none⟩,
  ⟨(some 15), .load false 1, [.t 14], none⟩,
  ⟨(some 16), .buildA 1 (rep 5 (.v (.int .i64 0))) (upTo 5), [.t 7, .t 9, .t 11, .t 13, .t 15], none⟩,
  ⟨(some 17), .mov, [.c (.int .i64 0)], none⟩]
def c_r13_Head_r2 : List COper := a_r13_Head_r2
instance : Reg c_r13_Head_r2 a_r13_Head_r2 12 := ⟨rfl, rfl⟩
@[simp] def a_r13_Head_r3 : List COper := [
  ⟨(some 18), .bin .lss, [.t 17, .c (.int .i64 5)], none⟩]
def c_r13_Head_r3 : List COper := a_r13_Head_r3
instance : Reg c_r13_Head_r3 a_r13_Head_r3 1 := ⟨rfl, rfl⟩
@[simp] def a_r13_Head_r4 : List COper := [
  ⟨(some 19), .idx false 5 1, [.t 16, .t 17], none⟩,
  ⟨(some 5), .mov, [.t 19], none⟩]
def c_r13_Head_r4 : List COper := a_r13_Head_r4
instance : Reg c_r13_Head_r4 a_r13_Head_r4 2 := ⟨rfl, rfl⟩
@[simp] def a_r13_Head_r5 : List COper := [
  ⟨(some 20), .mov, [.t 3], none⟩,
  ⟨(some 21), .mov, [.t 5], none⟩,
  ⟨(some 22), .call fn_r01_Num, [.t 21], none⟩,
  ⟨(some 23), .bin .add, [.t 20, .t 22], none⟩,
  ⟨(some 3), .mov, [.t 23], none⟩]
def c_r13_Head_r5 : List COper := a_r13_Head_r5
instance : Reg c_r13_Head_r5 a_r13_Head_r5 5 := ⟨rfl, rfl⟩
@[simp] def a_r13_Head_r6 : List COper := [
  ⟨(some 24), .bin .add, [.t 17, .c (.int .i64 1)], none⟩,
  ⟨(some 17), .mov, [.t 24], none⟩]
def c_r13_Head_r6 : List COper := a_r13_Head_r6
instance : Reg c_r13_Head_r6 a_r13_Head_r6 2 := ⟨rfl, rfl⟩
@[simp] def a_r13_Head_r7 : List COper := [
  ⟨(some 25), .mov, [.t 3], none⟩,
  ⟨(some 26), .faddr 4 32 true, [.t 1], none⟩,
  ⟨(some 27), .load true 32, [.t 26], none⟩,
  ⟨(some 28), .call fn_r01_Digest, [.t 27], none⟩,
  ⟨(some 29), .bin .add, [.t 25, .t 28], none⟩,
  ⟨(some 2), .mov, [.t 29], none⟩]
def c_r13_Head_r7 : List COper := a_r13_Head_r7
instance : Reg c_r13_Head_r7 a_r13_Head_r7 6 := ⟨rfl, rfl⟩
@[simp] def c_r13_Head : CCode :=
  .seq (.region c_r13_Head_r0 none [1]) (.seq (.region c_r13_Head_r1 none [1, 3]) (.seq (.seq (.region c_r13_Head_r2 none [1, 3, 16, 17]) (.block 0 (.loop (.seq (.region c_r13_Head_r3 none [1, 3, 16, 17, 18]) (.seq (.cond (.t 18) (.skip) (.exit 0)) (.seq (.block 1 (.seq (.region c_r13_Head_r4 none [1, 3, 5, 16, 17]) (.region c_r13_Head_r5 none [1, 3, 16, 17]))) (.region c_r13_Head_r6 none [1, 3, 16, 17]))))))) (.seq (.region c_r13_Head_r7 none [2]) (.ret))))
@[simp] def R_r13_Head : List CRes := [.tmp 2]
theorem k_r13_Head : chkFn Tryd.prog fn_r13_Head c_r13_Head R_r13_Head 1 = true := by kernel_rfl
/-! (*wapentake/code.Reader).Num -/
@[simp] def a_code_Reader_Num_r0 : List COper := [
  ⟨(some 2), .mov, [.c (.int .i64 0)], none⟩]
def c_code_Reader_Num_r0 : List COper := a_code_Reader_Num_r0
instance : Reg c_code_Reader_Num_r0 a_code_Reader_Num_r0 1 := ⟨rfl, rfl⟩
@[simp] def a_code_Reader_Num_r1 : List COper := [
  ⟨(some 3), .mov, [.c (.int .u64 0)], none⟩]
def c_code_Reader_Num_r1 : List COper := a_code_Reader_Num_r1
instance : Reg c_code_Reader_Num_r1 a_code_Reader_Num_r1 1 := ⟨rfl, rfl⟩
@[simp] def a_code_Reader_Num_r2 : List COper := [
  ⟨(some 6), .mov, [.t 0], none⟩,
  ⟨(some 7), .call fn_code_Reader_take, [.t 6, .c (.int .i64 8)], none⟩,
  ⟨(some 8), .len, [.t 7], none⟩,
  ⟨(some 9), .mov, [.c (.int .i64 0)], none⟩]
def c_code_Reader_Num_r2 : List COper := a_code_Reader_Num_r2
instance : Reg c_code_Reader_Num_r2 a_code_Reader_Num_r2 4 := ⟨rfl, rfl⟩
@[simp] def a_code_Reader_Num_r3 : List COper := [
  ⟨(some 10), .bin .lss, [.t 9, .t 8], none⟩]
def c_code_Reader_Num_r3 : List COper := a_code_Reader_Num_r3
instance : Reg c_code_Reader_Num_r3 a_code_Reader_Num_r3 1 := ⟨rfl, rfl⟩
@[simp] def a_code_Reader_Num_r4 : List COper := [
  ⟨(some 11), .iaddr 1, [.t 7, .t 9], none⟩,
  ⟨(some 12), .load false 1, [.t 11], none⟩,
  ⟨(some 5), .mov, [.t 12], none⟩]
def c_code_Reader_Num_r4 : List COper := a_code_Reader_Num_r4
instance : Reg c_code_Reader_Num_r4 a_code_Reader_Num_r4 3 := ⟨rfl, rfl⟩
@[simp] def a_code_Reader_Num_r5 : List COper := [
  ⟨(some 13), .mov, [.t 3], none⟩,
  ⟨(some 14), .bin .shl, [.t 13, .c (.int .u64 8)], none⟩,
  ⟨(some 15), .mov, [.t 5], none⟩,
  ⟨(some 16), .convI .u64, [.t 15], none⟩,
  ⟨(some 17), .bin .or, [.t 14, .t 16], none⟩,
  ⟨(some 3), .mov, [.t 17], none⟩]
def c_code_Reader_Num_r5 : List COper := a_code_Reader_Num_r5
instance : Reg c_code_Reader_Num_r5 a_code_Reader_Num_r5 6 := ⟨rfl, rfl⟩
@[simp] def a_code_Reader_Num_r6 : List COper := [
  ⟨(some 18), .bin .add, [.t 9, .c (.int .i64 1)], none⟩,
  ⟨(some 9), .mov, [.t 18], none⟩]
def c_code_Reader_Num_r6 : List COper := a_code_Reader_Num_r6
instance : Reg c_code_Reader_Num_r6 a_code_Reader_Num_r6 2 := ⟨rfl, rfl⟩
@[simp] def a_code_Reader_Num_r7 : List COper := [
  ⟨(some 19), .mov, [.t 3], none⟩,
  ⟨(some 20), .convI .i64, [.t 19], none⟩,
  ⟨(some 2), .mov, [.t 20], none⟩]
def c_code_Reader_Num_r7 : List COper := a_code_Reader_Num_r7
instance : Reg c_code_Reader_Num_r7 a_code_Reader_Num_r7 3 := ⟨rfl, rfl⟩
@[simp] def c_code_Reader_Num : CCode :=
  .seq (.region c_code_Reader_Num_r0 none [0]) (.seq (.region c_code_Reader_Num_r1 none [0, 3]) (.seq (.seq (.region c_code_Reader_Num_r2 none [3, 7, 8, 9]) (.block 0 (.loop (.seq (.region c_code_Reader_Num_r3 none [3, 7, 8, 9, 10]) (.seq (.cond (.t 10) (.skip) (.exit 0)) (.seq (.block 1 (.seq (.region c_code_Reader_Num_r4 none [3, 5, 7, 8, 9]) (.region c_code_Reader_Num_r5 none [3, 7, 8, 9]))) (.region c_code_Reader_Num_r6 none [3, 7, 8, 9]))))))) (.seq (.region c_code_Reader_Num_r7 none [2]) (.ret))))
@[simp] def R_code_Reader_Num : List CRes := [.tmp 2]
theorem k_code_Reader_Num : chkFn Tryd.prog fn_code_Reader_Num c_code_Reader_Num R_code_Reader_Num 1 = true := by kernel_rfl
/-! (*wapentake/code.Reader).Digest -/
@[simp] def a_code_Reader_Digest_r0 : List COper := [
  ⟨(some 2), .alloc (.arr 1 (rep 32 (.v (.int .u8 0)))), [], none⟩]
def c_code_Reader_Digest_r0 : List COper := a_code_Reader_Digest_r0
instance : Reg c_code_Reader_Digest_r0 a_code_Reader_Digest_r0 1 := ⟨rfl, rfl⟩
@[simp] def a_code_Reader_Digest_r1 : List COper := [
  ⟨(some 3), .alloc (.arr 1 (rep 32 (.v (.int .u8 0)))), [], none⟩]
def c_code_Reader_Digest_r1 : List COper := a_code_Reader_Digest_r1
instance : Reg c_code_Reader_Digest_r1 a_code_Reader_Digest_r1 1 := ⟨rfl, rfl⟩
@[simp] def a_code_Reader_Digest_r2 : List COper := [
  ⟨(some 4), .sliceArr 32 1 false false, [.t 3], none⟩,
  ⟨(some 5), .mov, [.t 0], none⟩,
  ⟨(some 6), .call fn_code_Reader_take, [.t 5, .c (.int .i64 32)], none⟩,
  ⟨(some 7), .copy 1, [.t 4, .t 6], none⟩]
def c_code_Reader_Digest_r2 : List COper := a_code_Reader_Digest_r2
instance : Reg c_code_Reader_Digest_r2 a_code_Reader_Digest_r2 4 := ⟨rfl, rfl⟩
@[simp] def a_code_Reader_Digest_r3 : List COper := [
  ⟨(some 8), .load true 32, [.t 3], none⟩,
  ⟨none, .store true 32, [.t 2, .t 8], none⟩]
def c_code_Reader_Digest_r3 : List COper := a_code_Reader_Digest_r3
instance : Reg c_code_Reader_Digest_r3 a_code_Reader_Digest_r3 2 := ⟨rfl, rfl⟩
@[simp] def c_code_Reader_Digest : CCode :=
  .seq (.region c_code_Reader_Digest_r0 none [0, 2]) (.seq (.region c_code_Reader_Digest_r1 none [0, 2, 3]) (.seq (.region c_code_Reader_Digest_r2 (some ([0, 0, 2, 7], [])) [2, 3]) (.seq (.region c_code_Reader_Digest_r3 none [2]) (.ret))))
@[simp] def R_code_Reader_Digest : List CRes := [.cell 2 true 32]
theorem k_code_Reader_Digest : chkFn Tryd.prog fn_code_Reader_Digest c_code_Reader_Digest R_code_Reader_Digest 1 = true := by kernel_rfl
/-! wapentake/keys.Read -/
@[simp] def a_keys_Read_r0 : List COper := [
  ⟨(some 2), .alloc (.node [.v (.int .i64 0), .node [.v (.slice none 0 0), .v (.slice none 0 0)], .v (.slice none 0 0)]), [], none⟩]
def c_keys_Read_r0 : List COper := a_keys_Read_r0
instance : Reg c_keys_Read_r0 a_keys_Read_r0 1 := ⟨rfl, rfl⟩
@[simp] def a_keys_Read_r1 : List COper := [
  ⟨(some 5), .mov, [.t 0], none⟩,
  ⟨(some 6), .call fn_code_Reader_Num, [.t 5], none⟩,
  ⟨(some 7), .build [.v (.int .i64 0), .node [.v (.slice none 0 0), .v (.slice none 0 0)], .v (.slice none 0 0)] [0], [.t 6], none⟩,
  ⟨(some 3), .alloc (.node [.v (.int .i64 0), .node [.v (.slice none 0 0), .v (.slice none 0 0)], .v (.slice none 0 0)]), [], none⟩,
  ⟨none, .store true 4, [.t 3, .t 7], none⟩]
def c_keys_Read_r1 : List COper := a_keys_Read_r1
instance : Reg c_keys_Read_r1 a_keys_Read_r1 5 := ⟨rfl, rfl⟩
@[simp] def a_keys_Read_r2 : List COper := [
  ⟨(some 8), .mov, [.t 0], none⟩,
  ⟨(some 9), .call fn_code_Reader_In, [.t 8, .c (.int .i64 0), .c (.int .i64 6)], none⟩,
  ⟨(some 4), .mov, [.t 9], none⟩]
def c_keys_Read_r2 : List COper := a_keys_Read_r2
instance : Reg c_keys_Read_r2 a_keys_Read_r2 3 := ⟨rfl, rfl⟩
@[simp] def a_keys_Read_r3 : List COper := [
  ⟨(some 10), .mov, [.t 0], none⟩,
  ⟨(some 11), .call fn_code_Reader_Good, [.t 10], none⟩,
  ⟨(some 12), .not, [.t 11], none⟩]
def c_keys_Read_r3 : List COper := a_keys_Read_r3
instance : Reg c_keys_Read_r3 a_keys_Read_r3 3 := ⟨rfl, rfl⟩
@[simp] def a_keys_Read_r4 : List COper := [
  ⟨(some 13), .build [.v (.int .i64 0), .node [.v (.slice none 0 0), .v (.slice none 0 0)], .v (.slice none 0 0)] [], [], none⟩,
  ⟨none, .store true 4, [.t 2, .t 13], none⟩]
def c_keys_Read_r4 : List COper := a_keys_Read_r4
instance : Reg c_keys_Read_r4 a_keys_Read_r4 2 := ⟨rfl, rfl⟩
@[simp] def a_keys_Read_r5 : List COper := [
  ⟨(some 14), .mov, [.c (.int .i64 0)], none⟩]
def c_keys_Read_r5 : List COper := a_keys_Read_r5
instance : Reg c_keys_Read_r5 a_keys_Read_r5 1 := ⟨rfl, rfl⟩
@[simp] def a_keys_Read_r6 : List COper := [
  ⟨(some 15), .bin .lss, [.t 14, .c (.int .i64 32)], none⟩]
def c_keys_Read_r6 : List COper := a_keys_Read_r6
instance : Reg c_keys_Read_r6 a_keys_Read_r6 1 := ⟨rfl, rfl⟩
@[simp] def a_keys_Read_r7 : List COper := [
  ⟨(some 16), .faddr 1 2 true, [.t 3], none⟩,
  ⟨(some 17), .faddr 0 1 false, [.t 16], none⟩,
  ⟨(some 18), .load false 1, [.t 17], none⟩,
  ⟨(some 19), .mov, [.t 0], none⟩,
  ⟨(some 20), .call fn_code_Reader_Digest, [.t 19], none⟩,
  ⟨(some 21), .bslice 32 1 (.arr 1 (rep 32 (.v (.int .u8 0)))) [0], [.t 20], none⟩,
  ⟨(some 22), .app 32 32, [.t 18, .t 21], none⟩,
  ⟨(some 23), .faddr 1 2 true, [.t 3], none⟩,
  ⟨(some 24), .faddr 0 1 false, [.t 23], none⟩,
  ⟨none, .store false 1, [.t 24, .t 22], none⟩]
def c_keys_Read_r7 : List COper := a_keys_Read_r7
instance : Reg c_keys_Read_r7 a_keys_Read_r7 10 := ⟨rfl, rfl⟩
@[simp] def a_keys_Read_r8 : List COper := [
  ⟨(some 25), .bin .add, [.t 14, .c (.int .i64 1)], none⟩,
  ⟨(some 14), .mov, [.t 25], none⟩]
def c_keys_Read_r8 : List COper := a_keys_Read_r8
instance : Reg c_keys_Read_r8 a_keys_Read_r8 2 := ⟨rfl, rfl⟩
@[simp] def a_keys_Read_r9 : List COper := [
  ⟨(some 26), .mov, [.c (.int .i64 0)], none⟩]
def c_keys_Read_r9 : List COper := a_keys_Read_r9
instance : Reg c_keys_Read_r9 a_keys_Read_r9 1 := ⟨rfl, rfl⟩
@[simp] def a_keys_Read_r10 : List COper := [
  ⟨(some 27), .bin .lss, [.t 26, .c (.int .i64 32)], none⟩]
def c_keys_Read_r10 : List COper := a_keys_Read_r10
instance : Reg c_keys_Read_r10 a_keys_Read_r10 1 := ⟨rfl, rfl⟩
@[simp] def a_keys_Read_r11 : List COper := [
  ⟨(some 28), .faddr 1 2 true, [.t 3], none⟩,
  ⟨(some 29), .faddr 1 1 false, [.t 28], none⟩,
  ⟨(some 30), .load false 1, [.t 29], none⟩,
  ⟨(some 31), .mov, [.t 0], none⟩,
  ⟨(some 32), .call fn_code_Reader_Digest, [.t 31], none⟩,
  ⟨(some 33), .bslice 32 1 (.arr 1 (rep 32 (.v (.int .u8 0)))) [0], [.t 32], none⟩,
  ⟨(some 34), .app 32 32, [.t 30, .t 33], none⟩,
  ⟨(some 35), .faddr 1 2 true, [.t 3], none⟩,
  ⟨(some 36), .faddr 1 1 false, [.t 35], none⟩,
  ⟨none, .store false 1, [.t 36, .t 34], none⟩]
def c_keys_Read_r11 : List COper := a_keys_Read_r11
instance : Reg c_keys_Read_r11 a_keys_Read_r11 10 := ⟨rfl, rfl⟩
@[simp] def a_keys_Read_r12 : List COper := [
  ⟨(some 37), .bin .add, [.t 26, .c (.int .i64 1)], none⟩,
  ⟨(some 26), .mov, [.t 37], none⟩]
def c_keys_Read_r12 : List COper := a_keys_Read_r12
instance : Reg c_keys_Read_r12 a_keys_Read_r12 2 := ⟨rfl, rfl⟩
@[simp] def a_keys_Read_r13 : List COper := [
  ⟨(some 38), .mov, [.t 4], none⟩,
  ⟨(some 39), .mov, [.c (.int .i64 0)], none⟩]
def c_keys_Read_r13 : List COper := a_keys_Read_r13
instance : Reg c_keys_Read_r13 a_keys_Read_r13 2 := ⟨rfl, rfl⟩
@[simp] def a_keys_Read_r14 : List COper := [
  ⟨(some 40), .bin .lss, [.t 39, .t 38], none⟩]
def c_keys_Read_r14 : List COper := a_keys_Read_r14
instance : Reg c_keys_Read_r14 a_keys_Read_r14 1 := ⟨rfl, rfl⟩
@[simp] def a_keys_Read_r15 : List COper := [
  ⟨(some 41), .faddr 3 1 false, [.t 3], none⟩,
  ⟨(some 42), .load false 1, [.t 41], none⟩,
  ⟨(some 43), .mov, [.t 0], none⟩,
  ⟨(some 44), .call fn_code_Reader_Digest, [.t 43], none⟩,
  ⟨(some 45), .bslice 32 1 (.arr 1 (rep 32 (.v (.int .u8 0)))) [0], [.t 44], none⟩,
  ⟨(some 46), .app 32 32, [.t 42, .t 45], none⟩,
  ⟨(some 47), .faddr 3 1 false, [.t 3], none⟩,
  ⟨none, .store false 1, [.t 47, .t 46], none⟩]
def c_keys_Read_r15 : List COper := a_keys_Read_r15
instance : Reg c_keys_Read_r15 a_keys_Read_r15 8 := ⟨rfl, rfl⟩
@[simp] def a_keys_Read_r16 : List COper := [
  ⟨(some 48), .bin .add, [.t 39, .c (.int .i64 1)], none⟩,
  ⟨(some 39), .mov, [.t 48], none⟩]
def c_keys_Read_r16 : List COper := a_keys_Read_r16
instance : Reg c_keys_Read_r16 a_keys_Read_r16 2 := ⟨rfl, rfl⟩
@[simp] def a_keys_Read_r17 : List COper := [
  ⟨(some 49), .mov, [.t 0], none⟩,
  ⟨(some 50), .call fn_code_Reader_Good, [.t 49], none⟩,
  ⟨(some 51), .not, [.t 50], none⟩]
def c_keys_Read_r17 : List COper := a_keys_Read_r17
instance : Reg c_keys_Read_r17 a_keys_Read_r17 3 := ⟨rfl, rfl⟩
@[simp] def a_keys_Read_r18 : List COper := [
  ⟨(some 52), .build [.v (.int .i64 0), .node [.v (.slice none 0 0), .v (.slice none 0 0)], .v (.slice none 0 0)] [], [], none⟩,
  ⟨none, .store true 4, [.t 2, .t 52], none⟩]
def c_keys_Read_r18 : List COper := a_keys_Read_r18
instance : Reg c_keys_Read_r18 a_keys_Read_r18 2 := ⟨rfl, rfl⟩
@[simp] def a_keys_Read_r19 : List COper := [
  ⟨(some 53), .load true 4, [.t 3], none⟩,
  ⟨none, .store true 4, [.t 2, .t 53], none⟩]
def c_keys_Read_r19 : List COper := a_keys_Read_r19
instance : Reg c_keys_Read_r19 a_keys_Read_r19 2 := ⟨rfl, rfl⟩
@[simp] def c_keys_Read : CCode :=
  .seq (.region c_keys_Read_r0 none [0, 2]) (.seq (.region c_keys_Read_r1 none [0, 2, 3]) (.seq (.region c_keys_Read_r2 none [0, 2, 3, 4]) (.seq (.seq (.region c_keys_Read_r3 none [0, 2, 3, 4, 12]) (.cond (.t 12) (.seq (.region c_keys_Read_r4 none [2]) (.ret)) (.skip))) (.seq (.seq (.region c_keys_Read_r5 none [0, 2, 3, 4, 14]) (.block 0 (.loop (.seq (.region c_keys_Read_r6 none [0, 2, 3, 4, 14, 15]) (.seq (.cond (.t 15) (.skip) (.exit 0)) (.seq (.block 1 (.region c_keys_Read_r7 (some ([0, 1, 3, 0, 8, 24, 63, 127, 255, 511], [(2, 4), (2, 5)])) [0, 2, 3, 4, 14])) (.region c_keys_Read_r8 none [0, 2, 3, 4, 14]))))))) (.seq (.seq (.region c_keys_Read_r9 none [0, 2, 3, 4, 26]) (.block 2 (.loop (.seq (.region c_keys_Read_r10 none [0, 2, 3, 4, 26, 27]) (.seq (.cond (.t 27) (.skip) (.exit 2)) (.seq (.block 3 (.region c_keys_Read_r11 (some ([0, 1, 3, 0, 8, 24, 63, 127, 255, 511], [(2, 4), (2, 5)])) [0, 2, 3, 4, 26])) (.region c_keys_Read_r12 none [0, 2, 3, 4, 26]))))))) (.seq (.seq (.region c_keys_Read_r13 none [0, 2, 3, 38, 39]) (.block 4 (.loop (.seq (.region c_keys_Read_r14 none [0, 2, 3, 38, 39, 40]) (.seq (.cond (.t 40) (.skip) (.exit 4)) (.seq (.block 5 (.region c_keys_Read_r15 (some ([0, 1, 0, 4, 12, 31, 63, 127], [(1, 3), (1, 4)])) [0, 2, 3, 38, 39])) (.region c_keys_Read_r16 none [0, 2, 3, 38, 39]))))))) (.seq (.seq (.region c_keys_Read_r17 none [2, 3, 51]) (.cond (.t 51) (.seq (.region c_keys_Read_r18 none [2]) (.ret)) (.skip))) (.seq (.region c_keys_Read_r19 none [2]) (.ret)))))))))
@[simp] def R_keys_Read : List CRes := [.cell 2 true 4]
theorem k_keys_Read : chkFn Tryd.prog fn_keys_Read c_keys_Read R_keys_Read 1 = true := by kernel_rfl
/-! (*wapentake/wapentakeref01.Reader).Num -/
@[simp] def a_r01_Reader_Num_r0 : List COper := [
  ⟨(some 2), .mov, [.c (.int .i64 0)], none⟩]
def c_r01_Reader_Num_r0 : List COper := a_r01_Reader_Num_r0
instance : Reg c_r01_Reader_Num_r0 a_r01_Reader_Num_r0 1 := ⟨rfl, rfl⟩
@[simp] def a_r01_Reader_Num_r1 : List COper := [
  ⟨(some 6), .mov, [.t 0], none⟩,
  ⟨(some 7), .call fn_r01_Reader_Take, [.t 6, .c (.int .i64 8)], none⟩,
  ⟨(some 3), .mov, [.t 7], none⟩]
def c_r01_Reader_Num_r1 : List COper := a_r01_Reader_Num_r1
instance : Reg c_r01_Reader_Num_r1 a_r01_Reader_Num_r1 3 := ⟨rfl, rfl⟩
@[simp] def a_r01_Reader_Num_r2 : List COper := [
  ⟨(some 4), .mov, [.c (.int .i64 0)], none⟩]
def c_r01_Reader_Num_r2 : List COper := a_r01_Reader_Num_r2
instance : Reg c_r01_Reader_Num_r2 a_r01_Reader_Num_r2 1 := ⟨rfl, rfl⟩
@[simp] def a_r01_Reader_Num_r3 : List COper := [
  ⟨(some 5), .mov, [.c (.int .i64 0)], none⟩]
def c_r01_Reader_Num_r3 : List COper := a_r01_Reader_Num_r3
instance : Reg c_r01_Reader_Num_r3 a_r01_Reader_Num_r3 1 := ⟨rfl, rfl⟩
@[simp] def a_r01_Reader_Num_r4 : List COper := [
  ⟨(some 8), .mov, [.t 5], none⟩,
  ⟨(some 9), .mov, [.t 3], none⟩,
  ⟨(some 10), .lenS, [.t 9], none⟩,
  ⟨(some 11), .bin .lss, [.t 8, .t 10], none⟩]
def c_r01_Reader_Num_r4 : List COper := a_r01_Reader_Num_r4
instance : Reg c_r01_Reader_Num_r4 a_r01_Reader_Num_r4 4 := ⟨rfl, rfl⟩
@[simp] def a_r01_Reader_Num_r6 : List COper := [
  ⟨(some 14), .mov, [.t 4], none⟩,
  ⟨(some 15), .bin .shl, [.t 14, .c (.int .u64 8)], none⟩,
  ⟨(some 16), .mov, [.t 3], none⟩,
  ⟨(some 17), .mov, [.t 5], none⟩,
  ⟨(some 18), .idxS, [.t 16, .t 17], none⟩,
  ⟨(some 19), .convI .i64, [.t 18], none⟩,
  ⟨(some 20), .bin .or, [.t 15, .t 19], none⟩,
  ⟨(some 4), .mov, [.t 20], none⟩]
def c_r01_Reader_Num_r6 : List COper := a_r01_Reader_Num_r6
instance : Reg c_r01_Reader_Num_r6 a_r01_Reader_Num_r6 8 := ⟨rfl, rfl⟩
@[simp] def a_r01_Reader_Num_r5 : List COper := [
  ⟨(some 12), .mov, [.t 5], none⟩,
  ⟨(some 13), .bin .add, [.t 12, .c (.int .i64 1)], none⟩,
  ⟨(some 5), .mov, [.t 13], none⟩]
def c_r01_Reader_Num_r5 : List COper := a_r01_Reader_Num_r5
instance : Reg c_r01_Reader_Num_r5 a_r01_Reader_Num_r5 3 := ⟨rfl, rfl⟩
@[simp] def a_r01_Reader_Num_r7 : List COper := [
  ⟨(some 21), .mov, [.t 4], none⟩,
  ⟨(some 2), .mov, [.t 21], none⟩]
def c_r01_Reader_Num_r7 : List COper := a_r01_Reader_Num_r7
instance : Reg c_r01_Reader_Num_r7 a_r01_Reader_Num_r7 2 := ⟨rfl, rfl⟩
@[simp] def c_r01_Reader_Num : CCode :=
  .seq (.region c_r01_Reader_Num_r0 none [0]) (.seq (.region c_r01_Reader_Num_r1 none [3]) (.seq (.region c_r01_Reader_Num_r2 none [3, 4]) (.seq (.seq (.region c_r01_Reader_Num_r3 none [3, 4, 5]) (.block 0 (.loop (.seq (.seq (.region c_r01_Reader_Num_r4 none [3, 4, 5, 11]) (.cond (.t 11) (.skip) (.exit 0))) (.seq (.block 1 (.region c_r01_Reader_Num_r6 none [3, 4, 5])) (.region c_r01_Reader_Num_r5 none [3, 4, 5])))))) (.seq (.region c_r01_Reader_Num_r7 none [2]) (.ret)))))
@[simp] def R_r01_Reader_Num : List CRes := [.tmp 2]
theorem k_r01_Reader_Num : chkFn Tryd.prog fn_r01_Reader_Num c_r01_Reader_Num R_r01_Reader_Num 1 = true := by kernel_rfl
/-! (*wapentake/wapentakeref01.Reader).Take -/
@[simp] def a_r01_Reader_Take_r0 : List COper := [
  ⟨(some 4), .mov, [.c (.string (mkS []))], none⟩]
def c_r01_Reader_Take_r0 : List COper := a_r01_Reader_Take_r0
instance : Reg c_r01_Reader_Take_r0 a_r01_Reader_Take_r0 1 := ⟨rfl, rfl⟩
@[simp] def a_r01_Reader_Take_r1 : List COper := [
  ⟨(some 6), .mov, [.t 0], none⟩,
  ⟨(some 7), .nilc, [.t 6], none⟩,
  ⟨(some 8), .faddr 1 1 false, [.t 7], none⟩,
  ⟨(some 9), .load false 1, [.t 8], none⟩,
  ⟨(some 10), .mov, [.t 9], none⟩,
  ⟨(some 11), .mov, [.t 1], (some (10, false))⟩,
  ⟨(some 12), .bin .lss, [.t 11, .c (.int .i64 0)], (some (10, false))⟩,
  ⟨(some 13), .pick, [.t 10, .c (.bool true), .t 12], none⟩,
  ⟨(some 14), .mov, [.t 13], none⟩,
  ⟨(some 15), .mov, [.t 1], (some (14, false))⟩,
  ⟨(some 16), .mov, [.t 0], (some (14, false))⟩,
  ⟨(some 17), .nilc, [.t 16], (some (14, false))⟩,
  ⟨(some 18), .faddr 0 1 false, [.t 17], (some (14, false))⟩,
  ⟨(some 19), .load false 1, [.t 18], (some (14, false))⟩,
  ⟨(some 20), .lenS, [.t 19], (some (14, false))⟩,
  ⟨(some 21), .bin .gtr, [.t 15, .t 20], (some (14, false))⟩,
  ⟨(some 22), .pick, [.t 14, .c (.bool true), .t 21], none⟩]
def c_r01_Reader_Take_r1 : List COper := a_r01_Reader_Take_r1
instance : Reg c_r01_Reader_Take_r1 a_r01_Reader_Take_r1 17 := ⟨rfl, rfl⟩
@[simp] def a_r01_Reader_Take_r2 : List COper := [
  ⟨(some 23), .mov, [.t 0], none⟩,
  ⟨(some 24), .nilc, [.t 23], none⟩,
  ⟨(some 25), .faddr 1 1 false, [.t 24], none⟩,
  ⟨none, .store false 1, [.t 25, .c (.bool true)], none⟩]
def c_r01_Reader_Take_r2 : List COper := a_r01_Reader_Take_r2
instance : Reg c_r01_Reader_Take_r2 a_r01_Reader_Take_r2 4 := ⟨rfl, rfl⟩
@[simp] def a_r01_Reader_Take_r3 : List COper := [
  ⟨(some 26), .mov, [.t 0], none⟩,
  ⟨(some 27), .nilc, [.t 26], none⟩,
  ⟨(some 28), .faddr 0 1 false, [.t 27], none⟩,
  ⟨none, .store false 1, [.t 28, .c (.string (mkS []))], none⟩]
def c_r01_Reader_Take_r3 : List COper := a_r01_Reader_Take_r3
instance : Reg c_r01_Reader_Take_r3 a_r01_Reader_Take_r3 4 := ⟨rfl, rfl⟩
@[simp] def a_r01_Reader_Take_r4 : List COper := [
  ⟨(some 4), .mov, [.c (.string (mkS []))], none⟩]
def c_r01_Reader_Take_r4 : List COper := a_r01_Reader_Take_r4
instance : Reg c_r01_Reader_Take_r4 a_r01_Reader_Take_r4 1 := ⟨rfl, rfl⟩
@[simp] def a_r01_Reader_Take_r5 : List COper := [
  ⟨(some 29), .mov, [.t 0], none⟩,
  ⟨(some 30), .nilc, [.t 29], none⟩,
  ⟨(some 31), .faddr 0 1 false, [.t 30], none⟩,
  ⟨(some 32), .load false 1, [.t 31], none⟩,
  ⟨(some 33), .mov, [.t 1], none⟩,
  ⟨(some 34), .sliceStr false true, [.t 32, .t 33], none⟩,
  ⟨(some 5), .mov, [.t 34], none⟩]
def c_r01_Reader_Take_r5 : List COper := a_r01_Reader_Take_r5
instance : Reg c_r01_Reader_Take_r5 a_r01_Reader_Take_r5 7 := ⟨rfl, rfl⟩
@[simp] def a_r01_Reader_Take_r6 : List COper := [
  ⟨(some 35), .mov, [.t 0], none⟩,
  ⟨(some 36), .mov, [.t 0], none⟩,
  ⟨(some 37), .nilc, [.t 36], none⟩,
  ⟨(some 38), .faddr 0 1 false, [.t 37], none⟩,
  ⟨(some 39), .load false 1, [.t 38], none⟩,
  ⟨(some 40), .mov, [.t 1], none⟩,
  ⟨(some 41), .sliceStr true false, [.t 39, .t 40], none⟩,
  ⟨(some 42), .nilc, [.t 35], none⟩,
  ⟨(some 43), .faddr 0 1 false, [.t 42], none⟩,
  ⟨none, .store false 1, [.t 43, .t 41], none⟩]
def c_r01_Reader_Take_r6 : List COper := a_r01_Reader_Take_r6
instance : Reg c_r01_Reader_Take_r6 a_r01_Reader_Take_r6 10 := ⟨rfl, rfl⟩
@[simp] def a_r01_Reader_Take_r7 : List COper := [
  ⟨(some 44), .mov, [.t 5], none⟩,
  ⟨(some 4), .mov, [.t 44], none⟩]
def c_r01_Reader_Take_r7 : List COper := a_r01_Reader_Take_r7
instance : Reg c_r01_Reader_Take_r7 a_r01_Reader_Take_r7 2 := ⟨rfl, rfl⟩
@[simp] def c_r01_Reader_Take : CCode :=
  .seq (.region c_r01_Reader_Take_r0 none [0, 1]) (.seq (.seq (.region c_r01_Reader_Take_r1 none [0, 1, 22]) (.cond (.t 22) (.seq (.region c_r01_Reader_Take_r2 none [0]) (.seq (.region c_r01_Reader_Take_r3 none []) (.seq (.region c_r01_Reader_Take_r4 none [4]) (.ret)))) (.skip))) (.seq (.region c_r01_Reader_Take_r5 none [0, 1, 5]) (.seq (.region c_r01_Reader_Take_r6 none [5]) (.seq (.region c_r01_Reader_Take_r7 none [4]) (.ret)))))
@[simp] def R_r01_Reader_Take : List CRes := [.tmp 4]
theorem k_r01_Reader_Take : chkFn Tryd.prog fn_r01_Reader_Take c_r01_Reader_Take R_r01_Reader_Take 2 = true := by kernel_rfl
/-! (*wapentake/wapentakeref01.Reader).Digest -/
@[simp] def a_r01_Reader_Digest_r0 : List COper := [
  ⟨(some 2), .alloc (.arr 1 (rep 32 (.v (.int .u8 0)))), [], none⟩]
def c_r01_Reader_Digest_r0 : List COper := a_r01_Reader_Digest_r0
instance : Reg c_r01_Reader_Digest_r0 a_r01_Reader_Digest_r0 1 := ⟨rfl, rfl⟩
@[simp] def a_r01_Reader_Digest_r1 : List COper := [
  ⟨(some 3), .alloc (.arr 1 (rep 32 (.v (.int .u8 0)))), [], none⟩]
def c_r01_Reader_Digest_r1 : List COper := a_r01_Reader_Digest_r1
instance : Reg c_r01_Reader_Digest_r1 a_r01_Reader_Digest_r1 1 := ⟨rfl, rfl⟩
@[simp] def a_r01_Reader_Digest_r2 : List COper := [
  ⟨(some 6), .mov, [.t 0], none⟩,
  ⟨(some 7), .call fn_r01_Reader_Take, [.t 6, .c (.int .i64 32)], none⟩,
  ⟨(some 4), .mov, [.t 7], none⟩]
def c_r01_Reader_Digest_r2 : List COper := a_r01_Reader_Digest_r2
instance : Reg c_r01_Reader_Digest_r2 a_r01_Reader_Digest_r2 3 := ⟨rfl, rfl⟩
@[simp] def a_r01_Reader_Digest_r3 : List COper := [
  ⟨(some 5), .mov, [.c (.int .i64 0)], none⟩]
def c_r01_Reader_Digest_r3 : List COper := a_r01_Reader_Digest_r3
instance : Reg c_r01_Reader_Digest_r3 a_r01_Reader_Digest_r3 1 := ⟨rfl, rfl⟩
@[simp] def a_r01_Reader_Digest_r4 : List COper := [
  ⟨(some 8), .mov, [.t 5], none⟩,
  ⟨(some 9), .mov, [.t 4], none⟩,
  ⟨(some 10), .lenS, [.t 9], none⟩,
  ⟨(some 11), .bin .lss, [.t 8, .t 10], none⟩]
def c_r01_Reader_Digest_r4 : List COper := a_r01_Reader_Digest_r4
instance : Reg c_r01_Reader_Digest_r4 a_r01_Reader_Digest_r4 4 := ⟨rfl, rfl⟩
@[simp] def a_r01_Reader_Digest_r6 : List COper := [
  ⟨(some 14), .mov, [.t 5], none⟩,
  ⟨(some 15), .mov, [.t 4], none⟩,
  ⟨(some 16), .mov, [.t 5], none⟩,
  ⟨(some 17), .idxS, [.t 15, .t 16], none⟩,
  ⟨(some 18), .iaddrArr 32 1 false, [.t 3, .t 14], none⟩,
  ⟨none, .store false 1, [.t 18, .t 17], none⟩]
def c_r01_Reader_Digest_r6 : List COper := a_r01_Reader_Digest_r6
instance : Reg c_r01_Reader_Digest_r6 a_r01_Reader_Digest_r6 6 := ⟨rfl, rfl⟩
@[simp] def a_r01_Reader_Digest_r5 : List COper := [
  ⟨(some 12), .mov, [.t 5], none⟩,
  ⟨(some 13), .bin .add, [.t 12, .c (.int .i64 1)], none⟩,
  ⟨(some 5), .mov, [.t 13], none⟩]
def c_r01_Reader_Digest_r5 : List COper := a_r01_Reader_Digest_r5
instance : Reg c_r01_Reader_Digest_r5 a_r01_Reader_Digest_r5 3 := ⟨rfl, rfl⟩
@[simp] def a_r01_Reader_Digest_r7 : List COper := [
  ⟨(some 19), .load true 32, [.t 3], none⟩,
  ⟨none, .store true 32, [.t 2, .t 19], none⟩]
def c_r01_Reader_Digest_r7 : List COper := a_r01_Reader_Digest_r7
instance : Reg c_r01_Reader_Digest_r7 a_r01_Reader_Digest_r7 2 := ⟨rfl, rfl⟩
@[simp] def c_r01_Reader_Digest : CCode :=
  .seq (.region c_r01_Reader_Digest_r0 none [0, 2]) (.seq (.region c_r01_Reader_Digest_r1 none [0, 2, 3]) (.seq (.region c_r01_Reader_Digest_r2 none [2, 3, 4]) (.seq (.seq (.region c_r01_Reader_Digest_r3 none [2, 3, 4, 5]) (.block 0 (.loop (.seq (.seq (.region c_r01_Reader_Digest_r4 none [2, 3, 4, 5, 11]) (.cond (.t 11) (.skip) (.exit 0))) (.seq (.block 1 (.region c_r01_Reader_Digest_r6 none [2, 3, 4, 5])) (.region c_r01_Reader_Digest_r5 none [2, 3, 4, 5])))))) (.seq (.region c_r01_Reader_Digest_r7 none [2]) (.ret)))))
@[simp] def R_r01_Reader_Digest : List CRes := [.cell 2 true 32]
theorem k_r01_Reader_Digest : chkFn Tryd.prog fn_r01_Reader_Digest c_r01_Reader_Digest R_r01_Reader_Digest 1 = true := by kernel_rfl
/-! wapentake/wapentakeref05.Read -/
@[simp] def a_r05_Read_r0 : List COper := [
  ⟨(some 2), .alloc (.node [.v (.int .i64 0), .node [.v (.slice none 0 0), .v (.slice none 0 0)], .v (.slice none 0 0)]), [], none⟩]
def c_r05_Read_r0 : List COper := a_r05_Read_r0
instance : Reg c_r05_Read_r0 a_r05_Read_r0 1 := ⟨rfl, rfl⟩
@[simp] def a_r05_Read_r1 : List COper := [
  ⟨(some 7), .mov, [.t 0], none⟩,
  ⟨(some 8), .call fn_r01_Reader_Num, [.t 7], none⟩,
  ⟨(some 9), .build [.v (.int .i64 0), .node [.v (.slice none 0 0), .v (.slice none 0 0)], .v (.slice none 0 0)] [0], [.t 8], none⟩,
  ⟨(some 3), .alloc (.node [.v (.int .i64 0), .node [.v (.slice none 0 0), .v (.slice none 0 0)], .v (.slice none 0 0)]), [], none⟩,
  ⟨none, .store true 4, [.t 3, .t 9], none⟩]
def c_r05_Read_r1 : List COper := a_r05_Read_r1
instance : Reg c_r05_Read_r1 a_r05_Read_r1 5 := ⟨rfl, rfl⟩
@[simp] def a_r05_Read_r2 : List COper := [
  ⟨(some 10), .mov, [.t 0], none⟩,
  ⟨(some 11), .call fn_r01_Reader_In, [.t 10, .c (.int .i64 0), .c (.int .i64 6)], none⟩,
  ⟨(some 4), .mov, [.t 11], none⟩]
def c_r05_Read_r2 : List COper := a_r05_Read_r2
instance : Reg c_r05_Read_r2 a_r05_Read_r2 3 := ⟨rfl, rfl⟩
@[simp] def a_r05_Read_r3 : List COper := [
  ⟨(some 5), .mov, [.c (.int .i64 0)], none⟩]
def c_r05_Read_r3 : List COper := a_r05_Read_r3
instance : Reg c_r05_Read_r3 a_r05_Read_r3 1 := ⟨rfl, rfl⟩
@[simp] def a_r05_Read_r4 : List COper := [
  ⟨(some 12), .mov, [.t 5], none⟩,
  ⟨(some 13), .mov, [.t 4], none⟩,
  ⟨(some 14), .bin .add, [.c (.int .i64 64), .t 13], none⟩,
  ⟨(some 15), .bin .lss, [.t 12, .t 14], none⟩,
  ⟨(some 16), .mov, [.t 15], none⟩,
  ⟨(some 17), .mov, [.t 0], (some (16, true))⟩,
  ⟨(some 18), .call fn_r01_Reader_Good, [.t 17], (some (16, true))⟩,
  ⟨(some 19), .pick, [.t 16, .t 18, .c (.bool false)], none⟩]
def c_r05_Read_r4 : List COper := a_r05_Read_r4
instance : Reg c_r05_Read_r4 a_r05_Read_r4 8 := ⟨rfl, rfl⟩
@[simp] def a_r05_Read_r6 : List COper := [
  ⟨(some 22), .mov, [.t 0], none⟩,
  ⟨(some 23), .call fn_r01_Reader_Digest, [.t 22], none⟩,
  ⟨(some 6), .alloc (.arr 1 (rep 32 (.v (.int .u8 0)))), [], none⟩,
  ⟨none, .store true 32, [.t 6, .t 23], none⟩]
def c_r05_Read_r6 : List COper := a_r05_Read_r6
instance : Reg c_r05_Read_r6 a_r05_Read_r6 4 := ⟨rfl, rfl⟩
@[simp] def a_r05_Read_r7 : List COper := [
  ⟨(some 24), .mov, [.t 5], none⟩,
  ⟨(some 25), .bin .lss, [.t 24, .c (.int .i64 32)], none⟩]
def c_r05_Read_r7 : List COper := a_r05_Read_r7
instance : Reg c_r05_Read_r7 a_r05_Read_r7 2 := ⟨rfl, rfl⟩
@[simp] def a_r05_Read_r8 : List COper := [
  ⟨(some 26), .faddr 1 2 true, [.t 3], none⟩,
  ⟨(some 27), .faddr 0 1 false, [.t 26], none⟩,
  ⟨(some 28), .load false 1, [.t 27], none⟩,
  ⟨(some 29), .load true 32, [.t 6], none⟩,
  ⟨(some 30), .bslice 32 1 (.arr 1 (rep 32 (.v (.int .u8 0)))) [0], [.t 29], none⟩,
  ⟨(some 31), .app 32 32, [.t 28, .t 30], none⟩,
  ⟨(some 32), .faddr 1 2 true, [.t 3], none⟩,
  ⟨(some 33), .faddr 0 1 false, [.t 32], none⟩,
  ⟨none, .store false 1, [.t 33, .t 31], none⟩]
def c_r05_Read_r8 : List COper := a_r05_Read_r8
instance : Reg c_r05_Read_r8 a_r05_Read_r8 9 := ⟨rfl, rfl⟩
@[simp] def a_r05_Read_r9 : List COper := [
  ⟨(some 34), .mov, [.t 5], none⟩,
  ⟨(some 35), .bin .lss, [.t 34, .c (.int .i64 64)], none⟩]
def c_r05_Read_r9 : List COper := a_r05_Read_r9
instance : Reg c_r05_Read_r9 a_r05_Read_r9 2 := ⟨rfl, rfl⟩
@[simp] def a_r05_Read_r10 : List COper := [
  ⟨(some 36), .faddr 1 2 true, [.t 3], none⟩,
  ⟨(some 37), .faddr 1 1 false, [.t 36], none⟩,
  ⟨(some 38), .load false 1, [.t 37], none⟩,
  ⟨(some 39), .load true 32, [.t 6], none⟩,
  ⟨(some 40), .bslice 32 1 (.arr 1 (rep 32 (.v (.int .u8 0)))) [0], [.t 39], none⟩,
  ⟨(some 41), .app 32 32, [.t 38, .t 40], none⟩,
  ⟨(some 42), .faddr 1 2 true, [.t 3], none⟩,
  ⟨(some 43), .faddr 1 1 false, [.t 42], none⟩,
  ⟨none, .store false 1, [.t 43, .t 41], none⟩]
def c_r05_Read_r10 : List COper := a_r05_Read_r10
instance : Reg c_r05_Read_r10 a_r05_Read_r10 9 := ⟨rfl, rfl⟩
@[simp] def a_r05_Read_r11 : List COper := [
  ⟨(some 44), .faddr 3 1 false, [.t 3], none⟩,
  ⟨(some 45), .load false 1, [.t 44], none⟩,
  ⟨(some 46), .load true 32, [.t 6], none⟩,
  ⟨(some 47), .bslice 32 1 (.arr 1 (rep 32 (.v (.int .u8 0)))) [0], [.t 46], none⟩,
  ⟨(some 48), .app 32 32, [.t 45, .t 47], none⟩,
  ⟨(some 49), .faddr 3 1 false, [.t 3], none⟩,
  ⟨none, .store false 1, [.t 49, .t 48], none⟩]
def c_r05_Read_r11 : List COper := a_r05_Read_r11
instance : Reg c_r05_Read_r11 a_r05_Read_r11 7 := ⟨rfl, rfl⟩
@[simp] def a_r05_Read_r5 : List COper := [
  ⟨(some 20), .mov, [.t 5], none⟩,
  ⟨(some 21), .bin .add, [.t 20, .c (.int .i64 1)], none⟩,
  ⟨(some 5), .mov, [.t 21], none⟩]
def c_r05_Read_r5 : List COper := a_r05_Read_r5
instance : Reg c_r05_Read_r5 a_r05_Read_r5 3 := ⟨rfl, rfl⟩
@[simp] def a_r05_Read_r12 : List COper := [
  ⟨(some 50), .mov, [.t 0], none⟩,
  ⟨(some 51), .call fn_r01_Reader_Good, [.t 50], none⟩,
  ⟨(some 52), .not, [.t 51], none⟩]
def c_r05_Read_r12 : List COper := a_r05_Read_r12
instance : Reg c_r05_Read_r12 a_r05_Read_r12 3 := ⟨rfl, rfl⟩
@[simp] def a_r05_Read_r13 : List COper := [
  ⟨(some 53), .build [.v (.int .i64 0), .node [.v (.slice none 0 0), .v (.slice none 0 0)], .v (.slice none 0 0)] [], [], none⟩,
  ⟨none, .store true 4, [.t 2, .t 53], none⟩]
def c_r05_Read_r13 : List COper := a_r05_Read_r13
instance : Reg c_r05_Read_r13 a_r05_Read_r13 2 := ⟨rfl, rfl⟩
@[simp] def a_r05_Read_r14 : List COper := [
  ⟨(some 54), .load true 4, [.t 3], none⟩,
  ⟨none, .store true 4, [.t 2, .t 54], none⟩]
def c_r05_Read_r14 : List COper := a_r05_Read_r14
instance : Reg c_r05_Read_r14 a_r05_Read_r14 2 := ⟨rfl, rfl⟩
@[simp] def c_r05_Read : CCode :=
  .seq (.region c_r05_Read_r0 none [0, 2]) (.seq (.region c_r05_Read_r1 none [0, 2, 3]) (.seq (.region c_r05_Read_r2 none [0, 2, 3, 4]) (.seq (.seq (.region c_r05_Read_r3 none [0, 2, 3, 4, 5]) (.block 0 (.loop (.seq (.seq (.region c_r05_Read_r4 none [0, 2, 3, 4, 5, 19]) (.cond (.t 19) (.skip) (.exit 0))) (.seq (.block 1 (.seq (.region c_r05_Read_r6 none [0, 2, 3, 4, 5, 6]) (.seq (.region c_r05_Read_r7 none [0, 2, 3, 4, 5, 6, 25]) (.cond (.t 25) (.region c_r05_Read_r8 none [0, 2, 3, 4, 5]) (.seq (.region c_r05_Read_r9 none [0, 2, 3, 4, 5, 6, 35]) (.cond (.t 35) (.region c_r05_Read_r10 none [0, 2, 3, 4, 5]) (.region c_r05_Read_r11 none [0, 2, 3, 4, 5]))))))) (.region c_r05_Read_r5 none [0, 2, 3, 4, 5])))))) (.seq (.seq (.region c_r05_Read_r12 none [2, 3, 52]) (.cond (.t 52) (.seq (.region c_r05_Read_r13 none [2]) (.ret)) (.skip))) (.seq (.region c_r05_Read_r14 none [2]) (.ret))))))
@[simp] def R_r05_Read : List CRes := [.cell 2 true 4]
theorem k_r05_Read : chkFn Tryd.prog fn_r05_Read c_r05_Read R_r05_Read 1 = true := by kernel_rfl
/-! (*wapentake/code.Writer).Digest -/
@[simp] def a_code_Writer_Digest_r0 : List COper := [
  ⟨(some 6), .mov, [.t 0], none⟩,
  ⟨(some 7), .eqp false, [.t 6, .c (.pointer none)], none⟩]
def c_code_Writer_Digest_r0 : List COper := a_code_Writer_Digest_r0
instance : Reg c_code_Writer_Digest_r0 a_code_Writer_Digest_r0 2 := ⟨rfl, rfl⟩
@[simp] def a_code_Writer_Digest_r1 : List COper := [
  ⟨(some 8), .mov, [.t 1], none⟩,
  ⟨(some 9), .len, [.t 8], none⟩,
  ⟨(some 10), .mov, [.c (.int .i64 0)], none⟩]
def c_code_Writer_Digest_r1 : List COper := a_code_Writer_Digest_r1
instance : Reg c_code_Writer_Digest_r1 a_code_Writer_Digest_r1 3 := ⟨rfl, rfl⟩
@[simp] def a_code_Writer_Digest_r2 : List COper := [
  ⟨(some 11), .bin .lss, [.t 10, .t 9], none⟩]
def c_code_Writer_Digest_r2 : List COper := a_code_Writer_Digest_r2
instance : Reg c_code_Writer_Digest_r2 a_code_Writer_Digest_r2 1 := ⟨rfl, rfl⟩
@[simp] def a_code_Writer_Digest_r3 : List COper := [
  ⟨(some 12), .iaddr 32, [.t 8, .t 10], none⟩,
  ⟨(some 13), .load true 32, [.t 12], none⟩,
  ⟨(some 5), .alloc (.arr 1 (rep 32 (.v (.int .u8 0)))), [], none⟩,
  ⟨none, .store true 32, [.t 5, .t 13], none⟩]
def c_code_Writer_Digest_r3 : List COper := a_code_Writer_Digest_r3
instance : Reg c_code_Writer_Digest_r3 a_code_Writer_Digest_r3 4 := ⟨rfl, rfl⟩
@[simp] def a_code_Writer_Digest_r4 : List COper := [
  ⟨(some 14), .mov, [.t 0], none⟩,
  ⟨(some 15), .mov, [.t 0], none⟩,
  ⟨(some 16), .nilc, [.t 15], none⟩,
  ⟨(some 17), .faddr 0 1 false, [.t 16], none⟩,
  ⟨(some 18), .load false 1, [.t 17], none⟩,
  ⟨(some 19), .sliceArr 32 1 false false, [.t 5], none⟩,
  ⟨(some 20), .app 1 1, [.t 18, .t 19], none⟩,
  ⟨(some 21), .nilc, [.t 14], none⟩,
  ⟨(some 22), .faddr 0 1 false, [.t 21], none⟩,
  ⟨none, .store false 1, [.t 22, .t 20], none⟩]
def c_code_Writer_Digest_r4 : List COper := a_code_Writer_Digest_r4
instance : Reg c_code_Writer_Digest_r4 a_code_Writer_Digest_r4 10 := ⟨rfl, rfl⟩
@[simp] def a_code_Writer_Digest_r5 : List COper := [
  ⟨(some 23), .bin .add, [.t 10, .c (.int .i64 1)], none⟩,
  ⟨(some 10), .mov, [.t 23], none⟩]
def c_code_Writer_Digest_r5 : List COper := a_code_Writer_Digest_r5
instance : Reg c_code_Writer_Digest_r5 a_code_Writer_Digest_r5 2 := ⟨rfl, rfl⟩
@[simp] def c_code_Writer_Digest : CCode :=
  .seq (.seq (.region c_code_Writer_Digest_r0 none [0, 1, 7]) (.cond (.t 7) (.ret) (.skip))) (.seq (.region c_code_Writer_Digest_r1 none [0, 8, 9, 10]) (.block 0 (.loop (.seq (.region c_code_Writer_Digest_r2 none [0, 8, 9, 10, 11]) (.seq (.cond (.t 11) (.skip) (.exit 0)) (.seq (.block 1 (.seq (.region c_code_Writer_Digest_r3 none [0, 5, 8, 9, 10]) (.region c_code_Writer_Digest_r4 (some ([0, 0, 2, 6, 14, 0, 62, 127, 255, 511], [])) [0, 8, 9, 10]))) (.region c_code_Writer_Digest_r5 none [0, 8, 9, 10])))))))
@[simp] def R_code_Writer_Digest : List CRes := []
theorem k_code_Writer_Digest : chkFn Tryd.prog fn_code_Writer_Digest c_code_Writer_Digest R_code_Writer_Digest 2 = true := by kernel_rfl
/-! wapentake/request.Write -/
@[simp] def a_request_Write_r0 : List COper := [
  ⟨(some 3), .box, [.t 1], none⟩]
def c_request_Write_r0 : List COper := a_request_Write_r0
instance : Reg c_request_Write_r0 a_request_Write_r0 1 := ⟨rfl, rfl⟩
@[simp] def a_request_Write_r1 : List COper := [
  ⟨(some 5), .faddr 2 40 true, [.t 3], none⟩,
  ⟨(some 6), .faddr 4 36 true, [.t 5], none⟩,
  ⟨(some 7), .load true 36, [.t 6], none⟩,
  ⟨(some 4), .alloc (.node [.v (.int .i64 0), .v (.int .i64 0), .v (.int .i64 0), .node [.arr 1 (rep 32 (.v (.int .u8 0))), .v (.int .i64 0)]]), [], none⟩,
  ⟨none, .store true 36, [.t 4, .t 7], none⟩]
def c_request_Write_r1 : List COper := a_request_Write_r1
instance : Reg c_request_Write_r1 a_request_Write_r1 5 := ⟨rfl, rfl⟩
@[simp] def a_request_Write_r2 : List COper := [
  ⟨(some 8), .mov, [.t 0], none⟩,
  ⟨(some 9), .faddr 0 1 false, [.t 3], none⟩,
  ⟨(some 10), .load false 1, [.t 9], none⟩,
  ⟨(some 11), .faddr 1 1 false, [.t 3], none⟩,
  ⟨(some 12), .load false 1, [.t 11], none⟩,
  ⟨(some 13), .faddr 2 40 true, [.t 3], none⟩,
  ⟨(some 14), .faddr 0 1 false, [.t 13], none⟩,
  ⟨(some 15), .load false 1, [.t 14], none⟩,
  ⟨(some 16), .bslice 1 3 (.v (.int .i64 0)) [0, 1, 2], [.t 10, .t 12, .t 15], none⟩,
  ⟨(some 17), .call fn_code_Writer_Num, [.t 8, .t 16], none⟩]
def c_request_Write_r2 : List COper := a_request_Write_r2
instance : Reg c_request_Write_r2 a_request_Write_r2 10 := ⟨rfl, rfl⟩
@[simp] def a_request_Write_r3 : List COper := [
  ⟨(some 18), .mov, [.t 0], none⟩,
  ⟨(some 19), .faddr 2 40 true, [.t 3], none⟩,
  ⟨(some 20), .faddr 1 1 false, [.t 19], none⟩,
  ⟨(some 21), .load false 1, [.t 20], none⟩,
  ⟨(some 22), .faddr 2 40 true, [.t 3], none⟩,
  ⟨(some 23), .faddr 2 1 false, [.t 22], none⟩,
  ⟨(some 24), .load false 1, [.t 23], none⟩,
  ⟨(some 25), .faddr 2 40 true, [.t 3], none⟩,
  ⟨(some 26), .faddr 3 1 false, [.t 25], none⟩,
  ⟨(some 27), .load false 1, [.t 26], none⟩,
  ⟨(some 28), .bslice 1 3 (.v (.string (mkS []))) [0, 1, 2], [.t 21, .t 24, .t 27], none⟩,
  ⟨(some 29), .call fn_code_Writer_Text, [.t 18, .t 28], none⟩]
def c_request_Write_r3 : List COper := a_request_Write_r3
instance : Reg c_request_Write_r3 a_request_Write_r3 12 := ⟨rfl, rfl⟩
@[simp] def a_request_Write_r4 : List COper := [
  ⟨(some 30), .mov, [.t 0], none⟩,
  ⟨(some 31), .faddr 0 1 false, [.t 4], none⟩,
  ⟨(some 32), .load false 1, [.t 31], none⟩,
  ⟨(some 33), .faddr 1 1 false, [.t 4], none⟩,
  ⟨(some 34), .load false 1, [.t 33], none⟩,
  ⟨(some 35), .faddr 2 1 false, [.t 4], none⟩,
  ⟨(some 36), .load false 1, [.t 35], none⟩,
  ⟨(some 37), .faddr 3 33 true, [.t 4], none⟩,
  ⟨(some 38), .faddr 32 1 false, [.t 37], none⟩,
  ⟨(some 39), .load false 1, [.t 38], none⟩,
  ⟨(some 40), .bslice 1 4 (.v (.int .i64 0)) [0, 1, 2, 3], [.t 32, .t 34, .t 36, .t 39], none⟩,
  ⟨(some 41), .call fn_code_Writer_Num, [.t 30, .t 40], none⟩]
def c_request_Write_r4 : List COper := a_request_Write_r4
instance : Reg c_request_Write_r4 a_request_Write_r4 12 := ⟨rfl, rfl⟩
@[simp] def a_request_Write_r5 : List COper := [
  ⟨(some 42), .mov, [.t 0], none⟩,
  ⟨(some 43), .faddr 3 33 true, [.t 4], none⟩,
  ⟨(some 44), .faddr 0 32 true, [.t 43], none⟩,
  ⟨(some 45), .load true 32, [.t 44], none⟩,
  ⟨(some 46), .bslice 32 1 (.arr 1 (rep 32 (.v (.int .u8 0)))) [0], [.t 45], none⟩,
  ⟨(some 47), .call fn_code_Writer_Digest, [.t 42, .t 46], none⟩]
def c_request_Write_r5 : List COper := a_request_Write_r5
instance : Reg c_request_Write_r5 a_request_Write_r5 6 := ⟨rfl, rfl⟩
@[simp] def c_request_Write : CCode :=
  .seq (.region c_request_Write_r0 none [0, 3]) (.seq (.region c_request_Write_r1 none [0, 3, 4]) (.seq (.region c_request_Write_r2 none [0, 3, 4]) (.seq (.region c_request_Write_r3 none [0, 4]) (.seq (.region c_request_Write_r4 none [0, 4]) (.region c_request_Write_r5 none [])))))
@[simp] def R_request_Write : List CRes := []
theorem k_request_Write : chkFn Tryd.prog fn_request_Write c_request_Write R_request_Write 2 = true := by kernel_rfl
/-! wapentake/wapentakeref01.Digest -/
@[simp] def a_r01_Digest_r0 : List COper := [
  ⟨(some 1), .box, [.t 0], none⟩,
  ⟨(some 2), .mov, [.c (.string (mkS []))], none⟩]
def c_r01_Digest_r0 : List COper := a_r01_Digest_r0
instance : Reg c_r01_Digest_r0 a_r01_Digest_r0 2 := ⟨rfl, rfl⟩
@[simp] def a_r01_Digest_r1 : List COper := [
  ⟨(some 3), .sliceArr 32 1 false false, [.t 1], none⟩,
  ⟨(some 4), .convS, [.t 3], none⟩,
  ⟨(some 2), .mov, [.t 4], none⟩]
def c_r01_Digest_r1 : List COper := a_r01_Digest_r1
instance : Reg c_r01_Digest_r1 a_r01_Digest_r1 3 := ⟨rfl, rfl⟩
@[simp] def c_r01_Digest : CCode :=
  .seq (.region c_r01_Digest_r0 none [1]) (.seq (.region c_r01_Digest_r1 none [2]) (.ret))
@[simp] def R_r01_Digest : List CRes := [.tmp 2]
theorem k_r01_Digest : chkFn Tryd.prog fn_r01_Digest c_r01_Digest R_r01_Digest 1 = true := by kernel_rfl

end Go.Proofs.YtjlmpdbagmdbiaaDoor.WL
