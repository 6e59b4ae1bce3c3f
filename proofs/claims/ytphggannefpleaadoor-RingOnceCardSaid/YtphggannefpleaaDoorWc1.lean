/- The program's functions as abstract texts, each held against the program by the kernel. -/
import Derived.Test.YtphggannefpleaaDoorWm5
import Derived.Test.YtphggannefpleaaDoorChecked
namespace Go.Proofs.YtphggannefpleaaDoor.WL
open Go
theorem mix : Tryd.prog.follows .mixedOrders = true := by kernel_rfl
def fn_l06_RingOnce : Nat := 3
def fn_l06_RingCounts : Nat := 4
def fn_l06_RingApart : Nat := 5
def fn_l06_RingDoes : Nat := 6
def fn_l06_RingSkips : Nat := 7
def fn_l06_alive : Nat := 8
def fn_l06_great : Nat := 9
def fn_ring_New : Nat := 10
def fn_l06_key : Nat := 11
def fn_ring_Ring_Add : Nat := 12
def fn_ring_Ring_Take : Nat := 13
def fn_ring_Ring_Sign : Nat := 14
def fn_keys_Check : Nat := 15
def fn_ring_Ring_Skip : Nat := 16
def fn_ring_Ring_Retire : Nat := 17
def fn_ring_Ring_Left : Nat := 18
def fn_ring_Ring_Keys : Nat := 19
def fn_r06_Ring_Add : Nat := 20
def fn_r06_Ring_Take : Nat := 21
def fn_r06_Ring_Sign : Nat := 22
def fn_r05_Same : Nat := 23
def fn_r06_Ring_Skip : Nat := 24
def fn_r06_Ring_Retire : Nat := 25
def fn_r06_Ring_Keys : Nat := 26
def fn_r06_Ring_Left : Nat := 27
def fn_keys_New : Nat := 28
def fn_keys_Tree_Key : Nat := 29
def fn_ring_Ring_entry : Nat := 30
def fn_keys_Tree_Sign : Nat := 31
def fn_once_Of : Nat := 32
def fn_tree_Check : Nat := 33
def fn_keys_leaf : Nat := 34
def fn_maps_DeleteFunc : Nat := 35
def fn_ring_Ring_Skip_1 : Nat := 36
def fn_maps_Keys : Nat := 37
def fn_slices_SortFunc : Nat := 38
def fn_ring_Ring_Keys_1 : Nat := 39
def fn_slices_Compare : Nat := 40
def fn_r05_Key : Nat := 41
def fn_r06_Ring_Find : Nat := 42
def fn_r05_Leaves : Nat := 43
def fn_r05_Sign : Nat := 44
def fn_r04_Same : Nat := 45
def fn_r03_Same : Nat := 46
def fn_r06_Before : Nat := 47
def fn_once_Public : Nat := 48
def fn_tree_Root : Nat := 49
def fn_tree_Path : Nat := 50
def fn_once_Sign : Nat := 51
def fn_once_shut : Nat := 52
def fn_once_bit : Nat := 53
def fn_once_whole : Nat := 54
def fn_sha_Pair : Nat := 55
def fn_tree_Leaf : Nat := 56
def fn_maps_Keys_1 : Nat := 57
def fn_slices_pdqsortCmpFunc : Nat := 58
def fn_bits_Len : Nat := 59
def fn_cmp_Compare : Nat := 60
def fn_r03_Root : Nat := 61
def fn_r03_Leaf : Nat := 62
def fn_r01_Digest : Nat := 63
def fn_r04_Public : Nat := 64
def fn_r04_Sign : Nat := 65
def fn_r03_Path : Nat := 66
def fn_once_secret : Nat := 67
def fn_sha_Of : Nat := 68
def fn_tree_up : Nat := 69
def fn_code_Writer_Digest : Nat := 70
def fn_code_Writer_Bytes : Nat := 71
def fn_slices_insertionSortCmpFunc : Nat := 72
def fn_slices_heapSortCmpFunc : Nat := 73
def fn_slices_breakPatternsCmpFunc : Nat := 74
def fn_slices_choosePivotCmpFunc : Nat := 75
def fn_slices_reverseRangeCmpFunc : Nat := 76
def fn_slices_partialInsertionSortCmpFunc : Nat := 77
def fn_slices_partitionEqualCmpFunc : Nat := 78
def fn_slices_partitionCmpFunc : Nat := 79
def fn_bits_Len32 : Nat := 80
def fn_bits_Len64 : Nat := 81
def fn_cmp_isNaN : Nat := 82
def fn_r02_Text : Nat := 83
def fn_r03_Above : Nat := 84
def fn_r04_Shut : Nat := 85
def fn_r04_Secret : Nat := 86
def fn_r04_Bit : Nat := 87
def fn_sha_state_block : Nat := 88
def fn_slices_siftDownCmpFunc : Nat := 89
def fn_slices_nextPowerOfTwo : Nat := 90
def fn_slices_xorshift_Next : Nat := 91
def fn_slices_medianAdjacentCmpFunc : Nat := 92
def fn_slices_medianCmpFunc : Nat := 93
def fn_r02_Of : Nat := 94
def fn_r03_Pair : Nat := 95
def fn_r01_Num : Nat := 96
def fn_sha_word : Nat := 97
def fn_bits_RotateLeft32 : Nat := 98
def fn_slices_order2CmpFunc : Nat := 99
def fn_r02_Padded : Nat := 100
def fn_r02_Numbers : Nat := 101
def fn_r02_Next : Nat := 102
def fn_r02_turn : Nat := 103
def fn_r02_three : Nat := 104
/-! wapentake/wapentakelaw06.RingOnce -/
@[simp] def a_l06_RingOnce_r0 : List COper := [
  ⟨(some 2), .mov, [.c (.bool false)], none⟩]
def c_l06_RingOnce_r0 : List COper := a_l06_RingOnce_r0
instance : Reg c_l06_RingOnce_r0 a_l06_RingOnce_r0 1 := ⟨rfl, rfl⟩
@[simp] def a_l06_RingOnce_r1 : List COper := [
  ⟨(some 19), .call fn_l06_alive, [], none⟩,
  ⟨(some 20), .not, [.t 19], none⟩]
def c_l06_RingOnce_r1 : List COper := a_l06_RingOnce_r1
instance : Reg c_l06_RingOnce_r1 a_l06_RingOnce_r1 2 := ⟨rfl, rfl⟩
@[simp] def a_l06_RingOnce_r2 : List COper := [
  ⟨(some 2), .mov, [.c (.bool false)], none⟩]
def c_l06_RingOnce_r2 : List COper := a_l06_RingOnce_r2
instance : Reg c_l06_RingOnce_r2 a_l06_RingOnce_r2 1 := ⟨rfl, rfl⟩
@[simp] def a_l06_RingOnce_r3 : List COper := [
  ⟨(some 21), .mov, [.t 0], none⟩,
  ⟨(some 22), .call fn_l06_great, [.t 21], none⟩]
def c_l06_RingOnce_r3 : List COper := a_l06_RingOnce_r3
instance : Reg c_l06_RingOnce_r3 a_l06_RingOnce_r3 2 := ⟨rfl, rfl⟩
@[simp] def a_l06_RingOnce_r4 : List COper := [
  ⟨(some 2), .mov, [.c (.bool true)], none⟩]
def c_l06_RingOnce_r4 : List COper := a_l06_RingOnce_r4
instance : Reg c_l06_RingOnce_r4 a_l06_RingOnce_r4 1 := ⟨rfl, rfl⟩
@[simp] def a_l06_RingOnce_r5 : List COper := [
  ⟨(some 23), .call fn_ring_New, [], none⟩,
  ⟨(some 3), .mov, [.t 23], none⟩]
def c_l06_RingOnce_r5 : List COper := a_l06_RingOnce_r5
instance : Reg c_l06_RingOnce_r5 a_l06_RingOnce_r5 2 := ⟨rfl, rfl⟩
@[simp] def a_l06_RingOnce_r6 : List COper := [
  ⟨(some 4), .mov, [.c (.slice none 0 0)], none⟩]
def c_l06_RingOnce_r6 : List COper := a_l06_RingOnce_r6
instance : Reg c_l06_RingOnce_r6 a_l06_RingOnce_r6 1 := ⟨rfl, rfl⟩
@[simp] def a_l06_RingOnce_r7 : List COper := [
  ⟨(some 24), .mk 1 24 (.v (.slice none 0 0)), [.c (.int .i64 40), .c (.int .i64 40)], none⟩,
  ⟨(some 5), .mov, [.t 24], none⟩]
def c_l06_RingOnce_r7 : List COper := a_l06_RingOnce_r7
instance : Reg c_l06_RingOnce_r7 a_l06_RingOnce_r7 2 := ⟨rfl, rfl⟩
@[simp] def a_l06_RingOnce_r8 : List COper := [
  ⟨(some 25), .mov, [.t 0], none⟩,
  ⟨(some 26), .len, [.t 25], none⟩,
  ⟨(some 27), .mov, [.c (.int .i64 0)], none⟩]
def c_l06_RingOnce_r8 : List COper := a_l06_RingOnce_r8
instance : Reg c_l06_RingOnce_r8 a_l06_RingOnce_r8 3 := ⟨rfl, rfl⟩
@[simp] def a_l06_RingOnce_r9 : List COper := [
  ⟨(some 28), .bin .lss, [.t 27, .t 26], none⟩]
def c_l06_RingOnce_r9 : List COper := a_l06_RingOnce_r9
instance : Reg c_l06_RingOnce_r9 a_l06_RingOnce_r9 1 := ⟨rfl, rfl⟩
@[simp] def a_l06_RingOnce_r10 : List COper := [
  ⟨(some 29), .iaddr 36, [.t 25, .t 27], none⟩,
  ⟨(some 30), .load true 36, [.t 29], none⟩,
  ⟨(some 7), .alloc (.node [.v (.int .i64 0), .v (.int .u8 0), .v (.int .i64 0), .v (.int .i64 0), .arr 1 (rep 32 (.v (.int .u8 0)))]), [], none⟩,
  ⟨none, .store true 36, [.t 7, .t 30], none⟩]
def c_l06_RingOnce_r10 : List COper := a_l06_RingOnce_r10
instance : Reg c_l06_RingOnce_r10 a_l06_RingOnce_r10 4 := ⟨rfl, rfl⟩
@[simp] def a_l06_RingOnce_r11 : List COper := [
  ⟨(some 31), .mov, [.t 4], none⟩,
  ⟨(some 32), .faddr 2 1 false, [.t 7], none⟩,
  ⟨(some 33), .load false 1, [.t 32], none⟩,
  ⟨(some 34), .call fn_l06_key, [.t 31, .t 33], none⟩,
  ⟨(some 8), .alloc (.node [.arr 1 (rep 32 (.v (.int .u8 0))), .v (.int .i64 0)]), [], none⟩,
  ⟨none, .store true 33, [.t 8, .t 34], none⟩]
def c_l06_RingOnce_r11 : List COper := a_l06_RingOnce_r11
instance : Reg c_l06_RingOnce_r11 a_l06_RingOnce_r11 6 := ⟨rfl, rfl⟩
@[simp] def a_l06_RingOnce_r12 : List COper := [
  ⟨(some 35), .faddr 0 1 false, [.t 7], none⟩,
  ⟨(some 36), .load false 1, [.t 35], none⟩]
def c_l06_RingOnce_r12 : List COper := a_l06_RingOnce_r12
instance : Reg c_l06_RingOnce_r12 a_l06_RingOnce_r12 2 := ⟨rfl, rfl⟩
@[simp] def a_l06_RingOnce_r13 : List COper := [
  ⟨(some 38), .bin .eql, [.t 36, .c (.int .i64 0)], none⟩,
  ⟨(some 37), .mov, [.t 38], none⟩]
def c_l06_RingOnce_r13 : List COper := a_l06_RingOnce_r13
instance : Reg c_l06_RingOnce_r13 a_l06_RingOnce_r13 2 := ⟨rfl, rfl⟩
@[simp] def a_l06_RingOnce_r14 : List COper := [
  ⟨(some 40), .mov, [.t 3], none⟩,
  ⟨(some 41), .faddr 1 1 false, [.t 7], none⟩,
  ⟨(some 42), .load false 1, [.t 41], none⟩,
  ⟨(some 43), .buildA 1 (rep 32 (.v (.int .u8 0))) [0], [.t 42], none⟩,
  ⟨(some 44), .faddr 3 1 false, [.t 7], none⟩,
  ⟨(some 45), .load false 1, [.t 44], none⟩,
  ⟨(some 46), .call fn_ring_Ring_Add, [.t 40, .t 43, .t 45], none⟩,
  ⟨(some 39), .mov, [.t 46], none⟩,
  ⟨(some 47), .ext 0, [.t 39], none⟩,
  ⟨(some 48), .ext 1, [.t 39], none⟩,
  ⟨(some 9), .alloc (.node [.arr 1 (rep 32 (.v (.int .u8 0))), .v (.int .i64 0)]), [], none⟩,
  ⟨none, .store true 33, [.t 9, .t 47], none⟩,
  ⟨(some 10), .mov, [.t 48], none⟩]
def c_l06_RingOnce_r14 : List COper := a_l06_RingOnce_r14
instance : Reg c_l06_RingOnce_r14 a_l06_RingOnce_r14 13 := ⟨rfl, rfl⟩
@[simp] def a_l06_RingOnce_r15 : List COper := [
  ⟨(some 49), .mov, [.t 10], none⟩,
  ⟨(some 50), .bin .eql, [.t 49, .c (.int .i64 0)], none⟩]
def c_l06_RingOnce_r15 : List COper := a_l06_RingOnce_r15
instance : Reg c_l06_RingOnce_r15 a_l06_RingOnce_r15 2 := ⟨rfl, rfl⟩
@[simp] def a_l06_RingOnce_r16 : List COper := [
  ⟨(some 51), .mov, [.t 4], none⟩,
  ⟨(some 52), .load true 33, [.t 9], none⟩,
  ⟨(some 53), .bslice 33 1 (.node [.arr 1 (rep 32 (.v (.int .u8 0))), .v (.int .i64 0)]) [0], [.t 52], none⟩,
  ⟨(some 54), .app 33 40, [.t 51, .t 53], none⟩,
  ⟨(some 4), .mov, [.t 54], none⟩]
def c_l06_RingOnce_r16 : List COper := a_l06_RingOnce_r16
instance : Reg c_l06_RingOnce_r16 a_l06_RingOnce_r16 5 := ⟨rfl, rfl⟩
@[simp] def a_l06_RingOnce_r17 : List COper := [
  ⟨(some 56), .bin .eql, [.t 36, .c (.int .i64 1)], none⟩,
  ⟨(some 55), .mov, [.t 56], none⟩]
def c_l06_RingOnce_r17 : List COper := a_l06_RingOnce_r17
instance : Reg c_l06_RingOnce_r17 a_l06_RingOnce_r17 2 := ⟨rfl, rfl⟩
@[simp] def a_l06_RingOnce_r18 : List COper := [
  ⟨(some 57), .mov, [.t 3], none⟩,
  ⟨(some 58), .load true 33, [.t 8], none⟩,
  ⟨(some 59), .call fn_ring_Ring_Take, [.t 57, .t 58], none⟩]
def c_l06_RingOnce_r18 : List COper := a_l06_RingOnce_r18
instance : Reg c_l06_RingOnce_r18 a_l06_RingOnce_r18 3 := ⟨rfl, rfl⟩
@[simp] def a_l06_RingOnce_r19 : List COper := [
  ⟨(some 61), .bin .eql, [.t 36, .c (.int .i64 2)], none⟩,
  ⟨(some 60), .mov, [.t 61], none⟩]
def c_l06_RingOnce_r19 : List COper := a_l06_RingOnce_r19
instance : Reg c_l06_RingOnce_r19 a_l06_RingOnce_r19 2 := ⟨rfl, rfl⟩
@[simp] def a_l06_RingOnce_r20 : List COper := [
  ⟨(some 63), .mov, [.t 3], none⟩,
  ⟨(some 64), .load true 33, [.t 8], none⟩,
  ⟨(some 65), .faddr 3 1 false, [.t 7], none⟩,
  ⟨(some 66), .load false 1, [.t 65], none⟩,
  ⟨(some 67), .faddr 4 32 true, [.t 7], none⟩,
  ⟨(some 68), .load true 32, [.t 67], none⟩,
  ⟨(some 69), .call fn_ring_Ring_Sign, [.t 63, .t 64, .t 66, .t 68], none⟩,
  ⟨(some 62), .mov, [.t 69], none⟩,
  ⟨(some 70), .ext 0, [.t 62], none⟩,
  ⟨(some 71), .ext 1, [.t 62], none⟩,
  ⟨(some 11), .alloc (.node [.v (.int .i64 0), .node [.v (.slice none 0 0), .v (.slice none 0 0)], .v (.slice none 0 0)]), [], none⟩,
  ⟨none, .store true 4, [.t 11, .t 70], none⟩,
  ⟨(some 12), .mov, [.t 71], none⟩]
def c_l06_RingOnce_r20 : List COper := a_l06_RingOnce_r20
instance : Reg c_l06_RingOnce_r20 a_l06_RingOnce_r20 13 := ⟨rfl, rfl⟩
@[simp] def a_l06_RingOnce_r21 : List COper := [
  ⟨(some 72), .mov, [.t 12], none⟩,
  ⟨(some 73), .bin .neq, [.t 72, .c (.int .i64 0)], none⟩]
def c_l06_RingOnce_r21 : List COper := a_l06_RingOnce_r21
instance : Reg c_l06_RingOnce_r21 a_l06_RingOnce_r21 2 := ⟨rfl, rfl⟩
@[simp] def a_l06_RingOnce_r22 : List COper := [
  ⟨(some 74), .load true 33, [.t 8], none⟩,
  ⟨(some 75), .faddr 4 32 true, [.t 7], none⟩,
  ⟨(some 76), .load true 32, [.t 75], none⟩,
  ⟨(some 77), .load true 4, [.t 11], none⟩,
  ⟨(some 78), .call fn_keys_Check, [.t 74, .t 76, .t 77], none⟩,
  ⟨(some 79), .not, [.t 78], none⟩,
  ⟨(some 80), .mov, [.t 79], none⟩,
  ⟨(some 81), .faddr 0 1 false, [.t 11], (some (80, false))⟩,
  ⟨(some 82), .load false 1, [.t 81], (some (80, false))⟩,
  ⟨(some 83), .faddr 3 1 false, [.t 7], (some (80, false))⟩,
  ⟨(some 84), .load false 1, [.t 83], (some (80, false))⟩,
  ⟨(some 85), .bin .neq, [.t 82, .t 84], (some (80, false))⟩,
  ⟨(some 86), .pick, [.t 80, .c (.bool true), .t 85], none⟩]
def c_l06_RingOnce_r22 : List COper := a_l06_RingOnce_r22
instance : Reg c_l06_RingOnce_r22 a_l06_RingOnce_r22 13 := ⟨rfl, rfl⟩
@[simp] def a_l06_RingOnce_r23 : List COper := [
  ⟨(some 2), .mov, [.c (.bool false)], none⟩]
def c_l06_RingOnce_r23 : List COper := a_l06_RingOnce_r23
instance : Reg c_l06_RingOnce_r23 a_l06_RingOnce_r23 1 := ⟨rfl, rfl⟩
@[simp] def a_l06_RingOnce_r24 : List COper := [
  ⟨(some 87), .mov, [.t 4], none⟩,
  ⟨(some 88), .len, [.t 87], none⟩,
  ⟨(some 89), .mov, [.c (.int .i64 0)], none⟩]
def c_l06_RingOnce_r24 : List COper := a_l06_RingOnce_r24
instance : Reg c_l06_RingOnce_r24 a_l06_RingOnce_r24 3 := ⟨rfl, rfl⟩
@[simp] def a_l06_RingOnce_r25 : List COper := [
  ⟨(some 90), .bin .lss, [.t 89, .t 88], none⟩]
def c_l06_RingOnce_r25 : List COper := a_l06_RingOnce_r25
instance : Reg c_l06_RingOnce_r25 a_l06_RingOnce_r25 1 := ⟨rfl, rfl⟩
@[simp] def a_l06_RingOnce_r26 : List COper := [
  ⟨(some 91), .mov, [.t 89], none⟩,
  ⟨(some 92), .iaddr 33, [.t 87, .t 89], none⟩,
  ⟨(some 93), .load true 33, [.t 92], none⟩,
  ⟨(some 14), .alloc (.node [.arr 1 (rep 32 (.v (.int .u8 0))), .v (.int .i64 0)]), [], none⟩,
  ⟨(some 13), .mov, [.t 91], none⟩,
  ⟨none, .store true 33, [.t 14, .t 93], none⟩]
def c_l06_RingOnce_r26 : List COper := a_l06_RingOnce_r26
instance : Reg c_l06_RingOnce_r26 a_l06_RingOnce_r26 6 := ⟨rfl, rfl⟩
@[simp] def a_l06_RingOnce_r27 : List COper := [
  ⟨(some 94), .load true 33, [.t 14], none⟩,
  ⟨(some 95), .load true 33, [.t 8], none⟩,
  ⟨(some 96), .eqs true (.st [.ints .u8 32, .int .i64]), [.t 94, .t 95], none⟩]
def c_l06_RingOnce_r27 : List COper := a_l06_RingOnce_r27
instance : Reg c_l06_RingOnce_r27 a_l06_RingOnce_r27 3 := ⟨rfl, rfl⟩
@[simp] def a_l06_RingOnce_r28 : List COper := [
  ⟨(some 97), .mov, [.t 5], none⟩,
  ⟨(some 98), .mov, [.t 13], none⟩,
  ⟨(some 99), .iaddr 1, [.t 97, .t 98], none⟩,
  ⟨(some 100), .load false 1, [.t 99], none⟩,
  ⟨(some 101), .len, [.t 100], none⟩,
  ⟨(some 102), .mov, [.c (.int .i64 0)], none⟩]
def c_l06_RingOnce_r28 : List COper := a_l06_RingOnce_r28
instance : Reg c_l06_RingOnce_r28 a_l06_RingOnce_r28 6 := ⟨rfl, rfl⟩
@[simp] def a_l06_RingOnce_r29 : List COper := [
  ⟨(some 103), .bin .lss, [.t 102, .t 101], none⟩]
def c_l06_RingOnce_r29 : List COper := a_l06_RingOnce_r29
instance : Reg c_l06_RingOnce_r29 a_l06_RingOnce_r29 1 := ⟨rfl, rfl⟩
@[simp] def a_l06_RingOnce_r30 : List COper := [
  ⟨(some 104), .iaddr 1, [.t 100, .t 102], none⟩,
  ⟨(some 105), .load false 1, [.t 104], none⟩,
  ⟨(some 16), .mov, [.t 105], none⟩]
def c_l06_RingOnce_r30 : List COper := a_l06_RingOnce_r30
instance : Reg c_l06_RingOnce_r30 a_l06_RingOnce_r30 3 := ⟨rfl, rfl⟩
@[simp] def a_l06_RingOnce_r31 : List COper := [
  ⟨(some 106), .mov, [.t 16], none⟩,
  ⟨(some 107), .faddr 0 1 false, [.t 11], none⟩,
  ⟨(some 108), .load false 1, [.t 107], none⟩,
  ⟨(some 109), .bin .eql, [.t 106, .t 108], none⟩]
def c_l06_RingOnce_r31 : List COper := a_l06_RingOnce_r31
instance : Reg c_l06_RingOnce_r31 a_l06_RingOnce_r31 4 := ⟨rfl, rfl⟩
@[simp] def a_l06_RingOnce_r32 : List COper := [
  ⟨(some 2), .mov, [.c (.bool false)], none⟩]
def c_l06_RingOnce_r32 : List COper := a_l06_RingOnce_r32
instance : Reg c_l06_RingOnce_r32 a_l06_RingOnce_r32 1 := ⟨rfl, rfl⟩
@[simp] def a_l06_RingOnce_r33 : List COper := [
  ⟨(some 110), .bin .add, [.t 102, .c (.int .i64 1)], none⟩,
  ⟨(some 102), .mov, [.t 110], none⟩]
def c_l06_RingOnce_r33 : List COper := a_l06_RingOnce_r33
instance : Reg c_l06_RingOnce_r33 a_l06_RingOnce_r33 2 := ⟨rfl, rfl⟩
@[simp] def a_l06_RingOnce_r34 : List COper := [
  ⟨(some 111), .mov, [.t 5], none⟩,
  ⟨(some 112), .mov, [.t 13], none⟩,
  ⟨(some 113), .mov, [.t 5], none⟩,
  ⟨(some 114), .mov, [.t 13], none⟩,
  ⟨(some 115), .iaddr 1, [.t 113, .t 114], none⟩,
  ⟨(some 116), .load false 1, [.t 115], none⟩,
  ⟨(some 117), .faddr 0 1 false, [.t 11], none⟩,
  ⟨(some 118), .load false 1, [.t 117], none⟩,
  ⟨(some 119), .bslice 1 1 (.v (.int .i64 0)) [0], [.t 118], none⟩,
  ⟨(some 120), .app 1 8, [.t 116, .t 119], none⟩,
  ⟨(some 121), .iaddr 1, [.t 111, .t 112], none⟩,
  ⟨none, .store false 1, [.t 121, .t 120], none⟩]
def c_l06_RingOnce_r34 : List COper := a_l06_RingOnce_r34
instance : Reg c_l06_RingOnce_r34 a_l06_RingOnce_r34 12 := ⟨rfl, rfl⟩
@[simp] def a_l06_RingOnce_r35 : List COper := [
  ⟨(some 122), .bin .add, [.t 89, .c (.int .i64 1)], none⟩,
  ⟨(some 89), .mov, [.t 122], none⟩]
def c_l06_RingOnce_r35 : List COper := a_l06_RingOnce_r35
instance : Reg c_l06_RingOnce_r35 a_l06_RingOnce_r35 2 := ⟨rfl, rfl⟩
@[simp] def a_l06_RingOnce_r36 : List COper := [
  ⟨(some 124), .bin .eql, [.t 36, .c (.int .i64 3)], none⟩,
  ⟨(some 123), .mov, [.t 124], none⟩]
def c_l06_RingOnce_r36 : List COper := a_l06_RingOnce_r36
instance : Reg c_l06_RingOnce_r36 a_l06_RingOnce_r36 2 := ⟨rfl, rfl⟩
@[simp] def a_l06_RingOnce_r37 : List COper := [
  ⟨(some 125), .mov, [.t 3], none⟩,
  ⟨(some 126), .load true 33, [.t 8], none⟩,
  ⟨(some 127), .faddr 3 1 false, [.t 7], none⟩,
  ⟨(some 128), .load false 1, [.t 127], none⟩,
  ⟨(some 129), .call fn_ring_Ring_Skip, [.t 125, .t 126, .t 128], none⟩]
def c_l06_RingOnce_r37 : List COper := a_l06_RingOnce_r37
instance : Reg c_l06_RingOnce_r37 a_l06_RingOnce_r37 5 := ⟨rfl, rfl⟩
@[simp] def a_l06_RingOnce_r38 : List COper := [
  ⟨(some 131), .bin .eql, [.t 36, .c (.int .i64 4)], none⟩,
  ⟨(some 130), .mov, [.t 131], none⟩]
def c_l06_RingOnce_r38 : List COper := a_l06_RingOnce_r38
instance : Reg c_l06_RingOnce_r38 a_l06_RingOnce_r38 2 := ⟨rfl, rfl⟩
@[simp] def a_l06_RingOnce_r39 : List COper := [
  ⟨(some 132), .mov, [.t 3], none⟩,
  ⟨(some 133), .load true 33, [.t 8], none⟩,
  ⟨(some 134), .call fn_ring_Ring_Retire, [.t 132, .t 133], none⟩,
  ⟨(some 135), .bin .eql, [.t 134, .c (.int .i64 0)], none⟩]
def c_l06_RingOnce_r39 : List COper := a_l06_RingOnce_r39
instance : Reg c_l06_RingOnce_r39 a_l06_RingOnce_r39 4 := ⟨rfl, rfl⟩
@[simp] def a_l06_RingOnce_r40 : List COper := [
  ⟨(some 136), .mov, [.t 4], none⟩,
  ⟨(some 137), .len, [.t 136], none⟩,
  ⟨(some 138), .mov, [.c (.int .i64 0)], none⟩]
def c_l06_RingOnce_r40 : List COper := a_l06_RingOnce_r40
instance : Reg c_l06_RingOnce_r40 a_l06_RingOnce_r40 3 := ⟨rfl, rfl⟩
@[simp] def a_l06_RingOnce_r41 : List COper := [
  ⟨(some 139), .bin .lss, [.t 138, .t 137], none⟩]
def c_l06_RingOnce_r41 : List COper := a_l06_RingOnce_r41
instance : Reg c_l06_RingOnce_r41 a_l06_RingOnce_r41 1 := ⟨rfl, rfl⟩
@[simp] def a_l06_RingOnce_r42 : List COper := [
  ⟨(some 140), .mov, [.t 138], none⟩,
  ⟨(some 141), .iaddr 33, [.t 136, .t 138], none⟩,
  ⟨(some 142), .load true 33, [.t 141], none⟩,
  ⟨(some 18), .alloc (.node [.arr 1 (rep 32 (.v (.int .u8 0))), .v (.int .i64 0)]), [], none⟩,
  ⟨(some 17), .mov, [.t 140], none⟩,
  ⟨none, .store true 33, [.t 18, .t 142], none⟩]
def c_l06_RingOnce_r42 : List COper := a_l06_RingOnce_r42
instance : Reg c_l06_RingOnce_r42 a_l06_RingOnce_r42 6 := ⟨rfl, rfl⟩
@[simp] def a_l06_RingOnce_r43 : List COper := [
  ⟨(some 143), .load true 33, [.t 18], none⟩,
  ⟨(some 144), .load true 33, [.t 8], none⟩,
  ⟨(some 145), .eqs false (.st [.ints .u8 32, .int .i64]), [.t 143, .t 144], none⟩]
def c_l06_RingOnce_r43 : List COper := a_l06_RingOnce_r43
instance : Reg c_l06_RingOnce_r43 a_l06_RingOnce_r43 3 := ⟨rfl, rfl⟩
@[simp] def a_l06_RingOnce_r44 : List COper := [
  ⟨(some 146), .mov, [.t 5], none⟩,
  ⟨(some 147), .mov, [.t 17], none⟩,
  ⟨(some 148), .iaddr 1, [.t 146, .t 147], none⟩,
  ⟨none, .store false 1, [.t 148, .c (.slice none 0 0)], none⟩]
def c_l06_RingOnce_r44 : List COper := a_l06_RingOnce_r44
instance : Reg c_l06_RingOnce_r44 a_l06_RingOnce_r44 4 := ⟨rfl, rfl⟩
@[simp] def a_l06_RingOnce_r45 : List COper := [
  ⟨(some 149), .bin .add, [.t 138, .c (.int .i64 1)], none⟩,
  ⟨(some 138), .mov, [.t 149], none⟩]
def c_l06_RingOnce_r45 : List COper := a_l06_RingOnce_r45
instance : Reg c_l06_RingOnce_r45 a_l06_RingOnce_r45 2 := ⟨rfl, rfl⟩
@[simp] def a_l06_RingOnce_r46 : List COper := [
  ⟨(some 150), .bin .add, [.t 27, .c (.int .i64 1)], none⟩,
  ⟨(some 27), .mov, [.t 150], none⟩]
def c_l06_RingOnce_r46 : List COper := a_l06_RingOnce_r46
instance : Reg c_l06_RingOnce_r46 a_l06_RingOnce_r46 2 := ⟨rfl, rfl⟩
@[simp] def a_l06_RingOnce_r47 : List COper := [
  ⟨(some 2), .mov, [.c (.bool true)], none⟩]
def c_l06_RingOnce_r47 : List COper := a_l06_RingOnce_r47
instance : Reg c_l06_RingOnce_r47 a_l06_RingOnce_r47 1 := ⟨rfl, rfl⟩
@[simp] def c_l06_RingOnce : CCode :=
  .seq (.region c_l06_RingOnce_r0 none [0]) (.seq (.seq (.region c_l06_RingOnce_r1 none [0, 20]) (.cond (.t 20) (.seq (.region c_l06_RingOnce_r2 none [2]) (.ret)) (.skip))) (.seq (.seq (.region c_l06_RingOnce_r3 none [0, 22]) (.cond (.t 22) (.seq (.region c_l06_RingOnce_r4 none [2]) (.ret)) (.skip))) (.seq (.region c_l06_RingOnce_r5 none [0, 3]) (.seq (.region c_l06_RingOnce_r6 none [0, 3, 4]) (.seq (.region c_l06_RingOnce_r7 none [0, 3, 4, 5]) (.seq (.seq (.region c_l06_RingOnce_r8 none [3, 4, 5, 25, 26, 27]) (.block 0 (.loop (.seq (.region c_l06_RingOnce_r9 none [3, 4, 5, 25, 26, 27, 28]) (.seq (.cond (.t 28) (.skip) (.exit 0)) (.seq (.block 1 (.seq (.region c_l06_RingOnce_r10 none [3, 4, 5, 7, 25, 26, 27]) (.seq (.region c_l06_RingOnce_r11 none [3, 4, 5, 7, 8, 25, 26, 27]) (.seq (.region c_l06_RingOnce_r12 none [3, 4, 5, 7, 8, 25, 26, 27, 36]) (.block 2 (.seq (.region c_l06_RingOnce_r13 none [3, 4, 5, 7, 8, 25, 26, 27, 36, 37]) (.cond (.t 37) (.seq (.region c_l06_RingOnce_r14 none [3, 4, 5, 9, 10, 25, 26, 27]) (.seq (.region c_l06_RingOnce_r15 none [3, 4, 5, 9, 25, 26, 27, 50]) (.cond (.t 50) (.region c_l06_RingOnce_r16 none [3, 4, 5, 25, 26, 27]) (.skip)))) (.seq (.region c_l06_RingOnce_r17 none [3, 4, 5, 7, 8, 25, 26, 27, 36, 55]) (.cond (.t 55) (.region c_l06_RingOnce_r18 none [3, 4, 5, 25, 26, 27]) (.seq (.region c_l06_RingOnce_r19 none [3, 4, 5, 7, 8, 25, 26, 27, 36, 60]) (.cond (.t 60) (.seq (.region c_l06_RingOnce_r20 none [3, 4, 5, 7, 8, 11, 12, 25, 26, 27]) (.seq (.seq (.region c_l06_RingOnce_r21 none [3, 4, 5, 7, 8, 11, 25, 26, 27, 73]) (.cond (.t 73) (.exit 1) (.skip))) (.seq (.seq (.region c_l06_RingOnce_r22 none [3, 4, 5, 8, 11, 25, 26, 27, 86]) (.cond (.t 86) (.seq (.region c_l06_RingOnce_r23 none [2]) (.ret)) (.skip))) (.seq (.region c_l06_RingOnce_r24 none [3, 4, 5, 8, 11, 25, 26, 27, 87, 88, 89]) (.block 3 (.loop (.seq (.region c_l06_RingOnce_r25 none [3, 4, 5, 8, 11, 25, 26, 27, 87, 88, 89, 90]) (.seq (.cond (.t 90) (.skip) (.exit 3)) (.seq (.block 4 (.seq (.region c_l06_RingOnce_r26 none [3, 4, 5, 8, 11, 13, 14, 25, 26, 27, 87, 88, 89]) (.seq (.seq (.region c_l06_RingOnce_r27 none [3, 4, 5, 8, 11, 13, 25, 26, 27, 87, 88, 89, 96]) (.cond (.t 96) (.exit 4) (.skip))) (.seq (.seq (.region c_l06_RingOnce_r28 none [3, 4, 5, 8, 11, 13, 25, 26, 27, 87, 88, 89, 100, 101, 102]) (.block 5 (.loop (.seq (.region c_l06_RingOnce_r29 none [3, 4, 5, 8, 11, 13, 25, 26, 27, 87, 88, 89, 100, 101, 102, 103]) (.seq (.cond (.t 103) (.skip) (.exit 5)) (.seq (.block 6 (.seq (.region c_l06_RingOnce_r30 none [3, 4, 5, 8, 11, 13, 16, 25, 26, 27, 87, 88, 89, 100, 101, 102]) (.seq (.region c_l06_RingOnce_r31 none [3, 4, 5, 8, 11, 13, 25, 26, 27, 87, 88, 89, 100, 101, 102, 109]) (.cond (.t 109) (.seq (.region c_l06_RingOnce_r32 none [2]) (.ret)) (.skip))))) (.region c_l06_RingOnce_r33 none [3, 4, 5, 8, 11, 13, 25, 26, 27, 87, 88, 89, 100, 101, 102]))))))) (.region c_l06_RingOnce_r34 (some ([0, 0, 0, 0, 12, 28, 0, 64, 192, 508, 1023, 2047], [(5, 8)])) [3, 4, 5, 8, 11, 25, 26, 27, 87, 88, 89]))))) (.region c_l06_RingOnce_r35 none [3, 4, 5, 8, 11, 25, 26, 27, 87, 88, 89])))))))))) (.seq (.region c_l06_RingOnce_r36 none [3, 4, 5, 7, 8, 25, 26, 27, 36, 123]) (.cond (.t 123) (.region c_l06_RingOnce_r37 none [3, 4, 5, 25, 26, 27]) (.seq (.region c_l06_RingOnce_r38 none [3, 4, 5, 8, 25, 26, 27, 130]) (.cond (.t 130) (.seq (.region c_l06_RingOnce_r39 none [3, 4, 5, 8, 25, 26, 27, 135]) (.cond (.t 135) (.seq (.region c_l06_RingOnce_r40 none [3, 4, 5, 8, 25, 26, 27, 136, 137, 138]) (.block 7 (.loop (.seq (.region c_l06_RingOnce_r41 none [3, 4, 5, 8, 25, 26, 27, 136, 137, 138, 139]) (.seq (.cond (.t 139) (.skip) (.exit 7)) (.seq (.block 8 (.seq (.region c_l06_RingOnce_r42 none [3, 4, 5, 8, 17, 18, 25, 26, 27, 136, 137, 138]) (.seq (.region c_l06_RingOnce_r43 none [3, 4, 5, 8, 17, 25, 26, 27, 136, 137, 138, 145]) (.cond (.t 145) (.region c_l06_RingOnce_r44 none [3, 4, 5, 8, 25, 26, 27, 136, 137, 138]) (.skip))))) (.region c_l06_RingOnce_r45 none [3, 4, 5, 8, 25, 26, 27, 136, 137, 138]))))))) (.skip))) (.skip)))))))))))))))) (.region c_l06_RingOnce_r46 none [3, 4, 5, 25, 26, 27]))))))) (.seq (.region c_l06_RingOnce_r47 none [2]) (.ret))))))))
@[simp] def R_l06_RingOnce : List CRes := [.tmp 2]
theorem k_l06_RingOnce : chkFn Tryd.prog fn_l06_RingOnce c_l06_RingOnce R_l06_RingOnce 1 = true := by kernel_rfl
/-! wapentake/wapentakelaw06.alive -/
@[simp] def a_l06_alive_r0 : List COper := [
  ⟨(some 0), .mov, [.c (.bool false)], none⟩]
def c_l06_alive_r0 : List COper := a_l06_alive_r0
instance : Reg c_l06_alive_r0 a_l06_alive_r0 1 := ⟨rfl, rfl⟩
@[simp] def a_l06_alive_r1 : List COper := [
  ⟨(some 12), .call fn_ring_New, [], none⟩,
  ⟨(some 1), .mov, [.t 12], none⟩]
def c_l06_alive_r1 : List COper := a_l06_alive_r1
instance : Reg c_l06_alive_r1 a_l06_alive_r1 2 := ⟨rfl, rfl⟩
@[simp] def a_l06_alive_r2 : List COper := [
  ⟨(some 14), .mov, [.t 1], none⟩,
  ⟨(some 15), .buildA 1 (rep 32 (.v (.int .u8 0))) [0], [.c (.int .u8 1)], none⟩,
  ⟨(some 16), .call fn_ring_Ring_Add, [.t 14, .t 15, .c (.int .i64 0)], none⟩,
  ⟨(some 13), .mov, [.t 16], none⟩,
  ⟨(some 17), .ext 0, [.t 13], none⟩,
  ⟨(some 18), .ext 1, [.t 13], none⟩,
  ⟨(some 2), .alloc (.node [.arr 1 (rep 32 (.v (.int .u8 0))), .v (.int .i64 0)]), [], none⟩,
  ⟨none, .store true 33, [.t 2, .t 17], none⟩,
  ⟨(some 3), .mov, [.t 18], none⟩]
def c_l06_alive_r2 : List COper := a_l06_alive_r2
instance : Reg c_l06_alive_r2 a_l06_alive_r2 9 := ⟨rfl, rfl⟩
@[simp] def a_l06_alive_r3 : List COper := [
  ⟨(some 19), .mov, [.t 3], none⟩,
  ⟨(some 20), .bin .neq, [.t 19, .c (.int .i64 0)], none⟩]
def c_l06_alive_r3 : List COper := a_l06_alive_r3
instance : Reg c_l06_alive_r3 a_l06_alive_r3 2 := ⟨rfl, rfl⟩
@[simp] def a_l06_alive_r4 : List COper := [
  ⟨(some 0), .mov, [.c (.bool false)], none⟩]
def c_l06_alive_r4 : List COper := a_l06_alive_r4
instance : Reg c_l06_alive_r4 a_l06_alive_r4 1 := ⟨rfl, rfl⟩
@[simp] def a_l06_alive_r5 : List COper := [
  ⟨(some 22), .mov, [.t 1], none⟩,
  ⟨(some 23), .load true 33, [.t 2], none⟩,
  ⟨(some 24), .call fn_ring_Ring_Take, [.t 22, .t 23], none⟩,
  ⟨(some 21), .mov, [.t 24], none⟩,
  ⟨(some 25), .ext 0, [.t 21], none⟩,
  ⟨(some 26), .ext 1, [.t 21], none⟩,
  ⟨(some 4), .mov, [.t 25], none⟩,
  ⟨(some 5), .mov, [.t 26], none⟩]
def c_l06_alive_r5 : List COper := a_l06_alive_r5
instance : Reg c_l06_alive_r5 a_l06_alive_r5 8 := ⟨rfl, rfl⟩
@[simp] def a_l06_alive_r6 : List COper := [
  ⟨(some 28), .mov, [.t 1], none⟩,
  ⟨(some 29), .load true 33, [.t 2], none⟩,
  ⟨(some 30), .call fn_ring_Ring_Take, [.t 28, .t 29], none⟩,
  ⟨(some 27), .mov, [.t 30], none⟩,
  ⟨(some 31), .ext 0, [.t 27], none⟩,
  ⟨(some 32), .ext 1, [.t 27], none⟩,
  ⟨(some 6), .mov, [.t 31], none⟩,
  ⟨(some 7), .mov, [.t 32], none⟩]
def c_l06_alive_r6 : List COper := a_l06_alive_r6
instance : Reg c_l06_alive_r6 a_l06_alive_r6 8 := ⟨rfl, rfl⟩
@[simp] def a_l06_alive_r7 : List COper := [
  ⟨(some 34), .mov, [.t 1], none⟩,
  ⟨(some 35), .load true 33, [.t 2], none⟩,
  ⟨(some 36), .buildA 1 (rep 32 (.v (.int .u8 0))) [0], [.c (.int .u8 2)], none⟩,
  ⟨(some 37), .call fn_ring_Ring_Sign, [.t 34, .t 35, .c (.int .i64 0), .t 36], none⟩,
  ⟨(some 33), .mov, [.t 37], none⟩,
  ⟨(some 38), .ext 0, [.t 33], none⟩,
  ⟨(some 39), .ext 1, [.t 33], none⟩,
  ⟨(some 8), .alloc (.node [.v (.int .i64 0), .node [.v (.slice none 0 0), .v (.slice none 0 0)], .v (.slice none 0 0)]), [], none⟩,
  ⟨none, .store true 4, [.t 8, .t 38], none⟩,
  ⟨(some 9), .mov, [.t 39], none⟩]
def c_l06_alive_r7 : List COper := a_l06_alive_r7
instance : Reg c_l06_alive_r7 a_l06_alive_r7 10 := ⟨rfl, rfl⟩
@[simp] def a_l06_alive_r8 : List COper := [
  ⟨(some 41), .mov, [.t 1], none⟩,
  ⟨(some 42), .load true 33, [.t 2], none⟩,
  ⟨(some 43), .buildA 1 (rep 32 (.v (.int .u8 0))) [0], [.c (.int .u8 2)], none⟩,
  ⟨(some 44), .call fn_ring_Ring_Sign, [.t 41, .t 42, .c (.int .i64 0), .t 43], none⟩,
  ⟨(some 40), .mov, [.t 44], none⟩,
  ⟨(some 45), .ext 0, [.t 40], none⟩,
  ⟨(some 46), .ext 1, [.t 40], none⟩,
  ⟨(some 10), .alloc (.node [.v (.int .i64 0), .node [.v (.slice none 0 0), .v (.slice none 0 0)], .v (.slice none 0 0)]), [], none⟩,
  ⟨none, .store true 4, [.t 10, .t 45], none⟩,
  ⟨(some 11), .mov, [.t 46], none⟩]
def c_l06_alive_r8 : List COper := a_l06_alive_r8
instance : Reg c_l06_alive_r8 a_l06_alive_r8 10 := ⟨rfl, rfl⟩
@[simp] def a_l06_alive_r9 : List COper := [
  ⟨(some 47), .mov, [.t 4], none⟩,
  ⟨(some 48), .bin .eql, [.t 47, .c (.int .i64 0)], none⟩,
  ⟨(some 49), .mov, [.t 48], none⟩,
  ⟨(some 50), .mov, [.t 5], (some (49, true))⟩,
  ⟨(some 51), .bin .eql, [.t 50, .c (.int .i64 0)], (some (49, true))⟩,
  ⟨(some 52), .pick, [.t 49, .t 51, .c (.bool false)], none⟩,
  ⟨(some 53), .mov, [.t 52], none⟩,
  ⟨(some 54), .mov, [.t 7], (some (53, true))⟩,
  ⟨(some 55), .bin .eql, [.t 54, .c (.int .i64 6)], (some (53, true))⟩,
  ⟨(some 56), .pick, [.t 53, .t 55, .c (.bool false)], none⟩,
  ⟨(some 57), .mov, [.t 56], none⟩,
  ⟨(some 58), .mov, [.t 9], (some (57, true))⟩,
  ⟨(some 59), .bin .eql, [.t 58, .c (.int .i64 0)], (some (57, true))⟩,
  ⟨(some 60), .pick, [.t 57, .t 59, .c (.bool false)], none⟩,
  ⟨(some 61), .mov, [.t 60], none⟩,
  ⟨(some 62), .mov, [.t 11], (some (61, true))⟩,
  ⟨(some 63), .bin .eql, [.t 62, .c (.int .i64 9)], (some (61, true))⟩,
  ⟨(some 64), .pick, [.t 61, .t 63, .c (.bool false)], none⟩,
  ⟨(some 65), .mov, [.t 64], none⟩,
  ⟨(some 66), .load true 33, [.t 2], (some (65, true))⟩,
  ⟨(some 67), .buildA 1 (rep 32 (.v (.int .u8 0))) [0], [.c (.int .u8 2)], (some (65, true))⟩,
  ⟨(some 68), .load true 4, [.t 8], (some (65, true))⟩,
  ⟨(some 69), .call fn_keys_Check, [.t 66, .t 67, .t 68], (some (65, true))⟩,
  ⟨(some 70), .pick, [.t 65, .t 69, .c (.bool false)], none⟩,
  ⟨(some 0), .mov, [.t 70], none⟩]
def c_l06_alive_r9 : List COper := a_l06_alive_r9
instance : Reg c_l06_alive_r9 a_l06_alive_r9 25 := ⟨rfl, rfl⟩
@[simp] def c_l06_alive : CCode :=
  .seq (.region c_l06_alive_r0 none []) (.seq (.region c_l06_alive_r1 none [1]) (.seq (.region c_l06_alive_r2 none [1, 2, 3]) (.seq (.seq (.region c_l06_alive_r3 none [1, 2, 20]) (.cond (.t 20) (.seq (.region c_l06_alive_r4 none [0]) (.ret)) (.skip))) (.seq (.region c_l06_alive_r5 none [1, 2, 4, 5]) (.seq (.region c_l06_alive_r6 none [1, 2, 4, 5, 7]) (.seq (.region c_l06_alive_r7 none [1, 2, 4, 5, 7, 8, 9]) (.seq (.region c_l06_alive_r8 none [2, 4, 5, 7, 8, 9, 11]) (.seq (.region c_l06_alive_r9 none [0]) (.ret)))))))))
@[simp] def R_l06_alive : List CRes := [.tmp 0]
theorem k_l06_alive : chkFn Tryd.prog fn_l06_alive c_l06_alive R_l06_alive 0 = true := by kernel_rfl
/-! wapentake/wapentakelaw06.great -/
@[simp] def a_l06_great_r0 : List COper := [
  ⟨(some 2), .mov, [.c (.bool false)], none⟩]
def c_l06_great_r0 : List COper := a_l06_great_r0
instance : Reg c_l06_great_r0 a_l06_great_r0 1 := ⟨rfl, rfl⟩
@[simp] def a_l06_great_r1 : List COper := [
  ⟨(some 5), .mov, [.t 0], none⟩,
  ⟨(some 6), .len, [.t 5], none⟩,
  ⟨(some 7), .mov, [.c (.int .i64 0)], none⟩]
def c_l06_great_r1 : List COper := a_l06_great_r1
instance : Reg c_l06_great_r1 a_l06_great_r1 3 := ⟨rfl, rfl⟩
@[simp] def a_l06_great_r2 : List COper := [
  ⟨(some 8), .bin .lss, [.t 7, .t 6], none⟩]
def c_l06_great_r2 : List COper := a_l06_great_r2
instance : Reg c_l06_great_r2 a_l06_great_r2 1 := ⟨rfl, rfl⟩
@[simp] def a_l06_great_r3 : List COper := [
  ⟨(some 9), .iaddr 36, [.t 5, .t 7], none⟩,
  ⟨(some 10), .load true 36, [.t 9], none⟩,
  ⟨(some 4), .alloc (.node [.v (.int .i64 0), .v (.int .u8 0), .v (.int .i64 0), .v (.int .i64 0), .arr 1 (rep 32 (.v (.int .u8 0)))]), [], none⟩,
  ⟨none, .store true 36, [.t 4, .t 10], none⟩]
def c_l06_great_r3 : List COper := a_l06_great_r3
instance : Reg c_l06_great_r3 a_l06_great_r3 4 := ⟨rfl, rfl⟩
@[simp] def a_l06_great_r4 : List COper := [
  ⟨(some 11), .faddr 0 1 false, [.t 4], none⟩,
  ⟨(some 12), .load false 1, [.t 11], none⟩,
  ⟨(some 13), .bin .eql, [.t 12, .c (.int .i64 0)], none⟩,
  ⟨(some 14), .mov, [.t 13], none⟩,
  ⟨(some 15), .faddr 3 1 false, [.t 4], (some (14, true))⟩,
  ⟨(some 16), .load false 1, [.t 15], (some (14, true))⟩,
  ⟨(some 17), .bin .gtr, [.t 16, .c (.int .i64 2)], (some (14, true))⟩,
  ⟨(some 18), .pick, [.t 14, .t 17, .c (.bool false)], none⟩,
  ⟨(some 19), .mov, [.t 18], none⟩,
  ⟨(some 20), .faddr 3 1 false, [.t 4], (some (19, true))⟩,
  ⟨(some 21), .load false 1, [.t 20], (some (19, true))⟩,
  ⟨(some 22), .bin .leq, [.t 21, .c (.int .i64 6)], (some (19, true))⟩,
  ⟨(some 23), .pick, [.t 19, .t 22, .c (.bool false)], none⟩]
def c_l06_great_r4 : List COper := a_l06_great_r4
instance : Reg c_l06_great_r4 a_l06_great_r4 13 := ⟨rfl, rfl⟩
@[simp] def a_l06_great_r5 : List COper := [
  ⟨(some 2), .mov, [.c (.bool true)], none⟩]
def c_l06_great_r5 : List COper := a_l06_great_r5
instance : Reg c_l06_great_r5 a_l06_great_r5 1 := ⟨rfl, rfl⟩
@[simp] def a_l06_great_r6 : List COper := [
  ⟨(some 24), .bin .add, [.t 7, .c (.int .i64 1)], none⟩,
  ⟨(some 7), .mov, [.t 24], none⟩]
def c_l06_great_r6 : List COper := a_l06_great_r6
instance : Reg c_l06_great_r6 a_l06_great_r6 2 := ⟨rfl, rfl⟩
@[simp] def a_l06_great_r7 : List COper := [
  ⟨(some 25), .mov, [.t 0], none⟩,
  ⟨(some 26), .len, [.t 25], none⟩,
  ⟨(some 27), .bin .gtr, [.t 26, .c (.int .i64 30)], none⟩,
  ⟨(some 2), .mov, [.t 27], none⟩]
def c_l06_great_r7 : List COper := a_l06_great_r7
instance : Reg c_l06_great_r7 a_l06_great_r7 4 := ⟨rfl, rfl⟩
@[simp] def c_l06_great : CCode :=
  .seq (.region c_l06_great_r0 none [0]) (.seq (.seq (.region c_l06_great_r1 none [0, 5, 6, 7]) (.block 0 (.loop (.seq (.region c_l06_great_r2 none [0, 5, 6, 7, 8]) (.seq (.cond (.t 8) (.skip) (.exit 0)) (.seq (.block 1 (.seq (.region c_l06_great_r3 none [0, 4, 5, 6, 7]) (.seq (.region c_l06_great_r4 none [0, 5, 6, 7, 23]) (.cond (.t 23) (.seq (.region c_l06_great_r5 none [2]) (.ret)) (.skip))))) (.region c_l06_great_r6 none [0, 5, 6, 7]))))))) (.seq (.region c_l06_great_r7 none [2]) (.ret)))
@[simp] def R_l06_great : List CRes := [.tmp 2]
theorem k_l06_great : chkFn Tryd.prog fn_l06_great c_l06_great R_l06_great 1 = true := by kernel_rfl
/-! wapentake/ring.New -/
@[simp] def a_ring_New_r0 : List COper := [
  ⟨(some 0), .mov, [.c (.pointer none)], none⟩]
def c_ring_New_r0 : List COper := a_ring_New_r0
instance : Reg c_ring_New_r0 a_ring_New_r0 1 := ⟨rfl, rfl⟩
@[simp] def a_ring_New_r1 : List COper := [
  ⟨(some 1), .mkmap true 33 false 1, [], none⟩,
  ⟨(some 2), .build [.v (.map none)] [0], [.t 1], none⟩,
  ⟨(some 3), .box, [.t 2], none⟩,
  ⟨(some 0), .mov, [.t 3], none⟩]
def c_ring_New_r1 : List COper := a_ring_New_r1
instance : Reg c_ring_New_r1 a_ring_New_r1 4 := ⟨rfl, rfl⟩
@[simp] def c_ring_New : CCode :=
  .seq (.region c_ring_New_r0 none []) (.seq (.region c_ring_New_r1 none [0]) (.ret))
@[simp] def R_ring_New : List CRes := [.tmp 0]
theorem k_ring_New : chkFn Tryd.prog fn_ring_New c_ring_New R_ring_New 0 = true := by kernel_rfl
/-! wapentake/wapentakelaw06.key -/
@[simp] def a_l06_key_r0 : List COper := [
  ⟨(some 4), .alloc (.node [.arr 1 (rep 32 (.v (.int .u8 0))), .v (.int .i64 0)]), [], none⟩]
def c_l06_key_r0 : List COper := a_l06_key_r0
instance : Reg c_l06_key_r0 a_l06_key_r0 1 := ⟨rfl, rfl⟩
@[simp] def a_l06_key_r1 : List COper := [
  ⟨(some 5), .mov, [.t 1], none⟩,
  ⟨(some 6), .bin .lss, [.t 5, .c (.int .i64 0)], none⟩,
  ⟨(some 7), .mov, [.t 6], none⟩,
  ⟨(some 8), .mov, [.t 1], (some (7, false))⟩,
  ⟨(some 9), .mov, [.t 0], (some (7, false))⟩,
  ⟨(some 10), .len, [.t 9], (some (7, false))⟩,
  ⟨(some 11), .bin .geq, [.t 8, .t 10], (some (7, false))⟩,
  ⟨(some 12), .pick, [.t 7, .c (.bool true), .t 11], none⟩]
def c_l06_key_r1 : List COper := a_l06_key_r1
instance : Reg c_l06_key_r1 a_l06_key_r1 8 := ⟨rfl, rfl⟩
@[simp] def a_l06_key_r2 : List COper := [
  ⟨(some 13), .build [.arr 1 (rep 32 (.v (.int .u8 0))), .v (.int .i64 0)] [], [], none⟩,
  ⟨none, .store true 33, [.t 4, .t 13], none⟩]
def c_l06_key_r2 : List COper := a_l06_key_r2
instance : Reg c_l06_key_r2 a_l06_key_r2 2 := ⟨rfl, rfl⟩
@[simp] def a_l06_key_r3 : List COper := [
  ⟨(some 14), .mov, [.t 0], none⟩,
  ⟨(some 15), .mov, [.t 1], none⟩,
  ⟨(some 16), .iaddr 33, [.t 14, .t 15], none⟩,
  ⟨(some 17), .load true 33, [.t 16], none⟩,
  ⟨none, .store true 33, [.t 4, .t 17], none⟩]
def c_l06_key_r3 : List COper := a_l06_key_r3
instance : Reg c_l06_key_r3 a_l06_key_r3 5 := ⟨rfl, rfl⟩
@[simp] def c_l06_key : CCode :=
  .seq (.region c_l06_key_r0 none [0, 1, 4]) (.seq (.seq (.region c_l06_key_r1 none [0, 1, 4, 12]) (.cond (.t 12) (.seq (.region c_l06_key_r2 none [4]) (.ret)) (.skip))) (.seq (.region c_l06_key_r3 none [4]) (.ret)))
@[simp] def R_l06_key : List CRes := [.cell 4 true 33]
theorem k_l06_key : chkFn Tryd.prog fn_l06_key c_l06_key R_l06_key 2 = true := by kernel_rfl
/-! (*wapentake/ring.Ring).Add -/
@[simp] def a_ring_Ring_Add_r0 : List COper := [
  ⟨(some 4), .box, [.t 1], none⟩,
  ⟨(some 6), .alloc (.node [.arr 1 (rep 32 (.v (.int .u8 0))), .v (.int .i64 0)]), [], none⟩,
  ⟨(some 7), .mov, [.c (.int .i64 0)], none⟩]
def c_ring_Ring_Add_r0 : List COper := a_ring_Ring_Add_r0
instance : Reg c_ring_Ring_Add_r0 a_ring_Ring_Add_r0 3 := ⟨rfl, rfl⟩
@[simp] def a_ring_Ring_Add_r1 : List COper := [
  ⟨(some 11), .mov, [.t 0], none⟩,
  ⟨(some 12), .eqp false, [.t 11, .c (.pointer none)], none⟩]
def c_ring_Ring_Add_r1 : List COper := a_ring_Ring_Add_r1
instance : Reg c_ring_Ring_Add_r1 a_ring_Ring_Add_r1 2 := ⟨rfl, rfl⟩
@[simp] def a_ring_Ring_Add_r2 : List COper := [
  ⟨(some 13), .build [.arr 1 (rep 32 (.v (.int .u8 0))), .v (.int .i64 0)] [], [], none⟩,
  ⟨none, .store true 33, [.t 6, .t 13], none⟩,
  ⟨(some 7), .mov, [.c (.int .i64 2)], none⟩]
def c_ring_Ring_Add_r2 : List COper := a_ring_Ring_Add_r2
instance : Reg c_ring_Ring_Add_r2 a_ring_Ring_Add_r2 3 := ⟨rfl, rfl⟩
@[simp] def a_ring_Ring_Add_r3 : List COper := [
  ⟨(some 15), .load true 32, [.t 4], none⟩,
  ⟨(some 16), .mov, [.t 2], none⟩,
  ⟨(some 17), .call fn_keys_New, [.t 15, .t 16], none⟩,
  ⟨(some 14), .mov, [.t 17], none⟩,
  ⟨(some 18), .ext 0, [.t 14], none⟩,
  ⟨(some 19), .ext 1, [.t 14], none⟩,
  ⟨(some 8), .mov, [.t 18], none⟩,
  ⟨(some 9), .mov, [.t 19], none⟩]
def c_ring_Ring_Add_r3 : List COper := a_ring_Ring_Add_r3
instance : Reg c_ring_Ring_Add_r3 a_ring_Ring_Add_r3 8 := ⟨rfl, rfl⟩
@[simp] def a_ring_Ring_Add_r4 : List COper := [
  ⟨(some 20), .mov, [.t 9], none⟩,
  ⟨(some 21), .bin .neq, [.t 20, .c (.int .i64 0)], none⟩]
def c_ring_Ring_Add_r4 : List COper := a_ring_Ring_Add_r4
instance : Reg c_ring_Ring_Add_r4 a_ring_Ring_Add_r4 2 := ⟨rfl, rfl⟩
@[simp] def a_ring_Ring_Add_r5 : List COper := [
  ⟨(some 22), .build [.arr 1 (rep 32 (.v (.int .u8 0))), .v (.int .i64 0)] [], [], none⟩,
  ⟨(some 23), .mov, [.t 9], none⟩,
  ⟨none, .store true 33, [.t 6, .t 22], none⟩,
  ⟨(some 7), .mov, [.t 23], none⟩]
def c_ring_Ring_Add_r5 : List COper := a_ring_Ring_Add_r5
instance : Reg c_ring_Ring_Add_r5 a_ring_Ring_Add_r5 4 := ⟨rfl, rfl⟩
@[simp] def a_ring_Ring_Add_r6 : List COper := [
  ⟨(some 24), .mov, [.t 8], none⟩,
  ⟨(some 25), .call fn_keys_Tree_Key, [.t 24], none⟩,
  ⟨(some 10), .alloc (.node [.arr 1 (rep 32 (.v (.int .u8 0))), .v (.int .i64 0)]), [], none⟩,
  ⟨none, .store true 33, [.t 10, .t 25], none⟩]
def c_ring_Ring_Add_r6 : List COper := a_ring_Ring_Add_r6
instance : Reg c_ring_Ring_Add_r6 a_ring_Ring_Add_r6 4 := ⟨rfl, rfl⟩
@[simp] def a_ring_Ring_Add_r7 : List COper := [
  ⟨(some 26), .mov, [.t 0], none⟩,
  ⟨(some 27), .nilc, [.t 26], none⟩,
  ⟨(some 28), .faddr 0 1 false, [.t 27], none⟩,
  ⟨(some 29), .load false 1, [.t 28], none⟩,
  ⟨(some 30), .load true 33, [.t 10], none⟩,
  ⟨(some 31), .mlook (.st [.ints .u8 32, .int .i64]) (.v (.pointer none)) false, [.t 29, .t 30], none⟩,
  ⟨(some 32), .eqp true, [.t 31, .c (.pointer none)], none⟩]
def c_ring_Ring_Add_r7 : List COper := a_ring_Ring_Add_r7
instance : Reg c_ring_Ring_Add_r7 a_ring_Ring_Add_r7 7 := ⟨rfl, rfl⟩
@[simp] def a_ring_Ring_Add_r8 : List COper := [
  ⟨(some 33), .build [.arr 1 (rep 32 (.v (.int .u8 0))), .v (.int .i64 0)] [], [], none⟩,
  ⟨none, .store true 33, [.t 6, .t 33], none⟩,
  ⟨(some 7), .mov, [.c (.int .i64 9)], none⟩]
def c_ring_Ring_Add_r8 : List COper := a_ring_Ring_Add_r8
instance : Reg c_ring_Ring_Add_r8 a_ring_Ring_Add_r8 3 := ⟨rfl, rfl⟩
@[simp] def a_ring_Ring_Add_r9 : List COper := [
  ⟨(some 34), .mov, [.t 0], none⟩,
  ⟨(some 35), .nilc, [.t 34], none⟩,
  ⟨(some 36), .faddr 0 1 false, [.t 35], none⟩,
  ⟨(some 37), .load false 1, [.t 36], none⟩,
  ⟨(some 38), .load true 33, [.t 10], none⟩,
  ⟨(some 39), .mov, [.t 8], none⟩,
  ⟨(some 40), .mkmap false 1 false 1, [], none⟩,
  ⟨(some 41), .build [.v (.pointer none), .v (.int .i64 0), .v (.map none)] [0, 1, 2], [.t 39, .c (.int .i64 0), .t 40], none⟩,
  ⟨(some 42), .box, [.t 41], none⟩,
  ⟨none, .mput (.st [.ints .u8 32, .int .i64]), [.t 37, .t 38, .t 42], none⟩]
def c_ring_Ring_Add_r9 : List COper := a_ring_Ring_Add_r9
instance : Reg c_ring_Ring_Add_r9 a_ring_Ring_Add_r9 10 := ⟨rfl, rfl⟩
@[simp] def a_ring_Ring_Add_r10 : List COper := [
  ⟨(some 43), .load true 33, [.t 10], none⟩,
  ⟨none, .store true 33, [.t 6, .t 43], none⟩,
  ⟨(some 7), .mov, [.c (.int .i64 0)], none⟩]
def c_ring_Ring_Add_r10 : List COper := a_ring_Ring_Add_r10
instance : Reg c_ring_Ring_Add_r10 a_ring_Ring_Add_r10 3 := ⟨rfl, rfl⟩
@[simp] def c_ring_Ring_Add : CCode :=
  .seq (.region c_ring_Ring_Add_r0 none [0, 2, 4, 6]) (.seq (.seq (.region c_ring_Ring_Add_r1 none [0, 2, 4, 6, 12]) (.cond (.t 12) (.seq (.region c_ring_Ring_Add_r2 none [6, 7]) (.ret)) (.skip))) (.seq (.region c_ring_Ring_Add_r3 none [0, 6, 8, 9]) (.seq (.seq (.region c_ring_Ring_Add_r4 none [0, 6, 8, 9, 21]) (.cond (.t 21) (.seq (.region c_ring_Ring_Add_r5 none [6, 7]) (.ret)) (.skip))) (.seq (.region c_ring_Ring_Add_r6 none [0, 6, 8, 10]) (.seq (.seq (.region c_ring_Ring_Add_r7 (some ([0, 1, 3, 7, 0, 31, 63], [])) [0, 6, 8, 10, 32]) (.cond (.t 32) (.seq (.region c_ring_Ring_Add_r8 none [6, 7]) (.ret)) (.skip))) (.seq (.region c_ring_Ring_Add_r9 (some ([0, 1, 3, 7, 0, 0, 0, 96, 224, 511], [(3, 6), (4, 6), (3, 8), (4, 8)])) [6, 10]) (.seq (.region c_ring_Ring_Add_r10 none [6, 7]) (.ret))))))))
@[simp] def R_ring_Ring_Add : List CRes := [.cell 6 true 33, .tmp 7]
theorem k_ring_Ring_Add : chkFn Tryd.prog fn_ring_Ring_Add c_ring_Ring_Add R_ring_Ring_Add 3 = true := by kernel_rfl
/-! (*wapentake/ring.Ring).Take -/
@[simp] def a_ring_Ring_Take_r0 : List COper := [
  ⟨(some 3), .box, [.t 1], none⟩,
  ⟨(some 4), .mov, [.c (.int .i64 0)], none⟩,
  ⟨(some 5), .mov, [.c (.int .i64 0)], none⟩]
def c_ring_Ring_Take_r0 : List COper := a_ring_Ring_Take_r0
instance : Reg c_ring_Ring_Take_r0 a_ring_Ring_Take_r0 3 := ⟨rfl, rfl⟩
@[simp] def a_ring_Ring_Take_r1 : List COper := [
  ⟨(some 10), .mov, [.t 0], none⟩,
  ⟨(some 11), .load true 33, [.t 3], none⟩,
  ⟨(some 12), .call fn_ring_Ring_entry, [.t 10, .t 11], none⟩,
  ⟨(some 9), .mov, [.t 12], none⟩,
  ⟨(some 13), .ext 0, [.t 9], none⟩,
  ⟨(some 14), .ext 1, [.t 9], none⟩,
  ⟨(some 6), .mov, [.t 13], none⟩,
  ⟨(some 7), .mov, [.t 14], none⟩]
def c_ring_Ring_Take_r1 : List COper := a_ring_Ring_Take_r1
instance : Reg c_ring_Ring_Take_r1 a_ring_Ring_Take_r1 8 := ⟨rfl, rfl⟩
@[simp] def a_ring_Ring_Take_r2 : List COper := [
  ⟨(some 15), .mov, [.t 7], none⟩,
  ⟨(some 16), .bin .neq, [.t 15, .c (.int .i64 0)], none⟩]
def c_ring_Ring_Take_r2 : List COper := a_ring_Ring_Take_r2
instance : Reg c_ring_Ring_Take_r2 a_ring_Ring_Take_r2 2 := ⟨rfl, rfl⟩
@[simp] def a_ring_Ring_Take_r3 : List COper := [
  ⟨(some 17), .mov, [.t 7], none⟩,
  ⟨(some 4), .mov, [.c (.int .i64 0)], none⟩,
  ⟨(some 5), .mov, [.t 17], none⟩]
def c_ring_Ring_Take_r3 : List COper := a_ring_Ring_Take_r3
instance : Reg c_ring_Ring_Take_r3 a_ring_Ring_Take_r3 3 := ⟨rfl, rfl⟩
@[simp] def a_ring_Ring_Take_r4 : List COper := [
  ⟨(some 18), .mov, [.t 6], none⟩,
  ⟨(some 19), .nilc, [.t 18], none⟩,
  ⟨(some 20), .faddr 1 1 false, [.t 19], none⟩,
  ⟨(some 21), .load false 1, [.t 20], none⟩,
  ⟨(some 22), .faddr 32 1 false, [.t 3], none⟩,
  ⟨(some 23), .load false 1, [.t 22], none⟩,
  ⟨(some 24), .bin .shl, [.c (.int .i64 1), .t 23], none⟩,
  ⟨(some 25), .bin .geq, [.t 21, .t 24], none⟩]
def c_ring_Ring_Take_r4 : List COper := a_ring_Ring_Take_r4
instance : Reg c_ring_Ring_Take_r4 a_ring_Ring_Take_r4 8 := ⟨rfl, rfl⟩
@[simp] def a_ring_Ring_Take_r5 : List COper := [
  ⟨(some 4), .mov, [.c (.int .i64 0)], none⟩,
  ⟨(some 5), .mov, [.c (.int .i64 6)], none⟩]
def c_ring_Ring_Take_r5 : List COper := a_ring_Ring_Take_r5
instance : Reg c_ring_Ring_Take_r5 a_ring_Ring_Take_r5 2 := ⟨rfl, rfl⟩
@[simp] def a_ring_Ring_Take_r6 : List COper := [
  ⟨(some 26), .mov, [.t 6], none⟩,
  ⟨(some 27), .nilc, [.t 26], none⟩,
  ⟨(some 28), .faddr 1 1 false, [.t 27], none⟩,
  ⟨(some 29), .load false 1, [.t 28], none⟩,
  ⟨(some 8), .mov, [.t 29], none⟩]
def c_ring_Ring_Take_r6 : List COper := a_ring_Ring_Take_r6
instance : Reg c_ring_Ring_Take_r6 a_ring_Ring_Take_r6 5 := ⟨rfl, rfl⟩
@[simp] def a_ring_Ring_Take_r7 : List COper := [
  ⟨(some 30), .mov, [.t 6], none⟩,
  ⟨(some 31), .nilc, [.t 30], none⟩,
  ⟨(some 32), .faddr 1 1 false, [.t 31], none⟩,
  ⟨(some 33), .load false 1, [.t 32], none⟩,
  ⟨(some 34), .bin .add, [.t 33, .c (.int .i64 1)], none⟩,
  ⟨(some 35), .nilc, [.t 30], none⟩,
  ⟨(some 36), .faddr 1 1 false, [.t 35], none⟩,
  ⟨none, .store false 1, [.t 36, .t 34], none⟩]
def c_ring_Ring_Take_r7 : List COper := a_ring_Ring_Take_r7
instance : Reg c_ring_Ring_Take_r7 a_ring_Ring_Take_r7 8 := ⟨rfl, rfl⟩
@[simp] def a_ring_Ring_Take_r8 : List COper := [
  ⟨(some 37), .mov, [.t 6], none⟩,
  ⟨(some 38), .nilc, [.t 37], none⟩,
  ⟨(some 39), .faddr 2 1 false, [.t 38], none⟩,
  ⟨(some 40), .load false 1, [.t 39], none⟩,
  ⟨(some 41), .mov, [.t 8], none⟩,
  ⟨none, .mput (.int .i64), [.t 40, .t 41, .c (.bool true)], none⟩]
def c_ring_Ring_Take_r8 : List COper := a_ring_Ring_Take_r8
instance : Reg c_ring_Ring_Take_r8 a_ring_Ring_Take_r8 6 := ⟨rfl, rfl⟩
@[simp] def a_ring_Ring_Take_r9 : List COper := [
  ⟨(some 42), .mov, [.t 8], none⟩,
  ⟨(some 4), .mov, [.t 42], none⟩,
  ⟨(some 5), .mov, [.c (.int .i64 0)], none⟩]
def c_ring_Ring_Take_r9 : List COper := a_ring_Ring_Take_r9
instance : Reg c_ring_Ring_Take_r9 a_ring_Ring_Take_r9 3 := ⟨rfl, rfl⟩
@[simp] def c_ring_Ring_Take : CCode :=
  .seq (.region c_ring_Ring_Take_r0 none [0, 3]) (.seq (.region c_ring_Ring_Take_r1 none [3, 6, 7]) (.seq (.seq (.region c_ring_Ring_Take_r2 none [3, 6, 7, 16]) (.cond (.t 16) (.seq (.region c_ring_Ring_Take_r3 none [4, 5]) (.ret)) (.skip))) (.seq (.seq (.region c_ring_Ring_Take_r4 (some ([0, 1, 3, 7, 0, 16, 48, 127], [])) [6, 25]) (.cond (.t 25) (.seq (.region c_ring_Ring_Take_r5 none [4, 5]) (.ret)) (.skip))) (.seq (.region c_ring_Ring_Take_r6 none [6, 8]) (.seq (.region c_ring_Ring_Take_r7 none [6, 8]) (.seq (.region c_ring_Ring_Take_r8 none [8]) (.seq (.region c_ring_Ring_Take_r9 none [4, 5]) (.ret))))))))
@[simp] def R_ring_Ring_Take : List CRes := [.tmp 4, .tmp 5]
theorem k_ring_Ring_Take : chkFn Tryd.prog fn_ring_Ring_Take c_ring_Ring_Take R_ring_Ring_Take 2 = true := by kernel_rfl
/-! (*wapentake/ring.Ring).Sign -/
@[simp] def a_ring_Ring_Sign_r0 : List COper := [
  ⟨(some 5), .box, [.t 1], none⟩,
  ⟨(some 7), .box, [.t 3], none⟩,
  ⟨(some 8), .alloc (.node [.v (.int .i64 0), .node [.v (.slice none 0 0), .v (.slice none 0 0)], .v (.slice none 0 0)]), [], none⟩,
  ⟨(some 9), .mov, [.c (.int .i64 0)], none⟩]
def c_ring_Ring_Sign_r0 : List COper := a_ring_Ring_Sign_r0
instance : Reg c_ring_Ring_Sign_r0 a_ring_Ring_Sign_r0 4 := ⟨rfl, rfl⟩
@[simp] def a_ring_Ring_Sign_r1 : List COper := [
  ⟨(some 13), .mov, [.t 0], none⟩,
  ⟨(some 14), .load true 33, [.t 5], none⟩,
  ⟨(some 15), .call fn_ring_Ring_entry, [.t 13, .t 14], none⟩,
  ⟨(some 12), .mov, [.t 15], none⟩,
  ⟨(some 16), .ext 0, [.t 12], none⟩,
  ⟨(some 17), .ext 1, [.t 12], none⟩,
  ⟨(some 10), .mov, [.t 16], none⟩,
  ⟨(some 11), .mov, [.t 17], none⟩]
def c_ring_Ring_Sign_r1 : List COper := a_ring_Ring_Sign_r1
instance : Reg c_ring_Ring_Sign_r1 a_ring_Ring_Sign_r1 8 := ⟨rfl, rfl⟩
@[simp] def a_ring_Ring_Sign_r2 : List COper := [
  ⟨(some 18), .mov, [.t 11], none⟩,
  ⟨(some 19), .bin .neq, [.t 18, .c (.int .i64 0)], none⟩]
def c_ring_Ring_Sign_r2 : List COper := a_ring_Ring_Sign_r2
instance : Reg c_ring_Ring_Sign_r2 a_ring_Ring_Sign_r2 2 := ⟨rfl, rfl⟩
@[simp] def a_ring_Ring_Sign_r3 : List COper := [
  ⟨(some 20), .build [.v (.int .i64 0), .node [.v (.slice none 0 0), .v (.slice none 0 0)], .v (.slice none 0 0)] [], [], none⟩,
  ⟨(some 21), .mov, [.t 11], none⟩,
  ⟨none, .store true 4, [.t 8, .t 20], none⟩,
  ⟨(some 9), .mov, [.t 21], none⟩]
def c_ring_Ring_Sign_r3 : List COper := a_ring_Ring_Sign_r3
instance : Reg c_ring_Ring_Sign_r3 a_ring_Ring_Sign_r3 4 := ⟨rfl, rfl⟩
@[simp] def a_ring_Ring_Sign_r4 : List COper := [
  ⟨(some 22), .mov, [.t 10], none⟩,
  ⟨(some 23), .nilc, [.t 22], none⟩,
  ⟨(some 24), .faddr 2 1 false, [.t 23], none⟩,
  ⟨(some 25), .load false 1, [.t 24], none⟩,
  ⟨(some 26), .mov, [.t 2], none⟩,
  ⟨(some 27), .mlook (.int .i64) (.v (.bool false)) false, [.t 25, .t 26], none⟩,
  ⟨(some 28), .not, [.t 27], none⟩]
def c_ring_Ring_Sign_r4 : List COper := a_ring_Ring_Sign_r4
instance : Reg c_ring_Ring_Sign_r4 a_ring_Ring_Sign_r4 7 := ⟨rfl, rfl⟩
@[simp] def a_ring_Ring_Sign_r5 : List COper := [
  ⟨(some 29), .build [.v (.int .i64 0), .node [.v (.slice none 0 0), .v (.slice none 0 0)], .v (.slice none 0 0)] [], [], none⟩,
  ⟨none, .store true 4, [.t 8, .t 29], none⟩,
  ⟨(some 9), .mov, [.c (.int .i64 9)], none⟩]
def c_ring_Ring_Sign_r5 : List COper := a_ring_Ring_Sign_r5
instance : Reg c_ring_Ring_Sign_r5 a_ring_Ring_Sign_r5 3 := ⟨rfl, rfl⟩
@[simp] def a_ring_Ring_Sign_r6 : List COper := [
  ⟨(some 30), .mov, [.t 10], none⟩,
  ⟨(some 31), .nilc, [.t 30], none⟩,
  ⟨(some 32), .faddr 2 1 false, [.t 31], none⟩,
  ⟨(some 33), .load false 1, [.t 32], none⟩,
  ⟨(some 34), .mov, [.t 2], none⟩,
  ⟨none, .mdel (.int .i64), [.t 33, .t 34], none⟩]
def c_ring_Ring_Sign_r6 : List COper := a_ring_Ring_Sign_r6
instance : Reg c_ring_Ring_Sign_r6 a_ring_Ring_Sign_r6 6 := ⟨rfl, rfl⟩
@[simp] def a_ring_Ring_Sign_r7 : List COper := [
  ⟨(some 35), .mov, [.t 10], none⟩,
  ⟨(some 36), .nilc, [.t 35], none⟩,
  ⟨(some 37), .faddr 0 1 false, [.t 36], none⟩,
  ⟨(some 38), .load false 1, [.t 37], none⟩,
  ⟨(some 39), .mov, [.t 2], none⟩,
  ⟨(some 40), .load true 32, [.t 7], none⟩,
  ⟨(some 41), .call fn_keys_Tree_Sign, [.t 38, .t 39, .t 40], none⟩,
  ⟨(some 42), .ext 0, [.t 41], none⟩,
  ⟨(some 43), .ext 1, [.t 41], none⟩,
  ⟨none, .store true 4, [.t 8, .t 42], none⟩,
  ⟨(some 9), .mov, [.t 43], none⟩]
def c_ring_Ring_Sign_r7 : List COper := a_ring_Ring_Sign_r7
instance : Reg c_ring_Ring_Sign_r7 a_ring_Ring_Sign_r7 11 := ⟨rfl, rfl⟩
@[simp] def c_ring_Ring_Sign : CCode :=
  .seq (.region c_ring_Ring_Sign_r0 none [0, 2, 5, 7, 8]) (.seq (.region c_ring_Ring_Sign_r1 none [2, 7, 8, 10, 11]) (.seq (.seq (.region c_ring_Ring_Sign_r2 none [2, 7, 8, 10, 11, 19]) (.cond (.t 19) (.seq (.region c_ring_Ring_Sign_r3 none [8, 9]) (.ret)) (.skip))) (.seq (.seq (.region c_ring_Ring_Sign_r4 none [2, 7, 8, 10, 28]) (.cond (.t 28) (.seq (.region c_ring_Ring_Sign_r5 none [8, 9]) (.ret)) (.skip))) (.seq (.region c_ring_Ring_Sign_r6 none [2, 7, 8, 10]) (.seq (.region c_ring_Ring_Sign_r7 (some ([0, 1, 3, 7, 0, 0, 63, 127, 127, 511, 1023], [])) [8, 9]) (.ret))))))
@[simp] def R_ring_Ring_Sign : List CRes := [.cell 8 true 4, .tmp 9]
theorem k_ring_Ring_Sign : chkFn Tryd.prog fn_ring_Ring_Sign c_ring_Ring_Sign R_ring_Ring_Sign 4 = true := by kernel_rfl
/-! wapentake/keys.Check -/
@[simp] def a_keys_Check_r0 : List COper := [
  ⟨(some 3), .box, [.t 0], none⟩,
  ⟨(some 4), .box, [.t 1], none⟩,
  ⟨(some 5), .box, [.t 2], none⟩,
  ⟨(some 6), .mov, [.c (.bool false)], none⟩]
def c_keys_Check_r0 : List COper := a_keys_Check_r0
instance : Reg c_keys_Check_r0 a_keys_Check_r0 4 := ⟨rfl, rfl⟩
@[simp] def a_keys_Check_r1 : List COper := [
  ⟨(some 10), .load true 32, [.t 4], none⟩,
  ⟨(some 11), .faddr 1 2 true, [.t 5], none⟩,
  ⟨(some 12), .load true 2, [.t 11], none⟩,
  ⟨(some 13), .call fn_once_Of, [.t 10, .t 12], none⟩,
  ⟨(some 9), .mov, [.t 13], none⟩,
  ⟨(some 14), .ext 0, [.t 9], none⟩,
  ⟨(some 15), .ext 1, [.t 9], none⟩,
  ⟨(some 7), .alloc (.arr 1 (rep 32 (.v (.int .u8 0)))), [], none⟩,
  ⟨none, .store true 32, [.t 7, .t 14], none⟩,
  ⟨(some 8), .mov, [.t 15], none⟩]
def c_keys_Check_r1 : List COper := a_keys_Check_r1
instance : Reg c_keys_Check_r1 a_keys_Check_r1 10 := ⟨rfl, rfl⟩
@[simp] def a_keys_Check_r2 : List COper := [
  ⟨(some 16), .mov, [.t 8], none⟩,
  ⟨(some 17), .mov, [.t 16], none⟩,
  ⟨(some 18), .faddr 32 1 false, [.t 3], (some (17, true))⟩,
  ⟨(some 19), .load false 1, [.t 18], (some (17, true))⟩,
  ⟨(some 20), .bin .geq, [.t 19, .c (.int .i64 0)], (some (17, true))⟩,
  ⟨(some 21), .pick, [.t 17, .t 20, .c (.bool false)], none⟩,
  ⟨(some 22), .mov, [.t 21], none⟩,
  ⟨(some 23), .faddr 32 1 false, [.t 3], (some (22, true))⟩,
  ⟨(some 24), .load false 1, [.t 23], (some (22, true))⟩,
  ⟨(some 25), .bin .leq, [.t 24, .c (.int .i64 6)], (some (22, true))⟩,
  ⟨(some 26), .pick, [.t 22, .t 25, .c (.bool false)], none⟩,
  ⟨(some 27), .mov, [.t 26], none⟩,
  ⟨(some 28), .faddr 0 32 true, [.t 3], (some (27, true))⟩,
  ⟨(some 29), .load true 32, [.t 28], (some (27, true))⟩,
  ⟨(some 30), .load true 32, [.t 7], (some (27, true))⟩,
  ⟨(some 31), .call fn_keys_leaf, [.t 30], (some (27, true))⟩,
  ⟨(some 32), .faddr 0 1 false, [.t 5], (some (27, true))⟩,
  ⟨(some 33), .load false 1, [.t 32], (some (27, true))⟩,
  ⟨(some 34), .faddr 32 1 false, [.t 3], (some (27, true))⟩,
  ⟨(some 35), .load false 1, [.t 34], (some (27, true))⟩,
  ⟨(some 36), .bin .shl, [.c (.int .i64 1), .t 35], (some (27, true))⟩,
  ⟨(some 37), .faddr 3 1 false, [.t 5], (some (27, true))⟩,
  ⟨(some 38), .load false 1, [.t 37], (some (27, true))⟩,
  ⟨(some 39), .call fn_tree_Check, [.t 29, .t 31, .t 33, .t 36, .t 38], (some (27, true))⟩,
  ⟨(some 40), .pick, [.t 27, .t 39, .c (.bool false)], none⟩,
  ⟨(some 6), .mov, [.t 40], none⟩]
def c_keys_Check_r2 : List COper := a_keys_Check_r2
instance : Reg c_keys_Check_r2 a_keys_Check_r2 26 := ⟨rfl, rfl⟩
@[simp] def c_keys_Check : CCode :=
  .seq (.region c_keys_Check_r0 none [3, 4, 5]) (.seq (.region c_keys_Check_r1 none [3, 5, 7, 8]) (.seq (.region c_keys_Check_r2 (some ([0, 1, 3, 7, 15, 31, 63, 127, 255, 511, 1023, 2047, 4095, 8191, 4095, 20479, 4095, 69631, 4095, 266239, 790527, 4095, 2101247, 8388607, 16777215, 33554431], [(13, 15), (15, 17), (15, 19), (15, 22)])) [6]) (.ret)))
@[simp] def R_keys_Check : List CRes := [.tmp 6]
theorem k_keys_Check : chkFn Tryd.prog fn_keys_Check c_keys_Check R_keys_Check 3 = true := by kernel_rfl
-- NOT: 16 ('STR', '(*wapentake/ring.Ring).Skip'): Exception('op makeFunc')
/-! (*wapentake/ring.Ring).Retire -/
@[simp] def a_ring_Ring_Retire_r0 : List COper := [
  ⟨(some 3), .box, [.t 1], none⟩,
  ⟨(some 4), .mov, [.c (.int .i64 0)], none⟩]
def c_ring_Ring_Retire_r0 : List COper := a_ring_Ring_Retire_r0
instance : Reg c_ring_Ring_Retire_r0 a_ring_Ring_Retire_r0 2 := ⟨rfl, rfl⟩
@[simp] def a_ring_Ring_Retire_r1 : List COper := [
  ⟨(some 8), .mov, [.t 0], none⟩,
  ⟨(some 9), .load true 33, [.t 3], none⟩,
  ⟨(some 10), .call fn_ring_Ring_entry, [.t 8, .t 9], none⟩,
  ⟨(some 7), .mov, [.t 10], none⟩,
  ⟨(some 11), .ext 0, [.t 7], none⟩,
  ⟨(some 12), .ext 1, [.t 7], none⟩,
  ⟨(some 5), .mov, [.t 11], none⟩,
  ⟨(some 6), .mov, [.t 12], none⟩]
def c_ring_Ring_Retire_r1 : List COper := a_ring_Ring_Retire_r1
instance : Reg c_ring_Ring_Retire_r1 a_ring_Ring_Retire_r1 8 := ⟨rfl, rfl⟩
@[simp] def a_ring_Ring_Retire_r2 : List COper := [
  ⟨(some 13), .mov, [.t 6], none⟩,
  ⟨(some 14), .bin .neq, [.t 13, .c (.int .i64 0)], none⟩]
def c_ring_Ring_Retire_r2 : List COper := a_ring_Ring_Retire_r2
instance : Reg c_ring_Ring_Retire_r2 a_ring_Ring_Retire_r2 2 := ⟨rfl, rfl⟩
@[simp] def a_ring_Ring_Retire_r3 : List COper := [
  ⟨(some 15), .mov, [.t 6], none⟩,
  ⟨(some 4), .mov, [.t 15], none⟩]
def c_ring_Ring_Retire_r3 : List COper := a_ring_Ring_Retire_r3
instance : Reg c_ring_Ring_Retire_r3 a_ring_Ring_Retire_r3 2 := ⟨rfl, rfl⟩
@[simp] def a_ring_Ring_Retire_r4 : List COper := [
  ⟨(some 16), .mov, [.t 0], none⟩,
  ⟨(some 17), .nilc, [.t 16], none⟩,
  ⟨(some 18), .faddr 0 1 false, [.t 17], none⟩,
  ⟨(some 19), .load false 1, [.t 18], none⟩,
  ⟨(some 20), .load true 33, [.t 3], none⟩,
  ⟨none, .mdel (.st [.ints .u8 32, .int .i64]), [.t 19, .t 20], none⟩]
def c_ring_Ring_Retire_r4 : List COper := a_ring_Ring_Retire_r4
instance : Reg c_ring_Ring_Retire_r4 a_ring_Ring_Retire_r4 6 := ⟨rfl, rfl⟩
@[simp] def a_ring_Ring_Retire_r5 : List COper := [
  ⟨(some 4), .mov, [.c (.int .i64 0)], none⟩]
def c_ring_Ring_Retire_r5 : List COper := a_ring_Ring_Retire_r5
instance : Reg c_ring_Ring_Retire_r5 a_ring_Ring_Retire_r5 1 := ⟨rfl, rfl⟩
@[simp] def c_ring_Ring_Retire : CCode :=
  .seq (.region c_ring_Ring_Retire_r0 none [0, 3]) (.seq (.seq (.region c_ring_Ring_Retire_r1 none [0, 3, 6]) (.seq (.region c_ring_Ring_Retire_r2 none [0, 3, 6, 14]) (.cond (.t 14) (.seq (.region c_ring_Ring_Retire_r3 none [4]) (.ret)) (.skip)))) (.seq (.region c_ring_Ring_Retire_r4 (some ([0, 1, 3, 7, 0, 31], [])) []) (.seq (.region c_ring_Ring_Retire_r5 none [4]) (.ret))))
@[simp] def R_ring_Ring_Retire : List CRes := [.tmp 4]
theorem k_ring_Ring_Retire : chkFn Tryd.prog fn_ring_Ring_Retire c_ring_Ring_Retire R_ring_Ring_Retire 2 = true := by kernel_rfl
/-! wapentake/keys.New -/
@[simp] def a_keys_New_r0 : List COper := [
  ⟨(some 2), .box, [.t 0], none⟩,
  ⟨(some 4), .mov, [.c (.pointer none)], none⟩,
  ⟨(some 5), .mov, [.c (.int .i64 0)], none⟩]
def c_keys_New_r0 : List COper := a_keys_New_r0
instance : Reg c_keys_New_r0 a_keys_New_r0 3 := ⟨rfl, rfl⟩
@[simp] def a_keys_New_r1 : List COper := [
  ⟨(some 8), .mov, [.t 1], none⟩,
  ⟨(some 9), .bin .lss, [.t 8, .c (.int .i64 0)], none⟩,
  ⟨(some 10), .mov, [.t 9], none⟩,
  ⟨(some 11), .mov, [.t 1], (some (10, false))⟩,
  ⟨(some 12), .bin .gtr, [.t 11, .c (.int .i64 6)], (some (10, false))⟩,
  ⟨(some 13), .pick, [.t 10, .c (.bool true), .t 12], none⟩]
def c_keys_New_r1 : List COper := a_keys_New_r1
instance : Reg c_keys_New_r1 a_keys_New_r1 6 := ⟨rfl, rfl⟩
@[simp] def a_keys_New_r2 : List COper := [
  ⟨(some 4), .mov, [.c (.pointer none)], none⟩,
  ⟨(some 5), .mov, [.c (.int .i64 1)], none⟩]
def c_keys_New_r2 : List COper := a_keys_New_r2
instance : Reg c_keys_New_r2 a_keys_New_r2 2 := ⟨rfl, rfl⟩
@[simp] def a_keys_New_r3 : List COper := [
  ⟨(some 14), .load true 32, [.t 2], none⟩,
  ⟨(some 15), .mov, [.t 1], none⟩,
  ⟨(some 16), .build [.arr 1 (rep 32 (.v (.int .u8 0))), .v (.int .i64 0), .v (.slice none 0 0)] [0, 1], [.t 14, .t 15], none⟩,
  ⟨(some 17), .box, [.t 16], none⟩,
  ⟨(some 6), .mov, [.t 17], none⟩]
def c_keys_New_r3 : List COper := a_keys_New_r3
instance : Reg c_keys_New_r3 a_keys_New_r3 5 := ⟨rfl, rfl⟩
@[simp] def a_keys_New_r4 : List COper := [
  ⟨(some 18), .mov, [.t 1], none⟩,
  ⟨(some 19), .bin .shl, [.c (.int .i64 1), .t 18], none⟩,
  ⟨(some 20), .mov, [.c (.int .i64 0)], none⟩]
def c_keys_New_r4 : List COper := a_keys_New_r4
instance : Reg c_keys_New_r4 a_keys_New_r4 3 := ⟨rfl, rfl⟩
@[simp] def a_keys_New_r5 : List COper := [
  ⟨(some 21), .bin .lss, [.t 20, .t 19], none⟩]
def c_keys_New_r5 : List COper := a_keys_New_r5
instance : Reg c_keys_New_r5 a_keys_New_r5 1 := ⟨rfl, rfl⟩
@[simp] def a_keys_New_r6 : List COper := [
  ⟨(some 22), .mov, [.t 20], none⟩,
  ⟨(some 7), .mov, [.t 22], none⟩]
def c_keys_New_r6 : List COper := a_keys_New_r6
instance : Reg c_keys_New_r6 a_keys_New_r6 2 := ⟨rfl, rfl⟩
@[simp] def a_keys_New_r7 : List COper := [
  ⟨(some 23), .mov, [.t 6], none⟩,
  ⟨(some 24), .mov, [.t 6], none⟩,
  ⟨(some 25), .nilc, [.t 24], none⟩,
  ⟨(some 26), .faddr 33 1 false, [.t 25], none⟩,
  ⟨(some 27), .load false 1, [.t 26], none⟩,
  ⟨(some 28), .load true 32, [.t 2], none⟩,
  ⟨(some 29), .mov, [.t 7], none⟩,
  ⟨(some 30), .call fn_once_Public, [.t 28, .t 29], none⟩,
  ⟨(some 31), .call fn_keys_leaf, [.t 30], none⟩,
  ⟨(some 32), .bslice 32 1 (.arr 1 (rep 32 (.v (.int .u8 0)))) [0], [.t 31], none⟩,
  ⟨(some 33), .app 32 32, [.t 27, .t 32], none⟩,
  ⟨(some 34), .nilc, [.t 23], none⟩,
  ⟨(some 35), .faddr 33 1 false, [.t 34], none⟩,
  ⟨none, .store false 1, [.t 35, .t 33], none⟩]
def c_keys_New_r7 : List COper := a_keys_New_r7
instance : Reg c_keys_New_r7 a_keys_New_r7 14 := ⟨rfl, rfl⟩
@[simp] def a_keys_New_r8 : List COper := [
  ⟨(some 36), .bin .add, [.t 20, .c (.int .i64 1)], none⟩,
  ⟨(some 20), .mov, [.t 36], none⟩]
def c_keys_New_r8 : List COper := a_keys_New_r8
instance : Reg c_keys_New_r8 a_keys_New_r8 2 := ⟨rfl, rfl⟩
@[simp] def a_keys_New_r9 : List COper := [
  ⟨(some 37), .mov, [.t 6], none⟩,
  ⟨(some 4), .mov, [.t 37], none⟩,
  ⟨(some 5), .mov, [.c (.int .i64 0)], none⟩]
def c_keys_New_r9 : List COper := a_keys_New_r9
instance : Reg c_keys_New_r9 a_keys_New_r9 3 := ⟨rfl, rfl⟩
@[simp] def c_keys_New : CCode :=
  .seq (.region c_keys_New_r0 none [1, 2]) (.seq (.seq (.region c_keys_New_r1 none [1, 2, 13]) (.cond (.t 13) (.seq (.region c_keys_New_r2 none [4, 5]) (.ret)) (.skip))) (.seq (.region c_keys_New_r3 none [1, 2, 6]) (.seq (.seq (.region c_keys_New_r4 none [2, 6, 19, 20]) (.block 0 (.loop (.seq (.region c_keys_New_r5 none [2, 6, 19, 20, 21]) (.seq (.cond (.t 21) (.skip) (.exit 0)) (.seq (.block 1 (.seq (.region c_keys_New_r6 none [2, 6, 7, 19, 20]) (.region c_keys_New_r7 (some ([0, 0, 2, 6, 14, 0, 0, 96, 224, 480, 1022, 2047, 4095, 8191], [(4, 7), (4, 8), (4, 9)])) [2, 6, 19, 20]))) (.region c_keys_New_r8 none [2, 6, 19, 20]))))))) (.seq (.region c_keys_New_r9 none [4, 5]) (.ret)))))
@[simp] def R_keys_New : List CRes := [.tmp 4, .tmp 5]
theorem k_keys_New : chkFn Tryd.prog fn_keys_New c_keys_New R_keys_New 2 = true := by kernel_rfl
/-! (*wapentake/keys.Tree).Key -/
@[simp] def a_keys_Tree_Key_r0 : List COper := [
  ⟨(some 2), .alloc (.node [.arr 1 (rep 32 (.v (.int .u8 0))), .v (.int .i64 0)]), [], none⟩]
def c_keys_Tree_Key_r0 : List COper := a_keys_Tree_Key_r0
instance : Reg c_keys_Tree_Key_r0 a_keys_Tree_Key_r0 1 := ⟨rfl, rfl⟩
@[simp] def a_keys_Tree_Key_r1 : List COper := [
  ⟨(some 3), .mov, [.t 0], none⟩,
  ⟨(some 4), .eqp false, [.t 3, .c (.pointer none)], none⟩]
def c_keys_Tree_Key_r1 : List COper := a_keys_Tree_Key_r1
instance : Reg c_keys_Tree_Key_r1 a_keys_Tree_Key_r1 2 := ⟨rfl, rfl⟩
@[simp] def a_keys_Tree_Key_r2 : List COper := [
  ⟨(some 5), .build [.arr 1 (rep 32 (.v (.int .u8 0))), .v (.int .i64 0)] [], [], none⟩,
  ⟨none, .store true 33, [.t 2, .t 5], none⟩]
def c_keys_Tree_Key_r2 : List COper := a_keys_Tree_Key_r2
instance : Reg c_keys_Tree_Key_r2 a_keys_Tree_Key_r2 2 := ⟨rfl, rfl⟩
@[simp] def a_keys_Tree_Key_r3 : List COper := [
  ⟨(some 6), .mov, [.t 0], none⟩,
  ⟨(some 7), .nilc, [.t 6], none⟩,
  ⟨(some 8), .faddr 33 1 false, [.t 7], none⟩,
  ⟨(some 9), .load false 1, [.t 8], none⟩,
  ⟨(some 10), .call fn_tree_Root, [.t 9], none⟩,
  ⟨(some 11), .mov, [.t 0], none⟩,
  ⟨(some 12), .nilc, [.t 11], none⟩,
  ⟨(some 13), .faddr 32 1 false, [.t 12], none⟩,
  ⟨(some 14), .load false 1, [.t 13], none⟩,
  ⟨(some 15), .build [.arr 1 (rep 32 (.v (.int .u8 0))), .v (.int .i64 0)] [0, 1], [.t 10, .t 14], none⟩,
  ⟨none, .store true 33, [.t 2, .t 15], none⟩]
def c_keys_Tree_Key_r3 : List COper := a_keys_Tree_Key_r3
instance : Reg c_keys_Tree_Key_r3 a_keys_Tree_Key_r3 11 := ⟨rfl, rfl⟩
@[simp] def c_keys_Tree_Key : CCode :=
  .seq (.region c_keys_Tree_Key_r0 none [0, 2]) (.seq (.seq (.region c_keys_Tree_Key_r1 none [0, 2, 4]) (.cond (.t 4) (.seq (.region c_keys_Tree_Key_r2 none [2]) (.ret)) (.skip))) (.seq (.region c_keys_Tree_Key_r3 (some ([0, 1, 3, 7, 15, 0, 32, 96, 224, 511, 1023], [(4, 8)])) [2]) (.ret)))
@[simp] def R_keys_Tree_Key : List CRes := [.cell 2 true 33]
theorem k_keys_Tree_Key : chkFn Tryd.prog fn_keys_Tree_Key c_keys_Tree_Key R_keys_Tree_Key 1 = true := by kernel_rfl
/-! (*wapentake/ring.Ring).entry -/
@[simp] def a_ring_Ring_entry_r0 : List COper := [
  ⟨(some 3), .box, [.t 1], none⟩,
  ⟨(some 4), .mov, [.c (.pointer none)], none⟩,
  ⟨(some 5), .mov, [.c (.int .i64 0)], none⟩]
def c_ring_Ring_entry_r0 : List COper := a_ring_Ring_entry_r0
instance : Reg c_ring_Ring_entry_r0 a_ring_Ring_entry_r0 3 := ⟨rfl, rfl⟩
@[simp] def a_ring_Ring_entry_r1 : List COper := [
  ⟨(some 6), .mov, [.t 0], none⟩,
  ⟨(some 7), .eqp false, [.t 6, .c (.pointer none)], none⟩]
def c_ring_Ring_entry_r1 : List COper := a_ring_Ring_entry_r1
instance : Reg c_ring_Ring_entry_r1 a_ring_Ring_entry_r1 2 := ⟨rfl, rfl⟩
@[simp] def a_ring_Ring_entry_r2 : List COper := [
  ⟨(some 4), .mov, [.c (.pointer none)], none⟩,
  ⟨(some 5), .mov, [.c (.int .i64 2)], none⟩]
def c_ring_Ring_entry_r2 : List COper := a_ring_Ring_entry_r2
instance : Reg c_ring_Ring_entry_r2 a_ring_Ring_entry_r2 2 := ⟨rfl, rfl⟩
@[simp] def a_ring_Ring_entry_r3 : List COper := [
  ⟨(some 8), .mov, [.t 0], none⟩,
  ⟨(some 9), .nilc, [.t 8], none⟩,
  ⟨(some 10), .faddr 0 1 false, [.t 9], none⟩,
  ⟨(some 11), .load false 1, [.t 10], none⟩,
  ⟨(some 12), .load true 33, [.t 3], none⟩,
  ⟨(some 13), .mlook (.st [.ints .u8 32, .int .i64]) (.v (.pointer none)) false, [.t 11, .t 12], none⟩,
  ⟨(some 14), .eqp false, [.t 13, .c (.pointer none)], none⟩]
def c_ring_Ring_entry_r3 : List COper := a_ring_Ring_entry_r3
instance : Reg c_ring_Ring_entry_r3 a_ring_Ring_entry_r3 7 := ⟨rfl, rfl⟩
@[simp] def a_ring_Ring_entry_r4 : List COper := [
  ⟨(some 4), .mov, [.c (.pointer none)], none⟩,
  ⟨(some 5), .mov, [.c (.int .i64 7)], none⟩]
def c_ring_Ring_entry_r4 : List COper := a_ring_Ring_entry_r4
instance : Reg c_ring_Ring_entry_r4 a_ring_Ring_entry_r4 2 := ⟨rfl, rfl⟩
@[simp] def a_ring_Ring_entry_r5 : List COper := [
  ⟨(some 15), .mov, [.t 0], none⟩,
  ⟨(some 16), .nilc, [.t 15], none⟩,
  ⟨(some 17), .faddr 0 1 false, [.t 16], none⟩,
  ⟨(some 18), .load false 1, [.t 17], none⟩,
  ⟨(some 19), .load true 33, [.t 3], none⟩,
  ⟨(some 20), .mlook (.st [.ints .u8 32, .int .i64]) (.v (.pointer none)) false, [.t 18, .t 19], none⟩,
  ⟨(some 4), .mov, [.t 20], none⟩,
  ⟨(some 5), .mov, [.c (.int .i64 0)], none⟩]
def c_ring_Ring_entry_r5 : List COper := a_ring_Ring_entry_r5
instance : Reg c_ring_Ring_entry_r5 a_ring_Ring_entry_r5 8 := ⟨rfl, rfl⟩
@[simp] def c_ring_Ring_entry : CCode :=
  .seq (.region c_ring_Ring_entry_r0 none [0, 3]) (.seq (.seq (.region c_ring_Ring_entry_r1 none [0, 3, 7]) (.cond (.t 7) (.seq (.region c_ring_Ring_entry_r2 none [4, 5]) (.ret)) (.skip))) (.seq (.seq (.region c_ring_Ring_entry_r3 (some ([0, 1, 3, 7, 0, 31, 63], [])) [0, 3, 14]) (.cond (.t 14) (.seq (.region c_ring_Ring_entry_r4 none [4, 5]) (.ret)) (.skip))) (.seq (.region c_ring_Ring_entry_r5 (some ([0, 1, 3, 7, 0, 31, 63, 127], [])) [4, 5]) (.ret))))
@[simp] def R_ring_Ring_entry : List CRes := [.tmp 4, .tmp 5]
theorem k_ring_Ring_entry : chkFn Tryd.prog fn_ring_Ring_entry c_ring_Ring_entry R_ring_Ring_entry 2 = true := by kernel_rfl
/-! (*wapentake/keys.Tree).Sign -/
@[simp] def a_keys_Tree_Sign_r0 : List COper := [
  ⟨(some 5), .box, [.t 2], none⟩,
  ⟨(some 6), .alloc (.node [.v (.int .i64 0), .node [.v (.slice none 0 0), .v (.slice none 0 0)], .v (.slice none 0 0)]), [], none⟩,
  ⟨(some 7), .mov, [.c (.int .i64 0)], none⟩]
def c_keys_Tree_Sign_r0 : List COper := a_keys_Tree_Sign_r0
instance : Reg c_keys_Tree_Sign_r0 a_keys_Tree_Sign_r0 3 := ⟨rfl, rfl⟩
@[simp] def a_keys_Tree_Sign_r1 : List COper := [
  ⟨(some 10), .mov, [.t 0], none⟩,
  ⟨(some 11), .eqp false, [.t 10, .c (.pointer none)], none⟩]
def c_keys_Tree_Sign_r1 : List COper := a_keys_Tree_Sign_r1
instance : Reg c_keys_Tree_Sign_r1 a_keys_Tree_Sign_r1 2 := ⟨rfl, rfl⟩
@[simp] def a_keys_Tree_Sign_r2 : List COper := [
  ⟨(some 12), .build [.v (.int .i64 0), .node [.v (.slice none 0 0), .v (.slice none 0 0)], .v (.slice none 0 0)] [], [], none⟩,
  ⟨none, .store true 4, [.t 6, .t 12], none⟩,
  ⟨(some 7), .mov, [.c (.int .i64 2)], none⟩]
def c_keys_Tree_Sign_r2 : List COper := a_keys_Tree_Sign_r2
instance : Reg c_keys_Tree_Sign_r2 a_keys_Tree_Sign_r2 3 := ⟨rfl, rfl⟩
@[simp] def a_keys_Tree_Sign_r3 : List COper := [
  ⟨(some 14), .mov, [.t 1], none⟩,
  ⟨(some 15), .mov, [.t 0], none⟩,
  ⟨(some 16), .nilc, [.t 15], none⟩,
  ⟨(some 17), .faddr 33 1 false, [.t 16], none⟩,
  ⟨(some 18), .load false 1, [.t 17], none⟩,
  ⟨(some 19), .call fn_tree_Path, [.t 14, .t 18], none⟩,
  ⟨(some 13), .mov, [.t 19], none⟩,
  ⟨(some 20), .ext 0, [.t 13], none⟩,
  ⟨(some 21), .ext 1, [.t 13], none⟩,
  ⟨(some 8), .mov, [.t 20], none⟩,
  ⟨(some 9), .mov, [.t 21], none⟩]
def c_keys_Tree_Sign_r3 : List COper := a_keys_Tree_Sign_r3
instance : Reg c_keys_Tree_Sign_r3 a_keys_Tree_Sign_r3 11 := ⟨rfl, rfl⟩
@[simp] def a_keys_Tree_Sign_r4 : List COper := [
  ⟨(some 22), .mov, [.t 9], none⟩,
  ⟨(some 23), .not, [.t 22], none⟩]
def c_keys_Tree_Sign_r4 : List COper := a_keys_Tree_Sign_r4
instance : Reg c_keys_Tree_Sign_r4 a_keys_Tree_Sign_r4 2 := ⟨rfl, rfl⟩
@[simp] def a_keys_Tree_Sign_r5 : List COper := [
  ⟨(some 24), .build [.v (.int .i64 0), .node [.v (.slice none 0 0), .v (.slice none 0 0)], .v (.slice none 0 0)] [], [], none⟩,
  ⟨none, .store true 4, [.t 6, .t 24], none⟩,
  ⟨(some 7), .mov, [.c (.int .i64 1)], none⟩]
def c_keys_Tree_Sign_r5 : List COper := a_keys_Tree_Sign_r5
instance : Reg c_keys_Tree_Sign_r5 a_keys_Tree_Sign_r5 3 := ⟨rfl, rfl⟩
@[simp] def a_keys_Tree_Sign_r6 : List COper := [
  ⟨(some 25), .mov, [.t 1], none⟩,
  ⟨(some 26), .mov, [.t 0], none⟩,
  ⟨(some 27), .nilc, [.t 26], none⟩,
  ⟨(some 28), .faddr 0 32 true, [.t 27], none⟩,
  ⟨(some 29), .load true 32, [.t 28], none⟩,
  ⟨(some 30), .mov, [.t 1], none⟩,
  ⟨(some 31), .load true 32, [.t 5], none⟩,
  ⟨(some 32), .call fn_once_Sign, [.t 29, .t 30, .t 31], none⟩,
  ⟨(some 33), .mov, [.t 8], none⟩,
  ⟨(some 34), .build [.v (.int .i64 0), .node [.v (.slice none 0 0), .v (.slice none 0 0)], .v (.slice none 0 0)] [0, 1, 2], [.t 25, .t 32, .t 33], none⟩,
  ⟨none, .store true 4, [.t 6, .t 34], none⟩,
  ⟨(some 7), .mov, [.c (.int .i64 0)], none⟩]
def c_keys_Tree_Sign_r6 : List COper := a_keys_Tree_Sign_r6
instance : Reg c_keys_Tree_Sign_r6 a_keys_Tree_Sign_r6 12 := ⟨rfl, rfl⟩
@[simp] def c_keys_Tree_Sign : CCode :=
  .seq (.region c_keys_Tree_Sign_r0 none [0, 1, 5, 6]) (.seq (.seq (.region c_keys_Tree_Sign_r1 none [0, 1, 5, 6, 11]) (.cond (.t 11) (.seq (.region c_keys_Tree_Sign_r2 none [6, 7]) (.ret)) (.skip))) (.seq (.region c_keys_Tree_Sign_r3 none [0, 1, 5, 6, 8, 9]) (.seq (.seq (.region c_keys_Tree_Sign_r4 none [0, 1, 5, 6, 8, 23]) (.cond (.t 23) (.seq (.region c_keys_Tree_Sign_r5 none [6, 7]) (.ret)) (.skip))) (.seq (.region c_keys_Tree_Sign_r6 (some ([0, 0, 2, 6, 14, 0, 0, 126, 0, 511, 1023, 2047], [])) [6, 7]) (.ret)))))
@[simp] def R_keys_Tree_Sign : List CRes := [.cell 6 true 4, .tmp 7]
theorem k_keys_Tree_Sign : chkFn Tryd.prog fn_keys_Tree_Sign c_keys_Tree_Sign R_keys_Tree_Sign 3 = true := by kernel_rfl
/-! wapentake/once.Of -/
@[simp] def a_once_Of_r0 : List COper := [
  ⟨(some 2), .box, [.t 0], none⟩,
  ⟨(some 3), .box, [.t 1], none⟩,
  ⟨(some 4), .alloc (.arr 1 (rep 32 (.v (.int .u8 0)))), [], none⟩,
  ⟨(some 5), .mov, [.c (.bool false)], none⟩]
def c_once_Of_r0 : List COper := a_once_Of_r0
instance : Reg c_once_Of_r0 a_once_Of_r0 4 := ⟨rfl, rfl⟩
@[simp] def a_once_Of_r1 : List COper := [
  ⟨(some 10), .faddr 0 1 false, [.t 3], none⟩,
  ⟨(some 11), .load false 1, [.t 10], none⟩,
  ⟨(some 12), .len, [.t 11], none⟩,
  ⟨(some 13), .bin .neq, [.t 12, .c (.int .i64 32)], none⟩,
  ⟨(some 14), .mov, [.t 13], none⟩,
  ⟨(some 15), .faddr 1 1 false, [.t 3], (some (14, false))⟩,
  ⟨(some 16), .load false 1, [.t 15], (some (14, false))⟩,
  ⟨(some 17), .len, [.t 16], (some (14, false))⟩,
  ⟨(some 18), .bin .neq, [.t 17, .c (.int .i64 32)], (some (14, false))⟩,
  ⟨(some 19), .pick, [.t 14, .c (.bool true), .t 18], none⟩]
def c_once_Of_r1 : List COper := a_once_Of_r1
instance : Reg c_once_Of_r1 a_once_Of_r1 10 := ⟨rfl, rfl⟩
@[simp] def a_once_Of_r2 : List COper := [
  ⟨(some 20), .buildA 1 (rep 32 (.v (.int .u8 0))) [], [], none⟩,
  ⟨none, .store true 32, [.t 4, .t 20], none⟩,
  ⟨(some 5), .mov, [.c (.bool false)], none⟩]
def c_once_Of_r2 : List COper := a_once_Of_r2
instance : Reg c_once_Of_r2 a_once_Of_r2 3 := ⟨rfl, rfl⟩
@[simp] def a_once_Of_r3 : List COper := [
  ⟨(some 6), .mov, [.c (.slice none 0 0)], none⟩]
def c_once_Of_r3 : List COper := a_once_Of_r3
instance : Reg c_once_Of_r3 a_once_Of_r3 1 := ⟨rfl, rfl⟩
@[simp] def a_once_Of_r4 : List COper := [
  ⟨(some 21), .mov, [.c (.int .i64 0)], none⟩]
def c_once_Of_r4 : List COper := a_once_Of_r4
instance : Reg c_once_Of_r4 a_once_Of_r4 1 := ⟨rfl, rfl⟩
@[simp] def a_once_Of_r5 : List COper := [
  ⟨(some 22), .bin .lss, [.t 21, .c (.int .i64 32)], none⟩]
def c_once_Of_r5 : List COper := a_once_Of_r5
instance : Reg c_once_Of_r5 a_once_Of_r5 1 := ⟨rfl, rfl⟩
@[simp] def a_once_Of_r6 : List COper := [
  ⟨(some 23), .mov, [.t 21], none⟩,
  ⟨(some 7), .mov, [.t 23], none⟩]
def c_once_Of_r6 : List COper := a_once_Of_r6
instance : Reg c_once_Of_r6 a_once_Of_r6 2 := ⟨rfl, rfl⟩
@[simp] def a_once_Of_r7 : List COper := [
  ⟨(some 24), .faddr 0 1 false, [.t 3], none⟩,
  ⟨(some 25), .load false 1, [.t 24], none⟩,
  ⟨(some 26), .mov, [.t 7], none⟩,
  ⟨(some 27), .iaddr 32, [.t 25, .t 26], none⟩,
  ⟨(some 28), .load true 32, [.t 27], none⟩,
  ⟨(some 29), .call fn_once_shut, [.t 28], none⟩,
  ⟨(some 30), .faddr 1 1 false, [.t 3], none⟩,
  ⟨(some 31), .load false 1, [.t 30], none⟩,
  ⟨(some 32), .mov, [.t 7], none⟩,
  ⟨(some 33), .iaddr 32, [.t 31, .t 32], none⟩,
  ⟨(some 34), .load true 32, [.t 33], none⟩,
  ⟨(some 35), .buildA 32 (rep 2 (.arr 1 (rep 32 (.v (.int .u8 0))))) [0, 1], [.t 29, .t 34], none⟩,
  ⟨(some 8), .alloc (.arr 32 (rep 2 (.arr 1 (rep 32 (.v (.int .u8 0)))))), [], none⟩,
  ⟨none, .store true 64, [.t 8, .t 35], none⟩]
def c_once_Of_r7 : List COper := a_once_Of_r7
instance : Reg c_once_Of_r7 a_once_Of_r7 14 := ⟨rfl, rfl⟩
@[simp] def a_once_Of_r8 : List COper := [
  ⟨(some 36), .load true 32, [.t 2], none⟩,
  ⟨(some 37), .mov, [.t 7], none⟩,
  ⟨(some 38), .call fn_once_bit, [.t 36, .t 37], none⟩,
  ⟨(some 9), .mov, [.t 38], none⟩]
def c_once_Of_r8 : List COper := a_once_Of_r8
instance : Reg c_once_Of_r8 a_once_Of_r8 4 := ⟨rfl, rfl⟩
@[simp] def a_once_Of_r9 : List COper := [
  ⟨(some 39), .mov, [.t 6], none⟩,
  ⟨(some 40), .mov, [.t 9], none⟩,
  ⟨(some 41), .iaddrArr 2 32 true, [.t 8, .t 40], none⟩,
  ⟨(some 42), .load true 32, [.t 41], none⟩,
  ⟨(some 43), .mov, [.t 9], none⟩,
  ⟨(some 44), .bin .sub, [.c (.int .i64 1), .t 43], none⟩,
  ⟨(some 45), .iaddrArr 2 32 true, [.t 8, .t 44], none⟩,
  ⟨(some 46), .load true 32, [.t 45], none⟩,
  ⟨(some 47), .bslice 32 2 (.arr 1 (rep 32 (.v (.int .u8 0)))) [0, 1], [.t 42, .t 46], none⟩,
  ⟨(some 48), .app 32 32, [.t 39, .t 47], none⟩,
  ⟨(some 6), .mov, [.t 48], none⟩]
def c_once_Of_r9 : List COper := a_once_Of_r9
instance : Reg c_once_Of_r9 a_once_Of_r9 11 := ⟨rfl, rfl⟩
@[simp] def a_once_Of_r10 : List COper := [
  ⟨(some 49), .bin .add, [.t 21, .c (.int .i64 1)], none⟩,
  ⟨(some 21), .mov, [.t 49], none⟩]
def c_once_Of_r10 : List COper := a_once_Of_r10
instance : Reg c_once_Of_r10 a_once_Of_r10 2 := ⟨rfl, rfl⟩
@[simp] def a_once_Of_r11 : List COper := [
  ⟨(some 50), .mov, [.t 6], none⟩,
  ⟨(some 51), .call fn_once_whole, [.t 50], none⟩,
  ⟨none, .store true 32, [.t 4, .t 51], none⟩,
  ⟨(some 5), .mov, [.c (.bool true)], none⟩]
def c_once_Of_r11 : List COper := a_once_Of_r11
instance : Reg c_once_Of_r11 a_once_Of_r11 4 := ⟨rfl, rfl⟩
@[simp] def c_once_Of : CCode :=
  .seq (.region c_once_Of_r0 none [2, 3, 4]) (.seq (.seq (.region c_once_Of_r1 none [2, 3, 4, 19]) (.cond (.t 19) (.seq (.region c_once_Of_r2 none [4, 5]) (.ret)) (.skip))) (.seq (.region c_once_Of_r3 none [2, 3, 4, 6]) (.seq (.seq (.region c_once_Of_r4 none [2, 3, 4, 6, 21]) (.block 0 (.loop (.seq (.region c_once_Of_r5 none [2, 3, 4, 6, 21, 22]) (.seq (.cond (.t 22) (.skip) (.exit 0)) (.seq (.block 1 (.seq (.region c_once_Of_r6 none [2, 3, 4, 6, 7, 21]) (.seq (.region c_once_Of_r7 (some ([0, 1, 0, 7, 15, 31, 0, 64, 0, 448, 960, 2047, 0, 8191], [(5, 7), (5, 10), (1, 12), (4, 12), (5, 12), (7, 12), (10, 12)])) [2, 3, 4, 6, 7, 8, 21]) (.seq (.region c_once_Of_r8 none [2, 3, 4, 6, 8, 9, 21]) (.region c_once_Of_r9 (some ([0, 0, 2, 6, 0, 16, 48, 112, 254, 511, 1023], [])) [2, 3, 4, 6, 21]))))) (.region c_once_Of_r10 none [2, 3, 4, 6, 21]))))))) (.seq (.region c_once_Of_r11 none [4, 5]) (.ret)))))
@[simp] def R_once_Of : List CRes := [.cell 4 true 32, .tmp 5]
theorem k_once_Of : chkFn Tryd.prog fn_once_Of c_once_Of R_once_Of 2 = true := by kernel_rfl
/-! wapentake/tree.Check -/
@[simp] def a_tree_Check_r0 : List COper := [
  ⟨(some 5), .box, [.t 0], none⟩,
  ⟨(some 6), .box, [.t 1], none⟩,
  ⟨(some 10), .mov, [.c (.bool false)], none⟩]
def c_tree_Check_r0 : List COper := a_tree_Check_r0
instance : Reg c_tree_Check_r0 a_tree_Check_r0 3 := ⟨rfl, rfl⟩
@[simp] def a_tree_Check_r1 : List COper := [
  ⟨(some 12), .mov, [.t 2], none⟩,
  ⟨(some 13), .bin .lss, [.t 12, .c (.int .i64 0)], none⟩,
  ⟨(some 14), .mov, [.t 13], none⟩,
  ⟨(some 15), .mov, [.t 2], (some (14, false))⟩,
  ⟨(some 16), .mov, [.t 3], (some (14, false))⟩,
  ⟨(some 17), .bin .geq, [.t 15, .t 16], (some (14, false))⟩,
  ⟨(some 18), .pick, [.t 14, .c (.bool true), .t 17], none⟩]
def c_tree_Check_r1 : List COper := a_tree_Check_r1
instance : Reg c_tree_Check_r1 a_tree_Check_r1 7 := ⟨rfl, rfl⟩
@[simp] def a_tree_Check_r2 : List COper := [
  ⟨(some 10), .mov, [.c (.bool false)], none⟩]
def c_tree_Check_r2 : List COper := a_tree_Check_r2
instance : Reg c_tree_Check_r2 a_tree_Check_r2 1 := ⟨rfl, rfl⟩
@[simp] def a_tree_Check_r3 : List COper := [
  ⟨(some 19), .mov, [.t 3], none⟩,
  ⟨(some 20), .bin .gtr, [.t 19, .c (.int .i64 1)], none⟩]
def c_tree_Check_r3 : List COper := a_tree_Check_r3
instance : Reg c_tree_Check_r3 a_tree_Check_r3 2 := ⟨rfl, rfl⟩
@[simp] def a_tree_Check_r5 : List COper := [
  ⟨(some 27), .mov, [.t 2], none⟩,
  ⟨(some 28), .bin .xor, [.t 27, .c (.int .i64 1)], none⟩,
  ⟨(some 11), .mov, [.t 28], none⟩]
def c_tree_Check_r5 : List COper := a_tree_Check_r5
instance : Reg c_tree_Check_r5 a_tree_Check_r5 3 := ⟨rfl, rfl⟩
@[simp] def a_tree_Check_r6 : List COper := [
  ⟨(some 29), .mov, [.t 11], none⟩,
  ⟨(some 30), .mov, [.t 3], none⟩,
  ⟨(some 31), .bin .geq, [.t 29, .t 30], none⟩]
def c_tree_Check_r6 : List COper := a_tree_Check_r6
instance : Reg c_tree_Check_r6 a_tree_Check_r6 3 := ⟨rfl, rfl⟩
@[simp] def a_tree_Check_r7 : List COper := [
  ⟨(some 32), .mov, [.t 4], none⟩,
  ⟨(some 33), .len, [.t 32], none⟩,
  ⟨(some 34), .bin .eql, [.t 33, .c (.int .i64 0)], none⟩]
def c_tree_Check_r7 : List COper := a_tree_Check_r7
instance : Reg c_tree_Check_r7 a_tree_Check_r7 3 := ⟨rfl, rfl⟩
@[simp] def a_tree_Check_r8 : List COper := [
  ⟨(some 10), .mov, [.c (.bool false)], none⟩]
def c_tree_Check_r8 : List COper := a_tree_Check_r8
instance : Reg c_tree_Check_r8 a_tree_Check_r8 1 := ⟨rfl, rfl⟩
@[simp] def a_tree_Check_r9 : List COper := [
  ⟨(some 35), .mov, [.t 11], none⟩,
  ⟨(some 36), .mov, [.t 2], none⟩,
  ⟨(some 37), .bin .lss, [.t 35, .t 36], none⟩]
def c_tree_Check_r9 : List COper := a_tree_Check_r9
instance : Reg c_tree_Check_r9 a_tree_Check_r9 3 := ⟨rfl, rfl⟩
@[simp] def a_tree_Check_r10 : List COper := [
  ⟨(some 38), .mov, [.t 4], none⟩,
  ⟨(some 39), .iaddr 32, [.t 38, .c (.int .i64 0)], none⟩,
  ⟨(some 40), .load true 32, [.t 39], none⟩,
  ⟨(some 41), .load true 32, [.t 6], none⟩,
  ⟨(some 42), .call fn_sha_Pair, [.c (.int .u8 1), .t 40, .t 41], none⟩,
  ⟨none, .store true 32, [.t 6, .t 42], none⟩]
def c_tree_Check_r10 : List COper := a_tree_Check_r10
instance : Reg c_tree_Check_r10 a_tree_Check_r10 6 := ⟨rfl, rfl⟩
@[simp] def a_tree_Check_r11 : List COper := [
  ⟨(some 43), .load true 32, [.t 6], none⟩,
  ⟨(some 44), .mov, [.t 4], none⟩,
  ⟨(some 45), .iaddr 32, [.t 44, .c (.int .i64 0)], none⟩,
  ⟨(some 46), .load true 32, [.t 45], none⟩,
  ⟨(some 47), .call fn_sha_Pair, [.c (.int .u8 1), .t 43, .t 46], none⟩,
  ⟨none, .store true 32, [.t 6, .t 47], none⟩]
def c_tree_Check_r11 : List COper := a_tree_Check_r11
instance : Reg c_tree_Check_r11 a_tree_Check_r11 6 := ⟨rfl, rfl⟩
@[simp] def a_tree_Check_r12 : List COper := [
  ⟨(some 48), .mov, [.t 4], none⟩,
  ⟨(some 49), .slice 32 true false, [.t 48, .c (.int .i64 1)], none⟩,
  ⟨(some 4), .mov, [.t 49], none⟩]
def c_tree_Check_r12 : List COper := a_tree_Check_r12
instance : Reg c_tree_Check_r12 a_tree_Check_r12 3 := ⟨rfl, rfl⟩
@[simp] def a_tree_Check_r4 : List COper := [
  ⟨(some 21), .mov, [.t 2], none⟩,
  ⟨(some 22), .bin .quo, [.t 21, .c (.int .i64 2)], none⟩,
  ⟨(some 23), .mov, [.t 3], none⟩,
  ⟨(some 24), .bin .sub, [.t 23, .c (.int .i64 1)], none⟩,
  ⟨(some 25), .bin .quo, [.t 24, .c (.int .i64 2)], none⟩,
  ⟨(some 26), .bin .add, [.t 25, .c (.int .i64 1)], none⟩,
  ⟨(some 2), .mov, [.t 22], none⟩,
  ⟨(some 3), .mov, [.t 26], none⟩]
def c_tree_Check_r4 : List COper := a_tree_Check_r4
instance : Reg c_tree_Check_r4 a_tree_Check_r4 8 := ⟨rfl, rfl⟩
@[simp] def a_tree_Check_r13 : List COper := [
  ⟨(some 50), .mov, [.t 4], none⟩,
  ⟨(some 51), .len, [.t 50], none⟩,
  ⟨(some 52), .bin .eql, [.t 51, .c (.int .i64 0)], none⟩,
  ⟨(some 53), .mov, [.t 52], none⟩,
  ⟨(some 54), .load true 32, [.t 6], (some (53, true))⟩,
  ⟨(some 55), .load true 32, [.t 5], (some (53, true))⟩,
  ⟨(some 56), .eqa false .u8 32, [.t 54, .t 55], (some (53, true))⟩,
  ⟨(some 57), .pick, [.t 53, .t 56, .c (.bool false)], none⟩,
  ⟨(some 10), .mov, [.t 57], none⟩]
def c_tree_Check_r13 : List COper := a_tree_Check_r13
instance : Reg c_tree_Check_r13 a_tree_Check_r13 9 := ⟨rfl, rfl⟩
@[simp] def c_tree_Check : CCode :=
  .seq (.region c_tree_Check_r0 none [2, 3, 4, 5, 6]) (.seq (.seq (.region c_tree_Check_r1 none [2, 3, 4, 5, 6, 18]) (.cond (.t 18) (.seq (.region c_tree_Check_r2 none [10]) (.ret)) (.skip))) (.seq (.block 0 (.loop (.seq (.seq (.region c_tree_Check_r3 none [2, 3, 4, 5, 6, 20]) (.cond (.t 20) (.skip) (.exit 0))) (.seq (.block 1 (.seq (.region c_tree_Check_r5 none [2, 3, 4, 5, 6, 11]) (.seq (.seq (.region c_tree_Check_r6 none [2, 3, 4, 5, 6, 11, 31]) (.cond (.t 31) (.exit 1) (.skip))) (.seq (.seq (.region c_tree_Check_r7 none [2, 3, 4, 5, 6, 11, 34]) (.cond (.t 34) (.seq (.region c_tree_Check_r8 none [10]) (.ret)) (.skip))) (.seq (.seq (.region c_tree_Check_r9 none [2, 3, 4, 5, 6, 37]) (.cond (.t 37) (.region c_tree_Check_r10 (some ([0, 1, 3, 0, 15, 31], [])) [2, 3, 4, 5, 6]) (.region c_tree_Check_r11 (some ([0, 0, 2, 6, 15, 31], [])) [2, 3, 4, 5, 6]))) (.region c_tree_Check_r12 none [2, 3, 4, 5, 6])))))) (.region c_tree_Check_r4 none [2, 3, 4, 5, 6]))))) (.seq (.region c_tree_Check_r13 none [10]) (.ret))))
@[simp] def R_tree_Check : List CRes := [.tmp 10]
theorem k_tree_Check : chkFn Tryd.prog fn_tree_Check c_tree_Check R_tree_Check 5 = true := by kernel_rfl
/-! wapentake/keys.leaf -/
@[simp] def a_keys_leaf_r0 : List COper := [
  ⟨(some 1), .box, [.t 0], none⟩,
  ⟨(some 2), .alloc (.arr 1 (rep 32 (.v (.int .u8 0)))), [], none⟩]
def c_keys_leaf_r0 : List COper := a_keys_leaf_r0
instance : Reg c_keys_leaf_r0 a_keys_leaf_r0 2 := ⟨rfl, rfl⟩
@[simp] def a_keys_leaf_r1 : List COper := [
  ⟨(some 3), .sliceArr 32 1 false false, [.t 1], none⟩,
  ⟨(some 4), .call fn_tree_Leaf, [.t 3], none⟩,
  ⟨none, .store true 32, [.t 2, .t 4], none⟩]
def c_keys_leaf_r1 : List COper := a_keys_leaf_r1
instance : Reg c_keys_leaf_r1 a_keys_leaf_r1 3 := ⟨rfl, rfl⟩
@[simp] def c_keys_leaf : CCode :=
  .seq (.region c_keys_leaf_r0 none [1, 2]) (.seq (.region c_keys_leaf_r1 none [2]) (.ret))
@[simp] def R_keys_leaf : List CRes := [.cell 2 true 32]
theorem k_keys_leaf : chkFn Tryd.prog fn_keys_leaf c_keys_leaf R_keys_leaf 1 = true := by kernel_rfl
-- NOT: 35 ('STR', 'maps.DeleteFunc[map[int]bool,int,bool]'): Exception("callee ('Callee.value', ('Operand.tmp', 13))")
/-! wapentake/once.Public -/
@[simp] def a_once_Public_r0 : List COper := [
  ⟨(some 2), .box, [.t 0], none⟩,
  ⟨(some 4), .alloc (.arr 1 (rep 32 (.v (.int .u8 0)))), [], none⟩]
def c_once_Public_r0 : List COper := a_once_Public_r0
instance : Reg c_once_Public_r0 a_once_Public_r0 2 := ⟨rfl, rfl⟩
@[simp] def a_once_Public_r1 : List COper := [
  ⟨(some 5), .mov, [.c (.slice none 0 0)], none⟩]
def c_once_Public_r1 : List COper := a_once_Public_r1
instance : Reg c_once_Public_r1 a_once_Public_r1 1 := ⟨rfl, rfl⟩
@[simp] def a_once_Public_r2 : List COper := [
  ⟨(some 7), .mov, [.c (.int .i64 0)], none⟩]
def c_once_Public_r2 : List COper := a_once_Public_r2
instance : Reg c_once_Public_r2 a_once_Public_r2 1 := ⟨rfl, rfl⟩
@[simp] def a_once_Public_r3 : List COper := [
  ⟨(some 8), .bin .lss, [.t 7, .c (.int .i64 32)], none⟩]
def c_once_Public_r3 : List COper := a_once_Public_r3
instance : Reg c_once_Public_r3 a_once_Public_r3 1 := ⟨rfl, rfl⟩
@[simp] def a_once_Public_r4 : List COper := [
  ⟨(some 9), .mov, [.t 7], none⟩,
  ⟨(some 6), .mov, [.t 9], none⟩]
def c_once_Public_r4 : List COper := a_once_Public_r4
instance : Reg c_once_Public_r4 a_once_Public_r4 2 := ⟨rfl, rfl⟩
@[simp] def a_once_Public_r5 : List COper := [
  ⟨(some 10), .mov, [.t 5], none⟩,
  ⟨(some 11), .load true 32, [.t 2], none⟩,
  ⟨(some 12), .mov, [.t 1], none⟩,
  ⟨(some 13), .mov, [.t 6], none⟩,
  ⟨(some 14), .call fn_once_secret, [.t 11, .t 12, .t 13, .c (.int .i64 0)], none⟩,
  ⟨(some 15), .call fn_once_shut, [.t 14], none⟩,
  ⟨(some 16), .load true 32, [.t 2], none⟩,
  ⟨(some 17), .mov, [.t 1], none⟩,
  ⟨(some 18), .mov, [.t 6], none⟩,
  ⟨(some 19), .call fn_once_secret, [.t 16, .t 17, .t 18, .c (.int .i64 1)], none⟩,
  ⟨(some 20), .call fn_once_shut, [.t 19], none⟩,
  ⟨(some 21), .bslice 32 2 (.arr 1 (rep 32 (.v (.int .u8 0)))) [0, 1], [.t 15, .t 20], none⟩,
  ⟨(some 22), .app 32 32, [.t 10, .t 21], none⟩,
  ⟨(some 5), .mov, [.t 22], none⟩]
def c_once_Public_r5 : List COper := a_once_Public_r5
instance : Reg c_once_Public_r5 a_once_Public_r5 14 := ⟨rfl, rfl⟩
@[simp] def a_once_Public_r6 : List COper := [
  ⟨(some 23), .bin .add, [.t 7, .c (.int .i64 1)], none⟩,
  ⟨(some 7), .mov, [.t 23], none⟩]
def c_once_Public_r6 : List COper := a_once_Public_r6
instance : Reg c_once_Public_r6 a_once_Public_r6 2 := ⟨rfl, rfl⟩
@[simp] def a_once_Public_r7 : List COper := [
  ⟨(some 24), .mov, [.t 5], none⟩,
  ⟨(some 25), .call fn_once_whole, [.t 24], none⟩,
  ⟨none, .store true 32, [.t 4, .t 25], none⟩]
def c_once_Public_r7 : List COper := a_once_Public_r7
instance : Reg c_once_Public_r7 a_once_Public_r7 3 := ⟨rfl, rfl⟩
@[simp] def c_once_Public : CCode :=
  .seq (.region c_once_Public_r0 none [1, 2, 4]) (.seq (.region c_once_Public_r1 none [1, 2, 4, 5]) (.seq (.seq (.region c_once_Public_r2 none [1, 2, 4, 5, 7]) (.block 0 (.loop (.seq (.region c_once_Public_r3 none [1, 2, 4, 5, 7, 8]) (.seq (.cond (.t 8) (.skip) (.exit 0)) (.seq (.block 1 (.seq (.region c_once_Public_r4 none [1, 2, 4, 5, 6, 7]) (.region c_once_Public_r5 (some ([0, 0, 0, 0, 14, 30, 0, 0, 0, 510, 1022, 2046, 4095, 8191], [(4, 6), (5, 6)])) [1, 2, 4, 5, 7]))) (.region c_once_Public_r6 none [1, 2, 4, 5, 7]))))))) (.seq (.region c_once_Public_r7 none [4]) (.ret))))
@[simp] def R_once_Public : List CRes := [.cell 4 true 32]
theorem k_once_Public : chkFn Tryd.prog fn_once_Public c_once_Public R_once_Public 2 = true := by kernel_rfl
/-! wapentake/tree.Root -/
@[simp] def a_tree_Root_r0 : List COper := [
  ⟨(some 2), .alloc (.arr 1 (rep 32 (.v (.int .u8 0)))), [], none⟩]
def c_tree_Root_r0 : List COper := a_tree_Root_r0
instance : Reg c_tree_Root_r0 a_tree_Root_r0 1 := ⟨rfl, rfl⟩
@[simp] def a_tree_Root_r1 : List COper := [
  ⟨(some 4), .mov, [.t 0], none⟩,
  ⟨(some 5), .len, [.t 4], none⟩,
  ⟨(some 6), .bin .eql, [.t 5, .c (.int .i64 0)], none⟩]
def c_tree_Root_r1 : List COper := a_tree_Root_r1
instance : Reg c_tree_Root_r1 a_tree_Root_r1 3 := ⟨rfl, rfl⟩
@[simp] def a_tree_Root_r2 : List COper := [
  ⟨(some 7), .call fn_sha_Of, [.c (.slice none 0 0)], none⟩,
  ⟨none, .store true 32, [.t 2, .t 7], none⟩]
def c_tree_Root_r2 : List COper := a_tree_Root_r2
instance : Reg c_tree_Root_r2 a_tree_Root_r2 2 := ⟨rfl, rfl⟩
@[simp] def a_tree_Root_r3 : List COper := [
  ⟨(some 8), .bslice 32 0 (.arr 1 (rep 32 (.v (.int .u8 0)))) [], [], none⟩,
  ⟨(some 9), .mov, [.t 0], none⟩,
  ⟨(some 10), .app 32 32, [.t 8, .t 9], none⟩,
  ⟨(some 3), .mov, [.t 10], none⟩]
def c_tree_Root_r3 : List COper := a_tree_Root_r3
instance : Reg c_tree_Root_r3 a_tree_Root_r3 4 := ⟨rfl, rfl⟩
@[simp] def a_tree_Root_r4 : List COper := [
  ⟨(some 11), .mov, [.t 3], none⟩,
  ⟨(some 12), .len, [.t 11], none⟩,
  ⟨(some 13), .bin .gtr, [.t 12, .c (.int .i64 1)], none⟩]
def c_tree_Root_r4 : List COper := a_tree_Root_r4
instance : Reg c_tree_Root_r4 a_tree_Root_r4 3 := ⟨rfl, rfl⟩
@[simp] def a_tree_Root_r5 : List COper := [
  ⟨(some 14), .mov, [.t 3], none⟩,
  ⟨(some 15), .call fn_tree_up, [.t 14], none⟩,
  ⟨(some 3), .mov, [.t 15], none⟩]
def c_tree_Root_r5 : List COper := a_tree_Root_r5
instance : Reg c_tree_Root_r5 a_tree_Root_r5 3 := ⟨rfl, rfl⟩
@[simp] def a_tree_Root_r6 : List COper := [
  ⟨(some 16), .mov, [.t 3], none⟩,
  ⟨(some 17), .iaddr 32, [.t 16, .c (.int .i64 0)], none⟩,
  ⟨(some 18), .load true 32, [.t 17], none⟩,
  ⟨none, .store true 32, [.t 2, .t 18], none⟩]
def c_tree_Root_r6 : List COper := a_tree_Root_r6
instance : Reg c_tree_Root_r6 a_tree_Root_r6 4 := ⟨rfl, rfl⟩
@[simp] def c_tree_Root : CCode :=
  .seq (.region c_tree_Root_r0 none [0, 2]) (.seq (.seq (.region c_tree_Root_r1 none [0, 2, 6]) (.cond (.t 6) (.seq (.region c_tree_Root_r2 none [2]) (.ret)) (.skip))) (.seq (.region c_tree_Root_r3 none [2, 3]) (.seq (.block 0 (.loop (.seq (.seq (.region c_tree_Root_r4 none [2, 3, 13]) (.cond (.t 13) (.skip) (.exit 0))) (.block 1 (.region c_tree_Root_r5 none [2, 3]))))) (.seq (.region c_tree_Root_r6 none [2]) (.ret)))))
@[simp] def R_tree_Root : List CRes := [.cell 2 true 32]
theorem k_tree_Root : chkFn Tryd.prog fn_tree_Root c_tree_Root R_tree_Root 1 = true := by kernel_rfl
/-! wapentake/tree.Path -/
@[simp] def a_tree_Path_r0 : List COper := [
  ⟨(some 4), .mov, [.c (.slice none 0 0)], none⟩,
  ⟨(some 5), .mov, [.c (.bool false)], none⟩]
def c_tree_Path_r0 : List COper := a_tree_Path_r0
instance : Reg c_tree_Path_r0 a_tree_Path_r0 2 := ⟨rfl, rfl⟩
@[simp] def a_tree_Path_r1 : List COper := [
  ⟨(some 9), .mov, [.t 0], none⟩,
  ⟨(some 10), .bin .lss, [.t 9, .c (.int .i64 0)], none⟩,
  ⟨(some 11), .mov, [.t 10], none⟩,
  ⟨(some 12), .mov, [.t 0], (some (11, false))⟩,
  ⟨(some 13), .mov, [.t 1], (some (11, false))⟩,
  ⟨(some 14), .len, [.t 13], (some (11, false))⟩,
  ⟨(some 15), .bin .geq, [.t 12, .t 14], (some (11, false))⟩,
  ⟨(some 16), .pick, [.t 11, .c (.bool true), .t 15], none⟩]
def c_tree_Path_r1 : List COper := a_tree_Path_r1
instance : Reg c_tree_Path_r1 a_tree_Path_r1 8 := ⟨rfl, rfl⟩
@[simp] def a_tree_Path_r2 : List COper := [
  ⟨(some 4), .mov, [.c (.slice none 0 0)], none⟩,
  ⟨(some 5), .mov, [.c (.bool false)], none⟩]
def c_tree_Path_r2 : List COper := a_tree_Path_r2
instance : Reg c_tree_Path_r2 a_tree_Path_r2 2 := ⟨rfl, rfl⟩
@[simp] def a_tree_Path_r3 : List COper := [
  ⟨(some 6), .mov, [.c (.slice none 0 0)], none⟩]
def c_tree_Path_r3 : List COper := a_tree_Path_r3
instance : Reg c_tree_Path_r3 a_tree_Path_r3 1 := ⟨rfl, rfl⟩
@[simp] def a_tree_Path_r4 : List COper := [
  ⟨(some 17), .bslice 32 0 (.arr 1 (rep 32 (.v (.int .u8 0)))) [], [], none⟩,
  ⟨(some 18), .mov, [.t 1], none⟩,
  ⟨(some 19), .app 32 32, [.t 17, .t 18], none⟩,
  ⟨(some 7), .mov, [.t 19], none⟩]
def c_tree_Path_r4 : List COper := a_tree_Path_r4
instance : Reg c_tree_Path_r4 a_tree_Path_r4 4 := ⟨rfl, rfl⟩
@[simp] def a_tree_Path_r5 : List COper := [
  ⟨(some 20), .mov, [.t 7], none⟩,
  ⟨(some 21), .len, [.t 20], none⟩,
  ⟨(some 22), .bin .gtr, [.t 21, .c (.int .i64 1)], none⟩]
def c_tree_Path_r5 : List COper := a_tree_Path_r5
instance : Reg c_tree_Path_r5 a_tree_Path_r5 3 := ⟨rfl, rfl⟩
@[simp] def a_tree_Path_r7 : List COper := [
  ⟨(some 27), .mov, [.t 0], none⟩,
  ⟨(some 28), .bin .xor, [.t 27, .c (.int .i64 1)], none⟩,
  ⟨(some 8), .mov, [.t 28], none⟩]
def c_tree_Path_r7 : List COper := a_tree_Path_r7
instance : Reg c_tree_Path_r7 a_tree_Path_r7 3 := ⟨rfl, rfl⟩
@[simp] def a_tree_Path_r8 : List COper := [
  ⟨(some 29), .mov, [.t 8], none⟩,
  ⟨(some 30), .mov, [.t 7], none⟩,
  ⟨(some 31), .len, [.t 30], none⟩,
  ⟨(some 32), .bin .lss, [.t 29, .t 31], none⟩]
def c_tree_Path_r8 : List COper := a_tree_Path_r8
instance : Reg c_tree_Path_r8 a_tree_Path_r8 4 := ⟨rfl, rfl⟩
@[simp] def a_tree_Path_r9 : List COper := [
  ⟨(some 33), .mov, [.t 6], none⟩,
  ⟨(some 34), .mov, [.t 7], none⟩,
  ⟨(some 35), .mov, [.t 8], none⟩,
  ⟨(some 36), .iaddr 32, [.t 34, .t 35], none⟩,
  ⟨(some 37), .load true 32, [.t 36], none⟩,
  ⟨(some 38), .bslice 32 1 (.arr 1 (rep 32 (.v (.int .u8 0)))) [0], [.t 37], none⟩,
  ⟨(some 39), .app 32 32, [.t 33, .t 38], none⟩,
  ⟨(some 6), .mov, [.t 39], none⟩]
def c_tree_Path_r9 : List COper := a_tree_Path_r9
instance : Reg c_tree_Path_r9 a_tree_Path_r9 8 := ⟨rfl, rfl⟩
@[simp] def a_tree_Path_r6 : List COper := [
  ⟨(some 23), .mov, [.t 7], none⟩,
  ⟨(some 24), .call fn_tree_up, [.t 23], none⟩,
  ⟨(some 25), .mov, [.t 0], none⟩,
  ⟨(some 26), .bin .quo, [.t 25, .c (.int .i64 2)], none⟩,
  ⟨(some 7), .mov, [.t 24], none⟩,
  ⟨(some 0), .mov, [.t 26], none⟩]
def c_tree_Path_r6 : List COper := a_tree_Path_r6
instance : Reg c_tree_Path_r6 a_tree_Path_r6 6 := ⟨rfl, rfl⟩
@[simp] def a_tree_Path_r10 : List COper := [
  ⟨(some 40), .mov, [.t 6], none⟩,
  ⟨(some 4), .mov, [.t 40], none⟩,
  ⟨(some 5), .mov, [.c (.bool true)], none⟩]
def c_tree_Path_r10 : List COper := a_tree_Path_r10
instance : Reg c_tree_Path_r10 a_tree_Path_r10 3 := ⟨rfl, rfl⟩
@[simp] def c_tree_Path : CCode :=
  .seq (.region c_tree_Path_r0 none [0, 1]) (.seq (.seq (.region c_tree_Path_r1 none [0, 1, 16]) (.cond (.t 16) (.seq (.region c_tree_Path_r2 none [4, 5]) (.ret)) (.skip))) (.seq (.region c_tree_Path_r3 none [0, 1, 6]) (.seq (.region c_tree_Path_r4 none [0, 6, 7]) (.seq (.block 0 (.loop (.seq (.seq (.region c_tree_Path_r5 none [0, 6, 7, 22]) (.cond (.t 22) (.skip) (.exit 0))) (.seq (.block 1 (.seq (.region c_tree_Path_r7 none [0, 6, 7, 8]) (.seq (.region c_tree_Path_r8 none [0, 6, 7, 8, 32]) (.cond (.t 32) (.region c_tree_Path_r9 none [0, 6, 7]) (.skip))))) (.region c_tree_Path_r6 none [0, 6, 7]))))) (.seq (.region c_tree_Path_r10 none [4, 5]) (.ret))))))
@[simp] def R_tree_Path : List CRes := [.tmp 4, .tmp 5]
theorem k_tree_Path : chkFn Tryd.prog fn_tree_Path c_tree_Path R_tree_Path 2 = true := by kernel_rfl
/-! wapentake/once.Sign -/
@[simp] def a_once_Sign_r0 : List COper := [
  ⟨(some 3), .box, [.t 0], none⟩,
  ⟨(some 5), .box, [.t 2], none⟩,
  ⟨(some 6), .alloc (.node [.v (.slice none 0 0), .v (.slice none 0 0)]), [], none⟩]
def c_once_Sign_r0 : List COper := a_once_Sign_r0
instance : Reg c_once_Sign_r0 a_once_Sign_r0 3 := ⟨rfl, rfl⟩
@[simp] def a_once_Sign_r1 : List COper := [
  ⟨(some 7), .alloc (.node [.v (.slice none 0 0), .v (.slice none 0 0)]), [], none⟩]
def c_once_Sign_r1 : List COper := a_once_Sign_r1
instance : Reg c_once_Sign_r1 a_once_Sign_r1 1 := ⟨rfl, rfl⟩
@[simp] def a_once_Sign_r2 : List COper := [
  ⟨(some 10), .mov, [.c (.int .i64 0)], none⟩]
def c_once_Sign_r2 : List COper := a_once_Sign_r2
instance : Reg c_once_Sign_r2 a_once_Sign_r2 1 := ⟨rfl, rfl⟩
@[simp] def a_once_Sign_r3 : List COper := [
  ⟨(some 11), .bin .lss, [.t 10, .c (.int .i64 32)], none⟩]
def c_once_Sign_r3 : List COper := a_once_Sign_r3
instance : Reg c_once_Sign_r3 a_once_Sign_r3 1 := ⟨rfl, rfl⟩
@[simp] def a_once_Sign_r4 : List COper := [
  ⟨(some 12), .mov, [.t 10], none⟩,
  ⟨(some 8), .mov, [.t 12], none⟩]
def c_once_Sign_r4 : List COper := a_once_Sign_r4
instance : Reg c_once_Sign_r4 a_once_Sign_r4 2 := ⟨rfl, rfl⟩
@[simp] def a_once_Sign_r5 : List COper := [
  ⟨(some 13), .load true 32, [.t 5], none⟩,
  ⟨(some 14), .mov, [.t 8], none⟩,
  ⟨(some 15), .call fn_once_bit, [.t 13, .t 14], none⟩,
  ⟨(some 9), .mov, [.t 15], none⟩]
def c_once_Sign_r5 : List COper := a_once_Sign_r5
instance : Reg c_once_Sign_r5 a_once_Sign_r5 4 := ⟨rfl, rfl⟩
@[simp] def a_once_Sign_r6 : List COper := [
  ⟨(some 16), .faddr 0 1 false, [.t 7], none⟩,
  ⟨(some 17), .load false 1, [.t 16], none⟩,
  ⟨(some 18), .load true 32, [.t 3], none⟩,
  ⟨(some 19), .mov, [.t 1], none⟩,
  ⟨(some 20), .mov, [.t 8], none⟩,
  ⟨(some 21), .mov, [.t 9], none⟩,
  ⟨(some 22), .call fn_once_secret, [.t 18, .t 19, .t 20, .t 21], none⟩,
  ⟨(some 23), .bslice 32 1 (.arr 1 (rep 32 (.v (.int .u8 0)))) [0], [.t 22], none⟩,
  ⟨(some 24), .app 32 32, [.t 17, .t 23], none⟩,
  ⟨(some 25), .faddr 0 1 false, [.t 7], none⟩,
  ⟨none, .store false 1, [.t 25, .t 24], none⟩]
def c_once_Sign_r6 : List COper := a_once_Sign_r6
instance : Reg c_once_Sign_r6 a_once_Sign_r6 11 := ⟨rfl, rfl⟩
@[simp] def a_once_Sign_r7 : List COper := [
  ⟨(some 26), .faddr 1 1 false, [.t 7], none⟩,
  ⟨(some 27), .load false 1, [.t 26], none⟩,
  ⟨(some 28), .load true 32, [.t 3], none⟩,
  ⟨(some 29), .mov, [.t 1], none⟩,
  ⟨(some 30), .mov, [.t 8], none⟩,
  ⟨(some 31), .mov, [.t 9], none⟩,
  ⟨(some 32), .bin .sub, [.c (.int .i64 1), .t 31], none⟩,
  ⟨(some 33), .call fn_once_secret, [.t 28, .t 29, .t 30, .t 32], none⟩,
  ⟨(some 34), .call fn_once_shut, [.t 33], none⟩,
  ⟨(some 35), .bslice 32 1 (.arr 1 (rep 32 (.v (.int .u8 0)))) [0], [.t 34], none⟩,
  ⟨(some 36), .app 32 32, [.t 27, .t 35], none⟩,
  ⟨(some 37), .faddr 1 1 false, [.t 7], none⟩,
  ⟨none, .store false 1, [.t 37, .t 36], none⟩]
def c_once_Sign_r7 : List COper := a_once_Sign_r7
instance : Reg c_once_Sign_r7 a_once_Sign_r7 13 := ⟨rfl, rfl⟩
@[simp] def a_once_Sign_r8 : List COper := [
  ⟨(some 38), .bin .add, [.t 10, .c (.int .i64 1)], none⟩,
  ⟨(some 10), .mov, [.t 38], none⟩]
def c_once_Sign_r8 : List COper := a_once_Sign_r8
instance : Reg c_once_Sign_r8 a_once_Sign_r8 2 := ⟨rfl, rfl⟩
@[simp] def a_once_Sign_r9 : List COper := [
  ⟨(some 39), .load true 2, [.t 7], none⟩,
  ⟨none, .store true 2, [.t 6, .t 39], none⟩]
def c_once_Sign_r9 : List COper := a_once_Sign_r9
instance : Reg c_once_Sign_r9 a_once_Sign_r9 2 := ⟨rfl, rfl⟩
@[simp] def c_once_Sign : CCode :=
  .seq (.region c_once_Sign_r0 none [1, 3, 5, 6]) (.seq (.region c_once_Sign_r1 none [1, 3, 5, 6, 7]) (.seq (.seq (.region c_once_Sign_r2 none [1, 3, 5, 6, 7, 10]) (.block 0 (.loop (.seq (.region c_once_Sign_r3 none [1, 3, 5, 6, 7, 10, 11]) (.seq (.cond (.t 11) (.skip) (.exit 0)) (.seq (.block 1 (.seq (.region c_once_Sign_r4 none [1, 3, 5, 6, 7, 8, 10]) (.seq (.region c_once_Sign_r5 none [1, 3, 5, 6, 7, 8, 9, 10]) (.seq (.region c_once_Sign_r6 (some ([0, 1, 0, 0, 0, 0, 60, 124, 255, 511, 1023], [(1, 6), (1, 7)])) [1, 3, 5, 6, 7, 8, 9, 10]) (.region c_once_Sign_r7 (some ([0, 1, 0, 0, 0, 0, 32, 124, 252, 508, 1023, 2047, 4095], [(1, 7), (1, 8), (1, 9)])) [1, 3, 5, 6, 7, 10]))))) (.region c_once_Sign_r8 none [1, 3, 5, 6, 7, 10]))))))) (.seq (.region c_once_Sign_r9 none [6]) (.ret))))
@[simp] def R_once_Sign : List CRes := [.cell 6 true 2]
theorem k_once_Sign : chkFn Tryd.prog fn_once_Sign c_once_Sign R_once_Sign 3 = true := by kernel_rfl
/-! wapentake/once.shut -/
@[simp] def a_once_shut_r0 : List COper := [
  ⟨(some 1), .box, [.t 0], none⟩,
  ⟨(some 2), .alloc (.arr 1 (rep 32 (.v (.int .u8 0)))), [], none⟩]
def c_once_shut_r0 : List COper := a_once_shut_r0
instance : Reg c_once_shut_r0 a_once_shut_r0 2 := ⟨rfl, rfl⟩
@[simp] def a_once_shut_r1 : List COper := [
  ⟨(some 3), .sliceArr 32 1 false false, [.t 1], none⟩,
  ⟨(some 4), .bslice 1 1 (.v (.slice none 0 0)) [0], [.t 3], none⟩,
  ⟨(some 5), .call fn_sha_Of, [.t 4], none⟩,
  ⟨none, .store true 32, [.t 2, .t 5], none⟩]
def c_once_shut_r1 : List COper := a_once_shut_r1
instance : Reg c_once_shut_r1 a_once_shut_r1 4 := ⟨rfl, rfl⟩
@[simp] def c_once_shut : CCode :=
  .seq (.region c_once_shut_r0 none [1, 2]) (.seq (.region c_once_shut_r1 none [2]) (.ret))
@[simp] def R_once_shut : List CRes := [.cell 2 true 32]
theorem k_once_shut : chkFn Tryd.prog fn_once_shut c_once_shut R_once_shut 1 = true := by kernel_rfl
/-! wapentake/once.bit -/
@[simp] def a_once_bit_r0 : List COper := [
  ⟨(some 2), .box, [.t 0], none⟩,
  ⟨(some 4), .mov, [.c (.int .i64 0)], none⟩]
def c_once_bit_r0 : List COper := a_once_bit_r0
instance : Reg c_once_bit_r0 a_once_bit_r0 2 := ⟨rfl, rfl⟩
@[simp] def a_once_bit_r1 : List COper := [
  ⟨(some 5), .mov, [.t 1], none⟩,
  ⟨(some 6), .bin .quo, [.t 5, .c (.int .i64 8)], none⟩,
  ⟨(some 7), .iaddrArr 32 1 false, [.t 2, .t 6], none⟩,
  ⟨(some 8), .load false 1, [.t 7], none⟩,
  ⟨(some 9), .mov, [.t 1], none⟩,
  ⟨(some 10), .bin .rem, [.t 9, .c (.int .i64 8)], none⟩,
  ⟨(some 11), .bin .sub, [.c (.int .i64 7), .t 10], none⟩,
  ⟨(some 12), .bin .shr, [.t 8, .t 11], none⟩,
  ⟨(some 13), .convI .i64, [.t 12], none⟩,
  ⟨(some 14), .bin .and, [.t 13, .c (.int .i64 1)], none⟩,
  ⟨(some 4), .mov, [.t 14], none⟩]
def c_once_bit_r1 : List COper := a_once_bit_r1
instance : Reg c_once_bit_r1 a_once_bit_r1 11 := ⟨rfl, rfl⟩
@[simp] def c_once_bit : CCode :=
  .seq (.region c_once_bit_r0 none [1, 2]) (.seq (.region c_once_bit_r1 none [4]) (.ret))
@[simp] def R_once_bit : List CRes := [.tmp 4]
theorem k_once_bit : chkFn Tryd.prog fn_once_bit c_once_bit R_once_bit 2 = true := by kernel_rfl
/-! wapentake/once.whole -/
@[simp] def a_once_whole_r0 : List COper := [
  ⟨(some 2), .alloc (.arr 1 (rep 32 (.v (.int .u8 0)))), [], none⟩]
def c_once_whole_r0 : List COper := a_once_whole_r0
instance : Reg c_once_whole_r0 a_once_whole_r0 1 := ⟨rfl, rfl⟩
@[simp] def a_once_whole_r1 : List COper := [
  ⟨(some 4), .build [.v (.slice none 0 0)] [], [], none⟩,
  ⟨(some 5), .box, [.t 4], none⟩,
  ⟨(some 3), .mov, [.t 5], none⟩]
def c_once_whole_r1 : List COper := a_once_whole_r1
instance : Reg c_once_whole_r1 a_once_whole_r1 3 := ⟨rfl, rfl⟩
@[simp] def a_once_whole_r2 : List COper := [
  ⟨(some 6), .mov, [.t 3], none⟩,
  ⟨(some 7), .mov, [.t 0], none⟩,
  ⟨(some 8), .call fn_code_Writer_Digest, [.t 6, .t 7], none⟩]
def c_once_whole_r2 : List COper := a_once_whole_r2
instance : Reg c_once_whole_r2 a_once_whole_r2 3 := ⟨rfl, rfl⟩
@[simp] def a_once_whole_r3 : List COper := [
  ⟨(some 9), .mov, [.t 3], none⟩,
  ⟨(some 10), .call fn_code_Writer_Bytes, [.t 9], none⟩,
  ⟨(some 11), .bslice 1 1 (.v (.slice none 0 0)) [0], [.t 10], none⟩,
  ⟨(some 12), .call fn_sha_Of, [.t 11], none⟩,
  ⟨none, .store true 32, [.t 2, .t 12], none⟩]
def c_once_whole_r3 : List COper := a_once_whole_r3
instance : Reg c_once_whole_r3 a_once_whole_r3 5 := ⟨rfl, rfl⟩
@[simp] def c_once_whole : CCode :=
  .seq (.region c_once_whole_r0 none [0, 2]) (.seq (.region c_once_whole_r1 none [0, 2, 3]) (.seq (.region c_once_whole_r2 none [2, 3]) (.seq (.region c_once_whole_r3 none [2]) (.ret))))
@[simp] def R_once_whole : List CRes := [.cell 2 true 32]
theorem k_once_whole : chkFn Tryd.prog fn_once_whole c_once_whole R_once_whole 1 = true := by kernel_rfl
/-! wapentake/sha.Pair -/
@[simp] def a_sha_Pair_r0 : List COper := [
  ⟨(some 4), .box, [.t 1], none⟩,
  ⟨(some 5), .box, [.t 2], none⟩,
  ⟨(some 6), .alloc (.arr 1 (rep 32 (.v (.int .u8 0)))), [], none⟩]
def c_sha_Pair_r0 : List COper := a_sha_Pair_r0
instance : Reg c_sha_Pair_r0 a_sha_Pair_r0 3 := ⟨rfl, rfl⟩
@[simp] def a_sha_Pair_r1 : List COper := [
  ⟨(some 7), .mov, [.t 0], none⟩,
  ⟨(some 8), .bslice 1 1 (.v (.int .u8 0)) [0], [.t 7], none⟩,
  ⟨(some 9), .sliceArr 32 1 false false, [.t 4], none⟩,
  ⟨(some 10), .sliceArr 32 1 false false, [.t 5], none⟩,
  ⟨(some 11), .bslice 1 3 (.v (.slice none 0 0)) [0, 1, 2], [.t 8, .t 9, .t 10], none⟩,
  ⟨(some 12), .call fn_sha_Of, [.t 11], none⟩,
  ⟨none, .store true 32, [.t 6, .t 12], none⟩]
def c_sha_Pair_r1 : List COper := a_sha_Pair_r1
instance : Reg c_sha_Pair_r1 a_sha_Pair_r1 7 := ⟨rfl, rfl⟩
@[simp] def c_sha_Pair : CCode :=
  .seq (.region c_sha_Pair_r0 none [0, 4, 5, 6]) (.seq (.region c_sha_Pair_r1 (some ([0, 1, 0, 0, 15, 31, 63], [])) [6]) (.ret))
@[simp] def R_sha_Pair : List CRes := [.cell 6 true 32]
theorem k_sha_Pair : chkFn Tryd.prog fn_sha_Pair c_sha_Pair R_sha_Pair 3 = true := by kernel_rfl
/-! wapentake/tree.Leaf -/
@[simp] def a_tree_Leaf_r0 : List COper := [
  ⟨(some 2), .alloc (.arr 1 (rep 32 (.v (.int .u8 0)))), [], none⟩]
def c_tree_Leaf_r0 : List COper := a_tree_Leaf_r0
instance : Reg c_tree_Leaf_r0 a_tree_Leaf_r0 1 := ⟨rfl, rfl⟩
@[simp] def a_tree_Leaf_r1 : List COper := [
  ⟨(some 3), .bslice 1 1 (.v (.int .u8 0)) [0], [.c (.int .u8 0)], none⟩,
  ⟨(some 4), .mov, [.t 0], none⟩,
  ⟨(some 5), .bslice 1 2 (.v (.slice none 0 0)) [0, 1], [.t 3, .t 4], none⟩,
  ⟨(some 6), .call fn_sha_Of, [.t 5], none⟩,
  ⟨none, .store true 32, [.t 2, .t 6], none⟩]
def c_tree_Leaf_r1 : List COper := a_tree_Leaf_r1
instance : Reg c_tree_Leaf_r1 a_tree_Leaf_r1 5 := ⟨rfl, rfl⟩
@[simp] def c_tree_Leaf : CCode :=
  .seq (.region c_tree_Leaf_r0 none [0, 2]) (.seq (.region c_tree_Leaf_r1 none [2]) (.ret))
@[simp] def R_tree_Leaf : List CRes := [.cell 2 true 32]
theorem k_tree_Leaf : chkFn Tryd.prog fn_tree_Leaf c_tree_Leaf R_tree_Leaf 1 = true := by kernel_rfl
/-! wapentake/once.secret -/
@[simp] def a_once_secret_r0 : List COper := [
  ⟨(some 4), .box, [.t 0], none⟩,
  ⟨(some 8), .alloc (.arr 1 (rep 32 (.v (.int .u8 0)))), [], none⟩]
def c_once_secret_r0 : List COper := a_once_secret_r0
instance : Reg c_once_secret_r0 a_once_secret_r0 2 := ⟨rfl, rfl⟩
@[simp] def a_once_secret_r1 : List COper := [
  ⟨(some 9), .alloc (.arr 1 (rep 16 (.v (.int .u8 0)))), [], none⟩]
def c_once_secret_r1 : List COper := a_once_secret_r1
instance : Reg c_once_secret_r1 a_once_secret_r1 1 := ⟨rfl, rfl⟩
@[simp] def a_once_secret_r2 : List COper := [
  ⟨(some 11), .mov, [.c (.int .i64 0)], none⟩]
def c_once_secret_r2 : List COper := a_once_secret_r2
instance : Reg c_once_secret_r2 a_once_secret_r2 1 := ⟨rfl, rfl⟩
@[simp] def a_once_secret_r3 : List COper := [
  ⟨(some 12), .bin .lss, [.t 11, .c (.int .i64 8)], none⟩]
def c_once_secret_r3 : List COper := a_once_secret_r3
instance : Reg c_once_secret_r3 a_once_secret_r3 1 := ⟨rfl, rfl⟩
@[simp] def a_once_secret_r4 : List COper := [
  ⟨(some 13), .mov, [.t 11], none⟩,
  ⟨(some 10), .mov, [.t 13], none⟩]
def c_once_secret_r4 : List COper := a_once_secret_r4
instance : Reg c_once_secret_r4 a_once_secret_r4 2 := ⟨rfl, rfl⟩
@[simp] def a_once_secret_r5 : List COper := [
  ⟨(some 14), .mov, [.t 10], none⟩,
  ⟨(some 15), .mov, [.t 10], none⟩,
  ⟨(some 16), .bin .add, [.c (.int .i64 8), .t 15], none⟩,
  ⟨(some 17), .mov, [.t 1], none⟩,
  ⟨(some 18), .convI .u64, [.t 17], none⟩,
  ⟨(some 19), .mov, [.t 10], none⟩,
  ⟨(some 20), .bin .mul, [.c (.int .i64 8), .t 19], none⟩,
  ⟨(some 21), .bin .sub, [.c (.int .i64 56), .t 20], none⟩,
  ⟨(some 22), .bin .shr, [.t 18, .t 21], none⟩,
  ⟨(some 23), .convI .u8, [.t 22], none⟩,
  ⟨(some 24), .mov, [.t 2], none⟩,
  ⟨(some 25), .bin .mul, [.c (.int .i64 2), .t 24], none⟩,
  ⟨(some 26), .mov, [.t 3], none⟩,
  ⟨(some 27), .bin .add, [.t 25, .t 26], none⟩,
  ⟨(some 28), .convI .u64, [.t 27], none⟩,
  ⟨(some 29), .mov, [.t 10], none⟩,
  ⟨(some 30), .bin .mul, [.c (.int .i64 8), .t 29], none⟩,
  ⟨(some 31), .bin .sub, [.c (.int .i64 56), .t 30], none⟩,
  ⟨(some 32), .bin .shr, [.t 28, .t 31], none⟩,
  ⟨(some 33), .convI .u8, [.t 32], none⟩,
  ⟨(some 34), .iaddrArr 16 1 false, [.t 9, .t 14], none⟩,
  ⟨none, .store false 1, [.t 34, .t 23], none⟩,
  ⟨(some 35), .iaddrArr 16 1 false, [.t 9, .t 16], none⟩,
  ⟨none, .store false 1, [.t 35, .t 33], none⟩]
def c_once_secret_r5 : List COper := a_once_secret_r5
instance : Reg c_once_secret_r5 a_once_secret_r5 24 := ⟨rfl, rfl⟩
@[simp] def a_once_secret_r6 : List COper := [
  ⟨(some 36), .bin .add, [.t 11, .c (.int .i64 1)], none⟩,
  ⟨(some 11), .mov, [.t 36], none⟩]
def c_once_secret_r6 : List COper := a_once_secret_r6
instance : Reg c_once_secret_r6 a_once_secret_r6 2 := ⟨rfl, rfl⟩
@[simp] def a_once_secret_r7 : List COper := [
  ⟨(some 37), .bslice 1 1 (.v (.int .u8 0)) [0], [.c (.int .u8 2)], none⟩,
  ⟨(some 38), .sliceArr 32 1 false false, [.t 4], none⟩,
  ⟨(some 39), .sliceArr 16 1 false false, [.t 9], none⟩,
  ⟨(some 40), .bslice 1 3 (.v (.slice none 0 0)) [0, 1, 2], [.t 37, .t 38, .t 39], none⟩,
  ⟨(some 41), .call fn_sha_Of, [.t 40], none⟩,
  ⟨none, .store true 32, [.t 8, .t 41], none⟩]
def c_once_secret_r7 : List COper := a_once_secret_r7
instance : Reg c_once_secret_r7 a_once_secret_r7 6 := ⟨rfl, rfl⟩
@[simp] def c_once_secret : CCode :=
  .seq (.region c_once_secret_r0 none [1, 2, 3, 4, 8]) (.seq (.region c_once_secret_r1 none [1, 2, 3, 4, 8, 9]) (.seq (.seq (.region c_once_secret_r2 none [1, 2, 3, 4, 8, 9, 11]) (.block 0 (.loop (.seq (.region c_once_secret_r3 none [1, 2, 3, 4, 8, 9, 11, 12]) (.seq (.cond (.t 12) (.skip) (.exit 0)) (.seq (.block 1 (.seq (.region c_once_secret_r4 none [1, 2, 3, 4, 8, 9, 10, 11]) (.region c_once_secret_r5 (some ([0, 0, 2, 0, 8, 0, 32, 96, 248, 504, 0, 1024, 0, 7168, 15360, 0, 32768, 98304, 261120, 523264, 1017, 1049593, 4194303, 8388607], [])) [1, 2, 3, 4, 8, 9, 11]))) (.region c_once_secret_r6 none [1, 2, 3, 4, 8, 9, 11]))))))) (.seq (.region c_once_secret_r7 (some ([0, 0, 0, 7, 15, 31], [])) [8]) (.ret))))
@[simp] def R_once_secret : List CRes := [.cell 8 true 32]
theorem k_once_secret : chkFn Tryd.prog fn_once_secret c_once_secret R_once_secret 4 = true := by kernel_rfl
/-! wapentake/sha.Of -/
@[simp] def a_sha_Of_r0 : List COper := [
  ⟨(some 2), .alloc (.arr 1 (rep 32 (.v (.int .u8 0)))), [], none⟩]
def c_sha_Of_r0 : List COper := a_sha_Of_r0
instance : Reg c_sha_Of_r0 a_sha_Of_r0 1 := ⟨rfl, rfl⟩
@[simp] def a_sha_Of_r1 : List COper := [
  ⟨(some 13), .buildA 1 (rep 8 (.v (.int .u32 0))) (upTo 8), [.c (.int .u32 1779033703), .c (.int .u32 3144134277), .c (.int .u32 1013904242), .c (.int .u32 2773480762), .c (.int .u32 1359893119), .c (.int .u32 2600822924), .c (.int .u32 528734635), .c (.int .u32 1541459225)], none⟩,
  ⟨(some 3), .alloc (.arr 1 (rep 8 (.v (.int .u32 0)))), [], none⟩,
  ⟨none, .store true 8, [.t 3, .t 13], none⟩]
def c_sha_Of_r1 : List COper := a_sha_Of_r1
instance : Reg c_sha_Of_r1 a_sha_Of_r1 3 := ⟨rfl, rfl⟩
@[simp] def a_sha_Of_r2 : List COper := [
  ⟨(some 4), .alloc (.arr 1 (rep 64 (.v (.int .u8 0)))), [], none⟩]
def c_sha_Of_r2 : List COper := a_sha_Of_r2
instance : Reg c_sha_Of_r2 a_sha_Of_r2 1 := ⟨rfl, rfl⟩
@[simp] def a_sha_Of_r3 : List COper := [
  ⟨(some 5), .mov, [.c (.int .i64 0)], none⟩,
  ⟨(some 6), .mov, [.c (.int .i64 0)], none⟩]
def c_sha_Of_r3 : List COper := a_sha_Of_r3
instance : Reg c_sha_Of_r3 a_sha_Of_r3 2 := ⟨rfl, rfl⟩
@[simp] def a_sha_Of_r4 : List COper := [
  ⟨(some 14), .mov, [.t 0], none⟩,
  ⟨(some 15), .len, [.t 14], none⟩,
  ⟨(some 16), .mov, [.c (.int .i64 0)], none⟩]
def c_sha_Of_r4 : List COper := a_sha_Of_r4
instance : Reg c_sha_Of_r4 a_sha_Of_r4 3 := ⟨rfl, rfl⟩
@[simp] def a_sha_Of_r5 : List COper := [
  ⟨(some 17), .bin .lss, [.t 16, .t 15], none⟩]
def c_sha_Of_r5 : List COper := a_sha_Of_r5
instance : Reg c_sha_Of_r5 a_sha_Of_r5 1 := ⟨rfl, rfl⟩
@[simp] def a_sha_Of_r6 : List COper := [
  ⟨(some 18), .iaddr 1, [.t 14, .t 16], none⟩,
  ⟨(some 19), .load false 1, [.t 18], none⟩,
  ⟨(some 8), .mov, [.t 19], none⟩]
def c_sha_Of_r6 : List COper := a_sha_Of_r6
instance : Reg c_sha_Of_r6 a_sha_Of_r6 3 := ⟨rfl, rfl⟩
@[simp] def a_sha_Of_r7 : List COper := [
  ⟨(some 20), .mov, [.t 5], none⟩,
  ⟨(some 21), .mov, [.t 8], none⟩,
  ⟨(some 22), .len, [.t 21], none⟩,
  ⟨(some 23), .bin .add, [.t 20, .t 22], none⟩,
  ⟨(some 5), .mov, [.t 23], none⟩]
def c_sha_Of_r7 : List COper := a_sha_Of_r7
instance : Reg c_sha_Of_r7 a_sha_Of_r7 5 := ⟨rfl, rfl⟩
@[simp] def a_sha_Of_r8 : List COper := [
  ⟨(some 24), .mov, [.t 8], none⟩,
  ⟨(some 25), .len, [.t 24], none⟩,
  ⟨(some 26), .bin .gtr, [.t 25, .c (.int .i64 0)], none⟩]
def c_sha_Of_r8 : List COper := a_sha_Of_r8
instance : Reg c_sha_Of_r8 a_sha_Of_r8 3 := ⟨rfl, rfl⟩
@[simp] def a_sha_Of_r9 : List COper := [
  ⟨(some 27), .mov, [.t 6], none⟩,
  ⟨(some 28), .sliceArr 64 1 true false, [.t 4, .t 27], none⟩,
  ⟨(some 29), .mov, [.t 8], none⟩,
  ⟨(some 30), .copy 1, [.t 28, .t 29], none⟩,
  ⟨(some 9), .mov, [.t 30], none⟩]
def c_sha_Of_r9 : List COper := a_sha_Of_r9
instance : Reg c_sha_Of_r9 a_sha_Of_r9 5 := ⟨rfl, rfl⟩
@[simp] def a_sha_Of_r10 : List COper := [
  ⟨(some 31), .mov, [.t 6], none⟩,
  ⟨(some 32), .mov, [.t 9], none⟩,
  ⟨(some 33), .bin .add, [.t 31, .t 32], none⟩,
  ⟨(some 34), .mov, [.t 8], none⟩,
  ⟨(some 35), .mov, [.t 9], none⟩,
  ⟨(some 36), .slice 1 true false, [.t 34, .t 35], none⟩,
  ⟨(some 6), .mov, [.t 33], none⟩,
  ⟨(some 8), .mov, [.t 36], none⟩]
def c_sha_Of_r10 : List COper := a_sha_Of_r10
instance : Reg c_sha_Of_r10 a_sha_Of_r10 8 := ⟨rfl, rfl⟩
@[simp] def a_sha_Of_r11 : List COper := [
  ⟨(some 37), .mov, [.t 6], none⟩,
  ⟨(some 38), .bin .eql, [.t 37, .c (.int .i64 64)], none⟩]
def c_sha_Of_r11 : List COper := a_sha_Of_r11
instance : Reg c_sha_Of_r11 a_sha_Of_r11 2 := ⟨rfl, rfl⟩
@[simp] def a_sha_Of_r12 : List COper := [
  ⟨(some 39), .sliceArr 64 1 false false, [.t 4], none⟩,
  ⟨(some 40), .call fn_sha_state_block, [.t 3, .t 39], none⟩]
def c_sha_Of_r12 : List COper := a_sha_Of_r12
instance : Reg c_sha_Of_r12 a_sha_Of_r12 2 := ⟨rfl, rfl⟩
@[simp] def a_sha_Of_r13 : List COper := [
  ⟨(some 6), .mov, [.c (.int .i64 0)], none⟩]
def c_sha_Of_r13 : List COper := a_sha_Of_r13
instance : Reg c_sha_Of_r13 a_sha_Of_r13 1 := ⟨rfl, rfl⟩
@[simp] def a_sha_Of_r14 : List COper := [
  ⟨(some 41), .bin .add, [.t 16, .c (.int .i64 1)], none⟩,
  ⟨(some 16), .mov, [.t 41], none⟩]
def c_sha_Of_r14 : List COper := a_sha_Of_r14
instance : Reg c_sha_Of_r14 a_sha_Of_r14 2 := ⟨rfl, rfl⟩
@[simp] def a_sha_Of_r15 : List COper := [
  ⟨(some 42), .mov, [.t 6], none⟩,
  ⟨(some 43), .iaddrArr 64 1 false, [.t 4, .t 42], none⟩,
  ⟨none, .store false 1, [.t 43, .c (.int .u8 128)], none⟩]
def c_sha_Of_r15 : List COper := a_sha_Of_r15
instance : Reg c_sha_Of_r15 a_sha_Of_r15 3 := ⟨rfl, rfl⟩
@[simp] def a_sha_Of_r16 : List COper := [
  ⟨(some 44), .mov, [.t 6], none⟩,
  ⟨(some 45), .bin .add, [.t 44, .c (.int .i64 1)], none⟩,
  ⟨(some 46), .sliceArr 64 1 true false, [.t 4, .t 45], none⟩,
  ⟨none, .clear 1 (.v (.int .u8 0)), [.t 46], none⟩]
def c_sha_Of_r16 : List COper := a_sha_Of_r16
instance : Reg c_sha_Of_r16 a_sha_Of_r16 4 := ⟨rfl, rfl⟩
@[simp] def a_sha_Of_r17 : List COper := [
  ⟨(some 47), .mov, [.t 6], none⟩,
  ⟨(some 48), .bin .geq, [.t 47, .c (.int .i64 56)], none⟩]
def c_sha_Of_r17 : List COper := a_sha_Of_r17
instance : Reg c_sha_Of_r17 a_sha_Of_r17 2 := ⟨rfl, rfl⟩
@[simp] def a_sha_Of_r18 : List COper := [
  ⟨(some 49), .sliceArr 64 1 false false, [.t 4], none⟩,
  ⟨(some 50), .call fn_sha_state_block, [.t 3, .t 49], none⟩]
def c_sha_Of_r18 : List COper := a_sha_Of_r18
instance : Reg c_sha_Of_r18 a_sha_Of_r18 2 := ⟨rfl, rfl⟩
@[simp] def a_sha_Of_r19 : List COper := [
  ⟨(some 51), .sliceArr 64 1 false false, [.t 4], none⟩,
  ⟨none, .clear 1 (.v (.int .u8 0)), [.t 51], none⟩]
def c_sha_Of_r19 : List COper := a_sha_Of_r19
instance : Reg c_sha_Of_r19 a_sha_Of_r19 2 := ⟨rfl, rfl⟩
@[simp] def a_sha_Of_r20 : List COper := [
  ⟨(some 52), .mov, [.c (.int .i64 0)], none⟩]
def c_sha_Of_r20 : List COper := a_sha_Of_r20
instance : Reg c_sha_Of_r20 a_sha_Of_r20 1 := ⟨rfl, rfl⟩
@[simp] def a_sha_Of_r21 : List COper := [
  ⟨(some 53), .bin .lss, [.t 52, .c (.int .i64 8)], none⟩]
def c_sha_Of_r21 : List COper := a_sha_Of_r21
instance : Reg c_sha_Of_r21 a_sha_Of_r21 1 := ⟨rfl, rfl⟩
@[simp] def a_sha_Of_r22 : List COper := [
  ⟨(some 54), .mov, [.t 52], none⟩,
  ⟨(some 10), .mov, [.t 54], none⟩]
def c_sha_Of_r22 : List COper := a_sha_Of_r22
instance : Reg c_sha_Of_r22 a_sha_Of_r22 2 := ⟨rfl, rfl⟩
@[simp] def a_sha_Of_r23 : List COper := [
  ⟨(some 55), .mov, [.t 10], none⟩,
  ⟨(some 56), .bin .add, [.c (.int .i64 56), .t 55], none⟩,
  ⟨(some 57), .mov, [.t 5], none⟩,
  ⟨(some 58), .convI .u64, [.t 57], none⟩,
  ⟨(some 59), .bin .shl, [.t 58, .c (.int .u64 3)], none⟩,
  ⟨(some 60), .mov, [.t 10], none⟩,
  ⟨(some 61), .bin .mul, [.c (.int .i64 8), .t 60], none⟩,
  ⟨(some 62), .bin .sub, [.c (.int .i64 56), .t 61], none⟩,
  ⟨(some 63), .bin .shr, [.t 59, .t 62], none⟩,
  ⟨(some 64), .convI .u8, [.t 63], none⟩,
  ⟨(some 65), .iaddrArr 64 1 false, [.t 4, .t 56], none⟩,
  ⟨none, .store false 1, [.t 65, .t 64], none⟩]
def c_sha_Of_r23 : List COper := a_sha_Of_r23
instance : Reg c_sha_Of_r23 a_sha_Of_r23 12 := ⟨rfl, rfl⟩
@[simp] def a_sha_Of_r24 : List COper := [
  ⟨(some 66), .bin .add, [.t 52, .c (.int .i64 1)], none⟩,
  ⟨(some 52), .mov, [.t 66], none⟩]
def c_sha_Of_r24 : List COper := a_sha_Of_r24
instance : Reg c_sha_Of_r24 a_sha_Of_r24 2 := ⟨rfl, rfl⟩
@[simp] def a_sha_Of_r25 : List COper := [
  ⟨(some 67), .sliceArr 64 1 false false, [.t 4], none⟩,
  ⟨(some 68), .call fn_sha_state_block, [.t 3, .t 67], none⟩]
def c_sha_Of_r25 : List COper := a_sha_Of_r25
instance : Reg c_sha_Of_r25 a_sha_Of_r25 2 := ⟨rfl, rfl⟩
@[simp] def a_sha_Of_r26 : List COper := [
  ⟨(some 11), .alloc (.arr 1 (rep 32 (.v (.int .u8 0)))), [], none⟩]
def c_sha_Of_r26 : List COper := a_sha_Of_r26
instance : Reg c_sha_Of_r26 a_sha_Of_r26 1 := ⟨rfl, rfl⟩
@[simp] def a_sha_Of_r27 : List COper := [
  ⟨(some 69), .mov, [.c (.int .i64 0)], none⟩]
def c_sha_Of_r27 : List COper := a_sha_Of_r27
instance : Reg c_sha_Of_r27 a_sha_Of_r27 1 := ⟨rfl, rfl⟩
@[simp] def a_sha_Of_r28 : List COper := [
  ⟨(some 70), .bin .lss, [.t 69, .c (.int .i64 32)], none⟩]
def c_sha_Of_r28 : List COper := a_sha_Of_r28
instance : Reg c_sha_Of_r28 a_sha_Of_r28 1 := ⟨rfl, rfl⟩
@[simp] def a_sha_Of_r29 : List COper := [
  ⟨(some 71), .mov, [.t 69], none⟩,
  ⟨(some 12), .mov, [.t 71], none⟩]
def c_sha_Of_r29 : List COper := a_sha_Of_r29
instance : Reg c_sha_Of_r29 a_sha_Of_r29 2 := ⟨rfl, rfl⟩
@[simp] def a_sha_Of_r30 : List COper := [
  ⟨(some 72), .mov, [.t 12], none⟩,
  ⟨(some 73), .mov, [.t 12], none⟩,
  ⟨(some 74), .bin .quo, [.t 73, .c (.int .i64 4)], none⟩,
  ⟨(some 75), .iaddrArr 8 1 false, [.t 3, .t 74], none⟩,
  ⟨(some 76), .load false 1, [.t 75], none⟩,
  ⟨(some 77), .mov, [.t 12], none⟩,
  ⟨(some 78), .bin .rem, [.t 77, .c (.int .i64 4)], none⟩,
  ⟨(some 79), .bin .mul, [.c (.int .i64 8), .t 78], none⟩,
  ⟨(some 80), .bin .sub, [.c (.int .i64 24), .t 79], none⟩,
  ⟨(some 81), .bin .shr, [.t 76, .t 80], none⟩,
  ⟨(some 82), .convI .u8, [.t 81], none⟩,
  ⟨(some 83), .iaddrArr 32 1 false, [.t 11, .t 72], none⟩,
  ⟨none, .store false 1, [.t 83, .t 82], none⟩]
def c_sha_Of_r30 : List COper := a_sha_Of_r30
instance : Reg c_sha_Of_r30 a_sha_Of_r30 13 := ⟨rfl, rfl⟩
@[simp] def a_sha_Of_r31 : List COper := [
  ⟨(some 84), .bin .add, [.t 69, .c (.int .i64 1)], none⟩,
  ⟨(some 69), .mov, [.t 84], none⟩]
def c_sha_Of_r31 : List COper := a_sha_Of_r31
instance : Reg c_sha_Of_r31 a_sha_Of_r31 2 := ⟨rfl, rfl⟩
@[simp] def a_sha_Of_r32 : List COper := [
  ⟨(some 85), .load true 32, [.t 11], none⟩,
  ⟨none, .store true 32, [.t 2, .t 85], none⟩]
def c_sha_Of_r32 : List COper := a_sha_Of_r32
instance : Reg c_sha_Of_r32 a_sha_Of_r32 2 := ⟨rfl, rfl⟩
@[simp] def c_sha_Of : CCode :=
  .seq (.region c_sha_Of_r0 none [0, 2]) (.seq (.region c_sha_Of_r1 none [0, 2, 3]) (.seq (.region c_sha_Of_r2 none [0, 2, 3, 4]) (.seq (.region c_sha_Of_r3 none [0, 2, 3, 4, 5, 6]) (.seq (.seq (.region c_sha_Of_r4 none [2, 3, 4, 5, 6, 14, 15, 16]) (.block 0 (.loop (.seq (.region c_sha_Of_r5 none [2, 3, 4, 5, 6, 14, 15, 16, 17]) (.seq (.cond (.t 17) (.skip) (.exit 0)) (.seq (.block 1 (.seq (.region c_sha_Of_r6 none [2, 3, 4, 5, 6, 8, 14, 15, 16]) (.seq (.region c_sha_Of_r7 none [2, 3, 4, 5, 6, 8, 14, 15, 16]) (.block 2 (.loop (.seq (.seq (.region c_sha_Of_r8 none [2, 3, 4, 5, 6, 8, 14, 15, 16, 26]) (.cond (.t 26) (.skip) (.exit 2))) (.block 3 (.seq (.region c_sha_Of_r9 none [2, 3, 4, 5, 6, 8, 9, 14, 15, 16]) (.seq (.region c_sha_Of_r10 (some ([0, 0, 3, 0, 0, 24, 7, 127], [])) [2, 3, 4, 5, 6, 8, 14, 15, 16]) (.seq (.region c_sha_Of_r11 none [2, 3, 4, 5, 6, 8, 14, 15, 16, 38]) (.cond (.t 38) (.seq (.region c_sha_Of_r12 none [2, 3, 4, 5, 8, 14, 15, 16]) (.region c_sha_Of_r13 none [2, 3, 4, 5, 6, 8, 14, 15, 16])) (.skip)))))))))))) (.region c_sha_Of_r14 none [2, 3, 4, 5, 6, 14, 15, 16]))))))) (.seq (.region c_sha_Of_r15 none [2, 3, 4, 5, 6]) (.seq (.region c_sha_Of_r16 none [2, 3, 4, 5, 6]) (.seq (.seq (.region c_sha_Of_r17 none [2, 3, 4, 5, 48]) (.cond (.t 48) (.seq (.region c_sha_Of_r18 none [2, 3, 4, 5]) (.region c_sha_Of_r19 none [2, 3, 4, 5])) (.skip))) (.seq (.seq (.region c_sha_Of_r20 none [2, 3, 4, 5, 52]) (.block 4 (.loop (.seq (.region c_sha_Of_r21 none [2, 3, 4, 5, 52, 53]) (.seq (.cond (.t 53) (.skip) (.exit 4)) (.seq (.block 5 (.seq (.region c_sha_Of_r22 none [2, 3, 4, 5, 10, 52]) (.region c_sha_Of_r23 none [2, 3, 4, 5, 52]))) (.region c_sha_Of_r24 none [2, 3, 4, 5, 52]))))))) (.seq (.region c_sha_Of_r25 none [2, 3]) (.seq (.region c_sha_Of_r26 none [2, 3, 11]) (.seq (.seq (.region c_sha_Of_r27 none [2, 3, 11, 69]) (.block 6 (.loop (.seq (.region c_sha_Of_r28 none [2, 3, 11, 69, 70]) (.seq (.cond (.t 70) (.skip) (.exit 6)) (.seq (.block 7 (.seq (.region c_sha_Of_r29 none [2, 3, 11, 12, 69]) (.region c_sha_Of_r30 none [2, 3, 11, 69]))) (.region c_sha_Of_r31 none [2, 3, 11, 69]))))))) (.seq (.region c_sha_Of_r32 none [2]) (.ret)))))))))))))
@[simp] def R_sha_Of : List CRes := [.cell 2 true 32]
theorem k_sha_Of : chkFn Tryd.prog fn_sha_Of c_sha_Of R_sha_Of 1 = true := by kernel_rfl
/-! wapentake/tree.up -/
@[simp] def a_tree_up_r0 : List COper := [
  ⟨(some 2), .mov, [.c (.slice none 0 0)], none⟩]
def c_tree_up_r0 : List COper := a_tree_up_r0
instance : Reg c_tree_up_r0 a_tree_up_r0 1 := ⟨rfl, rfl⟩
@[simp] def a_tree_up_r1 : List COper := [
  ⟨(some 3), .mov, [.c (.slice none 0 0)], none⟩]
def c_tree_up_r1 : List COper := a_tree_up_r1
instance : Reg c_tree_up_r1 a_tree_up_r1 1 := ⟨rfl, rfl⟩
@[simp] def a_tree_up_r2 : List COper := [
  ⟨(some 4), .mov, [.c (.int .i64 0)], none⟩]
def c_tree_up_r2 : List COper := a_tree_up_r2
instance : Reg c_tree_up_r2 a_tree_up_r2 1 := ⟨rfl, rfl⟩
@[simp] def a_tree_up_r3 : List COper := [
  ⟨(some 5), .mov, [.t 4], none⟩,
  ⟨(some 6), .mov, [.t 0], none⟩,
  ⟨(some 7), .len, [.t 6], none⟩,
  ⟨(some 8), .bin .lss, [.t 5, .t 7], none⟩]
def c_tree_up_r3 : List COper := a_tree_up_r3
instance : Reg c_tree_up_r3 a_tree_up_r3 4 := ⟨rfl, rfl⟩
@[simp] def a_tree_up_r5 : List COper := [
  ⟨(some 11), .mov, [.t 4], none⟩,
  ⟨(some 12), .bin .add, [.t 11, .c (.int .i64 1)], none⟩,
  ⟨(some 13), .mov, [.t 0], none⟩,
  ⟨(some 14), .len, [.t 13], none⟩,
  ⟨(some 15), .bin .eql, [.t 12, .t 14], none⟩]
def c_tree_up_r5 : List COper := a_tree_up_r5
instance : Reg c_tree_up_r5 a_tree_up_r5 5 := ⟨rfl, rfl⟩
@[simp] def a_tree_up_r6 : List COper := [
  ⟨(some 16), .mov, [.t 3], none⟩,
  ⟨(some 17), .mov, [.t 0], none⟩,
  ⟨(some 18), .mov, [.t 4], none⟩,
  ⟨(some 19), .iaddr 32, [.t 17, .t 18], none⟩,
  ⟨(some 20), .load true 32, [.t 19], none⟩,
  ⟨(some 21), .bslice 32 1 (.arr 1 (rep 32 (.v (.int .u8 0)))) [0], [.t 20], none⟩,
  ⟨(some 22), .app 32 32, [.t 16, .t 21], none⟩,
  ⟨(some 3), .mov, [.t 22], none⟩]
def c_tree_up_r6 : List COper := a_tree_up_r6
instance : Reg c_tree_up_r6 a_tree_up_r6 8 := ⟨rfl, rfl⟩
@[simp] def a_tree_up_r7 : List COper := [
  ⟨(some 23), .mov, [.t 3], none⟩,
  ⟨(some 24), .mov, [.t 0], none⟩,
  ⟨(some 25), .mov, [.t 4], none⟩,
  ⟨(some 26), .iaddr 32, [.t 24, .t 25], none⟩,
  ⟨(some 27), .load true 32, [.t 26], none⟩,
  ⟨(some 28), .mov, [.t 0], none⟩,
  ⟨(some 29), .mov, [.t 4], none⟩,
  ⟨(some 30), .bin .add, [.t 29, .c (.int .i64 1)], none⟩,
  ⟨(some 31), .iaddr 32, [.t 28, .t 30], none⟩,
  ⟨(some 32), .load true 32, [.t 31], none⟩,
  ⟨(some 33), .call fn_sha_Pair, [.c (.int .u8 1), .t 27, .t 32], none⟩,
  ⟨(some 34), .bslice 32 1 (.arr 1 (rep 32 (.v (.int .u8 0)))) [0], [.t 33], none⟩,
  ⟨(some 35), .app 32 32, [.t 23, .t 34], none⟩,
  ⟨(some 3), .mov, [.t 35], none⟩]
def c_tree_up_r7 : List COper := a_tree_up_r7
instance : Reg c_tree_up_r7 a_tree_up_r7 14 := ⟨rfl, rfl⟩
@[simp] def a_tree_up_r4 : List COper := [
  ⟨(some 9), .mov, [.t 4], none⟩,
  ⟨(some 10), .bin .add, [.t 9, .c (.int .i64 2)], none⟩,
  ⟨(some 4), .mov, [.t 10], none⟩]
def c_tree_up_r4 : List COper := a_tree_up_r4
instance : Reg c_tree_up_r4 a_tree_up_r4 3 := ⟨rfl, rfl⟩
@[simp] def a_tree_up_r8 : List COper := [
  ⟨(some 36), .mov, [.t 3], none⟩,
  ⟨(some 2), .mov, [.t 36], none⟩]
def c_tree_up_r8 : List COper := a_tree_up_r8
instance : Reg c_tree_up_r8 a_tree_up_r8 2 := ⟨rfl, rfl⟩
@[simp] def c_tree_up : CCode :=
  .seq (.region c_tree_up_r0 none [0]) (.seq (.region c_tree_up_r1 none [0, 3]) (.seq (.seq (.region c_tree_up_r2 none [0, 3, 4]) (.block 0 (.loop (.seq (.seq (.region c_tree_up_r3 none [0, 3, 4, 8]) (.cond (.t 8) (.skip) (.exit 0))) (.seq (.block 1 (.seq (.seq (.region c_tree_up_r5 none [0, 3, 4, 15]) (.cond (.t 15) (.seq (.region c_tree_up_r6 none [3]) (.exit 0)) (.skip))) (.region c_tree_up_r7 (some ([0, 0, 0, 6, 14, 0, 0, 64, 224, 480, 1022, 2046, 4095, 8191], [])) [0, 3, 4]))) (.region c_tree_up_r4 none [0, 3, 4])))))) (.seq (.region c_tree_up_r8 none [2]) (.ret))))
@[simp] def R_tree_up : List CRes := [.tmp 2]
theorem k_tree_up : chkFn Tryd.prog fn_tree_up c_tree_up R_tree_up 1 = true := by kernel_rfl
/-! (*wapentake/code.Writer).Digest -/
@[simp] def a_code_Writer_Digest_r0 : List COper := [
  ⟨(some 6), .mov, [.t 0], none⟩,
  ⟨(some 7), .eqp false, [.t 6, .c (.pointer none)], none⟩]
def c_code_Writer_Digest_r0 : List COper := a_code_Writer_Digest_r0
instance : Reg c_code_Writer_Digest_r0 a_code_Writer_Digest_r0 2 := ⟨rfl, rfl⟩
@[simp] def a_code_Writer_Digest_r1 : List COper := [
  ⟨(some 8), .mov, [.t 1], none⟩,
  ⟨(some 9), .len, [.t 8], none⟩,
  ⟨(some 10), .mov, [.c (.int .i64 0)], none⟩]
def c_code_Writer_Digest_r1 : List COper := a_code_Writer_Digest_r1
instance : Reg c_code_Writer_Digest_r1 a_code_Writer_Digest_r1 3 := ⟨rfl, rfl⟩
@[simp] def a_code_Writer_Digest_r2 : List COper := [
  ⟨(some 11), .bin .lss, [.t 10, .t 9], none⟩]
def c_code_Writer_Digest_r2 : List COper := a_code_Writer_Digest_r2
instance : Reg c_code_Writer_Digest_r2 a_code_Writer_Digest_r2 1 := ⟨rfl, rfl⟩
@[simp] def a_code_Writer_Digest_r3 : List COper := [
  ⟨(some 12), .iaddr 32, [.t 8, .t 10], none⟩,
  ⟨(some 13), .load true 32, [.t 12], none⟩,
  ⟨(some 5), .alloc (.arr 1 (rep 32 (.v (.int .u8 0)))), [], none⟩,
  ⟨none, .store true 32, [.t 5, .t 13], none⟩]
def c_code_Writer_Digest_r3 : List COper := a_code_Writer_Digest_r3
instance : Reg c_code_Writer_Digest_r3 a_code_Writer_Digest_r3 4 := ⟨rfl, rfl⟩
@[simp] def a_code_Writer_Digest_r4 : List COper := [
  ⟨(some 14), .mov, [.t 0], none⟩,
  ⟨(some 15), .mov, [.t 0], none⟩,
  ⟨(some 16), .nilc, [.t 15], none⟩,
  ⟨(some 17), .faddr 0 1 false, [.t 16], none⟩,
  ⟨(some 18), .load false 1, [.t 17], none⟩,
  ⟨(some 19), .sliceArr 32 1 false false, [.t 5], none⟩,
  ⟨(some 20), .app 1 1, [.t 18, .t 19], none⟩,
  ⟨(some 21), .nilc, [.t 14], none⟩,
  ⟨(some 22), .faddr 0 1 false, [.t 21], none⟩,
  ⟨none, .store false 1, [.t 22, .t 20], none⟩]
def c_code_Writer_Digest_r4 : List COper := a_code_Writer_Digest_r4
instance : Reg c_code_Writer_Digest_r4 a_code_Writer_Digest_r4 10 := ⟨rfl, rfl⟩
@[simp] def a_code_Writer_Digest_r5 : List COper := [
  ⟨(some 23), .bin .add, [.t 10, .c (.int .i64 1)], none⟩,
  ⟨(some 10), .mov, [.t 23], none⟩]
def c_code_Writer_Digest_r5 : List COper := a_code_Writer_Digest_r5
instance : Reg c_code_Writer_Digest_r5 a_code_Writer_Digest_r5 2 := ⟨rfl, rfl⟩
@[simp] def c_code_Writer_Digest : CCode :=
  .seq (.seq (.region c_code_Writer_Digest_r0 none [0, 1, 7]) (.cond (.t 7) (.ret) (.skip))) (.seq (.region c_code_Writer_Digest_r1 none [0, 8, 9, 10]) (.block 0 (.loop (.seq (.region c_code_Writer_Digest_r2 none [0, 8, 9, 10, 11]) (.seq (.cond (.t 11) (.skip) (.exit 0)) (.seq (.block 1 (.seq (.region c_code_Writer_Digest_r3 none [0, 5, 8, 9, 10]) (.region c_code_Writer_Digest_r4 (some ([0, 0, 2, 6, 14, 0, 62, 127, 255, 511], [])) [0, 8, 9, 10]))) (.region c_code_Writer_Digest_r5 none [0, 8, 9, 10])))))))
@[simp] def R_code_Writer_Digest : List CRes := []
theorem k_code_Writer_Digest : chkFn Tryd.prog fn_code_Writer_Digest c_code_Writer_Digest R_code_Writer_Digest 2 = true := by kernel_rfl
/-! (*wapentake/code.Writer).Bytes -/
@[simp] def a_code_Writer_Bytes_r0 : List COper := [
  ⟨(some 2), .mov, [.c (.slice none 0 0)], none⟩]
def c_code_Writer_Bytes_r0 : List COper := a_code_Writer_Bytes_r0
instance : Reg c_code_Writer_Bytes_r0 a_code_Writer_Bytes_r0 1 := ⟨rfl, rfl⟩
@[simp] def a_code_Writer_Bytes_r1 : List COper := [
  ⟨(some 3), .mov, [.t 0], none⟩,
  ⟨(some 4), .eqp false, [.t 3, .c (.pointer none)], none⟩]
def c_code_Writer_Bytes_r1 : List COper := a_code_Writer_Bytes_r1
instance : Reg c_code_Writer_Bytes_r1 a_code_Writer_Bytes_r1 2 := ⟨rfl, rfl⟩
@[simp] def a_code_Writer_Bytes_r2 : List COper := [
  ⟨(some 2), .mov, [.c (.slice none 0 0)], none⟩]
def c_code_Writer_Bytes_r2 : List COper := a_code_Writer_Bytes_r2
instance : Reg c_code_Writer_Bytes_r2 a_code_Writer_Bytes_r2 1 := ⟨rfl, rfl⟩
@[simp] def a_code_Writer_Bytes_r3 : List COper := [
  ⟨(some 5), .mov, [.t 0], none⟩,
  ⟨(some 6), .nilc, [.t 5], none⟩,
  ⟨(some 7), .faddr 0 1 false, [.t 6], none⟩,
  ⟨(some 8), .load false 1, [.t 7], none⟩,
  ⟨(some 9), .slice0 1, [.t 8], none⟩,
  ⟨(some 10), .mov, [.t 0], none⟩,
  ⟨(some 11), .nilc, [.t 10], none⟩,
  ⟨(some 12), .faddr 0 1 false, [.t 11], none⟩,
  ⟨(some 13), .load false 1, [.t 12], none⟩,
  ⟨(some 14), .app 1 1, [.t 9, .t 13], none⟩,
  ⟨(some 2), .mov, [.t 14], none⟩]
def c_code_Writer_Bytes_r3 : List COper := a_code_Writer_Bytes_r3
instance : Reg c_code_Writer_Bytes_r3 a_code_Writer_Bytes_r3 11 := ⟨rfl, rfl⟩
@[simp] def c_code_Writer_Bytes : CCode :=
  .seq (.region c_code_Writer_Bytes_r0 none [0]) (.seq (.seq (.region c_code_Writer_Bytes_r1 none [0, 4]) (.cond (.t 4) (.seq (.region c_code_Writer_Bytes_r2 none [2]) (.ret)) (.skip))) (.seq (.region c_code_Writer_Bytes_r3 (some ([0, 1, 3, 7, 15, 0, 32, 96, 224, 511, 1023], [(4, 8)])) [2]) (.ret)))
@[simp] def R_code_Writer_Bytes : List CRes := [.tmp 2]
theorem k_code_Writer_Bytes : chkFn Tryd.prog fn_code_Writer_Bytes c_code_Writer_Bytes R_code_Writer_Bytes 1 = true := by kernel_rfl
/-! (*wapentake/sha.state).block -/
@[simp] def a_sha_state_block_r0 : List COper := [
  ⟨(some 4), .alloc (.arr 1 (rep 64 (.v (.int .u32 0)))), [], none⟩]
def c_sha_state_block_r0 : List COper := a_sha_state_block_r0
instance : Reg c_sha_state_block_r0 a_sha_state_block_r0 1 := ⟨rfl, rfl⟩
@[simp] def a_sha_state_block_r1 : List COper := [
  ⟨(some 26), .mov, [.c (.int .i64 0)], none⟩]
def c_sha_state_block_r1 : List COper := a_sha_state_block_r1
instance : Reg c_sha_state_block_r1 a_sha_state_block_r1 1 := ⟨rfl, rfl⟩
@[simp] def a_sha_state_block_r2 : List COper := [
  ⟨(some 27), .bin .lss, [.t 26, .c (.int .i64 16)], none⟩]
def c_sha_state_block_r2 : List COper := a_sha_state_block_r2
instance : Reg c_sha_state_block_r2 a_sha_state_block_r2 1 := ⟨rfl, rfl⟩
@[simp] def a_sha_state_block_r3 : List COper := [
  ⟨(some 28), .mov, [.t 26], none⟩,
  ⟨(some 5), .mov, [.t 28], none⟩]
def c_sha_state_block_r3 : List COper := a_sha_state_block_r3
instance : Reg c_sha_state_block_r3 a_sha_state_block_r3 2 := ⟨rfl, rfl⟩
@[simp] def a_sha_state_block_r4 : List COper := [
  ⟨(some 29), .mov, [.t 5], none⟩,
  ⟨(some 30), .mov, [.t 1], none⟩,
  ⟨(some 31), .mov, [.t 5], none⟩,
  ⟨(some 32), .bin .mul, [.c (.int .i64 4), .t 31], none⟩,
  ⟨(some 33), .slice 1 true false, [.t 30, .t 32], none⟩,
  ⟨(some 34), .call fn_sha_word, [.t 33], none⟩,
  ⟨(some 35), .iaddrArr 64 1 false, [.t 4, .t 29], none⟩,
  ⟨none, .store false 1, [.t 35, .t 34], none⟩]
def c_sha_state_block_r4 : List COper := a_sha_state_block_r4
instance : Reg c_sha_state_block_r4 a_sha_state_block_r4 8 := ⟨rfl, rfl⟩
@[simp] def a_sha_state_block_r5 : List COper := [
  ⟨(some 36), .bin .add, [.t 26, .c (.int .i64 1)], none⟩,
  ⟨(some 26), .mov, [.t 36], none⟩]
def c_sha_state_block_r5 : List COper := a_sha_state_block_r5
instance : Reg c_sha_state_block_r5 a_sha_state_block_r5 2 := ⟨rfl, rfl⟩
@[simp] def a_sha_state_block_r6 : List COper := [
  ⟨(some 6), .mov, [.c (.int .i64 16)], none⟩]
def c_sha_state_block_r6 : List COper := a_sha_state_block_r6
instance : Reg c_sha_state_block_r6 a_sha_state_block_r6 1 := ⟨rfl, rfl⟩
@[simp] def a_sha_state_block_r7 : List COper := [
  ⟨(some 37), .mov, [.t 6], none⟩,
  ⟨(some 38), .bin .lss, [.t 37, .c (.int .i64 64)], none⟩]
def c_sha_state_block_r7 : List COper := a_sha_state_block_r7
instance : Reg c_sha_state_block_r7 a_sha_state_block_r7 2 := ⟨rfl, rfl⟩
@[simp] def a_sha_state_block_r9 : List COper := [
  ⟨(some 41), .mov, [.t 6], none⟩,
  ⟨(some 42), .bin .sub, [.t 41, .c (.int .i64 15)], none⟩,
  ⟨(some 43), .iaddrArr 64 1 false, [.t 4, .t 42], none⟩,
  ⟨(some 44), .load false 1, [.t 43], none⟩,
  ⟨(some 45), .mov, [.t 6], none⟩,
  ⟨(some 46), .bin .sub, [.t 45, .c (.int .i64 2)], none⟩,
  ⟨(some 47), .iaddrArr 64 1 false, [.t 4, .t 46], none⟩,
  ⟨(some 48), .load false 1, [.t 47], none⟩,
  ⟨(some 7), .mov, [.t 44], none⟩,
  ⟨(some 8), .mov, [.t 48], none⟩]
def c_sha_state_block_r9 : List COper := a_sha_state_block_r9
instance : Reg c_sha_state_block_r9 a_sha_state_block_r9 10 := ⟨rfl, rfl⟩
@[simp] def a_sha_state_block_r10 : List COper := [
  ⟨(some 49), .mov, [.t 7], none⟩,
  ⟨(some 50), .call fn_bits_RotateLeft32, [.t 49, .c (.int .i64 (-7))], none⟩,
  ⟨(some 51), .mov, [.t 7], none⟩,
  ⟨(some 52), .call fn_bits_RotateLeft32, [.t 51, .c (.int .i64 (-18))], none⟩,
  ⟨(some 53), .bin .xor, [.t 50, .t 52], none⟩,
  ⟨(some 54), .mov, [.t 7], none⟩,
  ⟨(some 55), .bin .shr, [.t 54, .c (.int .u64 3)], none⟩,
  ⟨(some 56), .bin .xor, [.t 53, .t 55], none⟩,
  ⟨(some 9), .mov, [.t 56], none⟩]
def c_sha_state_block_r10 : List COper := a_sha_state_block_r10
instance : Reg c_sha_state_block_r10 a_sha_state_block_r10 9 := ⟨rfl, rfl⟩
@[simp] def a_sha_state_block_r11 : List COper := [
  ⟨(some 57), .mov, [.t 8], none⟩,
  ⟨(some 58), .call fn_bits_RotateLeft32, [.t 57, .c (.int .i64 (-17))], none⟩,
  ⟨(some 59), .mov, [.t 8], none⟩,
  ⟨(some 60), .call fn_bits_RotateLeft32, [.t 59, .c (.int .i64 (-19))], none⟩,
  ⟨(some 61), .bin .xor, [.t 58, .t 60], none⟩,
  ⟨(some 62), .mov, [.t 8], none⟩,
  ⟨(some 63), .bin .shr, [.t 62, .c (.int .u64 10)], none⟩,
  ⟨(some 64), .bin .xor, [.t 61, .t 63], none⟩,
  ⟨(some 10), .mov, [.t 64], none⟩]
def c_sha_state_block_r11 : List COper := a_sha_state_block_r11
instance : Reg c_sha_state_block_r11 a_sha_state_block_r11 9 := ⟨rfl, rfl⟩
@[simp] def a_sha_state_block_r12 : List COper := [
  ⟨(some 65), .mov, [.t 6], none⟩,
  ⟨(some 66), .mov, [.t 6], none⟩,
  ⟨(some 67), .bin .sub, [.t 66, .c (.int .i64 16)], none⟩,
  ⟨(some 68), .iaddrArr 64 1 false, [.t 4, .t 67], none⟩,
  ⟨(some 69), .load false 1, [.t 68], none⟩,
  ⟨(some 70), .mov, [.t 9], none⟩,
  ⟨(some 71), .bin .add, [.t 69, .t 70], none⟩,
  ⟨(some 72), .mov, [.t 6], none⟩,
  ⟨(some 73), .bin .sub, [.t 72, .c (.int .i64 7)], none⟩,
  ⟨(some 74), .iaddrArr 64 1 false, [.t 4, .t 73], none⟩,
  ⟨(some 75), .load false 1, [.t 74], none⟩,
  ⟨(some 76), .bin .add, [.t 71, .t 75], none⟩,
  ⟨(some 77), .mov, [.t 10], none⟩,
  ⟨(some 78), .bin .add, [.t 76, .t 77], none⟩,
  ⟨(some 79), .iaddrArr 64 1 false, [.t 4, .t 65], none⟩,
  ⟨none, .store false 1, [.t 79, .t 78], none⟩]
def c_sha_state_block_r12 : List COper := a_sha_state_block_r12
instance : Reg c_sha_state_block_r12 a_sha_state_block_r12 16 := ⟨rfl, rfl⟩
@[simp] def a_sha_state_block_r8 : List COper := [
  ⟨(some 39), .mov, [.t 6], none⟩,
  ⟨(some 40), .bin .add, [.t 39, .c (.int .i64 1)], none⟩,
  ⟨(some 6), .mov, [.t 40], none⟩]
def c_sha_state_block_r8 : List COper := a_sha_state_block_r8
instance : Reg c_sha_state_block_r8 a_sha_state_block_r8 3 := ⟨rfl, rfl⟩
@[simp] def a_sha_state_block_r13 : List COper := [
  ⟨(some 80), .mov, [.t 0], none⟩,
  ⟨(some 81), .nilc, [.t 80], none⟩,
  ⟨(some 82), .iaddrArr 8 1 false, [.t 81, .c (.int .i64 0)], none⟩,
  ⟨(some 83), .load false 1, [.t 82], none⟩,
  ⟨(some 84), .mov, [.t 0], none⟩,
  ⟨(some 85), .nilc, [.t 84], none⟩,
  ⟨(some 86), .iaddrArr 8 1 false, [.t 85, .c (.int .i64 1)], none⟩,
  ⟨(some 87), .load false 1, [.t 86], none⟩,
  ⟨(some 88), .mov, [.t 0], none⟩,
  ⟨(some 89), .nilc, [.t 88], none⟩,
  ⟨(some 90), .iaddrArr 8 1 false, [.t 89, .c (.int .i64 2)], none⟩,
  ⟨(some 91), .load false 1, [.t 90], none⟩,
  ⟨(some 92), .mov, [.t 0], none⟩,
  ⟨(some 93), .nilc, [.t 92], none⟩,
  ⟨(some 94), .iaddrArr 8 1 false, [.t 93, .c (.int .i64 3)], none⟩,
  ⟨(some 95), .load false 1, [.t 94], none⟩,
  ⟨(some 96), .mov, [.t 0], none⟩,
  ⟨(some 97), .nilc, [.t 96], none⟩,
  ⟨(some 98), .iaddrArr 8 1 false, [.t 97, .c (.int .i64 4)], none⟩,
  ⟨(some 99), .load false 1, [.t 98], none⟩,
  ⟨(some 100), .mov, [.t 0], none⟩,
  ⟨(some 101), .nilc, [.t 100], none⟩,
  ⟨(some 102), .iaddrArr 8 1 false, [.t 101, .c (.int .i64 5)], none⟩,
  ⟨(some 103), .load false 1, [.t 102], none⟩,
  ⟨(some 104), .mov, [.t 0], none⟩,
  ⟨(some 105), .nilc, [.t 104], none⟩,
  ⟨(some 106), .iaddrArr 8 1 false, [.t 105, .c (.int .i64 6)], none⟩,
  ⟨(some 107), .load false 1, [.t 106], none⟩,
  ⟨(some 108), .mov, [.t 0], none⟩,
  ⟨(some 109), .nilc, [.t 108], none⟩,
  ⟨(some 110), .iaddrArr 8 1 false, [.t 109, .c (.int .i64 7)], none⟩,
  ⟨(some 111), .load false 1, [.t 110], none⟩,
  ⟨(some 11), .mov, [.t 83], none⟩,
  ⟨(some 12), .mov, [.t 87], none⟩,
  ⟨(some 13), .mov, [.t 91], none⟩,
  ⟨(some 14), .mov, [.t 95], none⟩,
  ⟨(some 15), .mov, [.t 99], none⟩,
  ⟨(some 16), .mov, [.t 103], none⟩,
  ⟨(some 17), .mov, [.t 107], none⟩,
  ⟨(some 18), .mov, [.t 111], none⟩]
def c_sha_state_block_r13 : List COper := a_sha_state_block_r13
instance : Reg c_sha_state_block_r13 a_sha_state_block_r13 40 := ⟨rfl, rfl⟩
@[simp] def a_sha_state_block_r14 : List COper := [
  ⟨(some 112), .load true 64, [.t 4], none⟩,
  ⟨(some 113), .mov, [.c (.int .i64 0)], none⟩]
def c_sha_state_block_r14 : List COper := a_sha_state_block_r14
instance : Reg c_sha_state_block_r14 a_sha_state_block_r14 2 := ⟨rfl, rfl⟩
@[simp] def a_sha_state_block_r15 : List COper := [
  ⟨(some 114), .bin .lss, [.t 113, .c (.int .i64 64)], none⟩]
def c_sha_state_block_r15 : List COper := a_sha_state_block_r15
instance : Reg c_sha_state_block_r15 a_sha_state_block_r15 1 := ⟨rfl, rfl⟩
@[simp] def a_sha_state_block_r16 : List COper := [
  ⟨(some 115), .mov, [.t 113], none⟩,
  ⟨(some 116), .idx false 64 1, [.t 112, .t 113], none⟩,
  ⟨(some 19), .mov, [.t 115], none⟩,
  ⟨(some 20), .mov, [.t 116], none⟩]
def c_sha_state_block_r16 : List COper := a_sha_state_block_r16
instance : Reg c_sha_state_block_r16 a_sha_state_block_r16 4 := ⟨rfl, rfl⟩
@[simp] def a_sha_state_block_r17 : List COper := [
  ⟨(some 117), .mov, [.t 15], none⟩,
  ⟨(some 118), .call fn_bits_RotateLeft32, [.t 117, .c (.int .i64 (-6))], none⟩,
  ⟨(some 119), .mov, [.t 15], none⟩,
  ⟨(some 120), .call fn_bits_RotateLeft32, [.t 119, .c (.int .i64 (-11))], none⟩,
  ⟨(some 121), .bin .xor, [.t 118, .t 120], none⟩,
  ⟨(some 122), .mov, [.t 15], none⟩,
  ⟨(some 123), .call fn_bits_RotateLeft32, [.t 122, .c (.int .i64 (-25))], none⟩,
  ⟨(some 124), .bin .xor, [.t 121, .t 123], none⟩,
  ⟨(some 21), .mov, [.t 124], none⟩]
def c_sha_state_block_r17 : List COper := a_sha_state_block_r17
instance : Reg c_sha_state_block_r17 a_sha_state_block_r17 9 := ⟨rfl, rfl⟩
@[simp] def a_sha_state_block_r18 : List COper := [
  ⟨(some 125), .mov, [.t 18], none⟩,
  ⟨(some 126), .mov, [.t 21], none⟩,
  ⟨(some 127), .bin .add, [.t 125, .t 126], none⟩,
  ⟨(some 128), .mov, [.t 15], none⟩,
  ⟨(some 129), .mov, [.t 16], none⟩,
  ⟨(some 130), .bin .and, [.t 128, .t 129], none⟩,
  ⟨(some 131), .mov, [.t 15], none⟩,
  ⟨(some 132), .un .xor, [.t 131], none⟩,
  ⟨(some 133), .mov, [.t 17], none⟩,
  ⟨(some 134), .bin .and, [.t 132, .t 133], none⟩,
  ⟨(some 135), .bin .xor, [.t 130, .t 134], none⟩,
  ⟨(some 136), .bin .add, [.t 127, .t 135], none⟩,
  ⟨(some 137), .mov, [.t 19], none⟩,
  ⟨(some 138), .iaddrArr 64 1 false, [.g 0, .t 137], none⟩,
  ⟨(some 139), .load false 1, [.t 138], none⟩,
  ⟨(some 140), .bin .add, [.t 136, .t 139], none⟩,
  ⟨(some 141), .mov, [.t 20], none⟩,
  ⟨(some 142), .bin .add, [.t 140, .t 141], none⟩,
  ⟨(some 22), .mov, [.t 142], none⟩]
def c_sha_state_block_r18 : List COper := a_sha_state_block_r18
instance : Reg c_sha_state_block_r18 a_sha_state_block_r18 19 := ⟨rfl, rfl⟩
@[simp] def a_sha_state_block_r19 : List COper := [
  ⟨(some 143), .mov, [.t 11], none⟩,
  ⟨(some 144), .call fn_bits_RotateLeft32, [.t 143, .c (.int .i64 (-2))], none⟩,
  ⟨(some 145), .mov, [.t 11], none⟩,
  ⟨(some 146), .call fn_bits_RotateLeft32, [.t 145, .c (.int .i64 (-13))], none⟩,
  ⟨(some 147), .bin .xor, [.t 144, .t 146], none⟩,
  ⟨(some 148), .mov, [.t 11], none⟩,
  ⟨(some 149), .call fn_bits_RotateLeft32, [.t 148, .c (.int .i64 (-22))], none⟩,
  ⟨(some 150), .bin .xor, [.t 147, .t 149], none⟩,
  ⟨(some 23), .mov, [.t 150], none⟩]
def c_sha_state_block_r19 : List COper := a_sha_state_block_r19
instance : Reg c_sha_state_block_r19 a_sha_state_block_r19 9 := ⟨rfl, rfl⟩
@[simp] def a_sha_state_block_r20 : List COper := [
  ⟨(some 151), .mov, [.t 23], none⟩,
  ⟨(some 152), .mov, [.t 11], none⟩,
  ⟨(some 153), .mov, [.t 12], none⟩,
  ⟨(some 154), .bin .and, [.t 152, .t 153], none⟩,
  ⟨(some 155), .mov, [.t 11], none⟩,
  ⟨(some 156), .mov, [.t 13], none⟩,
  ⟨(some 157), .bin .and, [.t 155, .t 156], none⟩,
  ⟨(some 158), .bin .xor, [.t 154, .t 157], none⟩,
  ⟨(some 159), .mov, [.t 12], none⟩,
  ⟨(some 160), .mov, [.t 13], none⟩,
  ⟨(some 161), .bin .and, [.t 159, .t 160], none⟩,
  ⟨(some 162), .bin .xor, [.t 158, .t 161], none⟩,
  ⟨(some 163), .bin .add, [.t 151, .t 162], none⟩,
  ⟨(some 23), .mov, [.t 163], none⟩]
def c_sha_state_block_r20 : List COper := a_sha_state_block_r20
instance : Reg c_sha_state_block_r20 a_sha_state_block_r20 14 := ⟨rfl, rfl⟩
@[simp] def a_sha_state_block_r21 : List COper := [
  ⟨(some 164), .mov, [.t 22], none⟩,
  ⟨(some 165), .mov, [.t 23], none⟩,
  ⟨(some 166), .bin .add, [.t 164, .t 165], none⟩,
  ⟨(some 167), .mov, [.t 11], none⟩,
  ⟨(some 168), .mov, [.t 12], none⟩,
  ⟨(some 169), .mov, [.t 13], none⟩,
  ⟨(some 170), .mov, [.t 14], none⟩,
  ⟨(some 171), .mov, [.t 22], none⟩,
  ⟨(some 172), .bin .add, [.t 170, .t 171], none⟩,
  ⟨(some 173), .mov, [.t 15], none⟩,
  ⟨(some 174), .mov, [.t 16], none⟩,
  ⟨(some 175), .mov, [.t 17], none⟩,
  ⟨(some 11), .mov, [.t 166], none⟩,
  ⟨(some 12), .mov, [.t 167], none⟩,
  ⟨(some 13), .mov, [.t 168], none⟩,
  ⟨(some 14), .mov, [.t 169], none⟩,
  ⟨(some 15), .mov, [.t 172], none⟩,
  ⟨(some 16), .mov, [.t 173], none⟩,
  ⟨(some 17), .mov, [.t 174], none⟩,
  ⟨(some 18), .mov, [.t 175], none⟩]
def c_sha_state_block_r21 : List COper := a_sha_state_block_r21
instance : Reg c_sha_state_block_r21 a_sha_state_block_r21 20 := ⟨rfl, rfl⟩
@[simp] def a_sha_state_block_r22 : List COper := [
  ⟨(some 176), .bin .add, [.t 113, .c (.int .i64 1)], none⟩,
  ⟨(some 113), .mov, [.t 176], none⟩]
def c_sha_state_block_r22 : List COper := a_sha_state_block_r22
instance : Reg c_sha_state_block_r22 a_sha_state_block_r22 2 := ⟨rfl, rfl⟩
@[simp] def a_sha_state_block_r23 : List COper := [
  ⟨(some 177), .mov, [.t 11], none⟩,
  ⟨(some 178), .mov, [.t 12], none⟩,
  ⟨(some 179), .mov, [.t 13], none⟩,
  ⟨(some 180), .mov, [.t 14], none⟩,
  ⟨(some 181), .mov, [.t 15], none⟩,
  ⟨(some 182), .mov, [.t 16], none⟩,
  ⟨(some 183), .mov, [.t 17], none⟩,
  ⟨(some 184), .mov, [.t 18], none⟩,
  ⟨(some 185), .buildA 1 (rep 8 (.v (.int .u32 0))) (upTo 8), [.t 177, .t 178, .t 179, .t 180, .t 181, .t 182, .t 183, .t 184], none⟩,
  ⟨(some 186), .mov, [.c (.int .i64 0)], none⟩]
def c_sha_state_block_r23 : List COper := a_sha_state_block_r23
instance : Reg c_sha_state_block_r23 a_sha_state_block_r23 10 := ⟨rfl, rfl⟩
@[simp] def a_sha_state_block_r24 : List COper := [
  ⟨(some 187), .bin .lss, [.t 186, .c (.int .i64 8)], none⟩]
def c_sha_state_block_r24 : List COper := a_sha_state_block_r24
instance : Reg c_sha_state_block_r24 a_sha_state_block_r24 1 := ⟨rfl, rfl⟩
@[simp] def a_sha_state_block_r25 : List COper := [
  ⟨(some 188), .mov, [.t 186], none⟩,
  ⟨(some 189), .idx false 8 1, [.t 185, .t 186], none⟩,
  ⟨(some 24), .mov, [.t 188], none⟩,
  ⟨(some 25), .mov, [.t 189], none⟩]
def c_sha_state_block_r25 : List COper := a_sha_state_block_r25
instance : Reg c_sha_state_block_r25 a_sha_state_block_r25 4 := ⟨rfl, rfl⟩
@[simp] def a_sha_state_block_r26 : List COper := [
  ⟨(some 190), .mov, [.t 0], none⟩,
  ⟨(some 191), .mov, [.t 24], none⟩,
  ⟨(some 192), .nilc, [.t 190], none⟩,
  ⟨(some 193), .iaddrArr 8 1 false, [.t 192, .t 191], none⟩,
  ⟨(some 194), .load false 1, [.t 193], none⟩,
  ⟨(some 195), .mov, [.t 25], none⟩,
  ⟨(some 196), .bin .add, [.t 194, .t 195], none⟩,
  ⟨(some 197), .nilc, [.t 190], none⟩,
  ⟨(some 198), .iaddrArr 8 1 false, [.t 197, .t 191], none⟩,
  ⟨none, .store false 1, [.t 198, .t 196], none⟩]
def c_sha_state_block_r26 : List COper := a_sha_state_block_r26
instance : Reg c_sha_state_block_r26 a_sha_state_block_r26 10 := ⟨rfl, rfl⟩
@[simp] def a_sha_state_block_r27 : List COper := [
  ⟨(some 199), .bin .add, [.t 186, .c (.int .i64 1)], none⟩,
  ⟨(some 186), .mov, [.t 199], none⟩]
def c_sha_state_block_r27 : List COper := a_sha_state_block_r27
instance : Reg c_sha_state_block_r27 a_sha_state_block_r27 2 := ⟨rfl, rfl⟩
@[simp] def c_sha_state_block : CCode :=
  .seq (.region c_sha_state_block_r0 none [0, 1, 4]) (.seq (.seq (.region c_sha_state_block_r1 none [0, 1, 4, 26]) (.block 0 (.loop (.seq (.region c_sha_state_block_r2 none [0, 1, 4, 26, 27]) (.seq (.cond (.t 27) (.skip) (.exit 0)) (.seq (.block 1 (.seq (.region c_sha_state_block_r3 none [0, 1, 4, 5, 26]) (.region c_sha_state_block_r4 none [0, 1, 4, 26]))) (.region c_sha_state_block_r5 none [0, 1, 4, 26]))))))) (.seq (.seq (.region c_sha_state_block_r6 none [0, 4, 6]) (.block 2 (.loop (.seq (.seq (.region c_sha_state_block_r7 none [0, 4, 6, 38]) (.cond (.t 38) (.skip) (.exit 2))) (.seq (.block 3 (.seq (.region c_sha_state_block_r9 (some ([0, 1, 3, 7, 0, 16, 48, 112, 15, 511], [])) [0, 4, 6, 7, 8]) (.seq (.region c_sha_state_block_r10 none [0, 4, 6, 8, 9]) (.seq (.region c_sha_state_block_r11 none [0, 4, 6, 9, 10]) (.region c_sha_state_block_r12 (some ([0, 0, 2, 6, 14, 0, 62, 0, 128, 384, 896, 2046, 0, 8190, 16383, 32767], [])) [0, 4, 6]))))) (.region c_sha_state_block_r8 none [0, 4, 6])))))) (.seq (.region c_sha_state_block_r13 (some ([0, 1, 3, 7, 0, 16, 48, 112, 0, 256, 768, 1792, 0, 4096, 12288, 28672, 0, 65536, 196608, 458752, 0, 1048576, 3145728, 7340032, 0, 16777216, 50331648, 117440512, 0, 268435456, 805306368, 1879048192, 15, 4294967551, 12884905983, 30064836607, 64425558015, 133160763391, 270851375103, 549755813887], [])) [0, 4, 11, 12, 13, 14, 15, 16, 17, 18]) (.seq (.seq (.region c_sha_state_block_r14 none [0, 11, 12, 13, 14, 15, 16, 17, 18, 112, 113]) (.block 4 (.loop (.seq (.region c_sha_state_block_r15 none [0, 11, 12, 13, 14, 15, 16, 17, 18, 112, 113, 114]) (.seq (.cond (.t 114) (.skip) (.exit 4)) (.seq (.block 5 (.seq (.region c_sha_state_block_r16 none [0, 11, 12, 13, 14, 15, 16, 17, 18, 19, 20, 112, 113]) (.seq (.region c_sha_state_block_r17 none [0, 11, 12, 13, 14, 15, 16, 17, 18, 19, 20, 21, 112, 113]) (.seq (.region c_sha_state_block_r18 none [0, 11, 12, 13, 14, 15, 16, 17, 22, 112, 113]) (.seq (.region c_sha_state_block_r19 none [0, 11, 12, 13, 14, 15, 16, 17, 22, 23, 112, 113]) (.seq (.region c_sha_state_block_r20 none [0, 11, 12, 13, 14, 15, 16, 17, 22, 23, 112, 113]) (.region c_sha_state_block_r21 none [0, 11, 12, 13, 14, 15, 16, 17, 18, 112, 113]))))))) (.region c_sha_state_block_r22 none [0, 11, 12, 13, 14, 15, 16, 17, 18, 112, 113]))))))) (.seq (.region c_sha_state_block_r23 none [0, 185, 186]) (.block 6 (.loop (.seq (.region c_sha_state_block_r24 none [0, 185, 186, 187]) (.seq (.cond (.t 187) (.skip) (.exit 6)) (.seq (.block 7 (.seq (.region c_sha_state_block_r25 none [0, 24, 25, 185, 186]) (.region c_sha_state_block_r26 (some ([0, 0, 1, 7, 15, 0, 63, 1, 255, 511], [])) [0, 185, 186]))) (.region c_sha_state_block_r27 none [0, 185, 186])))))))))))
@[simp] def R_sha_state_block : List CRes := []
theorem k_sha_state_block : chkFn Tryd.prog fn_sha_state_block c_sha_state_block R_sha_state_block 2 = true := by kernel_rfl
/-! wapentake/sha.word -/
@[simp] def a_sha_word_r0 : List COper := [
  ⟨(some 2), .mov, [.c (.int .u32 0)], none⟩]
def c_sha_word_r0 : List COper := a_sha_word_r0
instance : Reg c_sha_word_r0 a_sha_word_r0 1 := ⟨rfl, rfl⟩
@[simp] def a_sha_word_r1 : List COper := [
  ⟨(some 3), .mov, [.t 0], none⟩,
  ⟨(some 4), .iaddr 1, [.t 3, .c (.int .i64 0)], none⟩,
  ⟨(some 5), .load false 1, [.t 4], none⟩,
  ⟨(some 6), .convI .u32, [.t 5], none⟩,
  ⟨(some 7), .bin .shl, [.t 6, .c (.int .u64 24)], none⟩,
  ⟨(some 8), .mov, [.t 0], none⟩,
  ⟨(some 9), .iaddr 1, [.t 8, .c (.int .i64 1)], none⟩,
  ⟨(some 10), .load false 1, [.t 9], none⟩,
  ⟨(some 11), .convI .u32, [.t 10], none⟩,
  ⟨(some 12), .bin .shl, [.t 11, .c (.int .u64 16)], none⟩,
  ⟨(some 13), .bin .or, [.t 7, .t 12], none⟩,
  ⟨(some 14), .mov, [.t 0], none⟩,
  ⟨(some 15), .iaddr 1, [.t 14, .c (.int .i64 2)], none⟩,
  ⟨(some 16), .load false 1, [.t 15], none⟩,
  ⟨(some 17), .convI .u32, [.t 16], none⟩,
  ⟨(some 18), .bin .shl, [.t 17, .c (.int .u64 8)], none⟩,
  ⟨(some 19), .bin .or, [.t 13, .t 18], none⟩,
  ⟨(some 20), .mov, [.t 0], none⟩,
  ⟨(some 21), .iaddr 1, [.t 20, .c (.int .i64 3)], none⟩,
  ⟨(some 22), .load false 1, [.t 21], none⟩,
  ⟨(some 23), .convI .u32, [.t 22], none⟩,
  ⟨(some 24), .bin .or, [.t 19, .t 23], none⟩,
  ⟨(some 2), .mov, [.t 24], none⟩]
def c_sha_word_r1 : List COper := a_sha_word_r1
instance : Reg c_sha_word_r1 a_sha_word_r1 23 := ⟨rfl, rfl⟩
@[simp] def c_sha_word : CCode :=
  .seq (.region c_sha_word_r0 none [0]) (.seq (.region c_sha_word_r1 (some ([0, 1, 3, 7, 15, 0, 32, 96, 224, 480, 1023, 0, 2048, 6144, 14336, 30720, 65535, 0, 131072, 393216, 917504, 2097151, 4194303], [])) [2]) (.ret))
@[simp] def R_sha_word : List CRes := [.tmp 2]
theorem k_sha_word : chkFn Tryd.prog fn_sha_word c_sha_word R_sha_word 1 = true := by kernel_rfl
/-! math/bits.RotateLeft32 -/
@[simp] def a_bits_RotateLeft32_r0 : List COper := [
  ⟨(some 4), .mov, [.c (.int .u32 0)], none⟩]
def c_bits_RotateLeft32_r0 : List COper := a_bits_RotateLeft32_r0
instance : Reg c_bits_RotateLeft32_r0 a_bits_RotateLeft32_r0 1 := ⟨rfl, rfl⟩
@[simp] def a_bits_RotateLeft32_r1 : List COper := [
  ⟨(some 6), .mov, [.t 1], none⟩,
  ⟨(some 7), .convI .u64, [.t 6], none⟩,
  ⟨(some 8), .bin .and, [.t 7, .c (.int .u64 31)], none⟩,
  ⟨(some 5), .mov, [.t 8], none⟩]
def c_bits_RotateLeft32_r1 : List COper := a_bits_RotateLeft32_r1
instance : Reg c_bits_RotateLeft32_r1 a_bits_RotateLeft32_r1 4 := ⟨rfl, rfl⟩
@[simp] def a_bits_RotateLeft32_r2 : List COper := [
  ⟨(some 9), .mov, [.t 0], none⟩,
  ⟨(some 10), .mov, [.t 5], none⟩,
  ⟨(some 11), .bin .shl, [.t 9, .t 10], none⟩,
  ⟨(some 12), .mov, [.t 0], none⟩,
  ⟨(some 13), .mov, [.t 5], none⟩,
  ⟨(some 14), .bin .sub, [.c (.int .u64 32), .t 13], none⟩,
  ⟨(some 15), .bin .shr, [.t 12, .t 14], none⟩,
  ⟨(some 16), .bin .or, [.t 11, .t 15], none⟩,
  ⟨(some 4), .mov, [.t 16], none⟩]
def c_bits_RotateLeft32_r2 : List COper := a_bits_RotateLeft32_r2
instance : Reg c_bits_RotateLeft32_r2 a_bits_RotateLeft32_r2 9 := ⟨rfl, rfl⟩
@[simp] def c_bits_RotateLeft32 : CCode :=
  .seq (.region c_bits_RotateLeft32_r0 none [0, 1]) (.seq (.region c_bits_RotateLeft32_r1 none [0, 5]) (.seq (.region c_bits_RotateLeft32_r2 none [4]) (.ret)))
@[simp] def R_bits_RotateLeft32 : List CRes := [.tmp 4]
theorem k_bits_RotateLeft32 : chkFn Tryd.prog fn_bits_RotateLeft32 c_bits_RotateLeft32 R_bits_RotateLeft32 2 = true := by kernel_rfl

end Go.Proofs.YtphggannefpleaaDoor.WL
