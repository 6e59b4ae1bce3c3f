/- The program's functions as abstract texts, each held against the program by the kernel. -/
import Derived.Test.YthmnkpehifgjeaaWm5
import Derived.Test.YthmnkpehifgjeaaChecked
namespace Go.Proofs.Ythmnkpehifgjeaa.WL
open Go
theorem mix : Try.prog.follows .mixedOrders = true := by kernel_rfl
def fn_l16_DiskLoses : Nat := 3
def fn_l16_DiskKeeps : Nat := 4
def fn_l16_DiskInstalls : Nat := 5
def fn_l16_DiskFull : Nat := 6
def fn_l16_DiskApart : Nat := 7
def fn_l16_alive : Nat := 8
def fn_disk_New : Nat := 9
def fn_disk_Disk_Arm : Nat := 10
def fn_disk_Disk_Append : Nat := 11
def fn_disk_Disk_Sync : Nat := 12
def fn_disk_Disk_Off : Nat := 13
def fn_disk_Disk_On : Nat := 14
def fn_disk_Disk_Read : Nat := 15
def fn_disk_Disk_Install : Nat := 16
def fn_disk_Disk_Acts : Nat := 17
def fn_disk_Disk_Names : Nat := 18
def fn_disk_Disk_size : Nat := 19
def fn_disk_Disk_act : Nat := 20
def fn_disk_Disk_file : Nat := 21
def fn_slices_Sorted : Nat := 22
def fn_maps_Keys : Nat := 23
def fn_slices_Collect : Nat := 24
def fn_slices_Sort : Nat := 25
def fn_maps_Keys_1 : Nat := 26
def fn_slices_AppendSeq : Nat := 27
def fn_slices_pdqsortOrdered : Nat := 28
def fn_bits_Len : Nat := 29
def fn_slices_insertionSortOrdered : Nat := 30
def fn_slices_heapSortOrdered : Nat := 31
def fn_slices_breakPatternsOrdered : Nat := 32
def fn_slices_choosePivotOrdered : Nat := 33
def fn_slices_reverseRangeOrdered : Nat := 34
def fn_slices_partialInsertionSortOrdered : Nat := 35
def fn_cmp_Less : Nat := 36
def fn_slices_partitionEqualOrdered : Nat := 37
def fn_slices_partitionOrdered : Nat := 38
def fn_bits_Len32 : Nat := 39
def fn_bits_Len64 : Nat := 40
def fn_slices_siftDownOrdered : Nat := 41
def fn_slices_nextPowerOfTwo : Nat := 42
def fn_slices_xorshift_Next : Nat := 43
def fn_slices_medianAdjacentOrdered : Nat := 44
def fn_slices_medianOrdered : Nat := 45
def fn_cmp_isNaN : Nat := 46
def fn_slices_order2Ordered : Nat := 47
/-! wapentake/wapentakelaw16.DiskLoses -/
@[simp] def a_l16_DiskLoses_r0 : List COper := [
  ⟨(some 8), .mov, [.c (.bool false)], none⟩]
def c_l16_DiskLoses_r0 : List COper := a_l16_DiskLoses_r0
instance : Reg c_l16_DiskLoses_r0 a_l16_DiskLoses_r0 1 := ⟨rfl, rfl⟩
@[simp] def a_l16_DiskLoses_r1 : List COper := [
  ⟨(some 21), .call fn_l16_alive, [], none⟩,
  ⟨(some 22), .not, [.t 21], none⟩]
def c_l16_DiskLoses_r1 : List COper := a_l16_DiskLoses_r1
instance : Reg c_l16_DiskLoses_r1 a_l16_DiskLoses_r1 2 := ⟨rfl, rfl⟩
@[simp] def a_l16_DiskLoses_r2 : List COper := [
  ⟨(some 8), .mov, [.c (.bool false)], none⟩]
def c_l16_DiskLoses_r2 : List COper := a_l16_DiskLoses_r2
instance : Reg c_l16_DiskLoses_r2 a_l16_DiskLoses_r2 1 := ⟨rfl, rfl⟩
@[simp] def a_l16_DiskLoses_r3 : List COper := [
  ⟨(some 9), .mov, [.c (.int .i64 0)], none⟩]
def c_l16_DiskLoses_r3 : List COper := a_l16_DiskLoses_r3
instance : Reg c_l16_DiskLoses_r3 a_l16_DiskLoses_r3 1 := ⟨rfl, rfl⟩
@[simp] def a_l16_DiskLoses_r4 : List COper := [
  ⟨(some 23), .mov, [.t 0], none⟩,
  ⟨(some 24), .len, [.t 23], none⟩,
  ⟨(some 25), .mov, [.c (.int .i64 0)], none⟩]
def c_l16_DiskLoses_r4 : List COper := a_l16_DiskLoses_r4
instance : Reg c_l16_DiskLoses_r4 a_l16_DiskLoses_r4 3 := ⟨rfl, rfl⟩
@[simp] def a_l16_DiskLoses_r5 : List COper := [
  ⟨(some 26), .bin .lss, [.t 25, .t 24], none⟩]
def c_l16_DiskLoses_r5 : List COper := a_l16_DiskLoses_r5
instance : Reg c_l16_DiskLoses_r5 a_l16_DiskLoses_r5 1 := ⟨rfl, rfl⟩
@[simp] def a_l16_DiskLoses_r6 : List COper := [
  ⟨(some 27), .iaddr 1, [.t 23, .t 25], none⟩,
  ⟨(some 28), .load false 1, [.t 27], none⟩,
  ⟨(some 11), .mov, [.t 28], none⟩]
def c_l16_DiskLoses_r6 : List COper := a_l16_DiskLoses_r6
instance : Reg c_l16_DiskLoses_r6 a_l16_DiskLoses_r6 3 := ⟨rfl, rfl⟩
@[simp] def a_l16_DiskLoses_r7 : List COper := [
  ⟨(some 29), .mov, [.t 9], none⟩,
  ⟨(some 30), .mov, [.t 11], none⟩,
  ⟨(some 31), .len, [.t 30], none⟩,
  ⟨(some 32), .bin .add, [.t 29, .t 31], none⟩,
  ⟨(some 9), .mov, [.t 32], none⟩]
def c_l16_DiskLoses_r7 : List COper := a_l16_DiskLoses_r7
instance : Reg c_l16_DiskLoses_r7 a_l16_DiskLoses_r7 5 := ⟨rfl, rfl⟩
@[simp] def a_l16_DiskLoses_r8 : List COper := [
  ⟨(some 33), .mov, [.t 9], none⟩,
  ⟨(some 34), .bin .gtr, [.t 33, .c (.int .i64 32768)], none⟩]
def c_l16_DiskLoses_r8 : List COper := a_l16_DiskLoses_r8
instance : Reg c_l16_DiskLoses_r8 a_l16_DiskLoses_r8 2 := ⟨rfl, rfl⟩
@[simp] def a_l16_DiskLoses_r9 : List COper := [
  ⟨(some 8), .mov, [.c (.bool true)], none⟩]
def c_l16_DiskLoses_r9 : List COper := a_l16_DiskLoses_r9
instance : Reg c_l16_DiskLoses_r9 a_l16_DiskLoses_r9 1 := ⟨rfl, rfl⟩
@[simp] def a_l16_DiskLoses_r10 : List COper := [
  ⟨(some 35), .bin .add, [.t 25, .c (.int .i64 1)], none⟩,
  ⟨(some 25), .mov, [.t 35], none⟩]
def c_l16_DiskLoses_r10 : List COper := a_l16_DiskLoses_r10
instance : Reg c_l16_DiskLoses_r10 a_l16_DiskLoses_r10 2 := ⟨rfl, rfl⟩
@[simp] def a_l16_DiskLoses_r11 : List COper := [
  ⟨(some 36), .mov, [.t 0], none⟩,
  ⟨(some 37), .len, [.t 36], none⟩,
  ⟨(some 38), .bin .gtr, [.t 37, .c (.int .i64 50)], none⟩,
  ⟨(some 39), .mov, [.t 38], none⟩,
  ⟨(some 40), .mov, [.t 1], (some (39, false))⟩,
  ⟨(some 41), .len, [.t 40], (some (39, false))⟩,
  ⟨(some 42), .mov, [.t 0], (some (39, false))⟩,
  ⟨(some 43), .len, [.t 42], (some (39, false))⟩,
  ⟨(some 44), .bin .lss, [.t 41, .t 43], (some (39, false))⟩,
  ⟨(some 45), .pick, [.t 39, .c (.bool true), .t 44], none⟩]
def c_l16_DiskLoses_r11 : List COper := a_l16_DiskLoses_r11
instance : Reg c_l16_DiskLoses_r11 a_l16_DiskLoses_r11 10 := ⟨rfl, rfl⟩
@[simp] def a_l16_DiskLoses_r12 : List COper := [
  ⟨(some 8), .mov, [.c (.bool true)], none⟩]
def c_l16_DiskLoses_r12 : List COper := a_l16_DiskLoses_r12
instance : Reg c_l16_DiskLoses_r12 a_l16_DiskLoses_r12 1 := ⟨rfl, rfl⟩
@[simp] def a_l16_DiskLoses_r13 : List COper := [
  ⟨(some 46), .call fn_disk_New, [], none⟩,
  ⟨(some 12), .mov, [.t 46], none⟩]
def c_l16_DiskLoses_r13 : List COper := a_l16_DiskLoses_r13
instance : Reg c_l16_DiskLoses_r13 a_l16_DiskLoses_r13 2 := ⟨rfl, rfl⟩
@[simp] def a_l16_DiskLoses_r14 : List COper := [
  ⟨(some 47), .mov, [.t 12], none⟩,
  ⟨(some 48), .mov, [.t 2], none⟩,
  ⟨(some 49), .mov, [.t 3], none⟩,
  ⟨(some 50), .call fn_disk_Disk_Arm, [.t 47, .t 48, .t 49], none⟩]
def c_l16_DiskLoses_r14 : List COper := a_l16_DiskLoses_r14
instance : Reg c_l16_DiskLoses_r14 a_l16_DiskLoses_r14 4 := ⟨rfl, rfl⟩
@[simp] def a_l16_DiskLoses_r15 : List COper := [
  ⟨(some 13), .mov, [.c (.string (mkS []))], none⟩,
  ⟨(some 14), .mov, [.c (.string (mkS []))], none⟩]
def c_l16_DiskLoses_r15 : List COper := a_l16_DiskLoses_r15
instance : Reg c_l16_DiskLoses_r15 a_l16_DiskLoses_r15 2 := ⟨rfl, rfl⟩
@[simp] def a_l16_DiskLoses_r16 : List COper := [
  ⟨(some 51), .mov, [.t 0], none⟩,
  ⟨(some 52), .len, [.t 51], none⟩,
  ⟨(some 53), .mov, [.c (.int .i64 0)], none⟩]
def c_l16_DiskLoses_r16 : List COper := a_l16_DiskLoses_r16
instance : Reg c_l16_DiskLoses_r16 a_l16_DiskLoses_r16 3 := ⟨rfl, rfl⟩
@[simp] def a_l16_DiskLoses_r17 : List COper := [
  ⟨(some 54), .bin .lss, [.t 53, .t 52], none⟩]
def c_l16_DiskLoses_r17 : List COper := a_l16_DiskLoses_r17
instance : Reg c_l16_DiskLoses_r17 a_l16_DiskLoses_r17 1 := ⟨rfl, rfl⟩
@[simp] def a_l16_DiskLoses_r18 : List COper := [
  ⟨(some 55), .mov, [.t 53], none⟩,
  ⟨(some 56), .iaddr 1, [.t 51, .t 53], none⟩,
  ⟨(some 57), .load false 1, [.t 56], none⟩,
  ⟨(some 15), .mov, [.t 55], none⟩,
  ⟨(some 16), .mov, [.t 57], none⟩]
def c_l16_DiskLoses_r18 : List COper := a_l16_DiskLoses_r18
instance : Reg c_l16_DiskLoses_r18 a_l16_DiskLoses_r18 5 := ⟨rfl, rfl⟩
@[simp] def a_l16_DiskLoses_r19 : List COper := [
  ⟨(some 58), .mov, [.t 12], none⟩,
  ⟨(some 59), .mov, [.t 16], none⟩,
  ⟨(some 60), .call fn_disk_Disk_Append, [.t 58, .c (.string (mkS [102])), .t 59], none⟩,
  ⟨(some 17), .mov, [.t 60], none⟩]
def c_l16_DiskLoses_r19 : List COper := a_l16_DiskLoses_r19
instance : Reg c_l16_DiskLoses_r19 a_l16_DiskLoses_r19 4 := ⟨rfl, rfl⟩
@[simp] def a_l16_DiskLoses_r20 : List COper := [
  ⟨(some 61), .mov, [.t 13], none⟩,
  ⟨(some 62), .mov, [.t 16], none⟩,
  ⟨(some 63), .convS, [.t 62], none⟩,
  ⟨(some 64), .bin .add, [.t 61, .t 63], none⟩,
  ⟨(some 13), .mov, [.t 64], none⟩]
def c_l16_DiskLoses_r20 : List COper := a_l16_DiskLoses_r20
instance : Reg c_l16_DiskLoses_r20 a_l16_DiskLoses_r20 5 := ⟨rfl, rfl⟩
@[simp] def a_l16_DiskLoses_r21 : List COper := [
  ⟨(some 65), .mov, [.t 17], none⟩,
  ⟨(some 66), .bin .eql, [.t 65, .c (.int .i64 0)], none⟩,
  ⟨(some 67), .mov, [.t 66], none⟩,
  ⟨(some 68), .mov, [.t 1], (some (67, true))⟩,
  ⟨(some 69), .mov, [.t 15], (some (67, true))⟩,
  ⟨(some 70), .iaddr 1, [.t 68, .t 69], (some (67, true))⟩,
  ⟨(some 71), .load false 1, [.t 70], (some (67, true))⟩,
  ⟨(some 72), .pick, [.t 67, .t 71, .c (.bool false)], none⟩]
def c_l16_DiskLoses_r21 : List COper := a_l16_DiskLoses_r21
instance : Reg c_l16_DiskLoses_r21 a_l16_DiskLoses_r21 8 := ⟨rfl, rfl⟩
@[simp] def a_l16_DiskLoses_r22 : List COper := [
  ⟨(some 73), .mov, [.t 12], none⟩,
  ⟨(some 74), .call fn_disk_Disk_Sync, [.t 73, .c (.string (mkS [102]))], none⟩,
  ⟨(some 17), .mov, [.t 74], none⟩]
def c_l16_DiskLoses_r22 : List COper := a_l16_DiskLoses_r22
instance : Reg c_l16_DiskLoses_r22 a_l16_DiskLoses_r22 3 := ⟨rfl, rfl⟩
@[simp] def a_l16_DiskLoses_r23 : List COper := [
  ⟨(some 75), .mov, [.t 17], none⟩,
  ⟨(some 76), .bin .eql, [.t 75, .c (.int .i64 0)], none⟩]
def c_l16_DiskLoses_r23 : List COper := a_l16_DiskLoses_r23
instance : Reg c_l16_DiskLoses_r23 a_l16_DiskLoses_r23 2 := ⟨rfl, rfl⟩
@[simp] def a_l16_DiskLoses_r24 : List COper := [
  ⟨(some 77), .mov, [.t 13], none⟩,
  ⟨(some 14), .mov, [.t 77], none⟩]
def c_l16_DiskLoses_r24 : List COper := a_l16_DiskLoses_r24
instance : Reg c_l16_DiskLoses_r24 a_l16_DiskLoses_r24 2 := ⟨rfl, rfl⟩
@[simp] def a_l16_DiskLoses_r25 : List COper := [
  ⟨(some 78), .mov, [.t 17], none⟩,
  ⟨(some 79), .bin .neq, [.t 78, .c (.int .i64 0)], none⟩]
def c_l16_DiskLoses_r25 : List COper := a_l16_DiskLoses_r25
instance : Reg c_l16_DiskLoses_r25 a_l16_DiskLoses_r25 2 := ⟨rfl, rfl⟩
@[simp] def a_l16_DiskLoses_r26 : List COper := [
  ⟨(some 80), .bin .add, [.t 53, .c (.int .i64 1)], none⟩,
  ⟨(some 53), .mov, [.t 80], none⟩]
def c_l16_DiskLoses_r26 : List COper := a_l16_DiskLoses_r26
instance : Reg c_l16_DiskLoses_r26 a_l16_DiskLoses_r26 2 := ⟨rfl, rfl⟩
@[simp] def a_l16_DiskLoses_r27 : List COper := [
  ⟨(some 81), .mov, [.t 12], none⟩,
  ⟨(some 82), .mov, [.t 3], none⟩,
  ⟨(some 83), .call fn_disk_Disk_Off, [.t 81, .t 82], none⟩]
def c_l16_DiskLoses_r27 : List COper := a_l16_DiskLoses_r27
instance : Reg c_l16_DiskLoses_r27 a_l16_DiskLoses_r27 3 := ⟨rfl, rfl⟩
@[simp] def a_l16_DiskLoses_r28 : List COper := [
  ⟨(some 84), .mov, [.t 12], none⟩,
  ⟨(some 85), .call fn_disk_Disk_On, [.t 84], none⟩]
def c_l16_DiskLoses_r28 : List COper := a_l16_DiskLoses_r28
instance : Reg c_l16_DiskLoses_r28 a_l16_DiskLoses_r28 2 := ⟨rfl, rfl⟩
@[simp] def a_l16_DiskLoses_r29 : List COper := [
  ⟨(some 87), .mov, [.t 12], none⟩,
  ⟨(some 88), .call fn_disk_Disk_Read, [.t 87, .c (.string (mkS [102]))], none⟩,
  ⟨(some 86), .mov, [.t 88], none⟩,
  ⟨(some 89), .ext 0, [.t 86], none⟩,
  ⟨(some 90), .ext 1, [.t 86], none⟩,
  ⟨(some 18), .mov, [.t 89], none⟩,
  ⟨(some 19), .mov, [.t 90], none⟩]
def c_l16_DiskLoses_r29 : List COper := a_l16_DiskLoses_r29
instance : Reg c_l16_DiskLoses_r29 a_l16_DiskLoses_r29 7 := ⟨rfl, rfl⟩
@[simp] def a_l16_DiskLoses_r30 : List COper := [
  ⟨(some 91), .mov, [.t 19], none⟩,
  ⟨(some 92), .bin .neq, [.t 91, .c (.int .i64 0)], none⟩]
def c_l16_DiskLoses_r30 : List COper := a_l16_DiskLoses_r30
instance : Reg c_l16_DiskLoses_r30 a_l16_DiskLoses_r30 2 := ⟨rfl, rfl⟩
@[simp] def a_l16_DiskLoses_r31 : List COper := [
  ⟨(some 93), .mov, [.t 19], none⟩,
  ⟨(some 94), .bin .eql, [.t 93, .c (.int .i64 7)], none⟩,
  ⟨(some 95), .mov, [.t 94], none⟩,
  ⟨(some 96), .mov, [.t 14], (some (95, true))⟩,
  ⟨(some 97), .bin .eql, [.t 96, .c (.string (mkS []))], (some (95, true))⟩,
  ⟨(some 98), .pick, [.t 95, .t 97, .c (.bool false)], none⟩,
  ⟨(some 8), .mov, [.t 98], none⟩]
def c_l16_DiskLoses_r31 : List COper := a_l16_DiskLoses_r31
instance : Reg c_l16_DiskLoses_r31 a_l16_DiskLoses_r31 7 := ⟨rfl, rfl⟩
@[simp] def a_l16_DiskLoses_r32 : List COper := [
  ⟨(some 99), .mov, [.t 18], none⟩,
  ⟨(some 100), .convS, [.t 99], none⟩,
  ⟨(some 20), .mov, [.t 100], none⟩]
def c_l16_DiskLoses_r32 : List COper := a_l16_DiskLoses_r32
instance : Reg c_l16_DiskLoses_r32 a_l16_DiskLoses_r32 3 := ⟨rfl, rfl⟩
@[simp] def a_l16_DiskLoses_r33 : List COper := [
  ⟨(some 101), .mov, [.t 20], none⟩,
  ⟨(some 102), .lenS, [.t 101], none⟩,
  ⟨(some 103), .mov, [.t 14], none⟩,
  ⟨(some 104), .lenS, [.t 103], none⟩,
  ⟨(some 105), .bin .geq, [.t 102, .t 104], none⟩,
  ⟨(some 106), .mov, [.t 105], none⟩,
  ⟨(some 107), .mov, [.t 20], (some (106, true))⟩,
  ⟨(some 108), .lenS, [.t 107], (some (106, true))⟩,
  ⟨(some 109), .mov, [.t 13], (some (106, true))⟩,
  ⟨(some 110), .lenS, [.t 109], (some (106, true))⟩,
  ⟨(some 111), .bin .leq, [.t 108, .t 110], (some (106, true))⟩,
  ⟨(some 112), .pick, [.t 106, .t 111, .c (.bool false)], none⟩,
  ⟨(some 113), .mov, [.t 112], none⟩,
  ⟨(some 114), .mov, [.t 13], (some (113, true))⟩,
  ⟨(some 115), .mov, [.t 20], (some (113, true))⟩,
  ⟨(some 116), .lenS, [.t 115], (some (113, true))⟩,
  ⟨(some 117), .sliceStr false true, [.t 114, .t 116], (some (113, true))⟩,
  ⟨(some 118), .mov, [.t 20], (some (113, true))⟩,
  ⟨(some 119), .bin .eql, [.t 117, .t 118], (some (113, true))⟩,
  ⟨(some 120), .pick, [.t 113, .t 119, .c (.bool false)], none⟩,
  ⟨(some 8), .mov, [.t 120], none⟩]
def c_l16_DiskLoses_r33 : List COper := a_l16_DiskLoses_r33
instance : Reg c_l16_DiskLoses_r33 a_l16_DiskLoses_r33 21 := ⟨rfl, rfl⟩
@[simp] def c_l16_DiskLoses : CCode :=
  .seq (.region c_l16_DiskLoses_r0 none [0, 1, 2, 3]) (.seq (.seq (.region c_l16_DiskLoses_r1 none [0, 1, 2, 3, 22]) (.cond (.t 22) (.seq (.region c_l16_DiskLoses_r2 none [8]) (.ret)) (.skip))) (.seq (.region c_l16_DiskLoses_r3 none [0, 1, 2, 3, 9]) (.seq (.seq (.region c_l16_DiskLoses_r4 none [0, 1, 2, 3, 9, 23, 24, 25]) (.block 0 (.loop (.seq (.region c_l16_DiskLoses_r5 none [0, 1, 2, 3, 9, 23, 24, 25, 26]) (.seq (.cond (.t 26) (.skip) (.exit 0)) (.seq (.block 1 (.seq (.region c_l16_DiskLoses_r6 none [0, 1, 2, 3, 9, 11, 23, 24, 25]) (.seq (.region c_l16_DiskLoses_r7 none [0, 1, 2, 3, 9, 23, 24, 25]) (.seq (.region c_l16_DiskLoses_r8 none [0, 1, 2, 3, 9, 23, 24, 25, 34]) (.cond (.t 34) (.seq (.region c_l16_DiskLoses_r9 none [8]) (.ret)) (.skip)))))) (.region c_l16_DiskLoses_r10 none [0, 1, 2, 3, 9, 23, 24, 25]))))))) (.seq (.seq (.region c_l16_DiskLoses_r11 none [0, 1, 2, 3, 45]) (.cond (.t 45) (.seq (.region c_l16_DiskLoses_r12 none [8]) (.ret)) (.skip))) (.seq (.region c_l16_DiskLoses_r13 none [0, 1, 2, 3, 12]) (.seq (.region c_l16_DiskLoses_r14 none [0, 1, 3, 12]) (.seq (.region c_l16_DiskLoses_r15 none [0, 1, 3, 12, 13, 14]) (.seq (.seq (.region c_l16_DiskLoses_r16 none [1, 3, 12, 13, 14, 51, 52, 53]) (.block 2 (.loop (.seq (.region c_l16_DiskLoses_r17 none [1, 3, 12, 13, 14, 51, 52, 53, 54]) (.seq (.cond (.t 54) (.skip) (.exit 2)) (.seq (.block 3 (.seq (.region c_l16_DiskLoses_r18 none [1, 3, 12, 13, 14, 15, 16, 51, 52, 53]) (.seq (.region c_l16_DiskLoses_r19 none [1, 3, 12, 13, 14, 15, 16, 17, 51, 52, 53]) (.seq (.region c_l16_DiskLoses_r20 none [1, 3, 12, 13, 14, 15, 17, 51, 52, 53]) (.seq (.seq (.region c_l16_DiskLoses_r21 none [1, 3, 12, 13, 14, 17, 51, 52, 53, 72]) (.cond (.t 72) (.seq (.region c_l16_DiskLoses_r22 none [1, 3, 12, 13, 14, 17, 51, 52, 53]) (.seq (.region c_l16_DiskLoses_r23 none [1, 3, 12, 13, 14, 17, 51, 52, 53, 76]) (.cond (.t 76) (.region c_l16_DiskLoses_r24 none [1, 3, 12, 13, 14, 17, 51, 52, 53]) (.skip)))) (.skip))) (.seq (.region c_l16_DiskLoses_r25 none [1, 3, 12, 13, 14, 51, 52, 53, 79]) (.cond (.t 79) (.exit 2) (.skip)))))))) (.region c_l16_DiskLoses_r26 none [1, 3, 12, 13, 14, 51, 52, 53]))))))) (.seq (.region c_l16_DiskLoses_r27 none [12, 13, 14]) (.seq (.region c_l16_DiskLoses_r28 none [12, 13, 14]) (.seq (.region c_l16_DiskLoses_r29 none [13, 14, 18, 19]) (.seq (.seq (.region c_l16_DiskLoses_r30 none [13, 14, 18, 19, 92]) (.cond (.t 92) (.seq (.region c_l16_DiskLoses_r31 none [8]) (.ret)) (.skip))) (.seq (.region c_l16_DiskLoses_r32 none [13, 14, 20]) (.seq (.region c_l16_DiskLoses_r33 none [8]) (.ret)))))))))))))))
@[simp] def R_l16_DiskLoses : List CRes := [.tmp 8]
theorem k_l16_DiskLoses : chkFn Try.prog fn_l16_DiskLoses c_l16_DiskLoses R_l16_DiskLoses 4 = true := by kernel_rfl
/-! wapentake/wapentakelaw16.DiskKeeps -/
@[simp] def a_l16_DiskKeeps_r0 : List COper := [
  ⟨(some 4), .mov, [.c (.bool false)], none⟩]
def c_l16_DiskKeeps_r0 : List COper := a_l16_DiskKeeps_r0
instance : Reg c_l16_DiskKeeps_r0 a_l16_DiskKeeps_r0 1 := ⟨rfl, rfl⟩
@[simp] def a_l16_DiskKeeps_r1 : List COper := [
  ⟨(some 15), .call fn_l16_alive, [], none⟩,
  ⟨(some 16), .not, [.t 15], none⟩]
def c_l16_DiskKeeps_r1 : List COper := a_l16_DiskKeeps_r1
instance : Reg c_l16_DiskKeeps_r1 a_l16_DiskKeeps_r1 2 := ⟨rfl, rfl⟩
@[simp] def a_l16_DiskKeeps_r2 : List COper := [
  ⟨(some 4), .mov, [.c (.bool false)], none⟩]
def c_l16_DiskKeeps_r2 : List COper := a_l16_DiskKeeps_r2
instance : Reg c_l16_DiskKeeps_r2 a_l16_DiskKeeps_r2 1 := ⟨rfl, rfl⟩
@[simp] def a_l16_DiskKeeps_r3 : List COper := [
  ⟨(some 17), .mov, [.t 0], none⟩,
  ⟨(some 18), .len, [.t 17], none⟩,
  ⟨(some 19), .bin .gtr, [.t 18, .c (.int .i64 4096)], none⟩,
  ⟨(some 20), .mov, [.t 19], none⟩,
  ⟨(some 21), .mov, [.t 1], (some (20, false))⟩,
  ⟨(some 22), .len, [.t 21], (some (20, false))⟩,
  ⟨(some 23), .bin .gtr, [.t 22, .c (.int .i64 4096)], (some (20, false))⟩,
  ⟨(some 24), .pick, [.t 20, .c (.bool true), .t 23], none⟩]
def c_l16_DiskKeeps_r3 : List COper := a_l16_DiskKeeps_r3
instance : Reg c_l16_DiskKeeps_r3 a_l16_DiskKeeps_r3 8 := ⟨rfl, rfl⟩
@[simp] def a_l16_DiskKeeps_r4 : List COper := [
  ⟨(some 4), .mov, [.c (.bool true)], none⟩]
def c_l16_DiskKeeps_r4 : List COper := a_l16_DiskKeeps_r4
instance : Reg c_l16_DiskKeeps_r4 a_l16_DiskKeeps_r4 1 := ⟨rfl, rfl⟩
@[simp] def a_l16_DiskKeeps_r5 : List COper := [
  ⟨(some 25), .bslice 1 0 (.v (.int .u8 0)) [], [], none⟩,
  ⟨(some 26), .mov, [.t 0], none⟩,
  ⟨(some 27), .app 1 1, [.t 25, .t 26], none⟩,
  ⟨(some 28), .bslice 1 0 (.v (.int .u8 0)) [], [], none⟩,
  ⟨(some 29), .mov, [.t 1], none⟩,
  ⟨(some 30), .app 1 1, [.t 28, .t 29], none⟩,
  ⟨(some 5), .mov, [.t 27], none⟩,
  ⟨(some 6), .mov, [.t 30], none⟩]
def c_l16_DiskKeeps_r5 : List COper := a_l16_DiskKeeps_r5
instance : Reg c_l16_DiskKeeps_r5 a_l16_DiskKeeps_r5 8 := ⟨rfl, rfl⟩
@[simp] def a_l16_DiskKeeps_r6 : List COper := [
  ⟨(some 31), .call fn_disk_New, [], none⟩,
  ⟨(some 7), .mov, [.t 31], none⟩]
def c_l16_DiskKeeps_r6 : List COper := a_l16_DiskKeeps_r6
instance : Reg c_l16_DiskKeeps_r6 a_l16_DiskKeeps_r6 2 := ⟨rfl, rfl⟩
@[simp] def a_l16_DiskKeeps_r7 : List COper := [
  ⟨(some 32), .mov, [.t 7], none⟩,
  ⟨(some 33), .mov, [.t 5], none⟩,
  ⟨(some 34), .call fn_disk_Disk_Append, [.t 32, .c (.string (mkS [102])), .t 33], none⟩]
def c_l16_DiskKeeps_r7 : List COper := a_l16_DiskKeeps_r7
instance : Reg c_l16_DiskKeeps_r7 a_l16_DiskKeeps_r7 3 := ⟨rfl, rfl⟩
@[simp] def a_l16_DiskKeeps_r8 : List COper := [
  ⟨(some 35), .mov, [.t 7], none⟩,
  ⟨(some 36), .mov, [.t 6], none⟩,
  ⟨(some 37), .call fn_disk_Disk_Install, [.t 35, .c (.string (mkS [103])), .t 36], none⟩]
def c_l16_DiskKeeps_r8 : List COper := a_l16_DiskKeeps_r8
instance : Reg c_l16_DiskKeeps_r8 a_l16_DiskKeeps_r8 3 := ⟨rfl, rfl⟩
@[simp] def a_l16_DiskKeeps_r9 : List COper := [
  ⟨(some 38), .mov, [.t 5], none⟩,
  ⟨(some 39), .convS, [.t 38], none⟩,
  ⟨(some 40), .mov, [.t 0], none⟩,
  ⟨(some 41), .convS, [.t 40], none⟩,
  ⟨(some 42), .bin .neq, [.t 39, .t 41], none⟩,
  ⟨(some 43), .mov, [.t 42], none⟩,
  ⟨(some 44), .mov, [.t 6], (some (43, false))⟩,
  ⟨(some 45), .convS, [.t 44], (some (43, false))⟩,
  ⟨(some 46), .mov, [.t 1], (some (43, false))⟩,
  ⟨(some 47), .convS, [.t 46], (some (43, false))⟩,
  ⟨(some 48), .bin .neq, [.t 45, .t 47], (some (43, false))⟩,
  ⟨(some 49), .pick, [.t 43, .c (.bool true), .t 48], none⟩]
def c_l16_DiskKeeps_r9 : List COper := a_l16_DiskKeeps_r9
instance : Reg c_l16_DiskKeeps_r9 a_l16_DiskKeeps_r9 12 := ⟨rfl, rfl⟩
@[simp] def a_l16_DiskKeeps_r10 : List COper := [
  ⟨(some 4), .mov, [.c (.bool false)], none⟩]
def c_l16_DiskKeeps_r10 : List COper := a_l16_DiskKeeps_r10
instance : Reg c_l16_DiskKeeps_r10 a_l16_DiskKeeps_r10 1 := ⟨rfl, rfl⟩
@[simp] def a_l16_DiskKeeps_r11 : List COper := [
  ⟨(some 50), .mov, [.t 5], none⟩,
  ⟨(some 51), .len, [.t 50], none⟩,
  ⟨(some 52), .mov, [.c (.int .i64 0)], none⟩]
def c_l16_DiskKeeps_r11 : List COper := a_l16_DiskKeeps_r11
instance : Reg c_l16_DiskKeeps_r11 a_l16_DiskKeeps_r11 3 := ⟨rfl, rfl⟩
@[simp] def a_l16_DiskKeeps_r12 : List COper := [
  ⟨(some 53), .bin .lss, [.t 52, .t 51], none⟩]
def c_l16_DiskKeeps_r12 : List COper := a_l16_DiskKeeps_r12
instance : Reg c_l16_DiskKeeps_r12 a_l16_DiskKeeps_r12 1 := ⟨rfl, rfl⟩
@[simp] def a_l16_DiskKeeps_r13 : List COper := [
  ⟨(some 54), .mov, [.t 52], none⟩,
  ⟨(some 8), .mov, [.t 54], none⟩]
def c_l16_DiskKeeps_r13 : List COper := a_l16_DiskKeeps_r13
instance : Reg c_l16_DiskKeeps_r13 a_l16_DiskKeeps_r13 2 := ⟨rfl, rfl⟩
@[simp] def a_l16_DiskKeeps_r14 : List COper := [
  ⟨(some 55), .mov, [.t 5], none⟩,
  ⟨(some 56), .mov, [.t 8], none⟩,
  ⟨(some 57), .iaddr 1, [.t 55, .t 56], none⟩,
  ⟨(some 58), .load false 1, [.t 57], none⟩,
  ⟨(some 59), .bin .add, [.t 58, .c (.int .u8 1)], none⟩,
  ⟨(some 60), .iaddr 1, [.t 55, .t 56], none⟩,
  ⟨none, .store false 1, [.t 60, .t 59], none⟩]
def c_l16_DiskKeeps_r14 : List COper := a_l16_DiskKeeps_r14
instance : Reg c_l16_DiskKeeps_r14 a_l16_DiskKeeps_r14 7 := ⟨rfl, rfl⟩
@[simp] def a_l16_DiskKeeps_r15 : List COper := [
  ⟨(some 61), .bin .add, [.t 52, .c (.int .i64 1)], none⟩,
  ⟨(some 52), .mov, [.t 61], none⟩]
def c_l16_DiskKeeps_r15 : List COper := a_l16_DiskKeeps_r15
instance : Reg c_l16_DiskKeeps_r15 a_l16_DiskKeeps_r15 2 := ⟨rfl, rfl⟩
@[simp] def a_l16_DiskKeeps_r16 : List COper := [
  ⟨(some 62), .mov, [.t 6], none⟩,
  ⟨(some 63), .len, [.t 62], none⟩,
  ⟨(some 64), .mov, [.c (.int .i64 0)], none⟩]
def c_l16_DiskKeeps_r16 : List COper := a_l16_DiskKeeps_r16
instance : Reg c_l16_DiskKeeps_r16 a_l16_DiskKeeps_r16 3 := ⟨rfl, rfl⟩
@[simp] def a_l16_DiskKeeps_r17 : List COper := [
  ⟨(some 65), .bin .lss, [.t 64, .t 63], none⟩]
def c_l16_DiskKeeps_r17 : List COper := a_l16_DiskKeeps_r17
instance : Reg c_l16_DiskKeeps_r17 a_l16_DiskKeeps_r17 1 := ⟨rfl, rfl⟩
@[simp] def a_l16_DiskKeeps_r18 : List COper := [
  ⟨(some 66), .mov, [.t 64], none⟩,
  ⟨(some 9), .mov, [.t 66], none⟩]
def c_l16_DiskKeeps_r18 : List COper := a_l16_DiskKeeps_r18
instance : Reg c_l16_DiskKeeps_r18 a_l16_DiskKeeps_r18 2 := ⟨rfl, rfl⟩
@[simp] def a_l16_DiskKeeps_r19 : List COper := [
  ⟨(some 67), .mov, [.t 6], none⟩,
  ⟨(some 68), .mov, [.t 9], none⟩,
  ⟨(some 69), .iaddr 1, [.t 67, .t 68], none⟩,
  ⟨(some 70), .load false 1, [.t 69], none⟩,
  ⟨(some 71), .bin .add, [.t 70, .c (.int .u8 1)], none⟩,
  ⟨(some 72), .iaddr 1, [.t 67, .t 68], none⟩,
  ⟨none, .store false 1, [.t 72, .t 71], none⟩]
def c_l16_DiskKeeps_r19 : List COper := a_l16_DiskKeeps_r19
instance : Reg c_l16_DiskKeeps_r19 a_l16_DiskKeeps_r19 7 := ⟨rfl, rfl⟩
@[simp] def a_l16_DiskKeeps_r20 : List COper := [
  ⟨(some 73), .bin .add, [.t 64, .c (.int .i64 1)], none⟩,
  ⟨(some 64), .mov, [.t 73], none⟩]
def c_l16_DiskKeeps_r20 : List COper := a_l16_DiskKeeps_r20
instance : Reg c_l16_DiskKeeps_r20 a_l16_DiskKeeps_r20 2 := ⟨rfl, rfl⟩
@[simp] def a_l16_DiskKeeps_r21 : List COper := [
  ⟨(some 75), .mov, [.t 7], none⟩,
  ⟨(some 76), .call fn_disk_Disk_Read, [.t 75, .c (.string (mkS [102]))], none⟩,
  ⟨(some 74), .mov, [.t 76], none⟩,
  ⟨(some 77), .ext 0, [.t 74], none⟩,
  ⟨(some 78), .ext 1, [.t 74], none⟩,
  ⟨(some 10), .mov, [.t 77], none⟩,
  ⟨(some 11), .mov, [.t 78], none⟩]
def c_l16_DiskKeeps_r21 : List COper := a_l16_DiskKeeps_r21
instance : Reg c_l16_DiskKeeps_r21 a_l16_DiskKeeps_r21 7 := ⟨rfl, rfl⟩
@[simp] def a_l16_DiskKeeps_r22 : List COper := [
  ⟨(some 79), .mov, [.t 10], none⟩,
  ⟨(some 80), .len, [.t 79], none⟩,
  ⟨(some 81), .mov, [.c (.int .i64 0)], none⟩]
def c_l16_DiskKeeps_r22 : List COper := a_l16_DiskKeeps_r22
instance : Reg c_l16_DiskKeeps_r22 a_l16_DiskKeeps_r22 3 := ⟨rfl, rfl⟩
@[simp] def a_l16_DiskKeeps_r23 : List COper := [
  ⟨(some 82), .bin .lss, [.t 81, .t 80], none⟩]
def c_l16_DiskKeeps_r23 : List COper := a_l16_DiskKeeps_r23
instance : Reg c_l16_DiskKeeps_r23 a_l16_DiskKeeps_r23 1 := ⟨rfl, rfl⟩
@[simp] def a_l16_DiskKeeps_r24 : List COper := [
  ⟨(some 83), .mov, [.t 81], none⟩,
  ⟨(some 12), .mov, [.t 83], none⟩]
def c_l16_DiskKeeps_r24 : List COper := a_l16_DiskKeeps_r24
instance : Reg c_l16_DiskKeeps_r24 a_l16_DiskKeeps_r24 2 := ⟨rfl, rfl⟩
@[simp] def a_l16_DiskKeeps_r25 : List COper := [
  ⟨(some 84), .mov, [.t 10], none⟩,
  ⟨(some 85), .mov, [.t 12], none⟩,
  ⟨(some 86), .iaddr 1, [.t 84, .t 85], none⟩,
  ⟨(some 87), .load false 1, [.t 86], none⟩,
  ⟨(some 88), .bin .add, [.t 87, .c (.int .u8 1)], none⟩,
  ⟨(some 89), .iaddr 1, [.t 84, .t 85], none⟩,
  ⟨none, .store false 1, [.t 89, .t 88], none⟩]
def c_l16_DiskKeeps_r25 : List COper := a_l16_DiskKeeps_r25
instance : Reg c_l16_DiskKeeps_r25 a_l16_DiskKeeps_r25 7 := ⟨rfl, rfl⟩
@[simp] def a_l16_DiskKeeps_r26 : List COper := [
  ⟨(some 90), .bin .add, [.t 81, .c (.int .i64 1)], none⟩,
  ⟨(some 81), .mov, [.t 90], none⟩]
def c_l16_DiskKeeps_r26 : List COper := a_l16_DiskKeeps_r26
instance : Reg c_l16_DiskKeeps_r26 a_l16_DiskKeeps_r26 2 := ⟨rfl, rfl⟩
@[simp] def a_l16_DiskKeeps_r27 : List COper := [
  ⟨(some 92), .mov, [.t 7], none⟩,
  ⟨(some 93), .call fn_disk_Disk_Read, [.t 92, .c (.string (mkS [102]))], none⟩,
  ⟨(some 91), .mov, [.t 93], none⟩,
  ⟨(some 94), .ext 0, [.t 91], none⟩,
  ⟨(some 95), .ext 1, [.t 91], none⟩,
  ⟨(some 10), .mov, [.t 94], none⟩]
def c_l16_DiskKeeps_r27 : List COper := a_l16_DiskKeeps_r27
instance : Reg c_l16_DiskKeeps_r27 a_l16_DiskKeeps_r27 6 := ⟨rfl, rfl⟩
@[simp] def a_l16_DiskKeeps_r28 : List COper := [
  ⟨(some 97), .mov, [.t 7], none⟩,
  ⟨(some 98), .call fn_disk_Disk_Read, [.t 97, .c (.string (mkS [103]))], none⟩,
  ⟨(some 96), .mov, [.t 98], none⟩,
  ⟨(some 99), .ext 0, [.t 96], none⟩,
  ⟨(some 100), .ext 1, [.t 96], none⟩,
  ⟨(some 13), .mov, [.t 99], none⟩,
  ⟨(some 14), .mov, [.t 100], none⟩]
def c_l16_DiskKeeps_r28 : List COper := a_l16_DiskKeeps_r28
instance : Reg c_l16_DiskKeeps_r28 a_l16_DiskKeeps_r28 7 := ⟨rfl, rfl⟩
@[simp] def a_l16_DiskKeeps_r29 : List COper := [
  ⟨(some 101), .mov, [.t 10], none⟩,
  ⟨(some 102), .convS, [.t 101], none⟩,
  ⟨(some 103), .mov, [.t 0], none⟩,
  ⟨(some 104), .convS, [.t 103], none⟩,
  ⟨(some 105), .bin .eql, [.t 102, .t 104], none⟩,
  ⟨(some 106), .mov, [.t 105], none⟩,
  ⟨(some 107), .mov, [.t 13], (some (106, true))⟩,
  ⟨(some 108), .convS, [.t 107], (some (106, true))⟩,
  ⟨(some 109), .mov, [.t 1], (some (106, true))⟩,
  ⟨(some 110), .convS, [.t 109], (some (106, true))⟩,
  ⟨(some 111), .bin .eql, [.t 108, .t 110], (some (106, true))⟩,
  ⟨(some 112), .pick, [.t 106, .t 111, .c (.bool false)], none⟩,
  ⟨(some 4), .mov, [.t 112], none⟩]
def c_l16_DiskKeeps_r29 : List COper := a_l16_DiskKeeps_r29
instance : Reg c_l16_DiskKeeps_r29 a_l16_DiskKeeps_r29 13 := ⟨rfl, rfl⟩
@[simp] def c_l16_DiskKeeps : CCode :=
  .seq (.region c_l16_DiskKeeps_r0 none [0, 1]) (.seq (.seq (.region c_l16_DiskKeeps_r1 none [0, 1, 16]) (.cond (.t 16) (.seq (.region c_l16_DiskKeeps_r2 none [4]) (.ret)) (.skip))) (.seq (.seq (.region c_l16_DiskKeeps_r3 none [0, 1, 24]) (.cond (.t 24) (.seq (.region c_l16_DiskKeeps_r4 none [4]) (.ret)) (.skip))) (.seq (.region c_l16_DiskKeeps_r5 none [0, 1, 5, 6]) (.seq (.region c_l16_DiskKeeps_r6 none [0, 1, 5, 6, 7]) (.seq (.region c_l16_DiskKeeps_r7 none [0, 1, 5, 6, 7]) (.seq (.region c_l16_DiskKeeps_r8 none [0, 1, 5, 6, 7]) (.seq (.seq (.region c_l16_DiskKeeps_r9 none [0, 1, 5, 6, 7, 49]) (.cond (.t 49) (.seq (.region c_l16_DiskKeeps_r10 none [4]) (.ret)) (.skip))) (.seq (.seq (.region c_l16_DiskKeeps_r11 none [0, 1, 5, 6, 7, 51, 52]) (.block 0 (.loop (.seq (.region c_l16_DiskKeeps_r12 none [0, 1, 5, 6, 7, 51, 52, 53]) (.seq (.cond (.t 53) (.skip) (.exit 0)) (.seq (.block 1 (.seq (.region c_l16_DiskKeeps_r13 none [0, 1, 5, 6, 7, 8, 51, 52]) (.region c_l16_DiskKeeps_r14 none [0, 1, 5, 6, 7, 51, 52]))) (.region c_l16_DiskKeeps_r15 none [0, 1, 5, 6, 7, 51, 52]))))))) (.seq (.seq (.region c_l16_DiskKeeps_r16 none [0, 1, 6, 7, 63, 64]) (.block 2 (.loop (.seq (.region c_l16_DiskKeeps_r17 none [0, 1, 6, 7, 63, 64, 65]) (.seq (.cond (.t 65) (.skip) (.exit 2)) (.seq (.block 3 (.seq (.region c_l16_DiskKeeps_r18 none [0, 1, 6, 7, 9, 63, 64]) (.region c_l16_DiskKeeps_r19 none [0, 1, 6, 7, 63, 64]))) (.region c_l16_DiskKeeps_r20 none [0, 1, 6, 7, 63, 64]))))))) (.seq (.region c_l16_DiskKeeps_r21 none [0, 1, 7, 10]) (.seq (.seq (.region c_l16_DiskKeeps_r22 none [0, 1, 7, 10, 80, 81]) (.block 4 (.loop (.seq (.region c_l16_DiskKeeps_r23 none [0, 1, 7, 10, 80, 81, 82]) (.seq (.cond (.t 82) (.skip) (.exit 4)) (.seq (.block 5 (.seq (.region c_l16_DiskKeeps_r24 none [0, 1, 7, 10, 12, 80, 81]) (.region c_l16_DiskKeeps_r25 none [0, 1, 7, 10, 80, 81]))) (.region c_l16_DiskKeeps_r26 none [0, 1, 7, 10, 80, 81]))))))) (.seq (.region c_l16_DiskKeeps_r27 none [0, 1, 7, 10]) (.seq (.region c_l16_DiskKeeps_r28 none [0, 1, 10, 13]) (.seq (.region c_l16_DiskKeeps_r29 none [4]) (.ret)))))))))))))))
@[simp] def R_l16_DiskKeeps : List CRes := [.tmp 4]
theorem k_l16_DiskKeeps : chkFn Try.prog fn_l16_DiskKeeps c_l16_DiskKeeps R_l16_DiskKeeps 2 = true := by kernel_rfl
/-! wapentake/wapentakelaw16.DiskInstalls -/
@[simp] def a_l16_DiskInstalls_r0 : List COper := [
  ⟨(some 10), .mov, [.c (.bool false)], none⟩]
def c_l16_DiskInstalls_r0 : List COper := a_l16_DiskInstalls_r0
instance : Reg c_l16_DiskInstalls_r0 a_l16_DiskInstalls_r0 1 := ⟨rfl, rfl⟩
@[simp] def a_l16_DiskInstalls_r1 : List COper := [
  ⟨(some 18), .call fn_l16_alive, [], none⟩,
  ⟨(some 19), .not, [.t 18], none⟩]
def c_l16_DiskInstalls_r1 : List COper := a_l16_DiskInstalls_r1
instance : Reg c_l16_DiskInstalls_r1 a_l16_DiskInstalls_r1 2 := ⟨rfl, rfl⟩
@[simp] def a_l16_DiskInstalls_r2 : List COper := [
  ⟨(some 10), .mov, [.c (.bool false)], none⟩]
def c_l16_DiskInstalls_r2 : List COper := a_l16_DiskInstalls_r2
instance : Reg c_l16_DiskInstalls_r2 a_l16_DiskInstalls_r2 1 := ⟨rfl, rfl⟩
@[simp] def a_l16_DiskInstalls_r3 : List COper := [
  ⟨(some 20), .mov, [.t 0], none⟩,
  ⟨(some 21), .len, [.t 20], none⟩,
  ⟨(some 22), .bin .gtr, [.t 21, .c (.int .i64 4096)], none⟩,
  ⟨(some 23), .mov, [.t 22], none⟩,
  ⟨(some 24), .mov, [.t 1], (some (23, false))⟩,
  ⟨(some 25), .len, [.t 24], (some (23, false))⟩,
  ⟨(some 26), .bin .gtr, [.t 25, .c (.int .i64 4096)], (some (23, false))⟩,
  ⟨(some 27), .pick, [.t 23, .c (.bool true), .t 26], none⟩,
  ⟨(some 28), .mov, [.t 27], none⟩,
  ⟨(some 29), .mov, [.t 2], (some (28, false))⟩,
  ⟨(some 30), .len, [.t 29], (some (28, false))⟩,
  ⟨(some 31), .bin .gtr, [.t 30, .c (.int .i64 4096)], (some (28, false))⟩,
  ⟨(some 32), .pick, [.t 28, .c (.bool true), .t 31], none⟩]
def c_l16_DiskInstalls_r3 : List COper := a_l16_DiskInstalls_r3
instance : Reg c_l16_DiskInstalls_r3 a_l16_DiskInstalls_r3 13 := ⟨rfl, rfl⟩
@[simp] def a_l16_DiskInstalls_r4 : List COper := [
  ⟨(some 10), .mov, [.c (.bool true)], none⟩]
def c_l16_DiskInstalls_r4 : List COper := a_l16_DiskInstalls_r4
instance : Reg c_l16_DiskInstalls_r4 a_l16_DiskInstalls_r4 1 := ⟨rfl, rfl⟩
@[simp] def a_l16_DiskInstalls_r5 : List COper := [
  ⟨(some 33), .call fn_disk_New, [], none⟩,
  ⟨(some 11), .mov, [.t 33], none⟩]
def c_l16_DiskInstalls_r5 : List COper := a_l16_DiskInstalls_r5
instance : Reg c_l16_DiskInstalls_r5 a_l16_DiskInstalls_r5 2 := ⟨rfl, rfl⟩
@[simp] def a_l16_DiskInstalls_r6 : List COper := [
  ⟨(some 34), .mov, [.t 11], none⟩,
  ⟨(some 35), .mov, [.t 0], none⟩,
  ⟨(some 36), .call fn_disk_Disk_Install, [.t 34, .c (.string (mkS [102])), .t 35], none⟩]
def c_l16_DiskInstalls_r6 : List COper := a_l16_DiskInstalls_r6
instance : Reg c_l16_DiskInstalls_r6 a_l16_DiskInstalls_r6 3 := ⟨rfl, rfl⟩
@[simp] def a_l16_DiskInstalls_r7 : List COper := [
  ⟨(some 37), .mov, [.t 11], none⟩,
  ⟨(some 38), .mov, [.t 2], none⟩,
  ⟨(some 39), .call fn_disk_Disk_Append, [.t 37, .c (.string (mkS [103])), .t 38], none⟩]
def c_l16_DiskInstalls_r7 : List COper := a_l16_DiskInstalls_r7
instance : Reg c_l16_DiskInstalls_r7 a_l16_DiskInstalls_r7 3 := ⟨rfl, rfl⟩
@[simp] def a_l16_DiskInstalls_r8 : List COper := [
  ⟨(some 40), .mov, [.t 11], none⟩,
  ⟨(some 41), .call fn_disk_Disk_Sync, [.t 40, .c (.string (mkS [103]))], none⟩]
def c_l16_DiskInstalls_r8 : List COper := a_l16_DiskInstalls_r8
instance : Reg c_l16_DiskInstalls_r8 a_l16_DiskInstalls_r8 2 := ⟨rfl, rfl⟩
@[simp] def a_l16_DiskInstalls_r9 : List COper := [
  ⟨(some 42), .mov, [.t 11], none⟩,
  ⟨(some 43), .mov, [.t 3], none⟩,
  ⟨(some 44), .mov, [.t 4], none⟩,
  ⟨(some 45), .call fn_disk_Disk_Arm, [.t 42, .t 43, .t 44], none⟩]
def c_l16_DiskInstalls_r9 : List COper := a_l16_DiskInstalls_r9
instance : Reg c_l16_DiskInstalls_r9 a_l16_DiskInstalls_r9 4 := ⟨rfl, rfl⟩
@[simp] def a_l16_DiskInstalls_r10 : List COper := [
  ⟨(some 46), .mov, [.t 11], none⟩,
  ⟨(some 47), .mov, [.t 1], none⟩,
  ⟨(some 48), .call fn_disk_Disk_Install, [.t 46, .c (.string (mkS [102])), .t 47], none⟩,
  ⟨(some 12), .mov, [.t 48], none⟩]
def c_l16_DiskInstalls_r10 : List COper := a_l16_DiskInstalls_r10
instance : Reg c_l16_DiskInstalls_r10 a_l16_DiskInstalls_r10 4 := ⟨rfl, rfl⟩
@[simp] def a_l16_DiskInstalls_r11 : List COper := [
  ⟨(some 49), .mov, [.t 11], none⟩,
  ⟨(some 50), .mov, [.t 1], none⟩,
  ⟨(some 51), .call fn_disk_Disk_Append, [.t 49, .c (.string (mkS [103])), .t 50], none⟩]
def c_l16_DiskInstalls_r11 : List COper := a_l16_DiskInstalls_r11
instance : Reg c_l16_DiskInstalls_r11 a_l16_DiskInstalls_r11 3 := ⟨rfl, rfl⟩
@[simp] def a_l16_DiskInstalls_r12 : List COper := [
  ⟨(some 52), .mov, [.t 11], none⟩,
  ⟨(some 53), .mov, [.t 4], none⟩,
  ⟨(some 54), .call fn_disk_Disk_Off, [.t 52, .t 53], none⟩]
def c_l16_DiskInstalls_r12 : List COper := a_l16_DiskInstalls_r12
instance : Reg c_l16_DiskInstalls_r12 a_l16_DiskInstalls_r12 3 := ⟨rfl, rfl⟩
@[simp] def a_l16_DiskInstalls_r13 : List COper := [
  ⟨(some 55), .mov, [.t 11], none⟩,
  ⟨(some 56), .call fn_disk_Disk_On, [.t 55], none⟩]
def c_l16_DiskInstalls_r13 : List COper := a_l16_DiskInstalls_r13
instance : Reg c_l16_DiskInstalls_r13 a_l16_DiskInstalls_r13 2 := ⟨rfl, rfl⟩
@[simp] def a_l16_DiskInstalls_r14 : List COper := [
  ⟨(some 58), .mov, [.t 11], none⟩,
  ⟨(some 59), .call fn_disk_Disk_Read, [.t 58, .c (.string (mkS [102]))], none⟩,
  ⟨(some 57), .mov, [.t 59], none⟩,
  ⟨(some 60), .ext 0, [.t 57], none⟩,
  ⟨(some 61), .ext 1, [.t 57], none⟩,
  ⟨(some 13), .mov, [.t 60], none⟩,
  ⟨(some 14), .mov, [.t 61], none⟩]
def c_l16_DiskInstalls_r14 : List COper := a_l16_DiskInstalls_r14
instance : Reg c_l16_DiskInstalls_r14 a_l16_DiskInstalls_r14 7 := ⟨rfl, rfl⟩
@[simp] def a_l16_DiskInstalls_r15 : List COper := [
  ⟨(some 63), .mov, [.t 11], none⟩,
  ⟨(some 64), .call fn_disk_Disk_Read, [.t 63, .c (.string (mkS [103]))], none⟩,
  ⟨(some 62), .mov, [.t 64], none⟩,
  ⟨(some 65), .ext 0, [.t 62], none⟩,
  ⟨(some 66), .ext 1, [.t 62], none⟩,
  ⟨(some 15), .mov, [.t 65], none⟩,
  ⟨(some 16), .mov, [.t 66], none⟩]
def c_l16_DiskInstalls_r15 : List COper := a_l16_DiskInstalls_r15
instance : Reg c_l16_DiskInstalls_r15 a_l16_DiskInstalls_r15 7 := ⟨rfl, rfl⟩
@[simp] def a_l16_DiskInstalls_r16 : List COper := [
  ⟨(some 67), .mov, [.t 1], none⟩,
  ⟨(some 68), .convS, [.t 67], none⟩,
  ⟨(some 17), .mov, [.t 68], none⟩]
def c_l16_DiskInstalls_r16 : List COper := a_l16_DiskInstalls_r16
instance : Reg c_l16_DiskInstalls_r16 a_l16_DiskInstalls_r16 3 := ⟨rfl, rfl⟩
@[simp] def a_l16_DiskInstalls_r17 : List COper := [
  ⟨(some 69), .mov, [.t 12], none⟩,
  ⟨(some 70), .bin .neq, [.t 69, .c (.int .i64 0)], none⟩]
def c_l16_DiskInstalls_r17 : List COper := a_l16_DiskInstalls_r17
instance : Reg c_l16_DiskInstalls_r17 a_l16_DiskInstalls_r17 2 := ⟨rfl, rfl⟩
@[simp] def a_l16_DiskInstalls_r18 : List COper := [
  ⟨(some 71), .mov, [.t 0], none⟩,
  ⟨(some 72), .convS, [.t 71], none⟩,
  ⟨(some 17), .mov, [.t 72], none⟩]
def c_l16_DiskInstalls_r18 : List COper := a_l16_DiskInstalls_r18
instance : Reg c_l16_DiskInstalls_r18 a_l16_DiskInstalls_r18 3 := ⟨rfl, rfl⟩
@[simp] def a_l16_DiskInstalls_r19 : List COper := [
  ⟨(some 73), .mov, [.t 14], none⟩,
  ⟨(some 74), .bin .eql, [.t 73, .c (.int .i64 0)], none⟩,
  ⟨(some 75), .mov, [.t 74], none⟩,
  ⟨(some 76), .mov, [.t 13], (some (75, true))⟩,
  ⟨(some 77), .convS, [.t 76], (some (75, true))⟩,
  ⟨(some 78), .mov, [.t 17], (some (75, true))⟩,
  ⟨(some 79), .bin .eql, [.t 77, .t 78], (some (75, true))⟩,
  ⟨(some 80), .pick, [.t 75, .t 79, .c (.bool false)], none⟩,
  ⟨(some 81), .mov, [.t 80], none⟩,
  ⟨(some 82), .mov, [.t 12], (some (81, true))⟩,
  ⟨(some 83), .bin .eql, [.t 82, .c (.int .i64 0)], (some (81, true))⟩,
  ⟨(some 84), .mov, [.t 3], (some (81, true))⟩,
  ⟨(some 85), .bin .neq, [.t 84, .c (.int .i64 1)], (some (81, true))⟩,
  ⟨(some 86), .eqb false, [.t 83, .t 85], (some (81, true))⟩,
  ⟨(some 87), .pick, [.t 81, .t 86, .c (.bool false)], none⟩,
  ⟨(some 88), .mov, [.t 87], none⟩,
  ⟨(some 89), .mov, [.t 16], (some (88, true))⟩,
  ⟨(some 90), .bin .eql, [.t 89, .c (.int .i64 0)], (some (88, true))⟩,
  ⟨(some 91), .pick, [.t 88, .t 90, .c (.bool false)], none⟩,
  ⟨(some 92), .mov, [.t 91], none⟩,
  ⟨(some 93), .mov, [.t 15], (some (92, true))⟩,
  ⟨(some 94), .len, [.t 93], (some (92, true))⟩,
  ⟨(some 95), .mov, [.t 2], (some (92, true))⟩,
  ⟨(some 96), .len, [.t 95], (some (92, true))⟩,
  ⟨(some 97), .bin .geq, [.t 94, .t 96], (some (92, true))⟩,
  ⟨(some 98), .pick, [.t 92, .t 97, .c (.bool false)], none⟩,
  ⟨(some 99), .mov, [.t 98], none⟩,
  ⟨(some 100), .mov, [.t 15], (some (99, true))⟩,
  ⟨(some 101), .mov, [.t 2], (some (99, true))⟩,
  ⟨(some 102), .len, [.t 101], (some (99, true))⟩,
  ⟨(some 103), .slice 1 false true, [.t 100, .t 102], (some (99, true))⟩,
  ⟨(some 104), .convS, [.t 103], (some (99, true))⟩,
  ⟨(some 105), .mov, [.t 2], (some (99, true))⟩,
  ⟨(some 106), .convS, [.t 105], (some (99, true))⟩,
  ⟨(some 107), .bin .eql, [.t 104, .t 106], (some (99, true))⟩,
  ⟨(some 108), .pick, [.t 99, .t 107, .c (.bool false)], none⟩,
  ⟨(some 10), .mov, [.t 108], none⟩]
def c_l16_DiskInstalls_r19 : List COper := a_l16_DiskInstalls_r19
instance : Reg c_l16_DiskInstalls_r19 a_l16_DiskInstalls_r19 37 := ⟨rfl, rfl⟩
@[simp] def c_l16_DiskInstalls : CCode :=
  .seq (.region c_l16_DiskInstalls_r0 none [0, 1, 2, 3, 4]) (.seq (.seq (.region c_l16_DiskInstalls_r1 none [0, 1, 2, 3, 4, 19]) (.cond (.t 19) (.seq (.region c_l16_DiskInstalls_r2 none [10]) (.ret)) (.skip))) (.seq (.seq (.region c_l16_DiskInstalls_r3 none [0, 1, 2, 3, 4, 32]) (.cond (.t 32) (.seq (.region c_l16_DiskInstalls_r4 none [10]) (.ret)) (.skip))) (.seq (.region c_l16_DiskInstalls_r5 none [0, 1, 2, 3, 4, 11]) (.seq (.region c_l16_DiskInstalls_r6 none [0, 1, 2, 3, 4, 11]) (.seq (.region c_l16_DiskInstalls_r7 none [0, 1, 2, 3, 4, 11]) (.seq (.region c_l16_DiskInstalls_r8 none [0, 1, 2, 3, 4, 11]) (.seq (.region c_l16_DiskInstalls_r9 none [0, 1, 2, 3, 4, 11]) (.seq (.region c_l16_DiskInstalls_r10 none [0, 1, 2, 3, 4, 11, 12]) (.seq (.region c_l16_DiskInstalls_r11 none [0, 1, 2, 3, 4, 11, 12]) (.seq (.region c_l16_DiskInstalls_r12 none [0, 1, 2, 3, 11, 12]) (.seq (.region c_l16_DiskInstalls_r13 none [0, 1, 2, 3, 11, 12]) (.seq (.region c_l16_DiskInstalls_r14 none [0, 1, 2, 3, 11, 12, 13, 14]) (.seq (.region c_l16_DiskInstalls_r15 none [0, 1, 2, 3, 12, 13, 14, 15, 16]) (.seq (.region c_l16_DiskInstalls_r16 none [0, 2, 3, 12, 13, 14, 15, 16, 17]) (.seq (.seq (.region c_l16_DiskInstalls_r17 none [0, 2, 3, 12, 13, 14, 15, 16, 17, 70]) (.cond (.t 70) (.region c_l16_DiskInstalls_r18 none [2, 3, 12, 13, 14, 15, 16, 17]) (.skip))) (.seq (.region c_l16_DiskInstalls_r19 (some ([0, 1, 3, 7, 15, 7, 63, 127, 255, 511, 1023, 511, 2559, 8191, 16383, 32767, 65535, 131071, 262143, 524287, 1048575, 2097151, 1048575, 5242879, 16777215, 33554431, 67108863, 134217727, 134217727, 402653183, 1073741823, 2147483647, 134217727, 4429185023, 17179869183, 34359738367, 68719476735], [])) [10]) (.ret)))))))))))))))))
@[simp] def R_l16_DiskInstalls : List CRes := [.tmp 10]
theorem k_l16_DiskInstalls : chkFn Try.prog fn_l16_DiskInstalls c_l16_DiskInstalls R_l16_DiskInstalls 5 = true := by kernel_rfl
/-! wapentake/wapentakelaw16.DiskFull -/
@[simp] def a_l16_DiskFull_r0 : List COper := [
  ⟨(some 6), .mov, [.c (.bool false)], none⟩]
def c_l16_DiskFull_r0 : List COper := a_l16_DiskFull_r0
instance : Reg c_l16_DiskFull_r0 a_l16_DiskFull_r0 1 := ⟨rfl, rfl⟩
@[simp] def a_l16_DiskFull_r1 : List COper := [
  ⟨(some 12), .call fn_l16_alive, [], none⟩,
  ⟨(some 13), .not, [.t 12], none⟩]
def c_l16_DiskFull_r1 : List COper := a_l16_DiskFull_r1
instance : Reg c_l16_DiskFull_r1 a_l16_DiskFull_r1 2 := ⟨rfl, rfl⟩
@[simp] def a_l16_DiskFull_r2 : List COper := [
  ⟨(some 6), .mov, [.c (.bool false)], none⟩]
def c_l16_DiskFull_r2 : List COper := a_l16_DiskFull_r2
instance : Reg c_l16_DiskFull_r2 a_l16_DiskFull_r2 1 := ⟨rfl, rfl⟩
@[simp] def a_l16_DiskFull_r3 : List COper := [
  ⟨(some 14), .mov, [.t 1], none⟩,
  ⟨(some 15), .len, [.t 14], none⟩,
  ⟨(some 16), .bin .gtr, [.t 15, .c (.int .i64 4096)], none⟩,
  ⟨(some 17), .mov, [.t 16], none⟩,
  ⟨(some 18), .mov, [.t 0], (some (17, false))⟩,
  ⟨(some 19), .lenS, [.t 18], (some (17, false))⟩,
  ⟨(some 20), .bin .gtr, [.t 19, .c (.int .i64 1024)], (some (17, false))⟩,
  ⟨(some 21), .pick, [.t 17, .c (.bool true), .t 20], none⟩,
  ⟨(some 22), .mov, [.t 21], none⟩,
  ⟨(some 23), .mov, [.t 2], (some (22, false))⟩,
  ⟨(some 24), .bin .lss, [.t 23, .c (.int .i64 0)], (some (22, false))⟩,
  ⟨(some 25), .pick, [.t 22, .c (.bool true), .t 24], none⟩,
  ⟨(some 26), .mov, [.t 25], none⟩,
  ⟨(some 27), .mov, [.t 2], (some (26, false))⟩,
  ⟨(some 28), .bin .gtr, [.t 27, .c (.int .i64 4096)], (some (26, false))⟩,
  ⟨(some 29), .pick, [.t 26, .c (.bool true), .t 28], none⟩,
  ⟨(some 30), .mov, [.t 29], none⟩,
  ⟨(some 31), .mov, [.t 0], (some (30, false))⟩,
  ⟨(some 32), .bin .eql, [.t 31, .c (.string (mkS [98, 105, 103]))], (some (30, false))⟩,
  ⟨(some 33), .pick, [.t 30, .c (.bool true), .t 32], none⟩]
def c_l16_DiskFull_r3 : List COper := a_l16_DiskFull_r3
instance : Reg c_l16_DiskFull_r3 a_l16_DiskFull_r3 20 := ⟨rfl, rfl⟩
@[simp] def a_l16_DiskFull_r4 : List COper := [
  ⟨(some 6), .mov, [.c (.bool true)], none⟩]
def c_l16_DiskFull_r4 : List COper := a_l16_DiskFull_r4
instance : Reg c_l16_DiskFull_r4 a_l16_DiskFull_r4 1 := ⟨rfl, rfl⟩
@[simp] def a_l16_DiskFull_r5 : List COper := [
  ⟨(some 34), .call fn_disk_New, [], none⟩,
  ⟨(some 7), .mov, [.t 34], none⟩]
def c_l16_DiskFull_r5 : List COper := a_l16_DiskFull_r5
instance : Reg c_l16_DiskFull_r5 a_l16_DiskFull_r5 2 := ⟨rfl, rfl⟩
@[simp] def a_l16_DiskFull_r6 : List COper := [
  ⟨(some 35), .mov, [.t 7], none⟩,
  ⟨(some 36), .mov, [.t 2], none⟩,
  ⟨(some 37), .bin .sub, [.c (.int .i64 4194304), .t 36], none⟩,
  ⟨(some 38), .mk 1 1 (.v (.int .u8 0)), [.t 37, .t 37], none⟩,
  ⟨(some 39), .call fn_disk_Disk_Install, [.t 35, .c (.string (mkS [98, 105, 103])), .t 38], none⟩,
  ⟨(some 40), .bin .neq, [.t 39, .c (.int .i64 0)], none⟩]
def c_l16_DiskFull_r6 : List COper := a_l16_DiskFull_r6
instance : Reg c_l16_DiskFull_r6 a_l16_DiskFull_r6 6 := ⟨rfl, rfl⟩
@[simp] def a_l16_DiskFull_r7 : List COper := [
  ⟨(some 6), .mov, [.c (.bool false)], none⟩]
def c_l16_DiskFull_r7 : List COper := a_l16_DiskFull_r7
instance : Reg c_l16_DiskFull_r7 a_l16_DiskFull_r7 1 := ⟨rfl, rfl⟩
@[simp] def a_l16_DiskFull_r8 : List COper := [
  ⟨(some 8), .mov, [.c (.int .i64 0)], none⟩]
def c_l16_DiskFull_r8 : List COper := a_l16_DiskFull_r8
instance : Reg c_l16_DiskFull_r8 a_l16_DiskFull_r8 1 := ⟨rfl, rfl⟩
@[simp] def a_l16_DiskFull_r9 : List COper := [
  ⟨(some 41), .mov, [.t 1], none⟩,
  ⟨(some 42), .len, [.t 41], none⟩,
  ⟨(some 43), .mov, [.t 2], none⟩,
  ⟨(some 44), .bin .gtr, [.t 42, .t 43], none⟩]
def c_l16_DiskFull_r9 : List COper := a_l16_DiskFull_r9
instance : Reg c_l16_DiskFull_r9 a_l16_DiskFull_r9 4 := ⟨rfl, rfl⟩
@[simp] def a_l16_DiskFull_r10 : List COper := [
  ⟨(some 8), .mov, [.c (.int .i64 20)], none⟩]
def c_l16_DiskFull_r10 : List COper := a_l16_DiskFull_r10
instance : Reg c_l16_DiskFull_r10 a_l16_DiskFull_r10 1 := ⟨rfl, rfl⟩
@[simp] def a_l16_DiskFull_r11 : List COper := [
  ⟨(some 45), .mov, [.t 7], none⟩,
  ⟨(some 46), .call fn_disk_Disk_Acts, [.t 45], none⟩,
  ⟨(some 9), .mov, [.t 46], none⟩]
def c_l16_DiskFull_r11 : List COper := a_l16_DiskFull_r11
instance : Reg c_l16_DiskFull_r11 a_l16_DiskFull_r11 3 := ⟨rfl, rfl⟩
@[simp] def a_l16_DiskFull_r12 : List COper := [
  ⟨(some 47), .mov, [.t 7], none⟩,
  ⟨(some 48), .mov, [.t 0], none⟩,
  ⟨(some 49), .mov, [.t 1], none⟩,
  ⟨(some 50), .call fn_disk_Disk_Append, [.t 47, .t 48, .t 49], none⟩,
  ⟨(some 51), .mov, [.t 8], none⟩,
  ⟨(some 52), .bin .neq, [.t 50, .t 51], none⟩,
  ⟨(some 53), .mov, [.t 52], none⟩,
  ⟨(some 54), .mov, [.t 8], (some (53, false))⟩,
  ⟨(some 55), .bin .neq, [.t 54, .c (.int .i64 0)], (some (53, false))⟩,
  ⟨(some 56), .mov, [.t 55], (some (53, false))⟩,
  ⟨(some 57), .mov, [.t 7], (some (56, true))⟩,
  ⟨(some 58), .call fn_disk_Disk_Acts, [.t 57], (some (56, true))⟩,
  ⟨(some 59), .mov, [.t 9], (some (56, true))⟩,
  ⟨(some 60), .bin .neq, [.t 58, .t 59], (some (56, true))⟩,
  ⟨(some 61), .mov, [.t 60], (some (56, true))⟩,
  ⟨(some 62), .mov, [.t 7], (some (61, false))⟩,
  ⟨(some 63), .mov, [.t 0], (some (61, false))⟩,
  ⟨(some 64), .mov, [.t 1], (some (61, false))⟩,
  ⟨(some 65), .call fn_disk_Disk_Install, [.t 62, .t 63, .t 64], (some (61, false))⟩,
  ⟨(some 66), .mov, [.t 8], (some (61, false))⟩,
  ⟨(some 67), .bin .neq, [.t 65, .t 66], (some (61, false))⟩,
  ⟨(some 68), .pick, [.t 61, .c (.bool true), .t 67], (some (56, true))⟩,
  ⟨(some 69), .pick, [.t 56, .t 68, .c (.bool false)], (some (53, false))⟩,
  ⟨(some 70), .pick, [.t 53, .c (.bool true), .t 69], none⟩]
def c_l16_DiskFull_r12 : List COper := a_l16_DiskFull_r12
instance : Reg c_l16_DiskFull_r12 a_l16_DiskFull_r12 24 := ⟨rfl, rfl⟩
@[simp] def a_l16_DiskFull_r13 : List COper := [
  ⟨(some 6), .mov, [.c (.bool false)], none⟩]
def c_l16_DiskFull_r13 : List COper := a_l16_DiskFull_r13
instance : Reg c_l16_DiskFull_r13 a_l16_DiskFull_r13 1 := ⟨rfl, rfl⟩
@[simp] def a_l16_DiskFull_r14 : List COper := [
  ⟨(some 72), .mov, [.t 7], none⟩,
  ⟨(some 73), .mov, [.t 0], none⟩,
  ⟨(some 74), .call fn_disk_Disk_Read, [.t 72, .t 73], none⟩,
  ⟨(some 71), .mov, [.t 74], none⟩,
  ⟨(some 75), .ext 0, [.t 71], none⟩,
  ⟨(some 76), .ext 1, [.t 71], none⟩,
  ⟨(some 10), .mov, [.t 75], none⟩,
  ⟨(some 11), .mov, [.t 76], none⟩]
def c_l16_DiskFull_r14 : List COper := a_l16_DiskFull_r14
instance : Reg c_l16_DiskFull_r14 a_l16_DiskFull_r14 8 := ⟨rfl, rfl⟩
@[simp] def a_l16_DiskFull_r15 : List COper := [
  ⟨(some 77), .mov, [.t 8], none⟩,
  ⟨(some 78), .bin .eql, [.t 77, .c (.int .i64 0)], none⟩,
  ⟨(some 79), .mov, [.t 78], none⟩,
  ⟨(some 80), .mov, [.t 11], (some (79, true))⟩,
  ⟨(some 81), .bin .eql, [.t 80, .c (.int .i64 0)], (some (79, true))⟩,
  ⟨(some 82), .pick, [.t 79, .t 81, .c (.bool false)], none⟩,
  ⟨(some 83), .mov, [.t 82], none⟩,
  ⟨(some 84), .mov, [.t 10], (some (83, true))⟩,
  ⟨(some 85), .convS, [.t 84], (some (83, true))⟩,
  ⟨(some 86), .mov, [.t 1], (some (83, true))⟩,
  ⟨(some 87), .convS, [.t 86], (some (83, true))⟩,
  ⟨(some 88), .bin .eql, [.t 85, .t 87], (some (83, true))⟩,
  ⟨(some 89), .pick, [.t 83, .t 88, .c (.bool false)], none⟩,
  ⟨(some 90), .mov, [.t 89], none⟩,
  ⟨(some 91), .mov, [.t 8], (some (90, false))⟩,
  ⟨(some 92), .bin .neq, [.t 91, .c (.int .i64 0)], (some (90, false))⟩,
  ⟨(some 93), .mov, [.t 92], (some (90, false))⟩,
  ⟨(some 94), .mov, [.t 11], (some (93, true))⟩,
  ⟨(some 95), .bin .eql, [.t 94, .c (.int .i64 7)], (some (93, true))⟩,
  ⟨(some 96), .pick, [.t 93, .t 95, .c (.bool false)], (some (90, false))⟩,
  ⟨(some 97), .pick, [.t 90, .c (.bool true), .t 96], none⟩,
  ⟨(some 6), .mov, [.t 97], none⟩]
def c_l16_DiskFull_r15 : List COper := a_l16_DiskFull_r15
instance : Reg c_l16_DiskFull_r15 a_l16_DiskFull_r15 22 := ⟨rfl, rfl⟩
@[simp] def c_l16_DiskFull : CCode :=
  .seq (.region c_l16_DiskFull_r0 none [0, 1, 2]) (.seq (.seq (.region c_l16_DiskFull_r1 none [0, 1, 2, 13]) (.cond (.t 13) (.seq (.region c_l16_DiskFull_r2 none [6]) (.ret)) (.skip))) (.seq (.seq (.region c_l16_DiskFull_r3 none [0, 1, 2, 33]) (.cond (.t 33) (.seq (.region c_l16_DiskFull_r4 none [6]) (.ret)) (.skip))) (.seq (.region c_l16_DiskFull_r5 none [0, 1, 2, 7]) (.seq (.seq (.region c_l16_DiskFull_r6 none [0, 1, 2, 7, 40]) (.cond (.t 40) (.seq (.region c_l16_DiskFull_r7 none [6]) (.ret)) (.skip))) (.seq (.region c_l16_DiskFull_r8 none [0, 1, 2, 7, 8]) (.seq (.seq (.region c_l16_DiskFull_r9 none [0, 1, 7, 8, 44]) (.cond (.t 44) (.region c_l16_DiskFull_r10 none [0, 1, 7, 8]) (.skip))) (.seq (.region c_l16_DiskFull_r11 none [0, 1, 7, 8, 9]) (.seq (.seq (.region c_l16_DiskFull_r12 none [0, 1, 7, 8, 70]) (.cond (.t 70) (.seq (.region c_l16_DiskFull_r13 none [6]) (.ret)) (.skip))) (.seq (.region c_l16_DiskFull_r14 none [1, 8, 10, 11]) (.seq (.region c_l16_DiskFull_r15 none [6]) (.ret)))))))))))
@[simp] def R_l16_DiskFull : List CRes := [.tmp 6]
theorem k_l16_DiskFull : chkFn Try.prog fn_l16_DiskFull c_l16_DiskFull R_l16_DiskFull 3 = true := by kernel_rfl
/-! wapentake/wapentakelaw16.alive -/
@[simp] def a_l16_alive_r0 : List COper := [
  ⟨(some 0), .mov, [.c (.bool false)], none⟩]
def c_l16_alive_r0 : List COper := a_l16_alive_r0
instance : Reg c_l16_alive_r0 a_l16_alive_r0 1 := ⟨rfl, rfl⟩
@[simp] def a_l16_alive_r1 : List COper := [
  ⟨(some 4), .call fn_disk_New, [], none⟩,
  ⟨(some 1), .mov, [.t 4], none⟩]
def c_l16_alive_r1 : List COper := a_l16_alive_r1
instance : Reg c_l16_alive_r1 a_l16_alive_r1 2 := ⟨rfl, rfl⟩
@[simp] def a_l16_alive_r2 : List COper := [
  ⟨(some 5), .mov, [.t 1], none⟩,
  ⟨(some 6), .bslice 1 2 (.v (.int .u8 0)) [0, 1], [.c (.int .u8 120), .c (.int .u8 121)], none⟩,
  ⟨(some 7), .convM, [.t 6], none⟩,
  ⟨(some 8), .call fn_disk_Disk_Append, [.t 5, .c (.string (mkS [97])), .t 7], none⟩,
  ⟨(some 9), .bin .neq, [.t 8, .c (.int .i64 0)], none⟩,
  ⟨(some 10), .mov, [.t 9], none⟩,
  ⟨(some 11), .mov, [.t 1], (some (10, false))⟩,
  ⟨(some 12), .call fn_disk_Disk_Sync, [.t 11, .c (.string (mkS [97]))], (some (10, false))⟩,
  ⟨(some 13), .bin .neq, [.t 12, .c (.int .i64 0)], (some (10, false))⟩,
  ⟨(some 14), .pick, [.t 10, .c (.bool true), .t 13], none⟩,
  ⟨(some 15), .mov, [.t 14], none⟩,
  ⟨(some 16), .mov, [.t 1], (some (15, false))⟩,
  ⟨(some 17), .bslice 1 1 (.v (.int .u8 0)) [0], [.c (.int .u8 122)], (some (15, false))⟩,
  ⟨(some 18), .convM, [.t 17], (some (15, false))⟩,
  ⟨(some 19), .call fn_disk_Disk_Append, [.t 16, .c (.string (mkS [97])), .t 18], (some (15, false))⟩,
  ⟨(some 20), .bin .neq, [.t 19, .c (.int .i64 0)], (some (15, false))⟩,
  ⟨(some 21), .pick, [.t 15, .c (.bool true), .t 20], none⟩]
def c_l16_alive_r2 : List COper := a_l16_alive_r2
instance : Reg c_l16_alive_r2 a_l16_alive_r2 17 := ⟨rfl, rfl⟩
@[simp] def a_l16_alive_r3 : List COper := [
  ⟨(some 0), .mov, [.c (.bool false)], none⟩]
def c_l16_alive_r3 : List COper := a_l16_alive_r3
instance : Reg c_l16_alive_r3 a_l16_alive_r3 1 := ⟨rfl, rfl⟩
@[simp] def a_l16_alive_r4 : List COper := [
  ⟨(some 22), .mov, [.t 1], none⟩,
  ⟨(some 23), .call fn_disk_Disk_Off, [.t 22, .c (.int .i64 0)], none⟩]
def c_l16_alive_r4 : List COper := a_l16_alive_r4
instance : Reg c_l16_alive_r4 a_l16_alive_r4 2 := ⟨rfl, rfl⟩
@[simp] def a_l16_alive_r5 : List COper := [
  ⟨(some 24), .mov, [.t 1], none⟩,
  ⟨(some 25), .call fn_disk_Disk_On, [.t 24], none⟩]
def c_l16_alive_r5 : List COper := a_l16_alive_r5
instance : Reg c_l16_alive_r5 a_l16_alive_r5 2 := ⟨rfl, rfl⟩
@[simp] def a_l16_alive_r6 : List COper := [
  ⟨(some 27), .mov, [.t 1], none⟩,
  ⟨(some 28), .call fn_disk_Disk_Read, [.t 27, .c (.string (mkS [97]))], none⟩,
  ⟨(some 26), .mov, [.t 28], none⟩,
  ⟨(some 29), .ext 0, [.t 26], none⟩,
  ⟨(some 30), .ext 1, [.t 26], none⟩,
  ⟨(some 2), .mov, [.t 29], none⟩,
  ⟨(some 3), .mov, [.t 30], none⟩]
def c_l16_alive_r6 : List COper := a_l16_alive_r6
instance : Reg c_l16_alive_r6 a_l16_alive_r6 7 := ⟨rfl, rfl⟩
@[simp] def a_l16_alive_r7 : List COper := [
  ⟨(some 31), .mov, [.t 2], none⟩,
  ⟨(some 32), .convS, [.t 31], none⟩,
  ⟨(some 33), .bin .eql, [.t 32, .c (.string (mkS [120, 121]))], none⟩,
  ⟨(some 34), .mov, [.t 33], none⟩,
  ⟨(some 35), .mov, [.t 3], (some (34, true))⟩,
  ⟨(some 36), .bin .eql, [.t 35, .c (.int .i64 0)], (some (34, true))⟩,
  ⟨(some 37), .pick, [.t 34, .t 36, .c (.bool false)], none⟩,
  ⟨(some 0), .mov, [.t 37], none⟩]
def c_l16_alive_r7 : List COper := a_l16_alive_r7
instance : Reg c_l16_alive_r7 a_l16_alive_r7 8 := ⟨rfl, rfl⟩
@[simp] def c_l16_alive : CCode :=
  .seq (.region c_l16_alive_r0 none []) (.seq (.region c_l16_alive_r1 none [1]) (.seq (.seq (.region c_l16_alive_r2 none [1, 21]) (.cond (.t 21) (.seq (.region c_l16_alive_r3 none [0]) (.ret)) (.skip))) (.seq (.region c_l16_alive_r4 none [1]) (.seq (.region c_l16_alive_r5 none [1]) (.seq (.region c_l16_alive_r6 none [2, 3]) (.seq (.region c_l16_alive_r7 none [0]) (.ret)))))))
@[simp] def R_l16_alive : List CRes := [.tmp 0]
theorem k_l16_alive : chkFn Try.prog fn_l16_alive c_l16_alive R_l16_alive 0 = true := by kernel_rfl
/-! wapentake/disk.New -/
@[simp] def a_disk_New_r0 : List COper := [
  ⟨(some 0), .mov, [.c (.pointer none)], none⟩]
def c_disk_New_r0 : List COper := a_disk_New_r0
instance : Reg c_disk_New_r0 a_disk_New_r0 1 := ⟨rfl, rfl⟩
@[simp] def a_disk_New_r1 : List COper := [
  ⟨(some 1), .mkmap false 1 false 1, [], none⟩,
  ⟨(some 2), .build [.v (.map none), .v (.bool false), .v (.int .i64 0), .v (.int .i64 0), .v (.int .i64 0)] [0], [.t 1], none⟩,
  ⟨(some 3), .box, [.t 2], none⟩,
  ⟨(some 0), .mov, [.t 3], none⟩]
def c_disk_New_r1 : List COper := a_disk_New_r1
instance : Reg c_disk_New_r1 a_disk_New_r1 4 := ⟨rfl, rfl⟩
@[simp] def c_disk_New : CCode :=
  .seq (.region c_disk_New_r0 none []) (.seq (.region c_disk_New_r1 none [0]) (.ret))
@[simp] def R_disk_New : List CRes := [.tmp 0]
theorem k_disk_New : chkFn Try.prog fn_disk_New c_disk_New R_disk_New 0 = true := by kernel_rfl
/-! (*wapentake/disk.Disk).Arm -/
@[simp] def a_disk_Disk_Arm_r0 : List COper := [
  ⟨(some 6), .mov, [.t 0], none⟩,
  ⟨(some 7), .eqp true, [.t 6, .c (.pointer none)], none⟩]
def c_disk_Disk_Arm_r0 : List COper := a_disk_Disk_Arm_r0
instance : Reg c_disk_Disk_Arm_r0 a_disk_Disk_Arm_r0 2 := ⟨rfl, rfl⟩
@[simp] def a_disk_Disk_Arm_r1 : List COper := [
  ⟨(some 8), .mov, [.t 0], none⟩,
  ⟨(some 9), .mov, [.t 0], none⟩,
  ⟨(some 10), .mov, [.t 1], none⟩,
  ⟨(some 11), .mx, [.t 10, .c (.int .i64 0)], none⟩,
  ⟨(some 12), .mov, [.t 2], none⟩,
  ⟨(some 13), .nilc, [.t 8], none⟩,
  ⟨(some 14), .faddr 3 1 false, [.t 13], none⟩,
  ⟨none, .store false 1, [.t 14, .t 11], none⟩,
  ⟨(some 15), .nilc, [.t 9], none⟩,
  ⟨(some 16), .faddr 4 1 false, [.t 15], none⟩,
  ⟨none, .store false 1, [.t 16, .t 12], none⟩]
def c_disk_Disk_Arm_r1 : List COper := a_disk_Disk_Arm_r1
instance : Reg c_disk_Disk_Arm_r1 a_disk_Disk_Arm_r1 11 := ⟨rfl, rfl⟩
@[simp] def c_disk_Disk_Arm : CCode :=
  .seq (.region c_disk_Disk_Arm_r0 none [0, 1, 2, 7]) (.cond (.t 7) (.region c_disk_Disk_Arm_r1 none []) (.skip))
@[simp] def R_disk_Disk_Arm : List CRes := []
theorem k_disk_Disk_Arm : chkFn Try.prog fn_disk_Disk_Arm c_disk_Disk_Arm R_disk_Disk_Arm 3 = true := by kernel_rfl
/-! (*wapentake/disk.Disk).Append -/
@[simp] def a_disk_Disk_Append_r0 : List COper := [
  ⟨(some 6), .mov, [.c (.int .i64 0)], none⟩]
def c_disk_Disk_Append_r0 : List COper := a_disk_Disk_Append_r0
instance : Reg c_disk_Disk_Append_r0 a_disk_Disk_Append_r0 1 := ⟨rfl, rfl⟩
@[simp] def a_disk_Disk_Append_r1 : List COper := [
  ⟨(some 9), .mov, [.t 0], none⟩,
  ⟨(some 10), .eqp true, [.t 9, .c (.pointer none)], none⟩,
  ⟨(some 11), .mov, [.t 10], none⟩,
  ⟨(some 12), .mov, [.t 0], (some (11, true))⟩,
  ⟨(some 13), .nilc, [.t 12], (some (11, true))⟩,
  ⟨(some 14), .faddr 1 1 false, [.t 13], (some (11, true))⟩,
  ⟨(some 15), .load false 1, [.t 14], (some (11, true))⟩,
  ⟨(some 16), .not, [.t 15], (some (11, true))⟩,
  ⟨(some 17), .pick, [.t 11, .t 16, .c (.bool false)], none⟩,
  ⟨(some 18), .mov, [.t 17], none⟩,
  ⟨(some 19), .mov, [.t 0], (some (18, true))⟩,
  ⟨(some 20), .call fn_disk_Disk_size, [.t 19], (some (18, true))⟩,
  ⟨(some 21), .mov, [.t 2], (some (18, true))⟩,
  ⟨(some 22), .len, [.t 21], (some (18, true))⟩,
  ⟨(some 23), .bin .add, [.t 20, .t 22], (some (18, true))⟩,
  ⟨(some 24), .bin .gtr, [.t 23, .c (.int .i64 4194304)], (some (18, true))⟩,
  ⟨(some 25), .pick, [.t 18, .t 24, .c (.bool false)], none⟩]
def c_disk_Disk_Append_r1 : List COper := a_disk_Disk_Append_r1
instance : Reg c_disk_Disk_Append_r1 a_disk_Disk_Append_r1 17 := ⟨rfl, rfl⟩
@[simp] def a_disk_Disk_Append_r2 : List COper := [
  ⟨(some 6), .mov, [.c (.int .i64 20)], none⟩]
def c_disk_Disk_Append_r2 : List COper := a_disk_Disk_Append_r2
instance : Reg c_disk_Disk_Append_r2 a_disk_Disk_Append_r2 1 := ⟨rfl, rfl⟩
@[simp] def a_disk_Disk_Append_r3 : List COper := [
  ⟨(some 26), .mov, [.t 0], none⟩,
  ⟨(some 27), .call fn_disk_Disk_act, [.t 26], none⟩,
  ⟨(some 7), .mov, [.t 27], none⟩]
def c_disk_Disk_Append_r3 : List COper := a_disk_Disk_Append_r3
instance : Reg c_disk_Disk_Append_r3 a_disk_Disk_Append_r3 3 := ⟨rfl, rfl⟩
@[simp] def a_disk_Disk_Append_r4 : List COper := [
  ⟨(some 28), .mov, [.t 0], none⟩,
  ⟨(some 29), .eqp false, [.t 28, .c (.pointer none)], none⟩,
  ⟨(some 30), .mov, [.t 29], none⟩,
  ⟨(some 31), .mov, [.t 0], (some (30, false))⟩,
  ⟨(some 32), .nilc, [.t 31], (some (30, false))⟩,
  ⟨(some 33), .faddr 1 1 false, [.t 32], (some (30, false))⟩,
  ⟨(some 34), .load false 1, [.t 33], (some (30, false))⟩,
  ⟨(some 35), .pick, [.t 30, .c (.bool true), .t 34], none⟩]
def c_disk_Disk_Append_r4 : List COper := a_disk_Disk_Append_r4
instance : Reg c_disk_Disk_Append_r4 a_disk_Disk_Append_r4 8 := ⟨rfl, rfl⟩
@[simp] def a_disk_Disk_Append_r5 : List COper := [
  ⟨(some 36), .mov, [.t 7], none⟩,
  ⟨(some 6), .mov, [.t 36], none⟩]
def c_disk_Disk_Append_r5 : List COper := a_disk_Disk_Append_r5
instance : Reg c_disk_Disk_Append_r5 a_disk_Disk_Append_r5 2 := ⟨rfl, rfl⟩
@[simp] def a_disk_Disk_Append_r6 : List COper := [
  ⟨(some 37), .mov, [.t 0], none⟩,
  ⟨(some 38), .mov, [.t 1], none⟩,
  ⟨(some 39), .call fn_disk_Disk_file, [.t 37, .t 38], none⟩,
  ⟨(some 8), .mov, [.t 39], none⟩]
def c_disk_Disk_Append_r6 : List COper := a_disk_Disk_Append_r6
instance : Reg c_disk_Disk_Append_r6 a_disk_Disk_Append_r6 4 := ⟨rfl, rfl⟩
@[simp] def a_disk_Disk_Append_r7 : List COper := [
  ⟨(some 40), .mov, [.t 8], none⟩,
  ⟨(some 41), .mov, [.t 8], none⟩,
  ⟨(some 42), .nilc, [.t 41], none⟩,
  ⟨(some 43), .faddr 1 1 false, [.t 42], none⟩,
  ⟨(some 44), .load false 1, [.t 43], none⟩,
  ⟨(some 45), .mov, [.t 2], none⟩,
  ⟨(some 46), .app 1 1, [.t 44, .t 45], none⟩,
  ⟨(some 47), .nilc, [.t 40], none⟩,
  ⟨(some 48), .faddr 1 1 false, [.t 47], none⟩,
  ⟨none, .store false 1, [.t 48, .t 46], none⟩]
def c_disk_Disk_Append_r7 : List COper := a_disk_Disk_Append_r7
instance : Reg c_disk_Disk_Append_r7 a_disk_Disk_Append_r7 10 := ⟨rfl, rfl⟩
@[simp] def a_disk_Disk_Append_r8 : List COper := [
  ⟨(some 49), .mov, [.t 7], none⟩,
  ⟨(some 50), .bin .neq, [.t 49, .c (.int .i64 0)], none⟩]
def c_disk_Disk_Append_r8 : List COper := a_disk_Disk_Append_r8
instance : Reg c_disk_Disk_Append_r8 a_disk_Disk_Append_r8 2 := ⟨rfl, rfl⟩
@[simp] def a_disk_Disk_Append_r9 : List COper := [
  ⟨(some 51), .mov, [.t 0], none⟩,
  ⟨(some 52), .mov, [.t 0], none⟩,
  ⟨(some 53), .nilc, [.t 52], none⟩,
  ⟨(some 54), .faddr 4 1 false, [.t 53], none⟩,
  ⟨(some 55), .load false 1, [.t 54], none⟩,
  ⟨(some 56), .call fn_disk_Disk_Off, [.t 51, .t 55], none⟩]
def c_disk_Disk_Append_r9 : List COper := a_disk_Disk_Append_r9
instance : Reg c_disk_Disk_Append_r9 a_disk_Disk_Append_r9 6 := ⟨rfl, rfl⟩
@[simp] def a_disk_Disk_Append_r10 : List COper := [
  ⟨(some 57), .mov, [.t 7], none⟩,
  ⟨(some 6), .mov, [.t 57], none⟩]
def c_disk_Disk_Append_r10 : List COper := a_disk_Disk_Append_r10
instance : Reg c_disk_Disk_Append_r10 a_disk_Disk_Append_r10 2 := ⟨rfl, rfl⟩
@[simp] def c_disk_Disk_Append : CCode :=
  .seq (.region c_disk_Disk_Append_r0 none [0, 1, 2]) (.seq (.seq (.region c_disk_Disk_Append_r1 none [0, 1, 2, 25]) (.cond (.t 25) (.seq (.region c_disk_Disk_Append_r2 none [6]) (.ret)) (.skip))) (.seq (.region c_disk_Disk_Append_r3 none [0, 1, 2, 7]) (.seq (.seq (.region c_disk_Disk_Append_r4 none [0, 1, 2, 7, 35]) (.cond (.t 35) (.seq (.region c_disk_Disk_Append_r5 none [6]) (.ret)) (.skip))) (.seq (.region c_disk_Disk_Append_r6 none [0, 2, 7, 8]) (.seq (.region c_disk_Disk_Append_r7 none [0, 7]) (.seq (.seq (.region c_disk_Disk_Append_r8 none [0, 7, 50]) (.cond (.t 50) (.region c_disk_Disk_Append_r9 none [7]) (.skip))) (.seq (.region c_disk_Disk_Append_r10 none [6]) (.ret))))))))
@[simp] def R_disk_Disk_Append : List CRes := [.tmp 6]
theorem k_disk_Disk_Append : chkFn Try.prog fn_disk_Disk_Append c_disk_Disk_Append R_disk_Disk_Append 3 = true := by kernel_rfl
/-! (*wapentake/disk.Disk).Sync -/
@[simp] def a_disk_Disk_Sync_r0 : List COper := [
  ⟨(some 4), .mov, [.c (.int .i64 0)], none⟩]
def c_disk_Disk_Sync_r0 : List COper := a_disk_Disk_Sync_r0
instance : Reg c_disk_Disk_Sync_r0 a_disk_Disk_Sync_r0 1 := ⟨rfl, rfl⟩
@[simp] def a_disk_Disk_Sync_r1 : List COper := [
  ⟨(some 7), .mov, [.t 0], none⟩,
  ⟨(some 8), .call fn_disk_Disk_act, [.t 7], none⟩,
  ⟨(some 5), .mov, [.t 8], none⟩]
def c_disk_Disk_Sync_r1 : List COper := a_disk_Disk_Sync_r1
instance : Reg c_disk_Disk_Sync_r1 a_disk_Disk_Sync_r1 3 := ⟨rfl, rfl⟩
@[simp] def a_disk_Disk_Sync_r2 : List COper := [
  ⟨(some 9), .mov, [.t 0], none⟩,
  ⟨(some 10), .eqp false, [.t 9, .c (.pointer none)], none⟩,
  ⟨(some 11), .mov, [.t 10], none⟩,
  ⟨(some 12), .mov, [.t 0], (some (11, false))⟩,
  ⟨(some 13), .nilc, [.t 12], (some (11, false))⟩,
  ⟨(some 14), .faddr 1 1 false, [.t 13], (some (11, false))⟩,
  ⟨(some 15), .load false 1, [.t 14], (some (11, false))⟩,
  ⟨(some 16), .pick, [.t 11, .c (.bool true), .t 15], none⟩]
def c_disk_Disk_Sync_r2 : List COper := a_disk_Disk_Sync_r2
instance : Reg c_disk_Disk_Sync_r2 a_disk_Disk_Sync_r2 8 := ⟨rfl, rfl⟩
@[simp] def a_disk_Disk_Sync_r3 : List COper := [
  ⟨(some 17), .mov, [.t 5], none⟩,
  ⟨(some 4), .mov, [.t 17], none⟩]
def c_disk_Disk_Sync_r3 : List COper := a_disk_Disk_Sync_r3
instance : Reg c_disk_Disk_Sync_r3 a_disk_Disk_Sync_r3 2 := ⟨rfl, rfl⟩
@[simp] def a_disk_Disk_Sync_r4 : List COper := [
  ⟨(some 18), .mov, [.t 5], none⟩,
  ⟨(some 19), .bin .neq, [.t 18, .c (.int .i64 0)], none⟩]
def c_disk_Disk_Sync_r4 : List COper := a_disk_Disk_Sync_r4
instance : Reg c_disk_Disk_Sync_r4 a_disk_Disk_Sync_r4 2 := ⟨rfl, rfl⟩
@[simp] def a_disk_Disk_Sync_r5 : List COper := [
  ⟨(some 20), .mov, [.t 0], none⟩,
  ⟨(some 21), .mov, [.t 0], none⟩,
  ⟨(some 22), .nilc, [.t 21], none⟩,
  ⟨(some 23), .faddr 4 1 false, [.t 22], none⟩,
  ⟨(some 24), .load false 1, [.t 23], none⟩,
  ⟨(some 25), .call fn_disk_Disk_Off, [.t 20, .t 24], none⟩]
def c_disk_Disk_Sync_r5 : List COper := a_disk_Disk_Sync_r5
instance : Reg c_disk_Disk_Sync_r5 a_disk_Disk_Sync_r5 6 := ⟨rfl, rfl⟩
@[simp] def a_disk_Disk_Sync_r6 : List COper := [
  ⟨(some 26), .mov, [.t 5], none⟩,
  ⟨(some 4), .mov, [.t 26], none⟩]
def c_disk_Disk_Sync_r6 : List COper := a_disk_Disk_Sync_r6
instance : Reg c_disk_Disk_Sync_r6 a_disk_Disk_Sync_r6 2 := ⟨rfl, rfl⟩
@[simp] def a_disk_Disk_Sync_r7 : List COper := [
  ⟨(some 27), .mov, [.t 0], none⟩,
  ⟨(some 28), .mov, [.t 1], none⟩,
  ⟨(some 29), .call fn_disk_Disk_file, [.t 27, .t 28], none⟩,
  ⟨(some 6), .mov, [.t 29], none⟩]
def c_disk_Disk_Sync_r7 : List COper := a_disk_Disk_Sync_r7
instance : Reg c_disk_Disk_Sync_r7 a_disk_Disk_Sync_r7 4 := ⟨rfl, rfl⟩
@[simp] def a_disk_Disk_Sync_r8 : List COper := [
  ⟨(some 30), .mov, [.t 6], none⟩,
  ⟨(some 31), .mov, [.t 6], none⟩,
  ⟨(some 32), .mov, [.t 6], none⟩,
  ⟨(some 33), .nilc, [.t 32], none⟩,
  ⟨(some 34), .faddr 0 1 false, [.t 33], none⟩,
  ⟨(some 35), .load false 1, [.t 34], none⟩,
  ⟨(some 36), .mov, [.t 6], none⟩,
  ⟨(some 37), .nilc, [.t 36], none⟩,
  ⟨(some 38), .faddr 1 1 false, [.t 37], none⟩,
  ⟨(some 39), .load false 1, [.t 38], none⟩,
  ⟨(some 40), .app 1 1, [.t 35, .t 39], none⟩,
  ⟨(some 41), .nilc, [.t 30], none⟩,
  ⟨(some 42), .faddr 0 1 false, [.t 41], none⟩,
  ⟨none, .store false 1, [.t 42, .t 40], none⟩,
  ⟨(some 43), .nilc, [.t 31], none⟩,
  ⟨(some 44), .faddr 1 1 false, [.t 43], none⟩,
  ⟨none, .store false 1, [.t 44, .c (.slice none 0 0)], none⟩]
def c_disk_Disk_Sync_r8 : List COper := a_disk_Disk_Sync_r8
instance : Reg c_disk_Disk_Sync_r8 a_disk_Disk_Sync_r8 17 := ⟨rfl, rfl⟩
@[simp] def a_disk_Disk_Sync_r9 : List COper := [
  ⟨(some 4), .mov, [.c (.int .i64 0)], none⟩]
def c_disk_Disk_Sync_r9 : List COper := a_disk_Disk_Sync_r9
instance : Reg c_disk_Disk_Sync_r9 a_disk_Disk_Sync_r9 1 := ⟨rfl, rfl⟩
@[simp] def c_disk_Disk_Sync : CCode :=
  .seq (.region c_disk_Disk_Sync_r0 none [0, 1]) (.seq (.region c_disk_Disk_Sync_r1 none [0, 1, 5]) (.seq (.seq (.region c_disk_Disk_Sync_r2 none [0, 1, 5, 16]) (.cond (.t 16) (.seq (.region c_disk_Disk_Sync_r3 none [4]) (.ret)) (.skip))) (.seq (.seq (.region c_disk_Disk_Sync_r4 none [0, 1, 5, 19]) (.cond (.t 19) (.seq (.region c_disk_Disk_Sync_r5 none [5]) (.seq (.region c_disk_Disk_Sync_r6 none [4]) (.ret))) (.skip))) (.seq (.region c_disk_Disk_Sync_r7 none [6]) (.seq (.region c_disk_Disk_Sync_r8 (some ([0, 0, 0, 4, 12, 28, 0, 64, 192, 448, 1020, 2045, 4093, 8189, 16383, 32767, 65535], [])) []) (.seq (.region c_disk_Disk_Sync_r9 none [4]) (.ret)))))))
@[simp] def R_disk_Disk_Sync : List CRes := [.tmp 4]
theorem k_disk_Disk_Sync : chkFn Try.prog fn_disk_Disk_Sync c_disk_Disk_Sync R_disk_Disk_Sync 2 = true := by kernel_rfl
/-! (*wapentake/disk.Disk).Off -/
@[simp] def a_disk_Disk_Off_r0 : List COper := [
  ⟨(some 7), .mov, [.t 0], none⟩,
  ⟨(some 8), .eqp false, [.t 7, .c (.pointer none)], none⟩,
  ⟨(some 9), .mov, [.t 8], none⟩,
  ⟨(some 10), .mov, [.t 0], (some (9, false))⟩,
  ⟨(some 11), .nilc, [.t 10], (some (9, false))⟩,
  ⟨(some 12), .faddr 1 1 false, [.t 11], (some (9, false))⟩,
  ⟨(some 13), .load false 1, [.t 12], (some (9, false))⟩,
  ⟨(some 14), .pick, [.t 9, .c (.bool true), .t 13], none⟩]
def c_disk_Disk_Off_r0 : List COper := a_disk_Disk_Off_r0
instance : Reg c_disk_Disk_Off_r0 a_disk_Disk_Off_r0 8 := ⟨rfl, rfl⟩
@[simp] def a_disk_Disk_Off_r1 : List COper := [
  ⟨(some 15), .mov, [.t 0], none⟩,
  ⟨(some 16), .nilc, [.t 15], none⟩,
  ⟨(some 17), .faddr 0 1 false, [.t 16], none⟩,
  ⟨(some 18), .load false 1, [.t 17], none⟩,
  ⟨(some 19), .mrange, [.t 18], none⟩]
def c_disk_Disk_Off_r1 : List COper := a_disk_Disk_Off_r1
instance : Reg c_disk_Disk_Off_r1 a_disk_Disk_Off_r1 5 := ⟨rfl, rfl⟩
@[simp] def a_disk_Disk_Off_r2 : List COper := [
  ⟨(some 21), .ext 0, [.t 20], none⟩]
def c_disk_Disk_Off_r2 : List COper := a_disk_Disk_Off_r2
instance : Reg c_disk_Disk_Off_r2 a_disk_Disk_Off_r2 1 := ⟨rfl, rfl⟩
@[simp] def a_disk_Disk_Off_r3 : List COper := [
  ⟨(some 23), .ext 1, [.t 22], none⟩,
  ⟨(some 5), .mov, [.t 23], none⟩]
def c_disk_Disk_Off_r3 : List COper := a_disk_Disk_Off_r3
instance : Reg c_disk_Disk_Off_r3 a_disk_Disk_Off_r3 2 := ⟨rfl, rfl⟩
@[simp] def a_disk_Disk_Off_r4 : List COper := [
  ⟨(some 24), .mov, [.t 1], none⟩,
  ⟨(some 25), .mx, [.t 24, .c (.int .i64 0)], none⟩,
  ⟨(some 26), .mov, [.t 5], none⟩,
  ⟨(some 27), .nilc, [.t 26], none⟩,
  ⟨(some 28), .faddr 1 1 false, [.t 27], none⟩,
  ⟨(some 29), .load false 1, [.t 28], none⟩,
  ⟨(some 30), .len, [.t 29], none⟩,
  ⟨(some 31), .mn, [.t 25, .t 30], none⟩,
  ⟨(some 6), .mov, [.t 31], none⟩]
def c_disk_Disk_Off_r4 : List COper := a_disk_Disk_Off_r4
instance : Reg c_disk_Disk_Off_r4 a_disk_Disk_Off_r4 9 := ⟨rfl, rfl⟩
@[simp] def a_disk_Disk_Off_r5 : List COper := [
  ⟨(some 32), .mov, [.t 5], none⟩,
  ⟨(some 33), .mov, [.t 5], none⟩,
  ⟨(some 34), .mov, [.t 5], none⟩,
  ⟨(some 35), .nilc, [.t 34], none⟩,
  ⟨(some 36), .faddr 0 1 false, [.t 35], none⟩,
  ⟨(some 37), .load false 1, [.t 36], none⟩,
  ⟨(some 38), .mov, [.t 5], none⟩,
  ⟨(some 39), .nilc, [.t 38], none⟩,
  ⟨(some 40), .faddr 1 1 false, [.t 39], none⟩,
  ⟨(some 41), .load false 1, [.t 40], none⟩,
  ⟨(some 42), .mov, [.t 6], none⟩,
  ⟨(some 43), .slice 1 false true, [.t 41, .t 42], none⟩,
  ⟨(some 44), .app 1 1, [.t 37, .t 43], none⟩,
  ⟨(some 45), .nilc, [.t 32], none⟩,
  ⟨(some 46), .faddr 0 1 false, [.t 45], none⟩,
  ⟨none, .store false 1, [.t 46, .t 44], none⟩,
  ⟨(some 47), .nilc, [.t 33], none⟩,
  ⟨(some 48), .faddr 1 1 false, [.t 47], none⟩,
  ⟨none, .store false 1, [.t 48, .c (.slice none 0 0)], none⟩]
def c_disk_Disk_Off_r5 : List COper := a_disk_Disk_Off_r5
instance : Reg c_disk_Disk_Off_r5 a_disk_Disk_Off_r5 19 := ⟨rfl, rfl⟩
@[simp] def a_disk_Disk_Off_r6 : List COper := [
  ⟨(some 49), .mov, [.t 0], none⟩,
  ⟨(some 50), .mov, [.t 0], none⟩,
  ⟨(some 51), .nilc, [.t 49], none⟩,
  ⟨(some 52), .faddr 1 1 false, [.t 51], none⟩,
  ⟨none, .store false 1, [.t 52, .c (.bool true)], none⟩,
  ⟨(some 53), .nilc, [.t 50], none⟩,
  ⟨(some 54), .faddr 3 1 false, [.t 53], none⟩,
  ⟨none, .store false 1, [.t 54, .c (.int .i64 0)], none⟩]
def c_disk_Disk_Off_r6 : List COper := a_disk_Disk_Off_r6
instance : Reg c_disk_Disk_Off_r6 a_disk_Disk_Off_r6 8 := ⟨rfl, rfl⟩
@[simp] def c_disk_Disk_Off : CCode :=
  .seq (.seq (.region c_disk_Disk_Off_r0 none [0, 1, 14]) (.cond (.t 14) (.ret) (.skip))) (.seq (.seq (.region c_disk_Disk_Off_r1 none [0, 1, 19]) (.block 0 (.loop (.seq (.head .next 20 (.t 19) c_disk_Disk_Off_r2 [0, 1, 19, 21]) (.seq (.cond (.t 21) (.skip) (.exit 0)) (.block 1 (.seq (.head .entry 22 (.t 19) c_disk_Disk_Off_r3 [0, 1, 5, 19]) (.seq (.region c_disk_Disk_Off_r4 none [0, 1, 5, 6, 19]) (.region c_disk_Disk_Off_r5 (some ([0, 0, 0, 4, 12, 28, 0, 64, 192, 448, 0, 1984, 4092, 8189, 16381, 32765, 65535, 131071, 262143], [])) [0, 1, 19]))))))))) (.region c_disk_Disk_Off_r6 none []))
@[simp] def R_disk_Disk_Off : List CRes := []
theorem k_disk_Disk_Off : chkFn Try.prog fn_disk_Disk_Off c_disk_Disk_Off R_disk_Disk_Off 2 = true := by kernel_rfl
/-! (*wapentake/disk.Disk).On -/
@[simp] def a_disk_Disk_On_r0 : List COper := [
  ⟨(some 2), .mov, [.t 0], none⟩,
  ⟨(some 3), .eqp true, [.t 2, .c (.pointer none)], none⟩]
def c_disk_Disk_On_r0 : List COper := a_disk_Disk_On_r0
instance : Reg c_disk_Disk_On_r0 a_disk_Disk_On_r0 2 := ⟨rfl, rfl⟩
@[simp] def a_disk_Disk_On_r1 : List COper := [
  ⟨(some 4), .mov, [.t 0], none⟩,
  ⟨(some 5), .nilc, [.t 4], none⟩,
  ⟨(some 6), .faddr 1 1 false, [.t 5], none⟩,
  ⟨none, .store false 1, [.t 6, .c (.bool false)], none⟩]
def c_disk_Disk_On_r1 : List COper := a_disk_Disk_On_r1
instance : Reg c_disk_Disk_On_r1 a_disk_Disk_On_r1 4 := ⟨rfl, rfl⟩
@[simp] def c_disk_Disk_On : CCode :=
  .seq (.region c_disk_Disk_On_r0 none [0, 3]) (.cond (.t 3) (.region c_disk_Disk_On_r1 none []) (.skip))
@[simp] def R_disk_Disk_On : List CRes := []
theorem k_disk_Disk_On : chkFn Try.prog fn_disk_Disk_On c_disk_Disk_On R_disk_Disk_On 1 = true := by kernel_rfl
/-! (*wapentake/disk.Disk).Read -/
@[simp] def a_disk_Disk_Read_r0 : List COper := [
  ⟨(some 4), .mov, [.c (.slice none 0 0)], none⟩,
  ⟨(some 5), .mov, [.c (.int .i64 0)], none⟩]
def c_disk_Disk_Read_r0 : List COper := a_disk_Disk_Read_r0
instance : Reg c_disk_Disk_Read_r0 a_disk_Disk_Read_r0 2 := ⟨rfl, rfl⟩
@[simp] def a_disk_Disk_Read_r1 : List COper := [
  ⟨(some 8), .mov, [.t 0], none⟩,
  ⟨(some 9), .eqp false, [.t 8, .c (.pointer none)], none⟩,
  ⟨(some 7), .mov, [.t 9], none⟩]
def c_disk_Disk_Read_r1 : List COper := a_disk_Disk_Read_r1
instance : Reg c_disk_Disk_Read_r1 a_disk_Disk_Read_r1 3 := ⟨rfl, rfl⟩
@[simp] def a_disk_Disk_Read_r2 : List COper := [
  ⟨(some 4), .mov, [.c (.slice none 0 0)], none⟩,
  ⟨(some 5), .mov, [.c (.int .i64 2)], none⟩]
def c_disk_Disk_Read_r2 : List COper := a_disk_Disk_Read_r2
instance : Reg c_disk_Disk_Read_r2 a_disk_Disk_Read_r2 2 := ⟨rfl, rfl⟩
@[simp] def a_disk_Disk_Read_r3 : List COper := [
  ⟨(some 11), .mov, [.t 0], none⟩,
  ⟨(some 12), .nilc, [.t 11], none⟩,
  ⟨(some 13), .faddr 1 1 false, [.t 12], none⟩,
  ⟨(some 14), .load false 1, [.t 13], none⟩,
  ⟨(some 10), .mov, [.t 14], none⟩]
def c_disk_Disk_Read_r3 : List COper := a_disk_Disk_Read_r3
instance : Reg c_disk_Disk_Read_r3 a_disk_Disk_Read_r3 5 := ⟨rfl, rfl⟩
@[simp] def a_disk_Disk_Read_r4 : List COper := [
  ⟨(some 4), .mov, [.c (.slice none 0 0)], none⟩,
  ⟨(some 5), .mov, [.c (.int .i64 21)], none⟩]
def c_disk_Disk_Read_r4 : List COper := a_disk_Disk_Read_r4
instance : Reg c_disk_Disk_Read_r4 a_disk_Disk_Read_r4 2 := ⟨rfl, rfl⟩
@[simp] def a_disk_Disk_Read_r5 : List COper := [
  ⟨(some 16), .mov, [.t 0], none⟩,
  ⟨(some 17), .nilc, [.t 16], none⟩,
  ⟨(some 18), .faddr 0 1 false, [.t 17], none⟩,
  ⟨(some 19), .load false 1, [.t 18], none⟩,
  ⟨(some 20), .mov, [.t 1], none⟩,
  ⟨(some 21), .mlook (.str) (.v (.pointer none)) false, [.t 19, .t 20], none⟩,
  ⟨(some 22), .eqp false, [.t 21, .c (.pointer none)], none⟩,
  ⟨(some 15), .mov, [.t 22], none⟩]
def c_disk_Disk_Read_r5 : List COper := a_disk_Disk_Read_r5
instance : Reg c_disk_Disk_Read_r5 a_disk_Disk_Read_r5 8 := ⟨rfl, rfl⟩
@[simp] def a_disk_Disk_Read_r6 : List COper := [
  ⟨(some 4), .mov, [.c (.slice none 0 0)], none⟩,
  ⟨(some 5), .mov, [.c (.int .i64 7)], none⟩]
def c_disk_Disk_Read_r6 : List COper := a_disk_Disk_Read_r6
instance : Reg c_disk_Disk_Read_r6 a_disk_Disk_Read_r6 2 := ⟨rfl, rfl⟩
@[simp] def a_disk_Disk_Read_r7 : List COper := [
  ⟨(some 23), .mov, [.t 0], none⟩,
  ⟨(some 24), .nilc, [.t 23], none⟩,
  ⟨(some 25), .faddr 0 1 false, [.t 24], none⟩,
  ⟨(some 26), .load false 1, [.t 25], none⟩,
  ⟨(some 27), .mov, [.t 1], none⟩,
  ⟨(some 28), .mlook (.str) (.v (.pointer none)) false, [.t 26, .t 27], none⟩,
  ⟨(some 6), .mov, [.t 28], none⟩]
def c_disk_Disk_Read_r7 : List COper := a_disk_Disk_Read_r7
instance : Reg c_disk_Disk_Read_r7 a_disk_Disk_Read_r7 7 := ⟨rfl, rfl⟩
@[simp] def a_disk_Disk_Read_r8 : List COper := [
  ⟨(some 29), .bslice 1 0 (.v (.int .u8 0)) [], [], none⟩,
  ⟨(some 30), .mov, [.t 6], none⟩,
  ⟨(some 31), .nilc, [.t 30], none⟩,
  ⟨(some 32), .faddr 0 1 false, [.t 31], none⟩,
  ⟨(some 33), .load false 1, [.t 32], none⟩,
  ⟨(some 34), .app 1 1, [.t 29, .t 33], none⟩,
  ⟨(some 35), .mov, [.t 6], none⟩,
  ⟨(some 36), .nilc, [.t 35], none⟩,
  ⟨(some 37), .faddr 1 1 false, [.t 36], none⟩,
  ⟨(some 38), .load false 1, [.t 37], none⟩,
  ⟨(some 39), .app 1 1, [.t 34, .t 38], none⟩,
  ⟨(some 4), .mov, [.t 39], none⟩,
  ⟨(some 5), .mov, [.c (.int .i64 0)], none⟩]
def c_disk_Disk_Read_r8 : List COper := a_disk_Disk_Read_r8
instance : Reg c_disk_Disk_Read_r8 a_disk_Disk_Read_r8 13 := ⟨rfl, rfl⟩
@[simp] def c_disk_Disk_Read : CCode :=
  .seq (.region c_disk_Disk_Read_r0 none [0, 1]) (.seq (.block 0 (.seq (.region c_disk_Disk_Read_r1 none [0, 1, 7]) (.cond (.t 7) (.seq (.region c_disk_Disk_Read_r2 none [4, 5]) (.ret)) (.seq (.region c_disk_Disk_Read_r3 none [0, 1, 10]) (.cond (.t 10) (.seq (.region c_disk_Disk_Read_r4 none [4, 5]) (.ret)) (.seq (.region c_disk_Disk_Read_r5 none [0, 1, 15]) (.cond (.t 15) (.seq (.region c_disk_Disk_Read_r6 none [4, 5]) (.ret)) (.skip)))))))) (.seq (.region c_disk_Disk_Read_r7 none [6]) (.seq (.region c_disk_Disk_Read_r8 (some ([0, 0, 2, 6, 14, 31, 0, 64, 192, 448, 1023, 2047, 4095], [(0, 4), (0, 9), (5, 9)])) [4, 5]) (.ret))))
@[simp] def R_disk_Disk_Read : List CRes := [.tmp 4, .tmp 5]
theorem k_disk_Disk_Read : chkFn Try.prog fn_disk_Disk_Read c_disk_Disk_Read R_disk_Disk_Read 2 = true := by kernel_rfl
/-! (*wapentake/disk.Disk).Install -/
@[simp] def a_disk_Disk_Install_r0 : List COper := [
  ⟨(some 6), .mov, [.c (.int .i64 0)], none⟩]
def c_disk_Disk_Install_r0 : List COper := a_disk_Disk_Install_r0
instance : Reg c_disk_Disk_Install_r0 a_disk_Disk_Install_r0 1 := ⟨rfl, rfl⟩
@[simp] def a_disk_Disk_Install_r1 : List COper := [
  ⟨(some 8), .mov, [.t 0], none⟩,
  ⟨(some 9), .eqp true, [.t 8, .c (.pointer none)], none⟩,
  ⟨(some 10), .mov, [.t 9], none⟩,
  ⟨(some 11), .mov, [.t 0], (some (10, true))⟩,
  ⟨(some 12), .nilc, [.t 11], (some (10, true))⟩,
  ⟨(some 13), .faddr 1 1 false, [.t 12], (some (10, true))⟩,
  ⟨(some 14), .load false 1, [.t 13], (some (10, true))⟩,
  ⟨(some 15), .not, [.t 14], (some (10, true))⟩,
  ⟨(some 16), .pick, [.t 10, .t 15, .c (.bool false)], none⟩,
  ⟨(some 17), .mov, [.t 16], none⟩,
  ⟨(some 18), .mov, [.t 0], (some (17, true))⟩,
  ⟨(some 19), .call fn_disk_Disk_size, [.t 18], (some (17, true))⟩,
  ⟨(some 20), .mov, [.t 2], (some (17, true))⟩,
  ⟨(some 21), .len, [.t 20], (some (17, true))⟩,
  ⟨(some 22), .bin .add, [.t 19, .t 21], (some (17, true))⟩,
  ⟨(some 23), .bin .gtr, [.t 22, .c (.int .i64 4194304)], (some (17, true))⟩,
  ⟨(some 24), .pick, [.t 17, .t 23, .c (.bool false)], none⟩]
def c_disk_Disk_Install_r1 : List COper := a_disk_Disk_Install_r1
instance : Reg c_disk_Disk_Install_r1 a_disk_Disk_Install_r1 17 := ⟨rfl, rfl⟩
@[simp] def a_disk_Disk_Install_r2 : List COper := [
  ⟨(some 6), .mov, [.c (.int .i64 20)], none⟩]
def c_disk_Disk_Install_r2 : List COper := a_disk_Disk_Install_r2
instance : Reg c_disk_Disk_Install_r2 a_disk_Disk_Install_r2 1 := ⟨rfl, rfl⟩
@[simp] def a_disk_Disk_Install_r3 : List COper := [
  ⟨(some 25), .mov, [.t 0], none⟩,
  ⟨(some 26), .call fn_disk_Disk_act, [.t 25], none⟩,
  ⟨(some 7), .mov, [.t 26], none⟩]
def c_disk_Disk_Install_r3 : List COper := a_disk_Disk_Install_r3
instance : Reg c_disk_Disk_Install_r3 a_disk_Disk_Install_r3 3 := ⟨rfl, rfl⟩
@[simp] def a_disk_Disk_Install_r4 : List COper := [
  ⟨(some 27), .mov, [.t 0], none⟩,
  ⟨(some 28), .eqp false, [.t 27, .c (.pointer none)], none⟩,
  ⟨(some 29), .mov, [.t 28], none⟩,
  ⟨(some 30), .mov, [.t 0], (some (29, false))⟩,
  ⟨(some 31), .nilc, [.t 30], (some (29, false))⟩,
  ⟨(some 32), .faddr 1 1 false, [.t 31], (some (29, false))⟩,
  ⟨(some 33), .load false 1, [.t 32], (some (29, false))⟩,
  ⟨(some 34), .pick, [.t 29, .c (.bool true), .t 33], none⟩]
def c_disk_Disk_Install_r4 : List COper := a_disk_Disk_Install_r4
instance : Reg c_disk_Disk_Install_r4 a_disk_Disk_Install_r4 8 := ⟨rfl, rfl⟩
@[simp] def a_disk_Disk_Install_r5 : List COper := [
  ⟨(some 35), .mov, [.t 7], none⟩,
  ⟨(some 6), .mov, [.t 35], none⟩]
def c_disk_Disk_Install_r5 : List COper := a_disk_Disk_Install_r5
instance : Reg c_disk_Disk_Install_r5 a_disk_Disk_Install_r5 2 := ⟨rfl, rfl⟩
@[simp] def a_disk_Disk_Install_r6 : List COper := [
  ⟨(some 36), .mov, [.t 7], none⟩,
  ⟨(some 37), .bin .neq, [.t 36, .c (.int .i64 0)], none⟩]
def c_disk_Disk_Install_r6 : List COper := a_disk_Disk_Install_r6
instance : Reg c_disk_Disk_Install_r6 a_disk_Disk_Install_r6 2 := ⟨rfl, rfl⟩
@[simp] def a_disk_Disk_Install_r7 : List COper := [
  ⟨(some 38), .mov, [.t 0], none⟩,
  ⟨(some 39), .mov, [.t 0], none⟩,
  ⟨(some 40), .nilc, [.t 39], none⟩,
  ⟨(some 41), .faddr 4 1 false, [.t 40], none⟩,
  ⟨(some 42), .load false 1, [.t 41], none⟩,
  ⟨(some 43), .call fn_disk_Disk_Off, [.t 38, .t 42], none⟩]
def c_disk_Disk_Install_r7 : List COper := a_disk_Disk_Install_r7
instance : Reg c_disk_Disk_Install_r7 a_disk_Disk_Install_r7 6 := ⟨rfl, rfl⟩
@[simp] def a_disk_Disk_Install_r8 : List COper := [
  ⟨(some 44), .mov, [.t 7], none⟩,
  ⟨(some 6), .mov, [.t 44], none⟩]
def c_disk_Disk_Install_r8 : List COper := a_disk_Disk_Install_r8
instance : Reg c_disk_Disk_Install_r8 a_disk_Disk_Install_r8 2 := ⟨rfl, rfl⟩
@[simp] def a_disk_Disk_Install_r9 : List COper := [
  ⟨(some 45), .mov, [.t 0], none⟩,
  ⟨(some 46), .nilc, [.t 45], none⟩,
  ⟨(some 47), .faddr 0 1 false, [.t 46], none⟩,
  ⟨(some 48), .load false 1, [.t 47], none⟩,
  ⟨(some 49), .mov, [.t 1], none⟩,
  ⟨(some 50), .bslice 1 0 (.v (.int .u8 0)) [], [], none⟩,
  ⟨(some 51), .mov, [.t 2], none⟩,
  ⟨(some 52), .app 1 1, [.t 50, .t 51], none⟩,
  ⟨(some 53), .build [.v (.slice none 0 0), .v (.slice none 0 0)] [0], [.t 52], none⟩,
  ⟨(some 54), .box, [.t 53], none⟩,
  ⟨none, .mput (.str), [.t 48, .t 49, .t 54], none⟩]
def c_disk_Disk_Install_r9 : List COper := a_disk_Disk_Install_r9
instance : Reg c_disk_Disk_Install_r9 a_disk_Disk_Install_r9 11 := ⟨rfl, rfl⟩
@[simp] def a_disk_Disk_Install_r10 : List COper := [
  ⟨(some 6), .mov, [.c (.int .i64 0)], none⟩]
def c_disk_Disk_Install_r10 : List COper := a_disk_Disk_Install_r10
instance : Reg c_disk_Disk_Install_r10 a_disk_Disk_Install_r10 1 := ⟨rfl, rfl⟩
@[simp] def c_disk_Disk_Install : CCode :=
  .seq (.region c_disk_Disk_Install_r0 none [0, 1, 2]) (.seq (.seq (.region c_disk_Disk_Install_r1 none [0, 1, 2, 24]) (.cond (.t 24) (.seq (.region c_disk_Disk_Install_r2 none [6]) (.ret)) (.skip))) (.seq (.region c_disk_Disk_Install_r3 none [0, 1, 2, 7]) (.seq (.seq (.region c_disk_Disk_Install_r4 none [0, 1, 2, 7, 34]) (.cond (.t 34) (.seq (.region c_disk_Disk_Install_r5 none [6]) (.ret)) (.skip))) (.seq (.seq (.region c_disk_Disk_Install_r6 none [0, 1, 2, 7, 37]) (.cond (.t 37) (.seq (.region c_disk_Disk_Install_r7 none [7]) (.seq (.region c_disk_Disk_Install_r8 none [6]) (.ret))) (.skip))) (.seq (.region c_disk_Disk_Install_r9 (some ([0, 1, 3, 7, 0, 0, 0, 96, 224, 480, 1023], [(3, 5), (3, 7), (3, 9)])) []) (.seq (.region c_disk_Disk_Install_r10 none [6]) (.ret)))))))
@[simp] def R_disk_Disk_Install : List CRes := [.tmp 6]
theorem k_disk_Disk_Install : chkFn Try.prog fn_disk_Disk_Install c_disk_Disk_Install R_disk_Disk_Install 3 = true := by kernel_rfl
/-! (*wapentake/disk.Disk).Acts -/
@[simp] def a_disk_Disk_Acts_r0 : List COper := [
  ⟨(some 2), .mov, [.c (.int .i64 0)], none⟩]
def c_disk_Disk_Acts_r0 : List COper := a_disk_Disk_Acts_r0
instance : Reg c_disk_Disk_Acts_r0 a_disk_Disk_Acts_r0 1 := ⟨rfl, rfl⟩
@[simp] def a_disk_Disk_Acts_r1 : List COper := [
  ⟨(some 3), .mov, [.t 0], none⟩,
  ⟨(some 4), .eqp false, [.t 3, .c (.pointer none)], none⟩]
def c_disk_Disk_Acts_r1 : List COper := a_disk_Disk_Acts_r1
instance : Reg c_disk_Disk_Acts_r1 a_disk_Disk_Acts_r1 2 := ⟨rfl, rfl⟩
@[simp] def a_disk_Disk_Acts_r2 : List COper := [
  ⟨(some 2), .mov, [.c (.int .i64 0)], none⟩]
def c_disk_Disk_Acts_r2 : List COper := a_disk_Disk_Acts_r2
instance : Reg c_disk_Disk_Acts_r2 a_disk_Disk_Acts_r2 1 := ⟨rfl, rfl⟩
@[simp] def a_disk_Disk_Acts_r3 : List COper := [
  ⟨(some 5), .mov, [.t 0], none⟩,
  ⟨(some 6), .nilc, [.t 5], none⟩,
  ⟨(some 7), .faddr 2 1 false, [.t 6], none⟩,
  ⟨(some 8), .load false 1, [.t 7], none⟩,
  ⟨(some 2), .mov, [.t 8], none⟩]
def c_disk_Disk_Acts_r3 : List COper := a_disk_Disk_Acts_r3
instance : Reg c_disk_Disk_Acts_r3 a_disk_Disk_Acts_r3 5 := ⟨rfl, rfl⟩
@[simp] def c_disk_Disk_Acts : CCode :=
  .seq (.region c_disk_Disk_Acts_r0 none [0]) (.seq (.seq (.region c_disk_Disk_Acts_r1 none [0, 4]) (.cond (.t 4) (.seq (.region c_disk_Disk_Acts_r2 none [2]) (.ret)) (.skip))) (.seq (.region c_disk_Disk_Acts_r3 none [2]) (.ret)))
@[simp] def R_disk_Disk_Acts : List CRes := [.tmp 2]
theorem k_disk_Disk_Acts : chkFn Try.prog fn_disk_Disk_Acts c_disk_Disk_Acts R_disk_Disk_Acts 1 = true := by kernel_rfl
/-! (*wapentake/disk.Disk).size -/
@[simp] def a_disk_Disk_size_r0 : List COper := [
  ⟨(some 2), .mov, [.c (.int .i64 0)], none⟩]
def c_disk_Disk_size_r0 : List COper := a_disk_Disk_size_r0
instance : Reg c_disk_Disk_size_r0 a_disk_Disk_size_r0 1 := ⟨rfl, rfl⟩
@[simp] def a_disk_Disk_size_r1 : List COper := [
  ⟨(some 3), .mov, [.c (.int .i64 0)], none⟩]
def c_disk_Disk_size_r1 : List COper := a_disk_Disk_size_r1
instance : Reg c_disk_Disk_size_r1 a_disk_Disk_size_r1 1 := ⟨rfl, rfl⟩
@[simp] def a_disk_Disk_size_r2 : List COper := [
  ⟨(some 6), .mov, [.t 0], none⟩,
  ⟨(some 7), .nilc, [.t 6], none⟩,
  ⟨(some 8), .faddr 0 1 false, [.t 7], none⟩,
  ⟨(some 9), .load false 1, [.t 8], none⟩,
  ⟨(some 10), .mrange, [.t 9], none⟩]
def c_disk_Disk_size_r2 : List COper := a_disk_Disk_size_r2
instance : Reg c_disk_Disk_size_r2 a_disk_Disk_size_r2 5 := ⟨rfl, rfl⟩
@[simp] def a_disk_Disk_size_r3 : List COper := [
  ⟨(some 12), .ext 0, [.t 11], none⟩]
def c_disk_Disk_size_r3 : List COper := a_disk_Disk_size_r3
instance : Reg c_disk_Disk_size_r3 a_disk_Disk_size_r3 1 := ⟨rfl, rfl⟩
@[simp] def a_disk_Disk_size_r4 : List COper := [
  ⟨(some 14), .ext 1, [.t 13], none⟩,
  ⟨(some 5), .mov, [.t 14], none⟩]
def c_disk_Disk_size_r4 : List COper := a_disk_Disk_size_r4
instance : Reg c_disk_Disk_size_r4 a_disk_Disk_size_r4 2 := ⟨rfl, rfl⟩
@[simp] def a_disk_Disk_size_r5 : List COper := [
  ⟨(some 15), .mov, [.t 3], none⟩,
  ⟨(some 16), .mov, [.t 5], none⟩,
  ⟨(some 17), .nilc, [.t 16], none⟩,
  ⟨(some 18), .faddr 0 1 false, [.t 17], none⟩,
  ⟨(some 19), .load false 1, [.t 18], none⟩,
  ⟨(some 20), .len, [.t 19], none⟩,
  ⟨(some 21), .mov, [.t 5], none⟩,
  ⟨(some 22), .nilc, [.t 21], none⟩,
  ⟨(some 23), .faddr 1 1 false, [.t 22], none⟩,
  ⟨(some 24), .load false 1, [.t 23], none⟩,
  ⟨(some 25), .len, [.t 24], none⟩,
  ⟨(some 26), .bin .add, [.t 20, .t 25], none⟩,
  ⟨(some 27), .bin .add, [.t 15, .t 26], none⟩,
  ⟨(some 3), .mov, [.t 27], none⟩]
def c_disk_Disk_size_r5 : List COper := a_disk_Disk_size_r5
instance : Reg c_disk_Disk_size_r5 a_disk_Disk_size_r5 14 := ⟨rfl, rfl⟩
@[simp] def a_disk_Disk_size_r6 : List COper := [
  ⟨(some 28), .mov, [.t 3], none⟩,
  ⟨(some 2), .mov, [.t 28], none⟩]
def c_disk_Disk_size_r6 : List COper := a_disk_Disk_size_r6
instance : Reg c_disk_Disk_size_r6 a_disk_Disk_size_r6 2 := ⟨rfl, rfl⟩
@[simp] def c_disk_Disk_size : CCode :=
  .seq (.region c_disk_Disk_size_r0 none [0]) (.seq (.region c_disk_Disk_size_r1 none [0, 3]) (.seq (.seq (.region c_disk_Disk_size_r2 none [3, 10]) (.block 0 (.loop (.seq (.head .next 11 (.t 10) c_disk_Disk_size_r3 [3, 10, 12]) (.seq (.cond (.t 12) (.skip) (.exit 0)) (.block 1 (.seq (.head .entry 13 (.t 10) c_disk_Disk_size_r4 [3, 5, 10]) (.region c_disk_Disk_size_r5 (some ([0, 0, 2, 6, 14, 30, 0, 64, 192, 448, 960, 2046, 4095, 8191], [])) [3, 10])))))))) (.seq (.region c_disk_Disk_size_r6 none [2]) (.ret))))
@[simp] def R_disk_Disk_size : List CRes := [.tmp 2]
theorem k_disk_Disk_size : chkFn Try.prog fn_disk_Disk_size c_disk_Disk_size R_disk_Disk_size 1 = true := by kernel_rfl
/-! (*wapentake/disk.Disk).act -/
@[simp] def a_disk_Disk_act_r0 : List COper := [
  ⟨(some 2), .mov, [.c (.int .i64 0)], none⟩]
def c_disk_Disk_act_r0 : List COper := a_disk_Disk_act_r0
instance : Reg c_disk_Disk_act_r0 a_disk_Disk_act_r0 1 := ⟨rfl, rfl⟩
@[simp] def a_disk_Disk_act_r1 : List COper := [
  ⟨(some 3), .mov, [.t 0], none⟩,
  ⟨(some 4), .eqp false, [.t 3, .c (.pointer none)], none⟩]
def c_disk_Disk_act_r1 : List COper := a_disk_Disk_act_r1
instance : Reg c_disk_Disk_act_r1 a_disk_Disk_act_r1 2 := ⟨rfl, rfl⟩
@[simp] def a_disk_Disk_act_r2 : List COper := [
  ⟨(some 2), .mov, [.c (.int .i64 2)], none⟩]
def c_disk_Disk_act_r2 : List COper := a_disk_Disk_act_r2
instance : Reg c_disk_Disk_act_r2 a_disk_Disk_act_r2 1 := ⟨rfl, rfl⟩
@[simp] def a_disk_Disk_act_r3 : List COper := [
  ⟨(some 5), .mov, [.t 0], none⟩,
  ⟨(some 6), .nilc, [.t 5], none⟩,
  ⟨(some 7), .faddr 1 1 false, [.t 6], none⟩,
  ⟨(some 8), .load false 1, [.t 7], none⟩]
def c_disk_Disk_act_r3 : List COper := a_disk_Disk_act_r3
instance : Reg c_disk_Disk_act_r3 a_disk_Disk_act_r3 4 := ⟨rfl, rfl⟩
@[simp] def a_disk_Disk_act_r4 : List COper := [
  ⟨(some 2), .mov, [.c (.int .i64 21)], none⟩]
def c_disk_Disk_act_r4 : List COper := a_disk_Disk_act_r4
instance : Reg c_disk_Disk_act_r4 a_disk_Disk_act_r4 1 := ⟨rfl, rfl⟩
@[simp] def a_disk_Disk_act_r5 : List COper := [
  ⟨(some 9), .mov, [.t 0], none⟩,
  ⟨(some 10), .nilc, [.t 9], none⟩,
  ⟨(some 11), .faddr 2 1 false, [.t 10], none⟩,
  ⟨(some 12), .load false 1, [.t 11], none⟩,
  ⟨(some 13), .bin .add, [.t 12, .c (.int .i64 1)], none⟩,
  ⟨(some 14), .nilc, [.t 9], none⟩,
  ⟨(some 15), .faddr 2 1 false, [.t 14], none⟩,
  ⟨none, .store false 1, [.t 15, .t 13], none⟩]
def c_disk_Disk_act_r5 : List COper := a_disk_Disk_act_r5
instance : Reg c_disk_Disk_act_r5 a_disk_Disk_act_r5 8 := ⟨rfl, rfl⟩
@[simp] def a_disk_Disk_act_r6 : List COper := [
  ⟨(some 16), .mov, [.t 0], none⟩,
  ⟨(some 17), .nilc, [.t 16], none⟩,
  ⟨(some 18), .faddr 3 1 false, [.t 17], none⟩,
  ⟨(some 19), .load false 1, [.t 18], none⟩,
  ⟨(some 20), .bin .gtr, [.t 19, .c (.int .i64 0)], none⟩]
def c_disk_Disk_act_r6 : List COper := a_disk_Disk_act_r6
instance : Reg c_disk_Disk_act_r6 a_disk_Disk_act_r6 5 := ⟨rfl, rfl⟩
@[simp] def a_disk_Disk_act_r7 : List COper := [
  ⟨(some 21), .mov, [.t 0], none⟩,
  ⟨(some 22), .nilc, [.t 21], none⟩,
  ⟨(some 23), .faddr 3 1 false, [.t 22], none⟩,
  ⟨(some 24), .load false 1, [.t 23], none⟩,
  ⟨(some 25), .bin .sub, [.t 24, .c (.int .i64 1)], none⟩,
  ⟨(some 26), .nilc, [.t 21], none⟩,
  ⟨(some 27), .faddr 3 1 false, [.t 26], none⟩,
  ⟨none, .store false 1, [.t 27, .t 25], none⟩]
def c_disk_Disk_act_r7 : List COper := a_disk_Disk_act_r7
instance : Reg c_disk_Disk_act_r7 a_disk_Disk_act_r7 8 := ⟨rfl, rfl⟩
@[simp] def a_disk_Disk_act_r8 : List COper := [
  ⟨(some 28), .mov, [.t 0], none⟩,
  ⟨(some 29), .nilc, [.t 28], none⟩,
  ⟨(some 30), .faddr 3 1 false, [.t 29], none⟩,
  ⟨(some 31), .load false 1, [.t 30], none⟩,
  ⟨(some 32), .bin .eql, [.t 31, .c (.int .i64 0)], none⟩]
def c_disk_Disk_act_r8 : List COper := a_disk_Disk_act_r8
instance : Reg c_disk_Disk_act_r8 a_disk_Disk_act_r8 5 := ⟨rfl, rfl⟩
@[simp] def a_disk_Disk_act_r9 : List COper := [
  ⟨(some 2), .mov, [.c (.int .i64 21)], none⟩]
def c_disk_Disk_act_r9 : List COper := a_disk_Disk_act_r9
instance : Reg c_disk_Disk_act_r9 a_disk_Disk_act_r9 1 := ⟨rfl, rfl⟩
@[simp] def a_disk_Disk_act_r10 : List COper := [
  ⟨(some 2), .mov, [.c (.int .i64 0)], none⟩]
def c_disk_Disk_act_r10 : List COper := a_disk_Disk_act_r10
instance : Reg c_disk_Disk_act_r10 a_disk_Disk_act_r10 1 := ⟨rfl, rfl⟩
@[simp] def c_disk_Disk_act : CCode :=
  .seq (.region c_disk_Disk_act_r0 none [0]) (.seq (.seq (.region c_disk_Disk_act_r1 none [0, 4]) (.cond (.t 4) (.seq (.region c_disk_Disk_act_r2 none [2]) (.ret)) (.skip))) (.seq (.seq (.region c_disk_Disk_act_r3 none [0, 8]) (.cond (.t 8) (.seq (.region c_disk_Disk_act_r4 none [2]) (.ret)) (.skip))) (.seq (.region c_disk_Disk_act_r5 none [0]) (.seq (.seq (.region c_disk_Disk_act_r6 none [0, 20]) (.cond (.t 20) (.seq (.region c_disk_Disk_act_r7 none [0]) (.seq (.region c_disk_Disk_act_r8 none [32]) (.cond (.t 32) (.seq (.region c_disk_Disk_act_r9 none [2]) (.ret)) (.skip)))) (.skip))) (.seq (.region c_disk_Disk_act_r10 none [2]) (.ret))))))
@[simp] def R_disk_Disk_act : List CRes := [.tmp 2]
theorem k_disk_Disk_act : chkFn Try.prog fn_disk_Disk_act c_disk_Disk_act R_disk_Disk_act 1 = true := by kernel_rfl
/-! (*wapentake/disk.Disk).file -/
@[simp] def a_disk_Disk_file_r0 : List COper := [
  ⟨(some 4), .mov, [.c (.pointer none)], none⟩]
def c_disk_Disk_file_r0 : List COper := a_disk_Disk_file_r0
instance : Reg c_disk_Disk_file_r0 a_disk_Disk_file_r0 1 := ⟨rfl, rfl⟩
@[simp] def a_disk_Disk_file_r1 : List COper := [
  ⟨(some 5), .mov, [.t 0], none⟩,
  ⟨(some 6), .nilc, [.t 5], none⟩,
  ⟨(some 7), .faddr 0 1 false, [.t 6], none⟩,
  ⟨(some 8), .load false 1, [.t 7], none⟩,
  ⟨(some 9), .mov, [.t 1], none⟩,
  ⟨(some 10), .mlook (.str) (.v (.pointer none)) false, [.t 8, .t 9], none⟩,
  ⟨(some 11), .eqp false, [.t 10, .c (.pointer none)], none⟩]
def c_disk_Disk_file_r1 : List COper := a_disk_Disk_file_r1
instance : Reg c_disk_Disk_file_r1 a_disk_Disk_file_r1 7 := ⟨rfl, rfl⟩
@[simp] def a_disk_Disk_file_r2 : List COper := [
  ⟨(some 12), .mov, [.t 0], none⟩,
  ⟨(some 13), .nilc, [.t 12], none⟩,
  ⟨(some 14), .faddr 0 1 false, [.t 13], none⟩,
  ⟨(some 15), .load false 1, [.t 14], none⟩,
  ⟨(some 16), .mov, [.t 1], none⟩,
  ⟨(some 17), .build [.v (.slice none 0 0), .v (.slice none 0 0)] [], [], none⟩,
  ⟨(some 18), .box, [.t 17], none⟩,
  ⟨none, .mput (.str), [.t 15, .t 16, .t 18], none⟩]
def c_disk_Disk_file_r2 : List COper := a_disk_Disk_file_r2
instance : Reg c_disk_Disk_file_r2 a_disk_Disk_file_r2 8 := ⟨rfl, rfl⟩
@[simp] def a_disk_Disk_file_r3 : List COper := [
  ⟨(some 19), .mov, [.t 0], none⟩,
  ⟨(some 20), .nilc, [.t 19], none⟩,
  ⟨(some 21), .faddr 0 1 false, [.t 20], none⟩,
  ⟨(some 22), .load false 1, [.t 21], none⟩,
  ⟨(some 23), .mov, [.t 1], none⟩,
  ⟨(some 24), .mlook (.str) (.v (.pointer none)) false, [.t 22, .t 23], none⟩,
  ⟨(some 4), .mov, [.t 24], none⟩]
def c_disk_Disk_file_r3 : List COper := a_disk_Disk_file_r3
instance : Reg c_disk_Disk_file_r3 a_disk_Disk_file_r3 7 := ⟨rfl, rfl⟩
@[simp] def c_disk_Disk_file : CCode :=
  .seq (.region c_disk_Disk_file_r0 none [0, 1]) (.seq (.seq (.region c_disk_Disk_file_r1 none [0, 1, 11]) (.cond (.t 11) (.region c_disk_Disk_file_r2 none [0, 1]) (.skip))) (.seq (.region c_disk_Disk_file_r3 none [4]) (.ret)))
@[simp] def R_disk_Disk_file : List CRes := [.tmp 4]
theorem k_disk_Disk_file : chkFn Try.prog fn_disk_Disk_file c_disk_Disk_file R_disk_Disk_file 2 = true := by kernel_rfl

end Go.Proofs.Ythmnkpehifgjeaa.WL
