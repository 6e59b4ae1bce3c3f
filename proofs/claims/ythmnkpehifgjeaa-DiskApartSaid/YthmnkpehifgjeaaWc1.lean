/- The program's functions as abstract texts, each held against the program by the kernel. -/
import Derived.Test.YthmnkpehifgjeaaWm5
import Derived.Test.YthmnkpehifgjeaaChecked
namespace Go.Proofs.Ythmnkpehifgjeaa.WL
open Go
theorem mix : Try.prog.follows .mixedOrders = true := by kernel_rfl
def fn_l16_DiskLoses : Nat := 3
def fn_l16_DiskKeeps : Nat := 4
def fn_l16_DiskInstalls : Nat := 5
def fn_l16_DiskFull : Nat := 6
def fn_l16_DiskApart : Nat := 7
def fn_l16_alive : Nat := 8
def fn_disk_New : Nat := 9
def fn_disk_Disk_Arm : Nat := 10
def fn_disk_Disk_Append : Nat := 11
def fn_disk_Disk_Sync : Nat := 12
def fn_disk_Disk_Off : Nat := 13
def fn_disk_Disk_On : Nat := 14
def fn_disk_Disk_Read : Nat := 15
def fn_disk_Disk_Install : Nat := 16
def fn_disk_Disk_Acts : Nat := 17
def fn_disk_Disk_Names : Nat := 18
def fn_disk_Disk_size : Nat := 19
def fn_disk_Disk_act : Nat := 20
def fn_disk_Disk_file : Nat := 21
def fn_slices_Sorted : Nat := 22
def fn_maps_Keys : Nat := 23
def fn_slices_Collect : Nat := 24
def fn_slices_Sort : Nat := 25
def fn_maps_Keys_1 : Nat := 26
def fn_slices_AppendSeq : Nat := 27
def fn_slices_pdqsortOrdered : Nat := 28
def fn_bits_Len : Nat := 29
def fn_slices_insertionSortOrdered : Nat := 30
def fn_slices_heapSortOrdered : Nat := 31
def fn_slices_breakPatternsOrdered : Nat := 32
def fn_slices_choosePivotOrdered : Nat := 33
def fn_slices_reverseRangeOrdered : Nat := 34
def fn_slices_partialInsertionSortOrdered : Nat := 35
def fn_cmp_Less : Nat := 36
def fn_slices_partitionEqualOrdered : Nat := 37
def fn_slices_partitionOrdered : Nat := 38
def fn_bits_Len32 : Nat := 39
def fn_bits_Len64 : Nat := 40
def fn_slices_siftDownOrdered : Nat := 41
def fn_slices_nextPowerOfTwo : Nat := 42
def fn_slices_xorshift_Next : Nat := 43
def fn_slices_medianAdjacentOrdered : Nat := 44
def fn_slices_medianOrdered : Nat := 45
def fn_cmp_isNaN : Nat := 46
def fn_slices_order2Ordered : Nat := 47
/-! wapentake/wapentakelaw16.DiskApart -/
@[simp] def a_l16_DiskApart_r0 : List COper := [
  ⟨(some 6), .mov, [.c (.bool false)], none⟩]
def c_l16_DiskApart_r0 : List COper := a_l16_DiskApart_r0
instance : Reg c_l16_DiskApart_r0 a_l16_DiskApart_r0 1 := ⟨rfl, rfl⟩
@[simp] def a_l16_DiskApart_r1 : List COper := [
  ⟨(some 14), .call fn_l16_alive, [], none⟩,
  ⟨(some 15), .not, [.t 14], none⟩]
def c_l16_DiskApart_r1 : List COper := a_l16_DiskApart_r1
instance : Reg c_l16_DiskApart_r1 a_l16_DiskApart_r1 2 := ⟨rfl, rfl⟩
@[simp] def a_l16_DiskApart_r2 : List COper := [
  ⟨(some 6), .mov, [.c (.bool false)], none⟩]
def c_l16_DiskApart_r2 : List COper := a_l16_DiskApart_r2
instance : Reg c_l16_DiskApart_r2 a_l16_DiskApart_r2 1 := ⟨rfl, rfl⟩
@[simp] def a_l16_DiskApart_r3 : List COper := [
  ⟨(some 16), .mov, [.t 0], none⟩,
  ⟨(some 17), .len, [.t 16], none⟩,
  ⟨(some 18), .bin .gtr, [.t 17, .c (.int .i64 4096)], none⟩,
  ⟨(some 19), .mov, [.t 18], none⟩,
  ⟨(some 20), .mov, [.t 1], (some (19, false))⟩,
  ⟨(some 21), .len, [.t 20], (some (19, false))⟩,
  ⟨(some 22), .bin .gtr, [.t 21, .c (.int .i64 4096)], (some (19, false))⟩,
  ⟨(some 23), .pick, [.t 19, .c (.bool true), .t 22], none⟩,
  ⟨(some 24), .mov, [.t 23], none⟩,
  ⟨(some 25), .mov, [.t 2], (some (24, false))⟩,
  ⟨(some 26), .len, [.t 25], (some (24, false))⟩,
  ⟨(some 27), .bin .gtr, [.t 26, .c (.int .i64 4096)], (some (24, false))⟩,
  ⟨(some 28), .pick, [.t 24, .c (.bool true), .t 27], none⟩]
def c_l16_DiskApart_r3 : List COper := a_l16_DiskApart_r3
instance : Reg c_l16_DiskApart_r3 a_l16_DiskApart_r3 13 := ⟨rfl, rfl⟩
@[simp] def a_l16_DiskApart_r4 : List COper := [
  ⟨(some 6), .mov, [.c (.bool true)], none⟩]
def c_l16_DiskApart_r4 : List COper := a_l16_DiskApart_r4
instance : Reg c_l16_DiskApart_r4 a_l16_DiskApart_r4 1 := ⟨rfl, rfl⟩
@[simp] def a_l16_DiskApart_r5 : List COper := [
  ⟨(some 29), .call fn_disk_New, [], none⟩,
  ⟨(some 7), .mov, [.t 29], none⟩]
def c_l16_DiskApart_r5 : List COper := a_l16_DiskApart_r5
instance : Reg c_l16_DiskApart_r5 a_l16_DiskApart_r5 2 := ⟨rfl, rfl⟩
@[simp] def a_l16_DiskApart_r6 : List COper := [
  ⟨(some 30), .mov, [.t 7], none⟩,
  ⟨(some 31), .mov, [.t 0], none⟩,
  ⟨(some 32), .call fn_disk_Disk_Append, [.t 30, .c (.string (mkS [97])), .t 31], none⟩]
def c_l16_DiskApart_r6 : List COper := a_l16_DiskApart_r6
instance : Reg c_l16_DiskApart_r6 a_l16_DiskApart_r6 3 := ⟨rfl, rfl⟩
@[simp] def a_l16_DiskApart_r7 : List COper := [
  ⟨(some 33), .mov, [.t 7], none⟩,
  ⟨(some 34), .mov, [.t 1], none⟩,
  ⟨(some 35), .call fn_disk_Disk_Install, [.t 33, .c (.string (mkS [98])), .t 34], none⟩]
def c_l16_DiskApart_r7 : List COper := a_l16_DiskApart_r7
instance : Reg c_l16_DiskApart_r7 a_l16_DiskApart_r7 3 := ⟨rfl, rfl⟩
@[simp] def a_l16_DiskApart_r8 : List COper := [
  ⟨(some 36), .mov, [.t 7], none⟩,
  ⟨(some 37), .mov, [.t 2], none⟩,
  ⟨(some 38), .call fn_disk_Disk_Append, [.t 36, .c (.string (mkS [99])), .t 37], none⟩]
def c_l16_DiskApart_r8 : List COper := a_l16_DiskApart_r8
instance : Reg c_l16_DiskApart_r8 a_l16_DiskApart_r8 3 := ⟨rfl, rfl⟩
@[simp] def a_l16_DiskApart_r9 : List COper := [
  ⟨(some 39), .mov, [.t 7], none⟩,
  ⟨(some 40), .call fn_disk_Disk_Sync, [.t 39, .c (.string (mkS [99]))], none⟩]
def c_l16_DiskApart_r9 : List COper := a_l16_DiskApart_r9
instance : Reg c_l16_DiskApart_r9 a_l16_DiskApart_r9 2 := ⟨rfl, rfl⟩
@[simp] def a_l16_DiskApart_r10 : List COper := [
  ⟨(some 41), .mov, [.t 7], none⟩,
  ⟨(some 42), .mov, [.t 2], none⟩,
  ⟨(some 43), .call fn_disk_Disk_Install, [.t 41, .c (.string (mkS [97])), .t 42], none⟩]
def c_l16_DiskApart_r10 : List COper := a_l16_DiskApart_r10
instance : Reg c_l16_DiskApart_r10 a_l16_DiskApart_r10 3 := ⟨rfl, rfl⟩
@[simp] def a_l16_DiskApart_r11 : List COper := [
  ⟨(some 45), .mov, [.t 7], none⟩,
  ⟨(some 46), .call fn_disk_Disk_Read, [.t 45, .c (.string (mkS [98]))], none⟩,
  ⟨(some 44), .mov, [.t 46], none⟩,
  ⟨(some 47), .ext 0, [.t 44], none⟩,
  ⟨(some 48), .ext 1, [.t 44], none⟩,
  ⟨(some 8), .mov, [.t 47], none⟩,
  ⟨(some 9), .mov, [.t 48], none⟩]
def c_l16_DiskApart_r11 : List COper := a_l16_DiskApart_r11
instance : Reg c_l16_DiskApart_r11 a_l16_DiskApart_r11 7 := ⟨rfl, rfl⟩
@[simp] def a_l16_DiskApart_r12 : List COper := [
  ⟨(some 50), .mov, [.t 7], none⟩,
  ⟨(some 51), .call fn_disk_Disk_Read, [.t 50, .c (.string (mkS [99]))], none⟩,
  ⟨(some 49), .mov, [.t 51], none⟩,
  ⟨(some 52), .ext 0, [.t 49], none⟩,
  ⟨(some 53), .ext 1, [.t 49], none⟩,
  ⟨(some 10), .mov, [.t 52], none⟩,
  ⟨(some 11), .mov, [.t 53], none⟩]
def c_l16_DiskApart_r12 : List COper := a_l16_DiskApart_r12
instance : Reg c_l16_DiskApart_r12 a_l16_DiskApart_r12 7 := ⟨rfl, rfl⟩
@[simp] def a_l16_DiskApart_r13 : List COper := [
  ⟨(some 55), .mov, [.t 7], none⟩,
  ⟨(some 56), .call fn_disk_Disk_Read, [.t 55, .c (.string (mkS [97]))], none⟩,
  ⟨(some 54), .mov, [.t 56], none⟩,
  ⟨(some 57), .ext 0, [.t 54], none⟩,
  ⟨(some 58), .ext 1, [.t 54], none⟩,
  ⟨(some 12), .mov, [.t 57], none⟩,
  ⟨(some 13), .mov, [.t 58], none⟩]
def c_l16_DiskApart_r13 : List COper := a_l16_DiskApart_r13
instance : Reg c_l16_DiskApart_r13 a_l16_DiskApart_r13 7 := ⟨rfl, rfl⟩
@[simp] def a_l16_DiskApart_r14 : List COper := [
  ⟨(some 59), .mov, [.t 9], none⟩,
  ⟨(some 60), .bin .eql, [.t 59, .c (.int .i64 0)], none⟩,
  ⟨(some 61), .mov, [.t 60], none⟩,
  ⟨(some 62), .mov, [.t 11], (some (61, true))⟩,
  ⟨(some 63), .bin .eql, [.t 62, .c (.int .i64 0)], (some (61, true))⟩,
  ⟨(some 64), .pick, [.t 61, .t 63, .c (.bool false)], none⟩,
  ⟨(some 65), .mov, [.t 64], none⟩,
  ⟨(some 66), .mov, [.t 13], (some (65, true))⟩,
  ⟨(some 67), .bin .eql, [.t 66, .c (.int .i64 0)], (some (65, true))⟩,
  ⟨(some 68), .pick, [.t 65, .t 67, .c (.bool false)], none⟩,
  ⟨(some 69), .mov, [.t 68], none⟩,
  ⟨(some 70), .mov, [.t 8], (some (69, true))⟩,
  ⟨(some 71), .convS, [.t 70], (some (69, true))⟩,
  ⟨(some 72), .mov, [.t 1], (some (69, true))⟩,
  ⟨(some 73), .convS, [.t 72], (some (69, true))⟩,
  ⟨(some 74), .bin .eql, [.t 71, .t 73], (some (69, true))⟩,
  ⟨(some 75), .pick, [.t 69, .t 74, .c (.bool false)], none⟩,
  ⟨(some 76), .mov, [.t 75], none⟩,
  ⟨(some 77), .mov, [.t 10], (some (76, true))⟩,
  ⟨(some 78), .convS, [.t 77], (some (76, true))⟩,
  ⟨(some 79), .mov, [.t 2], (some (76, true))⟩,
  ⟨(some 80), .convS, [.t 79], (some (76, true))⟩,
  ⟨(some 81), .bin .eql, [.t 78, .t 80], (some (76, true))⟩,
  ⟨(some 82), .pick, [.t 76, .t 81, .c (.bool false)], none⟩,
  ⟨(some 83), .mov, [.t 82], none⟩,
  ⟨(some 84), .mov, [.t 12], (some (83, true))⟩,
  ⟨(some 85), .convS, [.t 84], (some (83, true))⟩,
  ⟨(some 86), .mov, [.t 2], (some (83, true))⟩,
  ⟨(some 87), .convS, [.t 86], (some (83, true))⟩,
  ⟨(some 88), .bin .eql, [.t 85, .t 87], (some (83, true))⟩,
  ⟨(some 89), .pick, [.t 83, .t 88, .c (.bool false)], none⟩,
  ⟨(some 90), .mov, [.t 89], none⟩,
  ⟨(some 91), .mov, [.t 7], (some (90, true))⟩,
  ⟨(some 92), .call fn_disk_Disk_Names, [.t 91], (some (90, true))⟩,
  ⟨(some 93), .len, [.t 92], (some (90, true))⟩,
  ⟨(some 94), .bin .eql, [.t 93, .c (.int .i64 3)], (some (90, true))⟩,
  ⟨(some 95), .pick, [.t 90, .t 94, .c (.bool false)], none⟩,
  ⟨(some 6), .mov, [.t 95], none⟩]
def c_l16_DiskApart_r14 : List COper := a_l16_DiskApart_r14
instance : Reg c_l16_DiskApart_r14 a_l16_DiskApart_r14 38 := ⟨rfl, rfl⟩
@[simp] def c_l16_DiskApart : CCode :=
  .seq (.region c_l16_DiskApart_r0 none [0, 1, 2]) (.seq (.seq (.region c_l16_DiskApart_r1 none [0, 1, 2, 15]) (.cond (.t 15) (.seq (.region c_l16_DiskApart_r2 none [6]) (.ret)) (.skip))) (.seq (.seq (.region c_l16_DiskApart_r3 none [0, 1, 2, 28]) (.cond (.t 28) (.seq (.region c_l16_DiskApart_r4 none [6]) (.ret)) (.skip))) (.seq (.region c_l16_DiskApart_r5 none [0, 1, 2, 7]) (.seq (.region c_l16_DiskApart_r6 none [1, 2, 7]) (.seq (.region c_l16_DiskApart_r7 none [1, 2, 7]) (.seq (.region c_l16_DiskApart_r8 none [1, 2, 7]) (.seq (.region c_l16_DiskApart_r9 none [1, 2, 7]) (.seq (.region c_l16_DiskApart_r10 none [1, 2, 7]) (.seq (.region c_l16_DiskApart_r11 none [1, 2, 7, 8, 9]) (.seq (.region c_l16_DiskApart_r12 none [1, 2, 7, 8, 9, 10, 11]) (.seq (.region c_l16_DiskApart_r13 none [1, 2, 7, 8, 9, 10, 11, 12, 13]) (.seq (.region c_l16_DiskApart_r14 none [6]) (.ret)))))))))))))
@[simp] def R_l16_DiskApart : List CRes := [.tmp 6]
theorem k_l16_DiskApart : chkFn Try.prog fn_l16_DiskApart c_l16_DiskApart R_l16_DiskApart 3 = true := by kernel_rfl
/-! wapentake/wapentakelaw16.alive -/
@[simp] def a_l16_alive_r0 : List COper := [
  ⟨(some 0), .mov, [.c (.bool false)], none⟩]
def c_l16_alive_r0 : List COper := a_l16_alive_r0
instance : Reg c_l16_alive_r0 a_l16_alive_r0 1 := ⟨rfl, rfl⟩
@[simp] def a_l16_alive_r1 : List COper := [
  ⟨(some 4), .call fn_disk_New, [], none⟩,
  ⟨(some 1), .mov, [.t 4], none⟩]
def c_l16_alive_r1 : List COper := a_l16_alive_r1
instance : Reg c_l16_alive_r1 a_l16_alive_r1 2 := ⟨rfl, rfl⟩
@[simp] def a_l16_alive_r2 : List COper := [
  ⟨(some 5), .mov, [.t 1], none⟩,
  ⟨(some 6), .bslice 1 2 (.v (.int .u8 0)) [0, 1], [.c (.int .u8 120), .c (.int .u8 121)], none⟩,
  ⟨(some 7), .convM, [.t 6], none⟩,
  ⟨(some 8), .call fn_disk_Disk_Append, [.t 5, .c (.string (mkS [97])), .t 7], none⟩,
  ⟨(some 9), .bin .neq, [.t 8, .c (.int .i64 0)], none⟩,
  ⟨(some 10), .mov, [.t 9], none⟩,
  ⟨(some 11), .mov, [.t 1], (some (10, false))⟩,
  ⟨(some 12), .call fn_disk_Disk_Sync, [.t 11, .c (.string (mkS [97]))], (some (10, false))⟩,
  ⟨(some 13), .bin .neq, [.t 12, .c (.int .i64 0)], (some (10, false))⟩,
  ⟨(some 14), .pick, [.t 10, .c (.bool true), .t 13], none⟩,
  ⟨(some 15), .mov, [.t 14], none⟩,
  ⟨(some 16), .mov, [.t 1], (some (15, false))⟩,
  ⟨(some 17), .bslice 1 1 (.v (.int .u8 0)) [0], [.c (.int .u8 122)], (some (15, false))⟩,
  ⟨(some 18), .convM, [.t 17], (some (15, false))⟩,
  ⟨(some 19), .call fn_disk_Disk_Append, [.t 16, .c (.string (mkS [97])), .t 18], (some (15, false))⟩,
  ⟨(some 20), .bin .neq, [.t 19, .c (.int .i64 0)], (some (15, false))⟩,
  ⟨(some 21), .pick, [.t 15, .c (.bool true), .t 20], none⟩]
def c_l16_alive_r2 : List COper := a_l16_alive_r2
instance : Reg c_l16_alive_r2 a_l16_alive_r2 17 := ⟨rfl, rfl⟩
@[simp] def a_l16_alive_r3 : List COper := [
  ⟨(some 0), .mov, [.c (.bool false)], none⟩]
def c_l16_alive_r3 : List COper := a_l16_alive_r3
instance : Reg c_l16_alive_r3 a_l16_alive_r3 1 := ⟨rfl, rfl⟩
@[simp] def a_l16_alive_r4 : List COper := [
  ⟨(some 22), .mov, [.t 1], none⟩,
  ⟨(some 23), .call fn_disk_Disk_Off, [.t 22, .c (.int .i64 0)], none⟩]
def c_l16_alive_r4 : List COper := a_l16_alive_r4
instance : Reg c_l16_alive_r4 a_l16_alive_r4 2 := ⟨rfl, rfl⟩
@[simp] def a_l16_alive_r5 : List COper := [
  ⟨(some 24), .mov, [.t 1], none⟩,
  ⟨(some 25), .call fn_disk_Disk_On, [.t 24], none⟩]
def c_l16_alive_r5 : List COper := a_l16_alive_r5
instance : Reg c_l16_alive_r5 a_l16_alive_r5 2 := ⟨rfl, rfl⟩
@[simp] def a_l16_alive_r6 : List COper := [
  ⟨(some 27), .mov, [.t 1], none⟩,
  ⟨(some 28), .call fn_disk_Disk_Read, [.t 27, .c (.string (mkS [97]))], none⟩,
  ⟨(some 26), .mov, [.t 28], none⟩,
  ⟨(some 29), .ext 0, [.t 26], none⟩,
  ⟨(some 30), .ext 1, [.t 26], none⟩,
  ⟨(some 2), .mov, [.t 29], none⟩,
  ⟨(some 3), .mov, [.t 30], none⟩]
def c_l16_alive_r6 : List COper := a_l16_alive_r6
instance : Reg c_l16_alive_r6 a_l16_alive_r6 7 := ⟨rfl, rfl⟩
@[simp] def a_l16_alive_r7 : List COper := [
  ⟨(some 31), .mov, [.t 2], none⟩,
  ⟨(some 32), .convS, [.t 31], none⟩,
  ⟨(some 33), .bin .eql, [.t 32, .c (.string (mkS [120, 121]))], none⟩,
  ⟨(some 34), .mov, [.t 33], none⟩,
  ⟨(some 35), .mov, [.t 3], (some (34, true))⟩,
  ⟨(some 36), .bin .eql, [.t 35, .c (.int .i64 0)], (some (34, true))⟩,
  ⟨(some 37), .pick, [.t 34, .t 36, .c (.bool false)], none⟩,
  ⟨(some 0), .mov, [.t 37], none⟩]
def c_l16_alive_r7 : List COper := a_l16_alive_r7
instance : Reg c_l16_alive_r7 a_l16_alive_r7 8 := ⟨rfl, rfl⟩
@[simp] def c_l16_alive : CCode :=
  .seq (.region c_l16_alive_r0 none []) (.seq (.region c_l16_alive_r1 none [1]) (.seq (.seq (.region c_l16_alive_r2 none [1, 21]) (.cond (.t 21) (.seq (.region c_l16_alive_r3 none [0]) (.ret)) (.skip))) (.seq (.region c_l16_alive_r4 none [1]) (.seq (.region c_l16_alive_r5 none [1]) (.seq (.region c_l16_alive_r6 none [2, 3]) (.seq (.region c_l16_alive_r7 none [0]) (.ret)))))))
@[simp] def R_l16_alive : List CRes := [.tmp 0]
theorem k_l16_alive : chkFn Try.prog fn_l16_alive c_l16_alive R_l16_alive 0 = true := by kernel_rfl
/-! wapentake/disk.New -/
@[simp] def a_disk_New_r0 : List COper := [
  ⟨(some 0), .mov, [.c (.pointer none)], none⟩]
def c_disk_New_r0 : List COper := a_disk_New_r0
instance : Reg c_disk_New_r0 a_disk_New_r0 1 := ⟨rfl, rfl⟩
@[simp] def a_disk_New_r1 : List COper := [
  ⟨(some 1), .mkmap false 1 false 1, [], none⟩,
  ⟨(some 2), .build [.v (.map none), .v (.bool false), .v (.int .i64 0), .v (.int .i64 0), .v (.int .i64 0)] [0], [.t 1], none⟩,
  ⟨(some 3), .box, [.t 2], none⟩,
  ⟨(some 0), .mov, [.t 3], none⟩]
def c_disk_New_r1 : List COper := a_disk_New_r1
instance : Reg c_disk_New_r1 a_disk_New_r1 4 := ⟨rfl, rfl⟩
@[simp] def c_disk_New : CCode :=
  .seq (.region c_disk_New_r0 none []) (.seq (.region c_disk_New_r1 none [0]) (.ret))
@[simp] def R_disk_New : List CRes := [.tmp 0]
theorem k_disk_New : chkFn Try.prog fn_disk_New c_disk_New R_disk_New 0 = true := by kernel_rfl
/-! (*wapentake/disk.Disk).Append -/
@[simp] def a_disk_Disk_Append_r0 : List COper := [
  ⟨(some 6), .mov, [.c (.int .i64 0)], none⟩]
def c_disk_Disk_Append_r0 : List COper := a_disk_Disk_Append_r0
instance : Reg c_disk_Disk_Append_r0 a_disk_Disk_Append_r0 1 := ⟨rfl, rfl⟩
@[simp] def a_disk_Disk_Append_r1 : List COper := [
  ⟨(some 9), .mov, [.t 0], none⟩,
  ⟨(some 10), .eqp true, [.t 9, .c (.pointer none)], none⟩,
  ⟨(some 11), .mov, [.t 10], none⟩,
  ⟨(some 12), .mov, [.t 0], (some (11, true))⟩,
  ⟨(some 13), .nilc, [.t 12], (some (11, true))⟩,
  ⟨(some 14), .faddr 1 1 false, [.t 13], (some (11, true))⟩,
  ⟨(some 15), .load false 1, [.t 14], (some (11, true))⟩,
  ⟨(some 16), .not, [.t 15], (some (11, true))⟩,
  ⟨(some 17), .pick, [.t 11, .t 16, .c (.bool false)], none⟩,
  ⟨(some 18), .mov, [.t 17], none⟩,
  ⟨(some 19), .mov, [.t 0], (some (18, true))⟩,
  ⟨(some 20), .call fn_disk_Disk_size, [.t 19], (some (18, true))⟩,
  ⟨(some 21), .mov, [.t 2], (some (18, true))⟩,
  ⟨(some 22), .len, [.t 21], (some (18, true))⟩,
  ⟨(some 23), .bin .add, [.t 20, .t 22], (some (18, true))⟩,
  ⟨(some 24), .bin .gtr, [.t 23, .c (.int .i64 4194304)], (some (18, true))⟩,
  ⟨(some 25), .pick, [.t 18, .t 24, .c (.bool false)], none⟩]
def c_disk_Disk_Append_r1 : List COper := a_disk_Disk_Append_r1
instance : Reg c_disk_Disk_Append_r1 a_disk_Disk_Append_r1 17 := ⟨rfl, rfl⟩
@[simp] def a_disk_Disk_Append_r2 : List COper := [
  ⟨(some 6), .mov, [.c (.int .i64 20)], none⟩]
def c_disk_Disk_Append_r2 : List COper := a_disk_Disk_Append_r2
instance : Reg c_disk_Disk_Append_r2 a_disk_Disk_Append_r2 1 := ⟨rfl, rfl⟩
@[simp] def a_disk_Disk_Append_r3 : List COper := [
  ⟨(some 26), .mov, [.t 0], none⟩,
  ⟨(some 27), .call fn_disk_Disk_act, [.t 26], none⟩,
  ⟨(some 7), .mov, [.t 27], none⟩]
def c_disk_Disk_Append_r3 : List COper := a_disk_Disk_Append_r3
instance : Reg c_disk_Disk_Append_r3 a_disk_Disk_Append_r3 3 := ⟨rfl, rfl⟩
@[simp] def a_disk_Disk_Append_r4 : List COper := [
  ⟨(some 28), .mov, [.t 0], none⟩,
  ⟨(some 29), .eqp false, [.t 28, .c (.pointer none)], none⟩,
  ⟨(some 30), .mov, [.t 29], none⟩,
  ⟨(some 31), .mov, [.t 0], (some (30, false))⟩,
  ⟨(some 32), .nilc, [.t 31], (some (30, false))⟩,
  ⟨(some 33), .faddr 1 1 false, [.t 32], (some (30, false))⟩,
  ⟨(some 34), .load false 1, [.t 33], (some (30, false))⟩,
  ⟨(some 35), .pick, [.t 30, .c (.bool true), .t 34], none⟩]
def c_disk_Disk_Append_r4 : List COper := a_disk_Disk_Append_r4
instance : Reg c_disk_Disk_Append_r4 a_disk_Disk_Append_r4 8 := ⟨rfl, rfl⟩
@[simp] def a_disk_Disk_Append_r5 : List COper := [
  ⟨(some 36), .mov, [.t 7], none⟩,
  ⟨(some 6), .mov, [.t 36], none⟩]
def c_disk_Disk_Append_r5 : List COper := a_disk_Disk_Append_r5
instance : Reg c_disk_Disk_Append_r5 a_disk_Disk_Append_r5 2 := ⟨rfl, rfl⟩
@[simp] def a_disk_Disk_Append_r6 : List COper := [
  ⟨(some 37), .mov, [.t 0], none⟩,
  ⟨(some 38), .mov, [.t 1], none⟩,
  ⟨(some 39), .call fn_disk_Disk_file, [.t 37, .t 38], none⟩,
  ⟨(some 8), .mov, [.t 39], none⟩]
def c_disk_Disk_Append_r6 : List COper := a_disk_Disk_Append_r6
instance : Reg c_disk_Disk_Append_r6 a_disk_Disk_Append_r6 4 := ⟨rfl, rfl⟩
@[simp] def a_disk_Disk_Append_r7 : List COper := [
  ⟨(some 40), .mov, [.t 8], none⟩,
  ⟨(some 41), .mov, [.t 8], none⟩,
  ⟨(some 42), .nilc, [.t 41], none⟩,
  ⟨(some 43), .faddr 1 1 false, [.t 42], none⟩,
  ⟨(some 44), .load false 1, [.t 43], none⟩,
  ⟨(some 45), .mov, [.t 2], none⟩,
  ⟨(some 46), .app 1 1, [.t 44, .t 45], none⟩,
  ⟨(some 47), .nilc, [.t 40], none⟩,
  ⟨(some 48), .faddr 1 1 false, [.t 47], none⟩,
  ⟨none, .store false 1, [.t 48, .t 46], none⟩]
def c_disk_Disk_Append_r7 : List COper := a_disk_Disk_Append_r7
instance : Reg c_disk_Disk_Append_r7 a_disk_Disk_Append_r7 10 := ⟨rfl, rfl⟩
@[simp] def a_disk_Disk_Append_r8 : List COper := [
  ⟨(some 49), .mov, [.t 7], none⟩,
  ⟨(some 50), .bin .neq, [.t 49, .c (.int .i64 0)], none⟩]
def c_disk_Disk_Append_r8 : List COper := a_disk_Disk_Append_r8
instance : Reg c_disk_Disk_Append_r8 a_disk_Disk_Append_r8 2 := ⟨rfl, rfl⟩
@[simp] def a_disk_Disk_Append_r9 : List COper := [
  ⟨(some 51), .mov, [.t 0], none⟩,
  ⟨(some 52), .mov, [.t 0], none⟩,
  ⟨(some 53), .nilc, [.t 52], none⟩,
  ⟨(some 54), .faddr 4 1 false, [.t 53], none⟩,
  ⟨(some 55), .load false 1, [.t 54], none⟩,
  ⟨(some 56), .call fn_disk_Disk_Off, [.t 51, .t 55], none⟩]
def c_disk_Disk_Append_r9 : List COper := a_disk_Disk_Append_r9
instance : Reg c_disk_Disk_Append_r9 a_disk_Disk_Append_r9 6 := ⟨rfl, rfl⟩
@[simp] def a_disk_Disk_Append_r10 : List COper := [
  ⟨(some 57), .mov, [.t 7], none⟩,
  ⟨(some 6), .mov, [.t 57], none⟩]
def c_disk_Disk_Append_r10 : List COper := a_disk_Disk_Append_r10
instance : Reg c_disk_Disk_Append_r10 a_disk_Disk_Append_r10 2 := ⟨rfl, rfl⟩
@[simp] def c_disk_Disk_Append : CCode :=
  .seq (.region c_disk_Disk_Append_r0 none [0, 1, 2]) (.seq (.seq (.region c_disk_Disk_Append_r1 none [0, 1, 2, 25]) (.cond (.t 25) (.seq (.region c_disk_Disk_Append_r2 none [6]) (.ret)) (.skip))) (.seq (.region c_disk_Disk_Append_r3 none [0, 1, 2, 7]) (.seq (.seq (.region c_disk_Disk_Append_r4 none [0, 1, 2, 7, 35]) (.cond (.t 35) (.seq (.region c_disk_Disk_Append_r5 none [6]) (.ret)) (.skip))) (.seq (.region c_disk_Disk_Append_r6 none [0, 2, 7, 8]) (.seq (.region c_disk_Disk_Append_r7 none [0, 7]) (.seq (.seq (.region c_disk_Disk_Append_r8 none [0, 7, 50]) (.cond (.t 50) (.region c_disk_Disk_Append_r9 none [7]) (.skip))) (.seq (.region c_disk_Disk_Append_r10 none [6]) (.ret))))))))
@[simp] def R_disk_Disk_Append : List CRes := [.tmp 6]
theorem k_disk_Disk_Append : chkFn Try.prog fn_disk_Disk_Append c_disk_Disk_Append R_disk_Disk_Append 3 = true := by kernel_rfl
/-! (*wapentake/disk.Disk).Sync -/
@[simp] def a_disk_Disk_Sync_r0 : List COper := [
  ⟨(some 4), .mov, [.c (.int .i64 0)], none⟩]
def c_disk_Disk_Sync_r0 : List COper := a_disk_Disk_Sync_r0
instance : Reg c_disk_Disk_Sync_r0 a_disk_Disk_Sync_r0 1 := ⟨rfl, rfl⟩
@[simp] def a_disk_Disk_Sync_r1 : List COper := [
  ⟨(some 7), .mov, [.t 0], none⟩,
  ⟨(some 8), .call fn_disk_Disk_act, [.t 7], none⟩,
  ⟨(some 5), .mov, [.t 8], none⟩]
def c_disk_Disk_Sync_r1 : List COper := a_disk_Disk_Sync_r1
instance : Reg c_disk_Disk_Sync_r1 a_disk_Disk_Sync_r1 3 := ⟨rfl, rfl⟩
@[simp] def a_disk_Disk_Sync_r2 : List COper := [
  ⟨(some 9), .mov, [.t 0], none⟩,
  ⟨(some 10), .eqp false, [.t 9, .c (.pointer none)], none⟩,
  ⟨(some 11), .mov, [.t 10], none⟩,
  ⟨(some 12), .mov, [.t 0], (some (11, false))⟩,
  ⟨(some 13), .nilc, [.t 12], (some (11, false))⟩,
  ⟨(some 14), .faddr 1 1 false, [.t 13], (some (11, false))⟩,
  ⟨(some 15), .load false 1, [.t 14], (some (11, false))⟩,
  ⟨(some 16), .pick, [.t 11, .c (.bool true), .t 15], none⟩]
def c_disk_Disk_Sync_r2 : List COper := a_disk_Disk_Sync_r2
instance : Reg c_disk_Disk_Sync_r2 a_disk_Disk_Sync_r2 8 := ⟨rfl, rfl⟩
@[simp] def a_disk_Disk_Sync_r3 : List COper := [
  ⟨(some 17), .mov, [.t 5], none⟩,
  ⟨(some 4), .mov, [.t 17], none⟩]
def c_disk_Disk_Sync_r3 : List COper := a_disk_Disk_Sync_r3
instance : Reg c_disk_Disk_Sync_r3 a_disk_Disk_Sync_r3 2 := ⟨rfl, rfl⟩
@[simp] def a_disk_Disk_Sync_r4 : List COper := [
  ⟨(some 18), .mov, [.t 5], none⟩,
  ⟨(some 19), .bin .neq, [.t 18, .c (.int .i64 0)], none⟩]
def c_disk_Disk_Sync_r4 : List COper := a_disk_Disk_Sync_r4
instance : Reg c_disk_Disk_Sync_r4 a_disk_Disk_Sync_r4 2 := ⟨rfl, rfl⟩
@[simp] def a_disk_Disk_Sync_r5 : List COper := [
  ⟨(some 20), .mov, [.t 0], none⟩,
  ⟨(some 21), .mov, [.t 0], none⟩,
  ⟨(some 22), .nilc, [.t 21], none⟩,
  ⟨(some 23), .faddr 4 1 false, [.t 22], none⟩,
  ⟨(some 24), .load false 1, [.t 23], none⟩,
  ⟨(some 25), .call fn_disk_Disk_Off, [.t 20, .t 24], none⟩]
def c_disk_Disk_Sync_r5 : List COper := a_disk_Disk_Sync_r5
instance : Reg c_disk_Disk_Sync_r5 a_disk_Disk_Sync_r5 6 := ⟨rfl, rfl⟩
@[simp] def a_disk_Disk_Sync_r6 : List COper := [
  ⟨(some 26), .mov, [.t 5], none⟩,
  ⟨(some 4), .mov, [.t 26], none⟩]
def c_disk_Disk_Sync_r6 : List COper := a_disk_Disk_Sync_r6
instance : Reg c_disk_Disk_Sync_r6 a_disk_Disk_Sync_r6 2 := ⟨rfl, rfl⟩
@[simp] def a_disk_Disk_Sync_r7 : List COper := [
  ⟨(some 27), .mov, [.t 0], none⟩,
  ⟨(some 28), .mov, [.t 1], none⟩,
  ⟨(some 29), .call fn_disk_Disk_file, [.t 27, .t 28], none⟩,
  ⟨(some 6), .mov, [.t 29], none⟩]
def c_disk_Disk_Sync_r7 : List COper := a_disk_Disk_Sync_r7
instance : Reg c_disk_Disk_Sync_r7 a_disk_Disk_Sync_r7 4 := ⟨rfl, rfl⟩
@[simp] def a_disk_Disk_Sync_r8 : List COper := [
  ⟨(some 30), .mov, [.t 6], none⟩,
  ⟨(some 31), .mov, [.t 6], none⟩,
  ⟨(some 32), .mov, [.t 6], none⟩,
  ⟨(some 33), .nilc, [.t 32], none⟩,
  ⟨(some 34), .faddr 0 1 false, [.t 33], none⟩,
  ⟨(some 35), .load false 1, [.t 34], none⟩,
  ⟨(some 36), .mov, [.t 6], none⟩,
  ⟨(some 37), .nilc, [.t 36], none⟩,
  ⟨(some 38), .faddr 1 1 false, [.t 37], none⟩,
  ⟨(some 39), .load false 1, [.t 38], none⟩,
  ⟨(some 40), .app 1 1, [.t 35, .t 39], none⟩,
  ⟨(some 41), .nilc, [.t 30], none⟩,
  ⟨(some 42), .faddr 0 1 false, [.t 41], none⟩,
  ⟨none, .store false 1, [.t 42, .t 40], none⟩,
  ⟨(some 43), .nilc, [.t 31], none⟩,
  ⟨(some 44), .faddr 1 1 false, [.t 43], none⟩,
  ⟨none, .store false 1, [.t 44, .c (.slice none 0 0)], none⟩]
def c_disk_Disk_Sync_r8 : List COper := a_disk_Disk_Sync_r8
instance : Reg c_disk_Disk_Sync_r8 a_disk_Disk_Sync_r8 17 := ⟨rfl, rfl⟩
@[simp] def a_disk_Disk_Sync_r9 : List COper := [
  ⟨(some 4), .mov, [.c (.int .i64 0)], none⟩]
def c_disk_Disk_Sync_r9 : List COper := a_disk_Disk_Sync_r9
instance : Reg c_disk_Disk_Sync_r9 a_disk_Disk_Sync_r9 1 := ⟨rfl, rfl⟩
@[simp] def c_disk_Disk_Sync : CCode :=
  .seq (.region c_disk_Disk_Sync_r0 none [0, 1]) (.seq (.region c_disk_Disk_Sync_r1 none [0, 1, 5]) (.seq (.seq (.region c_disk_Disk_Sync_r2 none [0, 1, 5, 16]) (.cond (.t 16) (.seq (.region c_disk_Disk_Sync_r3 none [4]) (.ret)) (.skip))) (.seq (.seq (.region c_disk_Disk_Sync_r4 none [0, 1, 5, 19]) (.cond (.t 19) (.seq (.region c_disk_Disk_Sync_r5 none [5]) (.seq (.region c_disk_Disk_Sync_r6 none [4]) (.ret))) (.skip))) (.seq (.region c_disk_Disk_Sync_r7 none [6]) (.seq (.region c_disk_Disk_Sync_r8 (some ([0, 0, 0, 4, 12, 28, 0, 64, 192, 448, 1020, 2045, 4093, 8189, 16383, 32767, 65535], [])) []) (.seq (.region c_disk_Disk_Sync_r9 none [4]) (.ret)))))))
@[simp] def R_disk_Disk_Sync : List CRes := [.tmp 4]
theorem k_disk_Disk_Sync : chkFn Try.prog fn_disk_Disk_Sync c_disk_Disk_Sync R_disk_Disk_Sync 2 = true := by kernel_rfl
/-! (*wapentake/disk.Disk).Off -/
@[simp] def a_disk_Disk_Off_r0 : List COper := [
  ⟨(some 7), .mov, [.t 0], none⟩,
  ⟨(some 8), .eqp false, [.t 7, .c (.pointer none)], none⟩,
  ⟨(some 9), .mov, [.t 8], none⟩,
  ⟨(some 10), .mov, [.t 0], (some (9, false))⟩,
  ⟨(some 11), .nilc, [.t 10], (some (9, false))⟩,
  ⟨(some 12), .faddr 1 1 false, [.t 11], (some (9, false))⟩,
  ⟨(some 13), .load false 1, [.t 12], (some (9, false))⟩,
  ⟨(some 14), .pick, [.t 9, .c (.bool true), .t 13], none⟩]
def c_disk_Disk_Off_r0 : List COper := a_disk_Disk_Off_r0
instance : Reg c_disk_Disk_Off_r0 a_disk_Disk_Off_r0 8 := ⟨rfl, rfl⟩
@[simp] def a_disk_Disk_Off_r1 : List COper := [
  ⟨(some 15), .mov, [.t 0], none⟩,
  ⟨(some 16), .nilc, [.t 15], none⟩,
  ⟨(some 17), .faddr 0 1 false, [.t 16], none⟩,
  ⟨(some 18), .load false 1, [.t 17], none⟩,
  ⟨(some 19), .mrange, [.t 18], none⟩]
def c_disk_Disk_Off_r1 : List COper := a_disk_Disk_Off_r1
instance : Reg c_disk_Disk_Off_r1 a_disk_Disk_Off_r1 5 := ⟨rfl, rfl⟩
@[simp] def a_disk_Disk_Off_r2 : List COper := [
  ⟨(some 21), .ext 0, [.t 20], none⟩]
def c_disk_Disk_Off_r2 : List COper := a_disk_Disk_Off_r2
instance : Reg c_disk_Disk_Off_r2 a_disk_Disk_Off_r2 1 := ⟨rfl, rfl⟩
@[simp] def a_disk_Disk_Off_r3 : List COper := [
  ⟨(some 23), .ext 1, [.t 22], none⟩,
  ⟨(some 5), .mov, [.t 23], none⟩]
def c_disk_Disk_Off_r3 : List COper := a_disk_Disk_Off_r3
instance : Reg c_disk_Disk_Off_r3 a_disk_Disk_Off_r3 2 := ⟨rfl, rfl⟩
@[simp] def a_disk_Disk_Off_r4 : List COper := [
  ⟨(some 24), .mov, [.t 1], none⟩,
  ⟨(some 25), .mx, [.t 24, .c (.int .i64 0)], none⟩,
  ⟨(some 26), .mov, [.t 5], none⟩,
  ⟨(some 27), .nilc, [.t 26], none⟩,
  ⟨(some 28), .faddr 1 1 false, [.t 27], none⟩,
  ⟨(some 29), .load false 1, [.t 28], none⟩,
  ⟨(some 30), .len, [.t 29], none⟩,
  ⟨(some 31), .mn, [.t 25, .t 30], none⟩,
  ⟨(some 6), .mov, [.t 31], none⟩]
def c_disk_Disk_Off_r4 : List COper := a_disk_Disk_Off_r4
instance : Reg c_disk_Disk_Off_r4 a_disk_Disk_Off_r4 9 := ⟨rfl, rfl⟩
@[simp] def a_disk_Disk_Off_r5 : List COper := [
  ⟨(some 32), .mov, [.t 5], none⟩,
  ⟨(some 33), .mov, [.t 5], none⟩,
  ⟨(some 34), .mov, [.t 5], none⟩,
  ⟨(some 35), .nilc, [.t 34], none⟩,
  ⟨(some 36), .faddr 0 1 false, [.t 35], none⟩,
  ⟨(some 37), .load false 1, [.t 36], none⟩,
  ⟨(some 38), .mov, [.t 5], none⟩,
  ⟨(some 39), .nilc, [.t 38], none⟩,
  ⟨(some 40), .faddr 1 1 false, [.t 39], none⟩,
  ⟨(some 41), .load false 1, [.t 40], none⟩,
  ⟨(some 42), .mov, [.t 6], none⟩,
  ⟨(some 43), .slice 1 false true, [.t 41, .t 42], none⟩,
  ⟨(some 44), .app 1 1, [.t 37, .t 43], none⟩,
  ⟨(some 45), .nilc, [.t 32], none⟩,
  ⟨(some 46), .faddr 0 1 false, [.t 45], none⟩,
  ⟨none, .store false 1, [.t 46, .t 44], none⟩,
  ⟨(some 47), .nilc, [.t 33], none⟩,
  ⟨(some 48), .faddr 1 1 false, [.t 47], none⟩,
  ⟨none, .store false 1, [.t 48, .c (.slice none 0 0)], none⟩]
def c_disk_Disk_Off_r5 : List COper := a_disk_Disk_Off_r5
instance : Reg c_disk_Disk_Off_r5 a_disk_Disk_Off_r5 19 := ⟨rfl, rfl⟩
@[simp] def a_disk_Disk_Off_r6 : List COper := [
  ⟨(some 49), .mov, [.t 0], none⟩,
  ⟨(some 50), .mov, [.t 0], none⟩,
  ⟨(some 51), .nilc, [.t 49], none⟩,
  ⟨(some 52), .faddr 1 1 false, [.t 51], none⟩,
  ⟨none, .store false 1, [.t 52, .c (.bool true)], none⟩,
  ⟨(some 53), .nilc, [.t 50], none⟩,
  ⟨(some 54), .faddr 3 1 false, [.t 53], none⟩,
  ⟨none, .store false 1, [.t 54, .c (.int .i64 0)], none⟩]
def c_disk_Disk_Off_r6 : List COper := a_disk_Disk_Off_r6
instance : Reg c_disk_Disk_Off_r6 a_disk_Disk_Off_r6 8 := ⟨rfl, rfl⟩
@[simp] def c_disk_Disk_Off : CCode :=
  .seq (.seq (.region c_disk_Disk_Off_r0 none [0, 1, 14]) (.cond (.t 14) (.ret) (.skip))) (.seq (.seq (.region c_disk_Disk_Off_r1 none [0, 1, 19]) (.block 0 (.loop (.seq (.head .next 20 (.t 19) c_disk_Disk_Off_r2 [0, 1, 19, 21]) (.seq (.cond (.t 21) (.skip) (.exit 0)) (.block 1 (.seq (.head .entry 22 (.t 19) c_disk_Disk_Off_r3 [0, 1, 5, 19]) (.seq (.region c_disk_Disk_Off_r4 none [0, 1, 5, 6, 19]) (.region c_disk_Disk_Off_r5 (some ([0, 0, 0, 4, 12, 28, 0, 64, 192, 448, 0, 1984, 4092, 8189, 16381, 32765, 65535, 131071, 262143], [])) [0, 1, 19]))))))))) (.region c_disk_Disk_Off_r6 none []))
@[simp] def R_disk_Disk_Off : List CRes := []
theorem k_disk_Disk_Off : chkFn Try.prog fn_disk_Disk_Off c_disk_Disk_Off R_disk_Disk_Off 2 = true := by kernel_rfl
/-! (*wapentake/disk.Disk).On -/
@[simp] def a_disk_Disk_On_r0 : List COper := [
  ⟨(some 2), .mov, [.t 0], none⟩,
  ⟨(some 3), .eqp true, [.t 2, .c (.pointer none)], none⟩]
def c_disk_Disk_On_r0 : List COper := a_disk_Disk_On_r0
instance : Reg c_disk_Disk_On_r0 a_disk_Disk_On_r0 2 := ⟨rfl, rfl⟩
@[simp] def a_disk_Disk_On_r1 : List COper := [
  ⟨(some 4), .mov, [.t 0], none⟩,
  ⟨(some 5), .nilc, [.t 4], none⟩,
  ⟨(some 6), .faddr 1 1 false, [.t 5], none⟩,
  ⟨none, .store false 1, [.t 6, .c (.bool false)], none⟩]
def c_disk_Disk_On_r1 : List COper := a_disk_Disk_On_r1
instance : Reg c_disk_Disk_On_r1 a_disk_Disk_On_r1 4 := ⟨rfl, rfl⟩
@[simp] def c_disk_Disk_On : CCode :=
  .seq (.region c_disk_Disk_On_r0 none [0, 3]) (.cond (.t 3) (.region c_disk_Disk_On_r1 none []) (.skip))
@[simp] def R_disk_Disk_On : List CRes := []
theorem k_disk_Disk_On : chkFn Try.prog fn_disk_Disk_On c_disk_Disk_On R_disk_Disk_On 1 = true := by kernel_rfl
/-! (*wapentake/disk.Disk).Read -/
@[simp] def a_disk_Disk_Read_r0 : List COper := [
  ⟨(some 4), .mov, [.c (.slice none 0 0)], none⟩,
  ⟨(some 5), .mov, [.c (.int .i64 0)], none⟩]
def c_disk_Disk_Read_r0 : List COper := a_disk_Disk_Read_r0
instance : Reg c_disk_Disk_Read_r0 a_disk_Disk_Read_r0 2 := ⟨rfl, rfl⟩
@[simp] def a_disk_Disk_Read_r1 : List COper := [
  ⟨(some 8), .mov, [.t 0], none⟩,
  ⟨(some 9), .eqp false, [.t 8, .c (.pointer none)], none⟩,
  ⟨(some 7), .mov, [.t 9], none⟩]
def c_disk_Disk_Read_r1 : List COper := a_disk_Disk_Read_r1
instance : Reg c_disk_Disk_Read_r1 a_disk_Disk_Read_r1 3 := ⟨rfl, rfl⟩
@[simp] def a_disk_Disk_Read_r2 : List COper := [
  ⟨(some 4), .mov, [.c (.slice none 0 0)], none⟩,
  ⟨(some 5), .mov, [.c (.int .i64 2)], none⟩]
def c_disk_Disk_Read_r2 : List COper := a_disk_Disk_Read_r2
instance : Reg c_disk_Disk_Read_r2 a_disk_Disk_Read_r2 2 := ⟨rfl, rfl⟩
@[simp] def a_disk_Disk_Read_r3 : List COper := [
  ⟨(some 11), .mov, [.t 0], none⟩,
  ⟨(some 12), .nilc, [.t 11], none⟩,
  ⟨(some 13), .faddr 1 1 false, [.t 12], none⟩,
  ⟨(some 14), .load false 1, [.t 13], none⟩,
  ⟨(some 10), .mov, [.t 14], none⟩]
def c_disk_Disk_Read_r3 : List COper := a_disk_Disk_Read_r3
instance : Reg c_disk_Disk_Read_r3 a_disk_Disk_Read_r3 5 := ⟨rfl, rfl⟩
@[simp] def a_disk_Disk_Read_r4 : List COper := [
  ⟨(some 4), .mov, [.c (.slice none 0 0)], none⟩,
  ⟨(some 5), .mov, [.c (.int .i64 21)], none⟩]
def c_disk_Disk_Read_r4 : List COper := a_disk_Disk_Read_r4
instance : Reg c_disk_Disk_Read_r4 a_disk_Disk_Read_r4 2 := ⟨rfl, rfl⟩
@[simp] def a_disk_Disk_Read_r5 : List COper := [
  ⟨(some 16), .mov, [.t 0], none⟩,
  ⟨(some 17), .nilc, [.t 16], none⟩,
  ⟨(some 18), .faddr 0 1 false, [.t 17], none⟩,
  ⟨(some 19), .load false 1, [.t 18], none⟩,
  ⟨(some 20), .mov, [.t 1], none⟩,
  ⟨(some 21), .mlook (.str) (.v (.pointer none)) false, [.t 19, .t 20], none⟩,
  ⟨(some 22), .eqp false, [.t 21, .c (.pointer none)], none⟩,
  ⟨(some 15), .mov, [.t 22], none⟩]
def c_disk_Disk_Read_r5 : List COper := a_disk_Disk_Read_r5
instance : Reg c_disk_Disk_Read_r5 a_disk_Disk_Read_r5 8 := ⟨rfl, rfl⟩
@[simp] def a_disk_Disk_Read_r6 : List COper := [
  ⟨(some 4), .mov, [.c (.slice none 0 0)], none⟩,
  ⟨(some 5), .mov, [.c (.int .i64 7)], none⟩]
def c_disk_Disk_Read_r6 : List COper := a_disk_Disk_Read_r6
instance : Reg c_disk_Disk_Read_r6 a_disk_Disk_Read_r6 2 := ⟨rfl, rfl⟩
@[simp] def a_disk_Disk_Read_r7 : List COper := [
  ⟨(some 23), .mov, [.t 0], none⟩,
  ⟨(some 24), .nilc, [.t 23], none⟩,
  ⟨(some 25), .faddr 0 1 false, [.t 24], none⟩,
  ⟨(some 26), .load false 1, [.t 25], none⟩,
  ⟨(some 27), .mov, [.t 1], none⟩,
  ⟨(some 28), .mlook (.str) (.v (.pointer none)) false, [.t 26, .t 27], none⟩,
  ⟨(some 6), .mov, [.t 28], none⟩]
def c_disk_Disk_Read_r7 : List COper := a_disk_Disk_Read_r7
instance : Reg c_disk_Disk_Read_r7 a_disk_Disk_Read_r7 7 := ⟨rfl, rfl⟩
@[simp] def a_disk_Disk_Read_r8 : List COper := [
  ⟨(some 29), .bslice 1 0 (.v (.int .u8 0)) [], [], none⟩,
  ⟨(some 30), .mov, [.t 6], none⟩,
  ⟨(some 31), .nilc, [.t 30], none⟩,
  ⟨(some 32), .faddr 0 1 false, [.t 31], none⟩,
  ⟨(some 33), .load false 1, [.t 32], none⟩,
  ⟨(some 34), .app 1 1, [.t 29, .t 33], none⟩,
  ⟨(some 35), .mov, [.t 6], none⟩,
  ⟨(some 36), .nilc, [.t 35], none⟩,
  ⟨(some 37), .faddr 1 1 false, [.t 36], none⟩,
  ⟨(some 38), .load false 1, [.t 37], none⟩,
  ⟨(some 39), .app 1 1, [.t 34, .t 38], none⟩,
  ⟨(some 4), .mov, [.t 39], none⟩,
  ⟨(some 5), .mov, [.c (.int .i64 0)], none⟩]
def c_disk_Disk_Read_r8 : List COper := a_disk_Disk_Read_r8
instance : Reg c_disk_Disk_Read_r8 a_disk_Disk_Read_r8 13 := ⟨rfl, rfl⟩
@[simp] def c_disk_Disk_Read : CCode :=
  .seq (.region c_disk_Disk_Read_r0 none [0, 1]) (.seq (.block 0 (.seq (.region c_disk_Disk_Read_r1 none [0, 1, 7]) (.cond (.t 7) (.seq (.region c_disk_Disk_Read_r2 none [4, 5]) (.ret)) (.seq (.region c_disk_Disk_Read_r3 none [0, 1, 10]) (.cond (.t 10) (.seq (.region c_disk_Disk_Read_r4 none [4, 5]) (.ret)) (.seq (.region c_disk_Disk_Read_r5 none [0, 1, 15]) (.cond (.t 15) (.seq (.region c_disk_Disk_Read_r6 none [4, 5]) (.ret)) (.skip)))))))) (.seq (.region c_disk_Disk_Read_r7 none [6]) (.seq (.region c_disk_Disk_Read_r8 (some ([0, 0, 2, 6, 14, 31, 0, 64, 192, 448, 1023, 2047, 4095], [(0, 4), (0, 9), (5, 9)])) [4, 5]) (.ret))))
@[simp] def R_disk_Disk_Read : List CRes := [.tmp 4, .tmp 5]
theorem k_disk_Disk_Read : chkFn Try.prog fn_disk_Disk_Read c_disk_Disk_Read R_disk_Disk_Read 2 = true := by kernel_rfl
/-! (*wapentake/disk.Disk).Install -/
@[simp] def a_disk_Disk_Install_r0 : List COper := [
  ⟨(some 6), .mov, [.c (.int .i64 0)], none⟩]
def c_disk_Disk_Install_r0 : List COper := a_disk_Disk_Install_r0
instance : Reg c_disk_Disk_Install_r0 a_disk_Disk_Install_r0 1 := ⟨rfl, rfl⟩
@[simp] def a_disk_Disk_Install_r1 : List COper := [
  ⟨(some 8), .mov, [.t 0], none⟩,
  ⟨(some 9), .eqp true, [.t 8, .c (.pointer none)], none⟩,
  ⟨(some 10), .mov, [.t 9], none⟩,
  ⟨(some 11), .mov, [.t 0], (some (10, true))⟩,
  ⟨(some 12), .nilc, [.t 11], (some (10, true))⟩,
  ⟨(some 13), .faddr 1 1 false, [.t 12], (some (10, true))⟩,
  ⟨(some 14), .load false 1, [.t 13], (some (10, true))⟩,
  ⟨(some 15), .not, [.t 14], (some (10, true))⟩,
  ⟨(some 16), .pick, [.t 10, .t 15, .c (.bool false)], none⟩,
  ⟨(some 17), .mov, [.t 16], none⟩,
  ⟨(some 18), .mov, [.t 0], (some (17, true))⟩,
  ⟨(some 19), .call fn_disk_Disk_size, [.t 18], (some (17, true))⟩,
  ⟨(some 20), .mov, [.t 2], (some (17, true))⟩,
  ⟨(some 21), .len, [.t 20], (some (17, true))⟩,
  ⟨(some 22), .bin .add, [.t 19, .t 21], (some (17, true))⟩,
  ⟨(some 23), .bin .gtr, [.t 22, .c (.int .i64 4194304)], (some (17, true))⟩,
  ⟨(some 24), .pick, [.t 17, .t 23, .c (.bool false)], none⟩]
def c_disk_Disk_Install_r1 : List COper := a_disk_Disk_Install_r1
instance : Reg c_disk_Disk_Install_r1 a_disk_Disk_Install_r1 17 := ⟨rfl, rfl⟩
@[simp] def a_disk_Disk_Install_r2 : List COper := [
  ⟨(some 6), .mov, [.c (.int .i64 20)], none⟩]
def c_disk_Disk_Install_r2 : List COper := a_disk_Disk_Install_r2
instance : Reg c_disk_Disk_Install_r2 a_disk_Disk_Install_r2 1 := ⟨rfl, rfl⟩
@[simp] def a_disk_Disk_Install_r3 : List COper := [
  ⟨(some 25), .mov, [.t 0], none⟩,
  ⟨(some 26), .call fn_disk_Disk_act, [.t 25], none⟩,
  ⟨(some 7), .mov, [.t 26], none⟩]
def c_disk_Disk_Install_r3 : List COper := a_disk_Disk_Install_r3
instance : Reg c_disk_Disk_Install_r3 a_disk_Disk_Install_r3 3 := ⟨rfl, rfl⟩
@[simp] def a_disk_Disk_Install_r4 : List COper := [
  ⟨(some 27), .mov, [.t 0], none⟩,
  ⟨(some 28), .eqp false, [.t 27, .c (.pointer none)], none⟩,
  ⟨(some 29), .mov, [.t 28], none⟩,
  ⟨(some 30), .mov, [.t 0], (some (29, false))⟩,
  ⟨(some 31), .nilc, [.t 30], (some (29, false))⟩,
  ⟨(some 32), .faddr 1 1 false, [.t 31], (some (29, false))⟩,
  ⟨(some 33), .load false 1, [.t 32], (some (29, false))⟩,
  ⟨(some 34), .pick, [.t 29, .c (.bool true), .t 33], none⟩]
def c_disk_Disk_Install_r4 : List COper := a_disk_Disk_Install_r4
instance : Reg c_disk_Disk_Install_r4 a_disk_Disk_Install_r4 8 := ⟨rfl, rfl⟩
@[simp] def a_disk_Disk_Install_r5 : List COper := [
  ⟨(some 35), .mov, [.t 7], none⟩,
  ⟨(some 6), .mov, [.t 35], none⟩]
def c_disk_Disk_Install_r5 : List COper := a_disk_Disk_Install_r5
instance : Reg c_disk_Disk_Install_r5 a_disk_Disk_Install_r5 2 := ⟨rfl, rfl⟩
@[simp] def a_disk_Disk_Install_r6 : List COper := [
  ⟨(some 36), .mov, [.t 7], none⟩,
  ⟨(some 37), .bin .neq, [.t 36, .c (.int .i64 0)], none⟩]
def c_disk_Disk_Install_r6 : List COper := a_disk_Disk_Install_r6
instance : Reg c_disk_Disk_Install_r6 a_disk_Disk_Install_r6 2 := ⟨rfl, rfl⟩
@[simp] def a_disk_Disk_Install_r7 : List COper := [
  ⟨(some 38), .mov, [.t 0], none⟩,
  ⟨(some 39), .mov, [.t 0], none⟩,
  ⟨(some 40), .nilc, [.t 39], none⟩,
  ⟨(some 41), .faddr 4 1 false, [.t 40], none⟩,
  ⟨(some 42), .load false 1, [.t 41], none⟩,
  ⟨(some 43), .call fn_disk_Disk_Off, [.t 38, .t 42], none⟩]
def c_disk_Disk_Install_r7 : List COper := a_disk_Disk_Install_r7
instance : Reg c_disk_Disk_Install_r7 a_disk_Disk_Install_r7 6 := ⟨rfl, rfl⟩
@[simp] def a_disk_Disk_Install_r8 : List COper := [
  ⟨(some 44), .mov, [.t 7], none⟩,
  ⟨(some 6), .mov, [.t 44], none⟩]
def c_disk_Disk_Install_r8 : List COper := a_disk_Disk_Install_r8
instance : Reg c_disk_Disk_Install_r8 a_disk_Disk_Install_r8 2 := ⟨rfl, rfl⟩
@[simp] def a_disk_Disk_Install_r9 : List COper := [
  ⟨(some 45), .mov, [.t 0], none⟩,
  ⟨(some 46), .nilc, [.t 45], none⟩,
  ⟨(some 47), .faddr 0 1 false, [.t 46], none⟩,
  ⟨(some 48), .load false 1, [.t 47], none⟩,
  ⟨(some 49), .mov, [.t 1], none⟩,
  ⟨(some 50), .bslice 1 0 (.v (.int .u8 0)) [], [], none⟩,
  ⟨(some 51), .mov, [.t 2], none⟩,
  ⟨(some 52), .app 1 1, [.t 50, .t 51], none⟩,
  ⟨(some 53), .build [.v (.slice none 0 0), .v (.slice none 0 0)] [0], [.t 52], none⟩,
  ⟨(some 54), .box, [.t 53], none⟩,
  ⟨none, .mput (.str), [.t 48, .t 49, .t 54], none⟩]
def c_disk_Disk_Install_r9 : List COper := a_disk_Disk_Install_r9
instance : Reg c_disk_Disk_Install_r9 a_disk_Disk_Install_r9 11 := ⟨rfl, rfl⟩
@[simp] def a_disk_Disk_Install_r10 : List COper := [
  ⟨(some 6), .mov, [.c (.int .i64 0)], none⟩]
def c_disk_Disk_Install_r10 : List COper := a_disk_Disk_Install_r10
instance : Reg c_disk_Disk_Install_r10 a_disk_Disk_Install_r10 1 := ⟨rfl, rfl⟩
@[simp] def c_disk_Disk_Install : CCode :=
  .seq (.region c_disk_Disk_Install_r0 none [0, 1, 2]) (.seq (.seq (.region c_disk_Disk_Install_r1 none [0, 1, 2, 24]) (.cond (.t 24) (.seq (.region c_disk_Disk_Install_r2 none [6]) (.ret)) (.skip))) (.seq (.region c_disk_Disk_Install_r3 none [0, 1, 2, 7]) (.seq (.seq (.region c_disk_Disk_Install_r4 none [0, 1, 2, 7, 34]) (.cond (.t 34) (.seq (.region c_disk_Disk_Install_r5 none [6]) (.ret)) (.skip))) (.seq (.seq (.region c_disk_Disk_Install_r6 none [0, 1, 2, 7, 37]) (.cond (.t 37) (.seq (.region c_disk_Disk_Install_r7 none [7]) (.seq (.region c_disk_Disk_Install_r8 none [6]) (.ret))) (.skip))) (.seq (.region c_disk_Disk_Install_r9 (some ([0, 1, 3, 7, 0, 0, 0, 96, 224, 480, 1023], [(3, 5), (3, 7), (3, 9)])) []) (.seq (.region c_disk_Disk_Install_r10 none [6]) (.ret)))))))
@[simp] def R_disk_Disk_Install : List CRes := [.tmp 6]
theorem k_disk_Disk_Install : chkFn Try.prog fn_disk_Disk_Install c_disk_Disk_Install R_disk_Disk_Install 3 = true := by kernel_rfl
/-! (*wapentake/disk.Disk).Names -/
@[simp] def a_disk_Disk_Names_r0 : List COper := [
  ⟨(some 2), .mov, [.c (.slice none 0 0)], none⟩]
def c_disk_Disk_Names_r0 : List COper := a_disk_Disk_Names_r0
instance : Reg c_disk_Disk_Names_r0 a_disk_Disk_Names_r0 1 := ⟨rfl, rfl⟩
@[simp] def a_disk_Disk_Names_r1 : List COper := [
  ⟨(some 3), .mov, [.t 0], none⟩,
  ⟨(some 4), .eqp false, [.t 3, .c (.pointer none)], none⟩,
  ⟨(some 5), .mov, [.t 4], none⟩,
  ⟨(some 6), .mov, [.t 0], (some (5, false))⟩,
  ⟨(some 7), .nilc, [.t 6], (some (5, false))⟩,
  ⟨(some 8), .faddr 1 1 false, [.t 7], (some (5, false))⟩,
  ⟨(some 9), .load false 1, [.t 8], (some (5, false))⟩,
  ⟨(some 10), .pick, [.t 5, .c (.bool true), .t 9], none⟩]
def c_disk_Disk_Names_r1 : List COper := a_disk_Disk_Names_r1
instance : Reg c_disk_Disk_Names_r1 a_disk_Disk_Names_r1 8 := ⟨rfl, rfl⟩
@[simp] def a_disk_Disk_Names_r2 : List COper := [
  ⟨(some 2), .mov, [.c (.slice none 0 0)], none⟩]
def c_disk_Disk_Names_r2 : List COper := a_disk_Disk_Names_r2
instance : Reg c_disk_Disk_Names_r2 a_disk_Disk_Names_r2 1 := ⟨rfl, rfl⟩
@[simp] def a_disk_Disk_Names_r3 : List COper := [
  ⟨(some 11), .mov, [.t 0], none⟩,
  ⟨(some 12), .nilc, [.t 11], none⟩,
  ⟨(some 13), .faddr 0 1 false, [.t 12], none⟩,
  ⟨(some 14), .load false 1, [.t 13], none⟩,
  ⟨(some 15), .call fn_maps_Keys, [.t 14], none⟩,
  ⟨(some 16), .call fn_slices_Sorted, [.t 15], none⟩,
  ⟨(some 2), .mov, [.t 16], none⟩]
def c_disk_Disk_Names_r3 : List COper := a_disk_Disk_Names_r3
instance : Reg c_disk_Disk_Names_r3 a_disk_Disk_Names_r3 7 := ⟨rfl, rfl⟩
@[simp] def c_disk_Disk_Names : CCode :=
  .seq (.region c_disk_Disk_Names_r0 none [0]) (.seq (.seq (.region c_disk_Disk_Names_r1 none [0, 10]) (.cond (.t 10) (.seq (.region c_disk_Disk_Names_r2 none [2]) (.ret)) (.skip))) (.seq (.region c_disk_Disk_Names_r3 none [2]) (.ret)))
@[simp] def R_disk_Disk_Names : List CRes := [.tmp 2]
theorem k_disk_Disk_Names : chkFn Try.prog fn_disk_Disk_Names c_disk_Disk_Names R_disk_Disk_Names 1 = true := by kernel_rfl
/-! (*wapentake/disk.Disk).size -/
@[simp] def a_disk_Disk_size_r0 : List COper := [
  ⟨(some 2), .mov, [.c (.int .i64 0)], none⟩]
def c_disk_Disk_size_r0 : List COper := a_disk_Disk_size_r0
instance : Reg c_disk_Disk_size_r0 a_disk_Disk_size_r0 1 := ⟨rfl, rfl⟩
@[simp] def a_disk_Disk_size_r1 : List COper := [
  ⟨(some 3), .mov, [.c (.int .i64 0)], none⟩]
def c_disk_Disk_size_r1 : List COper := a_disk_Disk_size_r1
instance : Reg c_disk_Disk_size_r1 a_disk_Disk_size_r1 1 := ⟨rfl, rfl⟩
@[simp] def a_disk_Disk_size_r2 : List COper := [
  ⟨(some 6), .mov, [.t 0], none⟩,
  ⟨(some 7), .nilc, [.t 6], none⟩,
  ⟨(some 8), .faddr 0 1 false, [.t 7], none⟩,
  ⟨(some 9), .load false 1, [.t 8], none⟩,
  ⟨(some 10), .mrange, [.t 9], none⟩]
def c_disk_Disk_size_r2 : List COper := a_disk_Disk_size_r2
instance : Reg c_disk_Disk_size_r2 a_disk_Disk_size_r2 5 := ⟨rfl, rfl⟩
@[simp] def a_disk_Disk_size_r3 : List COper := [
  ⟨(some 12), .ext 0, [.t 11], none⟩]
def c_disk_Disk_size_r3 : List COper := a_disk_Disk_size_r3
instance : Reg c_disk_Disk_size_r3 a_disk_Disk_size_r3 1 := ⟨rfl, rfl⟩
@[simp] def a_disk_Disk_size_r4 : List COper := [
  ⟨(some 14), .ext 1, [.t 13], none⟩,
  ⟨(some 5), .mov, [.t 14], none⟩]
def c_disk_Disk_size_r4 : List COper := a_disk_Disk_size_r4
instance : Reg c_disk_Disk_size_r4 a_disk_Disk_size_r4 2 := ⟨rfl, rfl⟩
@[simp] def a_disk_Disk_size_r5 : List COper := [
  ⟨(some 15), .mov, [.t 3], none⟩,
  ⟨(some 16), .mov, [.t 5], none⟩,
  ⟨(some 17), .nilc, [.t 16], none⟩,
  ⟨(some 18), .faddr 0 1 false, [.t 17], none⟩,
  ⟨(some 19), .load false 1, [.t 18], none⟩,
  ⟨(some 20), .len, [.t 19], none⟩,
  ⟨(some 21), .mov, [.t 5], none⟩,
  ⟨(some 22), .nilc, [.t 21], none⟩,
  ⟨(some 23), .faddr 1 1 false, [.t 22], none⟩,
  ⟨(some 24), .load false 1, [.t 23], none⟩,
  ⟨(some 25), .len, [.t 24], none⟩,
  ⟨(some 26), .bin .add, [.t 20, .t 25], none⟩,
  ⟨(some 27), .bin .add, [.t 15, .t 26], none⟩,
  ⟨(some 3), .mov, [.t 27], none⟩]
def c_disk_Disk_size_r5 : List COper := a_disk_Disk_size_r5
instance : Reg c_disk_Disk_size_r5 a_disk_Disk_size_r5 14 := ⟨rfl, rfl⟩
@[simp] def a_disk_Disk_size_r6 : List COper := [
  ⟨(some 28), .mov, [.t 3], none⟩,
  ⟨(some 2), .mov, [.t 28], none⟩]
def c_disk_Disk_size_r6 : List COper := a_disk_Disk_size_r6
instance : Reg c_disk_Disk_size_r6 a_disk_Disk_size_r6 2 := ⟨rfl, rfl⟩
@[simp] def c_disk_Disk_size : CCode :=
  .seq (.region c_disk_Disk_size_r0 none [0]) (.seq (.region c_disk_Disk_size_r1 none [0, 3]) (.seq (.seq (.region c_disk_Disk_size_r2 none [3, 10]) (.block 0 (.loop (.seq (.head .next 11 (.t 10) c_disk_Disk_size_r3 [3, 10, 12]) (.seq (.cond (.t 12) (.skip) (.exit 0)) (.block 1 (.seq (.head .entry 13 (.t 10) c_disk_Disk_size_r4 [3, 5, 10]) (.region c_disk_Disk_size_r5 (some ([0, 0, 2, 6, 14, 30, 0, 64, 192, 448, 960, 2046, 4095, 8191], [])) [3, 10])))))))) (.seq (.region c_disk_Disk_size_r6 none [2]) (.ret))))
@[simp] def R_disk_Disk_size : List CRes := [.tmp 2]
theorem k_disk_Disk_size : chkFn Try.prog fn_disk_Disk_size c_disk_Disk_size R_disk_Disk_size 1 = true := by kernel_rfl
/-! (*wapentake/disk.Disk).act -/
@[simp] def a_disk_Disk_act_r0 : List COper := [
  ⟨(some 2), .mov, [.c (.int .i64 0)], none⟩]
def c_disk_Disk_act_r0 : List COper := a_disk_Disk_act_r0
instance : Reg c_disk_Disk_act_r0 a_disk_Disk_act_r0 1 := ⟨rfl, rfl⟩
@[simp] def a_disk_Disk_act_r1 : List COper := [
  ⟨(some 3), .mov, [.t 0], none⟩,
  ⟨(some 4), .eqp false, [.t 3, .c (.pointer none)], none⟩]
def c_disk_Disk_act_r1 : List COper := a_disk_Disk_act_r1
instance : Reg c_disk_Disk_act_r1 a_disk_Disk_act_r1 2 := ⟨rfl, rfl⟩
@[simp] def a_disk_Disk_act_r2 : List COper := [
  ⟨(some 2), .mov, [.c (.int .i64 2)], none⟩]
def c_disk_Disk_act_r2 : List COper := a_disk_Disk_act_r2
instance : Reg c_disk_Disk_act_r2 a_disk_Disk_act_r2 1 := ⟨rfl, rfl⟩
@[simp] def a_disk_Disk_act_r3 : List COper := [
  ⟨(some 5), .mov, [.t 0], none⟩,
  ⟨(some 6), .nilc, [.t 5], none⟩,
  ⟨(some 7), .faddr 1 1 false, [.t 6], none⟩,
  ⟨(some 8), .load false 1, [.t 7], none⟩]
def c_disk_Disk_act_r3 : List COper := a_disk_Disk_act_r3
instance : Reg c_disk_Disk_act_r3 a_disk_Disk_act_r3 4 := ⟨rfl, rfl⟩
@[simp] def a_disk_Disk_act_r4 : List COper := [
  ⟨(some 2), .mov, [.c (.int .i64 21)], none⟩]
def c_disk_Disk_act_r4 : List COper := a_disk_Disk_act_r4
instance : Reg c_disk_Disk_act_r4 a_disk_Disk_act_r4 1 := ⟨rfl, rfl⟩
@[simp] def a_disk_Disk_act_r5 : List COper := [
  ⟨(some 9), .mov, [.t 0], none⟩,
  ⟨(some 10), .nilc, [.t 9], none⟩,
  ⟨(some 11), .faddr 2 1 false, [.t 10], none⟩,
  ⟨(some 12), .load false 1, [.t 11], none⟩,
  ⟨(some 13), .bin .add, [.t 12, .c (.int .i64 1)], none⟩,
  ⟨(some 14), .nilc, [.t 9], none⟩,
  ⟨(some 15), .faddr 2 1 false, [.t 14], none⟩,
  ⟨none, .store false 1, [.t 15, .t 13], none⟩]
def c_disk_Disk_act_r5 : List COper := a_disk_Disk_act_r5
instance : Reg c_disk_Disk_act_r5 a_disk_Disk_act_r5 8 := ⟨rfl, rfl⟩
@[simp] def a_disk_Disk_act_r6 : List COper := [
  ⟨(some 16), .mov, [.t 0], none⟩,
  ⟨(some 17), .nilc, [.t 16], none⟩,
  ⟨(some 18), .faddr 3 1 false, [.t 17], none⟩,
  ⟨(some 19), .load false 1, [.t 18], none⟩,
  ⟨(some 20), .bin .gtr, [.t 19, .c (.int .i64 0)], none⟩]
def c_disk_Disk_act_r6 : List COper := a_disk_Disk_act_r6
instance : Reg c_disk_Disk_act_r6 a_disk_Disk_act_r6 5 := ⟨rfl, rfl⟩
@[simp] def a_disk_Disk_act_r7 : List COper := [
  ⟨(some 21), .mov, [.t 0], none⟩,
  ⟨(some 22), .nilc, [.t 21], none⟩,
  ⟨(some 23), .faddr 3 1 false, [.t 22], none⟩,
  ⟨(some 24), .load false 1, [.t 23], none⟩,
  ⟨(some 25), .bin .sub, [.t 24, .c (.int .i64 1)], none⟩,
  ⟨(some 26), .nilc, [.t 21], none⟩,
  ⟨(some 27), .faddr 3 1 false, [.t 26], none⟩,
  ⟨none, .store false 1, [.t 27, .t 25], none⟩]
def c_disk_Disk_act_r7 : List COper := a_disk_Disk_act_r7
instance : Reg c_disk_Disk_act_r7 a_disk_Disk_act_r7 8 := ⟨rfl, rfl⟩
@[simp] def a_disk_Disk_act_r8 : List COper := [
  ⟨(some 28), .mov, [.t 0], none⟩,
  ⟨(some 29), .nilc, [.t 28], none⟩,
  ⟨(some 30), .faddr 3 1 false, [.t 29], none⟩,
  ⟨(some 31), .load false 1, [.t 30], none⟩,
  ⟨(some 32), .bin .eql, [.t 31, .c (.int .i64 0)], none⟩]
def c_disk_Disk_act_r8 : List COper := a_disk_Disk_act_r8
instance : Reg c_disk_Disk_act_r8 a_disk_Disk_act_r8 5 := ⟨rfl, rfl⟩
@[simp] def a_disk_Disk_act_r9 : List COper := [
  ⟨(some 2), .mov, [.c (.int .i64 21)], none⟩]
def c_disk_Disk_act_r9 : List COper := a_disk_Disk_act_r9
instance : Reg c_disk_Disk_act_r9 a_disk_Disk_act_r9 1 := ⟨rfl, rfl⟩
@[simp] def a_disk_Disk_act_r10 : List COper := [
  ⟨(some 2), .mov, [.c (.int .i64 0)], none⟩]
def c_disk_Disk_act_r10 : List COper := a_disk_Disk_act_r10
instance : Reg c_disk_Disk_act_r10 a_disk_Disk_act_r10 1 := ⟨rfl, rfl⟩
@[simp] def c_disk_Disk_act : CCode :=
  .seq (.region c_disk_Disk_act_r0 none [0]) (.seq (.seq (.region c_disk_Disk_act_r1 none [0, 4]) (.cond (.t 4) (.seq (.region c_disk_Disk_act_r2 none [2]) (.ret)) (.skip))) (.seq (.seq (.region c_disk_Disk_act_r3 none [0, 8]) (.cond (.t 8) (.seq (.region c_disk_Disk_act_r4 none [2]) (.ret)) (.skip))) (.seq (.region c_disk_Disk_act_r5 none [0]) (.seq (.seq (.region c_disk_Disk_act_r6 none [0, 20]) (.cond (.t 20) (.seq (.region c_disk_Disk_act_r7 none [0]) (.seq (.region c_disk_Disk_act_r8 none [32]) (.cond (.t 32) (.seq (.region c_disk_Disk_act_r9 none [2]) (.ret)) (.skip)))) (.skip))) (.seq (.region c_disk_Disk_act_r10 none [2]) (.ret))))))
@[simp] def R_disk_Disk_act : List CRes := [.tmp 2]
theorem k_disk_Disk_act : chkFn Try.prog fn_disk_Disk_act c_disk_Disk_act R_disk_Disk_act 1 = true := by kernel_rfl
/-! (*wapentake/disk.Disk).file -/
@[simp] def a_disk_Disk_file_r0 : List COper := [
  ⟨(some 4), .mov, [.c (.pointer none)], none⟩]
def c_disk_Disk_file_r0 : List COper := a_disk_Disk_file_r0
instance : Reg c_disk_Disk_file_r0 a_disk_Disk_file_r0 1 := ⟨rfl, rfl⟩
@[simp] def a_disk_Disk_file_r1 : List COper := [
  ⟨(some 5), .mov, [.t 0], none⟩,
  ⟨(some 6), .nilc, [.t 5], none⟩,
  ⟨(some 7), .faddr 0 1 false, [.t 6], none⟩,
  ⟨(some 8), .load false 1, [.t 7], none⟩,
  ⟨(some 9), .mov, [.t 1], none⟩,
  ⟨(some 10), .mlook (.str) (.v (.pointer none)) false, [.t 8, .t 9], none⟩,
  ⟨(some 11), .eqp false, [.t 10, .c (.pointer none)], none⟩]
def c_disk_Disk_file_r1 : List COper := a_disk_Disk_file_r1
instance : Reg c_disk_Disk_file_r1 a_disk_Disk_file_r1 7 := ⟨rfl, rfl⟩
@[simp] def a_disk_Disk_file_r2 : List COper := [
  ⟨(some 12), .mov, [.t 0], none⟩,
  ⟨(some 13), .nilc, [.t 12], none⟩,
  ⟨(some 14), .faddr 0 1 false, [.t 13], none⟩,
  ⟨(some 15), .load false 1, [.t 14], none⟩,
  ⟨(some 16), .mov, [.t 1], none⟩,
  ⟨(some 17), .build [.v (.slice none 0 0), .v (.slice none 0 0)] [], [], none⟩,
  ⟨(some 18), .box, [.t 17], none⟩,
  ⟨none, .mput (.str), [.t 15, .t 16, .t 18], none⟩]
def c_disk_Disk_file_r2 : List COper := a_disk_Disk_file_r2
instance : Reg c_disk_Disk_file_r2 a_disk_Disk_file_r2 8 := ⟨rfl, rfl⟩
@[simp] def a_disk_Disk_file_r3 : List COper := [
  ⟨(some 19), .mov, [.t 0], none⟩,
  ⟨(some 20), .nilc, [.t 19], none⟩,
  ⟨(some 21), .faddr 0 1 false, [.t 20], none⟩,
  ⟨(some 22), .load false 1, [.t 21], none⟩,
  ⟨(some 23), .mov, [.t 1], none⟩,
  ⟨(some 24), .mlook (.str) (.v (.pointer none)) false, [.t 22, .t 23], none⟩,
  ⟨(some 4), .mov, [.t 24], none⟩]
def c_disk_Disk_file_r3 : List COper := a_disk_Disk_file_r3
instance : Reg c_disk_Disk_file_r3 a_disk_Disk_file_r3 7 := ⟨rfl, rfl⟩
@[simp] def c_disk_Disk_file : CCode :=
  .seq (.region c_disk_Disk_file_r0 none [0, 1]) (.seq (.seq (.region c_disk_Disk_file_r1 none [0, 1, 11]) (.cond (.t 11) (.region c_disk_Disk_file_r2 none [0, 1]) (.skip))) (.seq (.region c_disk_Disk_file_r3 none [4]) (.ret)))
@[simp] def R_disk_Disk_file : List CRes := [.tmp 4]
theorem k_disk_Disk_file : chkFn Try.prog fn_disk_Disk_file c_disk_Disk_file R_disk_Disk_file 2 = true := by kernel_rfl

end Go.Proofs.Ythmnkpehifgjeaa.WL
