/- The program's functions as abstract texts, each held against the program by the kernel. -/
import Derived.Test.YtngemgmnpcaamaaBa
import Derived.Test.YtngemgmnpcaamaaChecked
namespace Go.Proofs.Ytngemgmnpcaamaa.WL
open Go
theorem mix : Try.prog.follows .mixedOrders = true := by kernel_rfl
def fn_l01_CodeKeeps : Nat := 3
def fn_l01_CodeWrites : Nat := 4
def fn_l01_CodeSizes : Nat := 5
def fn_l01_CodeReads : Nat := 6
def fn_l01_CodeStops : Nat := 7
def fn_l01_CodeBack : Nat := 8
def fn_l01_CodeOne : Nat := 9
def fn_l01_alive : Nat := 10
def fn_l01_great : Nat := 11
def fn_code_Read : Nat := 12
def fn_code_Writer_Text : Nat := 13
def fn_code_Writer_Bytes : Nat := 14
def fn_code_Reader_Digest : Nat := 15
def fn_code_Reader_Num : Nat := 16
def fn_l01_written : Nat := 17
def fn_r01_Num : Nat := 18
def fn_code_Writer_Num : Nat := 19
def fn_r01_Text : Nat := 20
def fn_code_Writer_Digest : Nat := 21
def fn_r01_Reader_Num : Nat := 22
def fn_code_Reader_Text : Nat := 23
def fn_r01_Reader_Text : Nat := 24
def fn_r01_Reader_Digest : Nat := 25
def fn_code_Reader_In : Nat := 26
def fn_r01_Reader_In : Nat := 27
def fn_code_Reader_Good : Nat := 28
def fn_r01_Reader_Good : Nat := 29
def fn_code_Reader_End : Nat := 30
def fn_r01_Reader_End : Nat := 31
def fn_code_Reader_take : Nat := 32
def fn_r01_Digest : Nat := 33
def fn_r01_Reader_Take : Nat := 34
/-! wapentake/wapentakelaw01.CodeKeeps -/
@[simp] def a_l01_CodeKeeps_r0 : List COper := [
  ⟨(some 4), .mov, [.c (.bool false)], none⟩]
def c_l01_CodeKeeps_r0 : List COper := a_l01_CodeKeeps_r0
instance : Reg c_l01_CodeKeeps_r0 a_l01_CodeKeeps_r0 1 := ⟨rfl, rfl⟩
@[simp] def a_l01_CodeKeeps_r1 : List COper := [
  ⟨(some 12), .call fn_l01_alive, [], none⟩,
  ⟨(some 13), .not, [.t 12], none⟩]
def c_l01_CodeKeeps_r1 : List COper := a_l01_CodeKeeps_r1
instance : Reg c_l01_CodeKeeps_r1 a_l01_CodeKeeps_r1 2 := ⟨rfl, rfl⟩
@[simp] def a_l01_CodeKeeps_r2 : List COper := [
  ⟨(some 4), .mov, [.c (.bool false)], none⟩]
def c_l01_CodeKeeps_r2 : List COper := a_l01_CodeKeeps_r2
instance : Reg c_l01_CodeKeeps_r2 a_l01_CodeKeeps_r2 1 := ⟨rfl, rfl⟩
@[simp] def a_l01_CodeKeeps_r3 : List COper := [
  ⟨(some 14), .mov, [.t 0], none⟩,
  ⟨(some 15), .len, [.t 14], none⟩,
  ⟨(some 16), .bin .gtr, [.t 15, .c (.int .i64 16384)], none⟩,
  ⟨(some 17), .mov, [.t 16], none⟩,
  ⟨(some 18), .mov, [.t 1], (some (17, false))⟩,
  ⟨(some 19), .call fn_l01_great, [.t 18], (some (17, false))⟩,
  ⟨(some 20), .pick, [.t 17, .c (.bool true), .t 19], none⟩]
def c_l01_CodeKeeps_r3 : List COper := a_l01_CodeKeeps_r3
instance : Reg c_l01_CodeKeeps_r3 a_l01_CodeKeeps_r3 7 := ⟨rfl, rfl⟩
@[simp] def a_l01_CodeKeeps_r4 : List COper := [
  ⟨(some 4), .mov, [.c (.bool true)], none⟩]
def c_l01_CodeKeeps_r4 : List COper := a_l01_CodeKeeps_r4
instance : Reg c_l01_CodeKeeps_r4 a_l01_CodeKeeps_r4 1 := ⟨rfl, rfl⟩
@[simp] def a_l01_CodeKeeps_r5 : List COper := [
  ⟨(some 21), .bslice 1 0 (.v (.int .u8 0)) [], [], none⟩,
  ⟨(some 22), .mov, [.t 0], none⟩,
  ⟨(some 23), .app 1 1, [.t 21, .t 22], none⟩,
  ⟨(some 5), .mov, [.t 23], none⟩]
def c_l01_CodeKeeps_r5 : List COper := a_l01_CodeKeeps_r5
instance : Reg c_l01_CodeKeeps_r5 a_l01_CodeKeeps_r5 4 := ⟨rfl, rfl⟩
@[simp] def a_l01_CodeKeeps_r6 : List COper := [
  ⟨(some 24), .mov, [.t 5], none⟩,
  ⟨(some 25), .call fn_code_Read, [.t 24], none⟩,
  ⟨(some 26), .mov, [.t 0], none⟩,
  ⟨(some 27), .call fn_code_Read, [.t 26], none⟩,
  ⟨(some 6), .mov, [.t 25], none⟩,
  ⟨(some 7), .mov, [.t 27], none⟩]
def c_l01_CodeKeeps_r6 : List COper := a_l01_CodeKeeps_r6
instance : Reg c_l01_CodeKeeps_r6 a_l01_CodeKeeps_r6 6 := ⟨rfl, rfl⟩
@[simp] def a_l01_CodeKeeps_r7 : List COper := [
  ⟨(some 28), .mov, [.t 5], none⟩,
  ⟨(some 29), .len, [.t 28], none⟩,
  ⟨(some 30), .mov, [.c (.int .i64 0)], none⟩]
def c_l01_CodeKeeps_r7 : List COper := a_l01_CodeKeeps_r7
instance : Reg c_l01_CodeKeeps_r7 a_l01_CodeKeeps_r7 3 := ⟨rfl, rfl⟩
@[simp] def a_l01_CodeKeeps_r8 : List COper := [
  ⟨(some 31), .bin .lss, [.t 30, .t 29], none⟩]
def c_l01_CodeKeeps_r8 : List COper := a_l01_CodeKeeps_r8
instance : Reg c_l01_CodeKeeps_r8 a_l01_CodeKeeps_r8 1 := ⟨rfl, rfl⟩
@[simp] def a_l01_CodeKeeps_r9 : List COper := [
  ⟨(some 32), .mov, [.t 30], none⟩,
  ⟨(some 8), .mov, [.t 32], none⟩]
def c_l01_CodeKeeps_r9 : List COper := a_l01_CodeKeeps_r9
instance : Reg c_l01_CodeKeeps_r9 a_l01_CodeKeeps_r9 2 := ⟨rfl, rfl⟩
@[simp] def a_l01_CodeKeeps_r10 : List COper := [
  ⟨(some 33), .mov, [.t 5], none⟩,
  ⟨(some 34), .mov, [.t 8], none⟩,
  ⟨(some 35), .iaddr 1, [.t 33, .t 34], none⟩,
  ⟨(some 36), .load false 1, [.t 35], none⟩,
  ⟨(some 37), .bin .add, [.t 36, .c (.int .u8 1)], none⟩,
  ⟨(some 38), .iaddr 1, [.t 33, .t 34], none⟩,
  ⟨none, .store false 1, [.t 38, .t 37], none⟩]
def c_l01_CodeKeeps_r10 : List COper := a_l01_CodeKeeps_r10
instance : Reg c_l01_CodeKeeps_r10 a_l01_CodeKeeps_r10 7 := ⟨rfl, rfl⟩
@[simp] def a_l01_CodeKeeps_r11 : List COper := [
  ⟨(some 39), .bin .add, [.t 30, .c (.int .i64 1)], none⟩,
  ⟨(some 30), .mov, [.t 39], none⟩]
def c_l01_CodeKeeps_r11 : List COper := a_l01_CodeKeeps_r11
instance : Reg c_l01_CodeKeeps_r11 a_l01_CodeKeeps_r11 2 := ⟨rfl, rfl⟩
@[simp] def a_l01_CodeKeeps_r12 : List COper := [
  ⟨(some 40), .build [.v (.slice none 0 0)] [], [], none⟩,
  ⟨(some 41), .box, [.t 40], none⟩,
  ⟨(some 9), .mov, [.t 41], none⟩]
def c_l01_CodeKeeps_r12 : List COper := a_l01_CodeKeeps_r12
instance : Reg c_l01_CodeKeeps_r12 a_l01_CodeKeeps_r12 3 := ⟨rfl, rfl⟩
@[simp] def a_l01_CodeKeeps_r13 : List COper := [
  ⟨(some 42), .mov, [.t 9], none⟩,
  ⟨(some 43), .bslice 1 1 (.v (.string (mkS []))) [0], [.c (.string (mkS [97, 98, 99]))], none⟩,
  ⟨(some 44), .call fn_code_Writer_Text, [.t 42, .t 43], none⟩]
def c_l01_CodeKeeps_r13 : List COper := a_l01_CodeKeeps_r13
instance : Reg c_l01_CodeKeeps_r13 a_l01_CodeKeeps_r13 3 := ⟨rfl, rfl⟩
@[simp] def a_l01_CodeKeeps_r14 : List COper := [
  ⟨(some 45), .mov, [.t 9], none⟩,
  ⟨(some 46), .call fn_code_Writer_Bytes, [.t 45], none⟩,
  ⟨(some 10), .mov, [.t 46], none⟩]
def c_l01_CodeKeeps_r14 : List COper := a_l01_CodeKeeps_r14
instance : Reg c_l01_CodeKeeps_r14 a_l01_CodeKeeps_r14 3 := ⟨rfl, rfl⟩
@[simp] def a_l01_CodeKeeps_r15 : List COper := [
  ⟨(some 47), .mov, [.t 10], none⟩,
  ⟨(some 48), .len, [.t 47], none⟩,
  ⟨(some 49), .mov, [.c (.int .i64 0)], none⟩]
def c_l01_CodeKeeps_r15 : List COper := a_l01_CodeKeeps_r15
instance : Reg c_l01_CodeKeeps_r15 a_l01_CodeKeeps_r15 3 := ⟨rfl, rfl⟩
@[simp] def a_l01_CodeKeeps_r16 : List COper := [
  ⟨(some 50), .bin .lss, [.t 49, .t 48], none⟩]
def c_l01_CodeKeeps_r16 : List COper := a_l01_CodeKeeps_r16
instance : Reg c_l01_CodeKeeps_r16 a_l01_CodeKeeps_r16 1 := ⟨rfl, rfl⟩
@[simp] def a_l01_CodeKeeps_r17 : List COper := [
  ⟨(some 51), .mov, [.t 49], none⟩,
  ⟨(some 11), .mov, [.t 51], none⟩]
def c_l01_CodeKeeps_r17 : List COper := a_l01_CodeKeeps_r17
instance : Reg c_l01_CodeKeeps_r17 a_l01_CodeKeeps_r17 2 := ⟨rfl, rfl⟩
@[simp] def a_l01_CodeKeeps_r18 : List COper := [
  ⟨(some 52), .mov, [.t 10], none⟩,
  ⟨(some 53), .mov, [.t 11], none⟩,
  ⟨(some 54), .iaddr 1, [.t 52, .t 53], none⟩,
  ⟨none, .store false 1, [.t 54, .c (.int .u8 7)], none⟩]
def c_l01_CodeKeeps_r18 : List COper := a_l01_CodeKeeps_r18
instance : Reg c_l01_CodeKeeps_r18 a_l01_CodeKeeps_r18 4 := ⟨rfl, rfl⟩
@[simp] def a_l01_CodeKeeps_r19 : List COper := [
  ⟨(some 55), .bin .add, [.t 49, .c (.int .i64 1)], none⟩,
  ⟨(some 49), .mov, [.t 55], none⟩]
def c_l01_CodeKeeps_r19 : List COper := a_l01_CodeKeeps_r19
instance : Reg c_l01_CodeKeeps_r19 a_l01_CodeKeeps_r19 2 := ⟨rfl, rfl⟩
@[simp] def a_l01_CodeKeeps_r20 : List COper := [
  ⟨(some 56), .mov, [.t 6], none⟩,
  ⟨(some 57), .call fn_code_Reader_Digest, [.t 56], none⟩,
  ⟨(some 58), .mov, [.t 7], none⟩,
  ⟨(some 59), .call fn_code_Reader_Digest, [.t 58], none⟩,
  ⟨(some 60), .eqa false .u8 32, [.t 57, .t 59], none⟩,
  ⟨(some 61), .mov, [.t 60], none⟩,
  ⟨(some 62), .mov, [.t 6], (some (61, true))⟩,
  ⟨(some 63), .call fn_code_Reader_Num, [.t 62], (some (61, true))⟩,
  ⟨(some 64), .mov, [.t 7], (some (61, true))⟩,
  ⟨(some 65), .call fn_code_Reader_Num, [.t 64], (some (61, true))⟩,
  ⟨(some 66), .bin .eql, [.t 63, .t 65], (some (61, true))⟩,
  ⟨(some 67), .pick, [.t 61, .t 66, .c (.bool false)], none⟩,
  ⟨(some 68), .mov, [.t 67], none⟩,
  ⟨(some 69), .mov, [.t 9], (some (68, true))⟩,
  ⟨(some 70), .call fn_code_Writer_Bytes, [.t 69], (some (68, true))⟩,
  ⟨(some 71), .convS, [.t 70], (some (68, true))⟩,
  ⟨(some 72), .bin .eql, [.t 71, .c (.string (mkS [0, 0, 0, 3, 97, 98, 99]))], (some (68, true))⟩,
  ⟨(some 73), .pick, [.t 68, .t 72, .c (.bool false)], none⟩,
  ⟨(some 4), .mov, [.t 73], none⟩]
def c_l01_CodeKeeps_r20 : List COper := a_l01_CodeKeeps_r20
instance : Reg c_l01_CodeKeeps_r20 a_l01_CodeKeeps_r20 19 := ⟨rfl, rfl⟩
@[simp] def c_l01_CodeKeeps : CCode :=
  .seq (.region c_l01_CodeKeeps_r0 none [0, 1]) (.seq (.seq (.region c_l01_CodeKeeps_r1 none [0, 1, 13]) (.cond (.t 13) (.seq (.region c_l01_CodeKeeps_r2 none [4]) (.ret)) (.skip))) (.seq (.seq (.region c_l01_CodeKeeps_r3 none [0, 20]) (.cond (.t 20) (.seq (.region c_l01_CodeKeeps_r4 none [4]) (.ret)) (.skip))) (.seq (.region c_l01_CodeKeeps_r5 none [0, 5]) (.seq (.region c_l01_CodeKeeps_r6 none [5, 6, 7]) (.seq (.seq (.region c_l01_CodeKeeps_r7 none [5, 6, 7, 29, 30]) (.block 0 (.loop (.seq (.region c_l01_CodeKeeps_r8 none [5, 6, 7, 29, 30, 31]) (.seq (.cond (.t 31) (.skip) (.exit 0)) (.seq (.block 1 (.seq (.region c_l01_CodeKeeps_r9 none [5, 6, 7, 8, 29, 30]) (.region c_l01_CodeKeeps_r10 none [5, 6, 7, 29, 30]))) (.region c_l01_CodeKeeps_r11 none [5, 6, 7, 29, 30]))))))) (.seq (.region c_l01_CodeKeeps_r12 none [6, 7, 9]) (.seq (.region c_l01_CodeKeeps_r13 none [6, 7, 9]) (.seq (.region c_l01_CodeKeeps_r14 none [6, 7, 9, 10]) (.seq (.seq (.region c_l01_CodeKeeps_r15 none [6, 7, 9, 10, 48, 49]) (.block 2 (.loop (.seq (.region c_l01_CodeKeeps_r16 none [6, 7, 9, 10, 48, 49, 50]) (.seq (.cond (.t 50) (.skip) (.exit 2)) (.seq (.block 3 (.seq (.region c_l01_CodeKeeps_r17 none [6, 7, 9, 10, 11, 48, 49]) (.region c_l01_CodeKeeps_r18 none [6, 7, 9, 10, 48, 49]))) (.region c_l01_CodeKeeps_r19 none [6, 7, 9, 10, 48, 49]))))))) (.seq (.region c_l01_CodeKeeps_r20 none [4]) (.ret)))))))))))
@[simp] def R_l01_CodeKeeps : List CRes := [.tmp 4]
theorem k_l01_CodeKeeps : chkFn Try.prog fn_l01_CodeKeeps c_l01_CodeKeeps R_l01_CodeKeeps 2 = true := by kernel_rfl
/-! wapentake/wapentakelaw01.CodeWrites -/
@[simp] def a_l01_CodeWrites_r0 : List COper := [
  ⟨(some 6), .mov, [.c (.bool false)], none⟩]
def c_l01_CodeWrites_r0 : List COper := a_l01_CodeWrites_r0
instance : Reg c_l01_CodeWrites_r0 a_l01_CodeWrites_r0 1 := ⟨rfl, rfl⟩
@[simp] def a_l01_CodeWrites_r1 : List COper := [
  ⟨(some 16), .call fn_l01_alive, [], none⟩,
  ⟨(some 17), .not, [.t 16], none⟩]
def c_l01_CodeWrites_r1 : List COper := a_l01_CodeWrites_r1
instance : Reg c_l01_CodeWrites_r1 a_l01_CodeWrites_r1 2 := ⟨rfl, rfl⟩
@[simp] def a_l01_CodeWrites_r2 : List COper := [
  ⟨(some 6), .mov, [.c (.bool false)], none⟩]
def c_l01_CodeWrites_r2 : List COper := a_l01_CodeWrites_r2
instance : Reg c_l01_CodeWrites_r2 a_l01_CodeWrites_r2 1 := ⟨rfl, rfl⟩
@[simp] def a_l01_CodeWrites_r3 : List COper := [
  ⟨(some 18), .mov, [.t 0], none⟩,
  ⟨(some 19), .call fn_l01_great, [.t 18], none⟩,
  ⟨(some 20), .mov, [.t 19], none⟩,
  ⟨(some 21), .mov, [.t 1], (some (20, false))⟩,
  ⟨(some 22), .len, [.t 21], (some (20, false))⟩,
  ⟨(some 23), .bin .gtr, [.t 22, .c (.int .i64 200)], (some (20, false))⟩,
  ⟨(some 24), .pick, [.t 20, .c (.bool true), .t 23], none⟩,
  ⟨(some 25), .mov, [.t 24], none⟩,
  ⟨(some 26), .mov, [.t 2], (some (25, false))⟩,
  ⟨(some 27), .len, [.t 26], (some (25, false))⟩,
  ⟨(some 28), .bin .gtr, [.t 27, .c (.int .i64 200)], (some (25, false))⟩,
  ⟨(some 29), .pick, [.t 25, .c (.bool true), .t 28], none⟩]
def c_l01_CodeWrites_r3 : List COper := a_l01_CodeWrites_r3
instance : Reg c_l01_CodeWrites_r3 a_l01_CodeWrites_r3 12 := ⟨rfl, rfl⟩
@[simp] def a_l01_CodeWrites_r4 : List COper := [
  ⟨(some 6), .mov, [.c (.bool true)], none⟩]
def c_l01_CodeWrites_r4 : List COper := a_l01_CodeWrites_r4
instance : Reg c_l01_CodeWrites_r4 a_l01_CodeWrites_r4 1 := ⟨rfl, rfl⟩
@[simp] def a_l01_CodeWrites_r5 : List COper := [
  ⟨(some 31), .mov, [.t 0], none⟩,
  ⟨(some 32), .call fn_l01_written, [.t 31], none⟩,
  ⟨(some 30), .mov, [.t 32], none⟩,
  ⟨(some 33), .ext 0, [.t 30], none⟩,
  ⟨(some 34), .ext 1, [.t 30], none⟩,
  ⟨(some 7), .mov, [.t 33], none⟩,
  ⟨(some 8), .mov, [.t 34], none⟩]
def c_l01_CodeWrites_r5 : List COper := a_l01_CodeWrites_r5
instance : Reg c_l01_CodeWrites_r5 a_l01_CodeWrites_r5 7 := ⟨rfl, rfl⟩
@[simp] def a_l01_CodeWrites_r6 : List COper := [
  ⟨(some 35), .mov, [.t 7], none⟩,
  ⟨(some 36), .convS, [.t 35], none⟩,
  ⟨(some 37), .mov, [.t 8], none⟩,
  ⟨(some 38), .bin .neq, [.t 36, .t 37], none⟩]
def c_l01_CodeWrites_r6 : List COper := a_l01_CodeWrites_r6
instance : Reg c_l01_CodeWrites_r6 a_l01_CodeWrites_r6 4 := ⟨rfl, rfl⟩
@[simp] def a_l01_CodeWrites_r7 : List COper := [
  ⟨(some 6), .mov, [.c (.bool false)], none⟩]
def c_l01_CodeWrites_r7 : List COper := a_l01_CodeWrites_r7
instance : Reg c_l01_CodeWrites_r7 a_l01_CodeWrites_r7 1 := ⟨rfl, rfl⟩
@[simp] def a_l01_CodeWrites_r8 : List COper := [
  ⟨(some 39), .build [.v (.slice none 0 0)] [], [], none⟩,
  ⟨(some 40), .box, [.t 39], none⟩,
  ⟨(some 9), .mov, [.t 40], none⟩]
def c_l01_CodeWrites_r8 : List COper := a_l01_CodeWrites_r8
instance : Reg c_l01_CodeWrites_r8 a_l01_CodeWrites_r8 3 := ⟨rfl, rfl⟩
@[simp] def a_l01_CodeWrites_r9 : List COper := [
  ⟨(some 10), .mov, [.c (.string (mkS []))], none⟩]
def c_l01_CodeWrites_r9 : List COper := a_l01_CodeWrites_r9
instance : Reg c_l01_CodeWrites_r9 a_l01_CodeWrites_r9 1 := ⟨rfl, rfl⟩
@[simp] def a_l01_CodeWrites_r10 : List COper := [
  ⟨(some 41), .mov, [.t 1], none⟩,
  ⟨(some 42), .len, [.t 41], none⟩,
  ⟨(some 43), .mov, [.c (.int .i64 0)], none⟩]
def c_l01_CodeWrites_r10 : List COper := a_l01_CodeWrites_r10
instance : Reg c_l01_CodeWrites_r10 a_l01_CodeWrites_r10 3 := ⟨rfl, rfl⟩
@[simp] def a_l01_CodeWrites_r11 : List COper := [
  ⟨(some 44), .bin .lss, [.t 43, .t 42], none⟩]
def c_l01_CodeWrites_r11 : List COper := a_l01_CodeWrites_r11
instance : Reg c_l01_CodeWrites_r11 a_l01_CodeWrites_r11 1 := ⟨rfl, rfl⟩
@[simp] def a_l01_CodeWrites_r12 : List COper := [
  ⟨(some 45), .iaddr 1, [.t 41, .t 43], none⟩,
  ⟨(some 46), .load false 1, [.t 45], none⟩,
  ⟨(some 12), .mov, [.t 46], none⟩]
def c_l01_CodeWrites_r12 : List COper := a_l01_CodeWrites_r12
instance : Reg c_l01_CodeWrites_r12 a_l01_CodeWrites_r12 3 := ⟨rfl, rfl⟩
@[simp] def a_l01_CodeWrites_r13 : List COper := [
  ⟨(some 47), .mov, [.t 10], none⟩,
  ⟨(some 48), .mov, [.t 12], none⟩,
  ⟨(some 49), .call fn_r01_Num, [.t 48], none⟩,
  ⟨(some 50), .bin .add, [.t 47, .t 49], none⟩,
  ⟨(some 10), .mov, [.t 50], none⟩]
def c_l01_CodeWrites_r13 : List COper := a_l01_CodeWrites_r13
instance : Reg c_l01_CodeWrites_r13 a_l01_CodeWrites_r13 5 := ⟨rfl, rfl⟩
@[simp] def a_l01_CodeWrites_r14 : List COper := [
  ⟨(some 51), .bin .add, [.t 43, .c (.int .i64 1)], none⟩,
  ⟨(some 43), .mov, [.t 51], none⟩]
def c_l01_CodeWrites_r14 : List COper := a_l01_CodeWrites_r14
instance : Reg c_l01_CodeWrites_r14 a_l01_CodeWrites_r14 2 := ⟨rfl, rfl⟩
@[simp] def a_l01_CodeWrites_r15 : List COper := [
  ⟨(some 52), .mov, [.t 9], none⟩,
  ⟨(some 53), .mov, [.t 1], none⟩,
  ⟨(some 54), .call fn_code_Writer_Num, [.t 52, .t 53], none⟩]
def c_l01_CodeWrites_r15 : List COper := a_l01_CodeWrites_r15
instance : Reg c_l01_CodeWrites_r15 a_l01_CodeWrites_r15 3 := ⟨rfl, rfl⟩
@[simp] def a_l01_CodeWrites_r16 : List COper := [
  ⟨(some 55), .mov, [.t 2], none⟩,
  ⟨(some 56), .len, [.t 55], none⟩,
  ⟨(some 57), .mov, [.c (.int .i64 0)], none⟩]
def c_l01_CodeWrites_r16 : List COper := a_l01_CodeWrites_r16
instance : Reg c_l01_CodeWrites_r16 a_l01_CodeWrites_r16 3 := ⟨rfl, rfl⟩
@[simp] def a_l01_CodeWrites_r17 : List COper := [
  ⟨(some 58), .bin .lss, [.t 57, .t 56], none⟩]
def c_l01_CodeWrites_r17 : List COper := a_l01_CodeWrites_r17
instance : Reg c_l01_CodeWrites_r17 a_l01_CodeWrites_r17 1 := ⟨rfl, rfl⟩
@[simp] def a_l01_CodeWrites_r18 : List COper := [
  ⟨(some 59), .iaddr 1, [.t 55, .t 57], none⟩,
  ⟨(some 60), .load false 1, [.t 59], none⟩,
  ⟨(some 14), .mov, [.t 60], none⟩]
def c_l01_CodeWrites_r18 : List COper := a_l01_CodeWrites_r18
instance : Reg c_l01_CodeWrites_r18 a_l01_CodeWrites_r18 3 := ⟨rfl, rfl⟩
@[simp] def a_l01_CodeWrites_r19 : List COper := [
  ⟨(some 61), .mov, [.t 10], none⟩,
  ⟨(some 62), .lenS, [.t 61], none⟩,
  ⟨(some 63), .mov, [.t 14], none⟩,
  ⟨(some 64), .lenS, [.t 63], none⟩,
  ⟨(some 65), .bin .add, [.t 62, .t 64], none⟩,
  ⟨(some 66), .bin .gtr, [.t 65, .c (.int .i64 16384)], none⟩]
def c_l01_CodeWrites_r19 : List COper := a_l01_CodeWrites_r19
instance : Reg c_l01_CodeWrites_r19 a_l01_CodeWrites_r19 6 := ⟨rfl, rfl⟩
@[simp] def a_l01_CodeWrites_r20 : List COper := [
  ⟨(some 6), .mov, [.c (.bool true)], none⟩]
def c_l01_CodeWrites_r20 : List COper := a_l01_CodeWrites_r20
instance : Reg c_l01_CodeWrites_r20 a_l01_CodeWrites_r20 1 := ⟨rfl, rfl⟩
@[simp] def a_l01_CodeWrites_r21 : List COper := [
  ⟨(some 67), .mov, [.t 10], none⟩,
  ⟨(some 68), .mov, [.t 14], none⟩,
  ⟨(some 69), .call fn_r01_Text, [.t 68], none⟩,
  ⟨(some 70), .bin .add, [.t 67, .t 69], none⟩,
  ⟨(some 10), .mov, [.t 70], none⟩]
def c_l01_CodeWrites_r21 : List COper := a_l01_CodeWrites_r21
instance : Reg c_l01_CodeWrites_r21 a_l01_CodeWrites_r21 5 := ⟨rfl, rfl⟩
@[simp] def a_l01_CodeWrites_r22 : List COper := [
  ⟨(some 71), .bin .add, [.t 57, .c (.int .i64 1)], none⟩,
  ⟨(some 57), .mov, [.t 71], none⟩]
def c_l01_CodeWrites_r22 : List COper := a_l01_CodeWrites_r22
instance : Reg c_l01_CodeWrites_r22 a_l01_CodeWrites_r22 2 := ⟨rfl, rfl⟩
@[simp] def a_l01_CodeWrites_r23 : List COper := [
  ⟨(some 72), .mov, [.t 9], none⟩,
  ⟨(some 73), .mov, [.t 2], none⟩,
  ⟨(some 74), .call fn_code_Writer_Text, [.t 72, .t 73], none⟩]
def c_l01_CodeWrites_r23 : List COper := a_l01_CodeWrites_r23
instance : Reg c_l01_CodeWrites_r23 a_l01_CodeWrites_r23 3 := ⟨rfl, rfl⟩
@[simp] def a_l01_CodeWrites_r24 : List COper := [
  ⟨(some 15), .mov, [.c (.pointer none)], none⟩]
def c_l01_CodeWrites_r24 : List COper := a_l01_CodeWrites_r24
instance : Reg c_l01_CodeWrites_r24 a_l01_CodeWrites_r24 1 := ⟨rfl, rfl⟩
@[simp] def a_l01_CodeWrites_r25 : List COper := [
  ⟨(some 75), .mov, [.t 15], none⟩,
  ⟨(some 76), .bslice 1 1 (.v (.int .i64 0)) [0], [.c (.int .i64 1)], none⟩,
  ⟨(some 77), .call fn_code_Writer_Num, [.t 75, .t 76], none⟩]
def c_l01_CodeWrites_r25 : List COper := a_l01_CodeWrites_r25
instance : Reg c_l01_CodeWrites_r25 a_l01_CodeWrites_r25 3 := ⟨rfl, rfl⟩
@[simp] def a_l01_CodeWrites_r26 : List COper := [
  ⟨(some 78), .mov, [.t 15], none⟩,
  ⟨(some 79), .bslice 1 1 (.v (.string (mkS []))) [0], [.c (.string (mkS [97]))], none⟩,
  ⟨(some 80), .call fn_code_Writer_Text, [.t 78, .t 79], none⟩]
def c_l01_CodeWrites_r26 : List COper := a_l01_CodeWrites_r26
instance : Reg c_l01_CodeWrites_r26 a_l01_CodeWrites_r26 3 := ⟨rfl, rfl⟩
@[simp] def a_l01_CodeWrites_r27 : List COper := [
  ⟨(some 81), .mov, [.t 15], none⟩,
  ⟨(some 82), .buildA 1 (rep 32 (.v (.int .u8 0))) [], [], none⟩,
  ⟨(some 83), .bslice 32 1 (.arr 1 (rep 32 (.v (.int .u8 0)))) [0], [.t 82], none⟩,
  ⟨(some 84), .call fn_code_Writer_Digest, [.t 81, .t 83], none⟩]
def c_l01_CodeWrites_r27 : List COper := a_l01_CodeWrites_r27
instance : Reg c_l01_CodeWrites_r27 a_l01_CodeWrites_r27 4 := ⟨rfl, rfl⟩
@[simp] def a_l01_CodeWrites_r28 : List COper := [
  ⟨(some 85), .mov, [.t 9], none⟩,
  ⟨(some 86), .call fn_code_Writer_Bytes, [.t 85], none⟩,
  ⟨(some 87), .convS, [.t 86], none⟩,
  ⟨(some 88), .mov, [.t 10], none⟩,
  ⟨(some 89), .bin .eql, [.t 87, .t 88], none⟩,
  ⟨(some 90), .mov, [.t 89], none⟩,
  ⟨(some 91), .mov, [.t 15], (some (90, true))⟩,
  ⟨(some 92), .call fn_code_Writer_Bytes, [.t 91], (some (90, true))⟩,
  ⟨(some 93), .len, [.t 92], (some (90, true))⟩,
  ⟨(some 94), .bin .eql, [.t 93, .c (.int .i64 0)], (some (90, true))⟩,
  ⟨(some 95), .pick, [.t 90, .t 94, .c (.bool false)], none⟩,
  ⟨(some 6), .mov, [.t 95], none⟩]
def c_l01_CodeWrites_r28 : List COper := a_l01_CodeWrites_r28
instance : Reg c_l01_CodeWrites_r28 a_l01_CodeWrites_r28 12 := ⟨rfl, rfl⟩
@[simp] def c_l01_CodeWrites : CCode :=
  .seq (.region c_l01_CodeWrites_r0 none [0, 1, 2]) (.seq (.seq (.region c_l01_CodeWrites_r1 none [0, 1, 2, 17]) (.cond (.t 17) (.seq (.region c_l01_CodeWrites_r2 none [6]) (.ret)) (.skip))) (.seq (.seq (.region c_l01_CodeWrites_r3 none [0, 1, 2, 29]) (.cond (.t 29) (.seq (.region c_l01_CodeWrites_r4 none [6]) (.ret)) (.skip))) (.seq (.region c_l01_CodeWrites_r5 none [1, 2, 7, 8]) (.seq (.seq (.region c_l01_CodeWrites_r6 none [1, 2, 38]) (.cond (.t 38) (.seq (.region c_l01_CodeWrites_r7 none [6]) (.ret)) (.skip))) (.seq (.region c_l01_CodeWrites_r8 none [1, 2, 9]) (.seq (.region c_l01_CodeWrites_r9 none [1, 2, 9, 10]) (.seq (.seq (.region c_l01_CodeWrites_r10 none [1, 2, 9, 10, 41, 42, 43]) (.block 0 (.loop (.seq (.region c_l01_CodeWrites_r11 none [1, 2, 9, 10, 41, 42, 43, 44]) (.seq (.cond (.t 44) (.skip) (.exit 0)) (.seq (.block 1 (.seq (.region c_l01_CodeWrites_r12 none [1, 2, 9, 10, 12, 41, 42, 43]) (.region c_l01_CodeWrites_r13 none [1, 2, 9, 10, 41, 42, 43]))) (.region c_l01_CodeWrites_r14 none [1, 2, 9, 10, 41, 42, 43]))))))) (.seq (.region c_l01_CodeWrites_r15 none [2, 9, 10]) (.seq (.seq (.region c_l01_CodeWrites_r16 none [2, 9, 10, 55, 56, 57]) (.block 2 (.loop (.seq (.region c_l01_CodeWrites_r17 none [2, 9, 10, 55, 56, 57, 58]) (.seq (.cond (.t 58) (.skip) (.exit 2)) (.seq (.block 3 (.seq (.region c_l01_CodeWrites_r18 none [2, 9, 10, 14, 55, 56, 57]) (.seq (.seq (.region c_l01_CodeWrites_r19 none [2, 9, 10, 14, 55, 56, 57, 66]) (.cond (.t 66) (.seq (.region c_l01_CodeWrites_r20 none [6]) (.ret)) (.skip))) (.region c_l01_CodeWrites_r21 none [2, 9, 10, 55, 56, 57])))) (.region c_l01_CodeWrites_r22 none [2, 9, 10, 55, 56, 57]))))))) (.seq (.region c_l01_CodeWrites_r23 none [9, 10]) (.seq (.region c_l01_CodeWrites_r24 none [9, 10, 15]) (.seq (.region c_l01_CodeWrites_r25 none [9, 10, 15]) (.seq (.region c_l01_CodeWrites_r26 none [9, 10, 15]) (.seq (.region c_l01_CodeWrites_r27 none [9, 10, 15]) (.seq (.region c_l01_CodeWrites_r28 none [6]) (.ret))))))))))))))))
@[simp] def R_l01_CodeWrites : List CRes := [.tmp 6]
theorem k_l01_CodeWrites : chkFn Try.prog fn_l01_CodeWrites c_l01_CodeWrites R_l01_CodeWrites 3 = true := by kernel_rfl
/-! wapentake/wapentakelaw01.CodeSizes -/
@[simp] def a_l01_CodeSizes_r0 : List COper := [
  ⟨(some 2), .mov, [.c (.bool false)], none⟩]
def c_l01_CodeSizes_r0 : List COper := a_l01_CodeSizes_r0
instance : Reg c_l01_CodeSizes_r0 a_l01_CodeSizes_r0 1 := ⟨rfl, rfl⟩
@[simp] def a_l01_CodeSizes_r1 : List COper := [
  ⟨(some 8), .call fn_l01_alive, [], none⟩,
  ⟨(some 9), .not, [.t 8], none⟩]
def c_l01_CodeSizes_r1 : List COper := a_l01_CodeSizes_r1
instance : Reg c_l01_CodeSizes_r1 a_l01_CodeSizes_r1 2 := ⟨rfl, rfl⟩
@[simp] def a_l01_CodeSizes_r2 : List COper := [
  ⟨(some 2), .mov, [.c (.bool false)], none⟩]
def c_l01_CodeSizes_r2 : List COper := a_l01_CodeSizes_r2
instance : Reg c_l01_CodeSizes_r2 a_l01_CodeSizes_r2 1 := ⟨rfl, rfl⟩
@[simp] def a_l01_CodeSizes_r3 : List COper := [
  ⟨(some 10), .mov, [.t 0], none⟩,
  ⟨(some 11), .call fn_l01_great, [.t 10], none⟩]
def c_l01_CodeSizes_r3 : List COper := a_l01_CodeSizes_r3
instance : Reg c_l01_CodeSizes_r3 a_l01_CodeSizes_r3 2 := ⟨rfl, rfl⟩
@[simp] def a_l01_CodeSizes_r4 : List COper := [
  ⟨(some 2), .mov, [.c (.bool true)], none⟩]
def c_l01_CodeSizes_r4 : List COper := a_l01_CodeSizes_r4
instance : Reg c_l01_CodeSizes_r4 a_l01_CodeSizes_r4 1 := ⟨rfl, rfl⟩
@[simp] def a_l01_CodeSizes_r5 : List COper := [
  ⟨(some 13), .mov, [.t 0], none⟩,
  ⟨(some 14), .call fn_l01_written, [.t 13], none⟩,
  ⟨(some 12), .mov, [.t 14], none⟩,
  ⟨(some 15), .ext 0, [.t 12], none⟩,
  ⟨(some 16), .ext 1, [.t 12], none⟩,
  ⟨(some 3), .mov, [.t 15], none⟩,
  ⟨(some 4), .mov, [.t 16], none⟩]
def c_l01_CodeSizes_r5 : List COper := a_l01_CodeSizes_r5
instance : Reg c_l01_CodeSizes_r5 a_l01_CodeSizes_r5 7 := ⟨rfl, rfl⟩
@[simp] def a_l01_CodeSizes_r6 : List COper := [
  ⟨(some 5), .mov, [.c (.int .i64 0)], none⟩]
def c_l01_CodeSizes_r6 : List COper := a_l01_CodeSizes_r6
instance : Reg c_l01_CodeSizes_r6 a_l01_CodeSizes_r6 1 := ⟨rfl, rfl⟩
@[simp] def a_l01_CodeSizes_r7 : List COper := [
  ⟨(some 17), .mov, [.t 0], none⟩,
  ⟨(some 18), .len, [.t 17], none⟩,
  ⟨(some 19), .mov, [.c (.int .i64 0)], none⟩]
def c_l01_CodeSizes_r7 : List COper := a_l01_CodeSizes_r7
instance : Reg c_l01_CodeSizes_r7 a_l01_CodeSizes_r7 3 := ⟨rfl, rfl⟩
@[simp] def a_l01_CodeSizes_r8 : List COper := [
  ⟨(some 20), .bin .lss, [.t 19, .t 18], none⟩]
def c_l01_CodeSizes_r8 : List COper := a_l01_CodeSizes_r8
instance : Reg c_l01_CodeSizes_r8 a_l01_CodeSizes_r8 1 := ⟨rfl, rfl⟩
@[simp] def a_l01_CodeSizes_r9 : List COper := [
  ⟨(some 21), .iaddr 37, [.t 17, .t 19], none⟩,
  ⟨(some 22), .load true 37, [.t 21], none⟩,
  ⟨(some 7), .alloc (.node [.v (.int .i64 0), .v (.int .i64 0), .v (.string (mkS [])), .arr 1 (rep 32 (.v (.int .u8 0))), .v (.int .i64 0), .v (.int .i64 0)]), [], none⟩,
  ⟨none, .store true 37, [.t 7, .t 22], none⟩]
def c_l01_CodeSizes_r9 : List COper := a_l01_CodeSizes_r9
instance : Reg c_l01_CodeSizes_r9 a_l01_CodeSizes_r9 4 := ⟨rfl, rfl⟩
@[simp] def a_l01_CodeSizes_r10 : List COper := [
  ⟨(some 23), .faddr 0 1 false, [.t 7], none⟩,
  ⟨(some 24), .load false 1, [.t 23], none⟩]
def c_l01_CodeSizes_r10 : List COper := a_l01_CodeSizes_r10
instance : Reg c_l01_CodeSizes_r10 a_l01_CodeSizes_r10 2 := ⟨rfl, rfl⟩
@[simp] def a_l01_CodeSizes_r12 : List COper := [
  ⟨(some 28), .bin .eql, [.t 24, .c (.int .i64 1)], none⟩,
  ⟨(some 27), .mov, [.t 28], none⟩]
def c_l01_CodeSizes_r12 : List COper := a_l01_CodeSizes_r12
instance : Reg c_l01_CodeSizes_r12 a_l01_CodeSizes_r12 2 := ⟨rfl, rfl⟩
@[simp] def a_l01_CodeSizes_r13 : List COper := [
  ⟨(some 29), .mov, [.t 5], none⟩,
  ⟨(some 30), .faddr 2 1 false, [.t 7], none⟩,
  ⟨(some 31), .load false 1, [.t 30], none⟩,
  ⟨(some 32), .lenS, [.t 31], none⟩,
  ⟨(some 33), .bin .add, [.c (.int .i64 4), .t 32], none⟩,
  ⟨(some 34), .bin .add, [.t 29, .t 33], none⟩,
  ⟨(some 5), .mov, [.t 34], none⟩]
def c_l01_CodeSizes_r13 : List COper := a_l01_CodeSizes_r13
instance : Reg c_l01_CodeSizes_r13 a_l01_CodeSizes_r13 7 := ⟨rfl, rfl⟩
@[simp] def a_l01_CodeSizes_r14 : List COper := [
  ⟨(some 36), .bin .eql, [.t 24, .c (.int .i64 2)], none⟩,
  ⟨(some 35), .mov, [.t 36], none⟩]
def c_l01_CodeSizes_r14 : List COper := a_l01_CodeSizes_r14
instance : Reg c_l01_CodeSizes_r14 a_l01_CodeSizes_r14 2 := ⟨rfl, rfl⟩
@[simp] def a_l01_CodeSizes_r15 : List COper := [
  ⟨(some 37), .mov, [.t 5], none⟩,
  ⟨(some 38), .bin .add, [.t 37, .c (.int .i64 32)], none⟩,
  ⟨(some 5), .mov, [.t 38], none⟩]
def c_l01_CodeSizes_r15 : List COper := a_l01_CodeSizes_r15
instance : Reg c_l01_CodeSizes_r15 a_l01_CodeSizes_r15 3 := ⟨rfl, rfl⟩
@[simp] def a_l01_CodeSizes_r11 : List COper := [
  ⟨(some 25), .mov, [.t 5], none⟩,
  ⟨(some 26), .bin .add, [.t 25, .c (.int .i64 8)], none⟩,
  ⟨(some 5), .mov, [.t 26], none⟩]
def c_l01_CodeSizes_r11 : List COper := a_l01_CodeSizes_r11
instance : Reg c_l01_CodeSizes_r11 a_l01_CodeSizes_r11 3 := ⟨rfl, rfl⟩
@[simp] def a_l01_CodeSizes_r16 : List COper := [
  ⟨(some 39), .bin .add, [.t 19, .c (.int .i64 1)], none⟩,
  ⟨(some 19), .mov, [.t 39], none⟩]
def c_l01_CodeSizes_r16 : List COper := a_l01_CodeSizes_r16
instance : Reg c_l01_CodeSizes_r16 a_l01_CodeSizes_r16 2 := ⟨rfl, rfl⟩
@[simp] def a_l01_CodeSizes_r17 : List COper := [
  ⟨(some 40), .mov, [.t 3], none⟩,
  ⟨(some 41), .len, [.t 40], none⟩,
  ⟨(some 42), .mov, [.t 5], none⟩,
  ⟨(some 43), .bin .eql, [.t 41, .t 42], none⟩,
  ⟨(some 2), .mov, [.t 43], none⟩]
def c_l01_CodeSizes_r17 : List COper := a_l01_CodeSizes_r17
instance : Reg c_l01_CodeSizes_r17 a_l01_CodeSizes_r17 5 := ⟨rfl, rfl⟩
@[simp] def c_l01_CodeSizes : CCode :=
  .seq (.region c_l01_CodeSizes_r0 none [0]) (.seq (.seq (.region c_l01_CodeSizes_r1 none [0, 9]) (.cond (.t 9) (.seq (.region c_l01_CodeSizes_r2 none [2]) (.ret)) (.skip))) (.seq (.seq (.region c_l01_CodeSizes_r3 none [0, 11]) (.cond (.t 11) (.seq (.region c_l01_CodeSizes_r4 none [2]) (.ret)) (.skip))) (.seq (.region c_l01_CodeSizes_r5 none [0, 3]) (.seq (.region c_l01_CodeSizes_r6 none [0, 3, 5]) (.seq (.seq (.region c_l01_CodeSizes_r7 none [3, 5, 17, 18, 19]) (.block 0 (.loop (.seq (.region c_l01_CodeSizes_r8 none [3, 5, 17, 18, 19, 20]) (.seq (.cond (.t 20) (.skip) (.exit 0)) (.seq (.block 1 (.seq (.region c_l01_CodeSizes_r9 none [3, 5, 7, 17, 18, 19]) (.seq (.region c_l01_CodeSizes_r10 none [3, 5, 7, 17, 18, 19, 24]) (.block 2 (.seq (.region c_l01_CodeSizes_r12 none [3, 5, 7, 17, 18, 19, 24, 27]) (.cond (.t 27) (.region c_l01_CodeSizes_r13 none [3, 5, 17, 18, 19]) (.seq (.region c_l01_CodeSizes_r14 none [3, 5, 17, 18, 19, 35]) (.cond (.t 35) (.region c_l01_CodeSizes_r15 none [3, 5, 17, 18, 19]) (.region c_l01_CodeSizes_r11 none [3, 5, 17, 18, 19]))))))))) (.region c_l01_CodeSizes_r16 none [3, 5, 17, 18, 19]))))))) (.seq (.region c_l01_CodeSizes_r17 none [2]) (.ret)))))))
@[simp] def R_l01_CodeSizes : List CRes := [.tmp 2]
theorem k_l01_CodeSizes : chkFn Try.prog fn_l01_CodeSizes c_l01_CodeSizes R_l01_CodeSizes 1 = true := by kernel_rfl
/-! wapentake/wapentakelaw01.CodeReads -/
@[simp] def a_l01_CodeReads_r0 : List COper := [
  ⟨(some 4), .mov, [.c (.bool false)], none⟩]
def c_l01_CodeReads_r0 : List COper := a_l01_CodeReads_r0
instance : Reg c_l01_CodeReads_r0 a_l01_CodeReads_r0 1 := ⟨rfl, rfl⟩
@[simp] def a_l01_CodeReads_r1 : List COper := [
  ⟨(some 11), .call fn_l01_alive, [], none⟩,
  ⟨(some 12), .not, [.t 11], none⟩]
def c_l01_CodeReads_r1 : List COper := a_l01_CodeReads_r1
instance : Reg c_l01_CodeReads_r1 a_l01_CodeReads_r1 2 := ⟨rfl, rfl⟩
@[simp] def a_l01_CodeReads_r2 : List COper := [
  ⟨(some 4), .mov, [.c (.bool false)], none⟩]
def c_l01_CodeReads_r2 : List COper := a_l01_CodeReads_r2
instance : Reg c_l01_CodeReads_r2 a_l01_CodeReads_r2 1 := ⟨rfl, rfl⟩
@[simp] def a_l01_CodeReads_r3 : List COper := [
  ⟨(some 13), .mov, [.t 0], none⟩,
  ⟨(some 14), .len, [.t 13], none⟩,
  ⟨(some 15), .bin .gtr, [.t 14, .c (.int .i64 16384)], none⟩,
  ⟨(some 16), .mov, [.t 15], none⟩,
  ⟨(some 17), .mov, [.t 1], (some (16, false))⟩,
  ⟨(some 18), .len, [.t 17], (some (16, false))⟩,
  ⟨(some 19), .bin .gtr, [.t 18, .c (.int .i64 200)], (some (16, false))⟩,
  ⟨(some 20), .pick, [.t 16, .c (.bool true), .t 19], none⟩]
def c_l01_CodeReads_r3 : List COper := a_l01_CodeReads_r3
instance : Reg c_l01_CodeReads_r3 a_l01_CodeReads_r3 8 := ⟨rfl, rfl⟩
@[simp] def a_l01_CodeReads_r4 : List COper := [
  ⟨(some 4), .mov, [.c (.bool true)], none⟩]
def c_l01_CodeReads_r4 : List COper := a_l01_CodeReads_r4
instance : Reg c_l01_CodeReads_r4 a_l01_CodeReads_r4 1 := ⟨rfl, rfl⟩
@[simp] def a_l01_CodeReads_r5 : List COper := [
  ⟨(some 21), .mov, [.t 0], none⟩,
  ⟨(some 22), .call fn_code_Read, [.t 21], none⟩,
  ⟨(some 23), .mov, [.t 0], none⟩,
  ⟨(some 24), .convS, [.t 23], none⟩,
  ⟨(some 25), .build [.v (.string (mkS [])), .v (.bool false)] [0], [.t 24], none⟩,
  ⟨(some 26), .box, [.t 25], none⟩,
  ⟨(some 5), .mov, [.t 22], none⟩,
  ⟨(some 6), .mov, [.t 26], none⟩]
def c_l01_CodeReads_r5 : List COper := a_l01_CodeReads_r5
instance : Reg c_l01_CodeReads_r5 a_l01_CodeReads_r5 8 := ⟨rfl, rfl⟩
@[simp] def a_l01_CodeReads_r6 : List COper := [
  ⟨(some 7), .mov, [.c (.pointer none)], none⟩]
def c_l01_CodeReads_r6 : List COper := a_l01_CodeReads_r6
instance : Reg c_l01_CodeReads_r6 a_l01_CodeReads_r6 1 := ⟨rfl, rfl⟩
@[simp] def a_l01_CodeReads_r7 : List COper := [
  ⟨(some 27), .mov, [.t 1], none⟩,
  ⟨(some 28), .len, [.t 27], none⟩,
  ⟨(some 29), .mov, [.c (.int .i64 0)], none⟩]
def c_l01_CodeReads_r7 : List COper := a_l01_CodeReads_r7
instance : Reg c_l01_CodeReads_r7 a_l01_CodeReads_r7 3 := ⟨rfl, rfl⟩
@[simp] def a_l01_CodeReads_r8 : List COper := [
  ⟨(some 30), .bin .lss, [.t 29, .t 28], none⟩]
def c_l01_CodeReads_r8 : List COper := a_l01_CodeReads_r8
instance : Reg c_l01_CodeReads_r8 a_l01_CodeReads_r8 1 := ⟨rfl, rfl⟩
@[simp] def a_l01_CodeReads_r9 : List COper := [
  ⟨(some 31), .iaddr 37, [.t 27, .t 29], none⟩,
  ⟨(some 32), .load true 37, [.t 31], none⟩,
  ⟨(some 9), .alloc (.node [.v (.int .i64 0), .v (.int .i64 0), .v (.string (mkS [])), .arr 1 (rep 32 (.v (.int .u8 0))), .v (.int .i64 0), .v (.int .i64 0)]), [], none⟩,
  ⟨none, .store true 37, [.t 9, .t 32], none⟩]
def c_l01_CodeReads_r9 : List COper := a_l01_CodeReads_r9
instance : Reg c_l01_CodeReads_r9 a_l01_CodeReads_r9 4 := ⟨rfl, rfl⟩
@[simp] def a_l01_CodeReads_r10 : List COper := [
  ⟨(some 10), .mov, [.c (.bool true)], none⟩]
def c_l01_CodeReads_r10 : List COper := a_l01_CodeReads_r10
instance : Reg c_l01_CodeReads_r10 a_l01_CodeReads_r10 1 := ⟨rfl, rfl⟩
@[simp] def a_l01_CodeReads_r11 : List COper := [
  ⟨(some 33), .faddr 0 1 false, [.t 9], none⟩,
  ⟨(some 34), .load false 1, [.t 33], none⟩]
def c_l01_CodeReads_r11 : List COper := a_l01_CodeReads_r11
instance : Reg c_l01_CodeReads_r11 a_l01_CodeReads_r11 2 := ⟨rfl, rfl⟩
@[simp] def a_l01_CodeReads_r12 : List COper := [
  ⟨(some 36), .bin .eql, [.t 34, .c (.int .i64 0)], none⟩,
  ⟨(some 35), .mov, [.t 36], none⟩]
def c_l01_CodeReads_r12 : List COper := a_l01_CodeReads_r12
instance : Reg c_l01_CodeReads_r12 a_l01_CodeReads_r12 2 := ⟨rfl, rfl⟩
@[simp] def a_l01_CodeReads_r13 : List COper := [
  ⟨(some 37), .mov, [.t 5], none⟩,
  ⟨(some 38), .call fn_code_Reader_Num, [.t 37], none⟩,
  ⟨(some 39), .mov, [.t 6], none⟩,
  ⟨(some 40), .call fn_r01_Reader_Num, [.t 39], none⟩,
  ⟨(some 41), .bin .eql, [.t 38, .t 40], none⟩,
  ⟨(some 42), .mov, [.t 41], none⟩,
  ⟨(some 43), .mov, [.t 7], (some (42, true))⟩,
  ⟨(some 44), .call fn_code_Reader_Num, [.t 43], (some (42, true))⟩,
  ⟨(some 45), .bin .eql, [.t 44, .c (.int .i64 0)], (some (42, true))⟩,
  ⟨(some 46), .pick, [.t 42, .t 45, .c (.bool false)], none⟩,
  ⟨(some 10), .mov, [.t 46], none⟩]
def c_l01_CodeReads_r13 : List COper := a_l01_CodeReads_r13
instance : Reg c_l01_CodeReads_r13 a_l01_CodeReads_r13 11 := ⟨rfl, rfl⟩
@[simp] def a_l01_CodeReads_r14 : List COper := [
  ⟨(some 48), .bin .eql, [.t 34, .c (.int .i64 1)], none⟩,
  ⟨(some 47), .mov, [.t 48], none⟩]
def c_l01_CodeReads_r14 : List COper := a_l01_CodeReads_r14
instance : Reg c_l01_CodeReads_r14 a_l01_CodeReads_r14 2 := ⟨rfl, rfl⟩
@[simp] def a_l01_CodeReads_r15 : List COper := [
  ⟨(some 49), .mov, [.t 5], none⟩,
  ⟨(some 50), .faddr 1 1 false, [.t 9], none⟩,
  ⟨(some 51), .load false 1, [.t 50], none⟩,
  ⟨(some 52), .call fn_code_Reader_Text, [.t 49, .t 51], none⟩,
  ⟨(some 53), .mov, [.t 6], none⟩,
  ⟨(some 54), .faddr 1 1 false, [.t 9], none⟩,
  ⟨(some 55), .load false 1, [.t 54], none⟩,
  ⟨(some 56), .call fn_r01_Reader_Text, [.t 53, .t 55], none⟩,
  ⟨(some 57), .bin .eql, [.t 52, .t 56], none⟩,
  ⟨(some 58), .mov, [.t 57], none⟩,
  ⟨(some 59), .mov, [.t 7], (some (58, true))⟩,
  ⟨(some 60), .faddr 1 1 false, [.t 9], (some (58, true))⟩,
  ⟨(some 61), .load false 1, [.t 60], (some (58, true))⟩,
  ⟨(some 62), .call fn_code_Reader_Text, [.t 59, .t 61], (some (58, true))⟩,
  ⟨(some 63), .bin .eql, [.t 62, .c (.string (mkS []))], (some (58, true))⟩,
  ⟨(some 64), .pick, [.t 58, .t 63, .c (.bool false)], none⟩,
  ⟨(some 10), .mov, [.t 64], none⟩]
def c_l01_CodeReads_r15 : List COper := a_l01_CodeReads_r15
instance : Reg c_l01_CodeReads_r15 a_l01_CodeReads_r15 17 := ⟨rfl, rfl⟩
@[simp] def a_l01_CodeReads_r16 : List COper := [
  ⟨(some 66), .bin .eql, [.t 34, .c (.int .i64 2)], none⟩,
  ⟨(some 65), .mov, [.t 66], none⟩]
def c_l01_CodeReads_r16 : List COper := a_l01_CodeReads_r16
instance : Reg c_l01_CodeReads_r16 a_l01_CodeReads_r16 2 := ⟨rfl, rfl⟩
@[simp] def a_l01_CodeReads_r17 : List COper := [
  ⟨(some 67), .mov, [.t 5], none⟩,
  ⟨(some 68), .call fn_code_Reader_Digest, [.t 67], none⟩,
  ⟨(some 69), .mov, [.t 6], none⟩,
  ⟨(some 70), .call fn_r01_Reader_Digest, [.t 69], none⟩,
  ⟨(some 71), .eqa false .u8 32, [.t 68, .t 70], none⟩,
  ⟨(some 72), .mov, [.t 71], none⟩,
  ⟨(some 73), .mov, [.t 7], (some (72, true))⟩,
  ⟨(some 74), .call fn_code_Reader_Digest, [.t 73], (some (72, true))⟩,
  ⟨(some 75), .buildA 1 (rep 32 (.v (.int .u8 0))) [], [], (some (72, true))⟩,
  ⟨(some 76), .eqa false .u8 32, [.t 74, .t 75], (some (72, true))⟩,
  ⟨(some 77), .pick, [.t 72, .t 76, .c (.bool false)], none⟩,
  ⟨(some 10), .mov, [.t 77], none⟩]
def c_l01_CodeReads_r17 : List COper := a_l01_CodeReads_r17
instance : Reg c_l01_CodeReads_r17 a_l01_CodeReads_r17 12 := ⟨rfl, rfl⟩
@[simp] def a_l01_CodeReads_r18 : List COper := [
  ⟨(some 79), .bin .eql, [.t 34, .c (.int .i64 3)], none⟩,
  ⟨(some 78), .mov, [.t 79], none⟩]
def c_l01_CodeReads_r18 : List COper := a_l01_CodeReads_r18
instance : Reg c_l01_CodeReads_r18 a_l01_CodeReads_r18 2 := ⟨rfl, rfl⟩
@[simp] def a_l01_CodeReads_r19 : List COper := [
  ⟨(some 80), .mov, [.t 5], none⟩,
  ⟨(some 81), .faddr 35 1 false, [.t 9], none⟩,
  ⟨(some 82), .load false 1, [.t 81], none⟩,
  ⟨(some 83), .faddr 36 1 false, [.t 9], none⟩,
  ⟨(some 84), .load false 1, [.t 83], none⟩,
  ⟨(some 85), .call fn_code_Reader_In, [.t 80, .t 82, .t 84], none⟩,
  ⟨(some 86), .mov, [.t 6], none⟩,
  ⟨(some 87), .faddr 35 1 false, [.t 9], none⟩,
  ⟨(some 88), .load false 1, [.t 87], none⟩,
  ⟨(some 89), .faddr 36 1 false, [.t 9], none⟩,
  ⟨(some 90), .load false 1, [.t 89], none⟩,
  ⟨(some 91), .call fn_r01_Reader_In, [.t 86, .t 88, .t 90], none⟩,
  ⟨(some 92), .bin .eql, [.t 85, .t 91], none⟩,
  ⟨(some 93), .mov, [.t 92], none⟩,
  ⟨(some 94), .mov, [.t 7], (some (93, true))⟩,
  ⟨(some 95), .faddr 35 1 false, [.t 9], (some (93, true))⟩,
  ⟨(some 96), .load false 1, [.t 95], (some (93, true))⟩,
  ⟨(some 97), .faddr 36 1 false, [.t 9], (some (93, true))⟩,
  ⟨(some 98), .load false 1, [.t 97], (some (93, true))⟩,
  ⟨(some 99), .call fn_code_Reader_In, [.t 94, .t 96, .t 98], (some (93, true))⟩,
  ⟨(some 100), .bin .eql, [.t 99, .c (.int .i64 0)], (some (93, true))⟩,
  ⟨(some 101), .pick, [.t 93, .t 100, .c (.bool false)], none⟩,
  ⟨(some 10), .mov, [.t 101], none⟩]
def c_l01_CodeReads_r19 : List COper := a_l01_CodeReads_r19
instance : Reg c_l01_CodeReads_r19 a_l01_CodeReads_r19 23 := ⟨rfl, rfl⟩
@[simp] def a_l01_CodeReads_r20 : List COper := [
  ⟨(some 102), .mov, [.t 10], none⟩,
  ⟨(some 103), .not, [.t 102], none⟩,
  ⟨(some 104), .mov, [.t 103], none⟩,
  ⟨(some 105), .mov, [.t 5], (some (104, false))⟩,
  ⟨(some 106), .call fn_code_Reader_Good, [.t 105], (some (104, false))⟩,
  ⟨(some 107), .mov, [.t 6], (some (104, false))⟩,
  ⟨(some 108), .call fn_r01_Reader_Good, [.t 107], (some (104, false))⟩,
  ⟨(some 109), .eqb true, [.t 106, .t 108], (some (104, false))⟩,
  ⟨(some 110), .pick, [.t 104, .c (.bool true), .t 109], none⟩,
  ⟨(some 111), .mov, [.t 110], none⟩,
  ⟨(some 112), .mov, [.t 5], (some (111, false))⟩,
  ⟨(some 113), .call fn_code_Reader_End, [.t 112], (some (111, false))⟩,
  ⟨(some 114), .mov, [.t 6], (some (111, false))⟩,
  ⟨(some 115), .call fn_r01_Reader_End, [.t 114], (some (111, false))⟩,
  ⟨(some 116), .eqb true, [.t 113, .t 115], (some (111, false))⟩,
  ⟨(some 117), .pick, [.t 111, .c (.bool true), .t 116], none⟩]
def c_l01_CodeReads_r20 : List COper := a_l01_CodeReads_r20
instance : Reg c_l01_CodeReads_r20 a_l01_CodeReads_r20 16 := ⟨rfl, rfl⟩
@[simp] def a_l01_CodeReads_r21 : List COper := [
  ⟨(some 4), .mov, [.c (.bool false)], none⟩]
def c_l01_CodeReads_r21 : List COper := a_l01_CodeReads_r21
instance : Reg c_l01_CodeReads_r21 a_l01_CodeReads_r21 1 := ⟨rfl, rfl⟩
@[simp] def a_l01_CodeReads_r22 : List COper := [
  ⟨(some 118), .bin .add, [.t 29, .c (.int .i64 1)], none⟩,
  ⟨(some 29), .mov, [.t 118], none⟩]
def c_l01_CodeReads_r22 : List COper := a_l01_CodeReads_r22
instance : Reg c_l01_CodeReads_r22 a_l01_CodeReads_r22 2 := ⟨rfl, rfl⟩
@[simp] def a_l01_CodeReads_r23 : List COper := [
  ⟨(some 119), .mov, [.t 7], none⟩,
  ⟨(some 120), .call fn_code_Reader_Good, [.t 119], none⟩,
  ⟨(some 121), .not, [.t 120], none⟩,
  ⟨(some 122), .mov, [.t 121], none⟩,
  ⟨(some 123), .mov, [.t 7], (some (122, true))⟩,
  ⟨(some 124), .call fn_code_Reader_End, [.t 123], (some (122, true))⟩,
  ⟨(some 125), .not, [.t 124], (some (122, true))⟩,
  ⟨(some 126), .pick, [.t 122, .t 125, .c (.bool false)], none⟩,
  ⟨(some 4), .mov, [.t 126], none⟩]
def c_l01_CodeReads_r23 : List COper := a_l01_CodeReads_r23
instance : Reg c_l01_CodeReads_r23 a_l01_CodeReads_r23 9 := ⟨rfl, rfl⟩
@[simp] def c_l01_CodeReads : CCode :=
  .seq (.region c_l01_CodeReads_r0 none [0, 1]) (.seq (.seq (.region c_l01_CodeReads_r1 none [0, 1, 12]) (.cond (.t 12) (.seq (.region c_l01_CodeReads_r2 none [4]) (.ret)) (.skip))) (.seq (.seq (.region c_l01_CodeReads_r3 none [0, 1, 20]) (.cond (.t 20) (.seq (.region c_l01_CodeReads_r4 none [4]) (.ret)) (.skip))) (.seq (.region c_l01_CodeReads_r5 (some ([0, 1, 0, 4, 12, 28, 3, 127], [(1, 3), (1, 5)])) [1, 5, 6]) (.seq (.region c_l01_CodeReads_r6 none [1, 5, 6, 7]) (.seq (.seq (.region c_l01_CodeReads_r7 none [5, 6, 7, 27, 28, 29]) (.block 0 (.loop (.seq (.region c_l01_CodeReads_r8 none [5, 6, 7, 27, 28, 29, 30]) (.seq (.cond (.t 30) (.skip) (.exit 0)) (.seq (.block 1 (.seq (.region c_l01_CodeReads_r9 none [5, 6, 7, 9, 27, 28, 29]) (.seq (.region c_l01_CodeReads_r10 none [5, 6, 7, 9, 10, 27, 28, 29]) (.seq (.seq (.region c_l01_CodeReads_r11 none [5, 6, 7, 9, 10, 27, 28, 29, 34]) (.block 2 (.seq (.region c_l01_CodeReads_r12 none [5, 6, 7, 9, 10, 27, 28, 29, 34, 35]) (.cond (.t 35) (.region c_l01_CodeReads_r13 none [5, 6, 7, 10, 27, 28, 29]) (.seq (.region c_l01_CodeReads_r14 none [5, 6, 7, 9, 10, 27, 28, 29, 34, 47]) (.cond (.t 47) (.region c_l01_CodeReads_r15 (some ([0, 0, 2, 7, 0, 0, 32, 127, 255, 511, 1023, 1023, 3071, 8191, 16383, 32767, 65535], [(3, 6)])) [5, 6, 7, 10, 27, 28, 29]) (.seq (.region c_l01_CodeReads_r16 none [5, 6, 7, 9, 10, 27, 28, 29, 34, 65]) (.cond (.t 65) (.region c_l01_CodeReads_r17 none [5, 6, 7, 10, 27, 28, 29]) (.seq (.region c_l01_CodeReads_r18 none [5, 6, 7, 9, 10, 27, 28, 29, 78]) (.cond (.t 78) (.region c_l01_CodeReads_r19 (some ([0, 0, 2, 0, 8, 31, 0, 0, 128, 0, 512, 2047, 4095, 8191, 16383, 16383, 49151, 16383, 147455, 524287, 1048575, 2097151, 4194303], [(5, 8), (5, 10)])) [5, 6, 7, 10, 27, 28, 29]) (.skip))))))))))) (.seq (.region c_l01_CodeReads_r20 none [5, 6, 7, 27, 28, 29, 117]) (.cond (.t 117) (.seq (.region c_l01_CodeReads_r21 none [4]) (.ret)) (.skip))))))) (.region c_l01_CodeReads_r22 none [5, 6, 7, 27, 28, 29]))))))) (.seq (.region c_l01_CodeReads_r23 none [4]) (.ret)))))))
@[simp] def R_l01_CodeReads : List CRes := [.tmp 4]
theorem k_l01_CodeReads : chkFn Try.prog fn_l01_CodeReads c_l01_CodeReads R_l01_CodeReads 2 = true := by kernel_rfl
/-! wapentake/wapentakelaw01.CodeStops -/
@[simp] def a_l01_CodeStops_r0 : List COper := [
  ⟨(some 4), .mov, [.c (.bool false)], none⟩]
def c_l01_CodeStops_r0 : List COper := a_l01_CodeStops_r0
instance : Reg c_l01_CodeStops_r0 a_l01_CodeStops_r0 1 := ⟨rfl, rfl⟩
@[simp] def a_l01_CodeStops_r1 : List COper := [
  ⟨(some 8), .call fn_l01_alive, [], none⟩,
  ⟨(some 9), .not, [.t 8], none⟩]
def c_l01_CodeStops_r1 : List COper := a_l01_CodeStops_r1
instance : Reg c_l01_CodeStops_r1 a_l01_CodeStops_r1 2 := ⟨rfl, rfl⟩
@[simp] def a_l01_CodeStops_r2 : List COper := [
  ⟨(some 4), .mov, [.c (.bool false)], none⟩]
def c_l01_CodeStops_r2 : List COper := a_l01_CodeStops_r2
instance : Reg c_l01_CodeStops_r2 a_l01_CodeStops_r2 1 := ⟨rfl, rfl⟩
@[simp] def a_l01_CodeStops_r3 : List COper := [
  ⟨(some 10), .mov, [.t 0], none⟩,
  ⟨(some 11), .len, [.t 10], none⟩,
  ⟨(some 12), .bin .gtr, [.t 11, .c (.int .i64 16384)], none⟩,
  ⟨(some 13), .mov, [.t 12], none⟩,
  ⟨(some 14), .mov, [.t 1], (some (13, false))⟩,
  ⟨(some 15), .len, [.t 14], (some (13, false))⟩,
  ⟨(some 16), .bin .gtr, [.t 15, .c (.int .i64 200)], (some (13, false))⟩,
  ⟨(some 17), .pick, [.t 13, .c (.bool true), .t 16], none⟩]
def c_l01_CodeStops_r3 : List COper := a_l01_CodeStops_r3
instance : Reg c_l01_CodeStops_r3 a_l01_CodeStops_r3 8 := ⟨rfl, rfl⟩
@[simp] def a_l01_CodeStops_r4 : List COper := [
  ⟨(some 4), .mov, [.c (.bool true)], none⟩]
def c_l01_CodeStops_r4 : List COper := a_l01_CodeStops_r4
instance : Reg c_l01_CodeStops_r4 a_l01_CodeStops_r4 1 := ⟨rfl, rfl⟩
@[simp] def a_l01_CodeStops_r5 : List COper := [
  ⟨(some 18), .mov, [.t 0], none⟩,
  ⟨(some 19), .call fn_code_Read, [.t 18], none⟩,
  ⟨(some 5), .mov, [.t 19], none⟩]
def c_l01_CodeStops_r5 : List COper := a_l01_CodeStops_r5
instance : Reg c_l01_CodeStops_r5 a_l01_CodeStops_r5 3 := ⟨rfl, rfl⟩
@[simp] def a_l01_CodeStops_r6 : List COper := [
  ⟨(some 20), .mov, [.t 5], none⟩,
  ⟨(some 21), .call fn_code_Reader_Text, [.t 20, .c (.int .i64 (-1))], none⟩,
  ⟨(some 22), .bin .neq, [.t 21, .c (.string (mkS []))], none⟩,
  ⟨(some 23), .mov, [.t 22], none⟩,
  ⟨(some 24), .mov, [.t 5], (some (23, false))⟩,
  ⟨(some 25), .call fn_code_Reader_Good, [.t 24], (some (23, false))⟩,
  ⟨(some 26), .pick, [.t 23, .c (.bool true), .t 25], none⟩]
def c_l01_CodeStops_r6 : List COper := a_l01_CodeStops_r6
instance : Reg c_l01_CodeStops_r6 a_l01_CodeStops_r6 7 := ⟨rfl, rfl⟩
@[simp] def a_l01_CodeStops_r7 : List COper := [
  ⟨(some 4), .mov, [.c (.bool false)], none⟩]
def c_l01_CodeStops_r7 : List COper := a_l01_CodeStops_r7
instance : Reg c_l01_CodeStops_r7 a_l01_CodeStops_r7 1 := ⟨rfl, rfl⟩
@[simp] def a_l01_CodeStops_r8 : List COper := [
  ⟨(some 27), .mov, [.t 1], none⟩,
  ⟨(some 28), .len, [.t 27], none⟩,
  ⟨(some 29), .mov, [.c (.int .i64 0)], none⟩]
def c_l01_CodeStops_r8 : List COper := a_l01_CodeStops_r8
instance : Reg c_l01_CodeStops_r8 a_l01_CodeStops_r8 3 := ⟨rfl, rfl⟩
@[simp] def a_l01_CodeStops_r9 : List COper := [
  ⟨(some 30), .bin .lss, [.t 29, .t 28], none⟩]
def c_l01_CodeStops_r9 : List COper := a_l01_CodeStops_r9
instance : Reg c_l01_CodeStops_r9 a_l01_CodeStops_r9 1 := ⟨rfl, rfl⟩
@[simp] def a_l01_CodeStops_r10 : List COper := [
  ⟨(some 31), .iaddr 37, [.t 27, .t 29], none⟩,
  ⟨(some 32), .load true 37, [.t 31], none⟩,
  ⟨(some 7), .alloc (.node [.v (.int .i64 0), .v (.int .i64 0), .v (.string (mkS [])), .arr 1 (rep 32 (.v (.int .u8 0))), .v (.int .i64 0), .v (.int .i64 0)]), [], none⟩,
  ⟨none, .store true 37, [.t 7, .t 32], none⟩]
def c_l01_CodeStops_r10 : List COper := a_l01_CodeStops_r10
instance : Reg c_l01_CodeStops_r10 a_l01_CodeStops_r10 4 := ⟨rfl, rfl⟩
@[simp] def a_l01_CodeStops_r11 : List COper := [
  ⟨(some 33), .mov, [.t 5], none⟩,
  ⟨(some 34), .call fn_code_Reader_Num, [.t 33], none⟩,
  ⟨(some 35), .bin .neq, [.t 34, .c (.int .i64 0)], none⟩,
  ⟨(some 36), .mov, [.t 35], none⟩,
  ⟨(some 37), .mov, [.t 5], (some (36, false))⟩,
  ⟨(some 38), .faddr 1 1 false, [.t 7], (some (36, false))⟩,
  ⟨(some 39), .load false 1, [.t 38], (some (36, false))⟩,
  ⟨(some 40), .call fn_code_Reader_Text, [.t 37, .t 39], (some (36, false))⟩,
  ⟨(some 41), .bin .neq, [.t 40, .c (.string (mkS []))], (some (36, false))⟩,
  ⟨(some 42), .pick, [.t 36, .c (.bool true), .t 41], none⟩,
  ⟨(some 43), .mov, [.t 42], none⟩,
  ⟨(some 44), .mov, [.t 5], (some (43, false))⟩,
  ⟨(some 45), .call fn_code_Reader_Digest, [.t 44], (some (43, false))⟩,
  ⟨(some 46), .buildA 1 (rep 32 (.v (.int .u8 0))) [], [], (some (43, false))⟩,
  ⟨(some 47), .eqa true .u8 32, [.t 45, .t 46], (some (43, false))⟩,
  ⟨(some 48), .pick, [.t 43, .c (.bool true), .t 47], none⟩,
  ⟨(some 49), .mov, [.t 48], none⟩,
  ⟨(some 50), .mov, [.t 5], (some (49, false))⟩,
  ⟨(some 51), .faddr 35 1 false, [.t 7], (some (49, false))⟩,
  ⟨(some 52), .load false 1, [.t 51], (some (49, false))⟩,
  ⟨(some 53), .faddr 36 1 false, [.t 7], (some (49, false))⟩,
  ⟨(some 54), .load false 1, [.t 53], (some (49, false))⟩,
  ⟨(some 55), .call fn_code_Reader_In, [.t 50, .t 52, .t 54], (some (49, false))⟩,
  ⟨(some 56), .bin .neq, [.t 55, .c (.int .i64 0)], (some (49, false))⟩,
  ⟨(some 57), .pick, [.t 49, .c (.bool true), .t 56], none⟩,
  ⟨(some 58), .mov, [.t 57], none⟩,
  ⟨(some 59), .mov, [.t 5], (some (58, false))⟩,
  ⟨(some 60), .call fn_code_Reader_Good, [.t 59], (some (58, false))⟩,
  ⟨(some 61), .pick, [.t 58, .c (.bool true), .t 60], none⟩,
  ⟨(some 62), .mov, [.t 61], none⟩,
  ⟨(some 63), .mov, [.t 5], (some (62, false))⟩,
  ⟨(some 64), .call fn_code_Reader_End, [.t 63], (some (62, false))⟩,
  ⟨(some 65), .pick, [.t 62, .c (.bool true), .t 64], none⟩]
def c_l01_CodeStops_r11 : List COper := a_l01_CodeStops_r11
instance : Reg c_l01_CodeStops_r11 a_l01_CodeStops_r11 33 := ⟨rfl, rfl⟩
@[simp] def a_l01_CodeStops_r12 : List COper := [
  ⟨(some 4), .mov, [.c (.bool false)], none⟩]
def c_l01_CodeStops_r12 : List COper := a_l01_CodeStops_r12
instance : Reg c_l01_CodeStops_r12 a_l01_CodeStops_r12 1 := ⟨rfl, rfl⟩
@[simp] def a_l01_CodeStops_r13 : List COper := [
  ⟨(some 66), .bin .add, [.t 29, .c (.int .i64 1)], none⟩,
  ⟨(some 29), .mov, [.t 66], none⟩]
def c_l01_CodeStops_r13 : List COper := a_l01_CodeStops_r13
instance : Reg c_l01_CodeStops_r13 a_l01_CodeStops_r13 2 := ⟨rfl, rfl⟩
@[simp] def a_l01_CodeStops_r14 : List COper := [
  ⟨(some 4), .mov, [.c (.bool true)], none⟩]
def c_l01_CodeStops_r14 : List COper := a_l01_CodeStops_r14
instance : Reg c_l01_CodeStops_r14 a_l01_CodeStops_r14 1 := ⟨rfl, rfl⟩
@[simp] def c_l01_CodeStops : CCode :=
  .seq (.region c_l01_CodeStops_r0 none [0, 1]) (.seq (.seq (.region c_l01_CodeStops_r1 none [0, 1, 9]) (.cond (.t 9) (.seq (.region c_l01_CodeStops_r2 none [4]) (.ret)) (.skip))) (.seq (.seq (.region c_l01_CodeStops_r3 none [0, 1, 17]) (.cond (.t 17) (.seq (.region c_l01_CodeStops_r4 none [4]) (.ret)) (.skip))) (.seq (.region c_l01_CodeStops_r5 none [1, 5]) (.seq (.seq (.region c_l01_CodeStops_r6 none [1, 5, 26]) (.cond (.t 26) (.seq (.region c_l01_CodeStops_r7 none [4]) (.ret)) (.skip))) (.seq (.seq (.region c_l01_CodeStops_r8 none [5, 27, 28, 29]) (.block 0 (.loop (.seq (.region c_l01_CodeStops_r9 none [5, 27, 28, 29, 30]) (.seq (.cond (.t 30) (.skip) (.exit 0)) (.seq (.block 1 (.seq (.region c_l01_CodeStops_r10 none [5, 7, 27, 28, 29]) (.seq (.region c_l01_CodeStops_r11 none [5, 27, 28, 29, 65]) (.cond (.t 65) (.seq (.region c_l01_CodeStops_r12 none [4]) (.ret)) (.skip))))) (.region c_l01_CodeStops_r13 none [5, 27, 28, 29]))))))) (.seq (.region c_l01_CodeStops_r14 none [4]) (.ret)))))))
@[simp] def R_l01_CodeStops : List CRes := [.tmp 4]
theorem k_l01_CodeStops : chkFn Try.prog fn_l01_CodeStops c_l01_CodeStops R_l01_CodeStops 2 = true := by kernel_rfl
/-! wapentake/wapentakelaw01.CodeBack -/
@[simp] def a_l01_CodeBack_r0 : List COper := [
  ⟨(some 2), .mov, [.c (.bool false)], none⟩]
def c_l01_CodeBack_r0 : List COper := a_l01_CodeBack_r0
instance : Reg c_l01_CodeBack_r0 a_l01_CodeBack_r0 1 := ⟨rfl, rfl⟩
@[simp] def a_l01_CodeBack_r1 : List COper := [
  ⟨(some 11), .call fn_l01_alive, [], none⟩,
  ⟨(some 12), .not, [.t 11], none⟩]
def c_l01_CodeBack_r1 : List COper := a_l01_CodeBack_r1
instance : Reg c_l01_CodeBack_r1 a_l01_CodeBack_r1 2 := ⟨rfl, rfl⟩
@[simp] def a_l01_CodeBack_r2 : List COper := [
  ⟨(some 2), .mov, [.c (.bool false)], none⟩]
def c_l01_CodeBack_r2 : List COper := a_l01_CodeBack_r2
instance : Reg c_l01_CodeBack_r2 a_l01_CodeBack_r2 1 := ⟨rfl, rfl⟩
@[simp] def a_l01_CodeBack_r3 : List COper := [
  ⟨(some 13), .mov, [.t 0], none⟩,
  ⟨(some 14), .call fn_l01_great, [.t 13], none⟩]
def c_l01_CodeBack_r3 : List COper := a_l01_CodeBack_r3
instance : Reg c_l01_CodeBack_r3 a_l01_CodeBack_r3 2 := ⟨rfl, rfl⟩
@[simp] def a_l01_CodeBack_r4 : List COper := [
  ⟨(some 2), .mov, [.c (.bool true)], none⟩]
def c_l01_CodeBack_r4 : List COper := a_l01_CodeBack_r4
instance : Reg c_l01_CodeBack_r4 a_l01_CodeBack_r4 1 := ⟨rfl, rfl⟩
@[simp] def a_l01_CodeBack_r5 : List COper := [
  ⟨(some 16), .mov, [.t 0], none⟩,
  ⟨(some 17), .call fn_l01_written, [.t 16], none⟩,
  ⟨(some 15), .mov, [.t 17], none⟩,
  ⟨(some 18), .ext 0, [.t 15], none⟩,
  ⟨(some 19), .ext 1, [.t 15], none⟩,
  ⟨(some 3), .mov, [.t 18], none⟩,
  ⟨(some 4), .mov, [.t 19], none⟩]
def c_l01_CodeBack_r5 : List COper := a_l01_CodeBack_r5
instance : Reg c_l01_CodeBack_r5 a_l01_CodeBack_r5 7 := ⟨rfl, rfl⟩
@[simp] def a_l01_CodeBack_r6 : List COper := [
  ⟨(some 5), .mov, [.c (.int .i64 0)], none⟩]
def c_l01_CodeBack_r6 : List COper := a_l01_CodeBack_r6
instance : Reg c_l01_CodeBack_r6 a_l01_CodeBack_r6 1 := ⟨rfl, rfl⟩
@[simp] def a_l01_CodeBack_r7 : List COper := [
  ⟨(some 20), .mov, [.t 5], none⟩,
  ⟨(some 21), .bin .lss, [.t 20, .c (.int .i64 3)], none⟩]
def c_l01_CodeBack_r7 : List COper := a_l01_CodeBack_r7
instance : Reg c_l01_CodeBack_r7 a_l01_CodeBack_r7 2 := ⟨rfl, rfl⟩
@[simp] def a_l01_CodeBack_r9 : List COper := [
  ⟨(some 24), .mov, [.t 5], none⟩,
  ⟨(some 25), .bin .eql, [.t 24, .c (.int .i64 2)], none⟩,
  ⟨(some 26), .mov, [.t 25], none⟩,
  ⟨(some 27), .mov, [.t 3], (some (26, true))⟩,
  ⟨(some 28), .len, [.t 27], (some (26, true))⟩,
  ⟨(some 29), .bin .eql, [.t 28, .c (.int .i64 0)], (some (26, true))⟩,
  ⟨(some 30), .pick, [.t 26, .t 29, .c (.bool false)], none⟩]
def c_l01_CodeBack_r9 : List COper := a_l01_CodeBack_r9
instance : Reg c_l01_CodeBack_r9 a_l01_CodeBack_r9 7 := ⟨rfl, rfl⟩
@[simp] def a_l01_CodeBack_r10 : List COper := [
  ⟨(some 31), .bslice 1 0 (.v (.int .u8 0)) [], [], none⟩,
  ⟨(some 32), .mov, [.t 3], none⟩,
  ⟨(some 33), .app 1 1, [.t 31, .t 32], none⟩,
  ⟨(some 34), .bslice 1 1 (.v (.int .u8 0)) [0], [.c (.int .u8 120)], none⟩,
  ⟨(some 35), .app 1 1, [.t 33, .t 34], none⟩,
  ⟨(some 6), .mov, [.t 35], none⟩]
def c_l01_CodeBack_r10 : List COper := a_l01_CodeBack_r10
instance : Reg c_l01_CodeBack_r10 a_l01_CodeBack_r10 6 := ⟨rfl, rfl⟩
@[simp] def a_l01_CodeBack_r11 : List COper := [
  ⟨(some 36), .mov, [.t 6], none⟩,
  ⟨(some 37), .mov, [.t 3], none⟩,
  ⟨(some 38), .len, [.t 37], none⟩,
  ⟨(some 39), .bin .add, [.t 38, .c (.int .i64 1)], none⟩,
  ⟨(some 40), .mov, [.t 5], none⟩,
  ⟨(some 41), .bin .sub, [.t 39, .t 40], none⟩,
  ⟨(some 42), .slice 1 false true, [.t 36, .t 41], none⟩,
  ⟨(some 6), .mov, [.t 42], none⟩]
def c_l01_CodeBack_r11 : List COper := a_l01_CodeBack_r11
instance : Reg c_l01_CodeBack_r11 a_l01_CodeBack_r11 8 := ⟨rfl, rfl⟩
@[simp] def a_l01_CodeBack_r12 : List COper := [
  ⟨(some 43), .mov, [.t 6], none⟩,
  ⟨(some 44), .call fn_code_Read, [.t 43], none⟩,
  ⟨(some 7), .mov, [.t 44], none⟩]
def c_l01_CodeBack_r12 : List COper := a_l01_CodeBack_r12
instance : Reg c_l01_CodeBack_r12 a_l01_CodeBack_r12 3 := ⟨rfl, rfl⟩
@[simp] def a_l01_CodeBack_r13 : List COper := [
  ⟨(some 45), .mov, [.t 0], none⟩,
  ⟨(some 46), .len, [.t 45], none⟩,
  ⟨(some 47), .mov, [.c (.int .i64 0)], none⟩]
def c_l01_CodeBack_r13 : List COper := a_l01_CodeBack_r13
instance : Reg c_l01_CodeBack_r13 a_l01_CodeBack_r13 3 := ⟨rfl, rfl⟩
@[simp] def a_l01_CodeBack_r14 : List COper := [
  ⟨(some 48), .bin .lss, [.t 47, .t 46], none⟩]
def c_l01_CodeBack_r14 : List COper := a_l01_CodeBack_r14
instance : Reg c_l01_CodeBack_r14 a_l01_CodeBack_r14 1 := ⟨rfl, rfl⟩
@[simp] def a_l01_CodeBack_r15 : List COper := [
  ⟨(some 49), .iaddr 37, [.t 45, .t 47], none⟩,
  ⟨(some 50), .load true 37, [.t 49], none⟩,
  ⟨(some 9), .alloc (.node [.v (.int .i64 0), .v (.int .i64 0), .v (.string (mkS [])), .arr 1 (rep 32 (.v (.int .u8 0))), .v (.int .i64 0), .v (.int .i64 0)]), [], none⟩,
  ⟨none, .store true 37, [.t 9, .t 50], none⟩]
def c_l01_CodeBack_r15 : List COper := a_l01_CodeBack_r15
instance : Reg c_l01_CodeBack_r15 a_l01_CodeBack_r15 4 := ⟨rfl, rfl⟩
@[simp] def a_l01_CodeBack_r16 : List COper := [
  ⟨(some 10), .mov, [.c (.bool true)], none⟩]
def c_l01_CodeBack_r16 : List COper := a_l01_CodeBack_r16
instance : Reg c_l01_CodeBack_r16 a_l01_CodeBack_r16 1 := ⟨rfl, rfl⟩
@[simp] def a_l01_CodeBack_r17 : List COper := [
  ⟨(some 51), .faddr 0 1 false, [.t 9], none⟩,
  ⟨(some 52), .load false 1, [.t 51], none⟩]
def c_l01_CodeBack_r17 : List COper := a_l01_CodeBack_r17
instance : Reg c_l01_CodeBack_r17 a_l01_CodeBack_r17 2 := ⟨rfl, rfl⟩
@[simp] def a_l01_CodeBack_r19 : List COper := [
  ⟨(some 63), .bin .eql, [.t 52, .c (.int .i64 1)], none⟩,
  ⟨(some 62), .mov, [.t 63], none⟩]
def c_l01_CodeBack_r19 : List COper := a_l01_CodeBack_r19
instance : Reg c_l01_CodeBack_r19 a_l01_CodeBack_r19 2 := ⟨rfl, rfl⟩
@[simp] def a_l01_CodeBack_r20 : List COper := [
  ⟨(some 64), .mov, [.t 7], none⟩,
  ⟨(some 65), .faddr 2 1 false, [.t 9], none⟩,
  ⟨(some 66), .load false 1, [.t 65], none⟩,
  ⟨(some 67), .lenS, [.t 66], none⟩,
  ⟨(some 68), .call fn_code_Reader_Text, [.t 64, .t 67], none⟩,
  ⟨(some 69), .faddr 2 1 false, [.t 9], none⟩,
  ⟨(some 70), .load false 1, [.t 69], none⟩,
  ⟨(some 71), .bin .eql, [.t 68, .t 70], none⟩,
  ⟨(some 10), .mov, [.t 71], none⟩]
def c_l01_CodeBack_r20 : List COper := a_l01_CodeBack_r20
instance : Reg c_l01_CodeBack_r20 a_l01_CodeBack_r20 9 := ⟨rfl, rfl⟩
@[simp] def a_l01_CodeBack_r21 : List COper := [
  ⟨(some 73), .bin .eql, [.t 52, .c (.int .i64 2)], none⟩,
  ⟨(some 72), .mov, [.t 73], none⟩]
def c_l01_CodeBack_r21 : List COper := a_l01_CodeBack_r21
instance : Reg c_l01_CodeBack_r21 a_l01_CodeBack_r21 2 := ⟨rfl, rfl⟩
@[simp] def a_l01_CodeBack_r22 : List COper := [
  ⟨(some 74), .mov, [.t 7], none⟩,
  ⟨(some 75), .call fn_code_Reader_Digest, [.t 74], none⟩,
  ⟨(some 76), .faddr 3 32 true, [.t 9], none⟩,
  ⟨(some 77), .load true 32, [.t 76], none⟩,
  ⟨(some 78), .eqa false .u8 32, [.t 75, .t 77], none⟩,
  ⟨(some 10), .mov, [.t 78], none⟩]
def c_l01_CodeBack_r22 : List COper := a_l01_CodeBack_r22
instance : Reg c_l01_CodeBack_r22 a_l01_CodeBack_r22 6 := ⟨rfl, rfl⟩
@[simp] def a_l01_CodeBack_r18 : List COper := [
  ⟨(some 53), .mov, [.t 7], none⟩,
  ⟨(some 54), .faddr 1 1 false, [.t 9], none⟩,
  ⟨(some 55), .load false 1, [.t 54], none⟩,
  ⟨(some 56), .faddr 1 1 false, [.t 9], none⟩,
  ⟨(some 57), .load false 1, [.t 56], none⟩,
  ⟨(some 58), .call fn_code_Reader_In, [.t 53, .t 55, .t 57], none⟩,
  ⟨(some 59), .faddr 1 1 false, [.t 9], none⟩,
  ⟨(some 60), .load false 1, [.t 59], none⟩,
  ⟨(some 61), .bin .eql, [.t 58, .t 60], none⟩,
  ⟨(some 10), .mov, [.t 61], none⟩]
def c_l01_CodeBack_r18 : List COper := a_l01_CodeBack_r18
instance : Reg c_l01_CodeBack_r18 a_l01_CodeBack_r18 10 := ⟨rfl, rfl⟩
@[simp] def a_l01_CodeBack_r23 : List COper := [
  ⟨(some 79), .mov, [.t 10], none⟩,
  ⟨(some 80), .not, [.t 79], none⟩,
  ⟨(some 81), .mov, [.t 80], none⟩,
  ⟨(some 82), .mov, [.t 5], (some (81, true))⟩,
  ⟨(some 83), .bin .lss, [.t 82, .c (.int .i64 2)], (some (81, true))⟩,
  ⟨(some 84), .pick, [.t 81, .t 83, .c (.bool false)], none⟩]
def c_l01_CodeBack_r23 : List COper := a_l01_CodeBack_r23
instance : Reg c_l01_CodeBack_r23 a_l01_CodeBack_r23 6 := ⟨rfl, rfl⟩
@[simp] def a_l01_CodeBack_r24 : List COper := [
  ⟨(some 2), .mov, [.c (.bool false)], none⟩]
def c_l01_CodeBack_r24 : List COper := a_l01_CodeBack_r24
instance : Reg c_l01_CodeBack_r24 a_l01_CodeBack_r24 1 := ⟨rfl, rfl⟩
@[simp] def a_l01_CodeBack_r25 : List COper := [
  ⟨(some 85), .bin .add, [.t 47, .c (.int .i64 1)], none⟩,
  ⟨(some 47), .mov, [.t 85], none⟩]
def c_l01_CodeBack_r25 : List COper := a_l01_CodeBack_r25
instance : Reg c_l01_CodeBack_r25 a_l01_CodeBack_r25 2 := ⟨rfl, rfl⟩
@[simp] def a_l01_CodeBack_r26 : List COper := [
  ⟨(some 86), .mov, [.t 7], none⟩,
  ⟨(some 87), .call fn_code_Reader_Good, [.t 86], none⟩,
  ⟨(some 88), .mov, [.t 5], none⟩,
  ⟨(some 89), .bin .lss, [.t 88, .c (.int .i64 2)], none⟩,
  ⟨(some 90), .eqb true, [.t 87, .t 89], none⟩,
  ⟨(some 91), .mov, [.t 90], none⟩,
  ⟨(some 92), .mov, [.t 7], (some (91, false))⟩,
  ⟨(some 93), .call fn_code_Reader_End, [.t 92], (some (91, false))⟩,
  ⟨(some 94), .mov, [.t 5], (some (91, false))⟩,
  ⟨(some 95), .bin .eql, [.t 94, .c (.int .i64 1)], (some (91, false))⟩,
  ⟨(some 96), .eqb true, [.t 93, .t 95], (some (91, false))⟩,
  ⟨(some 97), .pick, [.t 91, .c (.bool true), .t 96], none⟩]
def c_l01_CodeBack_r26 : List COper := a_l01_CodeBack_r26
instance : Reg c_l01_CodeBack_r26 a_l01_CodeBack_r26 12 := ⟨rfl, rfl⟩
@[simp] def a_l01_CodeBack_r27 : List COper := [
  ⟨(some 2), .mov, [.c (.bool false)], none⟩]
def c_l01_CodeBack_r27 : List COper := a_l01_CodeBack_r27
instance : Reg c_l01_CodeBack_r27 a_l01_CodeBack_r27 1 := ⟨rfl, rfl⟩
@[simp] def a_l01_CodeBack_r8 : List COper := [
  ⟨(some 22), .mov, [.t 5], none⟩,
  ⟨(some 23), .bin .add, [.t 22, .c (.int .i64 1)], none⟩,
  ⟨(some 5), .mov, [.t 23], none⟩]
def c_l01_CodeBack_r8 : List COper := a_l01_CodeBack_r8
instance : Reg c_l01_CodeBack_r8 a_l01_CodeBack_r8 3 := ⟨rfl, rfl⟩
@[simp] def a_l01_CodeBack_r28 : List COper := [
  ⟨(some 2), .mov, [.c (.bool true)], none⟩]
def c_l01_CodeBack_r28 : List COper := a_l01_CodeBack_r28
instance : Reg c_l01_CodeBack_r28 a_l01_CodeBack_r28 1 := ⟨rfl, rfl⟩
@[simp] def c_l01_CodeBack : CCode :=
  .seq (.region c_l01_CodeBack_r0 none [0]) (.seq (.seq (.region c_l01_CodeBack_r1 none [0, 12]) (.cond (.t 12) (.seq (.region c_l01_CodeBack_r2 none [2]) (.ret)) (.skip))) (.seq (.seq (.region c_l01_CodeBack_r3 none [0, 14]) (.cond (.t 14) (.seq (.region c_l01_CodeBack_r4 none [2]) (.ret)) (.skip))) (.seq (.region c_l01_CodeBack_r5 none [0, 3]) (.seq (.seq (.region c_l01_CodeBack_r6 none [0, 3, 5]) (.block 0 (.loop (.seq (.seq (.region c_l01_CodeBack_r7 none [0, 3, 5, 21]) (.cond (.t 21) (.skip) (.exit 0))) (.seq (.block 1 (.seq (.seq (.region c_l01_CodeBack_r9 none [0, 3, 5, 30]) (.cond (.t 30) (.exit 0) (.skip))) (.seq (.region c_l01_CodeBack_r10 none [0, 3, 5, 6]) (.seq (.region c_l01_CodeBack_r11 none [0, 3, 5, 6]) (.seq (.region c_l01_CodeBack_r12 none [0, 3, 5, 7]) (.seq (.seq (.region c_l01_CodeBack_r13 none [0, 3, 5, 7, 45, 46, 47]) (.block 2 (.loop (.seq (.region c_l01_CodeBack_r14 none [0, 3, 5, 7, 45, 46, 47, 48]) (.seq (.cond (.t 48) (.skip) (.exit 2)) (.seq (.block 3 (.seq (.region c_l01_CodeBack_r15 none [0, 3, 5, 7, 9, 45, 46, 47]) (.seq (.region c_l01_CodeBack_r16 none [0, 3, 5, 7, 9, 45, 46, 47]) (.seq (.seq (.region c_l01_CodeBack_r17 none [0, 3, 5, 7, 9, 45, 46, 47, 52]) (.block 4 (.seq (.region c_l01_CodeBack_r19 none [0, 3, 5, 7, 9, 45, 46, 47, 52, 62]) (.cond (.t 62) (.region c_l01_CodeBack_r20 (some ([0, 0, 2, 6, 15, 0, 32, 127, 255], [(4, 6)])) [0, 3, 5, 7, 10, 45, 46, 47]) (.seq (.region c_l01_CodeBack_r21 none [0, 3, 5, 7, 9, 45, 46, 47, 72]) (.cond (.t 72) (.region c_l01_CodeBack_r22 (some ([0, 1, 0, 4, 15, 31], [(1, 3)])) [0, 3, 5, 7, 10, 45, 46, 47]) (.region c_l01_CodeBack_r18 (some ([0, 0, 2, 0, 8, 31, 0, 64, 255, 511], [(5, 7)])) [0, 3, 5, 7, 10, 45, 46, 47]))))))) (.seq (.region c_l01_CodeBack_r23 none [0, 3, 5, 7, 45, 46, 47, 84]) (.cond (.t 84) (.seq (.region c_l01_CodeBack_r24 none [2]) (.ret)) (.skip))))))) (.region c_l01_CodeBack_r25 none [0, 3, 5, 7, 45, 46, 47]))))))) (.seq (.region c_l01_CodeBack_r26 none [0, 3, 5, 97]) (.cond (.t 97) (.seq (.region c_l01_CodeBack_r27 none [2]) (.ret)) (.skip))))))))) (.region c_l01_CodeBack_r8 none [0, 3, 5])))))) (.seq (.region c_l01_CodeBack_r28 none [2]) (.ret))))))
@[simp] def R_l01_CodeBack : List CRes := [.tmp 2]
theorem k_l01_CodeBack : chkFn Try.prog fn_l01_CodeBack c_l01_CodeBack R_l01_CodeBack 1 = true := by kernel_rfl
/-! wapentake/wapentakelaw01.CodeOne -/
@[simp] def a_l01_CodeOne_r0 : List COper := [
  ⟨(some 4), .mov, [.c (.bool false)], none⟩]
def c_l01_CodeOne_r0 : List COper := a_l01_CodeOne_r0
instance : Reg c_l01_CodeOne_r0 a_l01_CodeOne_r0 1 := ⟨rfl, rfl⟩
@[simp] def a_l01_CodeOne_r1 : List COper := [
  ⟨(some 9), .call fn_l01_alive, [], none⟩,
  ⟨(some 10), .not, [.t 9], none⟩]
def c_l01_CodeOne_r1 : List COper := a_l01_CodeOne_r1
instance : Reg c_l01_CodeOne_r1 a_l01_CodeOne_r1 2 := ⟨rfl, rfl⟩
@[simp] def a_l01_CodeOne_r2 : List COper := [
  ⟨(some 4), .mov, [.c (.bool false)], none⟩]
def c_l01_CodeOne_r2 : List COper := a_l01_CodeOne_r2
instance : Reg c_l01_CodeOne_r2 a_l01_CodeOne_r2 1 := ⟨rfl, rfl⟩
@[simp] def a_l01_CodeOne_r3 : List COper := [
  ⟨(some 11), .mov, [.t 0], none⟩,
  ⟨(some 12), .len, [.t 11], none⟩,
  ⟨(some 13), .bin .gtr, [.t 12, .c (.int .i64 16384)], none⟩,
  ⟨(some 14), .mov, [.t 13], none⟩,
  ⟨(some 15), .mov, [.t 1], (some (14, false))⟩,
  ⟨(some 16), .len, [.t 15], (some (14, false))⟩,
  ⟨(some 17), .bin .gtr, [.t 16, .c (.int .i64 200)], (some (14, false))⟩,
  ⟨(some 18), .pick, [.t 14, .c (.bool true), .t 17], none⟩]
def c_l01_CodeOne_r3 : List COper := a_l01_CodeOne_r3
instance : Reg c_l01_CodeOne_r3 a_l01_CodeOne_r3 8 := ⟨rfl, rfl⟩
@[simp] def a_l01_CodeOne_r4 : List COper := [
  ⟨(some 4), .mov, [.c (.bool true)], none⟩]
def c_l01_CodeOne_r4 : List COper := a_l01_CodeOne_r4
instance : Reg c_l01_CodeOne_r4 a_l01_CodeOne_r4 1 := ⟨rfl, rfl⟩
@[simp] def a_l01_CodeOne_r5 : List COper := [
  ⟨(some 19), .mov, [.t 0], none⟩,
  ⟨(some 20), .call fn_code_Read, [.t 19], none⟩,
  ⟨(some 21), .build [.v (.slice none 0 0)] [], [], none⟩,
  ⟨(some 22), .box, [.t 21], none⟩,
  ⟨(some 5), .mov, [.t 20], none⟩,
  ⟨(some 6), .mov, [.t 22], none⟩]
def c_l01_CodeOne_r5 : List COper := a_l01_CodeOne_r5
instance : Reg c_l01_CodeOne_r5 a_l01_CodeOne_r5 6 := ⟨rfl, rfl⟩
@[simp] def a_l01_CodeOne_r6 : List COper := [
  ⟨(some 23), .mov, [.t 1], none⟩,
  ⟨(some 24), .len, [.t 23], none⟩,
  ⟨(some 25), .mov, [.c (.int .i64 0)], none⟩]
def c_l01_CodeOne_r6 : List COper := a_l01_CodeOne_r6
instance : Reg c_l01_CodeOne_r6 a_l01_CodeOne_r6 3 := ⟨rfl, rfl⟩
@[simp] def a_l01_CodeOne_r7 : List COper := [
  ⟨(some 26), .bin .lss, [.t 25, .t 24], none⟩]
def c_l01_CodeOne_r7 : List COper := a_l01_CodeOne_r7
instance : Reg c_l01_CodeOne_r7 a_l01_CodeOne_r7 1 := ⟨rfl, rfl⟩
@[simp] def a_l01_CodeOne_r8 : List COper := [
  ⟨(some 27), .iaddr 37, [.t 23, .t 25], none⟩,
  ⟨(some 28), .load true 37, [.t 27], none⟩,
  ⟨(some 8), .alloc (.node [.v (.int .i64 0), .v (.int .i64 0), .v (.string (mkS [])), .arr 1 (rep 32 (.v (.int .u8 0))), .v (.int .i64 0), .v (.int .i64 0)]), [], none⟩,
  ⟨none, .store true 37, [.t 8, .t 28], none⟩]
def c_l01_CodeOne_r8 : List COper := a_l01_CodeOne_r8
instance : Reg c_l01_CodeOne_r8 a_l01_CodeOne_r8 4 := ⟨rfl, rfl⟩
@[simp] def a_l01_CodeOne_r9 : List COper := [
  ⟨(some 29), .faddr 0 1 false, [.t 8], none⟩,
  ⟨(some 30), .load false 1, [.t 29], none⟩]
def c_l01_CodeOne_r9 : List COper := a_l01_CodeOne_r9
instance : Reg c_l01_CodeOne_r9 a_l01_CodeOne_r9 2 := ⟨rfl, rfl⟩
@[simp] def a_l01_CodeOne_r11 : List COper := [
  ⟨(some 37), .bin .eql, [.t 30, .c (.int .i64 1)], none⟩,
  ⟨(some 36), .mov, [.t 37], none⟩]
def c_l01_CodeOne_r11 : List COper := a_l01_CodeOne_r11
instance : Reg c_l01_CodeOne_r11 a_l01_CodeOne_r11 2 := ⟨rfl, rfl⟩
@[simp] def a_l01_CodeOne_r12 : List COper := [
  ⟨(some 38), .mov, [.t 6], none⟩,
  ⟨(some 39), .mov, [.t 5], none⟩,
  ⟨(some 40), .faddr 1 1 false, [.t 8], none⟩,
  ⟨(some 41), .load false 1, [.t 40], none⟩,
  ⟨(some 42), .call fn_code_Reader_Text, [.t 39, .t 41], none⟩,
  ⟨(some 43), .bslice 1 1 (.v (.string (mkS []))) [0], [.t 42], none⟩,
  ⟨(some 44), .call fn_code_Writer_Text, [.t 38, .t 43], none⟩]
def c_l01_CodeOne_r12 : List COper := a_l01_CodeOne_r12
instance : Reg c_l01_CodeOne_r12 a_l01_CodeOne_r12 7 := ⟨rfl, rfl⟩
@[simp] def a_l01_CodeOne_r13 : List COper := [
  ⟨(some 46), .bin .eql, [.t 30, .c (.int .i64 2)], none⟩,
  ⟨(some 45), .mov, [.t 46], none⟩]
def c_l01_CodeOne_r13 : List COper := a_l01_CodeOne_r13
instance : Reg c_l01_CodeOne_r13 a_l01_CodeOne_r13 2 := ⟨rfl, rfl⟩
@[simp] def a_l01_CodeOne_r14 : List COper := [
  ⟨(some 47), .mov, [.t 6], none⟩,
  ⟨(some 48), .mov, [.t 5], none⟩,
  ⟨(some 49), .call fn_code_Reader_Digest, [.t 48], none⟩,
  ⟨(some 50), .bslice 32 1 (.arr 1 (rep 32 (.v (.int .u8 0)))) [0], [.t 49], none⟩,
  ⟨(some 51), .call fn_code_Writer_Digest, [.t 47, .t 50], none⟩]
def c_l01_CodeOne_r14 : List COper := a_l01_CodeOne_r14
instance : Reg c_l01_CodeOne_r14 a_l01_CodeOne_r14 5 := ⟨rfl, rfl⟩
@[simp] def a_l01_CodeOne_r15 : List COper := [
  ⟨(some 53), .bin .eql, [.t 30, .c (.int .i64 3)], none⟩,
  ⟨(some 52), .mov, [.t 53], none⟩]
def c_l01_CodeOne_r15 : List COper := a_l01_CodeOne_r15
instance : Reg c_l01_CodeOne_r15 a_l01_CodeOne_r15 2 := ⟨rfl, rfl⟩
@[simp] def a_l01_CodeOne_r16 : List COper := [
  ⟨(some 54), .mov, [.t 6], none⟩,
  ⟨(some 55), .mov, [.t 5], none⟩,
  ⟨(some 56), .faddr 35 1 false, [.t 8], none⟩,
  ⟨(some 57), .load false 1, [.t 56], none⟩,
  ⟨(some 58), .faddr 36 1 false, [.t 8], none⟩,
  ⟨(some 59), .load false 1, [.t 58], none⟩,
  ⟨(some 60), .call fn_code_Reader_In, [.t 55, .t 57, .t 59], none⟩,
  ⟨(some 61), .bslice 1 1 (.v (.int .i64 0)) [0], [.t 60], none⟩,
  ⟨(some 62), .call fn_code_Writer_Num, [.t 54, .t 61], none⟩]
def c_l01_CodeOne_r16 : List COper := a_l01_CodeOne_r16
instance : Reg c_l01_CodeOne_r16 a_l01_CodeOne_r16 9 := ⟨rfl, rfl⟩
@[simp] def a_l01_CodeOne_r10 : List COper := [
  ⟨(some 31), .mov, [.t 6], none⟩,
  ⟨(some 32), .mov, [.t 5], none⟩,
  ⟨(some 33), .call fn_code_Reader_Num, [.t 32], none⟩,
  ⟨(some 34), .bslice 1 1 (.v (.int .i64 0)) [0], [.t 33], none⟩,
  ⟨(some 35), .call fn_code_Writer_Num, [.t 31, .t 34], none⟩]
def c_l01_CodeOne_r10 : List COper := a_l01_CodeOne_r10
instance : Reg c_l01_CodeOne_r10 a_l01_CodeOne_r10 5 := ⟨rfl, rfl⟩
@[simp] def a_l01_CodeOne_r17 : List COper := [
  ⟨(some 63), .bin .add, [.t 25, .c (.int .i64 1)], none⟩,
  ⟨(some 25), .mov, [.t 63], none⟩]
def c_l01_CodeOne_r17 : List COper := a_l01_CodeOne_r17
instance : Reg c_l01_CodeOne_r17 a_l01_CodeOne_r17 2 := ⟨rfl, rfl⟩
@[simp] def a_l01_CodeOne_r18 : List COper := [
  ⟨(some 64), .mov, [.t 5], none⟩,
  ⟨(some 65), .call fn_code_Reader_End, [.t 64], none⟩,
  ⟨(some 66), .not, [.t 65], none⟩,
  ⟨(some 67), .mov, [.t 66], none⟩,
  ⟨(some 68), .mov, [.t 6], (some (67, false))⟩,
  ⟨(some 69), .call fn_code_Writer_Bytes, [.t 68], (some (67, false))⟩,
  ⟨(some 70), .convS, [.t 69], (some (67, false))⟩,
  ⟨(some 71), .mov, [.t 0], (some (67, false))⟩,
  ⟨(some 72), .convS, [.t 71], (some (67, false))⟩,
  ⟨(some 73), .bin .eql, [.t 70, .t 72], (some (67, false))⟩,
  ⟨(some 74), .pick, [.t 67, .c (.bool true), .t 73], none⟩,
  ⟨(some 4), .mov, [.t 74], none⟩]
def c_l01_CodeOne_r18 : List COper := a_l01_CodeOne_r18
instance : Reg c_l01_CodeOne_r18 a_l01_CodeOne_r18 12 := ⟨rfl, rfl⟩
@[simp] def c_l01_CodeOne : CCode :=
  .seq (.region c_l01_CodeOne_r0 none [0, 1]) (.seq (.seq (.region c_l01_CodeOne_r1 none [0, 1, 10]) (.cond (.t 10) (.seq (.region c_l01_CodeOne_r2 none [4]) (.ret)) (.skip))) (.seq (.seq (.region c_l01_CodeOne_r3 none [0, 1, 18]) (.cond (.t 18) (.seq (.region c_l01_CodeOne_r4 none [4]) (.ret)) (.skip))) (.seq (.region c_l01_CodeOne_r5 none [0, 1, 5, 6]) (.seq (.seq (.region c_l01_CodeOne_r6 none [0, 5, 6, 23, 24, 25]) (.block 0 (.loop (.seq (.region c_l01_CodeOne_r7 none [0, 5, 6, 23, 24, 25, 26]) (.seq (.cond (.t 26) (.skip) (.exit 0)) (.seq (.block 1 (.seq (.region c_l01_CodeOne_r8 none [0, 5, 6, 8, 23, 24, 25]) (.seq (.region c_l01_CodeOne_r9 none [0, 5, 6, 8, 23, 24, 25, 30]) (.block 2 (.seq (.region c_l01_CodeOne_r11 none [0, 5, 6, 8, 23, 24, 25, 30, 36]) (.cond (.t 36) (.region c_l01_CodeOne_r12 none [0, 5, 6, 23, 24, 25]) (.seq (.region c_l01_CodeOne_r13 none [0, 5, 6, 8, 23, 24, 25, 30, 45]) (.cond (.t 45) (.region c_l01_CodeOne_r14 none [0, 5, 6, 23, 24, 25]) (.seq (.region c_l01_CodeOne_r15 none [0, 5, 6, 8, 23, 24, 25, 52]) (.cond (.t 52) (.region c_l01_CodeOne_r16 none [0, 5, 6, 23, 24, 25]) (.region c_l01_CodeOne_r10 none [0, 5, 6, 23, 24, 25]))))))))))) (.region c_l01_CodeOne_r17 none [0, 5, 6, 23, 24, 25]))))))) (.seq (.region c_l01_CodeOne_r18 (some ([0, 1, 3, 7, 15, 31, 63, 15, 143, 511, 1023, 2047], [(5, 8)])) [4]) (.ret))))))
@[simp] def R_l01_CodeOne : List CRes := [.tmp 4]
theorem k_l01_CodeOne : chkFn Try.prog fn_l01_CodeOne c_l01_CodeOne R_l01_CodeOne 2 = true := by kernel_rfl
/-! wapentake/wapentakelaw01.alive -/
@[simp] def a_l01_alive_r0 : List COper := [
  ⟨(some 0), .mov, [.c (.bool false)], none⟩]
def c_l01_alive_r0 : List COper := a_l01_alive_r0
instance : Reg c_l01_alive_r0 a_l01_alive_r0 1 := ⟨rfl, rfl⟩
@[simp] def a_l01_alive_r1 : List COper := [
  ⟨(some 3), .build [.v (.slice none 0 0)] [], [], none⟩,
  ⟨(some 4), .box, [.t 3], none⟩,
  ⟨(some 1), .mov, [.t 4], none⟩]
def c_l01_alive_r1 : List COper := a_l01_alive_r1
instance : Reg c_l01_alive_r1 a_l01_alive_r1 3 := ⟨rfl, rfl⟩
@[simp] def a_l01_alive_r2 : List COper := [
  ⟨(some 5), .mov, [.t 1], none⟩,
  ⟨(some 6), .bslice 1 1 (.v (.int .i64 0)) [0], [.c (.int .i64 258)], none⟩,
  ⟨(some 7), .call fn_code_Writer_Num, [.t 5, .t 6], none⟩]
def c_l01_alive_r2 : List COper := a_l01_alive_r2
instance : Reg c_l01_alive_r2 a_l01_alive_r2 3 := ⟨rfl, rfl⟩
@[simp] def a_l01_alive_r3 : List COper := [
  ⟨(some 8), .mov, [.t 1], none⟩,
  ⟨(some 9), .bslice 1 1 (.v (.string (mkS []))) [0], [.c (.string (mkS [97, 98]))], none⟩,
  ⟨(some 10), .call fn_code_Writer_Text, [.t 8, .t 9], none⟩]
def c_l01_alive_r3 : List COper := a_l01_alive_r3
instance : Reg c_l01_alive_r3 a_l01_alive_r3 3 := ⟨rfl, rfl⟩
@[simp] def a_l01_alive_r4 : List COper := [
  ⟨(some 11), .mov, [.t 1], none⟩,
  ⟨(some 12), .call fn_code_Writer_Bytes, [.t 11], none⟩,
  ⟨(some 13), .call fn_code_Read, [.t 12], none⟩,
  ⟨(some 2), .mov, [.t 13], none⟩]
def c_l01_alive_r4 : List COper := a_l01_alive_r4
instance : Reg c_l01_alive_r4 a_l01_alive_r4 4 := ⟨rfl, rfl⟩
@[simp] def a_l01_alive_r5 : List COper := [
  ⟨(some 14), .mov, [.t 1], none⟩,
  ⟨(some 15), .call fn_code_Writer_Bytes, [.t 14], none⟩,
  ⟨(some 16), .convS, [.t 15], none⟩,
  ⟨(some 17), .bin .eql, [.t 16, .c (.string (mkS [0, 0, 0, 0, 0, 0, 1, 2, 0, 0, 0, 2, 97, 98]))], none⟩,
  ⟨(some 18), .mov, [.t 17], none⟩,
  ⟨(some 19), .mov, [.t 2], (some (18, true))⟩,
  ⟨(some 20), .eqp true, [.t 19, .c (.pointer none)], (some (18, true))⟩,
  ⟨(some 21), .pick, [.t 18, .t 20, .c (.bool false)], none⟩,
  ⟨(some 22), .mov, [.t 21], none⟩,
  ⟨(some 23), .mov, [.t 2], (some (22, true))⟩,
  ⟨(some 24), .call fn_code_Reader_Num, [.t 23], (some (22, true))⟩,
  ⟨(some 25), .bin .eql, [.t 24, .c (.int .i64 258)], (some (22, true))⟩,
  ⟨(some 26), .pick, [.t 22, .t 25, .c (.bool false)], none⟩,
  ⟨(some 27), .mov, [.t 26], none⟩,
  ⟨(some 28), .mov, [.t 2], (some (27, true))⟩,
  ⟨(some 29), .call fn_code_Reader_Text, [.t 28, .c (.int .i64 2)], (some (27, true))⟩,
  ⟨(some 30), .bin .eql, [.t 29, .c (.string (mkS [97, 98]))], (some (27, true))⟩,
  ⟨(some 31), .pick, [.t 27, .t 30, .c (.bool false)], none⟩,
  ⟨(some 32), .mov, [.t 31], none⟩,
  ⟨(some 33), .mov, [.t 2], (some (32, true))⟩,
  ⟨(some 34), .call fn_code_Reader_End, [.t 33], (some (32, true))⟩,
  ⟨(some 35), .pick, [.t 32, .t 34, .c (.bool false)], none⟩,
  ⟨(some 0), .mov, [.t 35], none⟩]
def c_l01_alive_r5 : List COper := a_l01_alive_r5
instance : Reg c_l01_alive_r5 a_l01_alive_r5 23 := ⟨rfl, rfl⟩
@[simp] def c_l01_alive : CCode :=
  .seq (.region c_l01_alive_r0 none []) (.seq (.region c_l01_alive_r1 none [1]) (.seq (.region c_l01_alive_r2 none [1]) (.seq (.region c_l01_alive_r3 none [1]) (.seq (.region c_l01_alive_r4 none [1, 2]) (.seq (.region c_l01_alive_r5 none [0]) (.ret))))))
@[simp] def R_l01_alive : List CRes := [.tmp 0]
theorem k_l01_alive : chkFn Try.prog fn_l01_alive c_l01_alive R_l01_alive 0 = true := by kernel_rfl
/-! wapentake/wapentakelaw01.great -/
@[simp] def a_l01_great_r0 : List COper := [
  ⟨(some 2), .mov, [.c (.bool false)], none⟩]
def c_l01_great_r0 : List COper := a_l01_great_r0
instance : Reg c_l01_great_r0 a_l01_great_r0 1 := ⟨rfl, rfl⟩
@[simp] def a_l01_great_r1 : List COper := [
  ⟨(some 3), .mov, [.c (.int .i64 0)], none⟩]
def c_l01_great_r1 : List COper := a_l01_great_r1
instance : Reg c_l01_great_r1 a_l01_great_r1 1 := ⟨rfl, rfl⟩
@[simp] def a_l01_great_r2 : List COper := [
  ⟨(some 6), .mov, [.t 0], none⟩,
  ⟨(some 7), .len, [.t 6], none⟩,
  ⟨(some 8), .mov, [.c (.int .i64 0)], none⟩]
def c_l01_great_r2 : List COper := a_l01_great_r2
instance : Reg c_l01_great_r2 a_l01_great_r2 3 := ⟨rfl, rfl⟩
@[simp] def a_l01_great_r3 : List COper := [
  ⟨(some 9), .bin .lss, [.t 8, .t 7], none⟩]
def c_l01_great_r3 : List COper := a_l01_great_r3
instance : Reg c_l01_great_r3 a_l01_great_r3 1 := ⟨rfl, rfl⟩
@[simp] def a_l01_great_r4 : List COper := [
  ⟨(some 10), .iaddr 37, [.t 6, .t 8], none⟩,
  ⟨(some 11), .load true 37, [.t 10], none⟩,
  ⟨(some 5), .alloc (.node [.v (.int .i64 0), .v (.int .i64 0), .v (.string (mkS [])), .arr 1 (rep 32 (.v (.int .u8 0))), .v (.int .i64 0), .v (.int .i64 0)]), [], none⟩,
  ⟨none, .store true 37, [.t 5, .t 11], none⟩]
def c_l01_great_r4 : List COper := a_l01_great_r4
instance : Reg c_l01_great_r4 a_l01_great_r4 4 := ⟨rfl, rfl⟩
@[simp] def a_l01_great_r5 : List COper := [
  ⟨(some 12), .mov, [.t 3], none⟩,
  ⟨(some 13), .faddr 2 1 false, [.t 5], none⟩,
  ⟨(some 14), .load false 1, [.t 13], none⟩,
  ⟨(some 15), .lenS, [.t 14], none⟩,
  ⟨(some 16), .bin .add, [.t 12, .t 15], none⟩,
  ⟨(some 3), .mov, [.t 16], none⟩]
def c_l01_great_r5 : List COper := a_l01_great_r5
instance : Reg c_l01_great_r5 a_l01_great_r5 6 := ⟨rfl, rfl⟩
@[simp] def a_l01_great_r6 : List COper := [
  ⟨(some 17), .mov, [.t 3], none⟩,
  ⟨(some 18), .bin .gtr, [.t 17, .c (.int .i64 16384)], none⟩]
def c_l01_great_r6 : List COper := a_l01_great_r6
instance : Reg c_l01_great_r6 a_l01_great_r6 2 := ⟨rfl, rfl⟩
@[simp] def a_l01_great_r7 : List COper := [
  ⟨(some 2), .mov, [.c (.bool true)], none⟩]
def c_l01_great_r7 : List COper := a_l01_great_r7
instance : Reg c_l01_great_r7 a_l01_great_r7 1 := ⟨rfl, rfl⟩
@[simp] def a_l01_great_r8 : List COper := [
  ⟨(some 19), .bin .add, [.t 8, .c (.int .i64 1)], none⟩,
  ⟨(some 8), .mov, [.t 19], none⟩]
def c_l01_great_r8 : List COper := a_l01_great_r8
instance : Reg c_l01_great_r8 a_l01_great_r8 2 := ⟨rfl, rfl⟩
@[simp] def a_l01_great_r9 : List COper := [
  ⟨(some 20), .mov, [.t 0], none⟩,
  ⟨(some 21), .len, [.t 20], none⟩,
  ⟨(some 22), .bin .gtr, [.t 21, .c (.int .i64 200)], none⟩,
  ⟨(some 2), .mov, [.t 22], none⟩]
def c_l01_great_r9 : List COper := a_l01_great_r9
instance : Reg c_l01_great_r9 a_l01_great_r9 4 := ⟨rfl, rfl⟩
@[simp] def c_l01_great : CCode :=
  .seq (.region c_l01_great_r0 none [0]) (.seq (.region c_l01_great_r1 none [0, 3]) (.seq (.seq (.region c_l01_great_r2 none [0, 3, 6, 7, 8]) (.block 0 (.loop (.seq (.region c_l01_great_r3 none [0, 3, 6, 7, 8, 9]) (.seq (.cond (.t 9) (.skip) (.exit 0)) (.seq (.block 1 (.seq (.region c_l01_great_r4 none [0, 3, 5, 6, 7, 8]) (.seq (.region c_l01_great_r5 none [0, 3, 6, 7, 8]) (.seq (.region c_l01_great_r6 none [0, 3, 6, 7, 8, 18]) (.cond (.t 18) (.seq (.region c_l01_great_r7 none [2]) (.ret)) (.skip)))))) (.region c_l01_great_r8 none [0, 3, 6, 7, 8]))))))) (.seq (.region c_l01_great_r9 none [2]) (.ret))))
@[simp] def R_l01_great : List CRes := [.tmp 2]
theorem k_l01_great : chkFn Try.prog fn_l01_great c_l01_great R_l01_great 1 = true := by kernel_rfl
/-! wapentake/code.Read -/
@[simp] def a_code_Read_r0 : List COper := [
  ⟨(some 2), .mov, [.c (.pointer none)], none⟩]
def c_code_Read_r0 : List COper := a_code_Read_r0
instance : Reg c_code_Read_r0 a_code_Read_r0 1 := ⟨rfl, rfl⟩
@[simp] def a_code_Read_r1 : List COper := [
  ⟨(some 3), .bslice 1 0 (.v (.int .u8 0)) [], [], none⟩,
  ⟨(some 4), .mov, [.t 0], none⟩,
  ⟨(some 5), .app 1 1, [.t 3, .t 4], none⟩,
  ⟨(some 6), .build [.v (.slice none 0 0), .v (.bool false)] [0], [.t 5], none⟩,
  ⟨(some 7), .box, [.t 6], none⟩,
  ⟨(some 2), .mov, [.t 7], none⟩]
def c_code_Read_r1 : List COper := a_code_Read_r1
instance : Reg c_code_Read_r1 a_code_Read_r1 6 := ⟨rfl, rfl⟩
@[simp] def c_code_Read : CCode :=
  .seq (.region c_code_Read_r0 none [0]) (.seq (.region c_code_Read_r1 none [2]) (.ret))
@[simp] def R_code_Read : List CRes := [.tmp 2]
theorem k_code_Read : chkFn Try.prog fn_code_Read c_code_Read R_code_Read 1 = true := by kernel_rfl
/-! (*wapentake/code.Writer).Text -/
@[simp] def a_code_Writer_Text_r0 : List COper := [
  ⟨(some 7), .mov, [.t 0], none⟩,
  ⟨(some 8), .eqp false, [.t 7, .c (.pointer none)], none⟩]
def c_code_Writer_Text_r0 : List COper := a_code_Writer_Text_r0
instance : Reg c_code_Writer_Text_r0 a_code_Writer_Text_r0 2 := ⟨rfl, rfl⟩
@[simp] def a_code_Writer_Text_r1 : List COper := [
  ⟨(some 9), .mov, [.t 1], none⟩,
  ⟨(some 10), .len, [.t 9], none⟩,
  ⟨(some 11), .mov, [.c (.int .i64 0)], none⟩]
def c_code_Writer_Text_r1 : List COper := a_code_Writer_Text_r1
instance : Reg c_code_Writer_Text_r1 a_code_Writer_Text_r1 3 := ⟨rfl, rfl⟩
@[simp] def a_code_Writer_Text_r2 : List COper := [
  ⟨(some 12), .bin .lss, [.t 11, .t 10], none⟩]
def c_code_Writer_Text_r2 : List COper := a_code_Writer_Text_r2
instance : Reg c_code_Writer_Text_r2 a_code_Writer_Text_r2 1 := ⟨rfl, rfl⟩
@[simp] def a_code_Writer_Text_r3 : List COper := [
  ⟨(some 13), .iaddr 1, [.t 9, .t 11], none⟩,
  ⟨(some 14), .load false 1, [.t 13], none⟩,
  ⟨(some 5), .mov, [.t 14], none⟩]
def c_code_Writer_Text_r3 : List COper := a_code_Writer_Text_r3
instance : Reg c_code_Writer_Text_r3 a_code_Writer_Text_r3 3 := ⟨rfl, rfl⟩
@[simp] def a_code_Writer_Text_r4 : List COper := [
  ⟨(some 15), .mov, [.t 5], none⟩,
  ⟨(some 16), .lenS, [.t 15], none⟩,
  ⟨(some 6), .mov, [.t 16], none⟩]
def c_code_Writer_Text_r4 : List COper := a_code_Writer_Text_r4
instance : Reg c_code_Writer_Text_r4 a_code_Writer_Text_r4 3 := ⟨rfl, rfl⟩
@[simp] def a_code_Writer_Text_r5 : List COper := [
  ⟨(some 17), .mov, [.t 0], none⟩,
  ⟨(some 18), .mov, [.t 0], none⟩,
  ⟨(some 19), .nilc, [.t 18], none⟩,
  ⟨(some 20), .faddr 0 1 false, [.t 19], none⟩,
  ⟨(some 21), .load false 1, [.t 20], none⟩,
  ⟨(some 22), .mov, [.t 6], none⟩,
  ⟨(some 23), .bin .shr, [.t 22, .c (.int .u64 24)], none⟩,
  ⟨(some 24), .convI .u8, [.t 23], none⟩,
  ⟨(some 25), .mov, [.t 6], none⟩,
  ⟨(some 26), .bin .shr, [.t 25, .c (.int .u64 16)], none⟩,
  ⟨(some 27), .convI .u8, [.t 26], none⟩,
  ⟨(some 28), .mov, [.t 6], none⟩,
  ⟨(some 29), .bin .shr, [.t 28, .c (.int .u64 8)], none⟩,
  ⟨(some 30), .convI .u8, [.t 29], none⟩,
  ⟨(some 31), .mov, [.t 6], none⟩,
  ⟨(some 32), .convI .u8, [.t 31], none⟩,
  ⟨(some 33), .bslice 1 4 (.v (.int .u8 0)) [0, 1, 2, 3], [.t 24, .t 27, .t 30, .t 32], none⟩,
  ⟨(some 34), .app 1 1, [.t 21, .t 33], none⟩,
  ⟨(some 35), .nilc, [.t 17], none⟩,
  ⟨(some 36), .faddr 0 1 false, [.t 35], none⟩,
  ⟨none, .store false 1, [.t 36, .t 34], none⟩]
def c_code_Writer_Text_r5 : List COper := a_code_Writer_Text_r5
instance : Reg c_code_Writer_Text_r5 a_code_Writer_Text_r5 21 := ⟨rfl, rfl⟩
@[simp] def a_code_Writer_Text_r6 : List COper := [
  ⟨(some 37), .mov, [.t 0], none⟩,
  ⟨(some 38), .mov, [.t 0], none⟩,
  ⟨(some 39), .nilc, [.t 38], none⟩,
  ⟨(some 40), .faddr 0 1 false, [.t 39], none⟩,
  ⟨(some 41), .load false 1, [.t 40], none⟩,
  ⟨(some 42), .mov, [.t 5], none⟩,
  ⟨(some 43), .appS 1, [.t 41, .t 42], none⟩,
  ⟨(some 44), .nilc, [.t 37], none⟩,
  ⟨(some 45), .faddr 0 1 false, [.t 44], none⟩,
  ⟨none, .store false 1, [.t 45, .t 43], none⟩]
def c_code_Writer_Text_r6 : List COper := a_code_Writer_Text_r6
instance : Reg c_code_Writer_Text_r6 a_code_Writer_Text_r6 10 := ⟨rfl, rfl⟩
@[simp] def a_code_Writer_Text_r7 : List COper := [
  ⟨(some 46), .bin .add, [.t 11, .c (.int .i64 1)], none⟩,
  ⟨(some 11), .mov, [.t 46], none⟩]
def c_code_Writer_Text_r7 : List COper := a_code_Writer_Text_r7
instance : Reg c_code_Writer_Text_r7 a_code_Writer_Text_r7 2 := ⟨rfl, rfl⟩
@[simp] def c_code_Writer_Text : CCode :=
  .seq (.seq (.region c_code_Writer_Text_r0 none [0, 1, 8]) (.cond (.t 8) (.ret) (.skip))) (.seq (.region c_code_Writer_Text_r1 none [0, 9, 10, 11]) (.block 0 (.loop (.seq (.region c_code_Writer_Text_r2 none [0, 9, 10, 11, 12]) (.seq (.cond (.t 12) (.skip) (.exit 0)) (.seq (.block 1 (.seq (.region c_code_Writer_Text_r3 none [0, 5, 9, 10, 11]) (.seq (.region c_code_Writer_Text_r4 none [0, 5, 6, 9, 10, 11]) (.seq (.region c_code_Writer_Text_r5 none [0, 5, 9, 10, 11]) (.region c_code_Writer_Text_r6 none [0, 9, 10, 11]))))) (.region c_code_Writer_Text_r7 none [0, 9, 10, 11])))))))
@[simp] def R_code_Writer_Text : List CRes := []
theorem k_code_Writer_Text : chkFn Try.prog fn_code_Writer_Text c_code_Writer_Text R_code_Writer_Text 2 = true := by kernel_rfl
/-! (*wapentake/code.Writer).Bytes -/
@[simp] def a_code_Writer_Bytes_r0 : List COper := [
  ⟨(some 2), .mov, [.c (.slice none 0 0)], none⟩]
def c_code_Writer_Bytes_r0 : List COper := a_code_Writer_Bytes_r0
instance : Reg c_code_Writer_Bytes_r0 a_code_Writer_Bytes_r0 1 := ⟨rfl, rfl⟩
@[simp] def a_code_Writer_Bytes_r1 : List COper := [
  ⟨(some 3), .mov, [.t 0], none⟩,
  ⟨(some 4), .eqp false, [.t 3, .c (.pointer none)], none⟩]
def c_code_Writer_Bytes_r1 : List COper := a_code_Writer_Bytes_r1
instance : Reg c_code_Writer_Bytes_r1 a_code_Writer_Bytes_r1 2 := ⟨rfl, rfl⟩
@[simp] def a_code_Writer_Bytes_r2 : List COper := [
  ⟨(some 2), .mov, [.c (.slice none 0 0)], none⟩]
def c_code_Writer_Bytes_r2 : List COper := a_code_Writer_Bytes_r2
instance : Reg c_code_Writer_Bytes_r2 a_code_Writer_Bytes_r2 1 := ⟨rfl, rfl⟩
@[simp] def a_code_Writer_Bytes_r3 : List COper := [
  ⟨(some 5), .mov, [.t 0], none⟩,
  ⟨(some 6), .nilc, [.t 5], none⟩,
  ⟨(some 7), .faddr 0 1 false, [.t 6], none⟩,
  ⟨(some 8), .load false 1, [.t 7], none⟩,
  ⟨(some 9), .slice0 1, [.t 8], none⟩,
  ⟨(some 10), .mov, [.t 0], none⟩,
  ⟨(some 11), .nilc, [.t 10], none⟩,
  ⟨(some 12), .faddr 0 1 false, [.t 11], none⟩,
  ⟨(some 13), .load false 1, [.t 12], none⟩,
  ⟨(some 14), .app 1 1, [.t 9, .t 13], none⟩,
  ⟨(some 2), .mov, [.t 14], none⟩]
def c_code_Writer_Bytes_r3 : List COper := a_code_Writer_Bytes_r3
instance : Reg c_code_Writer_Bytes_r3 a_code_Writer_Bytes_r3 11 := ⟨rfl, rfl⟩
@[simp] def c_code_Writer_Bytes : CCode :=
  .seq (.region c_code_Writer_Bytes_r0 none [0]) (.seq (.seq (.region c_code_Writer_Bytes_r1 none [0, 4]) (.cond (.t 4) (.seq (.region c_code_Writer_Bytes_r2 none [2]) (.ret)) (.skip))) (.seq (.region c_code_Writer_Bytes_r3 (some ([0, 1, 3, 7, 15, 0, 32, 96, 224, 511, 1023], [(4, 8)])) [2]) (.ret)))
@[simp] def R_code_Writer_Bytes : List CRes := [.tmp 2]
theorem k_code_Writer_Bytes : chkFn Try.prog fn_code_Writer_Bytes c_code_Writer_Bytes R_code_Writer_Bytes 1 = true := by kernel_rfl
/-! (*wapentake/code.Reader).Digest -/
@[simp] def a_code_Reader_Digest_r0 : List COper := [
  ⟨(some 2), .alloc (.arr 1 (rep 32 (.v (.int .u8 0)))), [], none⟩]
def c_code_Reader_Digest_r0 : List COper := a_code_Reader_Digest_r0
instance : Reg c_code_Reader_Digest_r0 a_code_Reader_Digest_r0 1 := ⟨rfl, rfl⟩
@[simp] def a_code_Reader_Digest_r1 : List COper := [
  ⟨(some 3), .alloc (.arr 1 (rep 32 (.v (.int .u8 0)))), [], none⟩]
def c_code_Reader_Digest_r1 : List COper := a_code_Reader_Digest_r1
instance : Reg c_code_Reader_Digest_r1 a_code_Reader_Digest_r1 1 := ⟨rfl, rfl⟩
@[simp] def a_code_Reader_Digest_r2 : List COper := [
  ⟨(some 4), .sliceArr 32 1 false false, [.t 3], none⟩,
  ⟨(some 5), .mov, [.t 0], none⟩,
  ⟨(some 6), .call fn_code_Reader_take, [.t 5, .c (.int .i64 32)], none⟩,
  ⟨(some 7), .copy 1, [.t 4, .t 6], none⟩]
def c_code_Reader_Digest_r2 : List COper := a_code_Reader_Digest_r2
instance : Reg c_code_Reader_Digest_r2 a_code_Reader_Digest_r2 4 := ⟨rfl, rfl⟩
@[simp] def a_code_Reader_Digest_r3 : List COper := [
  ⟨(some 8), .load true 32, [.t 3], none⟩,
  ⟨none, .store true 32, [.t 2, .t 8], none⟩]
def c_code_Reader_Digest_r3 : List COper := a_code_Reader_Digest_r3
instance : Reg c_code_Reader_Digest_r3 a_code_Reader_Digest_r3 2 := ⟨rfl, rfl⟩
@[simp] def c_code_Reader_Digest : CCode :=
  .seq (.region c_code_Reader_Digest_r0 none [0, 2]) (.seq (.region c_code_Reader_Digest_r1 none [0, 2, 3]) (.seq (.region c_code_Reader_Digest_r2 (some ([0, 0, 2, 7], [])) [2, 3]) (.seq (.region c_code_Reader_Digest_r3 none [2]) (.ret))))
@[simp] def R_code_Reader_Digest : List CRes := [.cell 2 true 32]
theorem k_code_Reader_Digest : chkFn Try.prog fn_code_Reader_Digest c_code_Reader_Digest R_code_Reader_Digest 1 = true := by kernel_rfl
/-! (*wapentake/code.Reader).Num -/
@[simp] def a_code_Reader_Num_r0 : List COper := [
  ⟨(some 2), .mov, [.c (.int .i64 0)], none⟩]
def c_code_Reader_Num_r0 : List COper := a_code_Reader_Num_r0
instance : Reg c_code_Reader_Num_r0 a_code_Reader_Num_r0 1 := ⟨rfl, rfl⟩
@[simp] def a_code_Reader_Num_r1 : List COper := [
  ⟨(some 3), .mov, [.c (.int .u64 0)], none⟩]
def c_code_Reader_Num_r1 : List COper := a_code_Reader_Num_r1
instance : Reg c_code_Reader_Num_r1 a_code_Reader_Num_r1 1 := ⟨rfl, rfl⟩
@[simp] def a_code_Reader_Num_r2 : List COper := [
  ⟨(some 6), .mov, [.t 0], none⟩,
  ⟨(some 7), .call fn_code_Reader_take, [.t 6, .c (.int .i64 8)], none⟩,
  ⟨(some 8), .len, [.t 7], none⟩,
  ⟨(some 9), .mov, [.c (.int .i64 0)], none⟩]
def c_code_Reader_Num_r2 : List COper := a_code_Reader_Num_r2
instance : Reg c_code_Reader_Num_r2 a_code_Reader_Num_r2 4 := ⟨rfl, rfl⟩
@[simp] def a_code_Reader_Num_r3 : List COper := [
  ⟨(some 10), .bin .lss, [.t 9, .t 8], none⟩]
def c_code_Reader_Num_r3 : List COper := a_code_Reader_Num_r3
instance : Reg c_code_Reader_Num_r3 a_code_Reader_Num_r3 1 := ⟨rfl, rfl⟩
@[simp] def a_code_Reader_Num_r4 : List COper := [
  ⟨(some 11), .iaddr 1, [.t 7, .t 9], none⟩,
  ⟨(some 12), .load false 1, [.t 11], none⟩,
  ⟨(some 5), .mov, [.t 12], none⟩]
def c_code_Reader_Num_r4 : List COper := a_code_Reader_Num_r4
instance : Reg c_code_Reader_Num_r4 a_code_Reader_Num_r4 3 := ⟨rfl, rfl⟩
@[simp] def a_code_Reader_Num_r5 : List COper := [
  ⟨(some 13), .mov, [.t 3], none⟩,
  ⟨(some 14), .bin .shl, [.t 13, .c (.int .u64 8)], none⟩,
  ⟨(some 15), .mov, [.t 5], none⟩,
  ⟨(some 16), .convI .u64, [.t 15], none⟩,
  ⟨(some 17), .bin .or, [.t 14, .t 16], none⟩,
  ⟨(some 3), .mov, [.t 17], none⟩]
def c_code_Reader_Num_r5 : List COper := a_code_Reader_Num_r5
instance : Reg c_code_Reader_Num_r5 a_code_Reader_Num_r5 6 := ⟨rfl, rfl⟩
@[simp] def a_code_Reader_Num_r6 : List COper := [
  ⟨(some 18), .bin .add, [.t 9, .c (.int .i64 1)], none⟩,
  ⟨(some 9), .mov, [.t 18], none⟩]
def c_code_Reader_Num_r6 : List COper := a_code_Reader_Num_r6
instance : Reg c_code_Reader_Num_r6 a_code_Reader_Num_r6 2 := ⟨rfl, rfl⟩
@[simp] def a_code_Reader_Num_r7 : List COper := [
  ⟨(some 19), .mov, [.t 3], none⟩,
  ⟨(some 20), .convI .i64, [.t 19], none⟩,
  ⟨(some 2), .mov, [.t 20], none⟩]
def c_code_Reader_Num_r7 : List COper := a_code_Reader_Num_r7
instance : Reg c_code_Reader_Num_r7 a_code_Reader_Num_r7 3 := ⟨rfl, rfl⟩
@[simp] def c_code_Reader_Num : CCode :=
  .seq (.region c_code_Reader_Num_r0 none [0]) (.seq (.region c_code_Reader_Num_r1 none [0, 3]) (.seq (.seq (.region c_code_Reader_Num_r2 none [3, 7, 8, 9]) (.block 0 (.loop (.seq (.region c_code_Reader_Num_r3 none [3, 7, 8, 9, 10]) (.seq (.cond (.t 10) (.skip) (.exit 0)) (.seq (.block 1 (.seq (.region c_code_Reader_Num_r4 none [3, 5, 7, 8, 9]) (.region c_code_Reader_Num_r5 none [3, 7, 8, 9]))) (.region c_code_Reader_Num_r6 none [3, 7, 8, 9]))))))) (.seq (.region c_code_Reader_Num_r7 none [2]) (.ret))))
@[simp] def R_code_Reader_Num : List CRes := [.tmp 2]
theorem k_code_Reader_Num : chkFn Try.prog fn_code_Reader_Num c_code_Reader_Num R_code_Reader_Num 1 = true := by kernel_rfl
/-! wapentake/wapentakelaw01.written -/
@[simp] def a_l01_written_r0 : List COper := [
  ⟨(some 2), .mov, [.c (.slice none 0 0)], none⟩,
  ⟨(some 3), .mov, [.c (.string (mkS []))], none⟩]
def c_l01_written_r0 : List COper := a_l01_written_r0
instance : Reg c_l01_written_r0 a_l01_written_r0 2 := ⟨rfl, rfl⟩
@[simp] def a_l01_written_r1 : List COper := [
  ⟨(some 8), .build [.v (.slice none 0 0)] [], [], none⟩,
  ⟨(some 9), .box, [.t 8], none⟩,
  ⟨(some 4), .mov, [.t 9], none⟩]
def c_l01_written_r1 : List COper := a_l01_written_r1
instance : Reg c_l01_written_r1 a_l01_written_r1 3 := ⟨rfl, rfl⟩
@[simp] def a_l01_written_r2 : List COper := [
  ⟨(some 5), .mov, [.c (.string (mkS []))], none⟩]
def c_l01_written_r2 : List COper := a_l01_written_r2
instance : Reg c_l01_written_r2 a_l01_written_r2 1 := ⟨rfl, rfl⟩
@[simp] def a_l01_written_r3 : List COper := [
  ⟨(some 10), .mov, [.t 0], none⟩,
  ⟨(some 11), .len, [.t 10], none⟩,
  ⟨(some 12), .mov, [.c (.int .i64 0)], none⟩]
def c_l01_written_r3 : List COper := a_l01_written_r3
instance : Reg c_l01_written_r3 a_l01_written_r3 3 := ⟨rfl, rfl⟩
@[simp] def a_l01_written_r4 : List COper := [
  ⟨(some 13), .bin .lss, [.t 12, .t 11], none⟩]
def c_l01_written_r4 : List COper := a_l01_written_r4
instance : Reg c_l01_written_r4 a_l01_written_r4 1 := ⟨rfl, rfl⟩
@[simp] def a_l01_written_r5 : List COper := [
  ⟨(some 14), .iaddr 37, [.t 10, .t 12], none⟩,
  ⟨(some 15), .load true 37, [.t 14], none⟩,
  ⟨(some 7), .alloc (.node [.v (.int .i64 0), .v (.int .i64 0), .v (.string (mkS [])), .arr 1 (rep 32 (.v (.int .u8 0))), .v (.int .i64 0), .v (.int .i64 0)]), [], none⟩,
  ⟨none, .store true 37, [.t 7, .t 15], none⟩]
def c_l01_written_r5 : List COper := a_l01_written_r5
instance : Reg c_l01_written_r5 a_l01_written_r5 4 := ⟨rfl, rfl⟩
@[simp] def a_l01_written_r6 : List COper := [
  ⟨(some 16), .faddr 0 1 false, [.t 7], none⟩,
  ⟨(some 17), .load false 1, [.t 16], none⟩]
def c_l01_written_r6 : List COper := a_l01_written_r6
instance : Reg c_l01_written_r6 a_l01_written_r6 2 := ⟨rfl, rfl⟩
@[simp] def a_l01_written_r9 : List COper := [
  ⟨(some 29), .bin .eql, [.t 17, .c (.int .i64 1)], none⟩,
  ⟨(some 28), .mov, [.t 29], none⟩]
def c_l01_written_r9 : List COper := a_l01_written_r9
instance : Reg c_l01_written_r9 a_l01_written_r9 2 := ⟨rfl, rfl⟩
@[simp] def a_l01_written_r10 : List COper := [
  ⟨(some 30), .mov, [.t 4], none⟩,
  ⟨(some 31), .faddr 2 1 false, [.t 7], none⟩,
  ⟨(some 32), .load false 1, [.t 31], none⟩,
  ⟨(some 33), .bslice 1 1 (.v (.string (mkS []))) [0], [.t 32], none⟩,
  ⟨(some 34), .call fn_code_Writer_Text, [.t 30, .t 33], none⟩]
def c_l01_written_r10 : List COper := a_l01_written_r10
instance : Reg c_l01_written_r10 a_l01_written_r10 5 := ⟨rfl, rfl⟩
@[simp] def a_l01_written_r11 : List COper := [
  ⟨(some 35), .mov, [.t 5], none⟩,
  ⟨(some 36), .faddr 2 1 false, [.t 7], none⟩,
  ⟨(some 37), .load false 1, [.t 36], none⟩,
  ⟨(some 38), .call fn_r01_Text, [.t 37], none⟩,
  ⟨(some 39), .bin .add, [.t 35, .t 38], none⟩,
  ⟨(some 5), .mov, [.t 39], none⟩]
def c_l01_written_r11 : List COper := a_l01_written_r11
instance : Reg c_l01_written_r11 a_l01_written_r11 6 := ⟨rfl, rfl⟩
@[simp] def a_l01_written_r12 : List COper := [
  ⟨(some 41), .bin .eql, [.t 17, .c (.int .i64 2)], none⟩,
  ⟨(some 40), .mov, [.t 41], none⟩]
def c_l01_written_r12 : List COper := a_l01_written_r12
instance : Reg c_l01_written_r12 a_l01_written_r12 2 := ⟨rfl, rfl⟩
@[simp] def a_l01_written_r13 : List COper := [
  ⟨(some 42), .mov, [.t 4], none⟩,
  ⟨(some 43), .faddr 3 32 true, [.t 7], none⟩,
  ⟨(some 44), .load true 32, [.t 43], none⟩,
  ⟨(some 45), .bslice 32 1 (.arr 1 (rep 32 (.v (.int .u8 0)))) [0], [.t 44], none⟩,
  ⟨(some 46), .call fn_code_Writer_Digest, [.t 42, .t 45], none⟩]
def c_l01_written_r13 : List COper := a_l01_written_r13
instance : Reg c_l01_written_r13 a_l01_written_r13 5 := ⟨rfl, rfl⟩
@[simp] def a_l01_written_r14 : List COper := [
  ⟨(some 47), .mov, [.t 5], none⟩,
  ⟨(some 48), .faddr 3 32 true, [.t 7], none⟩,
  ⟨(some 49), .load true 32, [.t 48], none⟩,
  ⟨(some 50), .call fn_r01_Digest, [.t 49], none⟩,
  ⟨(some 51), .bin .add, [.t 47, .t 50], none⟩,
  ⟨(some 5), .mov, [.t 51], none⟩]
def c_l01_written_r14 : List COper := a_l01_written_r14
instance : Reg c_l01_written_r14 a_l01_written_r14 6 := ⟨rfl, rfl⟩
@[simp] def a_l01_written_r7 : List COper := [
  ⟨(some 18), .mov, [.t 4], none⟩,
  ⟨(some 19), .faddr 1 1 false, [.t 7], none⟩,
  ⟨(some 20), .load false 1, [.t 19], none⟩,
  ⟨(some 21), .bslice 1 1 (.v (.int .i64 0)) [0], [.t 20], none⟩,
  ⟨(some 22), .call fn_code_Writer_Num, [.t 18, .t 21], none⟩]
def c_l01_written_r7 : List COper := a_l01_written_r7
instance : Reg c_l01_written_r7 a_l01_written_r7 5 := ⟨rfl, rfl⟩
@[simp] def a_l01_written_r8 : List COper := [
  ⟨(some 23), .mov, [.t 5], none⟩,
  ⟨(some 24), .faddr 1 1 false, [.t 7], none⟩,
  ⟨(some 25), .load false 1, [.t 24], none⟩,
  ⟨(some 26), .call fn_r01_Num, [.t 25], none⟩,
  ⟨(some 27), .bin .add, [.t 23, .t 26], none⟩,
  ⟨(some 5), .mov, [.t 27], none⟩]
def c_l01_written_r8 : List COper := a_l01_written_r8
instance : Reg c_l01_written_r8 a_l01_written_r8 6 := ⟨rfl, rfl⟩
@[simp] def a_l01_written_r15 : List COper := [
  ⟨(some 52), .bin .add, [.t 12, .c (.int .i64 1)], none⟩,
  ⟨(some 12), .mov, [.t 52], none⟩]
def c_l01_written_r15 : List COper := a_l01_written_r15
instance : Reg c_l01_written_r15 a_l01_written_r15 2 := ⟨rfl, rfl⟩
@[simp] def a_l01_written_r16 : List COper := [
  ⟨(some 53), .mov, [.t 4], none⟩,
  ⟨(some 54), .call fn_code_Writer_Bytes, [.t 53], none⟩,
  ⟨(some 55), .mov, [.t 5], none⟩,
  ⟨(some 2), .mov, [.t 54], none⟩,
  ⟨(some 3), .mov, [.t 55], none⟩]
def c_l01_written_r16 : List COper := a_l01_written_r16
instance : Reg c_l01_written_r16 a_l01_written_r16 5 := ⟨rfl, rfl⟩
@[simp] def c_l01_written : CCode :=
  .seq (.region c_l01_written_r0 none [0]) (.seq (.region c_l01_written_r1 none [0, 4]) (.seq (.region c_l01_written_r2 none [0, 4, 5]) (.seq (.seq (.region c_l01_written_r3 none [4, 5, 10, 11, 12]) (.block 0 (.loop (.seq (.region c_l01_written_r4 none [4, 5, 10, 11, 12, 13]) (.seq (.cond (.t 13) (.skip) (.exit 0)) (.seq (.block 1 (.seq (.region c_l01_written_r5 none [4, 5, 7, 10, 11, 12]) (.seq (.region c_l01_written_r6 none [4, 5, 7, 10, 11, 12, 17]) (.block 2 (.seq (.region c_l01_written_r9 none [4, 5, 7, 10, 11, 12, 17, 28]) (.cond (.t 28) (.seq (.region c_l01_written_r10 none [4, 5, 7, 10, 11, 12]) (.region c_l01_written_r11 none [4, 5, 10, 11, 12])) (.seq (.region c_l01_written_r12 none [4, 5, 7, 10, 11, 12, 40]) (.cond (.t 40) (.seq (.region c_l01_written_r13 none [4, 5, 7, 10, 11, 12]) (.region c_l01_written_r14 none [4, 5, 10, 11, 12])) (.seq (.region c_l01_written_r7 none [4, 5, 7, 10, 11, 12]) (.region c_l01_written_r8 none [4, 5, 10, 11, 12])))))))))) (.region c_l01_written_r15 none [4, 5, 10, 11, 12]))))))) (.seq (.region c_l01_written_r16 none [2, 3]) (.ret)))))
@[simp] def R_l01_written : List CRes := [.tmp 2, .tmp 3]
theorem k_l01_written : chkFn Try.prog fn_l01_written c_l01_written R_l01_written 1 = true := by kernel_rfl
/-! wapentake/wapentakeref01.Num -/
@[simp] def a_r01_Num_r0 : List COper := [
  ⟨(some 2), .mov, [.c (.string (mkS []))], none⟩]
def c_r01_Num_r0 : List COper := a_r01_Num_r0
instance : Reg c_r01_Num_r0 a_r01_Num_r0 1 := ⟨rfl, rfl⟩
@[simp] def a_r01_Num_r1 : List COper := [
  ⟨(some 3), .alloc (.arr 1 (rep 8 (.v (.int .u8 0)))), [], none⟩]
def c_r01_Num_r1 : List COper := a_r01_Num_r1
instance : Reg c_r01_Num_r1 a_r01_Num_r1 1 := ⟨rfl, rfl⟩
@[simp] def a_r01_Num_r2 : List COper := [
  ⟨(some 4), .mov, [.c (.int .i64 0)], none⟩]
def c_r01_Num_r2 : List COper := a_r01_Num_r2
instance : Reg c_r01_Num_r2 a_r01_Num_r2 1 := ⟨rfl, rfl⟩
@[simp] def a_r01_Num_r3 : List COper := [
  ⟨(some 5), .mov, [.t 4], none⟩,
  ⟨(some 6), .bin .lss, [.t 5, .c (.int .i64 8)], none⟩]
def c_r01_Num_r3 : List COper := a_r01_Num_r3
instance : Reg c_r01_Num_r3 a_r01_Num_r3 2 := ⟨rfl, rfl⟩
@[simp] def a_r01_Num_r5 : List COper := [
  ⟨(some 9), .mov, [.t 4], none⟩,
  ⟨(some 10), .bin .sub, [.c (.int .i64 7), .t 9], none⟩,
  ⟨(some 11), .mov, [.t 0], none⟩,
  ⟨(some 12), .mov, [.t 4], none⟩,
  ⟨(some 13), .bin .mul, [.c (.int .i64 8), .t 12], none⟩,
  ⟨(some 14), .convI .u64, [.t 13], none⟩,
  ⟨(some 15), .bin .shr, [.t 11, .t 14], none⟩,
  ⟨(some 16), .convI .u8, [.t 15], none⟩,
  ⟨(some 17), .iaddrArr 8 1 false, [.t 3, .t 10], none⟩,
  ⟨none, .store false 1, [.t 17, .t 16], none⟩]
def c_r01_Num_r5 : List COper := a_r01_Num_r5
instance : Reg c_r01_Num_r5 a_r01_Num_r5 10 := ⟨rfl, rfl⟩
@[simp] def a_r01_Num_r4 : List COper := [
  ⟨(some 7), .mov, [.t 4], none⟩,
  ⟨(some 8), .bin .add, [.t 7, .c (.int .i64 1)], none⟩,
  ⟨(some 4), .mov, [.t 8], none⟩]
def c_r01_Num_r4 : List COper := a_r01_Num_r4
instance : Reg c_r01_Num_r4 a_r01_Num_r4 3 := ⟨rfl, rfl⟩
@[simp] def a_r01_Num_r6 : List COper := [
  ⟨(some 18), .sliceArr 8 1 false false, [.t 3], none⟩,
  ⟨(some 19), .convS, [.t 18], none⟩,
  ⟨(some 2), .mov, [.t 19], none⟩]
def c_r01_Num_r6 : List COper := a_r01_Num_r6
instance : Reg c_r01_Num_r6 a_r01_Num_r6 3 := ⟨rfl, rfl⟩
@[simp] def c_r01_Num : CCode :=
  .seq (.region c_r01_Num_r0 none [0]) (.seq (.region c_r01_Num_r1 none [0, 3]) (.seq (.seq (.region c_r01_Num_r2 none [0, 3, 4]) (.block 0 (.loop (.seq (.seq (.region c_r01_Num_r3 none [0, 3, 4, 6]) (.cond (.t 6) (.skip) (.exit 0))) (.seq (.block 1 (.region c_r01_Num_r5 none [0, 3, 4])) (.region c_r01_Num_r4 none [0, 3, 4])))))) (.seq (.region c_r01_Num_r6 none [2]) (.ret))))
@[simp] def R_r01_Num : List CRes := [.tmp 2]
theorem k_r01_Num : chkFn Try.prog fn_r01_Num c_r01_Num R_r01_Num 1 = true := by kernel_rfl
/-! (*wapentake/code.Writer).Num -/
@[simp] def a_code_Writer_Num_r0 : List COper := [
  ⟨(some 7), .mov, [.t 0], none⟩,
  ⟨(some 8), .eqp false, [.t 7, .c (.pointer none)], none⟩]
def c_code_Writer_Num_r0 : List COper := a_code_Writer_Num_r0
instance : Reg c_code_Writer_Num_r0 a_code_Writer_Num_r0 2 := ⟨rfl, rfl⟩
@[simp] def a_code_Writer_Num_r1 : List COper := [
  ⟨(some 9), .mov, [.t 1], none⟩,
  ⟨(some 10), .len, [.t 9], none⟩,
  ⟨(some 11), .mov, [.c (.int .i64 0)], none⟩]
def c_code_Writer_Num_r1 : List COper := a_code_Writer_Num_r1
instance : Reg c_code_Writer_Num_r1 a_code_Writer_Num_r1 3 := ⟨rfl, rfl⟩
@[simp] def a_code_Writer_Num_r2 : List COper := [
  ⟨(some 12), .bin .lss, [.t 11, .t 10], none⟩]
def c_code_Writer_Num_r2 : List COper := a_code_Writer_Num_r2
instance : Reg c_code_Writer_Num_r2 a_code_Writer_Num_r2 1 := ⟨rfl, rfl⟩
@[simp] def a_code_Writer_Num_r3 : List COper := [
  ⟨(some 13), .iaddr 1, [.t 9, .t 11], none⟩,
  ⟨(some 14), .load false 1, [.t 13], none⟩,
  ⟨(some 5), .mov, [.t 14], none⟩]
def c_code_Writer_Num_r3 : List COper := a_code_Writer_Num_r3
instance : Reg c_code_Writer_Num_r3 a_code_Writer_Num_r3 3 := ⟨rfl, rfl⟩
@[simp] def a_code_Writer_Num_r4 : List COper := [
  ⟨(some 6), .mov, [.c (.int .i64 56)], none⟩]
def c_code_Writer_Num_r4 : List COper := a_code_Writer_Num_r4
instance : Reg c_code_Writer_Num_r4 a_code_Writer_Num_r4 1 := ⟨rfl, rfl⟩
@[simp] def a_code_Writer_Num_r5 : List COper := [
  ⟨(some 15), .mov, [.t 6], none⟩,
  ⟨(some 16), .bin .geq, [.t 15, .c (.int .i64 0)], none⟩]
def c_code_Writer_Num_r5 : List COper := a_code_Writer_Num_r5
instance : Reg c_code_Writer_Num_r5 a_code_Writer_Num_r5 2 := ⟨rfl, rfl⟩
@[simp] def a_code_Writer_Num_r7 : List COper := [
  ⟨(some 19), .mov, [.t 0], none⟩,
  ⟨(some 20), .mov, [.t 0], none⟩,
  ⟨(some 21), .nilc, [.t 20], none⟩,
  ⟨(some 22), .faddr 0 1 false, [.t 21], none⟩,
  ⟨(some 23), .load false 1, [.t 22], none⟩,
  ⟨(some 24), .mov, [.t 5], none⟩,
  ⟨(some 25), .convI .u64, [.t 24], none⟩,
  ⟨(some 26), .mov, [.t 6], none⟩,
  ⟨(some 27), .bin .shr, [.t 25, .t 26], none⟩,
  ⟨(some 28), .convI .u8, [.t 27], none⟩,
  ⟨(some 29), .bslice 1 1 (.v (.int .u8 0)) [0], [.t 28], none⟩,
  ⟨(some 30), .app 1 1, [.t 23, .t 29], none⟩,
  ⟨(some 31), .nilc, [.t 19], none⟩,
  ⟨(some 32), .faddr 0 1 false, [.t 31], none⟩,
  ⟨none, .store false 1, [.t 32, .t 30], none⟩]
def c_code_Writer_Num_r7 : List COper := a_code_Writer_Num_r7
instance : Reg c_code_Writer_Num_r7 a_code_Writer_Num_r7 15 := ⟨rfl, rfl⟩
@[simp] def a_code_Writer_Num_r6 : List COper := [
  ⟨(some 17), .mov, [.t 6], none⟩,
  ⟨(some 18), .bin .sub, [.t 17, .c (.int .i64 8)], none⟩,
  ⟨(some 6), .mov, [.t 18], none⟩]
def c_code_Writer_Num_r6 : List COper := a_code_Writer_Num_r6
instance : Reg c_code_Writer_Num_r6 a_code_Writer_Num_r6 3 := ⟨rfl, rfl⟩
@[simp] def a_code_Writer_Num_r8 : List COper := [
  ⟨(some 33), .bin .add, [.t 11, .c (.int .i64 1)], none⟩,
  ⟨(some 11), .mov, [.t 33], none⟩]
def c_code_Writer_Num_r8 : List COper := a_code_Writer_Num_r8
instance : Reg c_code_Writer_Num_r8 a_code_Writer_Num_r8 2 := ⟨rfl, rfl⟩
@[simp] def c_code_Writer_Num : CCode :=
  .seq (.seq (.region c_code_Writer_Num_r0 none [0, 1, 8]) (.cond (.t 8) (.ret) (.skip))) (.seq (.region c_code_Writer_Num_r1 none [0, 9, 10, 11]) (.block 0 (.loop (.seq (.region c_code_Writer_Num_r2 none [0, 9, 10, 11, 12]) (.seq (.cond (.t 12) (.skip) (.exit 0)) (.seq (.block 1 (.seq (.region c_code_Writer_Num_r3 none [0, 5, 9, 10, 11]) (.seq (.region c_code_Writer_Num_r4 none [0, 5, 6, 9, 10, 11]) (.block 2 (.loop (.seq (.seq (.region c_code_Writer_Num_r5 none [0, 5, 6, 9, 10, 11, 16]) (.cond (.t 16) (.skip) (.exit 2))) (.seq (.block 3 (.region c_code_Writer_Num_r7 (some ([0, 0, 2, 6, 14, 0, 32, 0, 224, 480, 992, 2046, 4095, 8191, 16383], [(4, 10)])) [0, 5, 6, 9, 10, 11])) (.region c_code_Writer_Num_r6 none [0, 5, 6, 9, 10, 11])))))))) (.region c_code_Writer_Num_r8 none [0, 9, 10, 11])))))))
@[simp] def R_code_Writer_Num : List CRes := []
theorem k_code_Writer_Num : chkFn Try.prog fn_code_Writer_Num c_code_Writer_Num R_code_Writer_Num 2 = true := by kernel_rfl
/-! wapentake/wapentakeref01.Text -/
@[simp] def a_r01_Text_r0 : List COper := [
  ⟨(some 2), .mov, [.c (.string (mkS []))], none⟩]
def c_r01_Text_r0 : List COper := a_r01_Text_r0
instance : Reg c_r01_Text_r0 a_r01_Text_r0 1 := ⟨rfl, rfl⟩
@[simp] def a_r01_Text_r1 : List COper := [
  ⟨(some 3), .mov, [.t 0], none⟩,
  ⟨(some 4), .lenS, [.t 3], none⟩,
  ⟨(some 5), .call fn_r01_Num, [.t 4], none⟩,
  ⟨(some 6), .sliceStr true false, [.t 5, .c (.int .i64 4)], none⟩,
  ⟨(some 7), .mov, [.t 0], none⟩,
  ⟨(some 8), .bin .add, [.t 6, .t 7], none⟩,
  ⟨(some 2), .mov, [.t 8], none⟩]
def c_r01_Text_r1 : List COper := a_r01_Text_r1
instance : Reg c_r01_Text_r1 a_r01_Text_r1 7 := ⟨rfl, rfl⟩
@[simp] def c_r01_Text : CCode :=
  .seq (.region c_r01_Text_r0 none [0]) (.seq (.region c_r01_Text_r1 none [2]) (.ret))
@[simp] def R_r01_Text : List CRes := [.tmp 2]
theorem k_r01_Text : chkFn Try.prog fn_r01_Text c_r01_Text R_r01_Text 1 = true := by kernel_rfl
/-! (*wapentake/code.Writer).Digest -/
@[simp] def a_code_Writer_Digest_r0 : List COper := [
  ⟨(some 6), .mov, [.t 0], none⟩,
  ⟨(some 7), .eqp false, [.t 6, .c (.pointer none)], none⟩]
def c_code_Writer_Digest_r0 : List COper := a_code_Writer_Digest_r0
instance : Reg c_code_Writer_Digest_r0 a_code_Writer_Digest_r0 2 := ⟨rfl, rfl⟩
@[simp] def a_code_Writer_Digest_r1 : List COper := [
  ⟨(some 8), .mov, [.t 1], none⟩,
  ⟨(some 9), .len, [.t 8], none⟩,
  ⟨(some 10), .mov, [.c (.int .i64 0)], none⟩]
def c_code_Writer_Digest_r1 : List COper := a_code_Writer_Digest_r1
instance : Reg c_code_Writer_Digest_r1 a_code_Writer_Digest_r1 3 := ⟨rfl, rfl⟩
@[simp] def a_code_Writer_Digest_r2 : List COper := [
  ⟨(some 11), .bin .lss, [.t 10, .t 9], none⟩]
def c_code_Writer_Digest_r2 : List COper := a_code_Writer_Digest_r2
instance : Reg c_code_Writer_Digest_r2 a_code_Writer_Digest_r2 1 := ⟨rfl, rfl⟩
@[simp] def a_code_Writer_Digest_r3 : List COper := [
  ⟨(some 12), .iaddr 32, [.t 8, .t 10], none⟩,
  ⟨(some 13), .load true 32, [.t 12], none⟩,
  ⟨(some 5), .alloc (.arr 1 (rep 32 (.v (.int .u8 0)))), [], none⟩,
  ⟨none, .store true 32, [.t 5, .t 13], none⟩]
def c_code_Writer_Digest_r3 : List COper := a_code_Writer_Digest_r3
instance : Reg c_code_Writer_Digest_r3 a_code_Writer_Digest_r3 4 := ⟨rfl, rfl⟩
@[simp] def a_code_Writer_Digest_r4 : List COper := [
  ⟨(some 14), .mov, [.t 0], none⟩,
  ⟨(some 15), .mov, [.t 0], none⟩,
  ⟨(some 16), .nilc, [.t 15], none⟩,
  ⟨(some 17), .faddr 0 1 false, [.t 16], none⟩,
  ⟨(some 18), .load false 1, [.t 17], none⟩,
  ⟨(some 19), .sliceArr 32 1 false false, [.t 5], none⟩,
  ⟨(some 20), .app 1 1, [.t 18, .t 19], none⟩,
  ⟨(some 21), .nilc, [.t 14], none⟩,
  ⟨(some 22), .faddr 0 1 false, [.t 21], none⟩,
  ⟨none, .store false 1, [.t 22, .t 20], none⟩]
def c_code_Writer_Digest_r4 : List COper := a_code_Writer_Digest_r4
instance : Reg c_code_Writer_Digest_r4 a_code_Writer_Digest_r4 10 := ⟨rfl, rfl⟩
@[simp] def a_code_Writer_Digest_r5 : List COper := [
  ⟨(some 23), .bin .add, [.t 10, .c (.int .i64 1)], none⟩,
  ⟨(some 10), .mov, [.t 23], none⟩]
def c_code_Writer_Digest_r5 : List COper := a_code_Writer_Digest_r5
instance : Reg c_code_Writer_Digest_r5 a_code_Writer_Digest_r5 2 := ⟨rfl, rfl⟩
@[simp] def c_code_Writer_Digest : CCode :=
  .seq (.seq (.region c_code_Writer_Digest_r0 none [0, 1, 7]) (.cond (.t 7) (.ret) (.skip))) (.seq (.region c_code_Writer_Digest_r1 none [0, 8, 9, 10]) (.block 0 (.loop (.seq (.region c_code_Writer_Digest_r2 none [0, 8, 9, 10, 11]) (.seq (.cond (.t 11) (.skip) (.exit 0)) (.seq (.block 1 (.seq (.region c_code_Writer_Digest_r3 none [0, 5, 8, 9, 10]) (.region c_code_Writer_Digest_r4 (some ([0, 0, 2, 6, 14, 0, 62, 127, 255, 511], [])) [0, 8, 9, 10]))) (.region c_code_Writer_Digest_r5 none [0, 8, 9, 10])))))))
@[simp] def R_code_Writer_Digest : List CRes := []
theorem k_code_Writer_Digest : chkFn Try.prog fn_code_Writer_Digest c_code_Writer_Digest R_code_Writer_Digest 2 = true := by kernel_rfl
/-! (*wapentake/wapentakeref01.Reader).Num -/
@[simp] def a_r01_Reader_Num_r0 : List COper := [
  ⟨(some 2), .mov, [.c (.int .i64 0)], none⟩]
def c_r01_Reader_Num_r0 : List COper := a_r01_Reader_Num_r0
instance : Reg c_r01_Reader_Num_r0 a_r01_Reader_Num_r0 1 := ⟨rfl, rfl⟩
@[simp] def a_r01_Reader_Num_r1 : List COper := [
  ⟨(some 6), .mov, [.t 0], none⟩,
  ⟨(some 7), .call fn_r01_Reader_Take, [.t 6, .c (.int .i64 8)], none⟩,
  ⟨(some 3), .mov, [.t 7], none⟩]
def c_r01_Reader_Num_r1 : List COper := a_r01_Reader_Num_r1
instance : Reg c_r01_Reader_Num_r1 a_r01_Reader_Num_r1 3 := ⟨rfl, rfl⟩
@[simp] def a_r01_Reader_Num_r2 : List COper := [
  ⟨(some 4), .mov, [.c (.int .i64 0)], none⟩]
def c_r01_Reader_Num_r2 : List COper := a_r01_Reader_Num_r2
instance : Reg c_r01_Reader_Num_r2 a_r01_Reader_Num_r2 1 := ⟨rfl, rfl⟩
@[simp] def a_r01_Reader_Num_r3 : List COper := [
  ⟨(some 5), .mov, [.c (.int .i64 0)], none⟩]
def c_r01_Reader_Num_r3 : List COper := a_r01_Reader_Num_r3
instance : Reg c_r01_Reader_Num_r3 a_r01_Reader_Num_r3 1 := ⟨rfl, rfl⟩
@[simp] def a_r01_Reader_Num_r4 : List COper := [
  ⟨(some 8), .mov, [.t 5], none⟩,
  ⟨(some 9), .mov, [.t 3], none⟩,
  ⟨(some 10), .lenS, [.t 9], none⟩,
  ⟨(some 11), .bin .lss, [.t 8, .t 10], none⟩]
def c_r01_Reader_Num_r4 : List COper := a_r01_Reader_Num_r4
instance : Reg c_r01_Reader_Num_r4 a_r01_Reader_Num_r4 4 := ⟨rfl, rfl⟩
@[simp] def a_r01_Reader_Num_r6 : List COper := [
  ⟨(some 14), .mov, [.t 4], none⟩,
  ⟨(some 15), .bin .shl, [.t 14, .c (.int .u64 8)], none⟩,
  ⟨(some 16), .mov, [.t 3], none⟩,
  ⟨(some 17), .mov, [.t 5], none⟩,
  ⟨(some 18), .idxS, [.t 16, .t 17], none⟩,
  ⟨(some 19), .convI .i64, [.t 18], none⟩,
  ⟨(some 20), .bin .or, [.t 15, .t 19], none⟩,
  ⟨(some 4), .mov, [.t 20], none⟩]
def c_r01_Reader_Num_r6 : List COper := a_r01_Reader_Num_r6
instance : Reg c_r01_Reader_Num_r6 a_r01_Reader_Num_r6 8 := ⟨rfl, rfl⟩
@[simp] def a_r01_Reader_Num_r5 : List COper := [
  ⟨(some 12), .mov, [.t 5], none⟩,
  ⟨(some 13), .bin .add, [.t 12, .c (.int .i64 1)], none⟩,
  ⟨(some 5), .mov, [.t 13], none⟩]
def c_r01_Reader_Num_r5 : List COper := a_r01_Reader_Num_r5
instance : Reg c_r01_Reader_Num_r5 a_r01_Reader_Num_r5 3 := ⟨rfl, rfl⟩
@[simp] def a_r01_Reader_Num_r7 : List COper := [
  ⟨(some 21), .mov, [.t 4], none⟩,
  ⟨(some 2), .mov, [.t 21], none⟩]
def c_r01_Reader_Num_r7 : List COper := a_r01_Reader_Num_r7
instance : Reg c_r01_Reader_Num_r7 a_r01_Reader_Num_r7 2 := ⟨rfl, rfl⟩
@[simp] def c_r01_Reader_Num : CCode :=
  .seq (.region c_r01_Reader_Num_r0 none [0]) (.seq (.region c_r01_Reader_Num_r1 none [3]) (.seq (.region c_r01_Reader_Num_r2 none [3, 4]) (.seq (.seq (.region c_r01_Reader_Num_r3 none [3, 4, 5]) (.block 0 (.loop (.seq (.seq (.region c_r01_Reader_Num_r4 none [3, 4, 5, 11]) (.cond (.t 11) (.skip) (.exit 0))) (.seq (.block 1 (.region c_r01_Reader_Num_r6 none [3, 4, 5])) (.region c_r01_Reader_Num_r5 none [3, 4, 5])))))) (.seq (.region c_r01_Reader_Num_r7 none [2]) (.ret)))))
@[simp] def R_r01_Reader_Num : List CRes := [.tmp 2]
theorem k_r01_Reader_Num : chkFn Try.prog fn_r01_Reader_Num c_r01_Reader_Num R_r01_Reader_Num 1 = true := by kernel_rfl
/-! (*wapentake/code.Reader).Text -/
@[simp] def a_code_Reader_Text_r0 : List COper := [
  ⟨(some 4), .mov, [.c (.string (mkS []))], none⟩]
def c_code_Reader_Text_r0 : List COper := a_code_Reader_Text_r0
instance : Reg c_code_Reader_Text_r0 a_code_Reader_Text_r0 1 := ⟨rfl, rfl⟩
@[simp] def a_code_Reader_Text_r1 : List COper := [
  ⟨(some 5), .mov, [.c (.int .i64 0)], none⟩]
def c_code_Reader_Text_r1 : List COper := a_code_Reader_Text_r1
instance : Reg c_code_Reader_Text_r1 a_code_Reader_Text_r1 1 := ⟨rfl, rfl⟩
@[simp] def a_code_Reader_Text_r2 : List COper := [
  ⟨(some 8), .mov, [.t 0], none⟩,
  ⟨(some 9), .call fn_code_Reader_take, [.t 8, .c (.int .i64 4)], none⟩,
  ⟨(some 10), .len, [.t 9], none⟩,
  ⟨(some 11), .mov, [.c (.int .i64 0)], none⟩]
def c_code_Reader_Text_r2 : List COper := a_code_Reader_Text_r2
instance : Reg c_code_Reader_Text_r2 a_code_Reader_Text_r2 4 := ⟨rfl, rfl⟩
@[simp] def a_code_Reader_Text_r3 : List COper := [
  ⟨(some 12), .bin .lss, [.t 11, .t 10], none⟩]
def c_code_Reader_Text_r3 : List COper := a_code_Reader_Text_r3
instance : Reg c_code_Reader_Text_r3 a_code_Reader_Text_r3 1 := ⟨rfl, rfl⟩
@[simp] def a_code_Reader_Text_r4 : List COper := [
  ⟨(some 13), .iaddr 1, [.t 9, .t 11], none⟩,
  ⟨(some 14), .load false 1, [.t 13], none⟩,
  ⟨(some 7), .mov, [.t 14], none⟩]
def c_code_Reader_Text_r4 : List COper := a_code_Reader_Text_r4
instance : Reg c_code_Reader_Text_r4 a_code_Reader_Text_r4 3 := ⟨rfl, rfl⟩
@[simp] def a_code_Reader_Text_r5 : List COper := [
  ⟨(some 15), .mov, [.t 5], none⟩,
  ⟨(some 16), .bin .shl, [.t 15, .c (.int .u64 8)], none⟩,
  ⟨(some 17), .mov, [.t 7], none⟩,
  ⟨(some 18), .convI .i64, [.t 17], none⟩,
  ⟨(some 19), .bin .or, [.t 16, .t 18], none⟩,
  ⟨(some 5), .mov, [.t 19], none⟩]
def c_code_Reader_Text_r5 : List COper := a_code_Reader_Text_r5
instance : Reg c_code_Reader_Text_r5 a_code_Reader_Text_r5 6 := ⟨rfl, rfl⟩
@[simp] def a_code_Reader_Text_r6 : List COper := [
  ⟨(some 20), .bin .add, [.t 11, .c (.int .i64 1)], none⟩,
  ⟨(some 11), .mov, [.t 20], none⟩]
def c_code_Reader_Text_r6 : List COper := a_code_Reader_Text_r6
instance : Reg c_code_Reader_Text_r6 a_code_Reader_Text_r6 2 := ⟨rfl, rfl⟩
@[simp] def a_code_Reader_Text_r7 : List COper := [
  ⟨(some 21), .mov, [.t 5], none⟩,
  ⟨(some 22), .mov, [.t 1], none⟩,
  ⟨(some 23), .bin .gtr, [.t 21, .t 22], none⟩]
def c_code_Reader_Text_r7 : List COper := a_code_Reader_Text_r7
instance : Reg c_code_Reader_Text_r7 a_code_Reader_Text_r7 3 := ⟨rfl, rfl⟩
@[simp] def a_code_Reader_Text_r8 : List COper := [
  ⟨(some 5), .mov, [.c (.int .i64 (-1))], none⟩]
def c_code_Reader_Text_r8 : List COper := a_code_Reader_Text_r8
instance : Reg c_code_Reader_Text_r8 a_code_Reader_Text_r8 1 := ⟨rfl, rfl⟩
@[simp] def a_code_Reader_Text_r9 : List COper := [
  ⟨(some 24), .mov, [.t 0], none⟩,
  ⟨(some 25), .mov, [.t 5], none⟩,
  ⟨(some 26), .call fn_code_Reader_take, [.t 24, .t 25], none⟩,
  ⟨(some 27), .convS, [.t 26], none⟩,
  ⟨(some 4), .mov, [.t 27], none⟩]
def c_code_Reader_Text_r9 : List COper := a_code_Reader_Text_r9
instance : Reg c_code_Reader_Text_r9 a_code_Reader_Text_r9 5 := ⟨rfl, rfl⟩
@[simp] def c_code_Reader_Text : CCode :=
  .seq (.region c_code_Reader_Text_r0 none [0, 1]) (.seq (.region c_code_Reader_Text_r1 none [0, 1, 5]) (.seq (.seq (.region c_code_Reader_Text_r2 none [0, 1, 5, 9, 10, 11]) (.block 0 (.loop (.seq (.region c_code_Reader_Text_r3 none [0, 1, 5, 9, 10, 11, 12]) (.seq (.cond (.t 12) (.skip) (.exit 0)) (.seq (.block 1 (.seq (.region c_code_Reader_Text_r4 none [0, 1, 5, 7, 9, 10, 11]) (.region c_code_Reader_Text_r5 none [0, 1, 5, 9, 10, 11]))) (.region c_code_Reader_Text_r6 none [0, 1, 5, 9, 10, 11]))))))) (.seq (.seq (.region c_code_Reader_Text_r7 none [0, 5, 23]) (.cond (.t 23) (.region c_code_Reader_Text_r8 none [0, 5]) (.skip))) (.seq (.region c_code_Reader_Text_r9 none [4]) (.ret)))))
@[simp] def R_code_Reader_Text : List CRes := [.tmp 4]
theorem k_code_Reader_Text : chkFn Try.prog fn_code_Reader_Text c_code_Reader_Text R_code_Reader_Text 2 = true := by kernel_rfl
/-! (*wapentake/wapentakeref01.Reader).Text -/
@[simp] def a_r01_Reader_Text_r0 : List COper := [
  ⟨(some 4), .mov, [.c (.string (mkS []))], none⟩]
def c_r01_Reader_Text_r0 : List COper := a_r01_Reader_Text_r0
instance : Reg c_r01_Reader_Text_r0 a_r01_Reader_Text_r0 1 := ⟨rfl, rfl⟩
@[simp] def a_r01_Reader_Text_r1 : List COper := [
  ⟨(some 8), .mov, [.t 0], none⟩,
  ⟨(some 9), .call fn_r01_Reader_Take, [.t 8, .c (.int .i64 4)], none⟩,
  ⟨(some 5), .mov, [.t 9], none⟩]
def c_r01_Reader_Text_r1 : List COper := a_r01_Reader_Text_r1
instance : Reg c_r01_Reader_Text_r1 a_r01_Reader_Text_r1 3 := ⟨rfl, rfl⟩
@[simp] def a_r01_Reader_Text_r2 : List COper := [
  ⟨(some 6), .mov, [.c (.int .i64 0)], none⟩]
def c_r01_Reader_Text_r2 : List COper := a_r01_Reader_Text_r2
instance : Reg c_r01_Reader_Text_r2 a_r01_Reader_Text_r2 1 := ⟨rfl, rfl⟩
@[simp] def a_r01_Reader_Text_r3 : List COper := [
  ⟨(some 7), .mov, [.c (.int .i64 0)], none⟩]
def c_r01_Reader_Text_r3 : List COper := a_r01_Reader_Text_r3
instance : Reg c_r01_Reader_Text_r3 a_r01_Reader_Text_r3 1 := ⟨rfl, rfl⟩
@[simp] def a_r01_Reader_Text_r4 : List COper := [
  ⟨(some 10), .mov, [.t 7], none⟩,
  ⟨(some 11), .mov, [.t 5], none⟩,
  ⟨(some 12), .lenS, [.t 11], none⟩,
  ⟨(some 13), .bin .lss, [.t 10, .t 12], none⟩]
def c_r01_Reader_Text_r4 : List COper := a_r01_Reader_Text_r4
instance : Reg c_r01_Reader_Text_r4 a_r01_Reader_Text_r4 4 := ⟨rfl, rfl⟩
@[simp] def a_r01_Reader_Text_r6 : List COper := [
  ⟨(some 16), .mov, [.t 6], none⟩,
  ⟨(some 17), .bin .mul, [.t 16, .c (.int .i64 256)], none⟩,
  ⟨(some 18), .mov, [.t 5], none⟩,
  ⟨(some 19), .mov, [.t 7], none⟩,
  ⟨(some 20), .idxS, [.t 18, .t 19], none⟩,
  ⟨(some 21), .convI .i64, [.t 20], none⟩,
  ⟨(some 22), .bin .add, [.t 17, .t 21], none⟩,
  ⟨(some 6), .mov, [.t 22], none⟩]
def c_r01_Reader_Text_r6 : List COper := a_r01_Reader_Text_r6
instance : Reg c_r01_Reader_Text_r6 a_r01_Reader_Text_r6 8 := ⟨rfl, rfl⟩
@[simp] def a_r01_Reader_Text_r5 : List COper := [
  ⟨(some 14), .mov, [.t 7], none⟩,
  ⟨(some 15), .bin .add, [.t 14, .c (.int .i64 1)], none⟩,
  ⟨(some 7), .mov, [.t 15], none⟩]
def c_r01_Reader_Text_r5 : List COper := a_r01_Reader_Text_r5
instance : Reg c_r01_Reader_Text_r5 a_r01_Reader_Text_r5 3 := ⟨rfl, rfl⟩
@[simp] def a_r01_Reader_Text_r7 : List COper := [
  ⟨(some 23), .mov, [.t 6], none⟩,
  ⟨(some 24), .mov, [.t 1], none⟩,
  ⟨(some 25), .bin .gtr, [.t 23, .t 24], none⟩]
def c_r01_Reader_Text_r7 : List COper := a_r01_Reader_Text_r7
instance : Reg c_r01_Reader_Text_r7 a_r01_Reader_Text_r7 3 := ⟨rfl, rfl⟩
@[simp] def a_r01_Reader_Text_r8 : List COper := [
  ⟨(some 26), .mov, [.t 0], none⟩,
  ⟨(some 27), .call fn_r01_Reader_Take, [.t 26, .c (.int .i64 (-1))], none⟩,
  ⟨(some 4), .mov, [.t 27], none⟩]
def c_r01_Reader_Text_r8 : List COper := a_r01_Reader_Text_r8
instance : Reg c_r01_Reader_Text_r8 a_r01_Reader_Text_r8 3 := ⟨rfl, rfl⟩
@[simp] def a_r01_Reader_Text_r9 : List COper := [
  ⟨(some 28), .mov, [.t 0], none⟩,
  ⟨(some 29), .mov, [.t 6], none⟩,
  ⟨(some 30), .call fn_r01_Reader_Take, [.t 28, .t 29], none⟩,
  ⟨(some 4), .mov, [.t 30], none⟩]
def c_r01_Reader_Text_r9 : List COper := a_r01_Reader_Text_r9
instance : Reg c_r01_Reader_Text_r9 a_r01_Reader_Text_r9 4 := ⟨rfl, rfl⟩
@[simp] def c_r01_Reader_Text : CCode :=
  .seq (.region c_r01_Reader_Text_r0 none [0, 1]) (.seq (.region c_r01_Reader_Text_r1 none [0, 1, 5]) (.seq (.region c_r01_Reader_Text_r2 none [0, 1, 5, 6]) (.seq (.seq (.region c_r01_Reader_Text_r3 none [0, 1, 5, 6, 7]) (.block 0 (.loop (.seq (.seq (.region c_r01_Reader_Text_r4 none [0, 1, 5, 6, 7, 13]) (.cond (.t 13) (.skip) (.exit 0))) (.seq (.block 1 (.region c_r01_Reader_Text_r6 none [0, 1, 5, 6, 7])) (.region c_r01_Reader_Text_r5 none [0, 1, 5, 6, 7])))))) (.seq (.seq (.region c_r01_Reader_Text_r7 none [0, 6, 25]) (.cond (.t 25) (.seq (.region c_r01_Reader_Text_r8 none [4]) (.ret)) (.skip))) (.seq (.region c_r01_Reader_Text_r9 none [4]) (.ret))))))
@[simp] def R_r01_Reader_Text : List CRes := [.tmp 4]
theorem k_r01_Reader_Text : chkFn Try.prog fn_r01_Reader_Text c_r01_Reader_Text R_r01_Reader_Text 2 = true := by kernel_rfl
/-! (*wapentake/wapentakeref01.Reader).Digest -/
@[simp] def a_r01_Reader_Digest_r0 : List COper := [
  ⟨(some 2), .alloc (.arr 1 (rep 32 (.v (.int .u8 0)))), [], none⟩]
def c_r01_Reader_Digest_r0 : List COper := a_r01_Reader_Digest_r0
instance : Reg c_r01_Reader_Digest_r0 a_r01_Reader_Digest_r0 1 := ⟨rfl, rfl⟩
@[simp] def a_r01_Reader_Digest_r1 : List COper := [
  ⟨(some 3), .alloc (.arr 1 (rep 32 (.v (.int .u8 0)))), [], none⟩]
def c_r01_Reader_Digest_r1 : List COper := a_r01_Reader_Digest_r1
instance : Reg c_r01_Reader_Digest_r1 a_r01_Reader_Digest_r1 1 := ⟨rfl, rfl⟩
@[simp] def a_r01_Reader_Digest_r2 : List COper := [
  ⟨(some 6), .mov, [.t 0], none⟩,
  ⟨(some 7), .call fn_r01_Reader_Take, [.t 6, .c (.int .i64 32)], none⟩,
  ⟨(some 4), .mov, [.t 7], none⟩]
def c_r01_Reader_Digest_r2 : List COper := a_r01_Reader_Digest_r2
instance : Reg c_r01_Reader_Digest_r2 a_r01_Reader_Digest_r2 3 := ⟨rfl, rfl⟩
@[simp] def a_r01_Reader_Digest_r3 : List COper := [
  ⟨(some 5), .mov, [.c (.int .i64 0)], none⟩]
def c_r01_Reader_Digest_r3 : List COper := a_r01_Reader_Digest_r3
instance : Reg c_r01_Reader_Digest_r3 a_r01_Reader_Digest_r3 1 := ⟨rfl, rfl⟩
@[simp] def a_r01_Reader_Digest_r4 : List COper := [
  ⟨(some 8), .mov, [.t 5], none⟩,
  ⟨(some 9), .mov, [.t 4], none⟩,
  ⟨(some 10), .lenS, [.t 9], none⟩,
  ⟨(some 11), .bin .lss, [.t 8, .t 10], none⟩]
def c_r01_Reader_Digest_r4 : List COper := a_r01_Reader_Digest_r4
instance : Reg c_r01_Reader_Digest_r4 a_r01_Reader_Digest_r4 4 := ⟨rfl, rfl⟩
@[simp] def a_r01_Reader_Digest_r6 : List COper := [
  ⟨(some 14), .mov, [.t 5], none⟩,
  ⟨(some 15), .mov, [.t 4], none⟩,
  ⟨(some 16), .mov, [.t 5], none⟩,
  ⟨(some 17), .idxS, [.t 15, .t 16], none⟩,
  ⟨(some 18), .iaddrArr 32 1 false, [.t 3, .t 14], none⟩,
  ⟨none, .store false 1, [.t 18, .t 17], none⟩]
def c_r01_Reader_Digest_r6 : List COper := a_r01_Reader_Digest_r6
instance : Reg c_r01_Reader_Digest_r6 a_r01_Reader_Digest_r6 6 := ⟨rfl, rfl⟩
@[simp] def a_r01_Reader_Digest_r5 : List COper := [
  ⟨(some 12), .mov, [.t 5], none⟩,
  ⟨(some 13), .bin .add, [.t 12, .c (.int .i64 1)], none⟩,
  ⟨(some 5), .mov, [.t 13], none⟩]
def c_r01_Reader_Digest_r5 : List COper := a_r01_Reader_Digest_r5
instance : Reg c_r01_Reader_Digest_r5 a_r01_Reader_Digest_r5 3 := ⟨rfl, rfl⟩
@[simp] def a_r01_Reader_Digest_r7 : List COper := [
  ⟨(some 19), .load true 32, [.t 3], none⟩,
  ⟨none, .store true 32, [.t 2, .t 19], none⟩]
def c_r01_Reader_Digest_r7 : List COper := a_r01_Reader_Digest_r7
instance : Reg c_r01_Reader_Digest_r7 a_r01_Reader_Digest_r7 2 := ⟨rfl, rfl⟩
@[simp] def c_r01_Reader_Digest : CCode :=
  .seq (.region c_r01_Reader_Digest_r0 none [0, 2]) (.seq (.region c_r01_Reader_Digest_r1 none [0, 2, 3]) (.seq (.region c_r01_Reader_Digest_r2 none [2, 3, 4]) (.seq (.seq (.region c_r01_Reader_Digest_r3 none [2, 3, 4, 5]) (.block 0 (.loop (.seq (.seq (.region c_r01_Reader_Digest_r4 none [2, 3, 4, 5, 11]) (.cond (.t 11) (.skip) (.exit 0))) (.seq (.block 1 (.region c_r01_Reader_Digest_r6 none [2, 3, 4, 5])) (.region c_r01_Reader_Digest_r5 none [2, 3, 4, 5])))))) (.seq (.region c_r01_Reader_Digest_r7 none [2]) (.ret)))))
@[simp] def R_r01_Reader_Digest : List CRes := [.cell 2 true 32]
theorem k_r01_Reader_Digest : chkFn Try.prog fn_r01_Reader_Digest c_r01_Reader_Digest R_r01_Reader_Digest 1 = true := by kernel_rfl
/-! (*wapentake/code.Reader).In -/
@[simp] def a_code_Reader_In_r0 : List COper := [
  ⟨(some 6), .mov, [.c (.int .i64 0)], none⟩]
def c_code_Reader_In_r0 : List COper := a_code_Reader_In_r0
instance : Reg c_code_Reader_In_r0 a_code_Reader_In_r0 1 := ⟨rfl, rfl⟩
@[simp] def a_code_Reader_In_r1 : List COper := [
  ⟨(some 8), .mov, [.t 0], none⟩,
  ⟨(some 9), .call fn_code_Reader_Num, [.t 8], none⟩,
  ⟨(some 7), .mov, [.t 9], none⟩]
def c_code_Reader_In_r1 : List COper := a_code_Reader_In_r1
instance : Reg c_code_Reader_In_r1 a_code_Reader_In_r1 3 := ⟨rfl, rfl⟩
@[simp] def a_code_Reader_In_r2 : List COper := [
  ⟨(some 10), .mov, [.t 0], none⟩,
  ⟨(some 11), .eqp false, [.t 10, .c (.pointer none)], none⟩,
  ⟨(some 12), .mov, [.t 11], none⟩,
  ⟨(some 13), .mov, [.t 7], (some (12, false))⟩,
  ⟨(some 14), .mov, [.t 1], (some (12, false))⟩,
  ⟨(some 15), .bin .geq, [.t 13, .t 14], (some (12, false))⟩,
  ⟨(some 16), .mov, [.t 15], (some (12, false))⟩,
  ⟨(some 17), .mov, [.t 7], (some (16, true))⟩,
  ⟨(some 18), .mov, [.t 2], (some (16, true))⟩,
  ⟨(some 19), .bin .leq, [.t 17, .t 18], (some (16, true))⟩,
  ⟨(some 20), .pick, [.t 16, .t 19, .c (.bool false)], (some (12, false))⟩,
  ⟨(some 21), .mov, [.t 20], (some (12, false))⟩,
  ⟨(some 22), .mov, [.t 0], (some (21, true))⟩,
  ⟨(some 23), .nilc, [.t 22], (some (21, true))⟩,
  ⟨(some 24), .faddr 1 1 false, [.t 23], (some (21, true))⟩,
  ⟨(some 25), .load false 1, [.t 24], (some (21, true))⟩,
  ⟨(some 26), .not, [.t 25], (some (21, true))⟩,
  ⟨(some 27), .pick, [.t 21, .t 26, .c (.bool false)], (some (12, false))⟩,
  ⟨(some 28), .pick, [.t 12, .c (.bool true), .t 27], none⟩]
def c_code_Reader_In_r2 : List COper := a_code_Reader_In_r2
instance : Reg c_code_Reader_In_r2 a_code_Reader_In_r2 19 := ⟨rfl, rfl⟩
@[simp] def a_code_Reader_In_r3 : List COper := [
  ⟨(some 29), .mov, [.t 7], none⟩,
  ⟨(some 6), .mov, [.t 29], none⟩]
def c_code_Reader_In_r3 : List COper := a_code_Reader_In_r3
instance : Reg c_code_Reader_In_r3 a_code_Reader_In_r3 2 := ⟨rfl, rfl⟩
@[simp] def a_code_Reader_In_r4 : List COper := [
  ⟨(some 30), .mov, [.t 0], none⟩,
  ⟨(some 31), .mov, [.t 0], none⟩,
  ⟨(some 32), .nilc, [.t 30], none⟩,
  ⟨(some 33), .faddr 1 1 false, [.t 32], none⟩,
  ⟨none, .store false 1, [.t 33, .c (.bool true)], none⟩,
  ⟨(some 34), .nilc, [.t 31], none⟩,
  ⟨(some 35), .faddr 0 1 false, [.t 34], none⟩,
  ⟨none, .store false 1, [.t 35, .c (.slice none 0 0)], none⟩]
def c_code_Reader_In_r4 : List COper := a_code_Reader_In_r4
instance : Reg c_code_Reader_In_r4 a_code_Reader_In_r4 8 := ⟨rfl, rfl⟩
@[simp] def a_code_Reader_In_r5 : List COper := [
  ⟨(some 6), .mov, [.c (.int .i64 0)], none⟩]
def c_code_Reader_In_r5 : List COper := a_code_Reader_In_r5
instance : Reg c_code_Reader_In_r5 a_code_Reader_In_r5 1 := ⟨rfl, rfl⟩
@[simp] def c_code_Reader_In : CCode :=
  .seq (.region c_code_Reader_In_r0 none [0, 1, 2]) (.seq (.region c_code_Reader_In_r1 none [0, 1, 2, 7]) (.seq (.seq (.region c_code_Reader_In_r2 none [0, 7, 28]) (.cond (.t 28) (.seq (.region c_code_Reader_In_r3 none [6]) (.ret)) (.skip))) (.seq (.region c_code_Reader_In_r4 none []) (.seq (.region c_code_Reader_In_r5 none [6]) (.ret)))))
@[simp] def R_code_Reader_In : List CRes := [.tmp 6]
theorem k_code_Reader_In : chkFn Try.prog fn_code_Reader_In c_code_Reader_In R_code_Reader_In 3 = true := by kernel_rfl
/-! (*wapentake/wapentakeref01.Reader).In -/
@[simp] def a_r01_Reader_In_r0 : List COper := [
  ⟨(some 6), .mov, [.c (.int .i64 0)], none⟩]
def c_r01_Reader_In_r0 : List COper := a_r01_Reader_In_r0
instance : Reg c_r01_Reader_In_r0 a_r01_Reader_In_r0 1 := ⟨rfl, rfl⟩
@[simp] def a_r01_Reader_In_r1 : List COper := [
  ⟨(some 8), .mov, [.t 0], none⟩,
  ⟨(some 9), .call fn_r01_Reader_Num, [.t 8], none⟩,
  ⟨(some 7), .mov, [.t 9], none⟩]
def c_r01_Reader_In_r1 : List COper := a_r01_Reader_In_r1
instance : Reg c_r01_Reader_In_r1 a_r01_Reader_In_r1 3 := ⟨rfl, rfl⟩
@[simp] def a_r01_Reader_In_r2 : List COper := [
  ⟨(some 10), .mov, [.t 0], none⟩,
  ⟨(some 11), .nilc, [.t 10], none⟩,
  ⟨(some 12), .faddr 1 1 false, [.t 11], none⟩,
  ⟨(some 13), .load false 1, [.t 12], none⟩,
  ⟨(some 14), .mov, [.t 13], none⟩,
  ⟨(some 15), .mov, [.t 7], (some (14, false))⟩,
  ⟨(some 16), .mov, [.t 1], (some (14, false))⟩,
  ⟨(some 17), .bin .lss, [.t 15, .t 16], (some (14, false))⟩,
  ⟨(some 18), .pick, [.t 14, .c (.bool true), .t 17], none⟩,
  ⟨(some 19), .mov, [.t 18], none⟩,
  ⟨(some 20), .mov, [.t 7], (some (19, false))⟩,
  ⟨(some 21), .mov, [.t 2], (some (19, false))⟩,
  ⟨(some 22), .bin .gtr, [.t 20, .t 21], (some (19, false))⟩,
  ⟨(some 23), .pick, [.t 19, .c (.bool true), .t 22], none⟩]
def c_r01_Reader_In_r2 : List COper := a_r01_Reader_In_r2
instance : Reg c_r01_Reader_In_r2 a_r01_Reader_In_r2 14 := ⟨rfl, rfl⟩
@[simp] def a_r01_Reader_In_r3 : List COper := [
  ⟨(some 24), .mov, [.t 0], none⟩,
  ⟨(some 25), .call fn_r01_Reader_Take, [.t 24, .c (.int .i64 (-1))], none⟩]
def c_r01_Reader_In_r3 : List COper := a_r01_Reader_In_r3
instance : Reg c_r01_Reader_In_r3 a_r01_Reader_In_r3 2 := ⟨rfl, rfl⟩
@[simp] def a_r01_Reader_In_r4 : List COper := [
  ⟨(some 6), .mov, [.c (.int .i64 0)], none⟩]
def c_r01_Reader_In_r4 : List COper := a_r01_Reader_In_r4
instance : Reg c_r01_Reader_In_r4 a_r01_Reader_In_r4 1 := ⟨rfl, rfl⟩
@[simp] def a_r01_Reader_In_r5 : List COper := [
  ⟨(some 26), .mov, [.t 7], none⟩,
  ⟨(some 6), .mov, [.t 26], none⟩]
def c_r01_Reader_In_r5 : List COper := a_r01_Reader_In_r5
instance : Reg c_r01_Reader_In_r5 a_r01_Reader_In_r5 2 := ⟨rfl, rfl⟩
@[simp] def c_r01_Reader_In : CCode :=
  .seq (.region c_r01_Reader_In_r0 none [0, 1, 2]) (.seq (.region c_r01_Reader_In_r1 none [0, 1, 2, 7]) (.seq (.seq (.region c_r01_Reader_In_r2 none [0, 7, 23]) (.cond (.t 23) (.seq (.region c_r01_Reader_In_r3 none []) (.seq (.region c_r01_Reader_In_r4 none [6]) (.ret))) (.skip))) (.seq (.region c_r01_Reader_In_r5 none [6]) (.ret))))
@[simp] def R_r01_Reader_In : List CRes := [.tmp 6]
theorem k_r01_Reader_In : chkFn Try.prog fn_r01_Reader_In c_r01_Reader_In R_r01_Reader_In 3 = true := by kernel_rfl
/-! (*wapentake/code.Reader).Good -/
@[simp] def a_code_Reader_Good_r0 : List COper := [
  ⟨(some 2), .mov, [.c (.bool false)], none⟩]
def c_code_Reader_Good_r0 : List COper := a_code_Reader_Good_r0
instance : Reg c_code_Reader_Good_r0 a_code_Reader_Good_r0 1 := ⟨rfl, rfl⟩
@[simp] def a_code_Reader_Good_r1 : List COper := [
  ⟨(some 3), .mov, [.t 0], none⟩,
  ⟨(some 4), .eqp true, [.t 3, .c (.pointer none)], none⟩,
  ⟨(some 5), .mov, [.t 4], none⟩,
  ⟨(some 6), .mov, [.t 0], (some (5, true))⟩,
  ⟨(some 7), .nilc, [.t 6], (some (5, true))⟩,
  ⟨(some 8), .faddr 1 1 false, [.t 7], (some (5, true))⟩,
  ⟨(some 9), .load false 1, [.t 8], (some (5, true))⟩,
  ⟨(some 10), .not, [.t 9], (some (5, true))⟩,
  ⟨(some 11), .pick, [.t 5, .t 10, .c (.bool false)], none⟩,
  ⟨(some 2), .mov, [.t 11], none⟩]
def c_code_Reader_Good_r1 : List COper := a_code_Reader_Good_r1
instance : Reg c_code_Reader_Good_r1 a_code_Reader_Good_r1 10 := ⟨rfl, rfl⟩
@[simp] def c_code_Reader_Good : CCode :=
  .seq (.region c_code_Reader_Good_r0 none [0]) (.seq (.region c_code_Reader_Good_r1 none [2]) (.ret))
@[simp] def R_code_Reader_Good : List CRes := [.tmp 2]
theorem k_code_Reader_Good : chkFn Try.prog fn_code_Reader_Good c_code_Reader_Good R_code_Reader_Good 1 = true := by kernel_rfl
/-! (*wapentake/wapentakeref01.Reader).Good -/
@[simp] def a_r01_Reader_Good_r0 : List COper := [
  ⟨(some 2), .mov, [.c (.bool false)], none⟩]
def c_r01_Reader_Good_r0 : List COper := a_r01_Reader_Good_r0
instance : Reg c_r01_Reader_Good_r0 a_r01_Reader_Good_r0 1 := ⟨rfl, rfl⟩
@[simp] def a_r01_Reader_Good_r1 : List COper := [
  ⟨(some 3), .mov, [.t 0], none⟩,
  ⟨(some 4), .nilc, [.t 3], none⟩,
  ⟨(some 5), .faddr 1 1 false, [.t 4], none⟩,
  ⟨(some 6), .load false 1, [.t 5], none⟩,
  ⟨(some 7), .not, [.t 6], none⟩,
  ⟨(some 2), .mov, [.t 7], none⟩]
def c_r01_Reader_Good_r1 : List COper := a_r01_Reader_Good_r1
instance : Reg c_r01_Reader_Good_r1 a_r01_Reader_Good_r1 6 := ⟨rfl, rfl⟩
@[simp] def c_r01_Reader_Good : CCode :=
  .seq (.region c_r01_Reader_Good_r0 none [0]) (.seq (.region c_r01_Reader_Good_r1 none [2]) (.ret))
@[simp] def R_r01_Reader_Good : List CRes := [.tmp 2]
theorem k_r01_Reader_Good : chkFn Try.prog fn_r01_Reader_Good c_r01_Reader_Good R_r01_Reader_Good 1 = true := by kernel_rfl
/-! (*wapentake/code.Reader).End -/
@[simp] def a_code_Reader_End_r0 : List COper := [
  ⟨(some 2), .mov, [.c (.bool false)], none⟩]
def c_code_Reader_End_r0 : List COper := a_code_Reader_End_r0
instance : Reg c_code_Reader_End_r0 a_code_Reader_End_r0 1 := ⟨rfl, rfl⟩
@[simp] def a_code_Reader_End_r1 : List COper := [
  ⟨(some 3), .mov, [.t 0], none⟩,
  ⟨(some 4), .call fn_code_Reader_Good, [.t 3], none⟩,
  ⟨(some 5), .mov, [.t 4], none⟩,
  ⟨(some 6), .mov, [.t 0], (some (5, true))⟩,
  ⟨(some 7), .nilc, [.t 6], (some (5, true))⟩,
  ⟨(some 8), .faddr 0 1 false, [.t 7], (some (5, true))⟩,
  ⟨(some 9), .load false 1, [.t 8], (some (5, true))⟩,
  ⟨(some 10), .len, [.t 9], (some (5, true))⟩,
  ⟨(some 11), .bin .eql, [.t 10, .c (.int .i64 0)], (some (5, true))⟩,
  ⟨(some 12), .pick, [.t 5, .t 11, .c (.bool false)], none⟩,
  ⟨(some 2), .mov, [.t 12], none⟩]
def c_code_Reader_End_r1 : List COper := a_code_Reader_End_r1
instance : Reg c_code_Reader_End_r1 a_code_Reader_End_r1 11 := ⟨rfl, rfl⟩
@[simp] def c_code_Reader_End : CCode :=
  .seq (.region c_code_Reader_End_r0 none [0]) (.seq (.region c_code_Reader_End_r1 none [2]) (.ret))
@[simp] def R_code_Reader_End : List CRes := [.tmp 2]
theorem k_code_Reader_End : chkFn Try.prog fn_code_Reader_End c_code_Reader_End R_code_Reader_End 1 = true := by kernel_rfl
/-! (*wapentake/wapentakeref01.Reader).End -/
@[simp] def a_r01_Reader_End_r0 : List COper := [
  ⟨(some 2), .mov, [.c (.bool false)], none⟩]
def c_r01_Reader_End_r0 : List COper := a_r01_Reader_End_r0
instance : Reg c_r01_Reader_End_r0 a_r01_Reader_End_r0 1 := ⟨rfl, rfl⟩
@[simp] def a_r01_Reader_End_r1 : List COper := [
  ⟨(some 3), .mov, [.t 0], none⟩,
  ⟨(some 4), .nilc, [.t 3], none⟩,
  ⟨(some 5), .faddr 1 1 false, [.t 4], none⟩,
  ⟨(some 6), .load false 1, [.t 5], none⟩,
  ⟨(some 7), .not, [.t 6], none⟩,
  ⟨(some 8), .mov, [.t 7], none⟩,
  ⟨(some 9), .mov, [.t 0], (some (8, true))⟩,
  ⟨(some 10), .nilc, [.t 9], (some (8, true))⟩,
  ⟨(some 11), .faddr 0 1 false, [.t 10], (some (8, true))⟩,
  ⟨(some 12), .load false 1, [.t 11], (some (8, true))⟩,
  ⟨(some 13), .bin .eql, [.t 12, .c (.string (mkS []))], (some (8, true))⟩,
  ⟨(some 14), .pick, [.t 8, .t 13, .c (.bool false)], none⟩,
  ⟨(some 2), .mov, [.t 14], none⟩]
def c_r01_Reader_End_r1 : List COper := a_r01_Reader_End_r1
instance : Reg c_r01_Reader_End_r1 a_r01_Reader_End_r1 13 := ⟨rfl, rfl⟩
@[simp] def c_r01_Reader_End : CCode :=
  .seq (.region c_r01_Reader_End_r0 none [0]) (.seq (.region c_r01_Reader_End_r1 none [2]) (.ret))
@[simp] def R_r01_Reader_End : List CRes := [.tmp 2]
theorem k_r01_Reader_End : chkFn Try.prog fn_r01_Reader_End c_r01_Reader_End R_r01_Reader_End 1 = true := by kernel_rfl
/-! (*wapentake/code.Reader).take -/
@[simp] def a_code_Reader_take_r0 : List COper := [
  ⟨(some 4), .mov, [.c (.slice none 0 0)], none⟩]
def c_code_Reader_take_r0 : List COper := a_code_Reader_take_r0
instance : Reg c_code_Reader_take_r0 a_code_Reader_take_r0 1 := ⟨rfl, rfl⟩
@[simp] def a_code_Reader_take_r1 : List COper := [
  ⟨(some 6), .mov, [.t 0], none⟩,
  ⟨(some 7), .eqp false, [.t 6, .c (.pointer none)], none⟩]
def c_code_Reader_take_r1 : List COper := a_code_Reader_take_r1
instance : Reg c_code_Reader_take_r1 a_code_Reader_take_r1 2 := ⟨rfl, rfl⟩
@[simp] def a_code_Reader_take_r2 : List COper := [
  ⟨(some 4), .mov, [.c (.slice none 0 0)], none⟩]
def c_code_Reader_take_r2 : List COper := a_code_Reader_take_r2
instance : Reg c_code_Reader_take_r2 a_code_Reader_take_r2 1 := ⟨rfl, rfl⟩
@[simp] def a_code_Reader_take_r3 : List COper := [
  ⟨(some 8), .mov, [.t 0], none⟩,
  ⟨(some 9), .nilc, [.t 8], none⟩,
  ⟨(some 10), .faddr 1 1 false, [.t 9], none⟩,
  ⟨(some 11), .load false 1, [.t 10], none⟩,
  ⟨(some 12), .mov, [.t 11], none⟩,
  ⟨(some 13), .mov, [.t 1], (some (12, false))⟩,
  ⟨(some 14), .bin .lss, [.t 13, .c (.int .i64 0)], (some (12, false))⟩,
  ⟨(some 15), .pick, [.t 12, .c (.bool true), .t 14], none⟩,
  ⟨(some 16), .mov, [.t 15], none⟩,
  ⟨(some 17), .mov, [.t 1], (some (16, false))⟩,
  ⟨(some 18), .mov, [.t 0], (some (16, false))⟩,
  ⟨(some 19), .nilc, [.t 18], (some (16, false))⟩,
  ⟨(some 20), .faddr 0 1 false, [.t 19], (some (16, false))⟩,
  ⟨(some 21), .load false 1, [.t 20], (some (16, false))⟩,
  ⟨(some 22), .len, [.t 21], (some (16, false))⟩,
  ⟨(some 23), .bin .gtr, [.t 17, .t 22], (some (16, false))⟩,
  ⟨(some 24), .pick, [.t 16, .c (.bool true), .t 23], none⟩]
def c_code_Reader_take_r3 : List COper := a_code_Reader_take_r3
instance : Reg c_code_Reader_take_r3 a_code_Reader_take_r3 17 := ⟨rfl, rfl⟩
@[simp] def a_code_Reader_take_r4 : List COper := [
  ⟨(some 25), .mov, [.t 0], none⟩,
  ⟨(some 26), .nilc, [.t 25], none⟩,
  ⟨(some 27), .faddr 0 1 false, [.t 26], none⟩,
  ⟨(some 28), .load false 1, [.t 27], none⟩,
  ⟨(some 29), .mov, [.t 1], none⟩,
  ⟨(some 30), .slice 1 false true, [.t 28, .t 29], none⟩,
  ⟨(some 5), .mov, [.t 30], none⟩]
def c_code_Reader_take_r4 : List COper := a_code_Reader_take_r4
instance : Reg c_code_Reader_take_r4 a_code_Reader_take_r4 7 := ⟨rfl, rfl⟩
@[simp] def a_code_Reader_take_r5 : List COper := [
  ⟨(some 31), .mov, [.t 0], none⟩,
  ⟨(some 32), .mov, [.t 0], none⟩,
  ⟨(some 33), .nilc, [.t 32], none⟩,
  ⟨(some 34), .faddr 0 1 false, [.t 33], none⟩,
  ⟨(some 35), .load false 1, [.t 34], none⟩,
  ⟨(some 36), .mov, [.t 1], none⟩,
  ⟨(some 37), .slice 1 true false, [.t 35, .t 36], none⟩,
  ⟨(some 38), .nilc, [.t 31], none⟩,
  ⟨(some 39), .faddr 0 1 false, [.t 38], none⟩,
  ⟨none, .store false 1, [.t 39, .t 37], none⟩]
def c_code_Reader_take_r5 : List COper := a_code_Reader_take_r5
instance : Reg c_code_Reader_take_r5 a_code_Reader_take_r5 10 := ⟨rfl, rfl⟩
@[simp] def a_code_Reader_take_r6 : List COper := [
  ⟨(some 40), .mov, [.t 5], none⟩,
  ⟨(some 4), .mov, [.t 40], none⟩]
def c_code_Reader_take_r6 : List COper := a_code_Reader_take_r6
instance : Reg c_code_Reader_take_r6 a_code_Reader_take_r6 2 := ⟨rfl, rfl⟩
@[simp] def a_code_Reader_take_r7 : List COper := [
  ⟨(some 41), .mov, [.t 0], none⟩,
  ⟨(some 42), .mov, [.t 0], none⟩,
  ⟨(some 43), .nilc, [.t 41], none⟩,
  ⟨(some 44), .faddr 1 1 false, [.t 43], none⟩,
  ⟨none, .store false 1, [.t 44, .c (.bool true)], none⟩,
  ⟨(some 45), .nilc, [.t 42], none⟩,
  ⟨(some 46), .faddr 0 1 false, [.t 45], none⟩,
  ⟨none, .store false 1, [.t 46, .c (.slice none 0 0)], none⟩]
def c_code_Reader_take_r7 : List COper := a_code_Reader_take_r7
instance : Reg c_code_Reader_take_r7 a_code_Reader_take_r7 8 := ⟨rfl, rfl⟩
@[simp] def a_code_Reader_take_r8 : List COper := [
  ⟨(some 4), .mov, [.c (.slice none 0 0)], none⟩]
def c_code_Reader_take_r8 : List COper := a_code_Reader_take_r8
instance : Reg c_code_Reader_take_r8 a_code_Reader_take_r8 1 := ⟨rfl, rfl⟩
@[simp] def c_code_Reader_take : CCode :=
  .seq (.region c_code_Reader_take_r0 none [0, 1]) (.scope 0 (.seq (.seq (.region c_code_Reader_take_r1 none [0, 1, 7]) (.cond (.t 7) (.seq (.region c_code_Reader_take_r2 none [4]) (.ret)) (.skip))) (.seq (.seq (.region c_code_Reader_take_r3 none [0, 1, 24]) (.cond (.t 24) (.goto 0) (.skip))) (.seq (.seq (.region c_code_Reader_take_r4 none [0, 1, 5]) (.seq (.region c_code_Reader_take_r5 none [5]) (.seq (.region c_code_Reader_take_r6 none [4]) (.ret)))) (.seq (.label 0) (.seq (.region c_code_Reader_take_r7 none []) (.seq (.region c_code_Reader_take_r8 none [4]) (.ret))))))) (.seq (.skip) (.seq (.region c_code_Reader_take_r7 none []) (.seq (.region c_code_Reader_take_r8 none [4]) (.ret)))))
@[simp] def R_code_Reader_take : List CRes := [.tmp 4]
theorem k_code_Reader_take : chkFn Try.prog fn_code_Reader_take c_code_Reader_take R_code_Reader_take 2 = true := by kernel_rfl
/-! wapentake/wapentakeref01.Digest -/
@[simp] def a_r01_Digest_r0 : List COper := [
  ⟨(some 1), .box, [.t 0], none⟩,
  ⟨(some 2), .mov, [.c (.string (mkS []))], none⟩]
def c_r01_Digest_r0 : List COper := a_r01_Digest_r0
instance : Reg c_r01_Digest_r0 a_r01_Digest_r0 2 := ⟨rfl, rfl⟩
@[simp] def a_r01_Digest_r1 : List COper := [
  ⟨(some 3), .sliceArr 32 1 false false, [.t 1], none⟩,
  ⟨(some 4), .convS, [.t 3], none⟩,
  ⟨(some 2), .mov, [.t 4], none⟩]
def c_r01_Digest_r1 : List COper := a_r01_Digest_r1
instance : Reg c_r01_Digest_r1 a_r01_Digest_r1 3 := ⟨rfl, rfl⟩
@[simp] def c_r01_Digest : CCode :=
  .seq (.region c_r01_Digest_r0 none [1]) (.seq (.region c_r01_Digest_r1 none [2]) (.ret))
@[simp] def R_r01_Digest : List CRes := [.tmp 2]
theorem k_r01_Digest : chkFn Try.prog fn_r01_Digest c_r01_Digest R_r01_Digest 1 = true := by kernel_rfl
/-! (*wapentake/wapentakeref01.Reader).Take -/
@[simp] def a_r01_Reader_Take_r0 : List COper := [
  ⟨(some 4), .mov, [.c (.string (mkS []))], none⟩]
def c_r01_Reader_Take_r0 : List COper := a_r01_Reader_Take_r0
instance : Reg c_r01_Reader_Take_r0 a_r01_Reader_Take_r0 1 := ⟨rfl, rfl⟩
@[simp] def a_r01_Reader_Take_r1 : List COper := [
  ⟨(some 6), .mov, [.t 0], none⟩,
  ⟨(some 7), .nilc, [.t 6], none⟩,
  ⟨(some 8), .faddr 1 1 false, [.t 7], none⟩,
  ⟨(some 9), .load false 1, [.t 8], none⟩,
  ⟨(some 10), .mov, [.t 9], none⟩,
  ⟨(some 11), .mov, [.t 1], (some (10, false))⟩,
  ⟨(some 12), .bin .lss, [.t 11, .c (.int .i64 0)], (some (10, false))⟩,
  ⟨(some 13), .pick, [.t 10, .c (.bool true), .t 12], none⟩,
  ⟨(some 14), .mov, [.t 13], none⟩,
  ⟨(some 15), .mov, [.t 1], (some (14, false))⟩,
  ⟨(some 16), .mov, [.t 0], (some (14, false))⟩,
  ⟨(some 17), .nilc, [.t 16], (some (14, false))⟩,
  ⟨(some 18), .faddr 0 1 false, [.t 17], (some (14, false))⟩,
  ⟨(some 19), .load false 1, [.t 18], (some (14, false))⟩,
  ⟨(some 20), .lenS, [.t 19], (some (14, false))⟩,
  ⟨(some 21), .bin .gtr, [.t 15, .t 20], (some (14, false))⟩,
  ⟨(some 22), .pick, [.t 14, .c (.bool true), .t 21], none⟩]
def c_r01_Reader_Take_r1 : List COper := a_r01_Reader_Take_r1
instance : Reg c_r01_Reader_Take_r1 a_r01_Reader_Take_r1 17 := ⟨rfl, rfl⟩
@[simp] def a_r01_Reader_Take_r2 : List COper := [
  ⟨(some 23), .mov, [.t 0], none⟩,
  ⟨(some 24), .nilc, [.t 23], none⟩,
  ⟨(some 25), .faddr 1 1 false, [.t 24], none⟩,
  ⟨none, .store false 1, [.t 25, .c (.bool true)], none⟩]
def c_r01_Reader_Take_r2 : List COper := a_r01_Reader_Take_r2
instance : Reg c_r01_Reader_Take_r2 a_r01_Reader_Take_r2 4 := ⟨rfl, rfl⟩
@[simp] def a_r01_Reader_Take_r3 : List COper := [
  ⟨(some 26), .mov, [.t 0], none⟩,
  ⟨(some 27), .nilc, [.t 26], none⟩,
  ⟨(some 28), .faddr 0 1 false, [.t 27], none⟩,
  ⟨none, .store false 1, [.t 28, .c (.string (mkS []))], none⟩]
def c_r01_Reader_Take_r3 : List COper := a_r01_Reader_Take_r3
instance : Reg c_r01_Reader_Take_r3 a_r01_Reader_Take_r3 4 := ⟨rfl, rfl⟩
@[simp] def a_r01_Reader_Take_r4 : List COper := [
  ⟨(some 4), .mov, [.c (.string (mkS []))], none⟩]
def c_r01_Reader_Take_r4 : List COper := a_r01_Reader_Take_r4
instance : Reg c_r01_Reader_Take_r4 a_r01_Reader_Take_r4 1 := ⟨rfl, rfl⟩
@[simp] def a_r01_Reader_Take_r5 : List COper := [
  ⟨(some 29), .mov, [.t 0], none⟩,
  ⟨(some 30), .nilc, [.t 29], none⟩,
  ⟨(some 31), .faddr 0 1 false, [.t 30], none⟩,
  ⟨(some 32), .load false 1, [.t 31], none⟩,
  ⟨(some 33), .mov, [.t 1], none⟩,
  ⟨(some 34), .sliceStr false true, [.t 32, .t 33], none⟩,
  ⟨(some 5), .mov, [.t 34], none⟩]
def c_r01_Reader_Take_r5 : List COper := a_r01_Reader_Take_r5
instance : Reg c_r01_Reader_Take_r5 a_r01_Reader_Take_r5 7 := ⟨rfl, rfl⟩
@[simp] def a_r01_Reader_Take_r6 : List COper := [
  ⟨(some 35), .mov, [.t 0], none⟩,
  ⟨(some 36), .mov, [.t 0], none⟩,
  ⟨(some 37), .nilc, [.t 36], none⟩,
  ⟨(some 38), .faddr 0 1 false, [.t 37], none⟩,
  ⟨(some 39), .load false 1, [.t 38], none⟩,
  ⟨(some 40), .mov, [.t 1], none⟩,
  ⟨(some 41), .sliceStr true false, [.t 39, .t 40], none⟩,
  ⟨(some 42), .nilc, [.t 35], none⟩,
  ⟨(some 43), .faddr 0 1 false, [.t 42], none⟩,
  ⟨none, .store false 1, [.t 43, .t 41], none⟩]
def c_r01_Reader_Take_r6 : List COper := a_r01_Reader_Take_r6
instance : Reg c_r01_Reader_Take_r6 a_r01_Reader_Take_r6 10 := ⟨rfl, rfl⟩
@[simp] def a_r01_Reader_Take_r7 : List COper := [
  ⟨(some 44), .mov, [.t 5], none⟩,
  ⟨(some 4), .mov, [.t 44], none⟩]
def c_r01_Reader_Take_r7 : List COper := a_r01_Reader_Take_r7
instance : Reg c_r01_Reader_Take_r7 a_r01_Reader_Take_r7 2 := ⟨rfl, rfl⟩
@[simp] def c_r01_Reader_Take : CCode :=
  .seq (.region c_r01_Reader_Take_r0 none [0, 1]) (.seq (.seq (.region c_r01_Reader_Take_r1 none [0, 1, 22]) (.cond (.t 22) (.seq (.region c_r01_Reader_Take_r2 none [0]) (.seq (.region c_r01_Reader_Take_r3 none []) (.seq (.region c_r01_Reader_Take_r4 none [4]) (.ret)))) (.skip))) (.seq (.region c_r01_Reader_Take_r5 none [0, 1, 5]) (.seq (.region c_r01_Reader_Take_r6 none [5]) (.seq (.region c_r01_Reader_Take_r7 none [4]) (.ret)))))
@[simp] def R_r01_Reader_Take : List CRes := [.tmp 4]
theorem k_r01_Reader_Take : chkFn Try.prog fn_r01_Reader_Take c_r01_Reader_Take R_r01_Reader_Take 2 = true := by kernel_rfl
end Go.Proofs.Ytngemgmnpcaamaa.WL
