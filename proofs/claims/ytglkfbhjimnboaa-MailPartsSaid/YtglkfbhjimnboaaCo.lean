/- The program's functions as abstract texts, each held against the program by the kernel. -/
import Derived.Test.YtglkfbhjimnboaaCoa
namespace Go.Proofs.Ytglkfbhjimnboaa.WL
open Go
/-! wapentake/wapentakeref15.Same -/
@[simp] def a_r15_Same_r0 : List COper := [
  ⟨(some 2), .box, [.t 0], none⟩,
  ⟨(some 3), .box, [.t 1], none⟩,
  ⟨(some 4), .mov, [.c (.bool false)], none⟩]
def c_r15_Same_r0 : List COper := a_r15_Same_r0
instance : Reg c_r15_Same_r0 a_r15_Same_r0 3 := ⟨rfl, rfl⟩
@[simp] def a_r15_Same_r1 : List COper := [
  ⟨(some 5), .faddr 0 99 true, [.t 2], none⟩,
  ⟨(some 6), .load true 99, [.t 5], none⟩,
  ⟨(some 7), .faddr 0 99 true, [.t 3], none⟩,
  ⟨(some 8), .load true 99, [.t 7], none⟩,
  ⟨(some 9), .call fn_r12_Same, [.t 6, .t 8], none⟩,
  ⟨(some 10), .mov, [.t 9], none⟩,
  ⟨(some 11), .faddr 99 2 true, [.t 2], (some (10, true))⟩,
  ⟨(some 12), .load true 2, [.t 11], (some (10, true))⟩,
  ⟨(some 13), .faddr 99 2 true, [.t 3], (some (10, true))⟩,
  ⟨(some 14), .load true 2, [.t 13], (some (10, true))⟩,
  ⟨(some 15), .call fn_r14_Same, [.t 12, .t 14], (some (10, true))⟩,
  ⟨(some 16), .pick, [.t 10, .t 15, .c (.bool false)], none⟩,
  ⟨(some 17), .mov, [.t 16], none⟩,
  ⟨(some 18), .faddr 101 2 true, [.t 2], (some (17, true))⟩,
  ⟨(some 19), .load true 2, [.t 18], (some (17, true))⟩,
  ⟨(some 20), .faddr 101 2 true, [.t 3], (some (17, true))⟩,
  ⟨(some 21), .load true 2, [.t 20], (some (17, true))⟩,
  ⟨(some 22), .call fn_r08_Same, [.t 19, .t 21], (some (17, true))⟩,
  ⟨(some 23), .pick, [.t 17, .t 22, .c (.bool false)], none⟩,
  ⟨(some 4), .mov, [.t 23], none⟩]
def c_r15_Same_r1 : List COper := a_r15_Same_r1
instance : Reg c_r15_Same_r1 a_r15_Same_r1 20 := ⟨rfl, rfl⟩
@[simp] def c_r15_Same : CCode :=
  .seq (.region c_r15_Same_r0 none [2, 3]) (.seq (.region c_r15_Same_r1 none [4]) (.ret))
@[simp] def R_r15_Same : List CRes := [.tmp 4]
theorem k_r15_Same : chkFn Try.prog fn_r15_Same c_r15_Same R_r15_Same 2 = true := by kernel_rfl
/-! wapentake/wapentakeref11.Same -/
@[simp] def a_r11_Same_r0 : List COper := [
  ⟨(some 2), .box, [.t 0], none⟩,
  ⟨(some 3), .box, [.t 1], none⟩,
  ⟨(some 4), .mov, [.c (.bool false)], none⟩]
def c_r11_Same_r0 : List COper := a_r11_Same_r0
instance : Reg c_r11_Same_r0 a_r11_Same_r0 3 := ⟨rfl, rfl⟩
@[simp] def a_r11_Same_r1 : List COper := [
  ⟨(some 5), .faddr 0 1 false, [.t 2], none⟩,
  ⟨(some 6), .load false 1, [.t 5], none⟩,
  ⟨(some 7), .faddr 0 1 false, [.t 3], none⟩,
  ⟨(some 8), .load false 1, [.t 7], none⟩,
  ⟨(some 9), .bin .eql, [.t 6, .t 8], none⟩,
  ⟨(some 10), .mov, [.t 9], none⟩,
  ⟨(some 11), .faddr 1 1 false, [.t 2], (some (10, true))⟩,
  ⟨(some 12), .load false 1, [.t 11], (some (10, true))⟩,
  ⟨(some 13), .faddr 1 1 false, [.t 3], (some (10, true))⟩,
  ⟨(some 14), .load false 1, [.t 13], (some (10, true))⟩,
  ⟨(some 15), .bin .eql, [.t 12, .t 14], (some (10, true))⟩,
  ⟨(some 16), .pick, [.t 10, .t 15, .c (.bool false)], none⟩,
  ⟨(some 17), .mov, [.t 16], none⟩,
  ⟨(some 18), .faddr 2 32 true, [.t 2], (some (17, true))⟩,
  ⟨(some 19), .load true 32, [.t 18], (some (17, true))⟩,
  ⟨(some 20), .faddr 2 32 true, [.t 3], (some (17, true))⟩,
  ⟨(some 21), .load true 32, [.t 20], (some (17, true))⟩,
  ⟨(some 22), .eqa false .u8 32, [.t 19, .t 21], (some (17, true))⟩,
  ⟨(some 23), .pick, [.t 17, .t 22, .c (.bool false)], none⟩,
  ⟨(some 24), .mov, [.t 23], none⟩,
  ⟨(some 25), .faddr 34 1 false, [.t 2], (some (24, true))⟩,
  ⟨(some 26), .load false 1, [.t 25], (some (24, true))⟩,
  ⟨(some 27), .faddr 34 1 false, [.t 3], (some (24, true))⟩,
  ⟨(some 28), .load false 1, [.t 27], (some (24, true))⟩,
  ⟨(some 29), .bin .eql, [.t 26, .t 28], (some (24, true))⟩,
  ⟨(some 30), .pick, [.t 24, .t 29, .c (.bool false)], none⟩,
  ⟨(some 31), .mov, [.t 30], none⟩,
  ⟨(some 32), .faddr 35 1 false, [.t 2], (some (31, true))⟩,
  ⟨(some 33), .load false 1, [.t 32], (some (31, true))⟩,
  ⟨(some 34), .faddr 35 1 false, [.t 3], (some (31, true))⟩,
  ⟨(some 35), .load false 1, [.t 34], (some (31, true))⟩,
  ⟨(some 36), .call fn_r03_Same, [.t 33, .t 35], (some (31, true))⟩,
  ⟨(some 37), .pick, [.t 31, .t 36, .c (.bool false)], none⟩,
  ⟨(some 4), .mov, [.t 37], none⟩]
def c_r11_Same_r1 : List COper := a_r11_Same_r1
instance : Reg c_r11_Same_r1 a_r11_Same_r1 34 := ⟨rfl, rfl⟩
@[simp] def c_r11_Same : CCode :=
  .seq (.region c_r11_Same_r0 none [2, 3]) (.seq (.region c_r11_Same_r1 none [4]) (.ret))
@[simp] def R_r11_Same : List CRes := [.tmp 4]
theorem k_r11_Same : chkFn Try.prog fn_r11_Same c_r11_Same R_r11_Same 2 = true := by kernel_rfl
/-! wapentake/wapentakeref12.Great -/
@[simp] def a_r12_Great_r0 : List COper := [
  ⟨(some 2), .box, [.t 0], none⟩,
  ⟨(some 4), .mov, [.c (.bool false)], none⟩]
def c_r12_Great_r0 : List COper := a_r12_Great_r0
instance : Reg c_r12_Great_r0 a_r12_Great_r0 2 := ⟨rfl, rfl⟩
@[simp] def a_r12_Great_r1 : List COper := [
  ⟨(some 5), .mov, [.c (.int .i64 0)], none⟩]
def c_r12_Great_r1 : List COper := a_r12_Great_r1
instance : Reg c_r12_Great_r1 a_r12_Great_r1 1 := ⟨rfl, rfl⟩
@[simp] def a_r12_Great_r2 : List COper := [
  ⟨(some 10), .faddr 98 1 false, [.t 2], none⟩,
  ⟨(some 11), .load false 1, [.t 10], none⟩,
  ⟨(some 12), .len, [.t 11], none⟩,
  ⟨(some 13), .bin .gtr, [.t 12, .c (.int .i64 40)], none⟩]
def c_r12_Great_r2 : List COper := a_r12_Great_r2
instance : Reg c_r12_Great_r2 a_r12_Great_r2 4 := ⟨rfl, rfl⟩
@[simp] def a_r12_Great_r3 : List COper := [
  ⟨(some 4), .mov, [.c (.bool true)], none⟩]
def c_r12_Great_r3 : List COper := a_r12_Great_r3
instance : Reg c_r12_Great_r3 a_r12_Great_r3 1 := ⟨rfl, rfl⟩
@[simp] def a_r12_Great_r4 : List COper := [
  ⟨(some 14), .faddr 98 1 false, [.t 2], none⟩,
  ⟨(some 15), .load false 1, [.t 14], none⟩,
  ⟨(some 16), .len, [.t 15], none⟩,
  ⟨(some 17), .mov, [.c (.int .i64 0)], none⟩]
def c_r12_Great_r4 : List COper := a_r12_Great_r4
instance : Reg c_r12_Great_r4 a_r12_Great_r4 4 := ⟨rfl, rfl⟩
@[simp] def a_r12_Great_r5 : List COper := [
  ⟨(some 18), .bin .lss, [.t 17, .t 16], none⟩]
def c_r12_Great_r5 : List COper := a_r12_Great_r5
instance : Reg c_r12_Great_r5 a_r12_Great_r5 1 := ⟨rfl, rfl⟩
@[simp] def a_r12_Great_r6 : List COper := [
  ⟨(some 19), .iaddr 42, [.t 15, .t 17], none⟩,
  ⟨(some 20), .load true 42, [.t 19], none⟩,
  ⟨(some 7), .alloc (.node [.v (.int .i64 0), .v (.int .i64 0), .node [.v (.int .i64 0), .v (.string (mkS [])), .v (.string (mkS [])), .v (.string (mkS [])), .node [.v (.int .i64 0), .v (.int .i64 0), .v (.int .i64 0), .node [.arr 1 (rep 32 (.v (.int .u8 0))), .v (.int .i64 0)]]]]), [], none⟩,
  ⟨none, .store true 42, [.t 7, .t 20], none⟩]
def c_r12_Great_r6 : List COper := a_r12_Great_r6
instance : Reg c_r12_Great_r6 a_r12_Great_r6 4 := ⟨rfl, rfl⟩
@[simp] def a_r12_Great_r7 : List COper := [
  ⟨(some 21), .mov, [.t 5], none⟩,
  ⟨(some 22), .bin .add, [.t 21, .c (.int .i64 100)], none⟩,
  ⟨(some 5), .mov, [.t 22], none⟩]
def c_r12_Great_r7 : List COper := a_r12_Great_r7
instance : Reg c_r12_Great_r7 a_r12_Great_r7 3 := ⟨rfl, rfl⟩
@[simp] def a_r12_Great_r8 : List COper := [
  ⟨(some 23), .faddr 2 40 true, [.t 7], none⟩,
  ⟨(some 24), .faddr 1 1 false, [.t 23], none⟩,
  ⟨(some 25), .load false 1, [.t 24], none⟩,
  ⟨(some 26), .faddr 2 40 true, [.t 7], none⟩,
  ⟨(some 27), .faddr 2 1 false, [.t 26], none⟩,
  ⟨(some 28), .load false 1, [.t 27], none⟩,
  ⟨(some 29), .faddr 2 40 true, [.t 7], none⟩,
  ⟨(some 30), .faddr 3 1 false, [.t 29], none⟩,
  ⟨(some 31), .load false 1, [.t 30], none⟩,
  ⟨(some 32), .buildA 1 (rep 3 (.v (.string (mkS [])))) (upTo 3), [.t 25, .t 28, .t 31], none⟩,
  ⟨(some 33), .mov, [.c (.int .i64 0)], none⟩]
def c_r12_Great_r8 : List COper := a_r12_Great_r8
instance : Reg c_r12_Great_r8 a_r12_Great_r8 11 := ⟨rfl, rfl⟩
@[simp] def a_r12_Great_r9 : List COper := [
  ⟨(some 34), .bin .lss, [.t 33, .c (.int .i64 3)], none⟩]
def c_r12_Great_r9 : List COper := a_r12_Great_r9
instance : Reg c_r12_Great_r9 a_r12_Great_r9 1 := ⟨rfl, rfl⟩
@[simp] def a_r12_Great_r10 : List COper := [
  ⟨(some 35), .idx false 3 1, [.t 32, .t 33], none⟩,
  ⟨(some 9), .mov, [.t 35], none⟩]
def c_r12_Great_r10 : List COper := a_r12_Great_r10
instance : Reg c_r12_Great_r10 a_r12_Great_r10 2 := ⟨rfl, rfl⟩
@[simp] def a_r12_Great_r11 : List COper := [
  ⟨(some 36), .mov, [.t 5], none⟩,
  ⟨(some 37), .mov, [.t 9], none⟩,
  ⟨(some 38), .lenS, [.t 37], none⟩,
  ⟨(some 39), .bin .add, [.t 36, .t 38], none⟩,
  ⟨(some 5), .mov, [.t 39], none⟩]
def c_r12_Great_r11 : List COper := a_r12_Great_r11
instance : Reg c_r12_Great_r11 a_r12_Great_r11 5 := ⟨rfl, rfl⟩
@[simp] def a_r12_Great_r12 : List COper := [
  ⟨(some 40), .mov, [.t 5], none⟩,
  ⟨(some 41), .mov, [.t 1], none⟩,
  ⟨(some 42), .bin .gtr, [.t 40, .t 41], none⟩]
def c_r12_Great_r12 : List COper := a_r12_Great_r12
instance : Reg c_r12_Great_r12 a_r12_Great_r12 3 := ⟨rfl, rfl⟩
@[simp] def a_r12_Great_r13 : List COper := [
  ⟨(some 4), .mov, [.c (.bool true)], none⟩]
def c_r12_Great_r13 : List COper := a_r12_Great_r13
instance : Reg c_r12_Great_r13 a_r12_Great_r13 1 := ⟨rfl, rfl⟩
@[simp] def a_r12_Great_r14 : List COper := [
  ⟨(some 43), .bin .add, [.t 33, .c (.int .i64 1)], none⟩,
  ⟨(some 33), .mov, [.t 43], none⟩]
def c_r12_Great_r14 : List COper := a_r12_Great_r14
instance : Reg c_r12_Great_r14 a_r12_Great_r14 2 := ⟨rfl, rfl⟩
@[simp] def a_r12_Great_r15 : List COper := [
  ⟨(some 44), .bin .add, [.t 17, .c (.int .i64 1)], none⟩,
  ⟨(some 17), .mov, [.t 44], none⟩]
def c_r12_Great_r15 : List COper := a_r12_Great_r15
instance : Reg c_r12_Great_r15 a_r12_Great_r15 2 := ⟨rfl, rfl⟩
@[simp] def a_r12_Great_r16 : List COper := [
  ⟨(some 45), .mov, [.t 5], none⟩,
  ⟨(some 46), .mov, [.t 1], none⟩,
  ⟨(some 47), .bin .gtr, [.t 45, .t 46], none⟩,
  ⟨(some 4), .mov, [.t 47], none⟩]
def c_r12_Great_r16 : List COper := a_r12_Great_r16
instance : Reg c_r12_Great_r16 a_r12_Great_r16 4 := ⟨rfl, rfl⟩
@[simp] def c_r12_Great : CCode :=
  .seq (.region c_r12_Great_r0 none [1, 2]) (.seq (.region c_r12_Great_r1 none [1, 2, 5]) (.seq (.seq (.region c_r12_Great_r2 none [1, 2, 5, 13]) (.cond (.t 13) (.seq (.region c_r12_Great_r3 none [4]) (.ret)) (.skip))) (.seq (.seq (.region c_r12_Great_r4 none [1, 5, 15, 16, 17]) (.block 0 (.loop (.seq (.region c_r12_Great_r5 none [1, 5, 15, 16, 17, 18]) (.seq (.cond (.t 18) (.skip) (.exit 0)) (.seq (.block 1 (.seq (.region c_r12_Great_r6 none [1, 5, 7, 15, 16, 17]) (.seq (.region c_r12_Great_r7 none [1, 5, 7, 15, 16, 17]) (.seq (.region c_r12_Great_r8 none [1, 5, 15, 16, 17, 32, 33]) (.block 2 (.loop (.seq (.region c_r12_Great_r9 none [1, 5, 15, 16, 17, 32, 33, 34]) (.seq (.cond (.t 34) (.skip) (.exit 2)) (.seq (.block 3 (.seq (.region c_r12_Great_r10 none [1, 5, 9, 15, 16, 17, 32, 33]) (.seq (.region c_r12_Great_r11 none [1, 5, 15, 16, 17, 32, 33]) (.seq (.region c_r12_Great_r12 none [1, 5, 15, 16, 17, 32, 33, 42]) (.cond (.t 42) (.seq (.region c_r12_Great_r13 none [4]) (.ret)) (.skip)))))) (.region c_r12_Great_r14 none [1, 5, 15, 16, 17, 32, 33])))))))))) (.region c_r12_Great_r15 none [1, 5, 15, 16, 17]))))))) (.seq (.region c_r12_Great_r16 none [4]) (.ret)))))
@[simp] def R_r12_Great : List CRes := [.tmp 4]
theorem k_r12_Great : chkFn Try.prog fn_r12_Great c_r12_Great R_r12_Great 2 = true := by kernel_rfl
/-! (*wapentake/code.Writer).Num -/
@[simp] def a_code_Writer_Num_r0 : List COper := [
  ⟨(some 7), .mov, [.t 0], none⟩,
  ⟨(some 8), .eqp false, [.t 7, .c (.pointer none)], none⟩]
def c_code_Writer_Num_r0 : List COper := a_code_Writer_Num_r0
instance : Reg c_code_Writer_Num_r0 a_code_Writer_Num_r0 2 := ⟨rfl, rfl⟩
@[simp] def a_code_Writer_Num_r1 : List COper := [
  ⟨(some 9), .mov, [.t 1], none⟩,
  ⟨(some 10), .len, [.t 9], none⟩,
  ⟨(some 11), .mov, [.c (.int .i64 0)], none⟩]
def c_code_Writer_Num_r1 : List COper := a_code_Writer_Num_r1
instance : Reg c_code_Writer_Num_r1 a_code_Writer_Num_r1 3 := ⟨rfl, rfl⟩
@[simp] def a_code_Writer_Num_r2 : List COper := [
  ⟨(some 12), .bin .lss, [.t 11, .t 10], none⟩]
def c_code_Writer_Num_r2 : List COper := a_code_Writer_Num_r2
instance : Reg c_code_Writer_Num_r2 a_code_Writer_Num_r2 1 := ⟨rfl, rfl⟩
@[simp] def a_code_Writer_Num_r3 : List COper := [
  ⟨(some 13), .iaddr 1, [.t 9, .t 11], none⟩,
  ⟨(some 14), .load false 1, [.t 13], none⟩,
  ⟨(some 5), .mov, [.t 14], none⟩]
def c_code_Writer_Num_r3 : List COper := a_code_Writer_Num_r3
instance : Reg c_code_Writer_Num_r3 a_code_Writer_Num_r3 3 := ⟨rfl, rfl⟩
@[simp] def a_code_Writer_Num_r4 : List COper := [
  ⟨(some 6), .mov, [.c (.int .i64 56)], none⟩]
def c_code_Writer_Num_r4 : List COper := a_code_Writer_Num_r4
instance : Reg c_code_Writer_Num_r4 a_code_Writer_Num_r4 1 := ⟨rfl, rfl⟩
@[simp] def a_code_Writer_Num_r5 : List COper := [
  ⟨(some 15), .mov, [.t 6], none⟩,
  ⟨(some 16), .bin .geq, [.t 15, .c (.int .i64 0)], none⟩]
def c_code_Writer_Num_r5 : List COper := a_code_Writer_Num_r5
instance : Reg c_code_Writer_Num_r5 a_code_Writer_Num_r5 2 := ⟨rfl, rfl⟩
@[simp] def a_code_Writer_Num_r7 : List COper := [
  ⟨(some 19), .mov, [.t 0], none⟩,
  ⟨(some 20), .mov, [.t 0], none⟩,
  ⟨(some 21), .nilc, [.t 20], none⟩,
  ⟨(some 22), .faddr 0 1 false, [.t 21], none⟩,
  ⟨(some 23), .load false 1, [.t 22], none⟩,
  ⟨(some 24), .mov, [.t 5], none⟩,
  ⟨(some 25), .convI .u64, [.t 24], none⟩,
  ⟨(some 26), .mov, [.t 6], none⟩,
  ⟨(some 27), .bin .shr, [.t 25, .t 26], none⟩,
  ⟨(some 28), .convI .u8, [.t 27], none⟩,
  ⟨(some 29), .bslice 1 1 (.v (.int .u8 0)) [0], [.t 28], none⟩,
  ⟨(some 30), .app 1 1, [.t 23, .t 29], none⟩,
  ⟨(some 31), .nilc, [.t 19], none⟩,
  ⟨(some 32), .faddr 0 1 false, [.t 31], none⟩,
  ⟨none, .store false 1, [.t 32, .t 30], none⟩]
def c_code_Writer_Num_r7 : List COper := a_code_Writer_Num_r7
instance : Reg c_code_Writer_Num_r7 a_code_Writer_Num_r7 15 := ⟨rfl, rfl⟩
@[simp] def a_code_Writer_Num_r6 : List COper := [
  ⟨(some 17), .mov, [.t 6], none⟩,
  ⟨(some 18), .bin .sub, [.t 17, .c (.int .i64 8)], none⟩,
  ⟨(some 6), .mov, [.t 18], none⟩]
def c_code_Writer_Num_r6 : List COper := a_code_Writer_Num_r6
instance : Reg c_code_Writer_Num_r6 a_code_Writer_Num_r6 3 := ⟨rfl, rfl⟩
@[simp] def a_code_Writer_Num_r8 : List COper := [
  ⟨(some 33), .bin .add, [.t 11, .c (.int .i64 1)], none⟩,
  ⟨(some 11), .mov, [.t 33], none⟩]
def c_code_Writer_Num_r8 : List COper := a_code_Writer_Num_r8
instance : Reg c_code_Writer_Num_r8 a_code_Writer_Num_r8 2 := ⟨rfl, rfl⟩
@[simp] def c_code_Writer_Num : CCode :=
  .seq (.seq (.region c_code_Writer_Num_r0 none [0, 1, 8]) (.cond (.t 8) (.ret) (.skip))) (.seq (.region c_code_Writer_Num_r1 none [0, 9, 10, 11]) (.block 0 (.loop (.seq (.region c_code_Writer_Num_r2 none [0, 9, 10, 11, 12]) (.seq (.cond (.t 12) (.skip) (.exit 0)) (.seq (.block 1 (.seq (.region c_code_Writer_Num_r3 none [0, 5, 9, 10, 11]) (.seq (.region c_code_Writer_Num_r4 none [0, 5, 6, 9, 10, 11]) (.block 2 (.loop (.seq (.seq (.region c_code_Writer_Num_r5 none [0, 5, 6, 9, 10, 11, 16]) (.cond (.t 16) (.skip) (.exit 2))) (.seq (.block 3 (.region c_code_Writer_Num_r7 (some ([0, 0, 2, 6, 14, 0, 32, 0, 224, 480, 992, 2046, 4095, 8191, 16383], [(4, 10)])) [0, 5, 6, 9, 10, 11])) (.region c_code_Writer_Num_r6 none [0, 5, 6, 9, 10, 11])))))))) (.region c_code_Writer_Num_r8 none [0, 9, 10, 11])))))))
@[simp] def R_code_Writer_Num : List CRes := []
theorem k_code_Writer_Num : chkFn Try.prog fn_code_Writer_Num c_code_Writer_Num R_code_Writer_Num 2 = true := by kernel_rfl
/-! wapentake/mail.body -/
@[simp] def a_mail_body_r0 : List COper := [
  ⟨(some 3), .box, [.t 1], none⟩,
  ⟨(some 4), .mov, [.c (.bool false)], none⟩]
def c_mail_body_r0 : List COper := a_mail_body_r0
instance : Reg c_mail_body_r0 a_mail_body_r0 2 := ⟨rfl, rfl⟩
@[simp] def a_mail_body_r1 : List COper := [
  ⟨(some 5), .faddr 0 1 false, [.t 3], none⟩,
  ⟨(some 6), .load false 1, [.t 5], none⟩]
def c_mail_body_r1 : List COper := a_mail_body_r1
instance : Reg c_mail_body_r1 a_mail_body_r1 2 := ⟨rfl, rfl⟩
@[simp] def a_mail_body_r2 : List COper := [
  ⟨(some 8), .bin .eql, [.t 6, .c (.int .i64 1)], none⟩,
  ⟨(some 7), .mov, [.t 8], none⟩]
def c_mail_body_r2 : List COper := a_mail_body_r2
instance : Reg c_mail_body_r2 a_mail_body_r2 2 := ⟨rfl, rfl⟩
@[simp] def a_mail_body_r3 : List COper := [
  ⟨(some 9), .mov, [.t 0], none⟩,
  ⟨(some 10), .faddr 1 108 true, [.t 3], none⟩,
  ⟨(some 11), .load true 108, [.t 10], none⟩,
  ⟨(some 12), .call fn_vote_WritePlan, [.t 9, .t 11], none⟩,
  ⟨(some 4), .mov, [.t 12], none⟩]
def c_mail_body_r3 : List COper := a_mail_body_r3
instance : Reg c_mail_body_r3 a_mail_body_r3 5 := ⟨rfl, rfl⟩
@[simp] def a_mail_body_r4 : List COper := [
  ⟨(some 14), .bin .eql, [.t 6, .c (.int .i64 2)], none⟩,
  ⟨(some 13), .mov, [.t 14], none⟩]
def c_mail_body_r4 : List COper := a_mail_body_r4
instance : Reg c_mail_body_r4 a_mail_body_r4 2 := ⟨rfl, rfl⟩
@[simp] def a_mail_body_r5 : List COper := [
  ⟨(some 15), .mov, [.t 0], none⟩,
  ⟨(some 16), .faddr 109 41 true, [.t 3], none⟩,
  ⟨(some 17), .load true 41, [.t 16], none⟩,
  ⟨(some 18), .call fn_vote_Write, [.t 15, .t 17], none⟩,
  ⟨(some 4), .mov, [.t 18], none⟩]
def c_mail_body_r5 : List COper := a_mail_body_r5
instance : Reg c_mail_body_r5 a_mail_body_r5 5 := ⟨rfl, rfl⟩
@[simp] def a_mail_body_r6 : List COper := [
  ⟨(some 20), .bin .eql, [.t 6, .c (.int .i64 3)], none⟩,
  ⟨(some 19), .mov, [.t 20], none⟩]
def c_mail_body_r6 : List COper := a_mail_body_r6
instance : Reg c_mail_body_r6 a_mail_body_r6 2 := ⟨rfl, rfl⟩
@[simp] def a_mail_body_r7 : List COper := [
  ⟨(some 21), .mov, [.t 0], none⟩,
  ⟨(some 22), .faddr 150 42 true, [.t 3], none⟩,
  ⟨(some 23), .load true 42, [.t 22], none⟩,
  ⟨(some 24), .call fn_request_Write, [.t 21, .t 23], none⟩]
def c_mail_body_r7 : List COper := a_mail_body_r7
instance : Reg c_mail_body_r7 a_mail_body_r7 4 := ⟨rfl, rfl⟩
@[simp] def a_mail_body_r8 : List COper := [
  ⟨(some 26), .bin .eql, [.t 6, .c (.int .i64 4)], none⟩,
  ⟨(some 25), .mov, [.t 26], none⟩]
def c_mail_body_r8 : List COper := a_mail_body_r8
instance : Reg c_mail_body_r8 a_mail_body_r8 2 := ⟨rfl, rfl⟩
@[simp] def a_mail_body_r9 : List COper := [
  ⟨(some 27), .mov, [.t 0], none⟩,
  ⟨(some 28), .faddr 196 1 false, [.t 3], none⟩,
  ⟨(some 29), .load false 1, [.t 28], none⟩,
  ⟨(some 30), .bslice 1 1 (.v (.int .i64 0)) [0], [.t 29], none⟩,
  ⟨(some 31), .call fn_code_Writer_Num, [.t 27, .t 30], none⟩]
def c_mail_body_r9 : List COper := a_mail_body_r9
instance : Reg c_mail_body_r9 a_mail_body_r9 5 := ⟨rfl, rfl⟩
@[simp] def a_mail_body_r10 : List COper := [
  ⟨(some 32), .mov, [.t 0], none⟩,
  ⟨(some 33), .faddr 192 4 true, [.t 3], none⟩,
  ⟨(some 34), .load true 4, [.t 33], none⟩,
  ⟨(some 35), .call fn_request_WriteReply, [.t 32, .t 34], none⟩]
def c_mail_body_r10 : List COper := a_mail_body_r10
instance : Reg c_mail_body_r10 a_mail_body_r10 4 := ⟨rfl, rfl⟩
@[simp] def a_mail_body_r11 : List COper := [
  ⟨(some 37), .bin .eql, [.t 6, .c (.int .i64 5)], none⟩,
  ⟨(some 36), .mov, [.t 37], none⟩]
def c_mail_body_r11 : List COper := a_mail_body_r11
instance : Reg c_mail_body_r11 a_mail_body_r11 2 := ⟨rfl, rfl⟩
@[simp] def a_mail_body_r12 : List COper := [
  ⟨(some 38), .mov, [.t 0], none⟩,
  ⟨(some 39), .faddr 197 99 true, [.t 3], none⟩,
  ⟨(some 40), .load true 99, [.t 39], none⟩,
  ⟨(some 41), .call fn_block_Write, [.t 38, .t 40], none⟩]
def c_mail_body_r12 : List COper := a_mail_body_r12
instance : Reg c_mail_body_r12 a_mail_body_r12 4 := ⟨rfl, rfl⟩
@[simp] def a_mail_body_r13 : List COper := [
  ⟨(some 42), .mov, [.t 0], none⟩,
  ⟨(some 43), .faddr 296 2 true, [.t 3], none⟩,
  ⟨(some 44), .load true 2, [.t 43], none⟩,
  ⟨(some 45), .call fn_cert_Write, [.t 42, .t 44], none⟩,
  ⟨(some 4), .mov, [.t 45], none⟩]
def c_mail_body_r13 : List COper := a_mail_body_r13
instance : Reg c_mail_body_r13 a_mail_body_r13 5 := ⟨rfl, rfl⟩
@[simp] def a_mail_body_r14 : List COper := [
  ⟨(some 47), .bin .eql, [.t 6, .c (.int .i64 6)], none⟩,
  ⟨(some 46), .mov, [.t 47], none⟩]
def c_mail_body_r14 : List COper := a_mail_body_r14
instance : Reg c_mail_body_r14 a_mail_body_r14 2 := ⟨rfl, rfl⟩
@[simp] def a_mail_body_r15 : List COper := [
  ⟨(some 48), .mov, [.t 0], none⟩,
  ⟨(some 49), .faddr 196 1 false, [.t 3], none⟩,
  ⟨(some 50), .load false 1, [.t 49], none⟩,
  ⟨(some 51), .bslice 1 1 (.v (.int .i64 0)) [0], [.t 50], none⟩,
  ⟨(some 52), .call fn_code_Writer_Num, [.t 48, .t 51], none⟩]
def c_mail_body_r15 : List COper := a_mail_body_r15
instance : Reg c_mail_body_r15 a_mail_body_r15 5 := ⟨rfl, rfl⟩
@[simp] def a_mail_body_r16 : List COper := [
  ⟨(some 54), .bin .eql, [.t 6, .c (.int .i64 8)], none⟩,
  ⟨(some 53), .mov, [.t 54], none⟩]
def c_mail_body_r16 : List COper := a_mail_body_r16
instance : Reg c_mail_body_r16 a_mail_body_r16 2 := ⟨rfl, rfl⟩
@[simp] def a_mail_body_r17 : List COper := [
  ⟨(some 55), .mov, [.t 0], none⟩,
  ⟨(some 56), .load true 300, [.t 3], none⟩,
  ⟨(some 57), .call fn_mail_list, [.t 55, .t 56], none⟩,
  ⟨(some 4), .mov, [.t 57], none⟩]
def c_mail_body_r17 : List COper := a_mail_body_r17
instance : Reg c_mail_body_r17 a_mail_body_r17 4 := ⟨rfl, rfl⟩
@[simp] def a_mail_body_r18 : List COper := [
  ⟨(some 59), .bin .eql, [.t 6, .c (.int .i64 9)], none⟩,
  ⟨(some 58), .mov, [.t 59], none⟩]
def c_mail_body_r18 : List COper := a_mail_body_r18
instance : Reg c_mail_body_r18 a_mail_body_r18 2 := ⟨rfl, rfl⟩
@[simp] def a_mail_body_r19 : List COper := [
  ⟨(some 60), .mov, [.t 0], none⟩,
  ⟨(some 61), .faddr 197 99 true, [.t 3], none⟩,
  ⟨(some 62), .load true 99, [.t 61], none⟩,
  ⟨(some 63), .call fn_block_Write, [.t 60, .t 62], none⟩]
def c_mail_body_r19 : List COper := a_mail_body_r19
instance : Reg c_mail_body_r19 a_mail_body_r19 4 := ⟨rfl, rfl⟩
@[simp] def a_mail_body_r20 : List COper := [
  ⟨(some 64), .mov, [.t 0], none⟩,
  ⟨(some 65), .faddr 296 2 true, [.t 3], none⟩,
  ⟨(some 66), .load true 2, [.t 65], none⟩,
  ⟨(some 67), .call fn_cert_Write, [.t 64, .t 66], none⟩,
  ⟨(some 68), .mov, [.t 67], none⟩,
  ⟨(some 69), .mov, [.t 0], (some (68, true))⟩,
  ⟨(some 70), .load true 300, [.t 3], (some (68, true))⟩,
  ⟨(some 71), .call fn_mail_list, [.t 69, .t 70], (some (68, true))⟩,
  ⟨(some 72), .pick, [.t 68, .t 71, .c (.bool false)], none⟩,
  ⟨(some 4), .mov, [.t 72], none⟩]
def c_mail_body_r20 : List COper := a_mail_body_r20
instance : Reg c_mail_body_r20 a_mail_body_r20 10 := ⟨rfl, rfl⟩
@[simp] def a_mail_body_r21 : List COper := [
  ⟨(some 4), .mov, [.c (.bool true)], none⟩]
def c_mail_body_r21 : List COper := a_mail_body_r21
instance : Reg c_mail_body_r21 a_mail_body_r21 1 := ⟨rfl, rfl⟩
@[simp] def c_mail_body : CCode :=
  .seq (.region c_mail_body_r0 none [0, 3]) (.seq (.seq (.region c_mail_body_r1 none [0, 3, 6]) (.block 0 (.seq (.region c_mail_body_r2 none [0, 3, 6, 7]) (.cond (.t 7) (.seq (.region c_mail_body_r3 none [4]) (.ret)) (.seq (.region c_mail_body_r4 none [0, 3, 6, 13]) (.cond (.t 13) (.seq (.region c_mail_body_r5 none [4]) (.ret)) (.seq (.region c_mail_body_r6 none [0, 3, 6, 19]) (.cond (.t 19) (.region c_mail_body_r7 none []) (.seq (.region c_mail_body_r8 none [0, 3, 6, 25]) (.cond (.t 25) (.seq (.region c_mail_body_r9 none [0, 3]) (.region c_mail_body_r10 none [])) (.seq (.region c_mail_body_r11 none [0, 3, 6, 36]) (.cond (.t 36) (.seq (.region c_mail_body_r12 none [0, 3]) (.seq (.region c_mail_body_r13 none [4]) (.ret))) (.seq (.region c_mail_body_r14 none [0, 3, 6, 46]) (.cond (.t 46) (.region c_mail_body_r15 none []) (.seq (.region c_mail_body_r16 none [0, 3, 6, 53]) (.cond (.t 53) (.seq (.region c_mail_body_r17 none [4]) (.ret)) (.seq (.region c_mail_body_r18 none [0, 3, 58]) (.cond (.t 58) (.seq (.region c_mail_body_r19 none [0, 3]) (.seq (.region c_mail_body_r20 none [4]) (.ret))) (.skip))))))))))))))))))) (.seq (.region c_mail_body_r21 none [4]) (.ret)))
@[simp] def R_mail_body : List CRes := [.tmp 4]
theorem k_mail_body : chkFn Try.prog fn_mail_body c_mail_body R_mail_body 2 = true := by kernel_rfl
/-! (*wapentake/code.Writer).Bytes -/
@[simp] def a_code_Writer_Bytes_r0 : List COper := [
  ⟨(some 2), .mov, [.c (.slice none 0 0)], none⟩]
def c_code_Writer_Bytes_r0 : List COper := a_code_Writer_Bytes_r0
instance : Reg c_code_Writer_Bytes_r0 a_code_Writer_Bytes_r0 1 := ⟨rfl, rfl⟩
@[simp] def a_code_Writer_Bytes_r1 : List COper := [
  ⟨(some 3), .mov, [.t 0], none⟩,
  ⟨(some 4), .eqp false, [.t 3, .c (.pointer none)], none⟩]
def c_code_Writer_Bytes_r1 : List COper := a_code_Writer_Bytes_r1
instance : Reg c_code_Writer_Bytes_r1 a_code_Writer_Bytes_r1 2 := ⟨rfl, rfl⟩
@[simp] def a_code_Writer_Bytes_r2 : List COper := [
  ⟨(some 2), .mov, [.c (.slice none 0 0)], none⟩]
def c_code_Writer_Bytes_r2 : List COper := a_code_Writer_Bytes_r2
instance : Reg c_code_Writer_Bytes_r2 a_code_Writer_Bytes_r2 1 := ⟨rfl, rfl⟩
@[simp] def a_code_Writer_Bytes_r3 : List COper := [
  ⟨(some 5), .mov, [.t 0], none⟩,
  ⟨(some 6), .nilc, [.t 5], none⟩,
  ⟨(some 7), .faddr 0 1 false, [.t 6], none⟩,
  ⟨(some 8), .load false 1, [.t 7], none⟩,
  ⟨(some 9), .slice0 1, [.t 8], none⟩,
  ⟨(some 10), .mov, [.t 0], none⟩,
  ⟨(some 11), .nilc, [.t 10], none⟩,
  ⟨(some 12), .faddr 0 1 false, [.t 11], none⟩,
  ⟨(some 13), .load false 1, [.t 12], none⟩,
  ⟨(some 14), .app 1 1, [.t 9, .t 13], none⟩,
  ⟨(some 2), .mov, [.t 14], none⟩]
def c_code_Writer_Bytes_r3 : List COper := a_code_Writer_Bytes_r3
instance : Reg c_code_Writer_Bytes_r3 a_code_Writer_Bytes_r3 11 := ⟨rfl, rfl⟩
@[simp] def c_code_Writer_Bytes : CCode :=
  .seq (.region c_code_Writer_Bytes_r0 none [0]) (.seq (.seq (.region c_code_Writer_Bytes_r1 none [0, 4]) (.cond (.t 4) (.seq (.region c_code_Writer_Bytes_r2 none [2]) (.ret)) (.skip))) (.seq (.region c_code_Writer_Bytes_r3 (some ([0, 1, 3, 7, 15, 0, 32, 96, 224, 511, 1023], [(4, 8)])) [2]) (.ret)))
@[simp] def R_code_Writer_Bytes : List CRes := [.tmp 2]
theorem k_code_Writer_Bytes : chkFn Try.prog fn_code_Writer_Bytes c_code_Writer_Bytes R_code_Writer_Bytes 1 = true := by kernel_rfl
/-! (*wapentake/code.Reader).Num -/
@[simp] def a_code_Reader_Num_r0 : List COper := [
  ⟨(some 2), .mov, [.c (.int .i64 0)], none⟩]
def c_code_Reader_Num_r0 : List COper := a_code_Reader_Num_r0
instance : Reg c_code_Reader_Num_r0 a_code_Reader_Num_r0 1 := ⟨rfl, rfl⟩
@[simp] def a_code_Reader_Num_r1 : List COper := [
  ⟨(some 3), .mov, [.c (.int .u64 0)], none⟩]
def c_code_Reader_Num_r1 : List COper := a_code_Reader_Num_r1
instance : Reg c_code_Reader_Num_r1 a_code_Reader_Num_r1 1 := ⟨rfl, rfl⟩
@[simp] def a_code_Reader_Num_r2 : List COper := [
  ⟨(some 6), .mov, [.t 0], none⟩,
  ⟨(some 7), .call fn_code_Reader_take, [.t 6, .c (.int .i64 8)], none⟩,
  ⟨(some 8), .len, [.t 7], none⟩,
  ⟨(some 9), .mov, [.c (.int .i64 0)], none⟩]
def c_code_Reader_Num_r2 : List COper := a_code_Reader_Num_r2
instance : Reg c_code_Reader_Num_r2 a_code_Reader_Num_r2 4 := ⟨rfl, rfl⟩
@[simp] def a_code_Reader_Num_r3 : List COper := [
  ⟨(some 10), .bin .lss, [.t 9, .t 8], none⟩]
def c_code_Reader_Num_r3 : List COper := a_code_Reader_Num_r3
instance : Reg c_code_Reader_Num_r3 a_code_Reader_Num_r3 1 := ⟨rfl, rfl⟩
@[simp] def a_code_Reader_Num_r4 : List COper := [
  ⟨(some 11), .iaddr 1, [.t 7, .t 9], none⟩,
  ⟨(some 12), .load false 1, [.t 11], none⟩,
  ⟨(some 5), .mov, [.t 12], none⟩]
def c_code_Reader_Num_r4 : List COper := a_code_Reader_Num_r4
instance : Reg c_code_Reader_Num_r4 a_code_Reader_Num_r4 3 := ⟨rfl, rfl⟩
@[simp] def a_code_Reader_Num_r5 : List COper := [
  ⟨(some 13), .mov, [.t 3], none⟩,
  ⟨(some 14), .bin .shl, [.t 13, .c (.int .u64 8)], none⟩,
  ⟨(some 15), .mov, [.t 5], none⟩,
  ⟨(some 16), .convI .u64, [.t 15], none⟩,
  ⟨(some 17), .bin .or, [.t 14, .t 16], none⟩,
  ⟨(some 3), .mov, [.t 17], none⟩]
def c_code_Reader_Num_r5 : List COper := a_code_Reader_Num_r5
instance : Reg c_code_Reader_Num_r5 a_code_Reader_Num_r5 6 := ⟨rfl, rfl⟩
@[simp] def a_code_Reader_Num_r6 : List COper := [
  ⟨(some 18), .bin .add, [.t 9, .c (.int .i64 1)], none⟩,
  ⟨(some 9), .mov, [.t 18], none⟩]
def c_code_Reader_Num_r6 : List COper := a_code_Reader_Num_r6
instance : Reg c_code_Reader_Num_r6 a_code_Reader_Num_r6 2 := ⟨rfl, rfl⟩
@[simp] def a_code_Reader_Num_r7 : List COper := [
  ⟨(some 19), .mov, [.t 3], none⟩,
  ⟨(some 20), .convI .i64, [.t 19], none⟩,
  ⟨(some 2), .mov, [.t 20], none⟩]
def c_code_Reader_Num_r7 : List COper := a_code_Reader_Num_r7
instance : Reg c_code_Reader_Num_r7 a_code_Reader_Num_r7 3 := ⟨rfl, rfl⟩
@[simp] def c_code_Reader_Num : CCode :=
  .seq (.region c_code_Reader_Num_r0 none [0]) (.seq (.region c_code_Reader_Num_r1 none [0, 3]) (.seq (.seq (.region c_code_Reader_Num_r2 none [3, 7, 8, 9]) (.block 0 (.loop (.seq (.region c_code_Reader_Num_r3 none [3, 7, 8, 9, 10]) (.seq (.cond (.t 10) (.skip) (.exit 0)) (.seq (.block 1 (.seq (.region c_code_Reader_Num_r4 none [3, 5, 7, 8, 9]) (.region c_code_Reader_Num_r5 none [3, 7, 8, 9]))) (.region c_code_Reader_Num_r6 none [3, 7, 8, 9]))))))) (.seq (.region c_code_Reader_Num_r7 none [2]) (.ret))))
@[simp] def R_code_Reader_Num : List CRes := [.tmp 2]
theorem k_code_Reader_Num : chkFn Try.prog fn_code_Reader_Num c_code_Reader_Num R_code_Reader_Num 1 = true := by kernel_rfl
/-! wapentake/keys.Read -/
@[simp] def a_keys_Read_r0 : List COper := [
  ⟨(some 2), .alloc (.node [.v (.int .i64 0), .node [.v (.slice none 0 0), .v (.slice none 0 0)], .v (.slice none 0 0)]), [], none⟩]
def c_keys_Read_r0 : List COper := a_keys_Read_r0
instance : Reg c_keys_Read_r0 a_keys_Read_r0 1 := ⟨rfl, rfl⟩
@[simp] def a_keys_Read_r1 : List COper := [
  ⟨(some 5), .mov, [.t 0], none⟩,
  ⟨(some 6), .call fn_code_Reader_Num, [.t 5], none⟩,
  ⟨(some 7), .build [.v (.int .i64 0), .node [.v (.slice none 0 0), .v (.slice none 0 0)], .v (.slice none 0 0)] [0], [.t 6], none⟩,
  ⟨(some 3), .alloc (.node [.v (.int .i64 0), .node [.v (.slice none 0 0), .v (.slice none 0 0)], .v (.slice none 0 0)]), [], none⟩,
  ⟨none, .store true 4, [.t 3, .t 7], none⟩]
def c_keys_Read_r1 : List COper := a_keys_Read_r1
instance : Reg c_keys_Read_r1 a_keys_Read_r1 5 := ⟨rfl, rfl⟩
@[simp] def a_keys_Read_r2 : List COper := [
  ⟨(some 8), .mov, [.t 0], none⟩,
  ⟨(some 9), .call fn_code_Reader_In, [.t 8, .c (.int .i64 0), .c (.int .i64 6)], none⟩,
  ⟨(some 4), .mov, [.t 9], none⟩]
def c_keys_Read_r2 : List COper := a_keys_Read_r2
instance : Reg c_keys_Read_r2 a_keys_Read_r2 3 := ⟨rfl, rfl⟩
@[simp] def a_keys_Read_r3 : List COper := [
  ⟨(some 10), .mov, [.t 0], none⟩,
  ⟨(some 11), .call fn_code_Reader_Good, [.t 10], none⟩,
  ⟨(some 12), .not, [.t 11], none⟩]
def c_keys_Read_r3 : List COper := a_keys_Read_r3
instance : Reg c_keys_Read_r3 a_keys_Read_r3 3 := ⟨rfl, rfl⟩
@[simp] def a_keys_Read_r4 : List COper := [
  ⟨(some 13), .build [.v (.int .i64 0), .node [.v (.slice none 0 0), .v (.slice none 0 0)], .v (.slice none 0 0)] [], [], none⟩,
  ⟨none, .store true 4, [.t 2, .t 13], none⟩]
def c_keys_Read_r4 : List COper := a_keys_Read_r4
instance : Reg c_keys_Read_r4 a_keys_Read_r4 2 := ⟨rfl, rfl⟩
@[simp] def a_keys_Read_r5 : List COper := [
  ⟨(some 14), .mov, [.c (.int .i64 0)], none⟩]
def c_keys_Read_r5 : List COper := a_keys_Read_r5
instance : Reg c_keys_Read_r5 a_keys_Read_r5 1 := ⟨rfl, rfl⟩
@[simp] def a_keys_Read_r6 : List COper := [
  ⟨(some 15), .bin .lss, [.t 14, .c (.int .i64 32)], none⟩]
def c_keys_Read_r6 : List COper := a_keys_Read_r6
instance : Reg c_keys_Read_r6 a_keys_Read_r6 1 := ⟨rfl, rfl⟩
@[simp] def a_keys_Read_r7 : List COper := [
  ⟨(some 16), .faddr 1 2 true, [.t 3], none⟩,
  ⟨(some 17), .faddr 0 1 false, [.t 16], none⟩,
  ⟨(some 18), .load false 1, [.t 17], none⟩,
  ⟨(some 19), .mov, [.t 0], none⟩,
  ⟨(some 20), .call fn_code_Reader_Digest, [.t 19], none⟩,
  ⟨(some 21), .bslice 32 1 (.arr 1 (rep 32 (.v (.int .u8 0)))) [0], [.t 20], none⟩,
  ⟨(some 22), .app 32 32, [.t 18, .t 21], none⟩,
  ⟨(some 23), .faddr 1 2 true, [.t 3], none⟩,
  ⟨(some 24), .faddr 0 1 false, [.t 23], none⟩,
  ⟨none, .store false 1, [.t 24, .t 22], none⟩]
def c_keys_Read_r7 : List COper := a_keys_Read_r7
instance : Reg c_keys_Read_r7 a_keys_Read_r7 10 := ⟨rfl, rfl⟩
@[simp] def a_keys_Read_r8 : List COper := [
  ⟨(some 25), .bin .add, [.t 14, .c (.int .i64 1)], none⟩,
  ⟨(some 14), .mov, [.t 25], none⟩]
def c_keys_Read_r8 : List COper := a_keys_Read_r8
instance : Reg c_keys_Read_r8 a_keys_Read_r8 2 := ⟨rfl, rfl⟩
@[simp] def a_keys_Read_r9 : List COper := [
  ⟨(some 26), .mov, [.c (.int .i64 0)], none⟩]
def c_keys_Read_r9 : List COper := a_keys_Read_r9
instance : Reg c_keys_Read_r9 a_keys_Read_r9 1 := ⟨rfl, rfl⟩
@[simp] def a_keys_Read_r10 : List COper := [
  ⟨(some 27), .bin .lss, [.t 26, .c (.int .i64 32)], none⟩]
def c_keys_Read_r10 : List COper := a_keys_Read_r10
instance : Reg c_keys_Read_r10 a_keys_Read_r10 1 := ⟨rfl, rfl⟩
@[simp] def a_keys_Read_r11 : List COper := [
  ⟨(some 28), .faddr 1 2 true, [.t 3], none⟩,
  ⟨(some 29), .faddr 1 1 false, [.t 28], none⟩,
  ⟨(some 30), .load false 1, [.t 29], none⟩,
  ⟨(some 31), .mov, [.t 0], none⟩,
  ⟨(some 32), .call fn_code_Reader_Digest, [.t 31], none⟩,
  ⟨(some 33), .bslice 32 1 (.arr 1 (rep 32 (.v (.int .u8 0)))) [0], [.t 32], none⟩,
  ⟨(some 34), .app 32 32, [.t 30, .t 33], none⟩,
  ⟨(some 35), .faddr 1 2 true, [.t 3], none⟩,
  ⟨(some 36), .faddr 1 1 false, [.t 35], none⟩,
  ⟨none, .store false 1, [.t 36, .t 34], none⟩]
def c_keys_Read_r11 : List COper := a_keys_Read_r11
instance : Reg c_keys_Read_r11 a_keys_Read_r11 10 := ⟨rfl, rfl⟩
@[simp] def a_keys_Read_r12 : List COper := [
  ⟨(some 37), .bin .add, [.t 26, .c (.int .i64 1)], none⟩,
  ⟨(some 26), .mov, [.t 37], none⟩]
def c_keys_Read_r12 : List COper := a_keys_Read_r12
instance : Reg c_keys_Read_r12 a_keys_Read_r12 2 := ⟨rfl, rfl⟩
@[simp] def a_keys_Read_r13 : List COper := [
  ⟨(some 38), .mov, [.t 4], none⟩,
  ⟨(some 39), .mov, [.c (.int .i64 0)], none⟩]
def c_keys_Read_r13 : List COper := a_keys_Read_r13
instance : Reg c_keys_Read_r13 a_keys_Read_r13 2 := ⟨rfl, rfl⟩
@[simp] def a_keys_Read_r14 : List COper := [
  ⟨(some 40), .bin .lss, [.t 39, .t 38], none⟩]
def c_keys_Read_r14 : List COper := a_keys_Read_r14
instance : Reg c_keys_Read_r14 a_keys_Read_r14 1 := ⟨rfl, rfl⟩
@[simp] def a_keys_Read_r15 : List COper := [
  ⟨(some 41), .faddr 3 1 false, [.t 3], none⟩,
  ⟨(some 42), .load false 1, [.t 41], none⟩,
  ⟨(some 43), .mov, [.t 0], none⟩,
  ⟨(some 44), .call fn_code_Reader_Digest, [.t 43], none⟩,
  ⟨(some 45), .bslice 32 1 (.arr 1 (rep 32 (.v (.int .u8 0)))) [0], [.t 44], none⟩,
  ⟨(some 46), .app 32 32, [.t 42, .t 45], none⟩,
  ⟨(some 47), .faddr 3 1 false, [.t 3], none⟩,
  ⟨none, .store false 1, [.t 47, .t 46], none⟩]
def c_keys_Read_r15 : List COper := a_keys_Read_r15
instance : Reg c_keys_Read_r15 a_keys_Read_r15 8 := ⟨rfl, rfl⟩
@[simp] def a_keys_Read_r16 : List COper := [
  ⟨(some 48), .bin .add, [.t 39, .c (.int .i64 1)], none⟩,
  ⟨(some 39), .mov, [.t 48], none⟩]
def c_keys_Read_r16 : List COper := a_keys_Read_r16
instance : Reg c_keys_Read_r16 a_keys_Read_r16 2 := ⟨rfl, rfl⟩
@[simp] def a_keys_Read_r17 : List COper := [
  ⟨(some 49), .mov, [.t 0], none⟩,
  ⟨(some 50), .call fn_code_Reader_Good, [.t 49], none⟩,
  ⟨(some 51), .not, [.t 50], none⟩]
def c_keys_Read_r17 : List COper := a_keys_Read_r17
instance : Reg c_keys_Read_r17 a_keys_Read_r17 3 := ⟨rfl, rfl⟩
@[simp] def a_keys_Read_r18 : List COper := [
  ⟨(some 52), .build [.v (.int .i64 0), .node [.v (.slice none 0 0), .v (.slice none 0 0)], .v (.slice none 0 0)] [], [], none⟩,
  ⟨none, .store true 4, [.t 2, .t 52], none⟩]
def c_keys_Read_r18 : List COper := a_keys_Read_r18
instance : Reg c_keys_Read_r18 a_keys_Read_r18 2 := ⟨rfl, rfl⟩
@[simp] def a_keys_Read_r19 : List COper := [
  ⟨(some 53), .load true 4, [.t 3], none⟩,
  ⟨none, .store true 4, [.t 2, .t 53], none⟩]
def c_keys_Read_r19 : List COper := a_keys_Read_r19
instance : Reg c_keys_Read_r19 a_keys_Read_r19 2 := ⟨rfl, rfl⟩
@[simp] def c_keys_Read : CCode :=
  .seq (.region c_keys_Read_r0 none [0, 2]) (.seq (.region c_keys_Read_r1 none [0, 2, 3]) (.seq (.region c_keys_Read_r2 none [0, 2, 3, 4]) (.seq (.seq (.region c_keys_Read_r3 none [0, 2, 3, 4, 12]) (.cond (.t 12) (.seq (.region c_keys_Read_r4 none [2]) (.ret)) (.skip))) (.seq (.seq (.region c_keys_Read_r5 none [0, 2, 3, 4, 14]) (.block 0 (.loop (.seq (.region c_keys_Read_r6 none [0, 2, 3, 4, 14, 15]) (.seq (.cond (.t 15) (.skip) (.exit 0)) (.seq (.block 1 (.region c_keys_Read_r7 (some ([0, 1, 3, 0, 8, 24, 63, 127, 255, 511], [(2, 4), (2, 5)])) [0, 2, 3, 4, 14])) (.region c_keys_Read_r8 none [0, 2, 3, 4, 14]))))))) (.seq (.seq (.region c_keys_Read_r9 none [0, 2, 3, 4, 26]) (.block 2 (.loop (.seq (.region c_keys_Read_r10 none [0, 2, 3, 4, 26, 27]) (.seq (.cond (.t 27) (.skip) (.exit 2)) (.seq (.block 3 (.region c_keys_Read_r11 (some ([0, 1, 3, 0, 8, 24, 63, 127, 255, 511], [(2, 4), (2, 5)])) [0, 2, 3, 4, 26])) (.region c_keys_Read_r12 none [0, 2, 3, 4, 26]))))))) (.seq (.seq (.region c_keys_Read_r13 none [0, 2, 3, 38, 39]) (.block 4 (.loop (.seq (.region c_keys_Read_r14 none [0, 2, 3, 38, 39, 40]) (.seq (.cond (.t 40) (.skip) (.exit 4)) (.seq (.block 5 (.region c_keys_Read_r15 (some ([0, 1, 0, 4, 12, 31, 63, 127], [(1, 3), (1, 4)])) [0, 2, 3, 38, 39])) (.region c_keys_Read_r16 none [0, 2, 3, 38, 39]))))))) (.seq (.seq (.region c_keys_Read_r17 none [2, 3, 51]) (.cond (.t 51) (.seq (.region c_keys_Read_r18 none [2]) (.ret)) (.skip))) (.seq (.region c_keys_Read_r19 none [2]) (.ret)))))))))
@[simp] def R_keys_Read : List CRes := [.cell 2 true 4]
theorem k_keys_Read : chkFn Try.prog fn_keys_Read c_keys_Read R_keys_Read 1 = true := by kernel_rfl
/-! (*wapentake/code.Reader).Digest -/
@[simp] def a_code_Reader_Digest_r0 : List COper := [
  ⟨(some 2), .alloc (.arr 1 (rep 32 (.v (.int .u8 0)))), [], none⟩]
def c_code_Reader_Digest_r0 : List COper := a_code_Reader_Digest_r0
instance : Reg c_code_Reader_Digest_r0 a_code_Reader_Digest_r0 1 := ⟨rfl, rfl⟩
@[simp] def a_code_Reader_Digest_r1 : List COper := [
  ⟨(some 3), .alloc (.arr 1 (rep 32 (.v (.int .u8 0)))), [], none⟩]
def c_code_Reader_Digest_r1 : List COper := a_code_Reader_Digest_r1
instance : Reg c_code_Reader_Digest_r1 a_code_Reader_Digest_r1 1 := ⟨rfl, rfl⟩
@[simp] def a_code_Reader_Digest_r2 : List COper := [
  ⟨(some 4), .sliceArr 32 1 false false, [.t 3], none⟩,
  ⟨(some 5), .mov, [.t 0], none⟩,
  ⟨(some 6), .call fn_code_Reader_take, [.t 5, .c (.int .i64 32)], none⟩,
  ⟨(some 7), .copy 1, [.t 4, .t 6], none⟩]
def c_code_Reader_Digest_r2 : List COper := a_code_Reader_Digest_r2
instance : Reg c_code_Reader_Digest_r2 a_code_Reader_Digest_r2 4 := ⟨rfl, rfl⟩
@[simp] def a_code_Reader_Digest_r3 : List COper := [
  ⟨(some 8), .load true 32, [.t 3], none⟩,
  ⟨none, .store true 32, [.t 2, .t 8], none⟩]
def c_code_Reader_Digest_r3 : List COper := a_code_Reader_Digest_r3
instance : Reg c_code_Reader_Digest_r3 a_code_Reader_Digest_r3 2 := ⟨rfl, rfl⟩
@[simp] def c_code_Reader_Digest : CCode :=
  .seq (.region c_code_Reader_Digest_r0 none [0, 2]) (.seq (.region c_code_Reader_Digest_r1 none [0, 2, 3]) (.seq (.region c_code_Reader_Digest_r2 (some ([0, 0, 2, 7], [])) [2, 3]) (.seq (.region c_code_Reader_Digest_r3 none [2]) (.ret))))
@[simp] def R_code_Reader_Digest : List CRes := [.cell 2 true 32]
theorem k_code_Reader_Digest : chkFn Try.prog fn_code_Reader_Digest c_code_Reader_Digest R_code_Reader_Digest 1 = true := by kernel_rfl
/-! (*wapentake/code.Reader).Text -/
@[simp] def a_code_Reader_Text_r0 : List COper := [
  ⟨(some 4), .mov, [.c (.string (mkS []))], none⟩]
def c_code_Reader_Text_r0 : List COper := a_code_Reader_Text_r0
instance : Reg c_code_Reader_Text_r0 a_code_Reader_Text_r0 1 := ⟨rfl, rfl⟩
@[simp] def a_code_Reader_Text_r1 : List COper := [
  ⟨(some 5), .mov, [.c (.int .i64 0)], none⟩]
def c_code_Reader_Text_r1 : List COper := a_code_Reader_Text_r1
instance : Reg c_code_Reader_Text_r1 a_code_Reader_Text_r1 1 := ⟨rfl, rfl⟩
@[simp] def a_code_Reader_Text_r2 : List COper := [
  ⟨(some 8), .mov, [.t 0], none⟩,
  ⟨(some 9), .call fn_code_Reader_take, [.t 8, .c (.int .i64 4)], none⟩,
  ⟨(some 10), .len, [.t 9], none⟩,
  ⟨(some 11), .mov, [.c (.int .i64 0)], none⟩]
def c_code_Reader_Text_r2 : List COper := a_code_Reader_Text_r2
instance : Reg c_code_Reader_Text_r2 a_code_Reader_Text_r2 4 := ⟨rfl, rfl⟩
@[simp] def a_code_Reader_Text_r3 : List COper := [
  ⟨(some 12), .bin .lss, [.t 11, .t 10], none⟩]
def c_code_Reader_Text_r3 : List COper := a_code_Reader_Text_r3
instance : Reg c_code_Reader_Text_r3 a_code_Reader_Text_r3 1 := ⟨rfl, rfl⟩
@[simp] def a_code_Reader_Text_r4 : List COper := [
  ⟨(some 13), .iaddr 1, [.t 9, .t 11], none⟩,
  ⟨(some 14), .load false 1, [.t 13], none⟩,
  ⟨(some 7), .mov, [.t 14], none⟩]
def c_code_Reader_Text_r4 : List COper := a_code_Reader_Text_r4
instance : Reg c_code_Reader_Text_r4 a_code_Reader_Text_r4 3 := ⟨rfl, rfl⟩
@[simp] def a_code_Reader_Text_r5 : List COper := [
  ⟨(some 15), .mov, [.t 5], none⟩,
  ⟨(some 16), .bin .shl, [.t 15, .c (.int .u64 8)], none⟩,
  ⟨(some 17), .mov, [.t 7], none⟩,
  ⟨(some 18), .convI .i64, [.t 17], none⟩,
  ⟨(some 19), .bin .or, [.t 16, .t 18], none⟩,
  ⟨(some 5), .mov, [.t 19], none⟩]
def c_code_Reader_Text_r5 : List COper := a_code_Reader_Text_r5
instance : Reg c_code_Reader_Text_r5 a_code_Reader_Text_r5 6 := ⟨rfl, rfl⟩
@[simp] def a_code_Reader_Text_r6 : List COper := [
  ⟨(some 20), .bin .add, [.t 11, .c (.int .i64 1)], none⟩,
  ⟨(some 11), .mov, [.t 20], none⟩]
def c_code_Reader_Text_r6 : List COper := a_code_Reader_Text_r6
instance : Reg c_code_Reader_Text_r6 a_code_Reader_Text_r6 2 := ⟨rfl, rfl⟩
@[simp] def a_code_Reader_Text_r7 : List COper := [
  ⟨(some 21), .mov, [.t 5], none⟩,
  ⟨(some 22), .mov, [.t 1], none⟩,
  ⟨(some 23), .bin .gtr, [.t 21, .t 22], none⟩]
def c_code_Reader_Text_r7 : List COper := a_code_Reader_Text_r7
instance : Reg c_code_Reader_Text_r7 a_code_Reader_Text_r7 3 := ⟨rfl, rfl⟩
@[simp] def a_code_Reader_Text_r8 : List COper := [
  ⟨(some 5), .mov, [.c (.int .i64 (-1))], none⟩]
def c_code_Reader_Text_r8 : List COper := a_code_Reader_Text_r8
instance : Reg c_code_Reader_Text_r8 a_code_Reader_Text_r8 1 := ⟨rfl, rfl⟩
@[simp] def a_code_Reader_Text_r9 : List COper := [
  ⟨(some 24), .mov, [.t 0], none⟩,
  ⟨(some 25), .mov, [.t 5], none⟩,
  ⟨(some 26), .call fn_code_Reader_take, [.t 24, .t 25], none⟩,
  ⟨(some 27), .convS, [.t 26], none⟩,
  ⟨(some 4), .mov, [.t 27], none⟩]
def c_code_Reader_Text_r9 : List COper := a_code_Reader_Text_r9
instance : Reg c_code_Reader_Text_r9 a_code_Reader_Text_r9 5 := ⟨rfl, rfl⟩
@[simp] def c_code_Reader_Text : CCode :=
  .seq (.region c_code_Reader_Text_r0 none [0, 1]) (.seq (.region c_code_Reader_Text_r1 none [0, 1, 5]) (.seq (.seq (.region c_code_Reader_Text_r2 none [0, 1, 5, 9, 10, 11]) (.block 0 (.loop (.seq (.region c_code_Reader_Text_r3 none [0, 1, 5, 9, 10, 11, 12]) (.seq (.cond (.t 12) (.skip) (.exit 0)) (.seq (.block 1 (.seq (.region c_code_Reader_Text_r4 none [0, 1, 5, 7, 9, 10, 11]) (.region c_code_Reader_Text_r5 none [0, 1, 5, 9, 10, 11]))) (.region c_code_Reader_Text_r6 none [0, 1, 5, 9, 10, 11]))))))) (.seq (.seq (.region c_code_Reader_Text_r7 none [0, 5, 23]) (.cond (.t 23) (.region c_code_Reader_Text_r8 none [0, 5]) (.skip))) (.seq (.region c_code_Reader_Text_r9 none [4]) (.ret)))))
@[simp] def R_code_Reader_Text : List CRes := [.tmp 4]
theorem k_code_Reader_Text : chkFn Try.prog fn_code_Reader_Text c_code_Reader_Text R_code_Reader_Text 2 = true := by kernel_rfl
/-! wapentake/config.Read -/
@[simp] def a_config_Read_r0 : List COper := [
  ⟨(some 2), .alloc (.node [.v (.int .i64 0), .v (.slice none 0 0)]), [], none⟩]
def c_config_Read_r0 : List COper := a_config_Read_r0
instance : Reg c_config_Read_r0 a_config_Read_r0 1 := ⟨rfl, rfl⟩
@[simp] def a_config_Read_r1 : List COper := [
  ⟨(some 6), .mov, [.t 0], none⟩,
  ⟨(some 7), .call fn_code_Reader_In, [.t 6, .c (.int .i64 0), .c (.int .i64 1073741824)], none⟩,
  ⟨(some 8), .build [.v (.int .i64 0), .v (.slice none 0 0)] [0], [.t 7], none⟩,
  ⟨(some 3), .alloc (.node [.v (.int .i64 0), .v (.slice none 0 0)]), [], none⟩,
  ⟨none, .store true 2, [.t 3, .t 8], none⟩]
def c_config_Read_r1 : List COper := a_config_Read_r1
instance : Reg c_config_Read_r1 a_config_Read_r1 5 := ⟨rfl, rfl⟩
@[simp] def a_config_Read_r2 : List COper := [
  ⟨(some 4), .mov, [.c (.int .i64 0)], none⟩]
def c_config_Read_r2 : List COper := a_config_Read_r2
instance : Reg c_config_Read_r2 a_config_Read_r2 1 := ⟨rfl, rfl⟩
@[simp] def a_config_Read_r3 : List COper := [
  ⟨(some 9), .mov, [.t 0], none⟩,
  ⟨(some 10), .call fn_code_Reader_In, [.t 9, .c (.int .i64 1), .c (.int .i64 10)], none⟩,
  ⟨(some 11), .mov, [.c (.int .i64 0)], none⟩]
def c_config_Read_r3 : List COper := a_config_Read_r3
instance : Reg c_config_Read_r3 a_config_Read_r3 3 := ⟨rfl, rfl⟩
@[simp] def a_config_Read_r4 : List COper := [
  ⟨(some 12), .bin .lss, [.t 11, .t 10], none⟩]
def c_config_Read_r4 : List COper := a_config_Read_r4
instance : Reg c_config_Read_r4 a_config_Read_r4 1 := ⟨rfl, rfl⟩
@[simp] def a_config_Read_r5 : List COper := [
  ⟨(some 13), .mov, [.t 0], none⟩,
  ⟨(some 14), .mov, [.t 4], none⟩,
  ⟨(some 15), .bin .add, [.t 14, .c (.int .i64 1)], none⟩,
  ⟨(some 16), .call fn_code_Reader_In, [.t 13, .t 15, .c (.int .i64 63)], none⟩,
  ⟨(some 4), .mov, [.t 16], none⟩]
def c_config_Read_r5 : List COper := a_config_Read_r5
instance : Reg c_config_Read_r5 a_config_Read_r5 5 := ⟨rfl, rfl⟩
@[simp] def a_config_Read_r6 : List COper := [
  ⟨(some 17), .mov, [.t 0], none⟩,
  ⟨(some 18), .call fn_code_Reader_In, [.t 17, .c (.int .i64 0), .c (.int .i64 6)], none⟩,
  ⟨(some 5), .mov, [.t 18], none⟩]
def c_config_Read_r6 : List COper := a_config_Read_r6
instance : Reg c_config_Read_r6 a_config_Read_r6 3 := ⟨rfl, rfl⟩
@[simp] def a_config_Read_r7 : List COper := [
  ⟨(some 19), .faddr 1 1 false, [.t 3], none⟩,
  ⟨(some 20), .load false 1, [.t 19], none⟩,
  ⟨(some 21), .mov, [.t 4], none⟩,
  ⟨(some 22), .mov, [.t 0], none⟩,
  ⟨(some 23), .call fn_code_Reader_Digest, [.t 22], none⟩,
  ⟨(some 24), .mov, [.t 5], none⟩,
  ⟨(some 25), .build [.arr 1 (rep 32 (.v (.int .u8 0))), .v (.int .i64 0)] [0, 1], [.t 23, .t 24], none⟩,
  ⟨(some 26), .build [.v (.int .i64 0), .node [.arr 1 (rep 32 (.v (.int .u8 0))), .v (.int .i64 0)]] [0, 1], [.t 21, .t 25], none⟩,
  ⟨(some 27), .bslice 34 1 (.node [.v (.int .i64 0), .node [.arr 1 (rep 32 (.v (.int .u8 0))), .v (.int .i64 0)]]) [0], [.t 26], none⟩,
  ⟨(some 28), .app 34 48, [.t 20, .t 27], none⟩,
  ⟨(some 29), .faddr 1 1 false, [.t 3], none⟩,
  ⟨none, .store false 1, [.t 29, .t 28], none⟩]
def c_config_Read_r7 : List COper := a_config_Read_r7
instance : Reg c_config_Read_r7 a_config_Read_r7 12 := ⟨rfl, rfl⟩
@[simp] def a_config_Read_r8 : List COper := [
  ⟨(some 30), .bin .add, [.t 11, .c (.int .i64 1)], none⟩,
  ⟨(some 11), .mov, [.t 30], none⟩]
def c_config_Read_r8 : List COper := a_config_Read_r8
instance : Reg c_config_Read_r8 a_config_Read_r8 2 := ⟨rfl, rfl⟩
@[simp] def a_config_Read_r9 : List COper := [
  ⟨(some 31), .mov, [.t 0], none⟩,
  ⟨(some 32), .call fn_code_Reader_Good, [.t 31], none⟩,
  ⟨(some 33), .not, [.t 32], none⟩]
def c_config_Read_r9 : List COper := a_config_Read_r9
instance : Reg c_config_Read_r9 a_config_Read_r9 3 := ⟨rfl, rfl⟩
@[simp] def a_config_Read_r10 : List COper := [
  ⟨(some 34), .build [.v (.int .i64 0), .v (.slice none 0 0)] [], [], none⟩,
  ⟨none, .store true 2, [.t 2, .t 34], none⟩]
def c_config_Read_r10 : List COper := a_config_Read_r10
instance : Reg c_config_Read_r10 a_config_Read_r10 2 := ⟨rfl, rfl⟩
@[simp] def a_config_Read_r11 : List COper := [
  ⟨(some 35), .load true 2, [.t 3], none⟩,
  ⟨none, .store true 2, [.t 2, .t 35], none⟩]
def c_config_Read_r11 : List COper := a_config_Read_r11
instance : Reg c_config_Read_r11 a_config_Read_r11 2 := ⟨rfl, rfl⟩
@[simp] def c_config_Read : CCode :=
  .seq (.region c_config_Read_r0 none [0, 2]) (.seq (.region c_config_Read_r1 none [0, 2, 3]) (.seq (.region c_config_Read_r2 none [0, 2, 3, 4]) (.seq (.seq (.region c_config_Read_r3 none [0, 2, 3, 4, 10, 11]) (.block 0 (.loop (.seq (.region c_config_Read_r4 none [0, 2, 3, 4, 10, 11, 12]) (.seq (.cond (.t 12) (.skip) (.exit 0)) (.seq (.block 1 (.seq (.region c_config_Read_r5 none [0, 2, 3, 4, 10, 11]) (.seq (.region c_config_Read_r6 none [0, 2, 3, 4, 5, 10, 11]) (.region c_config_Read_r7 (some ([0, 1, 0, 0, 8, 0, 56, 124, 252, 511, 1023, 2047], [(1, 4), (1, 8)])) [0, 2, 3, 4, 10, 11])))) (.region c_config_Read_r8 none [0, 2, 3, 4, 10, 11]))))))) (.seq (.seq (.region c_config_Read_r9 none [2, 3, 33]) (.cond (.t 33) (.seq (.region c_config_Read_r10 none [2]) (.ret)) (.skip))) (.seq (.region c_config_Read_r11 none [2]) (.ret))))))
@[simp] def R_config_Read : List CRes := [.cell 2 true 2]
theorem k_config_Read : chkFn Try.prog fn_config_Read c_config_Read R_config_Read 1 = true := by kernel_rfl
/-! (*wapentake/wapentakeref01.Reader).Num -/
@[simp] def a_r01_Reader_Num_r0 : List COper := [
  ⟨(some 2), .mov, [.c (.int .i64 0)], none⟩]
def c_r01_Reader_Num_r0 : List COper := a_r01_Reader_Num_r0
instance : Reg c_r01_Reader_Num_r0 a_r01_Reader_Num_r0 1 := ⟨rfl, rfl⟩
@[simp] def a_r01_Reader_Num_r1 : List COper := [
  ⟨(some 6), .mov, [.t 0], none⟩,
  ⟨(some 7), .call fn_r01_Reader_Take, [.t 6, .c (.int .i64 8)], none⟩,
  ⟨(some 3), .mov, [.t 7], none⟩]
def c_r01_Reader_Num_r1 : List COper := a_r01_Reader_Num_r1
instance : Reg c_r01_Reader_Num_r1 a_r01_Reader_Num_r1 3 := ⟨rfl, rfl⟩
@[simp] def a_r01_Reader_Num_r2 : List COper := [
  ⟨(some 4), .mov, [.c (.int .i64 0)], none⟩]
def c_r01_Reader_Num_r2 : List COper := a_r01_Reader_Num_r2
instance : Reg c_r01_Reader_Num_r2 a_r01_Reader_Num_r2 1 := ⟨rfl, rfl⟩
@[simp] def a_r01_Reader_Num_r3 : List COper := [
  ⟨(some 5), .mov, [.c (.int .i64 0)], none⟩]
def c_r01_Reader_Num_r3 : List COper := a_r01_Reader_Num_r3
instance : Reg c_r01_Reader_Num_r3 a_r01_Reader_Num_r3 1 := ⟨rfl, rfl⟩
@[simp] def a_r01_Reader_Num_r4 : List COper := [
  ⟨(some 8), .mov, [.t 5], none⟩,
  ⟨(some 9), .mov, [.t 3], none⟩,
  ⟨(some 10), .lenS, [.t 9], none⟩,
  ⟨(some 11), .bin .lss, [.t 8, .t 10], none⟩]
def c_r01_Reader_Num_r4 : List COper := a_r01_Reader_Num_r4
instance : Reg c_r01_Reader_Num_r4 a_r01_Reader_Num_r4 4 := ⟨rfl, rfl⟩
@[simp] def a_r01_Reader_Num_r6 : List COper := [
  ⟨(some 14), .mov, [.t 4], none⟩,
  ⟨(some 15), .bin .shl, [.t 14, .c (.int .u64 8)], none⟩,
  ⟨(some 16), .mov, [.t 3], none⟩,
  ⟨(some 17), .mov, [.t 5], none⟩,
  ⟨(some 18), .idxS, [.t 16, .t 17], none⟩,
  ⟨(some 19), .convI .i64, [.t 18], none⟩,
  ⟨(some 20), .bin .or, [.t 15, .t 19], none⟩,
  ⟨(some 4), .mov, [.t 20], none⟩]
def c_r01_Reader_Num_r6 : List COper := a_r01_Reader_Num_r6
instance : Reg c_r01_Reader_Num_r6 a_r01_Reader_Num_r6 8 := ⟨rfl, rfl⟩
@[simp] def a_r01_Reader_Num_r5 : List COper := [
  ⟨(some 12), .mov, [.t 5], none⟩,
  ⟨(some 13), .bin .add, [.t 12, .c (.int .i64 1)], none⟩,
  ⟨(some 5), .mov, [.t 13], none⟩]
def c_r01_Reader_Num_r5 : List COper := a_r01_Reader_Num_r5
instance : Reg c_r01_Reader_Num_r5 a_r01_Reader_Num_r5 3 := ⟨rfl, rfl⟩
@[simp] def a_r01_Reader_Num_r7 : List COper := [
  ⟨(some 21), .mov, [.t 4], none⟩,
  ⟨(some 2), .mov, [.t 21], none⟩]
def c_r01_Reader_Num_r7 : List COper := a_r01_Reader_Num_r7
instance : Reg c_r01_Reader_Num_r7 a_r01_Reader_Num_r7 2 := ⟨rfl, rfl⟩
@[simp] def c_r01_Reader_Num : CCode :=
  .seq (.region c_r01_Reader_Num_r0 none [0]) (.seq (.region c_r01_Reader_Num_r1 none [3]) (.seq (.region c_r01_Reader_Num_r2 none [3, 4]) (.seq (.seq (.region c_r01_Reader_Num_r3 none [3, 4, 5]) (.block 0 (.loop (.seq (.seq (.region c_r01_Reader_Num_r4 none [3, 4, 5, 11]) (.cond (.t 11) (.skip) (.exit 0))) (.seq (.block 1 (.region c_r01_Reader_Num_r6 none [3, 4, 5])) (.region c_r01_Reader_Num_r5 none [3, 4, 5])))))) (.seq (.region c_r01_Reader_Num_r7 none [2]) (.ret)))))
@[simp] def R_r01_Reader_Num : List CRes := [.tmp 2]
theorem k_r01_Reader_Num : chkFn Try.prog fn_r01_Reader_Num c_r01_Reader_Num R_r01_Reader_Num 1 = true := by kernel_rfl
/-! (*wapentake/wapentakeref01.Reader).Take -/
@[simp] def a_r01_Reader_Take_r0 : List COper := [
  ⟨(some 4), .mov, [.c (.string (mkS []))], none⟩]
def c_r01_Reader_Take_r0 : List COper := a_r01_Reader_Take_r0
instance : Reg c_r01_Reader_Take_r0 a_r01_Reader_Take_r0 1 := ⟨rfl, rfl⟩
@[simp] def a_r01_Reader_Take_r1 : List COper := [
  ⟨(some 6), .mov, [.t 0], none⟩,
  ⟨(some 7), .nilc, [.t 6], none⟩,
  ⟨(some 8), .faddr 1 1 false, [.t 7], none⟩,
  ⟨(some 9), .load false 1, [.t 8], none⟩,
  ⟨(some 10), .mov, [.t 9], none⟩,
  ⟨(some 11), .mov, [.t 1], (some (10, false))⟩,
  ⟨(some 12), .bin .lss, [.t 11, .c (.int .i64 0)], (some (10, false))⟩,
  ⟨(some 13), .pick, [.t 10, .c (.bool true), .t 12], none⟩,
  ⟨(some 14), .mov, [.t 13], none⟩,
  ⟨(some 15), .mov, [.t 1], (some (14, false))⟩,
  ⟨(some 16), .mov, [.t 0], (some (14, false))⟩,
  ⟨(some 17), .nilc, [.t 16], (some (14, false))⟩,
  ⟨(some 18), .faddr 0 1 false, [.t 17], (some (14, false))⟩,
  ⟨(some 19), .load false 1, [.t 18], (some (14, false))⟩,
  ⟨(some 20), .lenS, [.t 19], (some (14, false))⟩,
  ⟨(some 21), .bin .gtr, [.t 15, .t 20], (some (14, false))⟩,
  ⟨(some 22), .pick, [.t 14, .c (.bool true), .t 21], none⟩]
def c_r01_Reader_Take_r1 : List COper := a_r01_Reader_Take_r1
instance : Reg c_r01_Reader_Take_r1 a_r01_Reader_Take_r1 17 := ⟨rfl, rfl⟩
@[simp] def a_r01_Reader_Take_r2 : List COper := [
  ⟨(some 23), .mov, [.t 0], none⟩,
  ⟨(some 24), .nilc, [.t 23], none⟩,
  ⟨(some 25), .faddr 1 1 false, [.t 24], none⟩,
  ⟨none, .store false 1, [.t 25, .c (.bool true)], none⟩]
def c_r01_Reader_Take_r2 : List COper := a_r01_Reader_Take_r2
instance : Reg c_r01_Reader_Take_r2 a_r01_Reader_Take_r2 4 := ⟨rfl, rfl⟩
@[simp] def a_r01_Reader_Take_r3 : List COper := [
  ⟨(some 26), .mov, [.t 0], none⟩,
  ⟨(some 27), .nilc, [.t 26], none⟩,
  ⟨(some 28), .faddr 0 1 false, [.t 27], none⟩,
  ⟨none, .store false 1, [.t 28, .c (.string (mkS []))], none⟩]
def c_r01_Reader_Take_r3 : List COper := a_r01_Reader_Take_r3
instance : Reg c_r01_Reader_Take_r3 a_r01_Reader_Take_r3 4 := ⟨rfl, rfl⟩
@[simp] def a_r01_Reader_Take_r4 : List COper := [
  ⟨(some 4), .mov, [.c (.string (mkS []))], none⟩]
def c_r01_Reader_Take_r4 : List COper := a_r01_Reader_Take_r4
instance : Reg c_r01_Reader_Take_r4 a_r01_Reader_Take_r4 1 := ⟨rfl, rfl⟩
@[simp] def a_r01_Reader_Take_r5 : List COper := [
  ⟨(some 29), .mov, [.t 0], none⟩,
  ⟨(some 30), .nilc, [.t 29], none⟩,
  ⟨(some 31), .faddr 0 1 false, [.t 30], none⟩,
  ⟨(some 32), .load false 1, [.t 31], none⟩,
  ⟨(some 33), .mov, [.t 1], none⟩,
  ⟨(some 34), .sliceStr false true, [.t 32, .t 33], none⟩,
  ⟨(some 5), .mov, [.t 34], none⟩]
def c_r01_Reader_Take_r5 : List COper := a_r01_Reader_Take_r5
instance : Reg c_r01_Reader_Take_r5 a_r01_Reader_Take_r5 7 := ⟨rfl, rfl⟩
@[simp] def a_r01_Reader_Take_r6 : List COper := [
  ⟨(some 35), .mov, [.t 0], none⟩,
  ⟨(some 36), .mov, [.t 0], none⟩,
  ⟨(some 37), .nilc, [.t 36], none⟩,
  ⟨(some 38), .faddr 0 1 false, [.t 37], none⟩,
  ⟨(some 39), .load false 1, [.t 38], none⟩,
  ⟨(some 40), .mov, [.t 1], none⟩,
  ⟨(some 41), .sliceStr true false, [.t 39, .t 40], none⟩,
  ⟨(some 42), .nilc, [.t 35], none⟩,
  ⟨(some 43), .faddr 0 1 false, [.t 42], none⟩,
  ⟨none, .store false 1, [.t 43, .t 41], none⟩]
def c_r01_Reader_Take_r6 : List COper := a_r01_Reader_Take_r6
instance : Reg c_r01_Reader_Take_r6 a_r01_Reader_Take_r6 10 := ⟨rfl, rfl⟩
@[simp] def a_r01_Reader_Take_r7 : List COper := [
  ⟨(some 44), .mov, [.t 5], none⟩,
  ⟨(some 4), .mov, [.t 44], none⟩]
def c_r01_Reader_Take_r7 : List COper := a_r01_Reader_Take_r7
instance : Reg c_r01_Reader_Take_r7 a_r01_Reader_Take_r7 2 := ⟨rfl, rfl⟩
@[simp] def c_r01_Reader_Take : CCode :=
  .seq (.region c_r01_Reader_Take_r0 none [0, 1]) (.seq (.seq (.region c_r01_Reader_Take_r1 none [0, 1, 22]) (.cond (.t 22) (.seq (.region c_r01_Reader_Take_r2 none [0]) (.seq (.region c_r01_Reader_Take_r3 none []) (.seq (.region c_r01_Reader_Take_r4 none [4]) (.ret)))) (.skip))) (.seq (.region c_r01_Reader_Take_r5 none [0, 1, 5]) (.seq (.region c_r01_Reader_Take_r6 none [5]) (.seq (.region c_r01_Reader_Take_r7 none [4]) (.ret)))))
@[simp] def R_r01_Reader_Take : List CRes := [.tmp 4]
theorem k_r01_Reader_Take : chkFn Try.prog fn_r01_Reader_Take c_r01_Reader_Take R_r01_Reader_Take 2 = true := by kernel_rfl
/-! wapentake/wapentakeref05.Read -/
@[simp] def a_r05_Read_r0 : List COper := [
  ⟨(some 2), .alloc (.node [.v (.int .i64 0), .node [.v (.slice none 0 0), .v (.slice none 0 0)], .v (.slice none 0 0)]), [], none⟩]
def c_r05_Read_r0 : List COper := a_r05_Read_r0
instance : Reg c_r05_Read_r0 a_r05_Read_r0 1 := ⟨rfl, rfl⟩
@[simp] def a_r05_Read_r1 : List COper := [
  ⟨(some 7), .mov, [.t 0], none⟩,
  ⟨(some 8), .call fn_r01_Reader_Num, [.t 7], none⟩,
  ⟨(some 9), .build [.v (.int .i64 0), .node [.v (.slice none 0 0), .v (.slice none 0 0)], .v (.slice none 0 0)] [0], [.t 8], none⟩,
  ⟨(some 3), .alloc (.node [.v (.int .i64 0), .node [.v (.slice none 0 0), .v (.slice none 0 0)], .v (.slice none 0 0)]), [], none⟩,
  ⟨none, .store true 4, [.t 3, .t 9], none⟩]
def c_r05_Read_r1 : List COper := a_r05_Read_r1
instance : Reg c_r05_Read_r1 a_r05_Read_r1 5 := ⟨rfl, rfl⟩
@[simp] def a_r05_Read_r2 : List COper := [
  ⟨(some 10), .mov, [.t 0], none⟩,
  ⟨(some 11), .call fn_r01_Reader_In, [.t 10, .c (.int .i64 0), .c (.int .i64 6)], none⟩,
  ⟨(some 4), .mov, [.t 11], none⟩]
def c_r05_Read_r2 : List COper := a_r05_Read_r2
instance : Reg c_r05_Read_r2 a_r05_Read_r2 3 := ⟨rfl, rfl⟩
@[simp] def a_r05_Read_r3 : List COper := [
  ⟨(some 5), .mov, [.c (.int .i64 0)], none⟩]
def c_r05_Read_r3 : List COper := a_r05_Read_r3
instance : Reg c_r05_Read_r3 a_r05_Read_r3 1 := ⟨rfl, rfl⟩
@[simp] def a_r05_Read_r4 : List COper := [
  ⟨(some 12), .mov, [.t 5], none⟩,
  ⟨(some 13), .mov, [.t 4], none⟩,
  ⟨(some 14), .bin .add, [.c (.int .i64 64), .t 13], none⟩,
  ⟨(some 15), .bin .lss, [.t 12, .t 14], none⟩,
  ⟨(some 16), .mov, [.t 15], none⟩,
  ⟨(some 17), .mov, [.t 0], (some (16, true))⟩,
  ⟨(some 18), .call fn_r01_Reader_Good, [.t 17], (some (16, true))⟩,
  ⟨(some 19), .pick, [.t 16, .t 18, .c (.bool false)], none⟩]
def c_r05_Read_r4 : List COper := a_r05_Read_r4
instance : Reg c_r05_Read_r4 a_r05_Read_r4 8 := ⟨rfl, rfl⟩
@[simp] def a_r05_Read_r6 : List COper := [
  ⟨(some 22), .mov, [.t 0], none⟩,
  ⟨(some 23), .call fn_r01_Reader_Digest, [.t 22], none⟩,
  ⟨(some 6), .alloc (.arr 1 (rep 32 (.v (.int .u8 0)))), [], none⟩,
  ⟨none, .store true 32, [.t 6, .t 23], none⟩]
def c_r05_Read_r6 : List COper := a_r05_Read_r6
instance : Reg c_r05_Read_r6 a_r05_Read_r6 4 := ⟨rfl, rfl⟩
@[simp] def a_r05_Read_r7 : List COper := [
  ⟨(some 24), .mov, [.t 5], none⟩,
  ⟨(some 25), .bin .lss, [.t 24, .c (.int .i64 32)], none⟩]
def c_r05_Read_r7 : List COper := a_r05_Read_r7
instance : Reg c_r05_Read_r7 a_r05_Read_r7 2 := ⟨rfl, rfl⟩
@[simp] def a_r05_Read_r8 : List COper := [
  ⟨(some 26), .faddr 1 2 true, [.t 3], none⟩,
  ⟨(some 27), .faddr 0 1 false, [.t 26], none⟩,
  ⟨(some 28), .load false 1, [.t 27], none⟩,
  ⟨(some 29), .load true 32, [.t 6], none⟩,
  ⟨(some 30), .bslice 32 1 (.arr 1 (rep 32 (.v (.int .u8 0)))) [0], [.t 29], none⟩,
  ⟨(some 31), .app 32 32, [.t 28, .t 30], none⟩,
  ⟨(some 32), .faddr 1 2 true, [.t 3], none⟩,
  ⟨(some 33), .faddr 0 1 false, [.t 32], none⟩,
  ⟨none, .store false 1, [.t 33, .t 31], none⟩]
def c_r05_Read_r8 : List COper := a_r05_Read_r8
instance : Reg c_r05_Read_r8 a_r05_Read_r8 9 := ⟨rfl, rfl⟩
@[simp] def a_r05_Read_r9 : List COper := [
  ⟨(some 34), .mov, [.t 5], none⟩,
  ⟨(some 35), .bin .lss, [.t 34, .c (.int .i64 64)], none⟩]
def c_r05_Read_r9 : List COper := a_r05_Read_r9
instance : Reg c_r05_Read_r9 a_r05_Read_r9 2 := ⟨rfl, rfl⟩
@[simp] def a_r05_Read_r10 : List COper := [
  ⟨(some 36), .faddr 1 2 true, [.t 3], none⟩,
  ⟨(some 37), .faddr 1 1 false, [.t 36], none⟩,
  ⟨(some 38), .load false 1, [.t 37], none⟩,
  ⟨(some 39), .load true 32, [.t 6], none⟩,
  ⟨(some 40), .bslice 32 1 (.arr 1 (rep 32 (.v (.int .u8 0)))) [0], [.t 39], none⟩,
  ⟨(some 41), .app 32 32, [.t 38, .t 40], none⟩,
  ⟨(some 42), .faddr 1 2 true, [.t 3], none⟩,
  ⟨(some 43), .faddr 1 1 false, [.t 42], none⟩,
  ⟨none, .store false 1, [.t 43, .t 41], none⟩]
def c_r05_Read_r10 : List COper := a_r05_Read_r10
instance : Reg c_r05_Read_r10 a_r05_Read_r10 9 := ⟨rfl, rfl⟩
@[simp] def a_r05_Read_r11 : List COper := [
  ⟨(some 44), .faddr 3 1 false, [.t 3], none⟩,
  ⟨(some 45), .load false 1, [.t 44], none⟩,
  ⟨(some 46), .load true 32, [.t 6], none⟩,
  ⟨(some 47), .bslice 32 1 (.arr 1 (rep 32 (.v (.int .u8 0)))) [0], [.t 46], none⟩,
  ⟨(some 48), .app 32 32, [.t 45, .t 47], none⟩,
  ⟨(some 49), .faddr 3 1 false, [.t 3], none⟩,
  ⟨none, .store false 1, [.t 49, .t 48], none⟩]
def c_r05_Read_r11 : List COper := a_r05_Read_r11
instance : Reg c_r05_Read_r11 a_r05_Read_r11 7 := ⟨rfl, rfl⟩
@[simp] def a_r05_Read_r5 : List COper := [
  ⟨(some 20), .mov, [.t 5], none⟩,
  ⟨(some 21), .bin .add, [.t 20, .c (.int .i64 1)], none⟩,
  ⟨(some 5), .mov, [.t 21], none⟩]
def c_r05_Read_r5 : List COper := a_r05_Read_r5
instance : Reg c_r05_Read_r5 a_r05_Read_r5 3 := ⟨rfl, rfl⟩
@[simp] def a_r05_Read_r12 : List COper := [
  ⟨(some 50), .mov, [.t 0], none⟩,
  ⟨(some 51), .call fn_r01_Reader_Good, [.t 50], none⟩,
  ⟨(some 52), .not, [.t 51], none⟩]
def c_r05_Read_r12 : List COper := a_r05_Read_r12
instance : Reg c_r05_Read_r12 a_r05_Read_r12 3 := ⟨rfl, rfl⟩
@[simp] def a_r05_Read_r13 : List COper := [
  ⟨(some 53), .build [.v (.int .i64 0), .node [.v (.slice none 0 0), .v (.slice none 0 0)], .v (.slice none 0 0)] [], [], none⟩,
  ⟨none, .store true 4, [.t 2, .t 53], none⟩]
def c_r05_Read_r13 : List COper := a_r05_Read_r13
instance : Reg c_r05_Read_r13 a_r05_Read_r13 2 := ⟨rfl, rfl⟩
@[simp] def a_r05_Read_r14 : List COper := [
  ⟨(some 54), .load true 4, [.t 3], none⟩,
  ⟨none, .store true 4, [.t 2, .t 54], none⟩]
def c_r05_Read_r14 : List COper := a_r05_Read_r14
instance : Reg c_r05_Read_r14 a_r05_Read_r14 2 := ⟨rfl, rfl⟩
@[simp] def c_r05_Read : CCode :=
  .seq (.region c_r05_Read_r0 none [0, 2]) (.seq (.region c_r05_Read_r1 none [0, 2, 3]) (.seq (.region c_r05_Read_r2 none [0, 2, 3, 4]) (.seq (.seq (.region c_r05_Read_r3 none [0, 2, 3, 4, 5]) (.block 0 (.loop (.seq (.seq (.region c_r05_Read_r4 none [0, 2, 3, 4, 5, 19]) (.cond (.t 19) (.skip) (.exit 0))) (.seq (.block 1 (.seq (.region c_r05_Read_r6 none [0, 2, 3, 4, 5, 6]) (.seq (.region c_r05_Read_r7 none [0, 2, 3, 4, 5, 6, 25]) (.cond (.t 25) (.region c_r05_Read_r8 none [0, 2, 3, 4, 5]) (.seq (.region c_r05_Read_r9 none [0, 2, 3, 4, 5, 6, 35]) (.cond (.t 35) (.region c_r05_Read_r10 none [0, 2, 3, 4, 5]) (.region c_r05_Read_r11 none [0, 2, 3, 4, 5]))))))) (.region c_r05_Read_r5 none [0, 2, 3, 4, 5])))))) (.seq (.seq (.region c_r05_Read_r12 none [2, 3, 52]) (.cond (.t 52) (.seq (.region c_r05_Read_r13 none [2]) (.ret)) (.skip))) (.seq (.region c_r05_Read_r14 none [2]) (.ret))))))
@[simp] def R_r05_Read : List CRes := [.cell 2 true 4]
theorem k_r05_Read : chkFn Try.prog fn_r05_Read c_r05_Read R_r05_Read 1 = true := by kernel_rfl
/-! (*wapentake/wapentakeref01.Reader).Digest -/
@[simp] def a_r01_Reader_Digest_r0 : List COper := [
  ⟨(some 2), .alloc (.arr 1 (rep 32 (.v (.int .u8 0)))), [], none⟩]
def c_r01_Reader_Digest_r0 : List COper := a_r01_Reader_Digest_r0
instance : Reg c_r01_Reader_Digest_r0 a_r01_Reader_Digest_r0 1 := ⟨rfl, rfl⟩
@[simp] def a_r01_Reader_Digest_r1 : List COper := [
  ⟨(some 3), .alloc (.arr 1 (rep 32 (.v (.int .u8 0)))), [], none⟩]
def c_r01_Reader_Digest_r1 : List COper := a_r01_Reader_Digest_r1
instance : Reg c_r01_Reader_Digest_r1 a_r01_Reader_Digest_r1 1 := ⟨rfl, rfl⟩
@[simp] def a_r01_Reader_Digest_r2 : List COper := [
  ⟨(some 6), .mov, [.t 0], none⟩,
  ⟨(some 7), .call fn_r01_Reader_Take, [.t 6, .c (.int .i64 32)], none⟩,
  ⟨(some 4), .mov, [.t 7], none⟩]
def c_r01_Reader_Digest_r2 : List COper := a_r01_Reader_Digest_r2
instance : Reg c_r01_Reader_Digest_r2 a_r01_Reader_Digest_r2 3 := ⟨rfl, rfl⟩
@[simp] def a_r01_Reader_Digest_r3 : List COper := [
  ⟨(some 5), .mov, [.c (.int .i64 0)], none⟩]
def c_r01_Reader_Digest_r3 : List COper := a_r01_Reader_Digest_r3
instance : Reg c_r01_Reader_Digest_r3 a_r01_Reader_Digest_r3 1 := ⟨rfl, rfl⟩
@[simp] def a_r01_Reader_Digest_r4 : List COper := [
  ⟨(some 8), .mov, [.t 5], none⟩,
  ⟨(some 9), .mov, [.t 4], none⟩,
  ⟨(some 10), .lenS, [.t 9], none⟩,
  ⟨(some 11), .bin .lss, [.t 8, .t 10], none⟩]
def c_r01_Reader_Digest_r4 : List COper := a_r01_Reader_Digest_r4
instance : Reg c_r01_Reader_Digest_r4 a_r01_Reader_Digest_r4 4 := ⟨rfl, rfl⟩
@[simp] def a_r01_Reader_Digest_r6 : List COper := [
  ⟨(some 14), .mov, [.t 5], none⟩,
  ⟨(some 15), .mov, [.t 4], none⟩,
  ⟨(some 16), .mov, [.t 5], none⟩,
  ⟨(some 17), .idxS, [.t 15, .t 16], none⟩,
  ⟨(some 18), .iaddrArr 32 1 false, [.t 3, .t 14], none⟩,
  ⟨none, .store false 1, [.t 18, .t 17], none⟩]
def c_r01_Reader_Digest_r6 : List COper := a_r01_Reader_Digest_r6
instance : Reg c_r01_Reader_Digest_r6 a_r01_Reader_Digest_r6 6 := ⟨rfl, rfl⟩
@[simp] def a_r01_Reader_Digest_r5 : List COper := [
  ⟨(some 12), .mov, [.t 5], none⟩,
  ⟨(some 13), .bin .add, [.t 12, .c (.int .i64 1)], none⟩,
  ⟨(some 5), .mov, [.t 13], none⟩]
def c_r01_Reader_Digest_r5 : List COper := a_r01_Reader_Digest_r5
instance : Reg c_r01_Reader_Digest_r5 a_r01_Reader_Digest_r5 3 := ⟨rfl, rfl⟩
@[simp] def a_r01_Reader_Digest_r7 : List COper := [
  ⟨(some 19), .load true 32, [.t 3], none⟩,
  ⟨none, .store true 32, [.t 2, .t 19], none⟩]
def c_r01_Reader_Digest_r7 : List COper := a_r01_Reader_Digest_r7
instance : Reg c_r01_Reader_Digest_r7 a_r01_Reader_Digest_r7 2 := ⟨rfl, rfl⟩
@[simp] def c_r01_Reader_Digest : CCode :=
  .seq (.region c_r01_Reader_Digest_r0 none [0, 2]) (.seq (.region c_r01_Reader_Digest_r1 none [0, 2, 3]) (.seq (.region c_r01_Reader_Digest_r2 none [2, 3, 4]) (.seq (.seq (.region c_r01_Reader_Digest_r3 none [2, 3, 4, 5]) (.block 0 (.loop (.seq (.seq (.region c_r01_Reader_Digest_r4 none [2, 3, 4, 5, 11]) (.cond (.t 11) (.skip) (.exit 0))) (.seq (.block 1 (.region c_r01_Reader_Digest_r6 none [2, 3, 4, 5])) (.region c_r01_Reader_Digest_r5 none [2, 3, 4, 5])))))) (.seq (.region c_r01_Reader_Digest_r7 none [2]) (.ret)))))
@[simp] def R_r01_Reader_Digest : List CRes := [.cell 2 true 32]
theorem k_r01_Reader_Digest : chkFn Try.prog fn_r01_Reader_Digest c_r01_Reader_Digest R_r01_Reader_Digest 1 = true := by kernel_rfl
/-! (*wapentake/wapentakeref01.Reader).Text -/
@[simp] def a_r01_Reader_Text_r0 : List COper := [
  ⟨(some 4), .mov, [.c (.string (mkS []))], none⟩]
def c_r01_Reader_Text_r0 : List COper := a_r01_Reader_Text_r0
instance : Reg c_r01_Reader_Text_r0 a_r01_Reader_Text_r0 1 := ⟨rfl, rfl⟩
@[simp] def a_r01_Reader_Text_r1 : List COper := [
  ⟨(some 8), .mov, [.t 0], none⟩,
  ⟨(some 9), .call fn_r01_Reader_Take, [.t 8, .c (.int .i64 4)], none⟩,
  ⟨(some 5), .mov, [.t 9], none⟩]
def c_r01_Reader_Text_r1 : List COper := a_r01_Reader_Text_r1
instance : Reg c_r01_Reader_Text_r1 a_r01_Reader_Text_r1 3 := ⟨rfl, rfl⟩
@[simp] def a_r01_Reader_Text_r2 : List COper := [
  ⟨(some 6), .mov, [.c (.int .i64 0)], none⟩]
def c_r01_Reader_Text_r2 : List COper := a_r01_Reader_Text_r2
instance : Reg c_r01_Reader_Text_r2 a_r01_Reader_Text_r2 1 := ⟨rfl, rfl⟩
@[simp] def a_r01_Reader_Text_r3 : List COper := [
  ⟨(some 7), .mov, [.c (.int .i64 0)], none⟩]
def c_r01_Reader_Text_r3 : List COper := a_r01_Reader_Text_r3
instance : Reg c_r01_Reader_Text_r3 a_r01_Reader_Text_r3 1 := ⟨rfl, rfl⟩
@[simp] def a_r01_Reader_Text_r4 : List COper := [
  ⟨(some 10), .mov, [.t 7], none⟩,
  ⟨(some 11), .mov, [.t 5], none⟩,
  ⟨(some 12), .lenS, [.t 11], none⟩,
  ⟨(some 13), .bin .lss, [.t 10, .t 12], none⟩]
def c_r01_Reader_Text_r4 : List COper := a_r01_Reader_Text_r4
instance : Reg c_r01_Reader_Text_r4 a_r01_Reader_Text_r4 4 := ⟨rfl, rfl⟩
@[simp] def a_r01_Reader_Text_r6 : List COper := [
  ⟨(some 16), .mov, [.t 6], none⟩,
  ⟨(some 17), .bin .mul, [.t 16, .c (.int .i64 256)], none⟩,
  ⟨(some 18), .mov, [.t 5], none⟩,
  ⟨(some 19), .mov, [.t 7], none⟩,
  ⟨(some 20), .idxS, [.t 18, .t 19], none⟩,
  ⟨(some 21), .convI .i64, [.t 20], none⟩,
  ⟨(some 22), .bin .add, [.t 17, .t 21], none⟩,
  ⟨(some 6), .mov, [.t 22], none⟩]
def c_r01_Reader_Text_r6 : List COper := a_r01_Reader_Text_r6
instance : Reg c_r01_Reader_Text_r6 a_r01_Reader_Text_r6 8 := ⟨rfl, rfl⟩
@[simp] def a_r01_Reader_Text_r5 : List COper := [
  ⟨(some 14), .mov, [.t 7], none⟩,
  ⟨(some 15), .bin .add, [.t 14, .c (.int .i64 1)], none⟩,
  ⟨(some 7), .mov, [.t 15], none⟩]
def c_r01_Reader_Text_r5 : List COper := a_r01_Reader_Text_r5
instance : Reg c_r01_Reader_Text_r5 a_r01_Reader_Text_r5 3 := ⟨rfl, rfl⟩
@[simp] def a_r01_Reader_Text_r7 : List COper := [
  ⟨(some 23), .mov, [.t 6], none⟩,
  ⟨(some 24), .mov, [.t 1], none⟩,
  ⟨(some 25), .bin .gtr, [.t 23, .t 24], none⟩]
def c_r01_Reader_Text_r7 : List COper := a_r01_Reader_Text_r7
instance : Reg c_r01_Reader_Text_r7 a_r01_Reader_Text_r7 3 := ⟨rfl, rfl⟩
@[simp] def a_r01_Reader_Text_r8 : List COper := [
  ⟨(some 26), .mov, [.t 0], none⟩,
  ⟨(some 27), .call fn_r01_Reader_Take, [.t 26, .c (.int .i64 (-1))], none⟩,
  ⟨(some 4), .mov, [.t 27], none⟩]
def c_r01_Reader_Text_r8 : List COper := a_r01_Reader_Text_r8
instance : Reg c_r01_Reader_Text_r8 a_r01_Reader_Text_r8 3 := ⟨rfl, rfl⟩
@[simp] def a_r01_Reader_Text_r9 : List COper := [
  ⟨(some 28), .mov, [.t 0], none⟩,
  ⟨(some 29), .mov, [.t 6], none⟩,
  ⟨(some 30), .call fn_r01_Reader_Take, [.t 28, .t 29], none⟩,
  ⟨(some 4), .mov, [.t 30], none⟩]
def c_r01_Reader_Text_r9 : List COper := a_r01_Reader_Text_r9
instance : Reg c_r01_Reader_Text_r9 a_r01_Reader_Text_r9 4 := ⟨rfl, rfl⟩
@[simp] def c_r01_Reader_Text : CCode :=
  .seq (.region c_r01_Reader_Text_r0 none [0, 1]) (.seq (.region c_r01_Reader_Text_r1 none [0, 1, 5]) (.seq (.region c_r01_Reader_Text_r2 none [0, 1, 5, 6]) (.seq (.seq (.region c_r01_Reader_Text_r3 none [0, 1, 5, 6, 7]) (.block 0 (.loop (.seq (.seq (.region c_r01_Reader_Text_r4 none [0, 1, 5, 6, 7, 13]) (.cond (.t 13) (.skip) (.exit 0))) (.seq (.block 1 (.region c_r01_Reader_Text_r6 none [0, 1, 5, 6, 7])) (.region c_r01_Reader_Text_r5 none [0, 1, 5, 6, 7])))))) (.seq (.seq (.region c_r01_Reader_Text_r7 none [0, 6, 25]) (.cond (.t 25) (.seq (.region c_r01_Reader_Text_r8 none [4]) (.ret)) (.skip))) (.seq (.region c_r01_Reader_Text_r9 none [4]) (.ret))))))
@[simp] def R_r01_Reader_Text : List CRes := [.tmp 4]
theorem k_r01_Reader_Text : chkFn Try.prog fn_r01_Reader_Text c_r01_Reader_Text R_r01_Reader_Text 2 = true := by kernel_rfl
/-! wapentake/wapentakeref08.Read -/
@[simp] def a_r08_Read_r0 : List COper := [
  ⟨(some 2), .alloc (.node [.v (.int .i64 0), .v (.slice none 0 0)]), [], none⟩]
def c_r08_Read_r0 : List COper := a_r08_Read_r0
instance : Reg c_r08_Read_r0 a_r08_Read_r0 1 := ⟨rfl, rfl⟩
@[simp] def a_r08_Read_r1 : List COper := [
  ⟨(some 8), .mov, [.t 0], none⟩,
  ⟨(some 9), .call fn_r01_Reader_In, [.t 8, .c (.int .i64 0), .c (.int .i64 1073741824)], none⟩,
  ⟨(some 10), .build [.v (.int .i64 0), .v (.slice none 0 0)] [0], [.t 9], none⟩,
  ⟨(some 3), .alloc (.node [.v (.int .i64 0), .v (.slice none 0 0)]), [], none⟩,
  ⟨none, .store true 2, [.t 3, .t 10], none⟩]
def c_r08_Read_r1 : List COper := a_r08_Read_r1
instance : Reg c_r08_Read_r1 a_r08_Read_r1 5 := ⟨rfl, rfl⟩
@[simp] def a_r08_Read_r2 : List COper := [
  ⟨(some 11), .mov, [.t 0], none⟩,
  ⟨(some 12), .call fn_r01_Reader_In, [.t 11, .c (.int .i64 1), .c (.int .i64 10)], none⟩,
  ⟨(some 4), .mov, [.t 12], none⟩]
def c_r08_Read_r2 : List COper := a_r08_Read_r2
instance : Reg c_r08_Read_r2 a_r08_Read_r2 3 := ⟨rfl, rfl⟩
@[simp] def a_r08_Read_r3 : List COper := [
  ⟨(some 5), .mov, [.c (.int .i64 0)], none⟩]
def c_r08_Read_r3 : List COper := a_r08_Read_r3
instance : Reg c_r08_Read_r3 a_r08_Read_r3 1 := ⟨rfl, rfl⟩
@[simp] def a_r08_Read_r4 : List COper := [
  ⟨(some 6), .mov, [.c (.int .i64 0)], none⟩]
def c_r08_Read_r4 : List COper := a_r08_Read_r4
instance : Reg c_r08_Read_r4 a_r08_Read_r4 1 := ⟨rfl, rfl⟩
@[simp] def a_r08_Read_r5 : List COper := [
  ⟨(some 13), .mov, [.t 6], none⟩,
  ⟨(some 14), .mov, [.t 4], none⟩,
  ⟨(some 15), .bin .lss, [.t 13, .t 14], none⟩]
def c_r08_Read_r5 : List COper := a_r08_Read_r5
instance : Reg c_r08_Read_r5 a_r08_Read_r5 3 := ⟨rfl, rfl⟩
@[simp] def a_r08_Read_r7 : List COper := [
  ⟨(some 7), .alloc (.node [.v (.int .i64 0), .node [.arr 1 (rep 32 (.v (.int .u8 0))), .v (.int .i64 0)]]), [], none⟩]
def c_r08_Read_r7 : List COper := a_r08_Read_r7
instance : Reg c_r08_Read_r7 a_r08_Read_r7 1 := ⟨rfl, rfl⟩
@[simp] def a_r08_Read_r8 : List COper := [
  ⟨(some 18), .mov, [.t 0], none⟩,
  ⟨(some 19), .mov, [.t 5], none⟩,
  ⟨(some 20), .bin .add, [.t 19, .c (.int .i64 1)], none⟩,
  ⟨(some 21), .call fn_r01_Reader_In, [.t 18, .t 20, .c (.int .i64 63)], none⟩,
  ⟨(some 22), .faddr 0 1 false, [.t 7], none⟩,
  ⟨none, .store false 1, [.t 22, .t 21], none⟩]
def c_r08_Read_r8 : List COper := a_r08_Read_r8
instance : Reg c_r08_Read_r8 a_r08_Read_r8 6 := ⟨rfl, rfl⟩
@[simp] def a_r08_Read_r9 : List COper := [
  ⟨(some 23), .faddr 0 1 false, [.t 7], none⟩,
  ⟨(some 24), .load false 1, [.t 23], none⟩,
  ⟨(some 5), .mov, [.t 24], none⟩]
def c_r08_Read_r9 : List COper := a_r08_Read_r9
instance : Reg c_r08_Read_r9 a_r08_Read_r9 3 := ⟨rfl, rfl⟩
@[simp] def a_r08_Read_r10 : List COper := [
  ⟨(some 25), .mov, [.t 0], none⟩,
  ⟨(some 26), .call fn_r01_Reader_In, [.t 25, .c (.int .i64 0), .c (.int .i64 6)], none⟩,
  ⟨(some 27), .faddr 1 33 true, [.t 7], none⟩,
  ⟨(some 28), .faddr 32 1 false, [.t 27], none⟩,
  ⟨none, .store false 1, [.t 28, .t 26], none⟩]
def c_r08_Read_r10 : List COper := a_r08_Read_r10
instance : Reg c_r08_Read_r10 a_r08_Read_r10 5 := ⟨rfl, rfl⟩
@[simp] def a_r08_Read_r11 : List COper := [
  ⟨(some 29), .mov, [.t 0], none⟩,
  ⟨(some 30), .call fn_r01_Reader_Digest, [.t 29], none⟩,
  ⟨(some 31), .faddr 1 33 true, [.t 7], none⟩,
  ⟨(some 32), .faddr 0 32 true, [.t 31], none⟩,
  ⟨none, .store true 32, [.t 32, .t 30], none⟩]
def c_r08_Read_r11 : List COper := a_r08_Read_r11
instance : Reg c_r08_Read_r11 a_r08_Read_r11 5 := ⟨rfl, rfl⟩
@[simp] def a_r08_Read_r12 : List COper := [
  ⟨(some 33), .faddr 1 1 false, [.t 3], none⟩,
  ⟨(some 34), .load false 1, [.t 33], none⟩,
  ⟨(some 35), .load true 34, [.t 7], none⟩,
  ⟨(some 36), .bslice 34 1 (.node [.v (.int .i64 0), .node [.arr 1 (rep 32 (.v (.int .u8 0))), .v (.int .i64 0)]]) [0], [.t 35], none⟩,
  ⟨(some 37), .app 34 48, [.t 34, .t 36], none⟩,
  ⟨(some 38), .faddr 1 1 false, [.t 3], none⟩,
  ⟨none, .store false 1, [.t 38, .t 37], none⟩]
def c_r08_Read_r12 : List COper := a_r08_Read_r12
instance : Reg c_r08_Read_r12 a_r08_Read_r12 7 := ⟨rfl, rfl⟩
@[simp] def a_r08_Read_r6 : List COper := [
  ⟨(some 16), .mov, [.t 6], none⟩,
  ⟨(some 17), .bin .add, [.t 16, .c (.int .i64 1)], none⟩,
  ⟨(some 6), .mov, [.t 17], none⟩]
def c_r08_Read_r6 : List COper := a_r08_Read_r6
instance : Reg c_r08_Read_r6 a_r08_Read_r6 3 := ⟨rfl, rfl⟩
@[simp] def a_r08_Read_r13 : List COper := [
  ⟨(some 39), .mov, [.t 0], none⟩,
  ⟨(some 40), .call fn_r01_Reader_Good, [.t 39], none⟩,
  ⟨(some 41), .not, [.t 40], none⟩]
def c_r08_Read_r13 : List COper := a_r08_Read_r13
instance : Reg c_r08_Read_r13 a_r08_Read_r13 3 := ⟨rfl, rfl⟩
@[simp] def a_r08_Read_r14 : List COper := [
  ⟨(some 42), .build [.v (.int .i64 0), .v (.slice none 0 0)] [], [], none⟩,
  ⟨none, .store true 2, [.t 2, .t 42], none⟩]
def c_r08_Read_r14 : List COper := a_r08_Read_r14
instance : Reg c_r08_Read_r14 a_r08_Read_r14 2 := ⟨rfl, rfl⟩
@[simp] def a_r08_Read_r15 : List COper := [
  ⟨(some 43), .load true 2, [.t 3], none⟩,
  ⟨none, .store true 2, [.t 2, .t 43], none⟩]
def c_r08_Read_r15 : List COper := a_r08_Read_r15
instance : Reg c_r08_Read_r15 a_r08_Read_r15 2 := ⟨rfl, rfl⟩
@[simp] def c_r08_Read : CCode :=
  .seq (.region c_r08_Read_r0 none [0, 2]) (.seq (.region c_r08_Read_r1 none [0, 2, 3]) (.seq (.region c_r08_Read_r2 none [0, 2, 3, 4]) (.seq (.region c_r08_Read_r3 none [0, 2, 3, 4, 5]) (.seq (.seq (.region c_r08_Read_r4 none [0, 2, 3, 4, 5, 6]) (.block 0 (.loop (.seq (.seq (.region c_r08_Read_r5 none [0, 2, 3, 4, 5, 6, 15]) (.cond (.t 15) (.skip) (.exit 0))) (.seq (.block 1 (.seq (.region c_r08_Read_r7 none [0, 2, 3, 4, 5, 6, 7]) (.seq (.region c_r08_Read_r8 none [0, 2, 3, 4, 6, 7]) (.seq (.region c_r08_Read_r9 none [0, 2, 3, 4, 5, 6, 7]) (.seq (.region c_r08_Read_r10 none [0, 2, 3, 4, 5, 6, 7]) (.seq (.region c_r08_Read_r11 none [0, 2, 3, 4, 5, 6, 7]) (.region c_r08_Read_r12 none [0, 2, 3, 4, 5, 6]))))))) (.region c_r08_Read_r6 none [0, 2, 3, 4, 5, 6])))))) (.seq (.seq (.region c_r08_Read_r13 none [2, 3, 41]) (.cond (.t 41) (.seq (.region c_r08_Read_r14 none [2]) (.ret)) (.skip))) (.seq (.region c_r08_Read_r15 none [2]) (.ret)))))))
@[simp] def R_r08_Read : List CRes := [.cell 2 true 2]
theorem k_r08_Read : chkFn Try.prog fn_r08_Read c_r08_Read R_r08_Read 1 = true := by kernel_rfl
/-! wapentake/wapentakeref09.Texts -/
@[simp] def a_r09_Texts_r0 : List COper := [
  ⟨(some 4), .mov, [.c (.bool false)], none⟩]
def c_r09_Texts_r0 : List COper := a_r09_Texts_r0
instance : Reg c_r09_Texts_r0 a_r09_Texts_r0 1 := ⟨rfl, rfl⟩
@[simp] def a_r09_Texts_r1 : List COper := [
  ⟨(some 6), .mov, [.t 0], none⟩,
  ⟨(some 7), .len, [.t 6], none⟩,
  ⟨(some 8), .mov, [.t 1], none⟩,
  ⟨(some 9), .len, [.t 8], none⟩,
  ⟨(some 10), .bin .neq, [.t 7, .t 9], none⟩]
def c_r09_Texts_r1 : List COper := a_r09_Texts_r1
instance : Reg c_r09_Texts_r1 a_r09_Texts_r1 5 := ⟨rfl, rfl⟩
@[simp] def a_r09_Texts_r2 : List COper := [
  ⟨(some 4), .mov, [.c (.bool false)], none⟩]
def c_r09_Texts_r2 : List COper := a_r09_Texts_r2
instance : Reg c_r09_Texts_r2 a_r09_Texts_r2 1 := ⟨rfl, rfl⟩
@[simp] def a_r09_Texts_r3 : List COper := [
  ⟨(some 11), .mov, [.t 0], none⟩,
  ⟨(some 12), .len, [.t 11], none⟩,
  ⟨(some 13), .mov, [.c (.int .i64 0)], none⟩]
def c_r09_Texts_r3 : List COper := a_r09_Texts_r3
instance : Reg c_r09_Texts_r3 a_r09_Texts_r3 3 := ⟨rfl, rfl⟩
@[simp] def a_r09_Texts_r4 : List COper := [
  ⟨(some 14), .bin .lss, [.t 13, .t 12], none⟩]
def c_r09_Texts_r4 : List COper := a_r09_Texts_r4
instance : Reg c_r09_Texts_r4 a_r09_Texts_r4 1 := ⟨rfl, rfl⟩
@[simp] def a_r09_Texts_r5 : List COper := [
  ⟨(some 15), .mov, [.t 13], none⟩,
  ⟨(some 5), .mov, [.t 15], none⟩]
def c_r09_Texts_r5 : List COper := a_r09_Texts_r5
instance : Reg c_r09_Texts_r5 a_r09_Texts_r5 2 := ⟨rfl, rfl⟩
@[simp] def a_r09_Texts_r6 : List COper := [
  ⟨(some 16), .mov, [.t 0], none⟩,
  ⟨(some 17), .mov, [.t 5], none⟩,
  ⟨(some 18), .iaddr 1, [.t 16, .t 17], none⟩,
  ⟨(some 19), .load false 1, [.t 18], none⟩,
  ⟨(some 20), .mov, [.t 1], none⟩,
  ⟨(some 21), .mov, [.t 5], none⟩,
  ⟨(some 22), .iaddr 1, [.t 20, .t 21], none⟩,
  ⟨(some 23), .load false 1, [.t 22], none⟩,
  ⟨(some 24), .bin .neq, [.t 19, .t 23], none⟩]
def c_r09_Texts_r6 : List COper := a_r09_Texts_r6
instance : Reg c_r09_Texts_r6 a_r09_Texts_r6 9 := ⟨rfl, rfl⟩
@[simp] def a_r09_Texts_r7 : List COper := [
  ⟨(some 4), .mov, [.c (.bool false)], none⟩]
def c_r09_Texts_r7 : List COper := a_r09_Texts_r7
instance : Reg c_r09_Texts_r7 a_r09_Texts_r7 1 := ⟨rfl, rfl⟩
@[simp] def a_r09_Texts_r8 : List COper := [
  ⟨(some 25), .bin .add, [.t 13, .c (.int .i64 1)], none⟩,
  ⟨(some 13), .mov, [.t 25], none⟩]
def c_r09_Texts_r8 : List COper := a_r09_Texts_r8
instance : Reg c_r09_Texts_r8 a_r09_Texts_r8 2 := ⟨rfl, rfl⟩
@[simp] def a_r09_Texts_r9 : List COper := [
  ⟨(some 4), .mov, [.c (.bool true)], none⟩]
def c_r09_Texts_r9 : List COper := a_r09_Texts_r9
instance : Reg c_r09_Texts_r9 a_r09_Texts_r9 1 := ⟨rfl, rfl⟩
@[simp] def c_r09_Texts : CCode :=
  .seq (.region c_r09_Texts_r0 none [0, 1]) (.seq (.seq (.region c_r09_Texts_r1 none [0, 1, 10]) (.cond (.t 10) (.seq (.region c_r09_Texts_r2 none [4]) (.ret)) (.skip))) (.seq (.seq (.region c_r09_Texts_r3 none [0, 1, 12, 13]) (.block 0 (.loop (.seq (.region c_r09_Texts_r4 none [0, 1, 12, 13, 14]) (.seq (.cond (.t 14) (.skip) (.exit 0)) (.seq (.block 1 (.seq (.region c_r09_Texts_r5 none [0, 1, 5, 12, 13]) (.seq (.region c_r09_Texts_r6 (some ([0, 0, 3, 7, 0, 0, 48, 112, 255], [])) [0, 1, 12, 13, 24]) (.cond (.t 24) (.seq (.region c_r09_Texts_r7 none [4]) (.ret)) (.skip))))) (.region c_r09_Texts_r8 none [0, 1, 12, 13]))))))) (.seq (.region c_r09_Texts_r9 none [4]) (.ret))))
@[simp] def R_r09_Texts : List CRes := [.tmp 4]
theorem k_r09_Texts : chkFn Try.prog fn_r09_Texts c_r09_Texts R_r09_Texts 2 = true := by kernel_rfl
/-! wapentake/wapentakeref05.Same -/
@[simp] def a_r05_Same_r0 : List COper := [
  ⟨(some 2), .box, [.t 0], none⟩,
  ⟨(some 3), .box, [.t 1], none⟩,
  ⟨(some 4), .mov, [.c (.bool false)], none⟩]
def c_r05_Same_r0 : List COper := a_r05_Same_r0
instance : Reg c_r05_Same_r0 a_r05_Same_r0 3 := ⟨rfl, rfl⟩
@[simp] def a_r05_Same_r1 : List COper := [
  ⟨(some 5), .faddr 0 1 false, [.t 2], none⟩,
  ⟨(some 6), .load false 1, [.t 5], none⟩,
  ⟨(some 7), .faddr 0 1 false, [.t 3], none⟩,
  ⟨(some 8), .load false 1, [.t 7], none⟩,
  ⟨(some 9), .bin .eql, [.t 6, .t 8], none⟩,
  ⟨(some 10), .mov, [.t 9], none⟩,
  ⟨(some 11), .faddr 1 2 true, [.t 2], (some (10, true))⟩,
  ⟨(some 12), .load true 2, [.t 11], (some (10, true))⟩,
  ⟨(some 13), .faddr 1 2 true, [.t 3], (some (10, true))⟩,
  ⟨(some 14), .load true 2, [.t 13], (some (10, true))⟩,
  ⟨(some 15), .call fn_r04_Same, [.t 12, .t 14], (some (10, true))⟩,
  ⟨(some 16), .pick, [.t 10, .t 15, .c (.bool false)], none⟩,
  ⟨(some 17), .mov, [.t 16], none⟩,
  ⟨(some 18), .faddr 3 1 false, [.t 2], (some (17, true))⟩,
  ⟨(some 19), .load false 1, [.t 18], (some (17, true))⟩,
  ⟨(some 20), .faddr 3 1 false, [.t 3], (some (17, true))⟩,
  ⟨(some 21), .load false 1, [.t 20], (some (17, true))⟩,
  ⟨(some 22), .call fn_r03_Same, [.t 19, .t 21], (some (17, true))⟩,
  ⟨(some 23), .pick, [.t 17, .t 22, .c (.bool false)], none⟩,
  ⟨(some 4), .mov, [.t 23], none⟩]
def c_r05_Same_r1 : List COper := a_r05_Same_r1
instance : Reg c_r05_Same_r1 a_r05_Same_r1 20 := ⟨rfl, rfl⟩
@[simp] def c_r05_Same : CCode :=
  .seq (.region c_r05_Same_r0 none [2, 3]) (.seq (.region c_r05_Same_r1 none [4]) (.ret))
@[simp] def R_r05_Same : List CRes := [.tmp 4]
theorem k_r05_Same : chkFn Try.prog fn_r05_Same c_r05_Same R_r05_Same 2 = true := by kernel_rfl
/-! wapentake/wapentakeref08.Same -/
@[simp] def a_r08_Same_r0 : List COper := [
  ⟨(some 2), .box, [.t 0], none⟩,
  ⟨(some 3), .box, [.t 1], none⟩,
  ⟨(some 4), .mov, [.c (.bool false)], none⟩]
def c_r08_Same_r0 : List COper := a_r08_Same_r0
instance : Reg c_r08_Same_r0 a_r08_Same_r0 3 := ⟨rfl, rfl⟩
@[simp] def a_r08_Same_r1 : List COper := [
  ⟨(some 6), .faddr 0 1 false, [.t 2], none⟩,
  ⟨(some 7), .load false 1, [.t 6], none⟩,
  ⟨(some 8), .faddr 0 1 false, [.t 3], none⟩,
  ⟨(some 9), .load false 1, [.t 8], none⟩,
  ⟨(some 10), .bin .neq, [.t 7, .t 9], none⟩,
  ⟨(some 11), .mov, [.t 10], none⟩,
  ⟨(some 12), .faddr 1 1 false, [.t 2], (some (11, false))⟩,
  ⟨(some 13), .load false 1, [.t 12], (some (11, false))⟩,
  ⟨(some 14), .len, [.t 13], (some (11, false))⟩,
  ⟨(some 15), .faddr 1 1 false, [.t 3], (some (11, false))⟩,
  ⟨(some 16), .load false 1, [.t 15], (some (11, false))⟩,
  ⟨(some 17), .len, [.t 16], (some (11, false))⟩,
  ⟨(some 18), .bin .neq, [.t 14, .t 17], (some (11, false))⟩,
  ⟨(some 19), .pick, [.t 11, .c (.bool true), .t 18], none⟩]
def c_r08_Same_r1 : List COper := a_r08_Same_r1
instance : Reg c_r08_Same_r1 a_r08_Same_r1 14 := ⟨rfl, rfl⟩
@[simp] def a_r08_Same_r2 : List COper := [
  ⟨(some 4), .mov, [.c (.bool false)], none⟩]
def c_r08_Same_r2 : List COper := a_r08_Same_r2
instance : Reg c_r08_Same_r2 a_r08_Same_r2 1 := ⟨rfl, rfl⟩
@[simp] def a_r08_Same_r3 : List COper := [
  ⟨(some 20), .faddr 1 1 false, [.t 2], none⟩,
  ⟨(some 21), .load false 1, [.t 20], none⟩,
  ⟨(some 22), .len, [.t 21], none⟩,
  ⟨(some 23), .mov, [.c (.int .i64 0)], none⟩]
def c_r08_Same_r3 : List COper := a_r08_Same_r3
instance : Reg c_r08_Same_r3 a_r08_Same_r3 4 := ⟨rfl, rfl⟩
@[simp] def a_r08_Same_r4 : List COper := [
  ⟨(some 24), .bin .lss, [.t 23, .t 22], none⟩]
def c_r08_Same_r4 : List COper := a_r08_Same_r4
instance : Reg c_r08_Same_r4 a_r08_Same_r4 1 := ⟨rfl, rfl⟩
@[simp] def a_r08_Same_r5 : List COper := [
  ⟨(some 25), .mov, [.t 23], none⟩,
  ⟨(some 5), .mov, [.t 25], none⟩]
def c_r08_Same_r5 : List COper := a_r08_Same_r5
instance : Reg c_r08_Same_r5 a_r08_Same_r5 2 := ⟨rfl, rfl⟩
@[simp] def a_r08_Same_r6 : List COper := [
  ⟨(some 26), .faddr 1 1 false, [.t 2], none⟩,
  ⟨(some 27), .load false 1, [.t 26], none⟩,
  ⟨(some 28), .mov, [.t 5], none⟩,
  ⟨(some 29), .iaddr 34, [.t 27, .t 28], none⟩,
  ⟨(some 30), .load true 34, [.t 29], none⟩,
  ⟨(some 31), .faddr 1 1 false, [.t 3], none⟩,
  ⟨(some 32), .load false 1, [.t 31], none⟩,
  ⟨(some 33), .mov, [.t 5], none⟩,
  ⟨(some 34), .iaddr 34, [.t 32, .t 33], none⟩,
  ⟨(some 35), .load true 34, [.t 34], none⟩,
  ⟨(some 36), .eqs true (.st [.int .i64, .st [.ints .u8 32, .int .i64]]), [.t 30, .t 35], none⟩]
def c_r08_Same_r6 : List COper := a_r08_Same_r6
instance : Reg c_r08_Same_r6 a_r08_Same_r6 11 := ⟨rfl, rfl⟩
@[simp] def a_r08_Same_r7 : List COper := [
  ⟨(some 4), .mov, [.c (.bool false)], none⟩]
def c_r08_Same_r7 : List COper := a_r08_Same_r7
instance : Reg c_r08_Same_r7 a_r08_Same_r7 1 := ⟨rfl, rfl⟩
@[simp] def a_r08_Same_r8 : List COper := [
  ⟨(some 37), .bin .add, [.t 23, .c (.int .i64 1)], none⟩,
  ⟨(some 23), .mov, [.t 37], none⟩]
def c_r08_Same_r8 : List COper := a_r08_Same_r8
instance : Reg c_r08_Same_r8 a_r08_Same_r8 2 := ⟨rfl, rfl⟩
@[simp] def a_r08_Same_r9 : List COper := [
  ⟨(some 4), .mov, [.c (.bool true)], none⟩]
def c_r08_Same_r9 : List COper := a_r08_Same_r9
instance : Reg c_r08_Same_r9 a_r08_Same_r9 1 := ⟨rfl, rfl⟩
@[simp] def c_r08_Same : CCode :=
  .seq (.region c_r08_Same_r0 none [2, 3]) (.seq (.seq (.region c_r08_Same_r1 none [2, 3, 19]) (.cond (.t 19) (.seq (.region c_r08_Same_r2 none [4]) (.ret)) (.skip))) (.seq (.seq (.region c_r08_Same_r3 none [2, 3, 22, 23]) (.block 0 (.loop (.seq (.region c_r08_Same_r4 none [2, 3, 22, 23, 24]) (.seq (.cond (.t 24) (.skip) (.exit 0)) (.seq (.block 1 (.seq (.region c_r08_Same_r5 none [2, 3, 5, 22, 23]) (.seq (.region c_r08_Same_r6 (some ([0, 1, 0, 7, 15, 0, 32, 0, 224, 480, 1023], [])) [2, 3, 22, 23, 36]) (.cond (.t 36) (.seq (.region c_r08_Same_r7 none [4]) (.ret)) (.skip))))) (.region c_r08_Same_r8 none [2, 3, 22, 23]))))))) (.seq (.region c_r08_Same_r9 none [4]) (.ret))))
@[simp] def R_r08_Same : List CRes := [.tmp 4]
theorem k_r08_Same : chkFn Try.prog fn_r08_Same c_r08_Same R_r08_Same 2 = true := by kernel_rfl
/-! wapentake/wapentakeref03.Same -/
@[simp] def a_r03_Same_r0 : List COper := [
  ⟨(some 4), .mov, [.c (.bool false)], none⟩]
def c_r03_Same_r0 : List COper := a_r03_Same_r0
instance : Reg c_r03_Same_r0 a_r03_Same_r0 1 := ⟨rfl, rfl⟩
@[simp] def a_r03_Same_r1 : List COper := [
  ⟨(some 6), .mov, [.t 0], none⟩,
  ⟨(some 7), .len, [.t 6], none⟩,
  ⟨(some 8), .mov, [.t 1], none⟩,
  ⟨(some 9), .len, [.t 8], none⟩,
  ⟨(some 10), .bin .neq, [.t 7, .t 9], none⟩]
def c_r03_Same_r1 : List COper := a_r03_Same_r1
instance : Reg c_r03_Same_r1 a_r03_Same_r1 5 := ⟨rfl, rfl⟩
@[simp] def a_r03_Same_r2 : List COper := [
  ⟨(some 4), .mov, [.c (.bool false)], none⟩]
def c_r03_Same_r2 : List COper := a_r03_Same_r2
instance : Reg c_r03_Same_r2 a_r03_Same_r2 1 := ⟨rfl, rfl⟩
@[simp] def a_r03_Same_r3 : List COper := [
  ⟨(some 11), .mov, [.t 0], none⟩,
  ⟨(some 12), .len, [.t 11], none⟩,
  ⟨(some 13), .mov, [.c (.int .i64 0)], none⟩]
def c_r03_Same_r3 : List COper := a_r03_Same_r3
instance : Reg c_r03_Same_r3 a_r03_Same_r3 3 := ⟨rfl, rfl⟩
@[simp] def a_r03_Same_r4 : List COper := [
  ⟨(some 14), .bin .lss, [.t 13, .t 12], none⟩]
def c_r03_Same_r4 : List COper := a_r03_Same_r4
instance : Reg c_r03_Same_r4 a_r03_Same_r4 1 := ⟨rfl, rfl⟩
@[simp] def a_r03_Same_r5 : List COper := [
  ⟨(some 15), .mov, [.t 13], none⟩,
  ⟨(some 5), .mov, [.t 15], none⟩]
def c_r03_Same_r5 : List COper := a_r03_Same_r5
instance : Reg c_r03_Same_r5 a_r03_Same_r5 2 := ⟨rfl, rfl⟩
@[simp] def a_r03_Same_r6 : List COper := [
  ⟨(some 16), .mov, [.t 0], none⟩,
  ⟨(some 17), .mov, [.t 5], none⟩,
  ⟨(some 18), .iaddr 32, [.t 16, .t 17], none⟩,
  ⟨(some 19), .load true 32, [.t 18], none⟩,
  ⟨(some 20), .mov, [.t 1], none⟩,
  ⟨(some 21), .mov, [.t 5], none⟩,
  ⟨(some 22), .iaddr 32, [.t 20, .t 21], none⟩,
  ⟨(some 23), .load true 32, [.t 22], none⟩,
  ⟨(some 24), .eqa true .u8 32, [.t 19, .t 23], none⟩]
def c_r03_Same_r6 : List COper := a_r03_Same_r6
instance : Reg c_r03_Same_r6 a_r03_Same_r6 9 := ⟨rfl, rfl⟩
@[simp] def a_r03_Same_r7 : List COper := [
  ⟨(some 4), .mov, [.c (.bool false)], none⟩]
def c_r03_Same_r7 : List COper := a_r03_Same_r7
instance : Reg c_r03_Same_r7 a_r03_Same_r7 1 := ⟨rfl, rfl⟩
@[simp] def a_r03_Same_r8 : List COper := [
  ⟨(some 25), .bin .add, [.t 13, .c (.int .i64 1)], none⟩,
  ⟨(some 13), .mov, [.t 25], none⟩]
def c_r03_Same_r8 : List COper := a_r03_Same_r8
instance : Reg c_r03_Same_r8 a_r03_Same_r8 2 := ⟨rfl, rfl⟩
@[simp] def a_r03_Same_r9 : List COper := [
  ⟨(some 4), .mov, [.c (.bool true)], none⟩]
def c_r03_Same_r9 : List COper := a_r03_Same_r9
instance : Reg c_r03_Same_r9 a_r03_Same_r9 1 := ⟨rfl, rfl⟩
@[simp] def c_r03_Same : CCode :=
  .seq (.region c_r03_Same_r0 none [0, 1]) (.seq (.seq (.region c_r03_Same_r1 none [0, 1, 10]) (.cond (.t 10) (.seq (.region c_r03_Same_r2 none [4]) (.ret)) (.skip))) (.seq (.seq (.region c_r03_Same_r3 none [0, 1, 12, 13]) (.block 0 (.loop (.seq (.region c_r03_Same_r4 none [0, 1, 12, 13, 14]) (.seq (.cond (.t 14) (.skip) (.exit 0)) (.seq (.block 1 (.seq (.region c_r03_Same_r5 none [0, 1, 5, 12, 13]) (.seq (.region c_r03_Same_r6 (some ([0, 0, 3, 7, 0, 0, 48, 112, 255], [])) [0, 1, 12, 13, 24]) (.cond (.t 24) (.seq (.region c_r03_Same_r7 none [4]) (.ret)) (.skip))))) (.region c_r03_Same_r8 none [0, 1, 12, 13]))))))) (.seq (.region c_r03_Same_r9 none [4]) (.ret))))
@[simp] def R_r03_Same : List CRes := [.tmp 4]
theorem k_r03_Same : chkFn Try.prog fn_r03_Same c_r03_Same R_r03_Same 2 = true := by kernel_rfl
/-! wapentake/vote.WritePlan -/
@[simp] def a_vote_WritePlan_r0 : List COper := [
  ⟨(some 3), .box, [.t 1], none⟩,
  ⟨(some 4), .mov, [.c (.bool false)], none⟩]
def c_vote_WritePlan_r0 : List COper := a_vote_WritePlan_r0
instance : Reg c_vote_WritePlan_r0 a_vote_WritePlan_r0 2 := ⟨rfl, rfl⟩
@[simp] def a_vote_WritePlan_r1 : List COper := [
  ⟨(some 6), .build [.v (.slice none 0 0)] [], [], none⟩,
  ⟨(some 7), .box, [.t 6], none⟩,
  ⟨(some 5), .mov, [.t 7], none⟩]
def c_vote_WritePlan_r1 : List COper := a_vote_WritePlan_r1
instance : Reg c_vote_WritePlan_r1 a_vote_WritePlan_r1 3 := ⟨rfl, rfl⟩
@[simp] def a_vote_WritePlan_r2 : List COper := [
  ⟨(some 8), .mov, [.t 5], none⟩,
  ⟨(some 9), .faddr 104 4 true, [.t 3], none⟩,
  ⟨(some 10), .load true 4, [.t 9], none⟩,
  ⟨(some 11), .call fn_keys_Write, [.t 8, .t 10], none⟩,
  ⟨(some 12), .not, [.t 11], none⟩]
def c_vote_WritePlan_r2 : List COper := a_vote_WritePlan_r2
instance : Reg c_vote_WritePlan_r2 a_vote_WritePlan_r2 5 := ⟨rfl, rfl⟩
@[simp] def a_vote_WritePlan_r3 : List COper := [
  ⟨(some 4), .mov, [.c (.bool false)], none⟩]
def c_vote_WritePlan_r3 : List COper := a_vote_WritePlan_r3
instance : Reg c_vote_WritePlan_r3 a_vote_WritePlan_r3 1 := ⟨rfl, rfl⟩
@[simp] def a_vote_WritePlan_r4 : List COper := [
  ⟨(some 13), .mov, [.t 0], none⟩,
  ⟨(some 14), .load true 108, [.t 3], none⟩,
  ⟨(some 15), .call fn_vote_plan, [.t 13, .t 14], none⟩]
def c_vote_WritePlan_r4 : List COper := a_vote_WritePlan_r4
instance : Reg c_vote_WritePlan_r4 a_vote_WritePlan_r4 3 := ⟨rfl, rfl⟩
@[simp] def a_vote_WritePlan_r5 : List COper := [
  ⟨(some 16), .mov, [.t 0], none⟩,
  ⟨(some 17), .faddr 104 4 true, [.t 3], none⟩,
  ⟨(some 18), .load true 4, [.t 17], none⟩,
  ⟨(some 19), .call fn_keys_Write, [.t 16, .t 18], none⟩,
  ⟨(some 4), .mov, [.t 19], none⟩]
def c_vote_WritePlan_r5 : List COper := a_vote_WritePlan_r5
instance : Reg c_vote_WritePlan_r5 a_vote_WritePlan_r5 5 := ⟨rfl, rfl⟩
@[simp] def c_vote_WritePlan : CCode :=
  .seq (.region c_vote_WritePlan_r0 none [0, 3]) (.seq (.region c_vote_WritePlan_r1 none [0, 3, 5]) (.seq (.seq (.region c_vote_WritePlan_r2 none [0, 3, 12]) (.cond (.t 12) (.seq (.region c_vote_WritePlan_r3 none [4]) (.ret)) (.skip))) (.seq (.region c_vote_WritePlan_r4 none [0, 3]) (.seq (.region c_vote_WritePlan_r5 none [4]) (.ret)))))
@[simp] def R_vote_WritePlan : List CRes := [.tmp 4]
theorem k_vote_WritePlan : chkFn Try.prog fn_vote_WritePlan c_vote_WritePlan R_vote_WritePlan 2 = true := by kernel_rfl
/-! wapentake/vote.Write -/
@[simp] def a_vote_Write_r0 : List COper := [
  ⟨(some 3), .box, [.t 1], none⟩,
  ⟨(some 4), .mov, [.c (.bool false)], none⟩]
def c_vote_Write_r0 : List COper := a_vote_Write_r0
instance : Reg c_vote_Write_r0 a_vote_Write_r0 2 := ⟨rfl, rfl⟩
@[simp] def a_vote_Write_r1 : List COper := [
  ⟨(some 6), .build [.v (.slice none 0 0)] [], [], none⟩,
  ⟨(some 7), .box, [.t 6], none⟩,
  ⟨(some 5), .mov, [.t 7], none⟩]
def c_vote_Write_r1 : List COper := a_vote_Write_r1
instance : Reg c_vote_Write_r1 a_vote_Write_r1 3 := ⟨rfl, rfl⟩
@[simp] def a_vote_Write_r2 : List COper := [
  ⟨(some 8), .mov, [.t 5], none⟩,
  ⟨(some 9), .faddr 37 4 true, [.t 3], none⟩,
  ⟨(some 10), .load true 4, [.t 9], none⟩,
  ⟨(some 11), .call fn_keys_Write, [.t 8, .t 10], none⟩,
  ⟨(some 12), .not, [.t 11], none⟩]
def c_vote_Write_r2 : List COper := a_vote_Write_r2
instance : Reg c_vote_Write_r2 a_vote_Write_r2 5 := ⟨rfl, rfl⟩
@[simp] def a_vote_Write_r3 : List COper := [
  ⟨(some 4), .mov, [.c (.bool false)], none⟩]
def c_vote_Write_r3 : List COper := a_vote_Write_r3
instance : Reg c_vote_Write_r3 a_vote_Write_r3 1 := ⟨rfl, rfl⟩
@[simp] def a_vote_Write_r4 : List COper := [
  ⟨(some 13), .mov, [.t 0], none⟩,
  ⟨(some 14), .load true 41, [.t 3], none⟩,
  ⟨(some 15), .call fn_vote_head, [.t 13, .t 14], none⟩]
def c_vote_Write_r4 : List COper := a_vote_Write_r4
instance : Reg c_vote_Write_r4 a_vote_Write_r4 3 := ⟨rfl, rfl⟩
@[simp] def a_vote_Write_r5 : List COper := [
  ⟨(some 16), .mov, [.t 0], none⟩,
  ⟨(some 17), .faddr 37 4 true, [.t 3], none⟩,
  ⟨(some 18), .load true 4, [.t 17], none⟩,
  ⟨(some 19), .call fn_keys_Write, [.t 16, .t 18], none⟩,
  ⟨(some 4), .mov, [.t 19], none⟩]
def c_vote_Write_r5 : List COper := a_vote_Write_r5
instance : Reg c_vote_Write_r5 a_vote_Write_r5 5 := ⟨rfl, rfl⟩
@[simp] def c_vote_Write : CCode :=
  .seq (.region c_vote_Write_r0 none [0, 3]) (.seq (.region c_vote_Write_r1 none [0, 3, 5]) (.seq (.seq (.region c_vote_Write_r2 none [0, 3, 12]) (.cond (.t 12) (.seq (.region c_vote_Write_r3 none [4]) (.ret)) (.skip))) (.seq (.region c_vote_Write_r4 none [0, 3]) (.seq (.region c_vote_Write_r5 none [4]) (.ret)))))
@[simp] def R_vote_Write : List CRes := [.tmp 4]
theorem k_vote_Write : chkFn Try.prog fn_vote_Write c_vote_Write R_vote_Write 2 = true := by kernel_rfl
/-! wapentake/request.Write -/
@[simp] def a_request_Write_r0 : List COper := [
  ⟨(some 3), .box, [.t 1], none⟩]
def c_request_Write_r0 : List COper := a_request_Write_r0
instance : Reg c_request_Write_r0 a_request_Write_r0 1 := ⟨rfl, rfl⟩
@[simp] def a_request_Write_r1 : List COper := [
  ⟨(some 5), .faddr 2 40 true, [.t 3], none⟩,
  ⟨(some 6), .faddr 4 36 true, [.t 5], none⟩,
  ⟨(some 7), .load true 36, [.t 6], none⟩,
  ⟨(some 4), .alloc (.node [.v (.int .i64 0), .v (.int .i64 0), .v (.int .i64 0), .node [.arr 1 (rep 32 (.v (.int .u8 0))), .v (.int .i64 0)]]), [], none⟩,
  ⟨none, .store true 36, [.t 4, .t 7], none⟩]
def c_request_Write_r1 : List COper := a_request_Write_r1
instance : Reg c_request_Write_r1 a_request_Write_r1 5 := ⟨rfl, rfl⟩
@[simp] def a_request_Write_r2 : List COper := [
  ⟨(some 8), .mov, [.t 0], none⟩,
  ⟨(some 9), .faddr 0 1 false, [.t 3], none⟩,
  ⟨(some 10), .load false 1, [.t 9], none⟩,
  ⟨(some 11), .faddr 1 1 false, [.t 3], none⟩,
  ⟨(some 12), .load false 1, [.t 11], none⟩,
  ⟨(some 13), .faddr 2 40 true, [.t 3], none⟩,
  ⟨(some 14), .faddr 0 1 false, [.t 13], none⟩,
  ⟨(some 15), .load false 1, [.t 14], none⟩,
  ⟨(some 16), .bslice 1 3 (.v (.int .i64 0)) [0, 1, 2], [.t 10, .t 12, .t 15], none⟩,
  ⟨(some 17), .call fn_code_Writer_Num, [.t 8, .t 16], none⟩]
def c_request_Write_r2 : List COper := a_request_Write_r2
instance : Reg c_request_Write_r2 a_request_Write_r2 10 := ⟨rfl, rfl⟩
@[simp] def a_request_Write_r3 : List COper := [
  ⟨(some 18), .mov, [.t 0], none⟩,
  ⟨(some 19), .faddr 2 40 true, [.t 3], none⟩,
  ⟨(some 20), .faddr 1 1 false, [.t 19], none⟩,
  ⟨(some 21), .load false 1, [.t 20], none⟩,
  ⟨(some 22), .faddr 2 40 true, [.t 3], none⟩,
  ⟨(some 23), .faddr 2 1 false, [.t 22], none⟩,
  ⟨(some 24), .load false 1, [.t 23], none⟩,
  ⟨(some 25), .faddr 2 40 true, [.t 3], none⟩,
  ⟨(some 26), .faddr 3 1 false, [.t 25], none⟩,
  ⟨(some 27), .load false 1, [.t 26], none⟩,
  ⟨(some 28), .bslice 1 3 (.v (.string (mkS []))) [0, 1, 2], [.t 21, .t 24, .t 27], none⟩,
  ⟨(some 29), .call fn_code_Writer_Text, [.t 18, .t 28], none⟩]
def c_request_Write_r3 : List COper := a_request_Write_r3
instance : Reg c_request_Write_r3 a_request_Write_r3 12 := ⟨rfl, rfl⟩
@[simp] def a_request_Write_r4 : List COper := [
  ⟨(some 30), .mov, [.t 0], none⟩,
  ⟨(some 31), .faddr 0 1 false, [.t 4], none⟩,
  ⟨(some 32), .load false 1, [.t 31], none⟩,
  ⟨(some 33), .faddr 1 1 false, [.t 4], none⟩,
  ⟨(some 34), .load false 1, [.t 33], none⟩,
  ⟨(some 35), .faddr 2 1 false, [.t 4], none⟩,
  ⟨(some 36), .load false 1, [.t 35], none⟩,
  ⟨(some 37), .faddr 3 33 true, [.t 4], none⟩,
  ⟨(some 38), .faddr 32 1 false, [.t 37], none⟩,
  ⟨(some 39), .load false 1, [.t 38], none⟩,
  ⟨(some 40), .bslice 1 4 (.v (.int .i64 0)) [0, 1, 2, 3], [.t 32, .t 34, .t 36, .t 39], none⟩,
  ⟨(some 41), .call fn_code_Writer_Num, [.t 30, .t 40], none⟩]
def c_request_Write_r4 : List COper := a_request_Write_r4
instance : Reg c_request_Write_r4 a_request_Write_r4 12 := ⟨rfl, rfl⟩
@[simp] def a_request_Write_r5 : List COper := [
  ⟨(some 42), .mov, [.t 0], none⟩,
  ⟨(some 43), .faddr 3 33 true, [.t 4], none⟩,
  ⟨(some 44), .faddr 0 32 true, [.t 43], none⟩,
  ⟨(some 45), .load true 32, [.t 44], none⟩,
  ⟨(some 46), .bslice 32 1 (.arr 1 (rep 32 (.v (.int .u8 0)))) [0], [.t 45], none⟩,
  ⟨(some 47), .call fn_code_Writer_Digest, [.t 42, .t 46], none⟩]
def c_request_Write_r5 : List COper := a_request_Write_r5
instance : Reg c_request_Write_r5 a_request_Write_r5 6 := ⟨rfl, rfl⟩
@[simp] def c_request_Write : CCode :=
  .seq (.region c_request_Write_r0 none [0, 3]) (.seq (.region c_request_Write_r1 none [0, 3, 4]) (.seq (.region c_request_Write_r2 none [0, 3, 4]) (.seq (.region c_request_Write_r3 none [0, 4]) (.seq (.region c_request_Write_r4 none [0, 4]) (.region c_request_Write_r5 none [])))))
@[simp] def R_request_Write : List CRes := []
theorem k_request_Write : chkFn Try.prog fn_request_Write c_request_Write R_request_Write 2 = true := by kernel_rfl
/-! wapentake/request.WriteReply -/
@[simp] def a_request_WriteReply_r0 : List COper := [
  ⟨(some 3), .box, [.t 1], none⟩]
def c_request_WriteReply_r0 : List COper := a_request_WriteReply_r0
instance : Reg c_request_WriteReply_r0 a_request_WriteReply_r0 1 := ⟨rfl, rfl⟩
@[simp] def a_request_WriteReply_r1 : List COper := [
  ⟨(some 4), .mov, [.t 0], none⟩,
  ⟨(some 5), .faddr 0 1 false, [.t 3], none⟩,
  ⟨(some 6), .load false 1, [.t 5], none⟩,
  ⟨(some 7), .faddr 1 1 false, [.t 3], none⟩,
  ⟨(some 8), .load false 1, [.t 7], none⟩,
  ⟨(some 9), .faddr 2 1 false, [.t 3], none⟩,
  ⟨(some 10), .load false 1, [.t 9], none⟩,
  ⟨(some 11), .faddr 3 1 false, [.t 3], none⟩,
  ⟨(some 12), .load false 1, [.t 11], none⟩,
  ⟨(some 13), .len, [.t 12], none⟩,
  ⟨(some 14), .bslice 1 4 (.v (.int .i64 0)) [0, 1, 2, 3], [.t 6, .t 8, .t 10, .t 13], none⟩,
  ⟨(some 15), .call fn_code_Writer_Num, [.t 4, .t 14], none⟩]
def c_request_WriteReply_r1 : List COper := a_request_WriteReply_r1
instance : Reg c_request_WriteReply_r1 a_request_WriteReply_r1 12 := ⟨rfl, rfl⟩
@[simp] def a_request_WriteReply_r2 : List COper := [
  ⟨(some 16), .mov, [.t 0], none⟩,
  ⟨(some 17), .faddr 3 1 false, [.t 3], none⟩,
  ⟨(some 18), .load false 1, [.t 17], none⟩,
  ⟨(some 19), .call fn_code_Writer_Text, [.t 16, .t 18], none⟩]
def c_request_WriteReply_r2 : List COper := a_request_WriteReply_r2
instance : Reg c_request_WriteReply_r2 a_request_WriteReply_r2 4 := ⟨rfl, rfl⟩
@[simp] def c_request_WriteReply : CCode :=
  .seq (.region c_request_WriteReply_r0 none [0, 3]) (.seq (.region c_request_WriteReply_r1 none [0, 3]) (.region c_request_WriteReply_r2 none []))
@[simp] def R_request_WriteReply : List CRes := []
theorem k_request_WriteReply : chkFn Try.prog fn_request_WriteReply c_request_WriteReply R_request_WriteReply 2 = true := by kernel_rfl
/-! wapentake/block.Write -/
@[simp] def a_block_Write_r0 : List COper := [
  ⟨(some 3), .box, [.t 1], none⟩]
def c_block_Write_r0 : List COper := a_block_Write_r0
instance : Reg c_block_Write_r0 a_block_Write_r0 1 := ⟨rfl, rfl⟩
@[simp] def a_block_Write_r1 : List COper := [
  ⟨(some 6), .mov, [.t 0], none⟩,
  ⟨(some 7), .faddr 0 1 false, [.t 3], none⟩,
  ⟨(some 8), .load false 1, [.t 7], none⟩,
  ⟨(some 9), .faddr 1 1 false, [.t 3], none⟩,
  ⟨(some 10), .load false 1, [.t 9], none⟩,
  ⟨(some 11), .bslice 1 2 (.v (.int .i64 0)) [0, 1], [.t 8, .t 10], none⟩,
  ⟨(some 12), .call fn_code_Writer_Num, [.t 6, .t 11], none⟩]
def c_block_Write_r1 : List COper := a_block_Write_r1
instance : Reg c_block_Write_r1 a_block_Write_r1 7 := ⟨rfl, rfl⟩
@[simp] def a_block_Write_r2 : List COper := [
  ⟨(some 13), .mov, [.t 0], none⟩,
  ⟨(some 14), .faddr 2 32 true, [.t 3], none⟩,
  ⟨(some 15), .load true 32, [.t 14], none⟩,
  ⟨(some 16), .faddr 34 32 true, [.t 3], none⟩,
  ⟨(some 17), .load true 32, [.t 16], none⟩,
  ⟨(some 18), .faddr 66 32 true, [.t 3], none⟩,
  ⟨(some 19), .load true 32, [.t 18], none⟩,
  ⟨(some 20), .bslice 32 3 (.arr 1 (rep 32 (.v (.int .u8 0)))) [0, 1, 2], [.t 15, .t 17, .t 19], none⟩,
  ⟨(some 21), .call fn_code_Writer_Digest, [.t 13, .t 20], none⟩]
def c_block_Write_r2 : List COper := a_block_Write_r2
instance : Reg c_block_Write_r2 a_block_Write_r2 9 := ⟨rfl, rfl⟩
@[simp] def a_block_Write_r3 : List COper := [
  ⟨(some 22), .mov, [.t 0], none⟩,
  ⟨(some 23), .faddr 98 1 false, [.t 3], none⟩,
  ⟨(some 24), .load false 1, [.t 23], none⟩,
  ⟨(some 25), .len, [.t 24], none⟩,
  ⟨(some 26), .bslice 1 1 (.v (.int .i64 0)) [0], [.t 25], none⟩,
  ⟨(some 27), .call fn_code_Writer_Num, [.t 22, .t 26], none⟩]
def c_block_Write_r3 : List COper := a_block_Write_r3
instance : Reg c_block_Write_r3 a_block_Write_r3 6 := ⟨rfl, rfl⟩
@[simp] def a_block_Write_r4 : List COper := [
  ⟨(some 28), .faddr 98 1 false, [.t 3], none⟩,
  ⟨(some 29), .load false 1, [.t 28], none⟩,
  ⟨(some 30), .len, [.t 29], none⟩,
  ⟨(some 31), .mov, [.c (.int .i64 0)], none⟩]
def c_block_Write_r4 : List COper := a_block_Write_r4
instance : Reg c_block_Write_r4 a_block_Write_r4 4 := ⟨rfl, rfl⟩
@[simp] def a_block_Write_r5 : List COper := [
  ⟨(some 32), .bin .lss, [.t 31, .t 30], none⟩]
def c_block_Write_r5 : List COper := a_block_Write_r5
instance : Reg c_block_Write_r5 a_block_Write_r5 1 := ⟨rfl, rfl⟩
@[simp] def a_block_Write_r6 : List COper := [
  ⟨(some 33), .iaddr 42, [.t 29, .t 31], none⟩,
  ⟨(some 34), .load true 42, [.t 33], none⟩,
  ⟨(some 5), .alloc (.node [.v (.int .i64 0), .v (.int .i64 0), .node [.v (.int .i64 0), .v (.string (mkS [])), .v (.string (mkS [])), .v (.string (mkS [])), .node [.v (.int .i64 0), .v (.int .i64 0), .v (.int .i64 0), .node [.arr 1 (rep 32 (.v (.int .u8 0))), .v (.int .i64 0)]]]]), [], none⟩,
  ⟨none, .store true 42, [.t 5, .t 34], none⟩]
def c_block_Write_r6 : List COper := a_block_Write_r6
instance : Reg c_block_Write_r6 a_block_Write_r6 4 := ⟨rfl, rfl⟩
@[simp] def a_block_Write_r7 : List COper := [
  ⟨(some 35), .mov, [.t 0], none⟩,
  ⟨(some 36), .load true 42, [.t 5], none⟩,
  ⟨(some 37), .call fn_request_Write, [.t 35, .t 36], none⟩]
def c_block_Write_r7 : List COper := a_block_Write_r7
instance : Reg c_block_Write_r7 a_block_Write_r7 3 := ⟨rfl, rfl⟩
@[simp] def a_block_Write_r8 : List COper := [
  ⟨(some 38), .bin .add, [.t 31, .c (.int .i64 1)], none⟩,
  ⟨(some 31), .mov, [.t 38], none⟩]
def c_block_Write_r8 : List COper := a_block_Write_r8
instance : Reg c_block_Write_r8 a_block_Write_r8 2 := ⟨rfl, rfl⟩
@[simp] def c_block_Write : CCode :=
  .seq (.region c_block_Write_r0 none [0, 3]) (.seq (.region c_block_Write_r1 none [0, 3]) (.seq (.region c_block_Write_r2 none [0, 3]) (.seq (.region c_block_Write_r3 none [0, 3]) (.seq (.region c_block_Write_r4 none [0, 29, 30, 31]) (.block 0 (.loop (.seq (.region c_block_Write_r5 none [0, 29, 30, 31, 32]) (.seq (.cond (.t 32) (.skip) (.exit 0)) (.seq (.block 1 (.seq (.region c_block_Write_r6 none [0, 5, 29, 30, 31]) (.region c_block_Write_r7 none [0, 29, 30, 31]))) (.region c_block_Write_r8 none [0, 29, 30, 31]))))))))))
@[simp] def R_block_Write : List CRes := []
theorem k_block_Write : chkFn Try.prog fn_block_Write c_block_Write R_block_Write 2 = true := by kernel_rfl
/-! wapentake/cert.Write -/
@[simp] def a_cert_Write_r0 : List COper := [
  ⟨(some 3), .box, [.t 1], none⟩,
  ⟨(some 4), .mov, [.c (.bool false)], none⟩]
def c_cert_Write_r0 : List COper := a_cert_Write_r0
instance : Reg c_cert_Write_r0 a_cert_Write_r0 2 := ⟨rfl, rfl⟩
@[simp] def a_cert_Write_r1 : List COper := [
  ⟨(some 10), .build [.v (.slice none 0 0)] [], [], none⟩,
  ⟨(some 11), .box, [.t 10], none⟩,
  ⟨(some 5), .mov, [.t 11], none⟩]
def c_cert_Write_r1 : List COper := a_cert_Write_r1
instance : Reg c_cert_Write_r1 a_cert_Write_r1 3 := ⟨rfl, rfl⟩
@[simp] def a_cert_Write_r2 : List COper := [
  ⟨(some 12), .mov, [.t 5], none⟩,
  ⟨(some 13), .faddr 0 1 false, [.t 3], none⟩,
  ⟨(some 14), .load false 1, [.t 13], none⟩,
  ⟨(some 15), .faddr 1 1 false, [.t 3], none⟩,
  ⟨(some 16), .load false 1, [.t 15], none⟩,
  ⟨(some 17), .len, [.t 16], none⟩,
  ⟨(some 18), .bslice 1 2 (.v (.int .i64 0)) [0, 1], [.t 14, .t 17], none⟩,
  ⟨(some 19), .call fn_code_Writer_Num, [.t 12, .t 18], none⟩]
def c_cert_Write_r2 : List COper := a_cert_Write_r2
instance : Reg c_cert_Write_r2 a_cert_Write_r2 8 := ⟨rfl, rfl⟩
@[simp] def a_cert_Write_r3 : List COper := [
  ⟨(some 20), .faddr 1 1 false, [.t 3], none⟩,
  ⟨(some 21), .load false 1, [.t 20], none⟩,
  ⟨(some 22), .len, [.t 21], none⟩,
  ⟨(some 23), .mov, [.c (.int .i64 0)], none⟩]
def c_cert_Write_r3 : List COper := a_cert_Write_r3
instance : Reg c_cert_Write_r3 a_cert_Write_r3 4 := ⟨rfl, rfl⟩
@[simp] def a_cert_Write_r4 : List COper := [
  ⟨(some 24), .bin .lss, [.t 23, .t 22], none⟩]
def c_cert_Write_r4 : List COper := a_cert_Write_r4
instance : Reg c_cert_Write_r4 a_cert_Write_r4 1 := ⟨rfl, rfl⟩
@[simp] def a_cert_Write_r5 : List COper := [
  ⟨(some 25), .iaddr 41, [.t 21, .t 23], none⟩,
  ⟨(some 26), .load true 41, [.t 25], none⟩,
  ⟨(some 7), .alloc (.node [.v (.int .i64 0), .v (.int .i64 0), .v (.int .i64 0), .v (.int .i64 0), .arr 1 (rep 32 (.v (.int .u8 0))), .v (.int .i64 0), .node [.v (.int .i64 0), .node [.v (.slice none 0 0), .v (.slice none 0 0)], .v (.slice none 0 0)]]), [], none⟩,
  ⟨none, .store true 41, [.t 7, .t 26], none⟩]
def c_cert_Write_r5 : List COper := a_cert_Write_r5
instance : Reg c_cert_Write_r5 a_cert_Write_r5 4 := ⟨rfl, rfl⟩
@[simp] def a_cert_Write_r6 : List COper := [
  ⟨(some 27), .mov, [.t 5], none⟩,
  ⟨(some 28), .load true 41, [.t 7], none⟩,
  ⟨(some 29), .call fn_vote_Write, [.t 27, .t 28], none⟩,
  ⟨(some 30), .not, [.t 29], none⟩]
def c_cert_Write_r6 : List COper := a_cert_Write_r6
instance : Reg c_cert_Write_r6 a_cert_Write_r6 4 := ⟨rfl, rfl⟩
@[simp] def a_cert_Write_r7 : List COper := [
  ⟨(some 4), .mov, [.c (.bool false)], none⟩]
def c_cert_Write_r7 : List COper := a_cert_Write_r7
instance : Reg c_cert_Write_r7 a_cert_Write_r7 1 := ⟨rfl, rfl⟩
@[simp] def a_cert_Write_r8 : List COper := [
  ⟨(some 31), .bin .add, [.t 23, .c (.int .i64 1)], none⟩,
  ⟨(some 23), .mov, [.t 31], none⟩]
def c_cert_Write_r8 : List COper := a_cert_Write_r8
instance : Reg c_cert_Write_r8 a_cert_Write_r8 2 := ⟨rfl, rfl⟩
@[simp] def a_cert_Write_r9 : List COper := [
  ⟨(some 32), .mov, [.t 0], none⟩,
  ⟨(some 33), .faddr 0 1 false, [.t 3], none⟩,
  ⟨(some 34), .load false 1, [.t 33], none⟩,
  ⟨(some 35), .faddr 1 1 false, [.t 3], none⟩,
  ⟨(some 36), .load false 1, [.t 35], none⟩,
  ⟨(some 37), .len, [.t 36], none⟩,
  ⟨(some 38), .bslice 1 2 (.v (.int .i64 0)) [0, 1], [.t 34, .t 37], none⟩,
  ⟨(some 39), .call fn_code_Writer_Num, [.t 32, .t 38], none⟩]
def c_cert_Write_r9 : List COper := a_cert_Write_r9
instance : Reg c_cert_Write_r9 a_cert_Write_r9 8 := ⟨rfl, rfl⟩
@[simp] def a_cert_Write_r10 : List COper := [
  ⟨(some 40), .faddr 1 1 false, [.t 3], none⟩,
  ⟨(some 41), .load false 1, [.t 40], none⟩,
  ⟨(some 42), .len, [.t 41], none⟩,
  ⟨(some 43), .mov, [.c (.int .i64 0)], none⟩]
def c_cert_Write_r10 : List COper := a_cert_Write_r10
instance : Reg c_cert_Write_r10 a_cert_Write_r10 4 := ⟨rfl, rfl⟩
@[simp] def a_cert_Write_r11 : List COper := [
  ⟨(some 44), .bin .lss, [.t 43, .t 42], none⟩]
def c_cert_Write_r11 : List COper := a_cert_Write_r11
instance : Reg c_cert_Write_r11 a_cert_Write_r11 1 := ⟨rfl, rfl⟩
@[simp] def a_cert_Write_r12 : List COper := [
  ⟨(some 45), .iaddr 41, [.t 41, .t 43], none⟩,
  ⟨(some 46), .load true 41, [.t 45], none⟩,
  ⟨(some 9), .alloc (.node [.v (.int .i64 0), .v (.int .i64 0), .v (.int .i64 0), .v (.int .i64 0), .arr 1 (rep 32 (.v (.int .u8 0))), .v (.int .i64 0), .node [.v (.int .i64 0), .node [.v (.slice none 0 0), .v (.slice none 0 0)], .v (.slice none 0 0)]]), [], none⟩,
  ⟨none, .store true 41, [.t 9, .t 46], none⟩]
def c_cert_Write_r12 : List COper := a_cert_Write_r12
instance : Reg c_cert_Write_r12 a_cert_Write_r12 4 := ⟨rfl, rfl⟩
@[simp] def a_cert_Write_r13 : List COper := [
  ⟨(some 47), .mov, [.t 0], none⟩,
  ⟨(some 48), .load true 41, [.t 9], none⟩,
  ⟨(some 49), .call fn_vote_Write, [.t 47, .t 48], none⟩]
def c_cert_Write_r13 : List COper := a_cert_Write_r13
instance : Reg c_cert_Write_r13 a_cert_Write_r13 3 := ⟨rfl, rfl⟩
@[simp] def a_cert_Write_r14 : List COper := [
  ⟨(some 50), .bin .add, [.t 43, .c (.int .i64 1)], none⟩,
  ⟨(some 43), .mov, [.t 50], none⟩]
def c_cert_Write_r14 : List COper := a_cert_Write_r14
instance : Reg c_cert_Write_r14 a_cert_Write_r14 2 := ⟨rfl, rfl⟩
@[simp] def a_cert_Write_r15 : List COper := [
  ⟨(some 4), .mov, [.c (.bool true)], none⟩]
def c_cert_Write_r15 : List COper := a_cert_Write_r15
instance : Reg c_cert_Write_r15 a_cert_Write_r15 1 := ⟨rfl, rfl⟩
@[simp] def c_cert_Write : CCode :=
  .seq (.region c_cert_Write_r0 none [0, 3]) (.seq (.region c_cert_Write_r1 none [0, 3, 5]) (.seq (.region c_cert_Write_r2 none [0, 3, 5]) (.seq (.seq (.region c_cert_Write_r3 none [0, 3, 5, 21, 22, 23]) (.block 0 (.loop (.seq (.region c_cert_Write_r4 none [0, 3, 5, 21, 22, 23, 24]) (.seq (.cond (.t 24) (.skip) (.exit 0)) (.seq (.block 1 (.seq (.region c_cert_Write_r5 none [0, 3, 5, 7, 21, 22, 23]) (.seq (.region c_cert_Write_r6 none [0, 3, 5, 21, 22, 23, 30]) (.cond (.t 30) (.seq (.region c_cert_Write_r7 none [4]) (.ret)) (.skip))))) (.region c_cert_Write_r8 none [0, 3, 5, 21, 22, 23]))))))) (.seq (.region c_cert_Write_r9 none [0, 3]) (.seq (.seq (.region c_cert_Write_r10 none [0, 41, 42, 43]) (.block 2 (.loop (.seq (.region c_cert_Write_r11 none [0, 41, 42, 43, 44]) (.seq (.cond (.t 44) (.skip) (.exit 2)) (.seq (.block 3 (.seq (.region c_cert_Write_r12 none [0, 9, 41, 42, 43]) (.region c_cert_Write_r13 none [0, 41, 42, 43]))) (.region c_cert_Write_r14 none [0, 41, 42, 43]))))))) (.seq (.region c_cert_Write_r15 none [4]) (.ret)))))))
@[simp] def R_cert_Write : List CRes := [.tmp 4]
theorem k_cert_Write : chkFn Try.prog fn_cert_Write c_cert_Write R_cert_Write 2 = true := by kernel_rfl
/-! wapentake/mail.list -/
@[simp] def a_mail_list_r0 : List COper := [
  ⟨(some 3), .box, [.t 1], none⟩,
  ⟨(some 4), .mov, [.c (.bool false)], none⟩]
def c_mail_list_r0 : List COper := a_mail_list_r0
instance : Reg c_mail_list_r0 a_mail_list_r0 2 := ⟨rfl, rfl⟩
@[simp] def a_mail_list_r1 : List COper := [
  ⟨(some 5), .mov, [.c (.bool true)], none⟩]
def c_mail_list_r1 : List COper := a_mail_list_r1
instance : Reg c_mail_list_r1 a_mail_list_r1 1 := ⟨rfl, rfl⟩
@[simp] def a_mail_list_r2 : List COper := [
  ⟨(some 10), .faddr 0 1 false, [.t 3], none⟩,
  ⟨(some 11), .load false 1, [.t 10], none⟩]
def c_mail_list_r2 : List COper := a_mail_list_r2
instance : Reg c_mail_list_r2 a_mail_list_r2 2 := ⟨rfl, rfl⟩
@[simp] def a_mail_list_r3 : List COper := [
  ⟨(some 13), .bin .eql, [.t 11, .c (.int .i64 8)], none⟩,
  ⟨(some 12), .mov, [.t 13], none⟩]
def c_mail_list_r3 : List COper := a_mail_list_r3
instance : Reg c_mail_list_r3 a_mail_list_r3 2 := ⟨rfl, rfl⟩
@[simp] def a_mail_list_r4 : List COper := [
  ⟨(some 14), .mov, [.t 0], none⟩,
  ⟨(some 15), .faddr 298 1 false, [.t 3], none⟩,
  ⟨(some 16), .load false 1, [.t 15], none⟩,
  ⟨(some 17), .len, [.t 16], none⟩,
  ⟨(some 18), .bslice 1 1 (.v (.int .i64 0)) [0], [.t 17], none⟩,
  ⟨(some 19), .call fn_code_Writer_Num, [.t 14, .t 18], none⟩]
def c_mail_list_r4 : List COper := a_mail_list_r4
instance : Reg c_mail_list_r4 a_mail_list_r4 6 := ⟨rfl, rfl⟩
@[simp] def a_mail_list_r5 : List COper := [
  ⟨(some 20), .faddr 298 1 false, [.t 3], none⟩,
  ⟨(some 21), .load false 1, [.t 20], none⟩,
  ⟨(some 22), .len, [.t 21], none⟩,
  ⟨(some 23), .mov, [.c (.int .i64 0)], none⟩]
def c_mail_list_r5 : List COper := a_mail_list_r5
instance : Reg c_mail_list_r5 a_mail_list_r5 4 := ⟨rfl, rfl⟩
@[simp] def a_mail_list_r6 : List COper := [
  ⟨(some 24), .bin .lss, [.t 23, .t 22], none⟩]
def c_mail_list_r6 : List COper := a_mail_list_r6
instance : Reg c_mail_list_r6 a_mail_list_r6 1 := ⟨rfl, rfl⟩
@[simp] def a_mail_list_r7 : List COper := [
  ⟨(some 25), .iaddr 103, [.t 21, .t 23], none⟩,
  ⟨(some 26), .load true 103, [.t 25], none⟩,
  ⟨(some 7), .alloc (.node [.node [.v (.int .i64 0), .v (.int .i64 0), .arr 1 (rep 32 (.v (.int .u8 0))), .arr 1 (rep 32 (.v (.int .u8 0))), .arr 1 (rep 32 (.v (.int .u8 0))), .v (.slice none 0 0)], .node [.v (.int .i64 0), .v (.slice none 0 0)], .node [.v (.int .i64 0), .v (.slice none 0 0)]]), [], none⟩,
  ⟨none, .store true 103, [.t 7, .t 26], none⟩]
def c_mail_list_r7 : List COper := a_mail_list_r7
instance : Reg c_mail_list_r7 a_mail_list_r7 4 := ⟨rfl, rfl⟩
@[simp] def a_mail_list_r8 : List COper := [
  ⟨(some 27), .mov, [.t 0], none⟩,
  ⟨(some 28), .load true 103, [.t 7], none⟩,
  ⟨(some 29), .call fn_chain_Write, [.t 27, .t 28], none⟩,
  ⟨(some 30), .mov, [.t 29], none⟩,
  ⟨(some 31), .mov, [.t 5], (some (30, true))⟩,
  ⟨(some 32), .pick, [.t 30, .t 31, .c (.bool false)], none⟩,
  ⟨(some 5), .mov, [.t 32], none⟩]
def c_mail_list_r8 : List COper := a_mail_list_r8
instance : Reg c_mail_list_r8 a_mail_list_r8 7 := ⟨rfl, rfl⟩
@[simp] def a_mail_list_r9 : List COper := [
  ⟨(some 33), .bin .add, [.t 23, .c (.int .i64 1)], none⟩,
  ⟨(some 23), .mov, [.t 33], none⟩]
def c_mail_list_r9 : List COper := a_mail_list_r9
instance : Reg c_mail_list_r9 a_mail_list_r9 2 := ⟨rfl, rfl⟩
@[simp] def a_mail_list_r10 : List COper := [
  ⟨(some 35), .bin .eql, [.t 11, .c (.int .i64 9)], none⟩,
  ⟨(some 34), .mov, [.t 35], none⟩]
def c_mail_list_r10 : List COper := a_mail_list_r10
instance : Reg c_mail_list_r10 a_mail_list_r10 2 := ⟨rfl, rfl⟩
@[simp] def a_mail_list_r11 : List COper := [
  ⟨(some 36), .mov, [.t 0], none⟩,
  ⟨(some 37), .faddr 299 1 false, [.t 3], none⟩,
  ⟨(some 38), .load false 1, [.t 37], none⟩,
  ⟨(some 39), .len, [.t 38], none⟩,
  ⟨(some 40), .bslice 1 1 (.v (.int .i64 0)) [0], [.t 39], none⟩,
  ⟨(some 41), .call fn_code_Writer_Num, [.t 36, .t 40], none⟩]
def c_mail_list_r11 : List COper := a_mail_list_r11
instance : Reg c_mail_list_r11 a_mail_list_r11 6 := ⟨rfl, rfl⟩
@[simp] def a_mail_list_r12 : List COper := [
  ⟨(some 42), .faddr 299 1 false, [.t 3], none⟩,
  ⟨(some 43), .load false 1, [.t 42], none⟩,
  ⟨(some 44), .len, [.t 43], none⟩,
  ⟨(some 45), .mov, [.c (.int .i64 0)], none⟩]
def c_mail_list_r12 : List COper := a_mail_list_r12
instance : Reg c_mail_list_r12 a_mail_list_r12 4 := ⟨rfl, rfl⟩
@[simp] def a_mail_list_r13 : List COper := [
  ⟨(some 46), .bin .lss, [.t 45, .t 44], none⟩]
def c_mail_list_r13 : List COper := a_mail_list_r13
instance : Reg c_mail_list_r13 a_mail_list_r13 1 := ⟨rfl, rfl⟩
@[simp] def a_mail_list_r14 : List COper := [
  ⟨(some 47), .iaddr 36, [.t 43, .t 45], none⟩,
  ⟨(some 48), .load true 36, [.t 47], none⟩,
  ⟨(some 9), .alloc (.node [.v (.int .i64 0), .v (.int .i64 0), .arr 1 (rep 32 (.v (.int .u8 0))), .v (.string (mkS [])), .v (.slice none 0 0)]), [], none⟩,
  ⟨none, .store true 36, [.t 9, .t 48], none⟩]
def c_mail_list_r14 : List COper := a_mail_list_r14
instance : Reg c_mail_list_r14 a_mail_list_r14 4 := ⟨rfl, rfl⟩
@[simp] def a_mail_list_r15 : List COper := [
  ⟨(some 49), .mov, [.t 0], none⟩,
  ⟨(some 50), .faddr 0 1 false, [.t 9], none⟩,
  ⟨(some 51), .load false 1, [.t 50], none⟩,
  ⟨(some 52), .faddr 1 1 false, [.t 9], none⟩,
  ⟨(some 53), .load false 1, [.t 52], none⟩,
  ⟨(some 54), .faddr 35 1 false, [.t 9], none⟩,
  ⟨(some 55), .load false 1, [.t 54], none⟩,
  ⟨(some 56), .len, [.t 55], none⟩,
  ⟨(some 57), .bslice 1 3 (.v (.int .i64 0)) [0, 1, 2], [.t 51, .t 53, .t 56], none⟩,
  ⟨(some 58), .call fn_code_Writer_Num, [.t 49, .t 57], none⟩]
def c_mail_list_r15 : List COper := a_mail_list_r15
instance : Reg c_mail_list_r15 a_mail_list_r15 10 := ⟨rfl, rfl⟩
@[simp] def a_mail_list_r16 : List COper := [
  ⟨(some 59), .mov, [.t 0], none⟩,
  ⟨(some 60), .faddr 2 32 true, [.t 9], none⟩,
  ⟨(some 61), .load true 32, [.t 60], none⟩,
  ⟨(some 62), .bslice 32 1 (.arr 1 (rep 32 (.v (.int .u8 0)))) [0], [.t 61], none⟩,
  ⟨(some 63), .call fn_code_Writer_Digest, [.t 59, .t 62], none⟩]
def c_mail_list_r16 : List COper := a_mail_list_r16
instance : Reg c_mail_list_r16 a_mail_list_r16 5 := ⟨rfl, rfl⟩
@[simp] def a_mail_list_r17 : List COper := [
  ⟨(some 64), .mov, [.t 0], none⟩,
  ⟨(some 65), .faddr 35 1 false, [.t 9], none⟩,
  ⟨(some 66), .load false 1, [.t 65], none⟩,
  ⟨(some 67), .call fn_code_Writer_Digest, [.t 64, .t 66], none⟩]
def c_mail_list_r17 : List COper := a_mail_list_r17
instance : Reg c_mail_list_r17 a_mail_list_r17 4 := ⟨rfl, rfl⟩
@[simp] def a_mail_list_r18 : List COper := [
  ⟨(some 68), .mov, [.t 0], none⟩,
  ⟨(some 69), .faddr 34 1 false, [.t 9], none⟩,
  ⟨(some 70), .load false 1, [.t 69], none⟩,
  ⟨(some 71), .bslice 1 1 (.v (.string (mkS []))) [0], [.t 70], none⟩,
  ⟨(some 72), .call fn_code_Writer_Text, [.t 68, .t 71], none⟩]
def c_mail_list_r18 : List COper := a_mail_list_r18
instance : Reg c_mail_list_r18 a_mail_list_r18 5 := ⟨rfl, rfl⟩
@[simp] def a_mail_list_r19 : List COper := [
  ⟨(some 73), .bin .add, [.t 45, .c (.int .i64 1)], none⟩,
  ⟨(some 45), .mov, [.t 73], none⟩]
def c_mail_list_r19 : List COper := a_mail_list_r19
instance : Reg c_mail_list_r19 a_mail_list_r19 2 := ⟨rfl, rfl⟩
@[simp] def a_mail_list_r20 : List COper := [
  ⟨(some 74), .mov, [.t 5], none⟩,
  ⟨(some 4), .mov, [.t 74], none⟩]
def c_mail_list_r20 : List COper := a_mail_list_r20
instance : Reg c_mail_list_r20 a_mail_list_r20 2 := ⟨rfl, rfl⟩
@[simp] def c_mail_list : CCode :=
  .seq (.region c_mail_list_r0 none [0, 3]) (.seq (.region c_mail_list_r1 none [0, 3, 5]) (.seq (.seq (.region c_mail_list_r2 none [0, 3, 5, 11]) (.block 0 (.seq (.region c_mail_list_r3 none [0, 3, 5, 11, 12]) (.cond (.t 12) (.seq (.region c_mail_list_r4 none [0, 3, 5]) (.seq (.region c_mail_list_r5 none [0, 5, 21, 22, 23]) (.block 1 (.loop (.seq (.region c_mail_list_r6 none [0, 5, 21, 22, 23, 24]) (.seq (.cond (.t 24) (.skip) (.exit 1)) (.seq (.block 2 (.seq (.region c_mail_list_r7 none [0, 5, 7, 21, 22, 23]) (.region c_mail_list_r8 none [0, 5, 21, 22, 23]))) (.region c_mail_list_r9 none [0, 5, 21, 22, 23])))))))) (.seq (.region c_mail_list_r10 none [0, 3, 5, 34]) (.cond (.t 34) (.seq (.region c_mail_list_r11 none [0, 3, 5]) (.seq (.region c_mail_list_r12 none [0, 5, 43, 44, 45]) (.block 3 (.loop (.seq (.region c_mail_list_r13 none [0, 5, 43, 44, 45, 46]) (.seq (.cond (.t 46) (.skip) (.exit 3)) (.seq (.block 4 (.seq (.region c_mail_list_r14 none [0, 5, 9, 43, 44, 45]) (.seq (.region c_mail_list_r15 none [0, 5, 9, 43, 44, 45]) (.seq (.region c_mail_list_r16 none [0, 5, 9, 43, 44, 45]) (.seq (.region c_mail_list_r17 none [0, 5, 9, 43, 44, 45]) (.region c_mail_list_r18 none [0, 5, 43, 44, 45])))))) (.region c_mail_list_r19 none [0, 5, 43, 44, 45])))))))) (.skip))))))) (.seq (.region c_mail_list_r20 none [4]) (.ret))))
@[simp] def R_mail_list : List CRes := [.tmp 4]
theorem k_mail_list : chkFn Try.prog fn_mail_list c_mail_list R_mail_list 2 = true := by kernel_rfl
/-! (*wapentake/code.Reader).take -/
@[simp] def a_code_Reader_take_r0 : List COper := [
  ⟨(some 4), .mov, [.c (.slice none 0 0)], none⟩]
def c_code_Reader_take_r0 : List COper := a_code_Reader_take_r0
instance : Reg c_code_Reader_take_r0 a_code_Reader_take_r0 1 := ⟨rfl, rfl⟩
@[simp] def a_code_Reader_take_r1 : List COper := [
  ⟨(some 6), .mov, [.t 0], none⟩,
  ⟨(some 7), .eqp false, [.t 6, .c (.pointer none)], none⟩]
def c_code_Reader_take_r1 : List COper := a_code_Reader_take_r1
instance : Reg c_code_Reader_take_r1 a_code_Reader_take_r1 2 := ⟨rfl, rfl⟩
@[simp] def a_code_Reader_take_r2 : List COper := [
  ⟨(some 4), .mov, [.c (.slice none 0 0)], none⟩]
def c_code_Reader_take_r2 : List COper := a_code_Reader_take_r2
instance : Reg c_code_Reader_take_r2 a_code_Reader_take_r2 1 := ⟨rfl, rfl⟩
@[simp] def a_code_Reader_take_r3 : List COper := [
  ⟨(some 8), .mov, [.t 0], none⟩,
  ⟨(some 9), .nilc, [.t 8], none⟩,
  ⟨(some 10), .faddr 1 1 false, [.t 9], none⟩,
  ⟨(some 11), .load false 1, [.t 10], none⟩,
  ⟨(some 12), .mov, [.t 11], none⟩,
  ⟨(some 13), .mov, [.t 1], (some (12, false))⟩,
  ⟨(some 14), .bin .lss, [.t 13, .c (.int .i64 0)], (some (12, false))⟩,
  ⟨(some 15), .pick, [.t 12, .c (.bool true), .t 14], none⟩,
  ⟨(some 16), .mov, [.t 15], none⟩,
  ⟨(some 17), .mov, [.t 1], (some (16, false))⟩,
  ⟨(some 18), .mov, [.t 0], (some (16, false))⟩,
  ⟨(some 19), .nilc, [.t 18], (some (16, false))⟩,
  ⟨(some 20), .faddr 0 1 false, [.t 19], (some (16, false))⟩,
  ⟨(some 21), .load false 1, [.t 20], (some (16, false))⟩,
  ⟨(some 22), .len, [.t 21], (some (16, false))⟩,
  ⟨(some 23), .bin .gtr, [.t 17, .t 22], (some (16, false))⟩,
  ⟨(some 24), .pick, [.t 16, .c (.bool true), .t 23], none⟩]
def c_code_Reader_take_r3 : List COper := a_code_Reader_take_r3
instance : Reg c_code_Reader_take_r3 a_code_Reader_take_r3 17 := ⟨rfl, rfl⟩
@[simp] def a_code_Reader_take_r4 : List COper := [
  ⟨(some 25), .mov, [.t 0], none⟩,
  ⟨(some 26), .nilc, [.t 25], none⟩,
  ⟨(some 27), .faddr 0 1 false, [.t 26], none⟩,
  ⟨(some 28), .load false 1, [.t 27], none⟩,
  ⟨(some 29), .mov, [.t 1], none⟩,
  ⟨(some 30), .slice 1 false true, [.t 28, .t 29], none⟩,
  ⟨(some 5), .mov, [.t 30], none⟩]
def c_code_Reader_take_r4 : List COper := a_code_Reader_take_r4
instance : Reg c_code_Reader_take_r4 a_code_Reader_take_r4 7 := ⟨rfl, rfl⟩
@[simp] def a_code_Reader_take_r5 : List COper := [
  ⟨(some 31), .mov, [.t 0], none⟩,
  ⟨(some 32), .mov, [.t 0], none⟩,
  ⟨(some 33), .nilc, [.t 32], none⟩,
  ⟨(some 34), .faddr 0 1 false, [.t 33], none⟩,
  ⟨(some 35), .load false 1, [.t 34], none⟩,
  ⟨(some 36), .mov, [.t 1], none⟩,
  ⟨(some 37), .slice 1 true false, [.t 35, .t 36], none⟩,
  ⟨(some 38), .nilc, [.t 31], none⟩,
  ⟨(some 39), .faddr 0 1 false, [.t 38], none⟩,
  ⟨none, .store false 1, [.t 39, .t 37], none⟩]
def c_code_Reader_take_r5 : List COper := a_code_Reader_take_r5
instance : Reg c_code_Reader_take_r5 a_code_Reader_take_r5 10 := ⟨rfl, rfl⟩
@[simp] def a_code_Reader_take_r6 : List COper := [
  ⟨(some 40), .mov, [.t 5], none⟩,
  ⟨(some 4), .mov, [.t 40], none⟩]
def c_code_Reader_take_r6 : List COper := a_code_Reader_take_r6
instance : Reg c_code_Reader_take_r6 a_code_Reader_take_r6 2 := ⟨rfl, rfl⟩
@[simp] def a_code_Reader_take_r7 : List COper := [
  ⟨(some 41), .mov, [.t 0], none⟩,
  ⟨(some 42), .mov, [.t 0], none⟩,
  ⟨(some 43), .nilc, [.t 41], none⟩,
  ⟨(some 44), .faddr 1 1 false, [.t 43], none⟩,
  ⟨none, .store false 1, [.t 44, .c (.bool true)], none⟩,
  ⟨(some 45), .nilc, [.t 42], none⟩,
  ⟨(some 46), .faddr 0 1 false, [.t 45], none⟩,
  ⟨none, .store false 1, [.t 46, .c (.slice none 0 0)], none⟩]
def c_code_Reader_take_r7 : List COper := a_code_Reader_take_r7
instance : Reg c_code_Reader_take_r7 a_code_Reader_take_r7 8 := ⟨rfl, rfl⟩
@[simp] def a_code_Reader_take_r8 : List COper := [
  ⟨(some 4), .mov, [.c (.slice none 0 0)], none⟩]
def c_code_Reader_take_r8 : List COper := a_code_Reader_take_r8
instance : Reg c_code_Reader_take_r8 a_code_Reader_take_r8 1 := ⟨rfl, rfl⟩
@[simp] def c_code_Reader_take : CCode :=
  .seq (.region c_code_Reader_take_r0 none [0, 1]) (.scope 0 (.seq (.seq (.region c_code_Reader_take_r1 none [0, 1, 7]) (.cond (.t 7) (.seq (.region c_code_Reader_take_r2 none [4]) (.ret)) (.skip))) (.seq (.seq (.region c_code_Reader_take_r3 none [0, 1, 24]) (.cond (.t 24) (.goto 0) (.skip))) (.seq (.seq (.region c_code_Reader_take_r4 none [0, 1, 5]) (.seq (.region c_code_Reader_take_r5 none [5]) (.seq (.region c_code_Reader_take_r6 none [4]) (.ret)))) (.seq (.label 0) (.seq (.region c_code_Reader_take_r7 none []) (.seq (.region c_code_Reader_take_r8 none [4]) (.ret))))))) (.seq (.skip) (.seq (.region c_code_Reader_take_r7 none []) (.seq (.region c_code_Reader_take_r8 none [4]) (.ret)))))
@[simp] def R_code_Reader_take : List CRes := [.tmp 4]
theorem k_code_Reader_take : chkFn Try.prog fn_code_Reader_take c_code_Reader_take R_code_Reader_take 2 = true := by kernel_rfl
/-! wapentake/wapentakeref04.Same -/
@[simp] def a_r04_Same_r0 : List COper := [
  ⟨(some 2), .box, [.t 0], none⟩,
  ⟨(some 3), .box, [.t 1], none⟩,
  ⟨(some 4), .mov, [.c (.bool false)], none⟩]
def c_r04_Same_r0 : List COper := a_r04_Same_r0
instance : Reg c_r04_Same_r0 a_r04_Same_r0 3 := ⟨rfl, rfl⟩
@[simp] def a_r04_Same_r1 : List COper := [
  ⟨(some 5), .faddr 0 1 false, [.t 2], none⟩,
  ⟨(some 6), .load false 1, [.t 5], none⟩,
  ⟨(some 7), .faddr 0 1 false, [.t 3], none⟩,
  ⟨(some 8), .load false 1, [.t 7], none⟩,
  ⟨(some 9), .call fn_r03_Same, [.t 6, .t 8], none⟩,
  ⟨(some 10), .mov, [.t 9], none⟩,
  ⟨(some 11), .faddr 1 1 false, [.t 2], (some (10, true))⟩,
  ⟨(some 12), .load false 1, [.t 11], (some (10, true))⟩,
  ⟨(some 13), .faddr 1 1 false, [.t 3], (some (10, true))⟩,
  ⟨(some 14), .load false 1, [.t 13], (some (10, true))⟩,
  ⟨(some 15), .call fn_r03_Same, [.t 12, .t 14], (some (10, true))⟩,
  ⟨(some 16), .pick, [.t 10, .t 15, .c (.bool false)], none⟩,
  ⟨(some 4), .mov, [.t 16], none⟩]
def c_r04_Same_r1 : List COper := a_r04_Same_r1
instance : Reg c_r04_Same_r1 a_r04_Same_r1 13 := ⟨rfl, rfl⟩
@[simp] def c_r04_Same : CCode :=
  .seq (.region c_r04_Same_r0 none [2, 3]) (.seq (.region c_r04_Same_r1 none [4]) (.ret))
@[simp] def R_r04_Same : List CRes := [.tmp 4]
theorem k_r04_Same : chkFn Try.prog fn_r04_Same c_r04_Same R_r04_Same 2 = true := by kernel_rfl
/-! wapentake/keys.Write -/
@[simp] def a_keys_Write_r0 : List COper := [
  ⟨(some 3), .box, [.t 1], none⟩,
  ⟨(some 4), .mov, [.c (.bool false)], none⟩]
def c_keys_Write_r0 : List COper := a_keys_Write_r0
instance : Reg c_keys_Write_r0 a_keys_Write_r0 2 := ⟨rfl, rfl⟩
@[simp] def a_keys_Write_r1 : List COper := [
  ⟨(some 5), .faddr 1 2 true, [.t 3], none⟩,
  ⟨(some 6), .faddr 0 1 false, [.t 5], none⟩,
  ⟨(some 7), .load false 1, [.t 6], none⟩,
  ⟨(some 8), .len, [.t 7], none⟩,
  ⟨(some 9), .bin .neq, [.t 8, .c (.int .i64 32)], none⟩,
  ⟨(some 10), .mov, [.t 9], none⟩,
  ⟨(some 11), .faddr 1 2 true, [.t 3], (some (10, false))⟩,
  ⟨(some 12), .faddr 1 1 false, [.t 11], (some (10, false))⟩,
  ⟨(some 13), .load false 1, [.t 12], (some (10, false))⟩,
  ⟨(some 14), .len, [.t 13], (some (10, false))⟩,
  ⟨(some 15), .bin .neq, [.t 14, .c (.int .i64 32)], (some (10, false))⟩,
  ⟨(some 16), .pick, [.t 10, .c (.bool true), .t 15], none⟩,
  ⟨(some 17), .mov, [.t 16], none⟩,
  ⟨(some 18), .faddr 3 1 false, [.t 3], (some (17, false))⟩,
  ⟨(some 19), .load false 1, [.t 18], (some (17, false))⟩,
  ⟨(some 20), .len, [.t 19], (some (17, false))⟩,
  ⟨(some 21), .bin .gtr, [.t 20, .c (.int .i64 6)], (some (17, false))⟩,
  ⟨(some 22), .pick, [.t 17, .c (.bool true), .t 21], none⟩]
def c_keys_Write_r1 : List COper := a_keys_Write_r1
instance : Reg c_keys_Write_r1 a_keys_Write_r1 18 := ⟨rfl, rfl⟩
@[simp] def a_keys_Write_r2 : List COper := [
  ⟨(some 4), .mov, [.c (.bool false)], none⟩]
def c_keys_Write_r2 : List COper := a_keys_Write_r2
instance : Reg c_keys_Write_r2 a_keys_Write_r2 1 := ⟨rfl, rfl⟩
@[simp] def a_keys_Write_r3 : List COper := [
  ⟨(some 23), .mov, [.t 0], none⟩,
  ⟨(some 24), .faddr 0 1 false, [.t 3], none⟩,
  ⟨(some 25), .load false 1, [.t 24], none⟩,
  ⟨(some 26), .faddr 3 1 false, [.t 3], none⟩,
  ⟨(some 27), .load false 1, [.t 26], none⟩,
  ⟨(some 28), .len, [.t 27], none⟩,
  ⟨(some 29), .bslice 1 2 (.v (.int .i64 0)) [0, 1], [.t 25, .t 28], none⟩,
  ⟨(some 30), .call fn_code_Writer_Num, [.t 23, .t 29], none⟩]
def c_keys_Write_r3 : List COper := a_keys_Write_r3
instance : Reg c_keys_Write_r3 a_keys_Write_r3 8 := ⟨rfl, rfl⟩
@[simp] def a_keys_Write_r4 : List COper := [
  ⟨(some 31), .mov, [.t 0], none⟩,
  ⟨(some 32), .faddr 1 2 true, [.t 3], none⟩,
  ⟨(some 33), .faddr 0 1 false, [.t 32], none⟩,
  ⟨(some 34), .load false 1, [.t 33], none⟩,
  ⟨(some 35), .call fn_code_Writer_Digest, [.t 31, .t 34], none⟩]
def c_keys_Write_r4 : List COper := a_keys_Write_r4
instance : Reg c_keys_Write_r4 a_keys_Write_r4 5 := ⟨rfl, rfl⟩
@[simp] def a_keys_Write_r5 : List COper := [
  ⟨(some 36), .mov, [.t 0], none⟩,
  ⟨(some 37), .faddr 1 2 true, [.t 3], none⟩,
  ⟨(some 38), .faddr 1 1 false, [.t 37], none⟩,
  ⟨(some 39), .load false 1, [.t 38], none⟩,
  ⟨(some 40), .call fn_code_Writer_Digest, [.t 36, .t 39], none⟩]
def c_keys_Write_r5 : List COper := a_keys_Write_r5
instance : Reg c_keys_Write_r5 a_keys_Write_r5 5 := ⟨rfl, rfl⟩
@[simp] def a_keys_Write_r6 : List COper := [
  ⟨(some 41), .mov, [.t 0], none⟩,
  ⟨(some 42), .faddr 3 1 false, [.t 3], none⟩,
  ⟨(some 43), .load false 1, [.t 42], none⟩,
  ⟨(some 44), .call fn_code_Writer_Digest, [.t 41, .t 43], none⟩]
def c_keys_Write_r6 : List COper := a_keys_Write_r6
instance : Reg c_keys_Write_r6 a_keys_Write_r6 4 := ⟨rfl, rfl⟩
@[simp] def a_keys_Write_r7 : List COper := [
  ⟨(some 4), .mov, [.c (.bool true)], none⟩]
def c_keys_Write_r7 : List COper := a_keys_Write_r7
instance : Reg c_keys_Write_r7 a_keys_Write_r7 1 := ⟨rfl, rfl⟩
@[simp] def c_keys_Write : CCode :=
  .seq (.region c_keys_Write_r0 none [0, 3]) (.seq (.seq (.region c_keys_Write_r1 none [0, 3, 22]) (.cond (.t 22) (.seq (.region c_keys_Write_r2 none [4]) (.ret)) (.skip))) (.seq (.region c_keys_Write_r3 none [0, 3]) (.seq (.region c_keys_Write_r4 none [0, 3]) (.seq (.region c_keys_Write_r5 none [0, 3]) (.seq (.region c_keys_Write_r6 none []) (.seq (.region c_keys_Write_r7 none [4]) (.ret)))))))
@[simp] def R_keys_Write : List CRes := [.tmp 4]
theorem k_keys_Write : chkFn Try.prog fn_keys_Write c_keys_Write R_keys_Write 2 = true := by kernel_rfl
/-! wapentake/vote.plan -/
@[simp] def a_vote_plan_r0 : List COper := [
  ⟨(some 3), .box, [.t 1], none⟩]
def c_vote_plan_r0 : List COper := a_vote_plan_r0
instance : Reg c_vote_plan_r0 a_vote_plan_r0 1 := ⟨rfl, rfl⟩
@[simp] def a_vote_plan_r1 : List COper := [
  ⟨(some 4), .mov, [.t 0], none⟩,
  ⟨(some 5), .faddr 0 1 false, [.t 3], none⟩,
  ⟨(some 6), .load false 1, [.t 5], none⟩,
  ⟨(some 7), .faddr 1 1 false, [.t 3], none⟩,
  ⟨(some 8), .load false 1, [.t 7], none⟩,
  ⟨(some 9), .faddr 2 1 false, [.t 3], none⟩,
  ⟨(some 10), .load false 1, [.t 9], none⟩,
  ⟨(some 11), .faddr 3 1 false, [.t 3], none⟩,
  ⟨(some 12), .load false 1, [.t 11], none⟩,
  ⟨(some 13), .faddr 103 1 false, [.t 3], none⟩,
  ⟨(some 14), .load false 1, [.t 13], none⟩,
  ⟨(some 15), .bslice 1 5 (.v (.int .i64 0)) [0, 1, 2, 3, 4], [.t 6, .t 8, .t 10, .t 12, .t 14], none⟩,
  ⟨(some 16), .call fn_code_Writer_Num, [.t 4, .t 15], none⟩]
def c_vote_plan_r1 : List COper := a_vote_plan_r1
instance : Reg c_vote_plan_r1 a_vote_plan_r1 13 := ⟨rfl, rfl⟩
@[simp] def a_vote_plan_r2 : List COper := [
  ⟨(some 17), .mov, [.t 0], none⟩,
  ⟨(some 18), .faddr 4 99 true, [.t 3], none⟩,
  ⟨(some 19), .load true 99, [.t 18], none⟩,
  ⟨(some 20), .call fn_block_Write, [.t 17, .t 19], none⟩]
def c_vote_plan_r2 : List COper := a_vote_plan_r2
instance : Reg c_vote_plan_r2 a_vote_plan_r2 4 := ⟨rfl, rfl⟩
@[simp] def c_vote_plan : CCode :=
  .seq (.region c_vote_plan_r0 none [0, 3]) (.seq (.region c_vote_plan_r1 none [0, 3]) (.region c_vote_plan_r2 none []))
@[simp] def R_vote_plan : List CRes := []
theorem k_vote_plan : chkFn Try.prog fn_vote_plan c_vote_plan R_vote_plan 2 = true := by kernel_rfl
/-! wapentake/vote.head -/
@[simp] def a_vote_head_r0 : List COper := [
  ⟨(some 3), .box, [.t 1], none⟩]
def c_vote_head_r0 : List COper := a_vote_head_r0
instance : Reg c_vote_head_r0 a_vote_head_r0 1 := ⟨rfl, rfl⟩
@[simp] def a_vote_head_r1 : List COper := [
  ⟨(some 4), .mov, [.t 0], none⟩,
  ⟨(some 5), .faddr 0 1 false, [.t 3], none⟩,
  ⟨(some 6), .load false 1, [.t 5], none⟩,
  ⟨(some 7), .faddr 1 1 false, [.t 3], none⟩,
  ⟨(some 8), .load false 1, [.t 7], none⟩,
  ⟨(some 9), .faddr 2 1 false, [.t 3], none⟩,
  ⟨(some 10), .load false 1, [.t 9], none⟩,
  ⟨(some 11), .faddr 3 1 false, [.t 3], none⟩,
  ⟨(some 12), .load false 1, [.t 11], none⟩,
  ⟨(some 13), .faddr 36 1 false, [.t 3], none⟩,
  ⟨(some 14), .load false 1, [.t 13], none⟩,
  ⟨(some 15), .bslice 1 5 (.v (.int .i64 0)) [0, 1, 2, 3, 4], [.t 6, .t 8, .t 10, .t 12, .t 14], none⟩,
  ⟨(some 16), .call fn_code_Writer_Num, [.t 4, .t 15], none⟩]
def c_vote_head_r1 : List COper := a_vote_head_r1
instance : Reg c_vote_head_r1 a_vote_head_r1 13 := ⟨rfl, rfl⟩
@[simp] def a_vote_head_r2 : List COper := [
  ⟨(some 17), .mov, [.t 0], none⟩,
  ⟨(some 18), .faddr 4 32 true, [.t 3], none⟩,
  ⟨(some 19), .load true 32, [.t 18], none⟩,
  ⟨(some 20), .bslice 32 1 (.arr 1 (rep 32 (.v (.int .u8 0)))) [0], [.t 19], none⟩,
  ⟨(some 21), .call fn_code_Writer_Digest, [.t 17, .t 20], none⟩]
def c_vote_head_r2 : List COper := a_vote_head_r2
instance : Reg c_vote_head_r2 a_vote_head_r2 5 := ⟨rfl, rfl⟩
@[simp] def c_vote_head : CCode :=
  .seq (.region c_vote_head_r0 none [0, 3]) (.seq (.region c_vote_head_r1 none [0, 3]) (.region c_vote_head_r2 none []))
@[simp] def R_vote_head : List CRes := []
theorem k_vote_head : chkFn Try.prog fn_vote_head c_vote_head R_vote_head 2 = true := by kernel_rfl
/-! (*wapentake/code.Writer).Text -/
@[simp] def a_code_Writer_Text_r0 : List COper := [
  ⟨(some 7), .mov, [.t 0], none⟩,
  ⟨(some 8), .eqp false, [.t 7, .c (.pointer none)], none⟩]
def c_code_Writer_Text_r0 : List COper := a_code_Writer_Text_r0
instance : Reg c_code_Writer_Text_r0 a_code_Writer_Text_r0 2 := ⟨rfl, rfl⟩
@[simp] def a_code_Writer_Text_r1 : List COper := [
  ⟨(some 9), .mov, [.t 1], none⟩,
  ⟨(some 10), .len, [.t 9], none⟩,
  ⟨(some 11), .mov, [.c (.int .i64 0)], none⟩]
def c_code_Writer_Text_r1 : List COper := a_code_Writer_Text_r1
instance : Reg c_code_Writer_Text_r1 a_code_Writer_Text_r1 3 := ⟨rfl, rfl⟩
@[simp] def a_code_Writer_Text_r2 : List COper := [
  ⟨(some 12), .bin .lss, [.t 11, .t 10], none⟩]
def c_code_Writer_Text_r2 : List COper := a_code_Writer_Text_r2
instance : Reg c_code_Writer_Text_r2 a_code_Writer_Text_r2 1 := ⟨rfl, rfl⟩
@[simp] def a_code_Writer_Text_r3 : List COper := [
  ⟨(some 13), .iaddr 1, [.t 9, .t 11], none⟩,
  ⟨(some 14), .load false 1, [.t 13], none⟩,
  ⟨(some 5), .mov, [.t 14], none⟩]
def c_code_Writer_Text_r3 : List COper := a_code_Writer_Text_r3
instance : Reg c_code_Writer_Text_r3 a_code_Writer_Text_r3 3 := ⟨rfl, rfl⟩
@[simp] def a_code_Writer_Text_r4 : List COper := [
  ⟨(some 15), .mov, [.t 5], none⟩,
  ⟨(some 16), .lenS, [.t 15], none⟩,
  ⟨(some 6), .mov, [.t 16], none⟩]
def c_code_Writer_Text_r4 : List COper := a_code_Writer_Text_r4
instance : Reg c_code_Writer_Text_r4 a_code_Writer_Text_r4 3 := ⟨rfl, rfl⟩
@[simp] def a_code_Writer_Text_r5 : List COper := [
  ⟨(some 17), .mov, [.t 0], none⟩,
  ⟨(some 18), .mov, [.t 0], none⟩,
  ⟨(some 19), .nilc, [.t 18], none⟩,
  ⟨(some 20), .faddr 0 1 false, [.t 19], none⟩,
  ⟨(some 21), .load false 1, [.t 20], none⟩,
  ⟨(some 22), .mov, [.t 6], none⟩,
  ⟨(some 23), .bin .shr, [.t 22, .c (.int .u64 24)], none⟩,
  ⟨(some 24), .convI .u8, [.t 23], none⟩,
  ⟨(some 25), .mov, [.t 6], none⟩,
  ⟨(some 26), .bin .shr, [.t 25, .c (.int .u64 16)], none⟩,
  ⟨(some 27), .convI .u8, [.t 26], none⟩,
  ⟨(some 28), .mov, [.t 6], none⟩,
  ⟨(some 29), .bin .shr, [.t 28, .c (.int .u64 8)], none⟩,
  ⟨(some 30), .convI .u8, [.t 29], none⟩,
  ⟨(some 31), .mov, [.t 6], none⟩,
  ⟨(some 32), .convI .u8, [.t 31], none⟩,
  ⟨(some 33), .bslice 1 4 (.v (.int .u8 0)) [0, 1, 2, 3], [.t 24, .t 27, .t 30, .t 32], none⟩,
  ⟨(some 34), .app 1 1, [.t 21, .t 33], none⟩,
  ⟨(some 35), .nilc, [.t 17], none⟩,
  ⟨(some 36), .faddr 0 1 false, [.t 35], none⟩,
  ⟨none, .store false 1, [.t 36, .t 34], none⟩]
def c_code_Writer_Text_r5 : List COper := a_code_Writer_Text_r5
instance : Reg c_code_Writer_Text_r5 a_code_Writer_Text_r5 21 := ⟨rfl, rfl⟩
@[simp] def a_code_Writer_Text_r6 : List COper := [
  ⟨(some 37), .mov, [.t 0], none⟩,
  ⟨(some 38), .mov, [.t 0], none⟩,
  ⟨(some 39), .nilc, [.t 38], none⟩,
  ⟨(some 40), .faddr 0 1 false, [.t 39], none⟩,
  ⟨(some 41), .load false 1, [.t 40], none⟩,
  ⟨(some 42), .mov, [.t 5], none⟩,
  ⟨(some 43), .appS 1, [.t 41, .t 42], none⟩,
  ⟨(some 44), .nilc, [.t 37], none⟩,
  ⟨(some 45), .faddr 0 1 false, [.t 44], none⟩,
  ⟨none, .store false 1, [.t 45, .t 43], none⟩]
def c_code_Writer_Text_r6 : List COper := a_code_Writer_Text_r6
instance : Reg c_code_Writer_Text_r6 a_code_Writer_Text_r6 10 := ⟨rfl, rfl⟩
@[simp] def a_code_Writer_Text_r7 : List COper := [
  ⟨(some 46), .bin .add, [.t 11, .c (.int .i64 1)], none⟩,
  ⟨(some 11), .mov, [.t 46], none⟩]
def c_code_Writer_Text_r7 : List COper := a_code_Writer_Text_r7
instance : Reg c_code_Writer_Text_r7 a_code_Writer_Text_r7 2 := ⟨rfl, rfl⟩
@[simp] def c_code_Writer_Text : CCode :=
  .seq (.seq (.region c_code_Writer_Text_r0 none [0, 1, 8]) (.cond (.t 8) (.ret) (.skip))) (.seq (.region c_code_Writer_Text_r1 none [0, 9, 10, 11]) (.block 0 (.loop (.seq (.region c_code_Writer_Text_r2 none [0, 9, 10, 11, 12]) (.seq (.cond (.t 12) (.skip) (.exit 0)) (.seq (.block 1 (.seq (.region c_code_Writer_Text_r3 none [0, 5, 9, 10, 11]) (.seq (.region c_code_Writer_Text_r4 none [0, 5, 6, 9, 10, 11]) (.seq (.region c_code_Writer_Text_r5 none [0, 5, 9, 10, 11]) (.region c_code_Writer_Text_r6 none [0, 9, 10, 11]))))) (.region c_code_Writer_Text_r7 none [0, 9, 10, 11])))))))
@[simp] def R_code_Writer_Text : List CRes := []
theorem k_code_Writer_Text : chkFn Try.prog fn_code_Writer_Text c_code_Writer_Text R_code_Writer_Text 2 = true := by kernel_rfl
/-! (*wapentake/code.Writer).Digest -/
@[simp] def a_code_Writer_Digest_r0 : List COper := [
  ⟨(some 6), .mov, [.t 0], none⟩,
  ⟨(some 7), .eqp false, [.t 6, .c (.pointer none)], none⟩]
def c_code_Writer_Digest_r0 : List COper := a_code_Writer_Digest_r0
instance : Reg c_code_Writer_Digest_r0 a_code_Writer_Digest_r0 2 := ⟨rfl, rfl⟩
@[simp] def a_code_Writer_Digest_r1 : List COper := [
  ⟨(some 8), .mov, [.t 1], none⟩,
  ⟨(some 9), .len, [.t 8], none⟩,
  ⟨(some 10), .mov, [.c (.int .i64 0)], none⟩]
def c_code_Writer_Digest_r1 : List COper := a_code_Writer_Digest_r1
instance : Reg c_code_Writer_Digest_r1 a_code_Writer_Digest_r1 3 := ⟨rfl, rfl⟩
@[simp] def a_code_Writer_Digest_r2 : List COper := [
  ⟨(some 11), .bin .lss, [.t 10, .t 9], none⟩]
def c_code_Writer_Digest_r2 : List COper := a_code_Writer_Digest_r2
instance : Reg c_code_Writer_Digest_r2 a_code_Writer_Digest_r2 1 := ⟨rfl, rfl⟩
@[simp] def a_code_Writer_Digest_r3 : List COper := [
  ⟨(some 12), .iaddr 32, [.t 8, .t 10], none⟩,
  ⟨(some 13), .load true 32, [.t 12], none⟩,
  ⟨(some 5), .alloc (.arr 1 (rep 32 (.v (.int .u8 0)))), [], none⟩,
  ⟨none, .store true 32, [.t 5, .t 13], none⟩]
def c_code_Writer_Digest_r3 : List COper := a_code_Writer_Digest_r3
instance : Reg c_code_Writer_Digest_r3 a_code_Writer_Digest_r3 4 := ⟨rfl, rfl⟩
@[simp] def a_code_Writer_Digest_r4 : List COper := [
  ⟨(some 14), .mov, [.t 0], none⟩,
  ⟨(some 15), .mov, [.t 0], none⟩,
  ⟨(some 16), .nilc, [.t 15], none⟩,
  ⟨(some 17), .faddr 0 1 false, [.t 16], none⟩,
  ⟨(some 18), .load false 1, [.t 17], none⟩,
  ⟨(some 19), .sliceArr 32 1 false false, [.t 5], none⟩,
  ⟨(some 20), .app 1 1, [.t 18, .t 19], none⟩,
  ⟨(some 21), .nilc, [.t 14], none⟩,
  ⟨(some 22), .faddr 0 1 false, [.t 21], none⟩,
  ⟨none, .store false 1, [.t 22, .t 20], none⟩]
def c_code_Writer_Digest_r4 : List COper := a_code_Writer_Digest_r4
instance : Reg c_code_Writer_Digest_r4 a_code_Writer_Digest_r4 10 := ⟨rfl, rfl⟩
@[simp] def a_code_Writer_Digest_r5 : List COper := [
  ⟨(some 23), .bin .add, [.t 10, .c (.int .i64 1)], none⟩,
  ⟨(some 10), .mov, [.t 23], none⟩]
def c_code_Writer_Digest_r5 : List COper := a_code_Writer_Digest_r5
instance : Reg c_code_Writer_Digest_r5 a_code_Writer_Digest_r5 2 := ⟨rfl, rfl⟩
@[simp] def c_code_Writer_Digest : CCode :=
  .seq (.seq (.region c_code_Writer_Digest_r0 none [0, 1, 7]) (.cond (.t 7) (.ret) (.skip))) (.seq (.region c_code_Writer_Digest_r1 none [0, 8, 9, 10]) (.block 0 (.loop (.seq (.region c_code_Writer_Digest_r2 none [0, 8, 9, 10, 11]) (.seq (.cond (.t 11) (.skip) (.exit 0)) (.seq (.block 1 (.seq (.region c_code_Writer_Digest_r3 none [0, 5, 8, 9, 10]) (.region c_code_Writer_Digest_r4 (some ([0, 0, 2, 6, 14, 0, 62, 127, 255, 511], [])) [0, 8, 9, 10]))) (.region c_code_Writer_Digest_r5 none [0, 8, 9, 10])))))))
@[simp] def R_code_Writer_Digest : List CRes := []
theorem k_code_Writer_Digest : chkFn Try.prog fn_code_Writer_Digest c_code_Writer_Digest R_code_Writer_Digest 2 = true := by kernel_rfl
/-! wapentake/chain.Write -/
@[simp] def a_chain_Write_r0 : List COper := [
  ⟨(some 3), .box, [.t 1], none⟩,
  ⟨(some 4), .mov, [.c (.bool false)], none⟩]
def c_chain_Write_r0 : List COper := a_chain_Write_r0
instance : Reg c_chain_Write_r0 a_chain_Write_r0 2 := ⟨rfl, rfl⟩
@[simp] def a_chain_Write_r1 : List COper := [
  ⟨(some 6), .build [.v (.slice none 0 0)] [], [], none⟩,
  ⟨(some 7), .box, [.t 6], none⟩,
  ⟨(some 5), .mov, [.t 7], none⟩]
def c_chain_Write_r1 : List COper := a_chain_Write_r1
instance : Reg c_chain_Write_r1 a_chain_Write_r1 3 := ⟨rfl, rfl⟩
@[simp] def a_chain_Write_r2 : List COper := [
  ⟨(some 8), .mov, [.t 5], none⟩,
  ⟨(some 9), .faddr 99 2 true, [.t 3], none⟩,
  ⟨(some 10), .load true 2, [.t 9], none⟩,
  ⟨(some 11), .call fn_cert_Write, [.t 8, .t 10], none⟩,
  ⟨(some 12), .not, [.t 11], none⟩]
def c_chain_Write_r2 : List COper := a_chain_Write_r2
instance : Reg c_chain_Write_r2 a_chain_Write_r2 5 := ⟨rfl, rfl⟩
@[simp] def a_chain_Write_r3 : List COper := [
  ⟨(some 4), .mov, [.c (.bool false)], none⟩]
def c_chain_Write_r3 : List COper := a_chain_Write_r3
instance : Reg c_chain_Write_r3 a_chain_Write_r3 1 := ⟨rfl, rfl⟩
@[simp] def a_chain_Write_r4 : List COper := [
  ⟨(some 13), .mov, [.t 0], none⟩,
  ⟨(some 14), .faddr 0 99 true, [.t 3], none⟩,
  ⟨(some 15), .load true 99, [.t 14], none⟩,
  ⟨(some 16), .call fn_block_Write, [.t 13, .t 15], none⟩]
def c_chain_Write_r4 : List COper := a_chain_Write_r4
instance : Reg c_chain_Write_r4 a_chain_Write_r4 4 := ⟨rfl, rfl⟩
@[simp] def a_chain_Write_r5 : List COper := [
  ⟨(some 17), .mov, [.t 0], none⟩,
  ⟨(some 18), .faddr 99 2 true, [.t 3], none⟩,
  ⟨(some 19), .load true 2, [.t 18], none⟩,
  ⟨(some 20), .call fn_cert_Write, [.t 17, .t 19], none⟩]
def c_chain_Write_r5 : List COper := a_chain_Write_r5
instance : Reg c_chain_Write_r5 a_chain_Write_r5 4 := ⟨rfl, rfl⟩
@[simp] def a_chain_Write_r6 : List COper := [
  ⟨(some 21), .mov, [.t 0], none⟩,
  ⟨(some 22), .faddr 101 2 true, [.t 3], none⟩,
  ⟨(some 23), .load true 2, [.t 22], none⟩,
  ⟨(some 24), .call fn_config_Write, [.t 21, .t 23], none⟩]
def c_chain_Write_r6 : List COper := a_chain_Write_r6
instance : Reg c_chain_Write_r6 a_chain_Write_r6 4 := ⟨rfl, rfl⟩
@[simp] def a_chain_Write_r7 : List COper := [
  ⟨(some 4), .mov, [.c (.bool true)], none⟩]
def c_chain_Write_r7 : List COper := a_chain_Write_r7
instance : Reg c_chain_Write_r7 a_chain_Write_r7 1 := ⟨rfl, rfl⟩
@[simp] def c_chain_Write : CCode :=
  .seq (.region c_chain_Write_r0 none [0, 3]) (.seq (.region c_chain_Write_r1 none [0, 3, 5]) (.seq (.seq (.region c_chain_Write_r2 none [0, 3, 12]) (.cond (.t 12) (.seq (.region c_chain_Write_r3 none [4]) (.ret)) (.skip))) (.seq (.region c_chain_Write_r4 none [0, 3]) (.seq (.region c_chain_Write_r5 none [0, 3]) (.seq (.region c_chain_Write_r6 none []) (.seq (.region c_chain_Write_r7 none [4]) (.ret)))))))
@[simp] def R_chain_Write : List CRes := [.tmp 4]
theorem k_chain_Write : chkFn Try.prog fn_chain_Write c_chain_Write R_chain_Write 2 = true := by kernel_rfl
/-! wapentake/config.Write -/
@[simp] def a_config_Write_r0 : List COper := [
  ⟨(some 3), .box, [.t 1], none⟩]
def c_config_Write_r0 : List COper := a_config_Write_r0
instance : Reg c_config_Write_r0 a_config_Write_r0 1 := ⟨rfl, rfl⟩
@[simp] def a_config_Write_r1 : List COper := [
  ⟨(some 6), .mov, [.t 0], none⟩,
  ⟨(some 7), .faddr 0 1 false, [.t 3], none⟩,
  ⟨(some 8), .load false 1, [.t 7], none⟩,
  ⟨(some 9), .faddr 1 1 false, [.t 3], none⟩,
  ⟨(some 10), .load false 1, [.t 9], none⟩,
  ⟨(some 11), .len, [.t 10], none⟩,
  ⟨(some 12), .bslice 1 2 (.v (.int .i64 0)) [0, 1], [.t 8, .t 11], none⟩,
  ⟨(some 13), .call fn_code_Writer_Num, [.t 6, .t 12], none⟩]
def c_config_Write_r1 : List COper := a_config_Write_r1
instance : Reg c_config_Write_r1 a_config_Write_r1 8 := ⟨rfl, rfl⟩
@[simp] def a_config_Write_r2 : List COper := [
  ⟨(some 14), .faddr 1 1 false, [.t 3], none⟩,
  ⟨(some 15), .load false 1, [.t 14], none⟩,
  ⟨(some 16), .len, [.t 15], none⟩,
  ⟨(some 17), .mov, [.c (.int .i64 0)], none⟩]
def c_config_Write_r2 : List COper := a_config_Write_r2
instance : Reg c_config_Write_r2 a_config_Write_r2 4 := ⟨rfl, rfl⟩
@[simp] def a_config_Write_r3 : List COper := [
  ⟨(some 18), .bin .lss, [.t 17, .t 16], none⟩]
def c_config_Write_r3 : List COper := a_config_Write_r3
instance : Reg c_config_Write_r3 a_config_Write_r3 1 := ⟨rfl, rfl⟩
@[simp] def a_config_Write_r4 : List COper := [
  ⟨(some 19), .iaddr 34, [.t 15, .t 17], none⟩,
  ⟨(some 20), .load true 34, [.t 19], none⟩,
  ⟨(some 5), .alloc (.node [.v (.int .i64 0), .node [.arr 1 (rep 32 (.v (.int .u8 0))), .v (.int .i64 0)]]), [], none⟩,
  ⟨none, .store true 34, [.t 5, .t 20], none⟩]
def c_config_Write_r4 : List COper := a_config_Write_r4
instance : Reg c_config_Write_r4 a_config_Write_r4 4 := ⟨rfl, rfl⟩
@[simp] def a_config_Write_r5 : List COper := [
  ⟨(some 21), .mov, [.t 0], none⟩,
  ⟨(some 22), .faddr 0 1 false, [.t 5], none⟩,
  ⟨(some 23), .load false 1, [.t 22], none⟩,
  ⟨(some 24), .faddr 1 33 true, [.t 5], none⟩,
  ⟨(some 25), .faddr 32 1 false, [.t 24], none⟩,
  ⟨(some 26), .load false 1, [.t 25], none⟩,
  ⟨(some 27), .bslice 1 2 (.v (.int .i64 0)) [0, 1], [.t 23, .t 26], none⟩,
  ⟨(some 28), .call fn_code_Writer_Num, [.t 21, .t 27], none⟩]
def c_config_Write_r5 : List COper := a_config_Write_r5
instance : Reg c_config_Write_r5 a_config_Write_r5 8 := ⟨rfl, rfl⟩
@[simp] def a_config_Write_r6 : List COper := [
  ⟨(some 29), .mov, [.t 0], none⟩,
  ⟨(some 30), .faddr 1 33 true, [.t 5], none⟩,
  ⟨(some 31), .faddr 0 32 true, [.t 30], none⟩,
  ⟨(some 32), .load true 32, [.t 31], none⟩,
  ⟨(some 33), .bslice 32 1 (.arr 1 (rep 32 (.v (.int .u8 0)))) [0], [.t 32], none⟩,
  ⟨(some 34), .call fn_code_Writer_Digest, [.t 29, .t 33], none⟩]
def c_config_Write_r6 : List COper := a_config_Write_r6
instance : Reg c_config_Write_r6 a_config_Write_r6 6 := ⟨rfl, rfl⟩
@[simp] def a_config_Write_r7 : List COper := [
  ⟨(some 35), .bin .add, [.t 17, .c (.int .i64 1)], none⟩,
  ⟨(some 17), .mov, [.t 35], none⟩]
def c_config_Write_r7 : List COper := a_config_Write_r7
instance : Reg c_config_Write_r7 a_config_Write_r7 2 := ⟨rfl, rfl⟩
@[simp] def c_config_Write : CCode :=
  .seq (.region c_config_Write_r0 none [0, 3]) (.seq (.region c_config_Write_r1 none [0, 3]) (.seq (.region c_config_Write_r2 none [0, 15, 16, 17]) (.block 0 (.loop (.seq (.region c_config_Write_r3 none [0, 15, 16, 17, 18]) (.seq (.cond (.t 18) (.skip) (.exit 0)) (.seq (.block 1 (.seq (.region c_config_Write_r4 none [0, 5, 15, 16, 17]) (.seq (.region c_config_Write_r5 none [0, 5, 15, 16, 17]) (.region c_config_Write_r6 none [0, 15, 16, 17])))) (.region c_config_Write_r7 none [0, 15, 16, 17]))))))))
@[simp] def R_config_Write : List CRes := []
theorem k_config_Write : chkFn Try.prog fn_config_Write c_config_Write R_config_Write 2 = true := by kernel_rfl
end Go.Proofs.Ytglkfbhjimnboaa.WL
