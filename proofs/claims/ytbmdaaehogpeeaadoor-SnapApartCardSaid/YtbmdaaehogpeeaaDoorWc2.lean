/- The program's functions as abstract texts, each held against the program by the kernel. -/
import Derived.Test.YtbmdaaehogpeeaaDoorWc1
namespace Go.Proofs.YtbmdaaehogpeeaaDoor.WL
open Go
/-! wapentake/wapentakeref02.Next -/
@[simp] def a_r02_Next_r0 : List COper := [
  ⟨(some 3), .box, [.t 0], none⟩,
  ⟨(some 5), .box, [.t 2], none⟩,
  ⟨(some 6), .alloc (.arr 1 (rep 8 (.v (.int .u32 0)))), [], none⟩]
def c_r02_Next_r0 : List COper := a_r02_Next_r0
instance : Reg c_r02_Next_r0 a_r02_Next_r0 3 := ⟨rfl, rfl⟩
@[simp] def a_r02_Next_r1 : List COper := [
  ⟨(some 7), .alloc (.arr 1 (rep 64 (.v (.int .u32 0)))), [], none⟩]
def c_r02_Next_r1 : List COper := a_r02_Next_r1
instance : Reg c_r02_Next_r1 a_r02_Next_r1 1 := ⟨rfl, rfl⟩
@[simp] def a_r02_Next_r2 : List COper := [
  ⟨(some 8), .mov, [.c (.int .i64 0)], none⟩]
def c_r02_Next_r2 : List COper := a_r02_Next_r2
instance : Reg c_r02_Next_r2 a_r02_Next_r2 1 := ⟨rfl, rfl⟩
@[simp] def a_r02_Next_r3 : List COper := [
  ⟨(some 25), .mov, [.t 8], none⟩,
  ⟨(some 26), .bin .lss, [.t 25, .c (.int .i64 16)], none⟩]
def c_r02_Next_r3 : List COper := a_r02_Next_r3
instance : Reg c_r02_Next_r3 a_r02_Next_r3 2 := ⟨rfl, rfl⟩
@[simp] def a_r02_Next_r5 : List COper := [
  ⟨(some 29), .mov, [.t 8], none⟩,
  ⟨(some 30), .mov, [.t 1], none⟩,
  ⟨(some 31), .mov, [.t 8], none⟩,
  ⟨(some 32), .bin .mul, [.c (.int .i64 4), .t 31], none⟩,
  ⟨(some 33), .iaddr 1, [.t 30, .t 32], none⟩,
  ⟨(some 34), .load false 1, [.t 33], none⟩,
  ⟨(some 35), .convI .u32, [.t 34], none⟩,
  ⟨(some 36), .bin .shl, [.t 35, .c (.int .u64 24)], none⟩,
  ⟨(some 37), .mov, [.t 1], none⟩,
  ⟨(some 38), .mov, [.t 8], none⟩,
  ⟨(some 39), .bin .mul, [.c (.int .i64 4), .t 38], none⟩,
  ⟨(some 40), .bin .add, [.t 39, .c (.int .i64 1)], none⟩,
  ⟨(some 41), .iaddr 1, [.t 37, .t 40], none⟩,
  ⟨(some 42), .load false 1, [.t 41], none⟩,
  ⟨(some 43), .convI .u32, [.t 42], none⟩,
  ⟨(some 44), .bin .shl, [.t 43, .c (.int .u64 16)], none⟩,
  ⟨(some 45), .bin .add, [.t 36, .t 44], none⟩,
  ⟨(some 46), .mov, [.t 1], none⟩,
  ⟨(some 47), .mov, [.t 8], none⟩,
  ⟨(some 48), .bin .mul, [.c (.int .i64 4), .t 47], none⟩,
  ⟨(some 49), .bin .add, [.t 48, .c (.int .i64 2)], none⟩,
  ⟨(some 50), .iaddr 1, [.t 46, .t 49], none⟩,
  ⟨(some 51), .load false 1, [.t 50], none⟩,
  ⟨(some 52), .convI .u32, [.t 51], none⟩,
  ⟨(some 53), .bin .shl, [.t 52, .c (.int .u64 8)], none⟩,
  ⟨(some 54), .bin .add, [.t 45, .t 53], none⟩,
  ⟨(some 55), .mov, [.t 1], none⟩,
  ⟨(some 56), .mov, [.t 8], none⟩,
  ⟨(some 57), .bin .mul, [.c (.int .i64 4), .t 56], none⟩,
  ⟨(some 58), .bin .add, [.t 57, .c (.int .i64 3)], none⟩,
  ⟨(some 59), .iaddr 1, [.t 55, .t 58], none⟩,
  ⟨(some 60), .load false 1, [.t 59], none⟩,
  ⟨(some 61), .convI .u32, [.t 60], none⟩,
  ⟨(some 62), .bin .add, [.t 54, .t 61], none⟩,
  ⟨(some 63), .iaddrArr 64 1 false, [.t 7, .t 29], none⟩,
  ⟨none, .store false 1, [.t 63, .t 62], none⟩]
def c_r02_Next_r5 : List COper := a_r02_Next_r5
instance : Reg c_r02_Next_r5 a_r02_Next_r5 36 := ⟨rfl, rfl⟩
@[simp] def a_r02_Next_r4 : List COper := [
  ⟨(some 27), .mov, [.t 8], none⟩,
  ⟨(some 28), .bin .add, [.t 27, .c (.int .i64 1)], none⟩,
  ⟨(some 8), .mov, [.t 28], none⟩]
def c_r02_Next_r4 : List COper := a_r02_Next_r4
instance : Reg c_r02_Next_r4 a_r02_Next_r4 3 := ⟨rfl, rfl⟩
@[simp] def a_r02_Next_r6 : List COper := [
  ⟨(some 9), .mov, [.c (.int .i64 16)], none⟩]
def c_r02_Next_r6 : List COper := a_r02_Next_r6
instance : Reg c_r02_Next_r6 a_r02_Next_r6 1 := ⟨rfl, rfl⟩
@[simp] def a_r02_Next_r7 : List COper := [
  ⟨(some 64), .mov, [.t 9], none⟩,
  ⟨(some 65), .bin .lss, [.t 64, .c (.int .i64 64)], none⟩]
def c_r02_Next_r7 : List COper := a_r02_Next_r7
instance : Reg c_r02_Next_r7 a_r02_Next_r7 2 := ⟨rfl, rfl⟩
@[simp] def a_r02_Next_r9 : List COper := [
  ⟨(some 68), .mov, [.t 9], none⟩,
  ⟨(some 69), .bin .sub, [.t 68, .c (.int .i64 15)], none⟩,
  ⟨(some 70), .iaddrArr 64 1 false, [.t 7, .t 69], none⟩,
  ⟨(some 71), .load false 1, [.t 70], none⟩,
  ⟨(some 72), .mov, [.t 9], none⟩,
  ⟨(some 73), .bin .sub, [.t 72, .c (.int .i64 2)], none⟩,
  ⟨(some 74), .iaddrArr 64 1 false, [.t 7, .t 73], none⟩,
  ⟨(some 75), .load false 1, [.t 74], none⟩,
  ⟨(some 10), .mov, [.t 71], none⟩,
  ⟨(some 11), .mov, [.t 75], none⟩]
def c_r02_Next_r9 : List COper := a_r02_Next_r9
instance : Reg c_r02_Next_r9 a_r02_Next_r9 10 := ⟨rfl, rfl⟩
@[simp] def a_r02_Next_r10 : List COper := [
  ⟨(some 76), .mov, [.t 10], none⟩,
  ⟨(some 77), .call fn_r02_turn, [.t 76, .c (.int .u64 7)], none⟩,
  ⟨(some 78), .mov, [.t 10], none⟩,
  ⟨(some 79), .call fn_r02_turn, [.t 78, .c (.int .u64 18)], none⟩,
  ⟨(some 80), .bin .xor, [.t 77, .t 79], none⟩,
  ⟨(some 81), .mov, [.t 10], none⟩,
  ⟨(some 82), .bin .shr, [.t 81, .c (.int .u64 3)], none⟩,
  ⟨(some 83), .bin .xor, [.t 80, .t 82], none⟩,
  ⟨(some 12), .mov, [.t 83], none⟩]
def c_r02_Next_r10 : List COper := a_r02_Next_r10
instance : Reg c_r02_Next_r10 a_r02_Next_r10 9 := ⟨rfl, rfl⟩
@[simp] def a_r02_Next_r11 : List COper := [
  ⟨(some 84), .mov, [.t 11], none⟩,
  ⟨(some 85), .call fn_r02_turn, [.t 84, .c (.int .u64 17)], none⟩,
  ⟨(some 86), .mov, [.t 11], none⟩,
  ⟨(some 87), .call fn_r02_turn, [.t 86, .c (.int .u64 19)], none⟩,
  ⟨(some 88), .bin .xor, [.t 85, .t 87], none⟩,
  ⟨(some 89), .mov, [.t 11], none⟩,
  ⟨(some 90), .bin .shr, [.t 89, .c (.int .u64 10)], none⟩,
  ⟨(some 91), .bin .xor, [.t 88, .t 90], none⟩,
  ⟨(some 13), .mov, [.t 91], none⟩]
def c_r02_Next_r11 : List COper := a_r02_Next_r11
instance : Reg c_r02_Next_r11 a_r02_Next_r11 9 := ⟨rfl, rfl⟩
@[simp] def a_r02_Next_r12 : List COper := [
  ⟨(some 92), .mov, [.t 9], none⟩,
  ⟨(some 93), .mov, [.t 9], none⟩,
  ⟨(some 94), .bin .sub, [.t 93, .c (.int .i64 16)], none⟩,
  ⟨(some 95), .iaddrArr 64 1 false, [.t 7, .t 94], none⟩,
  ⟨(some 96), .load false 1, [.t 95], none⟩,
  ⟨(some 97), .mov, [.t 12], none⟩,
  ⟨(some 98), .bin .add, [.t 96, .t 97], none⟩,
  ⟨(some 99), .mov, [.t 9], none⟩,
  ⟨(some 100), .bin .sub, [.t 99, .c (.int .i64 7)], none⟩,
  ⟨(some 101), .iaddrArr 64 1 false, [.t 7, .t 100], none⟩,
  ⟨(some 102), .load false 1, [.t 101], none⟩,
  ⟨(some 103), .bin .add, [.t 98, .t 102], none⟩,
  ⟨(some 104), .mov, [.t 13], none⟩,
  ⟨(some 105), .bin .add, [.t 103, .t 104], none⟩,
  ⟨(some 106), .iaddrArr 64 1 false, [.t 7, .t 92], none⟩,
  ⟨none, .store false 1, [.t 106, .t 105], none⟩]
def c_r02_Next_r12 : List COper := a_r02_Next_r12
instance : Reg c_r02_Next_r12 a_r02_Next_r12 16 := ⟨rfl, rfl⟩
@[simp] def a_r02_Next_r8 : List COper := [
  ⟨(some 66), .mov, [.t 9], none⟩,
  ⟨(some 67), .bin .add, [.t 66, .c (.int .i64 1)], none⟩,
  ⟨(some 9), .mov, [.t 67], none⟩]
def c_r02_Next_r8 : List COper := a_r02_Next_r8
instance : Reg c_r02_Next_r8 a_r02_Next_r8 3 := ⟨rfl, rfl⟩
@[simp] def a_r02_Next_r13 : List COper := [
  ⟨(some 107), .iaddrArr 8 1 false, [.t 3, .c (.int .i64 0)], none⟩,
  ⟨(some 108), .load false 1, [.t 107], none⟩,
  ⟨(some 109), .iaddrArr 8 1 false, [.t 3, .c (.int .i64 1)], none⟩,
  ⟨(some 110), .load false 1, [.t 109], none⟩,
  ⟨(some 111), .iaddrArr 8 1 false, [.t 3, .c (.int .i64 2)], none⟩,
  ⟨(some 112), .load false 1, [.t 111], none⟩,
  ⟨(some 113), .iaddrArr 8 1 false, [.t 3, .c (.int .i64 3)], none⟩,
  ⟨(some 114), .load false 1, [.t 113], none⟩,
  ⟨(some 115), .iaddrArr 8 1 false, [.t 3, .c (.int .i64 4)], none⟩,
  ⟨(some 116), .load false 1, [.t 115], none⟩,
  ⟨(some 117), .iaddrArr 8 1 false, [.t 3, .c (.int .i64 5)], none⟩,
  ⟨(some 118), .load false 1, [.t 117], none⟩,
  ⟨(some 119), .iaddrArr 8 1 false, [.t 3, .c (.int .i64 6)], none⟩,
  ⟨(some 120), .load false 1, [.t 119], none⟩,
  ⟨(some 121), .iaddrArr 8 1 false, [.t 3, .c (.int .i64 7)], none⟩,
  ⟨(some 122), .load false 1, [.t 121], none⟩,
  ⟨(some 14), .mov, [.t 108], none⟩,
  ⟨(some 15), .mov, [.t 110], none⟩,
  ⟨(some 16), .mov, [.t 112], none⟩,
  ⟨(some 17), .mov, [.t 114], none⟩,
  ⟨(some 18), .mov, [.t 116], none⟩,
  ⟨(some 19), .mov, [.t 118], none⟩,
  ⟨(some 20), .mov, [.t 120], none⟩,
  ⟨(some 21), .mov, [.t 122], none⟩]
def c_r02_Next_r13 : List COper := a_r02_Next_r13
instance : Reg c_r02_Next_r13 a_r02_Next_r13 24 := ⟨rfl, rfl⟩
@[simp] def a_r02_Next_r14 : List COper := [
  ⟨(some 22), .mov, [.c (.int .i64 0)], none⟩]
def c_r02_Next_r14 : List COper := a_r02_Next_r14
instance : Reg c_r02_Next_r14 a_r02_Next_r14 1 := ⟨rfl, rfl⟩
@[simp] def a_r02_Next_r15 : List COper := [
  ⟨(some 123), .mov, [.t 22], none⟩,
  ⟨(some 124), .bin .lss, [.t 123, .c (.int .i64 64)], none⟩]
def c_r02_Next_r15 : List COper := a_r02_Next_r15
instance : Reg c_r02_Next_r15 a_r02_Next_r15 2 := ⟨rfl, rfl⟩
@[simp] def a_r02_Next_r17 : List COper := [
  ⟨(some 127), .mov, [.t 21], none⟩,
  ⟨(some 128), .mov, [.t 18], none⟩,
  ⟨(some 129), .call fn_r02_three, [.t 128, .c (.int .u64 6), .c (.int .u64 11), .c (.int .u64 25)], none⟩,
  ⟨(some 130), .bin .add, [.t 127, .t 129], none⟩,
  ⟨(some 131), .mov, [.t 18], none⟩,
  ⟨(some 132), .mov, [.t 19], none⟩,
  ⟨(some 133), .bin .and, [.t 131, .t 132], none⟩,
  ⟨(some 134), .mov, [.t 18], none⟩,
  ⟨(some 135), .un .xor, [.t 134], none⟩,
  ⟨(some 136), .mov, [.t 20], none⟩,
  ⟨(some 137), .bin .and, [.t 135, .t 136], none⟩,
  ⟨(some 138), .bin .xor, [.t 133, .t 137], none⟩,
  ⟨(some 139), .bin .add, [.t 130, .t 138], none⟩,
  ⟨(some 140), .mov, [.t 22], none⟩,
  ⟨(some 141), .iaddrArr 64 1 false, [.t 5, .t 140], none⟩,
  ⟨(some 142), .load false 1, [.t 141], none⟩,
  ⟨(some 143), .bin .add, [.t 139, .t 142], none⟩,
  ⟨(some 144), .mov, [.t 22], none⟩,
  ⟨(some 145), .iaddrArr 64 1 false, [.t 7, .t 144], none⟩,
  ⟨(some 146), .load false 1, [.t 145], none⟩,
  ⟨(some 147), .bin .add, [.t 143, .t 146], none⟩,
  ⟨(some 23), .mov, [.t 147], none⟩]
def c_r02_Next_r17 : List COper := a_r02_Next_r17
instance : Reg c_r02_Next_r17 a_r02_Next_r17 22 := ⟨rfl, rfl⟩
@[simp] def a_r02_Next_r18 : List COper := [
  ⟨(some 148), .mov, [.t 14], none⟩,
  ⟨(some 149), .call fn_r02_three, [.t 148, .c (.int .u64 2), .c (.int .u64 13), .c (.int .u64 22)], none⟩,
  ⟨(some 150), .mov, [.t 14], none⟩,
  ⟨(some 151), .mov, [.t 15], none⟩,
  ⟨(some 152), .bin .and, [.t 150, .t 151], none⟩,
  ⟨(some 153), .mov, [.t 14], none⟩,
  ⟨(some 154), .mov, [.t 16], none⟩,
  ⟨(some 155), .bin .and, [.t 153, .t 154], none⟩,
  ⟨(some 156), .bin .xor, [.t 152, .t 155], none⟩,
  ⟨(some 157), .mov, [.t 15], none⟩,
  ⟨(some 158), .mov, [.t 16], none⟩,
  ⟨(some 159), .bin .and, [.t 157, .t 158], none⟩,
  ⟨(some 160), .bin .xor, [.t 156, .t 159], none⟩,
  ⟨(some 161), .bin .add, [.t 149, .t 160], none⟩,
  ⟨(some 24), .mov, [.t 161], none⟩]
def c_r02_Next_r18 : List COper := a_r02_Next_r18
instance : Reg c_r02_Next_r18 a_r02_Next_r18 15 := ⟨rfl, rfl⟩
@[simp] def a_r02_Next_r19 : List COper := [
  ⟨(some 162), .mov, [.t 20], none⟩,
  ⟨(some 21), .mov, [.t 162], none⟩]
def c_r02_Next_r19 : List COper := a_r02_Next_r19
instance : Reg c_r02_Next_r19 a_r02_Next_r19 2 := ⟨rfl, rfl⟩
@[simp] def a_r02_Next_r20 : List COper := [
  ⟨(some 163), .mov, [.t 19], none⟩,
  ⟨(some 20), .mov, [.t 163], none⟩]
def c_r02_Next_r20 : List COper := a_r02_Next_r20
instance : Reg c_r02_Next_r20 a_r02_Next_r20 2 := ⟨rfl, rfl⟩
@[simp] def a_r02_Next_r21 : List COper := [
  ⟨(some 164), .mov, [.t 18], none⟩,
  ⟨(some 19), .mov, [.t 164], none⟩]
def c_r02_Next_r21 : List COper := a_r02_Next_r21
instance : Reg c_r02_Next_r21 a_r02_Next_r21 2 := ⟨rfl, rfl⟩
@[simp] def a_r02_Next_r22 : List COper := [
  ⟨(some 165), .mov, [.t 17], none⟩,
  ⟨(some 166), .mov, [.t 23], none⟩,
  ⟨(some 167), .bin .add, [.t 165, .t 166], none⟩,
  ⟨(some 18), .mov, [.t 167], none⟩]
def c_r02_Next_r22 : List COper := a_r02_Next_r22
instance : Reg c_r02_Next_r22 a_r02_Next_r22 4 := ⟨rfl, rfl⟩
@[simp] def a_r02_Next_r23 : List COper := [
  ⟨(some 168), .mov, [.t 16], none⟩,
  ⟨(some 17), .mov, [.t 168], none⟩]
def c_r02_Next_r23 : List COper := a_r02_Next_r23
instance : Reg c_r02_Next_r23 a_r02_Next_r23 2 := ⟨rfl, rfl⟩
@[simp] def a_r02_Next_r24 : List COper := [
  ⟨(some 169), .mov, [.t 15], none⟩,
  ⟨(some 16), .mov, [.t 169], none⟩]
def c_r02_Next_r24 : List COper := a_r02_Next_r24
instance : Reg c_r02_Next_r24 a_r02_Next_r24 2 := ⟨rfl, rfl⟩
@[simp] def a_r02_Next_r25 : List COper := [
  ⟨(some 170), .mov, [.t 14], none⟩,
  ⟨(some 15), .mov, [.t 170], none⟩]
def c_r02_Next_r25 : List COper := a_r02_Next_r25
instance : Reg c_r02_Next_r25 a_r02_Next_r25 2 := ⟨rfl, rfl⟩
@[simp] def a_r02_Next_r26 : List COper := [
  ⟨(some 171), .mov, [.t 23], none⟩,
  ⟨(some 172), .mov, [.t 24], none⟩,
  ⟨(some 173), .bin .add, [.t 171, .t 172], none⟩,
  ⟨(some 14), .mov, [.t 173], none⟩]
def c_r02_Next_r26 : List COper := a_r02_Next_r26
instance : Reg c_r02_Next_r26 a_r02_Next_r26 4 := ⟨rfl, rfl⟩
@[simp] def a_r02_Next_r16 : List COper := [
  ⟨(some 125), .mov, [.t 22], none⟩,
  ⟨(some 126), .bin .add, [.t 125, .c (.int .i64 1)], none⟩,
  ⟨(some 22), .mov, [.t 126], none⟩]
def c_r02_Next_r16 : List COper := a_r02_Next_r16
instance : Reg c_r02_Next_r16 a_r02_Next_r16 3 := ⟨rfl, rfl⟩
@[simp] def a_r02_Next_r27 : List COper := [
  ⟨(some 174), .iaddrArr 8 1 false, [.t 3, .c (.int .i64 0)], none⟩,
  ⟨(some 175), .load false 1, [.t 174], none⟩,
  ⟨(some 176), .mov, [.t 14], none⟩,
  ⟨(some 177), .bin .add, [.t 175, .t 176], none⟩,
  ⟨(some 178), .iaddrArr 8 1 false, [.t 3, .c (.int .i64 1)], none⟩,
  ⟨(some 179), .load false 1, [.t 178], none⟩,
  ⟨(some 180), .mov, [.t 15], none⟩,
  ⟨(some 181), .bin .add, [.t 179, .t 180], none⟩,
  ⟨(some 182), .iaddrArr 8 1 false, [.t 3, .c (.int .i64 2)], none⟩,
  ⟨(some 183), .load false 1, [.t 182], none⟩,
  ⟨(some 184), .mov, [.t 16], none⟩,
  ⟨(some 185), .bin .add, [.t 183, .t 184], none⟩,
  ⟨(some 186), .iaddrArr 8 1 false, [.t 3, .c (.int .i64 3)], none⟩,
  ⟨(some 187), .load false 1, [.t 186], none⟩,
  ⟨(some 188), .mov, [.t 17], none⟩,
  ⟨(some 189), .bin .add, [.t 187, .t 188], none⟩,
  ⟨(some 190), .iaddrArr 8 1 false, [.t 3, .c (.int .i64 4)], none⟩,
  ⟨(some 191), .load false 1, [.t 190], none⟩,
  ⟨(some 192), .mov, [.t 18], none⟩,
  ⟨(some 193), .bin .add, [.t 191, .t 192], none⟩,
  ⟨(some 194), .iaddrArr 8 1 false, [.t 3, .c (.int .i64 5)], none⟩,
  ⟨(some 195), .load false 1, [.t 194], none⟩,
  ⟨(some 196), .mov, [.t 19], none⟩,
  ⟨(some 197), .bin .add, [.t 195, .t 196], none⟩,
  ⟨(some 198), .iaddrArr 8 1 false, [.t 3, .c (.int .i64 6)], none⟩,
  ⟨(some 199), .load false 1, [.t 198], none⟩,
  ⟨(some 200), .mov, [.t 20], none⟩,
  ⟨(some 201), .bin .add, [.t 199, .t 200], none⟩,
  ⟨(some 202), .iaddrArr 8 1 false, [.t 3, .c (.int .i64 7)], none⟩,
  ⟨(some 203), .load false 1, [.t 202], none⟩,
  ⟨(some 204), .mov, [.t 21], none⟩,
  ⟨(some 205), .bin .add, [.t 203, .t 204], none⟩,
  ⟨(some 206), .buildA 1 (rep 8 (.v (.int .u32 0))) (upTo 8), [.t 177, .t 181, .t 185, .t 189, .t 193, .t 197, .t 201, .t 205], none⟩,
  ⟨none, .store true 8, [.t 6, .t 206], none⟩]
def c_r02_Next_r27 : List COper := a_r02_Next_r27
instance : Reg c_r02_Next_r27 a_r02_Next_r27 34 := ⟨rfl, rfl⟩
@[simp] def c_r02_Next : CCode :=
  .seq (.region c_r02_Next_r0 none [1, 3, 5, 6]) (.seq (.region c_r02_Next_r1 none [1, 3, 5, 6, 7]) (.seq (.seq (.region c_r02_Next_r2 none [1, 3, 5, 6, 7, 8]) (.block 0 (.loop (.seq (.seq (.region c_r02_Next_r3 none [1, 3, 5, 6, 7, 8, 26]) (.cond (.t 26) (.skip) (.exit 0))) (.seq (.block 1 (.region c_r02_Next_r5 (some ([0, 0, 0, 4, 14, 30, 62, 126, 0, 0, 512, 1536, 3840, 7936, 16128, 32512, 65534, 0, 0, 262144, 786432, 1966080, 4063232, 8257536, 16646144, 33554430, 0, 0, 134217728, 402653184, 1006632960, 2080374784, 4227858432, 8589934590, 17179869183, 34359738367], [])) [1, 3, 5, 6, 7, 8])) (.region c_r02_Next_r4 none [1, 3, 5, 6, 7, 8])))))) (.seq (.seq (.region c_r02_Next_r6 none [3, 5, 6, 7, 9]) (.block 2 (.loop (.seq (.seq (.region c_r02_Next_r7 none [3, 5, 6, 7, 9, 65]) (.cond (.t 65) (.skip) (.exit 2))) (.seq (.block 3 (.seq (.region c_r02_Next_r9 (some ([0, 1, 3, 7, 0, 16, 48, 112, 15, 511], [])) [3, 5, 6, 7, 9, 10, 11]) (.seq (.region c_r02_Next_r10 none [3, 5, 6, 7, 9, 11, 12]) (.seq (.region c_r02_Next_r11 none [3, 5, 6, 7, 9, 12, 13]) (.region c_r02_Next_r12 (some ([0, 0, 2, 6, 14, 0, 62, 0, 128, 384, 896, 2046, 0, 8190, 16383, 32767], [])) [3, 5, 6, 7, 9]))))) (.region c_r02_Next_r8 none [3, 5, 6, 7, 9])))))) (.seq (.region c_r02_Next_r13 (some ([0, 1, 0, 4, 0, 16, 0, 64, 0, 256, 0, 1024, 0, 4096, 0, 16384, 3, 65551, 196671, 459007, 984063, 2035711, 4145151, 8388607], [])) [3, 5, 6, 7, 14, 15, 16, 17, 18, 19, 20, 21]) (.seq (.seq (.region c_r02_Next_r14 none [3, 5, 6, 7, 14, 15, 16, 17, 18, 19, 20, 21, 22]) (.block 4 (.loop (.seq (.seq (.region c_r02_Next_r15 none [3, 5, 6, 7, 14, 15, 16, 17, 18, 19, 20, 21, 22, 124]) (.cond (.t 124) (.skip) (.exit 4))) (.seq (.block 5 (.seq (.region c_r02_Next_r17 (some ([0, 0, 2, 7, 0, 0, 48, 0, 128, 0, 896, 2032, 4095, 0, 8192, 24576, 65535, 0, 131072, 393216, 1048575, 2097151], [(2, 15), (2, 19)])) [3, 5, 6, 7, 14, 15, 16, 17, 18, 19, 20, 22, 23]) (.seq (.region c_r02_Next_r18 none [3, 5, 6, 7, 14, 15, 16, 17, 18, 19, 20, 22, 23, 24]) (.seq (.region c_r02_Next_r19 none [3, 5, 6, 7, 14, 15, 16, 17, 18, 19, 21, 22, 23, 24]) (.seq (.region c_r02_Next_r20 none [3, 5, 6, 7, 14, 15, 16, 17, 18, 20, 21, 22, 23, 24]) (.seq (.region c_r02_Next_r21 none [3, 5, 6, 7, 14, 15, 16, 17, 19, 20, 21, 22, 23, 24]) (.seq (.region c_r02_Next_r22 none [3, 5, 6, 7, 14, 15, 16, 18, 19, 20, 21, 22, 23, 24]) (.seq (.region c_r02_Next_r23 none [3, 5, 6, 7, 14, 15, 17, 18, 19, 20, 21, 22, 23, 24]) (.seq (.region c_r02_Next_r24 none [3, 5, 6, 7, 14, 16, 17, 18, 19, 20, 21, 22, 23, 24]) (.seq (.region c_r02_Next_r25 none [3, 5, 6, 7, 15, 16, 17, 18, 19, 20, 21, 22, 23, 24]) (.region c_r02_Next_r26 none [3, 5, 6, 7, 14, 15, 16, 17, 18, 19, 20, 21, 22]))))))))))) (.region c_r02_Next_r16 none [3, 5, 6, 7, 14, 15, 16, 17, 18, 19, 20, 21, 22])))))) (.seq (.region c_r02_Next_r27 none [6]) (.ret)))))))
@[simp] def R_r02_Next : List CRes := [.cell 6 true 8]
theorem k_r02_Next : chkFn Tryd.prog fn_r02_Next c_r02_Next R_r02_Next 3 = true := by kernel_rfl
/-! wapentake/wapentakeref09.nums -/
@[simp] def a_r09_nums_r0 : List COper := [
  ⟨(some 2), .mov, [.c (.string (mkS []))], none⟩]
def c_r09_nums_r0 : List COper := a_r09_nums_r0
instance : Reg c_r09_nums_r0 a_r09_nums_r0 1 := ⟨rfl, rfl⟩
@[simp] def a_r09_nums_r1 : List COper := [
  ⟨(some 3), .mov, [.c (.string (mkS []))], none⟩]
def c_r09_nums_r1 : List COper := a_r09_nums_r1
instance : Reg c_r09_nums_r1 a_r09_nums_r1 1 := ⟨rfl, rfl⟩
@[simp] def a_r09_nums_r2 : List COper := [
  ⟨(some 6), .mov, [.t 0], none⟩,
  ⟨(some 7), .len, [.t 6], none⟩,
  ⟨(some 8), .mov, [.c (.int .i64 0)], none⟩]
def c_r09_nums_r2 : List COper := a_r09_nums_r2
instance : Reg c_r09_nums_r2 a_r09_nums_r2 3 := ⟨rfl, rfl⟩
@[simp] def a_r09_nums_r3 : List COper := [
  ⟨(some 9), .bin .lss, [.t 8, .t 7], none⟩]
def c_r09_nums_r3 : List COper := a_r09_nums_r3
instance : Reg c_r09_nums_r3 a_r09_nums_r3 1 := ⟨rfl, rfl⟩
@[simp] def a_r09_nums_r4 : List COper := [
  ⟨(some 10), .iaddr 1, [.t 6, .t 8], none⟩,
  ⟨(some 11), .load false 1, [.t 10], none⟩,
  ⟨(some 5), .mov, [.t 11], none⟩]
def c_r09_nums_r4 : List COper := a_r09_nums_r4
instance : Reg c_r09_nums_r4 a_r09_nums_r4 3 := ⟨rfl, rfl⟩
@[simp] def a_r09_nums_r5 : List COper := [
  ⟨(some 12), .mov, [.t 3], none⟩,
  ⟨(some 13), .mov, [.t 5], none⟩,
  ⟨(some 14), .call fn_r01_Num, [.t 13], none⟩,
  ⟨(some 15), .bin .add, [.t 12, .t 14], none⟩,
  ⟨(some 3), .mov, [.t 15], none⟩]
def c_r09_nums_r5 : List COper := a_r09_nums_r5
instance : Reg c_r09_nums_r5 a_r09_nums_r5 5 := ⟨rfl, rfl⟩
@[simp] def a_r09_nums_r6 : List COper := [
  ⟨(some 16), .bin .add, [.t 8, .c (.int .i64 1)], none⟩,
  ⟨(some 8), .mov, [.t 16], none⟩]
def c_r09_nums_r6 : List COper := a_r09_nums_r6
instance : Reg c_r09_nums_r6 a_r09_nums_r6 2 := ⟨rfl, rfl⟩
@[simp] def a_r09_nums_r7 : List COper := [
  ⟨(some 17), .mov, [.t 3], none⟩,
  ⟨(some 2), .mov, [.t 17], none⟩]
def c_r09_nums_r7 : List COper := a_r09_nums_r7
instance : Reg c_r09_nums_r7 a_r09_nums_r7 2 := ⟨rfl, rfl⟩
@[simp] def c_r09_nums : CCode :=
  .seq (.region c_r09_nums_r0 none [0]) (.seq (.region c_r09_nums_r1 none [0, 3]) (.seq (.seq (.region c_r09_nums_r2 none [3, 6, 7, 8]) (.block 0 (.loop (.seq (.region c_r09_nums_r3 none [3, 6, 7, 8, 9]) (.seq (.cond (.t 9) (.skip) (.exit 0)) (.seq (.block 1 (.seq (.region c_r09_nums_r4 none [3, 5, 6, 7, 8]) (.region c_r09_nums_r5 none [3, 6, 7, 8]))) (.region c_r09_nums_r6 none [3, 6, 7, 8]))))))) (.seq (.region c_r09_nums_r7 none [2]) (.ret))))
@[simp] def R_r09_nums : List CRes := [.tmp 2]
theorem k_r09_nums : chkFn Tryd.prog fn_r09_nums c_r09_nums R_r09_nums 1 = true := by kernel_rfl
/-! (*wapentake/sha.state).block -/
@[simp] def a_sha_state_block_r0 : List COper := [
  ⟨(some 4), .alloc (.arr 1 (rep 64 (.v (.int .u32 0)))), [], none⟩]
def c_sha_state_block_r0 : List COper := a_sha_state_block_r0
instance : Reg c_sha_state_block_r0 a_sha_state_block_r0 1 := ⟨rfl, rfl⟩
@[simp] def a_sha_state_block_r1 : List COper := [
  ⟨(some 26), .mov, [.c (.int .i64 0)], none⟩]
def c_sha_state_block_r1 : List COper := a_sha_state_block_r1
instance : Reg c_sha_state_block_r1 a_sha_state_block_r1 1 := ⟨rfl, rfl⟩
@[simp] def a_sha_state_block_r2 : List COper := [
  ⟨(some 27), .bin .lss, [.t 26, .c (.int .i64 16)], none⟩]
def c_sha_state_block_r2 : List COper := a_sha_state_block_r2
instance : Reg c_sha_state_block_r2 a_sha_state_block_r2 1 := ⟨rfl, rfl⟩
@[simp] def a_sha_state_block_r3 : List COper := [
  ⟨(some 28), .mov, [.t 26], none⟩,
  ⟨(some 5), .mov, [.t 28], none⟩]
def c_sha_state_block_r3 : List COper := a_sha_state_block_r3
instance : Reg c_sha_state_block_r3 a_sha_state_block_r3 2 := ⟨rfl, rfl⟩
@[simp] def a_sha_state_block_r4 : List COper := [
  ⟨(some 29), .mov, [.t 5], none⟩,
  ⟨(some 30), .mov, [.t 1], none⟩,
  ⟨(some 31), .mov, [.t 5], none⟩,
  ⟨(some 32), .bin .mul, [.c (.int .i64 4), .t 31], none⟩,
  ⟨(some 33), .slice 1 true false, [.t 30, .t 32], none⟩,
  ⟨(some 34), .call fn_sha_word, [.t 33], none⟩,
  ⟨(some 35), .iaddrArr 64 1 false, [.t 4, .t 29], none⟩,
  ⟨none, .store false 1, [.t 35, .t 34], none⟩]
def c_sha_state_block_r4 : List COper := a_sha_state_block_r4
instance : Reg c_sha_state_block_r4 a_sha_state_block_r4 8 := ⟨rfl, rfl⟩
@[simp] def a_sha_state_block_r5 : List COper := [
  ⟨(some 36), .bin .add, [.t 26, .c (.int .i64 1)], none⟩,
  ⟨(some 26), .mov, [.t 36], none⟩]
def c_sha_state_block_r5 : List COper := a_sha_state_block_r5
instance : Reg c_sha_state_block_r5 a_sha_state_block_r5 2 := ⟨rfl, rfl⟩
@[simp] def a_sha_state_block_r6 : List COper := [
  ⟨(some 6), .mov, [.c (.int .i64 16)], none⟩]
def c_sha_state_block_r6 : List COper := a_sha_state_block_r6
instance : Reg c_sha_state_block_r6 a_sha_state_block_r6 1 := ⟨rfl, rfl⟩
@[simp] def a_sha_state_block_r7 : List COper := [
  ⟨(some 37), .mov, [.t 6], none⟩,
  ⟨(some 38), .bin .lss, [.t 37, .c (.int .i64 64)], none⟩]
def c_sha_state_block_r7 : List COper := a_sha_state_block_r7
instance : Reg c_sha_state_block_r7 a_sha_state_block_r7 2 := ⟨rfl, rfl⟩
@[simp] def a_sha_state_block_r9 : List COper := [
  ⟨(some 41), .mov, [.t 6], none⟩,
  ⟨(some 42), .bin .sub, [.t 41, .c (.int .i64 15)], none⟩,
  ⟨(some 43), .iaddrArr 64 1 false, [.t 4, .t 42], none⟩,
  ⟨(some 44), .load false 1, [.t 43], none⟩,
  ⟨(some 45), .mov, [.t 6], none⟩,
  ⟨(some 46), .bin .sub, [.t 45, .c (.int .i64 2)], none⟩,
  ⟨(some 47), .iaddrArr 64 1 false, [.t 4, .t 46], none⟩,
  ⟨(some 48), .load false 1, [.t 47], none⟩,
  ⟨(some 7), .mov, [.t 44], none⟩,
  ⟨(some 8), .mov, [.t 48], none⟩]
def c_sha_state_block_r9 : List COper := a_sha_state_block_r9
instance : Reg c_sha_state_block_r9 a_sha_state_block_r9 10 := ⟨rfl, rfl⟩
@[simp] def a_sha_state_block_r10 : List COper := [
  ⟨(some 49), .mov, [.t 7], none⟩,
  ⟨(some 50), .call fn_bits_RotateLeft32, [.t 49, .c (.int .i64 (-7))], none⟩,
  ⟨(some 51), .mov, [.t 7], none⟩,
  ⟨(some 52), .call fn_bits_RotateLeft32, [.t 51, .c (.int .i64 (-18))], none⟩,
  ⟨(some 53), .bin .xor, [.t 50, .t 52], none⟩,
  ⟨(some 54), .mov, [.t 7], none⟩,
  ⟨(some 55), .bin .shr, [.t 54, .c (.int .u64 3)], none⟩,
  ⟨(some 56), .bin .xor, [.t 53, .t 55], none⟩,
  ⟨(some 9), .mov, [.t 56], none⟩]
def c_sha_state_block_r10 : List COper := a_sha_state_block_r10
instance : Reg c_sha_state_block_r10 a_sha_state_block_r10 9 := ⟨rfl, rfl⟩
@[simp] def a_sha_state_block_r11 : List COper := [
  ⟨(some 57), .mov, [.t 8], none⟩,
  ⟨(some 58), .call fn_bits_RotateLeft32, [.t 57, .c (.int .i64 (-17))], none⟩,
  ⟨(some 59), .mov, [.t 8], none⟩,
  ⟨(some 60), .call fn_bits_RotateLeft32, [.t 59, .c (.int .i64 (-19))], none⟩,
  ⟨(some 61), .bin .xor, [.t 58, .t 60], none⟩,
  ⟨(some 62), .mov, [.t 8], none⟩,
  ⟨(some 63), .bin .shr, [.t 62, .c (.int .u64 10)], none⟩,
  ⟨(some 64), .bin .xor, [.t 61, .t 63], none⟩,
  ⟨(some 10), .mov, [.t 64], none⟩]
def c_sha_state_block_r11 : List COper := a_sha_state_block_r11
instance : Reg c_sha_state_block_r11 a_sha_state_block_r11 9 := ⟨rfl, rfl⟩
@[simp] def a_sha_state_block_r12 : List COper := [
  ⟨(some 65), .mov, [.t 6], none⟩,
  ⟨(some 66), .mov, [.t 6], none⟩,
  ⟨(some 67), .bin .sub, [.t 66, .c (.int .i64 16)], none⟩,
  ⟨(some 68), .iaddrArr 64 1 false, [.t 4, .t 67], none⟩,
  ⟨(some 69), .load false 1, [.t 68], none⟩,
  ⟨(some 70), .mov, [.t 9], none⟩,
  ⟨(some 71), .bin .add, [.t 69, .t 70], none⟩,
  ⟨(some 72), .mov, [.t 6], none⟩,
  ⟨(some 73), .bin .sub, [.t 72, .c (.int .i64 7)], none⟩,
  ⟨(some 74), .iaddrArr 64 1 false, [.t 4, .t 73], none⟩,
  ⟨(some 75), .load false 1, [.t 74], none⟩,
  ⟨(some 76), .bin .add, [.t 71, .t 75], none⟩,
  ⟨(some 77), .mov, [.t 10], none⟩,
  ⟨(some 78), .bin .add, [.t 76, .t 77], none⟩,
  ⟨(some 79), .iaddrArr 64 1 false, [.t 4, .t 65], none⟩,
  ⟨none, .store false 1, [.t 79, .t 78], none⟩]
def c_sha_state_block_r12 : List COper := a_sha_state_block_r12
instance : Reg c_sha_state_block_r12 a_sha_state_block_r12 16 := ⟨rfl, rfl⟩
@[simp] def a_sha_state_block_r8 : List COper := [
  ⟨(some 39), .mov, [.t 6], none⟩,
  ⟨(some 40), .bin .add, [.t 39, .c (.int .i64 1)], none⟩,
  ⟨(some 6), .mov, [.t 40], none⟩]
def c_sha_state_block_r8 : List COper := a_sha_state_block_r8
instance : Reg c_sha_state_block_r8 a_sha_state_block_r8 3 := ⟨rfl, rfl⟩
@[simp] def a_sha_state_block_r13 : List COper := [
  ⟨(some 80), .mov, [.t 0], none⟩,
  ⟨(some 81), .nilc, [.t 80], none⟩,
  ⟨(some 82), .iaddrArr 8 1 false, [.t 81, .c (.int .i64 0)], none⟩,
  ⟨(some 83), .load false 1, [.t 82], none⟩,
  ⟨(some 84), .mov, [.t 0], none⟩,
  ⟨(some 85), .nilc, [.t 84], none⟩,
  ⟨(some 86), .iaddrArr 8 1 false, [.t 85, .c (.int .i64 1)], none⟩,
  ⟨(some 87), .load false 1, [.t 86], none⟩,
  ⟨(some 88), .mov, [.t 0], none⟩,
  ⟨(some 89), .nilc, [.t 88], none⟩,
  ⟨(some 90), .iaddrArr 8 1 false, [.t 89, .c (.int .i64 2)], none⟩,
  ⟨(some 91), .load false 1, [.t 90], none⟩,
  ⟨(some 92), .mov, [.t 0], none⟩,
  ⟨(some 93), .nilc, [.t 92], none⟩,
  ⟨(some 94), .iaddrArr 8 1 false, [.t 93, .c (.int .i64 3)], none⟩,
  ⟨(some 95), .load false 1, [.t 94], none⟩,
  ⟨(some 96), .mov, [.t 0], none⟩,
  ⟨(some 97), .nilc, [.t 96], none⟩,
  ⟨(some 98), .iaddrArr 8 1 false, [.t 97, .c (.int .i64 4)], none⟩,
  ⟨(some 99), .load false 1, [.t 98], none⟩,
  ⟨(some 100), .mov, [.t 0], none⟩,
  ⟨(some 101), .nilc, [.t 100], none⟩,
  ⟨(some 102), .iaddrArr 8 1 false, [.t 101, .c (.int .i64 5)], none⟩,
  ⟨(some 103), .load false 1, [.t 102], none⟩,
  ⟨(some 104), .mov, [.t 0], none⟩,
  ⟨(some 105), .nilc, [.t 104], none⟩,
  ⟨(some 106), .iaddrArr 8 1 false, [.t 105, .c (.int .i64 6)], none⟩,
  ⟨(some 107), .load false 1, [.t 106], none⟩,
  ⟨(some 108), .mov, [.t 0], none⟩,
  ⟨(some 109), .nilc, [.t 108], none⟩,
  ⟨(some 110), .iaddrArr 8 1 false, [.t 109, .c (.int .i64 7)], none⟩,
  ⟨(some 111), .load false 1, [.t 110], none⟩,
  ⟨(some 11), .mov, [.t 83], none⟩,
  ⟨(some 12), .mov, [.t 87], none⟩,
  ⟨(some 13), .mov, [.t 91], none⟩,
  ⟨(some 14), .mov, [.t 95], none⟩,
  ⟨(some 15), .mov, [.t 99], none⟩,
  ⟨(some 16), .mov, [.t 103], none⟩,
  ⟨(some 17), .mov, [.t 107], none⟩,
  ⟨(some 18), .mov, [.t 111], none⟩]
def c_sha_state_block_r13 : List COper := a_sha_state_block_r13
instance : Reg c_sha_state_block_r13 a_sha_state_block_r13 40 := ⟨rfl, rfl⟩
@[simp] def a_sha_state_block_r14 : List COper := [
  ⟨(some 112), .load true 64, [.t 4], none⟩,
  ⟨(some 113), .mov, [.c (.int .i64 0)], none⟩]
def c_sha_state_block_r14 : List COper := a_sha_state_block_r14
instance : Reg c_sha_state_block_r14 a_sha_state_block_r14 2 := ⟨rfl, rfl⟩
@[simp] def a_sha_state_block_r15 : List COper := [
  ⟨(some 114), .bin .lss, [.t 113, .c (.int .i64 64)], none⟩]
def c_sha_state_block_r15 : List COper := a_sha_state_block_r15
instance : Reg c_sha_state_block_r15 a_sha_state_block_r15 1 := ⟨rfl, rfl⟩
@[simp] def a_sha_state_block_r16 : List COper := [
  ⟨(some 115), .mov, [.t 113], none⟩,
  ⟨(some 116), .idx false 64 1, [.t 112, .t 113], none⟩,
  ⟨(some 19), .mov, [.t 115], none⟩,
  ⟨(some 20), .mov, [.t 116], none⟩]
def c_sha_state_block_r16 : List COper := a_sha_state_block_r16
instance : Reg c_sha_state_block_r16 a_sha_state_block_r16 4 := ⟨rfl, rfl⟩
@[simp] def a_sha_state_block_r17 : List COper := [
  ⟨(some 117), .mov, [.t 15], none⟩,
  ⟨(some 118), .call fn_bits_RotateLeft32, [.t 117, .c (.int .i64 (-6))], none⟩,
  ⟨(some 119), .mov, [.t 15], none⟩,
  ⟨(some 120), .call fn_bits_RotateLeft32, [.t 119, .c (.int .i64 (-11))], none⟩,
  ⟨(some 121), .bin .xor, [.t 118, .t 120], none⟩,
  ⟨(some 122), .mov, [.t 15], none⟩,
  ⟨(some 123), .call fn_bits_RotateLeft32, [.t 122, .c (.int .i64 (-25))], none⟩,
  ⟨(some 124), .bin .xor, [.t 121, .t 123], none⟩,
  ⟨(some 21), .mov, [.t 124], none⟩]
def c_sha_state_block_r17 : List COper := a_sha_state_block_r17
instance : Reg c_sha_state_block_r17 a_sha_state_block_r17 9 := ⟨rfl, rfl⟩
@[simp] def a_sha_state_block_r18 : List COper := [
  ⟨(some 125), .mov, [.t 18], none⟩,
  ⟨(some 126), .mov, [.t 21], none⟩,
  ⟨(some 127), .bin .add, [.t 125, .t 126], none⟩,
  ⟨(some 128), .mov, [.t 15], none⟩,
  ⟨(some 129), .mov, [.t 16], none⟩,
  ⟨(some 130), .bin .and, [.t 128, .t 129], none⟩,
  ⟨(some 131), .mov, [.t 15], none⟩,
  ⟨(some 132), .un .xor, [.t 131], none⟩,
  ⟨(some 133), .mov, [.t 17], none⟩,
  ⟨(some 134), .bin .and, [.t 132, .t 133], none⟩,
  ⟨(some 135), .bin .xor, [.t 130, .t 134], none⟩,
  ⟨(some 136), .bin .add, [.t 127, .t 135], none⟩,
  ⟨(some 137), .mov, [.t 19], none⟩,
  ⟨(some 138), .iaddrArr 64 1 false, [.g 0, .t 137], none⟩,
  ⟨(some 139), .load false 1, [.t 138], none⟩,
  ⟨(some 140), .bin .add, [.t 136, .t 139], none⟩,
  ⟨(some 141), .mov, [.t 20], none⟩,
  ⟨(some 142), .bin .add, [.t 140, .t 141], none⟩,
  ⟨(some 22), .mov, [.t 142], none⟩]
def c_sha_state_block_r18 : List COper := a_sha_state_block_r18
instance : Reg c_sha_state_block_r18 a_sha_state_block_r18 19 := ⟨rfl, rfl⟩
@[simp] def a_sha_state_block_r19 : List COper := [
  ⟨(some 143), .mov, [.t 11], none⟩,
  ⟨(some 144), .call fn_bits_RotateLeft32, [.t 143, .c (.int .i64 (-2))], none⟩,
  ⟨(some 145), .mov, [.t 11], none⟩,
  ⟨(some 146), .call fn_bits_RotateLeft32, [.t 145, .c (.int .i64 (-13))], none⟩,
  ⟨(some 147), .bin .xor, [.t 144, .t 146], none⟩,
  ⟨(some 148), .mov, [.t 11], none⟩,
  ⟨(some 149), .call fn_bits_RotateLeft32, [.t 148, .c (.int .i64 (-22))], none⟩,
  ⟨(some 150), .bin .xor, [.t 147, .t 149], none⟩,
  ⟨(some 23), .mov, [.t 150], none⟩]
def c_sha_state_block_r19 : List COper := a_sha_state_block_r19
instance : Reg c_sha_state_block_r19 a_sha_state_block_r19 9 := ⟨rfl, rfl⟩
@[simp] def a_sha_state_block_r20 : List COper := [
  ⟨(some 151), .mov, [.t 23], none⟩,
  ⟨(some 152), .mov, [.t 11], none⟩,
  ⟨(some 153), .mov, [.t 12], none⟩,
  ⟨(some 154), .bin .and, [.t 152, .t 153], none⟩,
  ⟨(some 155), .mov, [.t 11], none⟩,
  ⟨(some 156), .mov, [.t 13], none⟩,
  ⟨(some 157), .bin .and, [.t 155, .t 156], none⟩,
  ⟨(some 158), .bin .xor, [.t 154, .t 157], none⟩,
  ⟨(some 159), .mov, [.t 12], none⟩,
  ⟨(some 160), .mov, [.t 13], none⟩,
  ⟨(some 161), .bin .and, [.t 159, .t 160], none⟩,
  ⟨(some 162), .bin .xor, [.t 158, .t 161], none⟩,
  ⟨(some 163), .bin .add, [.t 151, .t 162], none⟩,
  ⟨(some 23), .mov, [.t 163], none⟩]
def c_sha_state_block_r20 : List COper := a_sha_state_block_r20
instance : Reg c_sha_state_block_r20 a_sha_state_block_r20 14 := ⟨rfl, rfl⟩
@[simp] def a_sha_state_block_r21 : List COper := [
  ⟨(some 164), .mov, [.t 22], none⟩,
  ⟨(some 165), .mov, [.t 23], none⟩,
  ⟨(some 166), .bin .add, [.t 164, .t 165], none⟩,
  ⟨(some 167), .mov, [.t 11], none⟩,
  ⟨(some 168), .mov, [.t 12], none⟩,
  ⟨(some 169), .mov, [.t 13], none⟩,
  ⟨(some 170), .mov, [.t 14], none⟩,
  ⟨(some 171), .mov, [.t 22], none⟩,
  ⟨(some 172), .bin .add, [.t 170, .t 171], none⟩,
  ⟨(some 173), .mov, [.t 15], none⟩,
  ⟨(some 174), .mov, [.t 16], none⟩,
  ⟨(some 175), .mov, [.t 17], none⟩,
  ⟨(some 11), .mov, [.t 166], none⟩,
  ⟨(some 12), .mov, [.t 167], none⟩,
  ⟨(some 13), .mov, [.t 168], none⟩,
  ⟨(some 14), .mov, [.t 169], none⟩,
  ⟨(some 15), .mov, [.t 172], none⟩,
  ⟨(some 16), .mov, [.t 173], none⟩,
  ⟨(some 17), .mov, [.t 174], none⟩,
  ⟨(some 18), .mov, [.t 175], none⟩]
def c_sha_state_block_r21 : List COper := a_sha_state_block_r21
instance : Reg c_sha_state_block_r21 a_sha_state_block_r21 20 := ⟨rfl, rfl⟩
@[simp] def a_sha_state_block_r22 : List COper := [
  ⟨(some 176), .bin .add, [.t 113, .c (.int .i64 1)], none⟩,
  ⟨(some 113), .mov, [.t 176], none⟩]
def c_sha_state_block_r22 : List COper := a_sha_state_block_r22
instance : Reg c_sha_state_block_r22 a_sha_state_block_r22 2 := ⟨rfl, rfl⟩
@[simp] def a_sha_state_block_r23 : List COper := [
  ⟨(some 177), .mov, [.t 11], none⟩,
  ⟨(some 178), .mov, [.t 12], none⟩,
  ⟨(some 179), .mov, [.t 13], none⟩,
  ⟨(some 180), .mov, [.t 14], none⟩,
  ⟨(some 181), .mov, [.t 15], none⟩,
  ⟨(some 182), .mov, [.t 16], none⟩,
  ⟨(some 183), .mov, [.t 17], none⟩,
  ⟨(some 184), .mov, [.t 18], none⟩,
  ⟨(some 185), .buildA 1 (rep 8 (.v (.int .u32 0))) (upTo 8), [.t 177, .t 178, .t 179, .t 180, .t 181, .t 182, .t 183, .t 184], none⟩,
  ⟨(some 186), .mov, [.c (.int .i64 0)], none⟩]
def c_sha_state_block_r23 : List COper := a_sha_state_block_r23
instance : Reg c_sha_state_block_r23 a_sha_state_block_r23 10 := ⟨rfl, rfl⟩
@[simp] def a_sha_state_block_r24 : List COper := [
  ⟨(some 187), .bin .lss, [.t 186, .c (.int .i64 8)], none⟩]
def c_sha_state_block_r24 : List COper := a_sha_state_block_r24
instance : Reg c_sha_state_block_r24 a_sha_state_block_r24 1 := ⟨rfl, rfl⟩
@[simp] def a_sha_state_block_r25 : List COper := [
  ⟨(some 188), .mov, [.t 186], none⟩,
  ⟨(some 189), .idx false 8 1, [.t 185, .t 186], none⟩,
  ⟨(some 24), .mov, [.t 188], none⟩,
  ⟨(some 25), .mov, [.t 189], none⟩]
def c_sha_state_block_r25 : List COper := a_sha_state_block_r25
instance : Reg c_sha_state_block_r25 a_sha_state_block_r25 4 := ⟨rfl, rfl⟩
@[simp] def a_sha_state_block_r26 : List COper := [
  ⟨(some 190), .mov, [.t 0], none⟩,
  ⟨(some 191), .mov, [.t 24], none⟩,
  ⟨(some 192), .nilc, [.t 190], none⟩,
  ⟨(some 193), .iaddrArr 8 1 false, [.t 192, .t 191], none⟩,
  ⟨(some 194), .load false 1, [.t 193], none⟩,
  ⟨(some 195), .mov, [.t 25], none⟩,
  ⟨(some 196), .bin .add, [.t 194, .t 195], none⟩,
  ⟨(some 197), .nilc, [.t 190], none⟩,
  ⟨(some 198), .iaddrArr 8 1 false, [.t 197, .t 191], none⟩,
  ⟨none, .store false 1, [.t 198, .t 196], none⟩]
def c_sha_state_block_r26 : List COper := a_sha_state_block_r26
instance : Reg c_sha_state_block_r26 a_sha_state_block_r26 10 := ⟨rfl, rfl⟩
@[simp] def a_sha_state_block_r27 : List COper := [
  ⟨(some 199), .bin .add, [.t 186, .c (.int .i64 1)], none⟩,
  ⟨(some 186), .mov, [.t 199], none⟩]
def c_sha_state_block_r27 : List COper := a_sha_state_block_r27
instance : Reg c_sha_state_block_r27 a_sha_state_block_r27 2 := ⟨rfl, rfl⟩
@[simp] def c_sha_state_block : CCode :=
  .seq (.region c_sha_state_block_r0 none [0, 1, 4]) (.seq (.seq (.region c_sha_state_block_r1 none [0, 1, 4, 26]) (.block 0 (.loop (.seq (.region c_sha_state_block_r2 none [0, 1, 4, 26, 27]) (.seq (.cond (.t 27) (.skip) (.exit 0)) (.seq (.block 1 (.seq (.region c_sha_state_block_r3 none [0, 1, 4, 5, 26]) (.region c_sha_state_block_r4 none [0, 1, 4, 26]))) (.region c_sha_state_block_r5 none [0, 1, 4, 26]))))))) (.seq (.seq (.region c_sha_state_block_r6 none [0, 4, 6]) (.block 2 (.loop (.seq (.seq (.region c_sha_state_block_r7 none [0, 4, 6, 38]) (.cond (.t 38) (.skip) (.exit 2))) (.seq (.block 3 (.seq (.region c_sha_state_block_r9 (some ([0, 1, 3, 7, 0, 16, 48, 112, 15, 511], [])) [0, 4, 6, 7, 8]) (.seq (.region c_sha_state_block_r10 none [0, 4, 6, 8, 9]) (.seq (.region c_sha_state_block_r11 none [0, 4, 6, 9, 10]) (.region c_sha_state_block_r12 (some ([0, 0, 2, 6, 14, 0, 62, 0, 128, 384, 896, 2046, 0, 8190, 16383, 32767], [])) [0, 4, 6]))))) (.region c_sha_state_block_r8 none [0, 4, 6])))))) (.seq (.region c_sha_state_block_r13 (some ([0, 1, 3, 7, 0, 16, 48, 112, 0, 256, 768, 1792, 0, 4096, 12288, 28672, 0, 65536, 196608, 458752, 0, 1048576, 3145728, 7340032, 0, 16777216, 50331648, 117440512, 0, 268435456, 805306368, 1879048192, 15, 4294967551, 12884905983, 30064836607, 64425558015, 133160763391, 270851375103, 549755813887], [])) [0, 4, 11, 12, 13, 14, 15, 16, 17, 18]) (.seq (.seq (.region c_sha_state_block_r14 none [0, 11, 12, 13, 14, 15, 16, 17, 18, 112, 113]) (.block 4 (.loop (.seq (.region c_sha_state_block_r15 none [0, 11, 12, 13, 14, 15, 16, 17, 18, 112, 113, 114]) (.seq (.cond (.t 114) (.skip) (.exit 4)) (.seq (.block 5 (.seq (.region c_sha_state_block_r16 none [0, 11, 12, 13, 14, 15, 16, 17, 18, 19, 20, 112, 113]) (.seq (.region c_sha_state_block_r17 none [0, 11, 12, 13, 14, 15, 16, 17, 18, 19, 20, 21, 112, 113]) (.seq (.region c_sha_state_block_r18 none [0, 11, 12, 13, 14, 15, 16, 17, 22, 112, 113]) (.seq (.region c_sha_state_block_r19 none [0, 11, 12, 13, 14, 15, 16, 17, 22, 23, 112, 113]) (.seq (.region c_sha_state_block_r20 none [0, 11, 12, 13, 14, 15, 16, 17, 22, 23, 112, 113]) (.region c_sha_state_block_r21 none [0, 11, 12, 13, 14, 15, 16, 17, 18, 112, 113]))))))) (.region c_sha_state_block_r22 none [0, 11, 12, 13, 14, 15, 16, 17, 18, 112, 113]))))))) (.seq (.region c_sha_state_block_r23 none [0, 185, 186]) (.block 6 (.loop (.seq (.region c_sha_state_block_r24 none [0, 185, 186, 187]) (.seq (.cond (.t 187) (.skip) (.exit 6)) (.seq (.block 7 (.seq (.region c_sha_state_block_r25 none [0, 24, 25, 185, 186]) (.region c_sha_state_block_r26 (some ([0, 0, 1, 7, 15, 0, 63, 1, 255, 511], [])) [0, 185, 186]))) (.region c_sha_state_block_r27 none [0, 185, 186])))))))))))
@[simp] def R_sha_state_block : List CRes := []
theorem k_sha_state_block : chkFn Tryd.prog fn_sha_state_block c_sha_state_block R_sha_state_block 2 = true := by kernel_rfl
/-! (*wapentake/code.Reader).take -/
@[simp] def a_code_Reader_take_r0 : List COper := [
  ⟨(some 4), .mov, [.c (.slice none 0 0)], none⟩]
def c_code_Reader_take_r0 : List COper := a_code_Reader_take_r0
instance : Reg c_code_Reader_take_r0 a_code_Reader_take_r0 1 := ⟨rfl, rfl⟩
@[simp] def a_code_Reader_take_r1 : List COper := [
  ⟨(some 6), .mov, [.t 0], none⟩,
  ⟨(some 7), .eqp false, [.t 6, .c (.pointer none)], none⟩]
def c_code_Reader_take_r1 : List COper := a_code_Reader_take_r1
instance : Reg c_code_Reader_take_r1 a_code_Reader_take_r1 2 := ⟨rfl, rfl⟩
@[simp] def a_code_Reader_take_r2 : List COper := [
  ⟨(some 4), .mov, [.c (.slice none 0 0)], none⟩]
def c_code_Reader_take_r2 : List COper := a_code_Reader_take_r2
instance : Reg c_code_Reader_take_r2 a_code_Reader_take_r2 1 := ⟨rfl, rfl⟩
@[simp] def a_code_Reader_take_r3 : List COper := [
  ⟨(some 8), .mov, [.t 0], none⟩,
  ⟨(some 9), .nilc, [.t 8], none⟩,
  ⟨(some 10), .faddr 1 1 false, [.t 9], none⟩,
  ⟨(some 11), .load false 1, [.t 10], none⟩,
  ⟨(some 12), .mov, [.t 11], none⟩,
  ⟨(some 13), .mov, [.t 1], (some (12, false))⟩,
  ⟨(some 14), .bin .lss, [.t 13, .c (.int .i64 0)], (some (12, false))⟩,
  ⟨(some 15), .pick, [.t 12, .c (.bool true), .t 14], none⟩,
  ⟨(some 16), .mov, [.t 15], none⟩,
  ⟨(some 17), .mov, [.t 1], (some (16, false))⟩,
  ⟨(some 18), .mov, [.t 0], (some (16, false))⟩,
  ⟨(some 19), .nilc, [.t 18], (some (16, false))⟩,
  ⟨(some 20), .faddr 0 1 false, [.t 19], (some (16, false))⟩,
  ⟨(some 21), .load false 1, [.t 20], (some (16, false))⟩,
  ⟨(some 22), .len, [.t 21], (some (16, false))⟩,
  ⟨(some 23), .bin .gtr, [.t 17, .t 22], (some (16, false))⟩,
  ⟨(some 24), .pick, [.t 16, .c (.bool true), .t 23], none⟩]
def c_code_Reader_take_r3 : List COper := a_code_Reader_take_r3
instance : Reg c_code_Reader_take_r3 a_code_Reader_take_r3 17 := ⟨rfl, rfl⟩
@[simp] def a_code_Reader_take_r4 : List COper := [
  ⟨(some 25), .mov, [.t 0], none⟩,
  ⟨(some 26), .nilc, [.t 25], none⟩,
  ⟨(some 27), .faddr 0 1 false, [.t 26], none⟩,
  ⟨(some 28), .load false 1, [.t 27], none⟩,
  ⟨(some 29), .mov, [.t 1], none⟩,
  ⟨(some 30), .slice 1 false true, [.t 28, .t 29], none⟩,
  ⟨(some 5), .mov, [.t 30], none⟩]
def c_code_Reader_take_r4 : List COper := a_code_Reader_take_r4
instance : Reg c_code_Reader_take_r4 a_code_Reader_take_r4 7 := ⟨rfl, rfl⟩
@[simp] def a_code_Reader_take_r5 : List COper := [
  ⟨(some 31), .mov, [.t 0], none⟩,
  ⟨(some 32), .mov, [.t 0], none⟩,
  ⟨(some 33), .nilc, [.t 32], none⟩,
  ⟨(some 34), .faddr 0 1 false, [.t 33], none⟩,
  ⟨(some 35), .load false 1, [.t 34], none⟩,
  ⟨(some 36), .mov, [.t 1], none⟩,
  ⟨(some 37), .slice 1 true false, [.t 35, .t 36], none⟩,
  ⟨(some 38), .nilc, [.t 31], none⟩,
  ⟨(some 39), .faddr 0 1 false, [.t 38], none⟩,
  ⟨none, .store false 1, [.t 39, .t 37], none⟩]
def c_code_Reader_take_r5 : List COper := a_code_Reader_take_r5
instance : Reg c_code_Reader_take_r5 a_code_Reader_take_r5 10 := ⟨rfl, rfl⟩
@[simp] def a_code_Reader_take_r6 : List COper := [
  ⟨(some 40), .mov, [.t 5], none⟩,
  ⟨(some 4), .mov, [.t 40], none⟩]
def c_code_Reader_take_r6 : List COper := a_code_Reader_take_r6
instance : Reg c_code_Reader_take_r6 a_code_Reader_take_r6 2 := ⟨rfl, rfl⟩
@[simp] def a_code_Reader_take_r7 : List COper := [
  ⟨(some 41), .mov, [.t 0], none⟩,
  ⟨(some 42), .mov, [.t 0], none⟩,
  ⟨(some 43), .nilc, [.t 41], none⟩,
  ⟨(some 44), .faddr 1 1 false, [.t 43], none⟩,
  ⟨none, .store false 1, [.t 44, .c (.bool true)], none⟩,
  ⟨(some 45), .nilc, [.t 42], none⟩,
  ⟨(some 46), .faddr 0 1 false, [.t 45], none⟩,
  ⟨none, .store false 1, [.t 46, .c (.slice none 0 0)], none⟩]
def c_code_Reader_take_r7 : List COper := a_code_Reader_take_r7
instance : Reg c_code_Reader_take_r7 a_code_Reader_take_r7 8 := ⟨rfl, rfl⟩
@[simp] def a_code_Reader_take_r8 : List COper := [
  ⟨(some 4), .mov, [.c (.slice none 0 0)], none⟩]
def c_code_Reader_take_r8 : List COper := a_code_Reader_take_r8
instance : Reg c_code_Reader_take_r8 a_code_Reader_take_r8 1 := ⟨rfl, rfl⟩
@[simp] def c_code_Reader_take : CCode :=
  .seq (.region c_code_Reader_take_r0 none [0, 1]) (.scope 0 (.seq (.seq (.region c_code_Reader_take_r1 none [0, 1, 7]) (.cond (.t 7) (.seq (.region c_code_Reader_take_r2 none [4]) (.ret)) (.skip))) (.seq (.seq (.region c_code_Reader_take_r3 none [0, 1, 24]) (.cond (.t 24) (.goto 0) (.skip))) (.seq (.seq (.region c_code_Reader_take_r4 none [0, 1, 5]) (.seq (.region c_code_Reader_take_r5 none [5]) (.seq (.region c_code_Reader_take_r6 none [4]) (.ret)))) (.seq (.label 0) (.seq (.region c_code_Reader_take_r7 none []) (.seq (.region c_code_Reader_take_r8 none [4]) (.ret))))))) (.seq (.skip) (.seq (.region c_code_Reader_take_r7 none []) (.seq (.region c_code_Reader_take_r8 none [4]) (.ret)))))
@[simp] def R_code_Reader_take : List CRes := [.tmp 4]
theorem k_code_Reader_take : chkFn Tryd.prog fn_code_Reader_take c_code_Reader_take R_code_Reader_take 2 = true := by kernel_rfl
/-! (*wapentake/code.Reader).Num -/
@[simp] def a_code_Reader_Num_r0 : List COper := [
  ⟨(some 2), .mov, [.c (.int .i64 0)], none⟩]
def c_code_Reader_Num_r0 : List COper := a_code_Reader_Num_r0
instance : Reg c_code_Reader_Num_r0 a_code_Reader_Num_r0 1 := ⟨rfl, rfl⟩
@[simp] def a_code_Reader_Num_r1 : List COper := [
  ⟨(some 3), .mov, [.c (.int .u64 0)], none⟩]
def c_code_Reader_Num_r1 : List COper := a_code_Reader_Num_r1
instance : Reg c_code_Reader_Num_r1 a_code_Reader_Num_r1 1 := ⟨rfl, rfl⟩
@[simp] def a_code_Reader_Num_r2 : List COper := [
  ⟨(some 6), .mov, [.t 0], none⟩,
  ⟨(some 7), .call fn_code_Reader_take, [.t 6, .c (.int .i64 8)], none⟩,
  ⟨(some 8), .len, [.t 7], none⟩,
  ⟨(some 9), .mov, [.c (.int .i64 0)], none⟩]
def c_code_Reader_Num_r2 : List COper := a_code_Reader_Num_r2
instance : Reg c_code_Reader_Num_r2 a_code_Reader_Num_r2 4 := ⟨rfl, rfl⟩
@[simp] def a_code_Reader_Num_r3 : List COper := [
  ⟨(some 10), .bin .lss, [.t 9, .t 8], none⟩]
def c_code_Reader_Num_r3 : List COper := a_code_Reader_Num_r3
instance : Reg c_code_Reader_Num_r3 a_code_Reader_Num_r3 1 := ⟨rfl, rfl⟩
@[simp] def a_code_Reader_Num_r4 : List COper := [
  ⟨(some 11), .iaddr 1, [.t 7, .t 9], none⟩,
  ⟨(some 12), .load false 1, [.t 11], none⟩,
  ⟨(some 5), .mov, [.t 12], none⟩]
def c_code_Reader_Num_r4 : List COper := a_code_Reader_Num_r4
instance : Reg c_code_Reader_Num_r4 a_code_Reader_Num_r4 3 := ⟨rfl, rfl⟩
@[simp] def a_code_Reader_Num_r5 : List COper := [
  ⟨(some 13), .mov, [.t 3], none⟩,
  ⟨(some 14), .bin .shl, [.t 13, .c (.int .u64 8)], none⟩,
  ⟨(some 15), .mov, [.t 5], none⟩,
  ⟨(some 16), .convI .u64, [.t 15], none⟩,
  ⟨(some 17), .bin .or, [.t 14, .t 16], none⟩,
  ⟨(some 3), .mov, [.t 17], none⟩]
def c_code_Reader_Num_r5 : List COper := a_code_Reader_Num_r5
instance : Reg c_code_Reader_Num_r5 a_code_Reader_Num_r5 6 := ⟨rfl, rfl⟩
@[simp] def a_code_Reader_Num_r6 : List COper := [
  ⟨(some 18), .bin .add, [.t 9, .c (.int .i64 1)], none⟩,
  ⟨(some 9), .mov, [.t 18], none⟩]
def c_code_Reader_Num_r6 : List COper := a_code_Reader_Num_r6
instance : Reg c_code_Reader_Num_r6 a_code_Reader_Num_r6 2 := ⟨rfl, rfl⟩
@[simp] def a_code_Reader_Num_r7 : List COper := [
  ⟨(some 19), .mov, [.t 3], none⟩,
  ⟨(some 20), .convI .i64, [.t 19], none⟩,
  ⟨(some 2), .mov, [.t 20], none⟩]
def c_code_Reader_Num_r7 : List COper := a_code_Reader_Num_r7
instance : Reg c_code_Reader_Num_r7 a_code_Reader_Num_r7 3 := ⟨rfl, rfl⟩
@[simp] def c_code_Reader_Num : CCode :=
  .seq (.region c_code_Reader_Num_r0 none [0]) (.seq (.region c_code_Reader_Num_r1 none [0, 3]) (.seq (.seq (.region c_code_Reader_Num_r2 none [3, 7, 8, 9]) (.block 0 (.loop (.seq (.region c_code_Reader_Num_r3 none [3, 7, 8, 9, 10]) (.seq (.cond (.t 10) (.skip) (.exit 0)) (.seq (.block 1 (.seq (.region c_code_Reader_Num_r4 none [3, 5, 7, 8, 9]) (.region c_code_Reader_Num_r5 none [3, 7, 8, 9]))) (.region c_code_Reader_Num_r6 none [3, 7, 8, 9]))))))) (.seq (.region c_code_Reader_Num_r7 none [2]) (.ret))))
@[simp] def R_code_Reader_Num : List CRes := [.tmp 2]
theorem k_code_Reader_Num : chkFn Tryd.prog fn_code_Reader_Num c_code_Reader_Num R_code_Reader_Num 1 = true := by kernel_rfl
/-! (*wapentake/code.Reader).Good -/
@[simp] def a_code_Reader_Good_r0 : List COper := [
  ⟨(some 2), .mov, [.c (.bool false)], none⟩]
def c_code_Reader_Good_r0 : List COper := a_code_Reader_Good_r0
instance : Reg c_code_Reader_Good_r0 a_code_Reader_Good_r0 1 := ⟨rfl, rfl⟩
@[simp] def a_code_Reader_Good_r1 : List COper := [
  ⟨(some 3), .mov, [.t 0], none⟩,
  ⟨(some 4), .eqp true, [.t 3, .c (.pointer none)], none⟩,
  ⟨(some 5), .mov, [.t 4], none⟩,
  ⟨(some 6), .mov, [.t 0], (some (5, true))⟩,
  ⟨(some 7), .nilc, [.t 6], (some (5, true))⟩,
  ⟨(some 8), .faddr 1 1 false, [.t 7], (some (5, true))⟩,
  ⟨(some 9), .load false 1, [.t 8], (some (5, true))⟩,
  ⟨(some 10), .not, [.t 9], (some (5, true))⟩,
  ⟨(some 11), .pick, [.t 5, .t 10, .c (.bool false)], none⟩,
  ⟨(some 2), .mov, [.t 11], none⟩]
def c_code_Reader_Good_r1 : List COper := a_code_Reader_Good_r1
instance : Reg c_code_Reader_Good_r1 a_code_Reader_Good_r1 10 := ⟨rfl, rfl⟩
@[simp] def c_code_Reader_Good : CCode :=
  .seq (.region c_code_Reader_Good_r0 none [0]) (.seq (.region c_code_Reader_Good_r1 none [2]) (.ret))
@[simp] def R_code_Reader_Good : List CRes := [.tmp 2]
theorem k_code_Reader_Good : chkFn Tryd.prog fn_code_Reader_Good c_code_Reader_Good R_code_Reader_Good 1 = true := by kernel_rfl
/-! wapentake/wapentakeref02.turn -/
@[simp] def a_r02_turn_r0 : List COper := [
  ⟨(some 4), .mov, [.c (.int .u32 0)], none⟩]
def c_r02_turn_r0 : List COper := a_r02_turn_r0
instance : Reg c_r02_turn_r0 a_r02_turn_r0 1 := ⟨rfl, rfl⟩
@[simp] def a_r02_turn_r1 : List COper := [
  ⟨(some 5), .mov, [.t 0], none⟩,
  ⟨(some 6), .mov, [.t 1], none⟩,
  ⟨(some 7), .bin .shr, [.t 5, .t 6], none⟩,
  ⟨(some 8), .mov, [.t 0], none⟩,
  ⟨(some 9), .mov, [.t 1], none⟩,
  ⟨(some 10), .bin .sub, [.c (.int .u64 32), .t 9], none⟩,
  ⟨(some 11), .bin .shl, [.t 8, .t 10], none⟩,
  ⟨(some 12), .bin .or, [.t 7, .t 11], none⟩,
  ⟨(some 4), .mov, [.t 12], none⟩]
def c_r02_turn_r1 : List COper := a_r02_turn_r1
instance : Reg c_r02_turn_r1 a_r02_turn_r1 9 := ⟨rfl, rfl⟩
@[simp] def c_r02_turn : CCode :=
  .seq (.region c_r02_turn_r0 none [0, 1]) (.seq (.region c_r02_turn_r1 none [4]) (.ret))
@[simp] def R_r02_turn : List CRes := [.tmp 4]
theorem k_r02_turn : chkFn Tryd.prog fn_r02_turn c_r02_turn R_r02_turn 2 = true := by kernel_rfl
/-! wapentake/wapentakeref02.three -/
@[simp] def a_r02_three_r0 : List COper := [
  ⟨(some 8), .mov, [.c (.int .u32 0)], none⟩]
def c_r02_three_r0 : List COper := a_r02_three_r0
instance : Reg c_r02_three_r0 a_r02_three_r0 1 := ⟨rfl, rfl⟩
@[simp] def a_r02_three_r1 : List COper := [
  ⟨(some 9), .mov, [.t 0], none⟩,
  ⟨(some 10), .mov, [.t 1], none⟩,
  ⟨(some 11), .call fn_r02_turn, [.t 9, .t 10], none⟩,
  ⟨(some 12), .mov, [.t 0], none⟩,
  ⟨(some 13), .mov, [.t 2], none⟩,
  ⟨(some 14), .call fn_r02_turn, [.t 12, .t 13], none⟩,
  ⟨(some 15), .bin .xor, [.t 11, .t 14], none⟩,
  ⟨(some 16), .mov, [.t 0], none⟩,
  ⟨(some 17), .mov, [.t 3], none⟩,
  ⟨(some 18), .call fn_r02_turn, [.t 16, .t 17], none⟩,
  ⟨(some 19), .bin .xor, [.t 15, .t 18], none⟩,
  ⟨(some 8), .mov, [.t 19], none⟩]
def c_r02_three_r1 : List COper := a_r02_three_r1
instance : Reg c_r02_three_r1 a_r02_three_r1 12 := ⟨rfl, rfl⟩
@[simp] def c_r02_three : CCode :=
  .seq (.region c_r02_three_r0 none [0, 1, 2, 3]) (.seq (.region c_r02_three_r1 none [8]) (.ret))
@[simp] def R_r02_three : List CRes := [.tmp 8]
theorem k_r02_three : chkFn Tryd.prog fn_r02_three c_r02_three R_r02_three 4 = true := by kernel_rfl
/-! wapentake/sha.word -/
@[simp] def a_sha_word_r0 : List COper := [
  ⟨(some 2), .mov, [.c (.int .u32 0)], none⟩]
def c_sha_word_r0 : List COper := a_sha_word_r0
instance : Reg c_sha_word_r0 a_sha_word_r0 1 := ⟨rfl, rfl⟩
@[simp] def a_sha_word_r1 : List COper := [
  ⟨(some 3), .mov, [.t 0], none⟩,
  ⟨(some 4), .iaddr 1, [.t 3, .c (.int .i64 0)], none⟩,
  ⟨(some 5), .load false 1, [.t 4], none⟩,
  ⟨(some 6), .convI .u32, [.t 5], none⟩,
  ⟨(some 7), .bin .shl, [.t 6, .c (.int .u64 24)], none⟩,
  ⟨(some 8), .mov, [.t 0], none⟩,
  ⟨(some 9), .iaddr 1, [.t 8, .c (.int .i64 1)], none⟩,
  ⟨(some 10), .load false 1, [.t 9], none⟩,
  ⟨(some 11), .convI .u32, [.t 10], none⟩,
  ⟨(some 12), .bin .shl, [.t 11, .c (.int .u64 16)], none⟩,
  ⟨(some 13), .bin .or, [.t 7, .t 12], none⟩,
  ⟨(some 14), .mov, [.t 0], none⟩,
  ⟨(some 15), .iaddr 1, [.t 14, .c (.int .i64 2)], none⟩,
  ⟨(some 16), .load false 1, [.t 15], none⟩,
  ⟨(some 17), .convI .u32, [.t 16], none⟩,
  ⟨(some 18), .bin .shl, [.t 17, .c (.int .u64 8)], none⟩,
  ⟨(some 19), .bin .or, [.t 13, .t 18], none⟩,
  ⟨(some 20), .mov, [.t 0], none⟩,
  ⟨(some 21), .iaddr 1, [.t 20, .c (.int .i64 3)], none⟩,
  ⟨(some 22), .load false 1, [.t 21], none⟩,
  ⟨(some 23), .convI .u32, [.t 22], none⟩,
  ⟨(some 24), .bin .or, [.t 19, .t 23], none⟩,
  ⟨(some 2), .mov, [.t 24], none⟩]
def c_sha_word_r1 : List COper := a_sha_word_r1
instance : Reg c_sha_word_r1 a_sha_word_r1 23 := ⟨rfl, rfl⟩
@[simp] def c_sha_word : CCode :=
  .seq (.region c_sha_word_r0 none [0]) (.seq (.region c_sha_word_r1 (some ([0, 1, 3, 7, 15, 0, 32, 96, 224, 480, 1023, 0, 2048, 6144, 14336, 30720, 65535, 0, 131072, 393216, 917504, 2097151, 4194303], [])) [2]) (.ret))
@[simp] def R_sha_word : List CRes := [.tmp 2]
theorem k_sha_word : chkFn Tryd.prog fn_sha_word c_sha_word R_sha_word 1 = true := by kernel_rfl
/-! math/bits.RotateLeft32 -/
@[simp] def a_bits_RotateLeft32_r0 : List COper := [
  ⟨(some 4), .mov, [.c (.int .u32 0)], none⟩]
def c_bits_RotateLeft32_r0 : List COper := a_bits_RotateLeft32_r0
instance : Reg c_bits_RotateLeft32_r0 a_bits_RotateLeft32_r0 1 := ⟨rfl, rfl⟩
@[simp] def a_bits_RotateLeft32_r1 : List COper := [
  ⟨(some 6), .mov, [.t 1], none⟩,
  ⟨(some 7), .convI .u64, [.t 6], none⟩,
  ⟨(some 8), .bin .and, [.t 7, .c (.int .u64 31)], none⟩,
  ⟨(some 5), .mov, [.t 8], none⟩]
def c_bits_RotateLeft32_r1 : List COper := a_bits_RotateLeft32_r1
instance : Reg c_bits_RotateLeft32_r1 a_bits_RotateLeft32_r1 4 := ⟨rfl, rfl⟩
@[simp] def a_bits_RotateLeft32_r2 : List COper := [
  ⟨(some 9), .mov, [.t 0], none⟩,
  ⟨(some 10), .mov, [.t 5], none⟩,
  ⟨(some 11), .bin .shl, [.t 9, .t 10], none⟩,
  ⟨(some 12), .mov, [.t 0], none⟩,
  ⟨(some 13), .mov, [.t 5], none⟩,
  ⟨(some 14), .bin .sub, [.c (.int .u64 32), .t 13], none⟩,
  ⟨(some 15), .bin .shr, [.t 12, .t 14], none⟩,
  ⟨(some 16), .bin .or, [.t 11, .t 15], none⟩,
  ⟨(some 4), .mov, [.t 16], none⟩]
def c_bits_RotateLeft32_r2 : List COper := a_bits_RotateLeft32_r2
instance : Reg c_bits_RotateLeft32_r2 a_bits_RotateLeft32_r2 9 := ⟨rfl, rfl⟩
@[simp] def c_bits_RotateLeft32 : CCode :=
  .seq (.region c_bits_RotateLeft32_r0 none [0, 1]) (.seq (.region c_bits_RotateLeft32_r1 none [0, 5]) (.seq (.region c_bits_RotateLeft32_r2 none [4]) (.ret)))
@[simp] def R_bits_RotateLeft32 : List CRes := [.tmp 4]
theorem k_bits_RotateLeft32 : chkFn Tryd.prog fn_bits_RotateLeft32 c_bits_RotateLeft32 R_bits_RotateLeft32 2 = true := by kernel_rfl

end Go.Proofs.YtbmdaaehogpeeaaDoor.WL
