/- The program's functions as abstract texts, each held against the program by the kernel. -/
import Derived.Test.YtjlmpdbagmdbiaaDoorWc1
namespace Go.Proofs.YtjlmpdbagmdbiaaDoor.WL
open Go
/-! (*wapentake/sha.state).block -/
@[simp] def a_sha_state_block_r0 : List COper := [
  ⟨(some 4), .alloc (.arr 1 (rep 64 (.v (.int .u32 0)))), [], none⟩]
def c_sha_state_block_r0 : List COper := a_sha_state_block_r0
instance : Reg c_sha_state_block_r0 a_sha_state_block_r0 1 := ⟨rfl, rfl⟩
@[simp] def a_sha_state_block_r1 : List COper := [
  ⟨(some 26), .mov, [.c (.int .i64 0)], none⟩]
def c_sha_state_block_r1 : List COper := a_sha_state_block_r1
instance : Reg c_sha_state_block_r1 a_sha_state_block_r1 1 := ⟨rfl, rfl⟩
@[simp] def a_sha_state_block_r2 : List COper := [
  ⟨(some 27), .bin .lss, [.t 26, .c (.int .i64 16)], none⟩]
def c_sha_state_block_r2 : List COper := a_sha_state_block_r2
instance : Reg c_sha_state_block_r2 a_sha_state_block_r2 1 := ⟨rfl, rfl⟩
@[simp] def a_sha_state_block_r3 : List COper := [
  ⟨(some 28), .mov, [.t 26], none⟩,
  ⟨(some 5), .mov, [.t 28], none⟩]
def c_sha_state_block_r3 : List COper := a_sha_state_block_r3
instance : Reg c_sha_state_block_r3 a_sha_state_block_r3 2 := ⟨rfl, rfl⟩
@[simp] def a_sha_state_block_r4 : List COper := [
  ⟨(some 29), .mov, [.t 5], none⟩,
  ⟨(some 30), .mov, [.t 1], none⟩,
  ⟨(some 31), .mov, [.t 5], none⟩,
  ⟨(some 32), .bin .mul, [.c (.int .i64 4), .t 31], none⟩,
  ⟨(some 33), .slice 1 true false, [.t 30, .t 32], none⟩,
  ⟨(some 34), .call fn_sha_word, [.t 33], none⟩,
  ⟨(some 35), .iaddrArr 64 1 false, [.t 4, .t 29], none⟩,
  ⟨none, .store false 1, [.t 35, .t 34], none⟩]
def c_sha_state_block_r4 : List COper := a_sha_state_block_r4
instance : Reg c_sha_state_block_r4 a_sha_state_block_r4 8 := ⟨rfl, rfl⟩
@[simp] def a_sha_state_block_r5 : List COper := [
  ⟨(some 36), .bin .add, [.t 26, .c (.int .i64 1)], none⟩,
  ⟨(some 26), .mov, [.t 36], none⟩]
def c_sha_state_block_r5 : List COper := a_sha_state_block_r5
instance : Reg c_sha_state_block_r5 a_sha_state_block_r5 2 := ⟨rfl, rfl⟩
@[simp] def a_sha_state_block_r6 : List COper := [
  ⟨(some 6), .mov, [.c (.int .i64 16)], none⟩]
def c_sha_state_block_r6 : List COper := a_sha_state_block_r6
instance : Reg c_sha_state_block_r6 a_sha_state_block_r6 1 := ⟨rfl, rfl⟩
@[simp] def a_sha_state_block_r7 : List COper := [
  ⟨(some 37), .mov, [.t 6], none⟩,
  ⟨(some 38), .bin .lss, [.t 37, .c (.int .i64 64)], none⟩]
def c_sha_state_block_r7 : List COper := a_sha_state_block_r7
instance : Reg c_sha_state_block_r7 a_sha_state_block_r7 2 := ⟨rfl, rfl⟩
@[simp] def a_sha_state_block_r9 : List COper := [
  ⟨(some 41), .mov, [.t 6], none⟩,
  ⟨(some 42), .bin .sub, [.t 41, .c (.int .i64 15)], none⟩,
  ⟨(some 43), .iaddrArr 64 1 false, [.t 4, .t 42], none⟩,
  ⟨(some 44), .load false 1, [.t 43], none⟩,
  ⟨(some 45), .mov, [.t 6], none⟩,
  ⟨(some 46), .bin .sub, [.t 45, .c (.int .i64 2)], none⟩,
  ⟨(some 47), .iaddrArr 64 1 false, [.t 4, .t 46], none⟩,
  ⟨(some 48), .load false 1, [.t 47], none⟩,
  ⟨(some 7), .mov, [.t 44], none⟩,
  ⟨(some 8), .mov, [.t 48], none⟩]
def c_sha_state_block_r9 : List COper := a_sha_state_block_r9
instance : Reg c_sha_state_block_r9 a_sha_state_block_r9 10 := ⟨rfl, rfl⟩
@[simp] def a_sha_state_block_r10 : List COper := [
  ⟨(some 49), .mov, [.t 7], none⟩,
  ⟨(some 50), .call fn_bits_RotateLeft32, [.t 49, .c (.int .i64 (-7))], none⟩,
  ⟨(some 51), .mov, [.t 7], none⟩,
  ⟨(some 52), .call fn_bits_RotateLeft32, [.t 51, .c (.int .i64 (-18))], none⟩,
  ⟨(some 53), .bin .xor, [.t 50, .t 52], none⟩,
  ⟨(some 54), .mov, [.t 7], none⟩,
  ⟨(some 55), .bin .shr, [.t 54, .c (.int .u64 3)], none⟩,
  ⟨(some 56), .bin .xor, [.t 53, .t 55], none⟩,
  ⟨(some 9), .mov, [.t 56], none⟩]
def c_sha_state_block_r10 : List COper := a_sha_state_block_r10
instance : Reg c_sha_state_block_r10 a_sha_state_block_r10 9 := ⟨rfl, rfl⟩
@[simp] def a_sha_state_block_r11 : List COper := [
  ⟨(some 57), .mov, [.t 8], none⟩,
  ⟨(some 58), .call fn_bits_RotateLeft32, [.t 57, .c (.int .i64 (-17))], none⟩,
  ⟨(some 59), .mov, [.t 8], none⟩,
  ⟨(some 60), .call fn_bits_RotateLeft32, [.t 59, .c (.int .i64 (-19))], none⟩,
  ⟨(some 61), .bin .xor, [.t 58, .t 60], none⟩,
  ⟨(some 62), .mov, [.t 8], none⟩,
  ⟨(some 63), .bin .shr, [.t 62, .c (.int .u64 10)], none⟩,
  ⟨(some 64), .bin .xor, [.t 61, .t 63], none⟩,
  ⟨(some 10), .mov, [.t 64], none⟩]
def c_sha_state_block_r11 : List COper := a_sha_state_block_r11
instance : Reg c_sha_state_block_r11 a_sha_state_block_r11 9 := ⟨rfl, rfl⟩
@[simp] def a_sha_state_block_r12 : List COper := [
  ⟨(some 65), .mov, [.t 6], none⟩,
  ⟨(some 66), .mov, [.t 6], none⟩,
  ⟨(some 67), .bin .sub, [.t 66, .c (.int .i64 16)], none⟩,
  ⟨(some 68), .iaddrArr 64 1 false, [.t 4, .t 67], none⟩,
  ⟨(some 69), .load false 1, [.t 68], none⟩,
  ⟨(some 70), .mov, [.t 9], none⟩,
  ⟨(some 71), .bin .add, [.t 69, .t 70], none⟩,
  ⟨(some 72), .mov, [.t 6], none⟩,
  ⟨(some 73), .bin .sub, [.t 72, .c (.int .i64 7)], none⟩,
  ⟨(some 74), .iaddrArr 64 1 false, [.t 4, .t 73], none⟩,
  ⟨(some 75), .load false 1, [.t 74], none⟩,
  ⟨(some 76), .bin .add, [.t 71, .t 75], none⟩,
  ⟨(some 77), .mov, [.t 10], none⟩,
  ⟨(some 78), .bin .add, [.t 76, .t 77], none⟩,
  ⟨(some 79), .iaddrArr 64 1 false, [.t 4, .t 65], none⟩,
  ⟨none, .store false 1, [.t 79, .t 78], none⟩]
def c_sha_state_block_r12 : List COper := a_sha_state_block_r12
instance : Reg c_sha_state_block_r12 a_sha_state_block_r12 16 := ⟨rfl, rfl⟩
@[simp] def a_sha_state_block_r8 : List COper := [
  ⟨(some 39), .mov, [.t 6], none⟩,
  ⟨(some 40), .bin .add, [.t 39, .c (.int .i64 1)], none⟩,
  ⟨(some 6), .mov, [.t 40], none⟩]
def c_sha_state_block_r8 : List COper := a_sha_state_block_r8
instance : Reg c_sha_state_block_r8 a_sha_state_block_r8 3 := ⟨rfl, rfl⟩
@[simp] def a_sha_state_block_r13 : List COper := [
  ⟨(some 80), .mov, [.t 0], none⟩,
  ⟨(some 81), .nilc, [.t 80], none⟩,
  ⟨(some 82), .iaddrArr 8 1 false, [.t 81, .c (.int .i64 0)], none⟩,
  ⟨(some 83), .load false 1, [.t 82], none⟩,
  ⟨(some 84), .mov, [.t 0], none⟩,
  ⟨(some 85), .nilc, [.t 84], none⟩,
  ⟨(some 86), .iaddrArr 8 1 false, [.t 85, .c (.int .i64 1)], none⟩,
  ⟨(some 87), .load false 1, [.t 86], none⟩,
  ⟨(some 88), .mov, [.t 0], none⟩,
  ⟨(some 89), .nilc, [.t 88], none⟩,
  ⟨(some 90), .iaddrArr 8 1 false, [.t 89, .c (.int .i64 2)], none⟩,
  ⟨(some 91), .load false 1, [.t 90], none⟩,
  ⟨(some 92), .mov, [.t 0], none⟩,
  ⟨(some 93), .nilc, [.t 92], none⟩,
  ⟨(some 94), .iaddrArr 8 1 false, [.t 93, .c (.int .i64 3)], none⟩,
  ⟨(some 95), .load false 1, [.t 94], none⟩,
  ⟨(some 96), .mov, [.t 0], none⟩,
  ⟨(some 97), .nilc, [.t 96], none⟩,
  ⟨(some 98), .iaddrArr 8 1 false, [.t 97, .c (.int .i64 4)], none⟩,
  ⟨(some 99), .load false 1, [.t 98], none⟩,
  ⟨(some 100), .mov, [.t 0], none⟩,
  ⟨(some 101), .nilc, [.t 100], none⟩,
  ⟨(some 102), .iaddrArr 8 1 false, [.t 101, .c (.int .i64 5)], none⟩,
  ⟨(some 103), .load false 1, [.t 102], none⟩,
  ⟨(some 104), .mov, [.t 0], none⟩,
  ⟨(some 105), .nilc, [.t 104], none⟩,
  ⟨(some 106), .iaddrArr 8 1 false, [.t 105, .c (.int .i64 6)], none⟩,
  ⟨(some 107), .load false 1, [.t 106], none⟩,
  ⟨(some 108), .mov, [.t 0], none⟩,
  ⟨(some 109), .nilc, [.t 108], none⟩,
  ⟨(some 110), .iaddrArr 8 1 false, [.t 109, .c (.int .i64 7)], none⟩,
  ⟨(some 111), .load false 1, [.t 110], none⟩,
  ⟨(some 11), .mov, [.t 83], none⟩,
  ⟨(some 12), .mov, [.t 87], none⟩,
  ⟨(some 13), .mov, [.t 91], none⟩,
  ⟨(some 14), .mov, [.t 95], none⟩,
  ⟨(some 15), .mov, [.t 99], none⟩,
  ⟨(some 16), .mov, [.t 103], none⟩,
  ⟨(some 17), .mov, [.t 107], none⟩,
  ⟨(some 18), .mov, [.t 111], none⟩]
def c_sha_state_block_r13 : List COper := a_sha_state_block_r13
instance : Reg c_sha_state_block_r13 a_sha_state_block_r13 40 := ⟨rfl, rfl⟩
@[simp] def a_sha_state_block_r14 : List COper := [
  ⟨(some 112), .load true 64, [.t 4], none⟩,
  ⟨(some 113), .mov, [.c (.int .i64 0)], none⟩]
def c_sha_state_block_r14 : List COper := a_sha_state_block_r14
instance : Reg c_sha_state_block_r14 a_sha_state_block_r14 2 := ⟨rfl, rfl⟩
@[simp] def a_sha_state_block_r15 : List COper := [
  ⟨(some 114), .bin .lss, [.t 113, .c (.int .i64 64)], none⟩]
def c_sha_state_block_r15 : List COper := a_sha_state_block_r15
instance : Reg c_sha_state_block_r15 a_sha_state_block_r15 1 := ⟨rfl, rfl⟩
@[simp] def a_sha_state_block_r16 : List COper := [
  ⟨(some 115), .mov, [.t 113], none⟩,
  ⟨(some 116), .idx false 64 1, [.t 112, .t 113], none⟩,
  ⟨(some 19), .mov, [.t 115], none⟩,
  ⟨(some 20), .mov, [.t 116], none⟩]
def c_sha_state_block_r16 : List COper := a_sha_state_block_r16
instance : Reg c_sha_state_block_r16 a_sha_state_block_r16 4 := ⟨rfl, rfl⟩
@[simp] def a_sha_state_block_r17 : List COper := [
  ⟨(some 117), .mov, [.t 15], none⟩,
  ⟨(some 118), .call fn_bits_RotateLeft32, [.t 117, .c (.int .i64 (-6))], none⟩,
  ⟨(some 119), .mov, [.t 15], none⟩,
  ⟨(some 120), .call fn_bits_RotateLeft32, [.t 119, .c (.int .i64 (-11))], none⟩,
  ⟨(some 121), .bin .xor, [.t 118, .t 120], none⟩,
  ⟨(some 122), .mov, [.t 15], none⟩,
  ⟨(some 123), .call fn_bits_RotateLeft32, [.t 122, .c (.int .i64 (-25))], none⟩,
  ⟨(some 124), .bin .xor, [.t 121, .t 123], none⟩,
  ⟨(some 21), .mov, [.t 124], none⟩]
def c_sha_state_block_r17 : List COper := a_sha_state_block_r17
instance : Reg c_sha_state_block_r17 a_sha_state_block_r17 9 := ⟨rfl, rfl⟩
@[simp] def a_sha_state_block_r18 : List COper := [
  ⟨(some 125), .mov, [.t 18], none⟩,
  ⟨(some 126), .mov, [.t 21], none⟩,
  ⟨(some 127), .bin .add, [.t 125, .t 126], none⟩,
  ⟨(some 128), .mov, [.t 15], none⟩,
  ⟨(some 129), .mov, [.t 16], none⟩,
  ⟨(some 130), .bin .and, [.t 128, .t 129], none⟩,
  ⟨(some 131), .mov, [.t 15], none⟩,
  ⟨(some 132), .un .xor, [.t 131], none⟩,
  ⟨(some 133), .mov, [.t 17], none⟩,
  ⟨(some 134), .bin .and, [.t 132, .t 133], none⟩,
  ⟨(some 135), .bin .xor, [.t 130, .t 134], none⟩,
  ⟨(some 136), .bin .add, [.t 127, .t 135], none⟩,
  ⟨(some 137), .mov, [.t 19], none⟩,
  ⟨(some 138), .iaddrArr 64 1 false, [.g 0, .t 137], none⟩,
  ⟨(some 139), .load false 1, [.t 138], none⟩,
  ⟨(some 140), .bin .add, [.t 136, .t 139], none⟩,
  ⟨(some 141), .mov, [.t 20], none⟩,
  ⟨(some 142), .bin .add, [.t 140, .t 141], none⟩,
  ⟨(some 22), .mov, [.t 142], none⟩]
def c_sha_state_block_r18 : List COper := a_sha_state_block_r18
instance : Reg c_sha_state_block_r18 a_sha_state_block_r18 19 := ⟨rfl, rfl⟩
@[simp] def a_sha_state_block_r19 : List COper := [
  ⟨(some 143), .mov, [.t 11], none⟩,
  ⟨(some 144), .call fn_bits_RotateLeft32, [.t 143, .c (.int .i64 (-2))], none⟩,
  ⟨(some 145), .mov, [.t 11], none⟩,
  ⟨(some 146), .call fn_bits_RotateLeft32, [.t 145, .c (.int .i64 (-13))], none⟩,
  ⟨(some 147), .bin .xor, [.t 144, .t 146], none⟩,
  ⟨(some 148), .mov, [.t 11], none⟩,
  ⟨(some 149), .call fn_bits_RotateLeft32, [.t 148, .c (.int .i64 (-22))], none⟩,
  ⟨(some 150), .bin .xor, [.t 147, .t 149], none⟩,
  ⟨(some 23), .mov, [.t 150], none⟩]
def c_sha_state_block_r19 : List COper := a_sha_state_block_r19
instance : Reg c_sha_state_block_r19 a_sha_state_block_r19 9 := ⟨rfl, rfl⟩
@[simp] def a_sha_state_block_r20 : List COper := [
  ⟨(some 151), .mov, [.t 23], none⟩,
  ⟨(some 152), .mov, [.t 11], none⟩,
  ⟨(some 153), .mov, [.t 12], none⟩,
  ⟨(some 154), .bin .and, [.t 152, .t 153], none⟩,
  ⟨(some 155), .mov, [.t 11], none⟩,
  ⟨(some 156), .mov, [.t 13], none⟩,
  ⟨(some 157), .bin .and, [.t 155, .t 156], none⟩,
  ⟨(some 158), .bin .xor, [.t 154, .t 157], none⟩,
  ⟨(some 159), .mov, [.t 12], none⟩,
  ⟨(some 160), .mov, [.t 13], none⟩,
  ⟨(some 161), .bin .and, [.t 159, .t 160], none⟩,
  ⟨(some 162), .bin .xor, [.t 158, .t 161], none⟩,
  ⟨(some 163), .bin .add, [.t 151, .t 162], none⟩,
  ⟨(some 23), .mov, [.t 163], none⟩]
def c_sha_state_block_r20 : List COper := a_sha_state_block_r20
instance : Reg c_sha_state_block_r20 a_sha_state_block_r20 14 := ⟨rfl, rfl⟩
@[simp] def a_sha_state_block_r21 : List COper := [
  ⟨(some 164), .mov, [.t 22], none⟩,
  ⟨(some 165), .mov, [.t 23], none⟩,
  ⟨(some 166), .bin .add, [.t 164, .t 165], none⟩,
  ⟨(some 167), .mov, [.t 11], none⟩,
  ⟨(some 168), .mov, [.t 12], none⟩,
  ⟨(some 169), .mov, [.t 13], none⟩,
  ⟨(some 170), .mov, [.t 14], none⟩,
  ⟨(some 171), .mov, [.t 22], none⟩,
  ⟨(some 172), .bin .add, [.t 170, .t 171], none⟩,
  ⟨(some 173), .mov, [.t 15], none⟩,
  ⟨(some 174), .mov, [.t 16], none⟩,
  ⟨(some 175), .mov, [.t 17], none⟩,
  ⟨(some 11), .mov, [.t 166], none⟩,
  ⟨(some 12), .mov, [.t 167], none⟩,
  ⟨(some 13), .mov, [.t 168], none⟩,
  ⟨(some 14), .mov, [.t 169], none⟩,
  ⟨(some 15), .mov, [.t 172], none⟩,
  ⟨(some 16), .mov, [.t 173], none⟩,
  ⟨(some 17), .mov, [.t 174], none⟩,
  ⟨(some 18), .mov, [.t 175], none⟩]
def c_sha_state_block_r21 : List COper := a_sha_state_block_r21
instance : Reg c_sha_state_block_r21 a_sha_state_block_r21 20 := ⟨rfl, rfl⟩
@[simp] def a_sha_state_block_r22 : List COper := [
  ⟨(some 176), .bin .add, [.t 113, .c (.int .i64 1)], none⟩,
  ⟨(some 113), .mov, [.t 176], none⟩]
def c_sha_state_block_r22 : List COper := a_sha_state_block_r22
instance : Reg c_sha_state_block_r22 a_sha_state_block_r22 2 := ⟨rfl, rfl⟩
@[simp] def a_sha_state_block_r23 : List COper := [
  ⟨(some 177), .mov, [.t 11], none⟩,
  ⟨(some 178), .mov, [.t 12], none⟩,
  ⟨(some 179), .mov, [.t 13], none⟩,
  ⟨(some 180), .mov, [.t 14], none⟩,
  ⟨(some 181), .mov, [.t 15], none⟩,
  ⟨(some 182), .mov, [.t 16], none⟩,
  ⟨(some 183), .mov, [.t 17], none⟩,
  ⟨(some 184), .mov, [.t 18], none⟩,
  ⟨(some 185), .buildA 1 (rep 8 (.v (.int .u32 0))) (upTo 8), [.t 177, .t 178, .t 179, .t 180, .t 181, .t 182, .t 183, .t 184], none⟩,
  ⟨(some 186), .mov, [.c (.int .i64 0)], none⟩]
def c_sha_state_block_r23 : List COper := a_sha_state_block_r23
instance : Reg c_sha_state_block_r23 a_sha_state_block_r23 10 := ⟨rfl, rfl⟩
@[simp] def a_sha_state_block_r24 : List COper := [
  ⟨(some 187), .bin .lss, [.t 186, .c (.int .i64 8)], none⟩]
def c_sha_state_block_r24 : List COper := a_sha_state_block_r24
instance : Reg c_sha_state_block_r24 a_sha_state_block_r24 1 := ⟨rfl, rfl⟩
@[simp] def a_sha_state_block_r25 : List COper := [
  ⟨(some 188), .mov, [.t 186], none⟩,
  ⟨(some 189), .idx false 8 1, [.t 185, .t 186], none⟩,
  ⟨(some 24), .mov, [.t 188], none⟩,
  ⟨(some 25), .mov, [.t 189], none⟩]
def c_sha_state_block_r25 : List COper := a_sha_state_block_r25
instance : Reg c_sha_state_block_r25 a_sha_state_block_r25 4 := ⟨rfl, rfl⟩
@[simp] def a_sha_state_block_r26 : List COper := [
  ⟨(some 190), .mov, [.t 0], none⟩,
  ⟨(some 191), .mov, [.t 24], none⟩,
  ⟨(some 192), .nilc, [.t 190], none⟩,
  ⟨(some 193), .iaddrArr 8 1 false, [.t 192, .t 191], none⟩,
  ⟨(some 194), .load false 1, [.t 193], none⟩,
  ⟨(some 195), .mov, [.t 25], none⟩,
  ⟨(some 196), .bin .add, [.t 194, .t 195], none⟩,
  ⟨(some 197), .nilc, [.t 190], none⟩,
  ⟨(some 198), .iaddrArr 8 1 false, [.t 197, .t 191], none⟩,
  ⟨none, .store false 1, [.t 198, .t 196], none⟩]
def c_sha_state_block_r26 : List COper := a_sha_state_block_r26
instance : Reg c_sha_state_block_r26 a_sha_state_block_r26 10 := ⟨rfl, rfl⟩
@[simp] def a_sha_state_block_r27 : List COper := [
  ⟨(some 199), .bin .add, [.t 186, .c (.int .i64 1)], none⟩,
  ⟨(some 186), .mov, [.t 199], none⟩]
def c_sha_state_block_r27 : List COper := a_sha_state_block_r27
instance : Reg c_sha_state_block_r27 a_sha_state_block_r27 2 := ⟨rfl, rfl⟩
@[simp] def c_sha_state_block : CCode :=
  .seq (.region c_sha_state_block_r0 none [0, 1, 4]) (.seq (.seq (.region c_sha_state_block_r1 none [0, 1, 4, 26]) (.block 0 (.loop (.seq (.region c_sha_state_block_r2 none [0, 1, 4, 26, 27]) (.seq (.cond (.t 27) (.skip) (.exit 0)) (.seq (.block 1 (.seq (.region c_sha_state_block_r3 none [0, 1, 4, 5, 26]) (.region c_sha_state_block_r4 none [0, 1, 4, 26]))) (.region c_sha_state_block_r5 none [0, 1, 4, 26]))))))) (.seq (.seq (.region c_sha_state_block_r6 none [0, 4, 6]) (.block 2 (.loop (.seq (.seq (.region c_sha_state_block_r7 none [0, 4, 6, 38]) (.cond (.t 38) (.skip) (.exit 2))) (.seq (.block 3 (.seq (.region c_sha_state_block_r9 (some ([0, 1, 3, 7, 0, 16, 48, 112, 15, 511], [])) [0, 4, 6, 7, 8]) (.seq (.region c_sha_state_block_r10 none [0, 4, 6, 8, 9]) (.seq (.region c_sha_state_block_r11 none [0, 4, 6, 9, 10]) (.region c_sha_state_block_r12 (some ([0, 0, 2, 6, 14, 0, 62, 0, 128, 384, 896, 2046, 0, 8190, 16383, 32767], [])) [0, 4, 6]))))) (.region c_sha_state_block_r8 none [0, 4, 6])))))) (.seq (.region c_sha_state_block_r13 (some ([0, 1, 3, 7, 0, 16, 48, 112, 0, 256, 768, 1792, 0, 4096, 12288, 28672, 0, 65536, 196608, 458752, 0, 1048576, 3145728, 7340032, 0, 16777216, 50331648, 117440512, 0, 268435456, 805306368, 1879048192, 15, 4294967551, 12884905983, 30064836607, 64425558015, 133160763391, 270851375103, 549755813887], [])) [0, 4, 11, 12, 13, 14, 15, 16, 17, 18]) (.seq (.seq (.region c_sha_state_block_r14 none [0, 11, 12, 13, 14, 15, 16, 17, 18, 112, 113]) (.block 4 (.loop (.seq (.region c_sha_state_block_r15 none [0, 11, 12, 13, 14, 15, 16, 17, 18, 112, 113, 114]) (.seq (.cond (.t 114) (.skip) (.exit 4)) (.seq (.block 5 (.seq (.region c_sha_state_block_r16 none [0, 11, 12, 13, 14, 15, 16, 17, 18, 19, 20, 112, 113]) (.seq (.region c_sha_state_block_r17 none [0, 11, 12, 13, 14, 15, 16, 17, 18, 19, 20, 21, 112, 113]) (.seq (.region c_sha_state_block_r18 none [0, 11, 12, 13, 14, 15, 16, 17, 22, 112, 113]) (.seq (.region c_sha_state_block_r19 none [0, 11, 12, 13, 14, 15, 16, 17, 22, 23, 112, 113]) (.seq (.region c_sha_state_block_r20 none [0, 11, 12, 13, 14, 15, 16, 17, 22, 23, 112, 113]) (.region c_sha_state_block_r21 none [0, 11, 12, 13, 14, 15, 16, 17, 18, 112, 113]))))))) (.region c_sha_state_block_r22 none [0, 11, 12, 13, 14, 15, 16, 17, 18, 112, 113]))))))) (.seq (.region c_sha_state_block_r23 none [0, 185, 186]) (.block 6 (.loop (.seq (.region c_sha_state_block_r24 none [0, 185, 186, 187]) (.seq (.cond (.t 187) (.skip) (.exit 6)) (.seq (.block 7 (.seq (.region c_sha_state_block_r25 none [0, 24, 25, 185, 186]) (.region c_sha_state_block_r26 (some ([0, 0, 1, 7, 15, 0, 63, 1, 255, 511], [])) [0, 185, 186]))) (.region c_sha_state_block_r27 none [0, 185, 186])))))))))))
@[simp] def R_sha_state_block : List CRes := []
theorem k_sha_state_block : chkFn Tryd.prog fn_sha_state_block c_sha_state_block R_sha_state_block 2 = true := by kernel_rfl
/-! wapentake/tree.Leaf -/
@[simp] def a_tree_Leaf_r0 : List COper := [
  ⟨(some 2), .alloc (.arr 1 (rep 32 (.v (.int .u8 0)))), [], none⟩]
def c_tree_Leaf_r0 : List COper := a_tree_Leaf_r0
instance : Reg c_tree_Leaf_r0 a_tree_Leaf_r0 1 := ⟨rfl, rfl⟩
@[simp] def a_tree_Leaf_r1 : List COper := [
  ⟨(some 3), .bslice 1 1 (.v (.int .u8 0)) [0], [.c (.int .u8 0)], none⟩,
  ⟨(some 4), .mov, [.t 0], none⟩,
  ⟨(some 5), .bslice 1 2 (.v (.slice none 0 0)) [0, 1], [.t 3, .t 4], none⟩,
  ⟨(some 6), .call fn_sha_Of, [.t 5], none⟩,
  ⟨none, .store true 32, [.t 2, .t 6], none⟩]
def c_tree_Leaf_r1 : List COper := a_tree_Leaf_r1
instance : Reg c_tree_Leaf_r1 a_tree_Leaf_r1 5 := ⟨rfl, rfl⟩
@[simp] def c_tree_Leaf : CCode :=
  .seq (.region c_tree_Leaf_r0 none [0, 2]) (.seq (.region c_tree_Leaf_r1 none [2]) (.ret))
@[simp] def R_tree_Leaf : List CRes := [.cell 2 true 32]
theorem k_tree_Leaf : chkFn Tryd.prog fn_tree_Leaf c_tree_Leaf R_tree_Leaf 1 = true := by kernel_rfl
/-! wapentake/once.shut -/
@[simp] def a_once_shut_r0 : List COper := [
  ⟨(some 1), .box, [.t 0], none⟩,
  ⟨(some 2), .alloc (.arr 1 (rep 32 (.v (.int .u8 0)))), [], none⟩]
def c_once_shut_r0 : List COper := a_once_shut_r0
instance : Reg c_once_shut_r0 a_once_shut_r0 2 := ⟨rfl, rfl⟩
@[simp] def a_once_shut_r1 : List COper := [
  ⟨(some 3), .sliceArr 32 1 false false, [.t 1], none⟩,
  ⟨(some 4), .bslice 1 1 (.v (.slice none 0 0)) [0], [.t 3], none⟩,
  ⟨(some 5), .call fn_sha_Of, [.t 4], none⟩,
  ⟨none, .store true 32, [.t 2, .t 5], none⟩]
def c_once_shut_r1 : List COper := a_once_shut_r1
instance : Reg c_once_shut_r1 a_once_shut_r1 4 := ⟨rfl, rfl⟩
@[simp] def c_once_shut : CCode :=
  .seq (.region c_once_shut_r0 none [1, 2]) (.seq (.region c_once_shut_r1 none [2]) (.ret))
@[simp] def R_once_shut : List CRes := [.cell 2 true 32]
theorem k_once_shut : chkFn Tryd.prog fn_once_shut c_once_shut R_once_shut 1 = true := by kernel_rfl
/-! wapentake/once.secret -/
@[simp] def a_once_secret_r0 : List COper := [
  ⟨(some 4), .box, [.t 0], none⟩,
  ⟨(some 8), .alloc (.arr 1 (rep 32 (.v (.int .u8 0)))), [], none⟩]
def c_once_secret_r0 : List COper := a_once_secret_r0
instance : Reg c_once_secret_r0 a_once_secret_r0 2 := ⟨rfl, rfl⟩
@[simp] def a_once_secret_r1 : List COper := [
  ⟨(some 9), .alloc (.arr 1 (rep 16 (.v (.int .u8 0)))), [], none⟩]
def c_once_secret_r1 : List COper := a_once_secret_r1
instance : Reg c_once_secret_r1 a_once_secret_r1 1 := ⟨rfl, rfl⟩
@[simp] def a_once_secret_r2 : List COper := [
  ⟨(some 11), .mov, [.c (.int .i64 0)], none⟩]
def c_once_secret_r2 : List COper := a_once_secret_r2
instance : Reg c_once_secret_r2 a_once_secret_r2 1 := ⟨rfl, rfl⟩
@[simp] def a_once_secret_r3 : List COper := [
  ⟨(some 12), .bin .lss, [.t 11, .c (.int .i64 8)], none⟩]
def c_once_secret_r3 : List COper := a_once_secret_r3
instance : Reg c_once_secret_r3 a_once_secret_r3 1 := ⟨rfl, rfl⟩
@[simp] def a_once_secret_r4 : List COper := [
  ⟨(some 13), .mov, [.t 11], none⟩,
  ⟨(some 10), .mov, [.t 13], none⟩]
def c_once_secret_r4 : List COper := a_once_secret_r4
instance : Reg c_once_secret_r4 a_once_secret_r4 2 := ⟨rfl, rfl⟩
@[simp] def a_once_secret_r5 : List COper := [
  ⟨(some 14), .mov, [.t 10], none⟩,
  ⟨(some 15), .mov, [.t 10], none⟩,
  ⟨(some 16), .bin .add, [.c (.int .i64 8), .t 15], none⟩,
  ⟨(some 17), .mov, [.t 1], none⟩,
  ⟨(some 18), .convI .u64, [.t 17], none⟩,
  ⟨(some 19), .mov, [.t 10], none⟩,
  ⟨(some 20), .bin .mul, [.c (.int .i64 8), .t 19], none⟩,
  ⟨(some 21), .bin .sub, [.c (.int .i64 56), .t 20], none⟩,
  ⟨(some 22), .bin .shr, [.t 18, .t 21], none⟩,
  ⟨(some 23), .convI .u8, [.t 22], none⟩,
  ⟨(some 24), .mov, [.t 2], none⟩,
  ⟨(some 25), .bin .mul, [.c (.int .i64 2), .t 24], none⟩,
  ⟨(some 26), .mov, [.t 3], none⟩,
  ⟨(some 27), .bin .add, [.t 25, .t 26], none⟩,
  ⟨(some 28), .convI .u64, [.t 27], none⟩,
  ⟨(some 29), .mov, [.t 10], none⟩,
  ⟨(some 30), .bin .mul, [.c (.int .i64 8), .t 29], none⟩,
  ⟨(some 31), .bin .sub, [.c (.int .i64 56), .t 30], none⟩,
  ⟨(some 32), .bin .shr, [.t 28, .t 31], none⟩,
  ⟨(some 33), .convI .u8, [.t 32], none⟩,
  ⟨(some 34), .iaddrArr 16 1 false, [.t 9, .t 14], none⟩,
  ⟨none, .store false 1, [.t 34, .t 23], none⟩,
  ⟨(some 35), .iaddrArr 16 1 false, [.t 9, .t 16], none⟩,
  ⟨none, .store false 1, [.t 35, .t 33], none⟩]
def c_once_secret_r5 : List COper := a_once_secret_r5
instance : Reg c_once_secret_r5 a_once_secret_r5 24 := ⟨rfl, rfl⟩
@[simp] def a_once_secret_r6 : List COper := [
  ⟨(some 36), .bin .add, [.t 11, .c (.int .i64 1)], none⟩,
  ⟨(some 11), .mov, [.t 36], none⟩]
def c_once_secret_r6 : List COper := a_once_secret_r6
instance : Reg c_once_secret_r6 a_once_secret_r6 2 := ⟨rfl, rfl⟩
@[simp] def a_once_secret_r7 : List COper := [
  ⟨(some 37), .bslice 1 1 (.v (.int .u8 0)) [0], [.c (.int .u8 2)], none⟩,
  ⟨(some 38), .sliceArr 32 1 false false, [.t 4], none⟩,
  ⟨(some 39), .sliceArr 16 1 false false, [.t 9], none⟩,
  ⟨(some 40), .bslice 1 3 (.v (.slice none 0 0)) [0, 1, 2], [.t 37, .t 38, .t 39], none⟩,
  ⟨(some 41), .call fn_sha_Of, [.t 40], none⟩,
  ⟨none, .store true 32, [.t 8, .t 41], none⟩]
def c_once_secret_r7 : List COper := a_once_secret_r7
instance : Reg c_once_secret_r7 a_once_secret_r7 6 := ⟨rfl, rfl⟩
@[simp] def c_once_secret : CCode :=
  .seq (.region c_once_secret_r0 none [1, 2, 3, 4, 8]) (.seq (.region c_once_secret_r1 none [1, 2, 3, 4, 8, 9]) (.seq (.seq (.region c_once_secret_r2 none [1, 2, 3, 4, 8, 9, 11]) (.block 0 (.loop (.seq (.region c_once_secret_r3 none [1, 2, 3, 4, 8, 9, 11, 12]) (.seq (.cond (.t 12) (.skip) (.exit 0)) (.seq (.block 1 (.seq (.region c_once_secret_r4 none [1, 2, 3, 4, 8, 9, 10, 11]) (.region c_once_secret_r5 (some ([0, 0, 2, 0, 8, 0, 32, 96, 248, 504, 0, 1024, 0, 7168, 15360, 0, 32768, 98304, 261120, 523264, 1017, 1049593, 4194303, 8388607], [])) [1, 2, 3, 4, 8, 9, 11]))) (.region c_once_secret_r6 none [1, 2, 3, 4, 8, 9, 11]))))))) (.seq (.region c_once_secret_r7 (some ([0, 0, 0, 7, 15, 31], [])) [8]) (.ret))))
@[simp] def R_once_secret : List CRes := [.cell 8 true 32]
theorem k_once_secret : chkFn Tryd.prog fn_once_secret c_once_secret R_once_secret 4 = true := by kernel_rfl
/-! wapentake/once.whole -/
@[simp] def a_once_whole_r0 : List COper := [
  ⟨(some 2), .alloc (.arr 1 (rep 32 (.v (.int .u8 0)))), [], none⟩]
def c_once_whole_r0 : List COper := a_once_whole_r0
instance : Reg c_once_whole_r0 a_once_whole_r0 1 := ⟨rfl, rfl⟩
@[simp] def a_once_whole_r1 : List COper := [
  ⟨(some 4), .build [.v (.slice none 0 0)] [], [], none⟩,
  ⟨(some 5), .box, [.t 4], none⟩,
  ⟨(some 3), .mov, [.t 5], none⟩]
def c_once_whole_r1 : List COper := a_once_whole_r1
instance : Reg c_once_whole_r1 a_once_whole_r1 3 := ⟨rfl, rfl⟩
@[simp] def a_once_whole_r2 : List COper := [
  ⟨(some 6), .mov, [.t 3], none⟩,
  ⟨(some 7), .mov, [.t 0], none⟩,
  ⟨(some 8), .call fn_code_Writer_Digest, [.t 6, .t 7], none⟩]
def c_once_whole_r2 : List COper := a_once_whole_r2
instance : Reg c_once_whole_r2 a_once_whole_r2 3 := ⟨rfl, rfl⟩
@[simp] def a_once_whole_r3 : List COper := [
  ⟨(some 9), .mov, [.t 3], none⟩,
  ⟨(some 10), .call fn_code_Writer_Bytes, [.t 9], none⟩,
  ⟨(some 11), .bslice 1 1 (.v (.slice none 0 0)) [0], [.t 10], none⟩,
  ⟨(some 12), .call fn_sha_Of, [.t 11], none⟩,
  ⟨none, .store true 32, [.t 2, .t 12], none⟩]
def c_once_whole_r3 : List COper := a_once_whole_r3
instance : Reg c_once_whole_r3 a_once_whole_r3 5 := ⟨rfl, rfl⟩
@[simp] def c_once_whole : CCode :=
  .seq (.region c_once_whole_r0 none [0, 2]) (.seq (.region c_once_whole_r1 none [0, 2, 3]) (.seq (.region c_once_whole_r2 none [2, 3]) (.seq (.region c_once_whole_r3 none [2]) (.ret))))
@[simp] def R_once_whole : List CRes := [.cell 2 true 32]
theorem k_once_whole : chkFn Tryd.prog fn_once_whole c_once_whole R_once_whole 1 = true := by kernel_rfl
/-! wapentake/tree.up -/
@[simp] def a_tree_up_r0 : List COper := [
  ⟨(some 2), .mov, [.c (.slice none 0 0)], none⟩]
def c_tree_up_r0 : List COper := a_tree_up_r0
instance : Reg c_tree_up_r0 a_tree_up_r0 1 := ⟨rfl, rfl⟩
@[simp] def a_tree_up_r1 : List COper := [
  ⟨(some 3), .mov, [.c (.slice none 0 0)], none⟩]
def c_tree_up_r1 : List COper := a_tree_up_r1
instance : Reg c_tree_up_r1 a_tree_up_r1 1 := ⟨rfl, rfl⟩
@[simp] def a_tree_up_r2 : List COper := [
  ⟨(some 4), .mov, [.c (.int .i64 0)], none⟩]
def c_tree_up_r2 : List COper := a_tree_up_r2
instance : Reg c_tree_up_r2 a_tree_up_r2 1 := ⟨rfl, rfl⟩
@[simp] def a_tree_up_r3 : List COper := [
  ⟨(some 5), .mov, [.t 4], none⟩,
  ⟨(some 6), .mov, [.t 0], none⟩,
  ⟨(some 7), .len, [.t 6], none⟩,
  ⟨(some 8), .bin .lss, [.t 5, .t 7], none⟩]
def c_tree_up_r3 : List COper := a_tree_up_r3
instance : Reg c_tree_up_r3 a_tree_up_r3 4 := ⟨rfl, rfl⟩
@[simp] def a_tree_up_r5 : List COper := [
  ⟨(some 11), .mov, [.t 4], none⟩,
  ⟨(some 12), .bin .add, [.t 11, .c (.int .i64 1)], none⟩,
  ⟨(some 13), .mov, [.t 0], none⟩,
  ⟨(some 14), .len, [.t 13], none⟩,
  ⟨(some 15), .bin .eql, [.t 12, .t 14], none⟩]
def c_tree_up_r5 : List COper := a_tree_up_r5
instance : Reg c_tree_up_r5 a_tree_up_r5 5 := ⟨rfl, rfl⟩
@[simp] def a_tree_up_r6 : List COper := [
  ⟨(some 16), .mov, [.t 3], none⟩,
  ⟨(some 17), .mov, [.t 0], none⟩,
  ⟨(some 18), .mov, [.t 4], none⟩,
  ⟨(some 19), .iaddr 32, [.t 17, .t 18], none⟩,
  ⟨(some 20), .load true 32, [.t 19], none⟩,
  ⟨(some 21), .bslice 32 1 (.arr 1 (rep 32 (.v (.int .u8 0)))) [0], [.t 20], none⟩,
  ⟨(some 22), .app 32 32, [.t 16, .t 21], none⟩,
  ⟨(some 3), .mov, [.t 22], none⟩]
def c_tree_up_r6 : List COper := a_tree_up_r6
instance : Reg c_tree_up_r6 a_tree_up_r6 8 := ⟨rfl, rfl⟩
@[simp] def a_tree_up_r7 : List COper := [
  ⟨(some 23), .mov, [.t 3], none⟩,
  ⟨(some 24), .mov, [.t 0], none⟩,
  ⟨(some 25), .mov, [.t 4], none⟩,
  ⟨(some 26), .iaddr 32, [.t 24, .t 25], none⟩,
  ⟨(some 27), .load true 32, [.t 26], none⟩,
  ⟨(some 28), .mov, [.t 0], none⟩,
  ⟨(some 29), .mov, [.t 4], none⟩,
  ⟨(some 30), .bin .add, [.t 29, .c (.int .i64 1)], none⟩,
  ⟨(some 31), .iaddr 32, [.t 28, .t 30], none⟩,
  ⟨(some 32), .load true 32, [.t 31], none⟩,
  ⟨(some 33), .call fn_sha_Pair, [.c (.int .u8 1), .t 27, .t 32], none⟩,
  ⟨(some 34), .bslice 32 1 (.arr 1 (rep 32 (.v (.int .u8 0)))) [0], [.t 33], none⟩,
  ⟨(some 35), .app 32 32, [.t 23, .t 34], none⟩,
  ⟨(some 3), .mov, [.t 35], none⟩]
def c_tree_up_r7 : List COper := a_tree_up_r7
instance : Reg c_tree_up_r7 a_tree_up_r7 14 := ⟨rfl, rfl⟩
@[simp] def a_tree_up_r4 : List COper := [
  ⟨(some 9), .mov, [.t 4], none⟩,
  ⟨(some 10), .bin .add, [.t 9, .c (.int .i64 2)], none⟩,
  ⟨(some 4), .mov, [.t 10], none⟩]
def c_tree_up_r4 : List COper := a_tree_up_r4
instance : Reg c_tree_up_r4 a_tree_up_r4 3 := ⟨rfl, rfl⟩
@[simp] def a_tree_up_r8 : List COper := [
  ⟨(some 36), .mov, [.t 3], none⟩,
  ⟨(some 2), .mov, [.t 36], none⟩]
def c_tree_up_r8 : List COper := a_tree_up_r8
instance : Reg c_tree_up_r8 a_tree_up_r8 2 := ⟨rfl, rfl⟩
@[simp] def c_tree_up : CCode :=
  .seq (.region c_tree_up_r0 none [0]) (.seq (.region c_tree_up_r1 none [0, 3]) (.seq (.seq (.region c_tree_up_r2 none [0, 3, 4]) (.block 0 (.loop (.seq (.seq (.region c_tree_up_r3 none [0, 3, 4, 8]) (.cond (.t 8) (.skip) (.exit 0))) (.seq (.block 1 (.seq (.seq (.region c_tree_up_r5 none [0, 3, 4, 15]) (.cond (.t 15) (.seq (.region c_tree_up_r6 none [3]) (.exit 0)) (.skip))) (.region c_tree_up_r7 (some ([0, 0, 0, 6, 14, 0, 0, 64, 224, 480, 1022, 2046, 4095, 8191], [])) [0, 3, 4]))) (.region c_tree_up_r4 none [0, 3, 4])))))) (.seq (.region c_tree_up_r8 none [2]) (.ret))))
@[simp] def R_tree_up : List CRes := [.tmp 2]
theorem k_tree_up : chkFn Tryd.prog fn_tree_up c_tree_up R_tree_up 1 = true := by kernel_rfl
/-! wapentake/once.bit -/
@[simp] def a_once_bit_r0 : List COper := [
  ⟨(some 2), .box, [.t 0], none⟩,
  ⟨(some 4), .mov, [.c (.int .i64 0)], none⟩]
def c_once_bit_r0 : List COper := a_once_bit_r0
instance : Reg c_once_bit_r0 a_once_bit_r0 2 := ⟨rfl, rfl⟩
@[simp] def a_once_bit_r1 : List COper := [
  ⟨(some 5), .mov, [.t 1], none⟩,
  ⟨(some 6), .bin .quo, [.t 5, .c (.int .i64 8)], none⟩,
  ⟨(some 7), .iaddrArr 32 1 false, [.t 2, .t 6], none⟩,
  ⟨(some 8), .load false 1, [.t 7], none⟩,
  ⟨(some 9), .mov, [.t 1], none⟩,
  ⟨(some 10), .bin .rem, [.t 9, .c (.int .i64 8)], none⟩,
  ⟨(some 11), .bin .sub, [.c (.int .i64 7), .t 10], none⟩,
  ⟨(some 12), .bin .shr, [.t 8, .t 11], none⟩,
  ⟨(some 13), .convI .i64, [.t 12], none⟩,
  ⟨(some 14), .bin .and, [.t 13, .c (.int .i64 1)], none⟩,
  ⟨(some 4), .mov, [.t 14], none⟩]
def c_once_bit_r1 : List COper := a_once_bit_r1
instance : Reg c_once_bit_r1 a_once_bit_r1 11 := ⟨rfl, rfl⟩
@[simp] def c_once_bit : CCode :=
  .seq (.region c_once_bit_r0 none [1, 2]) (.seq (.region c_once_bit_r1 none [4]) (.ret))
@[simp] def R_once_bit : List CRes := [.tmp 4]
theorem k_once_bit : chkFn Tryd.prog fn_once_bit c_once_bit R_once_bit 2 = true := by kernel_rfl
/-! wapentake/request.short -/
@[simp] def a_request_short_r0 : List COper := [
  ⟨(some 2), .mov, [.c (.bool false)], none⟩]
def c_request_short_r0 : List COper := a_request_short_r0
instance : Reg c_request_short_r0 a_request_short_r0 1 := ⟨rfl, rfl⟩
@[simp] def a_request_short_r1 : List COper := [
  ⟨(some 5), .mov, [.t 0], none⟩,
  ⟨(some 6), .len, [.t 5], none⟩,
  ⟨(some 7), .mov, [.c (.int .i64 0)], none⟩]
def c_request_short_r1 : List COper := a_request_short_r1
instance : Reg c_request_short_r1 a_request_short_r1 3 := ⟨rfl, rfl⟩
@[simp] def a_request_short_r2 : List COper := [
  ⟨(some 8), .bin .lss, [.t 7, .t 6], none⟩]
def c_request_short_r2 : List COper := a_request_short_r2
instance : Reg c_request_short_r2 a_request_short_r2 1 := ⟨rfl, rfl⟩
@[simp] def a_request_short_r3 : List COper := [
  ⟨(some 9), .iaddr 1, [.t 5, .t 7], none⟩,
  ⟨(some 10), .load false 1, [.t 9], none⟩,
  ⟨(some 4), .mov, [.t 10], none⟩]
def c_request_short_r3 : List COper := a_request_short_r3
instance : Reg c_request_short_r3 a_request_short_r3 3 := ⟨rfl, rfl⟩
@[simp] def a_request_short_r4 : List COper := [
  ⟨(some 11), .mov, [.t 4], none⟩,
  ⟨(some 12), .lenS, [.t 11], none⟩,
  ⟨(some 13), .bin .gtr, [.t 12, .c (.int .i64 1024)], none⟩]
def c_request_short_r4 : List COper := a_request_short_r4
instance : Reg c_request_short_r4 a_request_short_r4 3 := ⟨rfl, rfl⟩
@[simp] def a_request_short_r5 : List COper := [
  ⟨(some 2), .mov, [.c (.bool false)], none⟩]
def c_request_short_r5 : List COper := a_request_short_r5
instance : Reg c_request_short_r5 a_request_short_r5 1 := ⟨rfl, rfl⟩
@[simp] def a_request_short_r6 : List COper := [
  ⟨(some 14), .bin .add, [.t 7, .c (.int .i64 1)], none⟩,
  ⟨(some 7), .mov, [.t 14], none⟩]
def c_request_short_r6 : List COper := a_request_short_r6
instance : Reg c_request_short_r6 a_request_short_r6 2 := ⟨rfl, rfl⟩
@[simp] def a_request_short_r7 : List COper := [
  ⟨(some 2), .mov, [.c (.bool true)], none⟩]
def c_request_short_r7 : List COper := a_request_short_r7
instance : Reg c_request_short_r7 a_request_short_r7 1 := ⟨rfl, rfl⟩
@[simp] def c_request_short : CCode :=
  .seq (.region c_request_short_r0 none [0]) (.seq (.seq (.region c_request_short_r1 none [5, 6, 7]) (.block 0 (.loop (.seq (.region c_request_short_r2 none [5, 6, 7, 8]) (.seq (.cond (.t 8) (.skip) (.exit 0)) (.seq (.block 1 (.seq (.region c_request_short_r3 none [4, 5, 6, 7]) (.seq (.region c_request_short_r4 none [5, 6, 7, 13]) (.cond (.t 13) (.seq (.region c_request_short_r5 none [2]) (.ret)) (.skip))))) (.region c_request_short_r6 none [5, 6, 7]))))))) (.seq (.region c_request_short_r7 none [2]) (.ret)))
@[simp] def R_request_short : List CRes := [.tmp 2]
theorem k_request_short : chkFn Tryd.prog fn_request_short c_request_short R_request_short 1 = true := by kernel_rfl
-- NOT: 123 ('STR', 'slices.IndexFunc[[]wapentake/api.Member,wapentake/api.Member]'): Exception("callee ('Callee.value', ('Operand.tmp', 11))")
/-! wapentake/once.Of -/
@[simp] def a_once_Of_r0 : List COper := [
  ⟨(some 2), .box, [.t 0], none⟩,
  ⟨(some 3), .box, [.t 1], none⟩,
  ⟨(some 4), .alloc (.arr 1 (rep 32 (.v (.int .u8 0)))), [], none⟩,
  ⟨(some 5), .mov, [.c (.bool false)], none⟩]
def c_once_Of_r0 : List COper := a_once_Of_r0
instance : Reg c_once_Of_r0 a_once_Of_r0 4 := ⟨rfl, rfl⟩
@[simp] def a_once_Of_r1 : List COper := [
  ⟨(some 10), .faddr 0 1 false, [.t 3], none⟩,
  ⟨(some 11), .load false 1, [.t 10], none⟩,
  ⟨(some 12), .len, [.t 11], none⟩,
  ⟨(some 13), .bin .neq, [.t 12, .c (.int .i64 32)], none⟩,
  ⟨(some 14), .mov, [.t 13], none⟩,
  ⟨(some 15), .faddr 1 1 false, [.t 3], (some (14, false))⟩,
  ⟨(some 16), .load false 1, [.t 15], (some (14, false))⟩,
  ⟨(some 17), .len, [.t 16], (some (14, false))⟩,
  ⟨(some 18), .bin .neq, [.t 17, .c (.int .i64 32)], (some (14, false))⟩,
  ⟨(some 19), .pick, [.t 14, .c (.bool true), .t 18], none⟩]
def c_once_Of_r1 : List COper := a_once_Of_r1
instance : Reg c_once_Of_r1 a_once_Of_r1 10 := ⟨rfl, rfl⟩
@[simp] def a_once_Of_r2 : List COper := [
  ⟨(some 20), .buildA 1 (rep 32 (.v (.int .u8 0))) [], [], none⟩,
  ⟨none, .store true 32, [.t 4, .t 20], none⟩,
  ⟨(some 5), .mov, [.c (.bool false)], none⟩]
def c_once_Of_r2 : List COper := a_once_Of_r2
instance : Reg c_once_Of_r2 a_once_Of_r2 3 := ⟨rfl, rfl⟩
@[simp] def a_once_Of_r3 : List COper := [
  ⟨(some 6), .mov, [.c (.slice none 0 0)], none⟩]
def c_once_Of_r3 : List COper := a_once_Of_r3
instance : Reg c_once_Of_r3 a_once_Of_r3 1 := ⟨rfl, rfl⟩
@[simp] def a_once_Of_r4 : List COper := [
  ⟨(some 21), .mov, [.c (.int .i64 0)], none⟩]
def c_once_Of_r4 : List COper := a_once_Of_r4
instance : Reg c_once_Of_r4 a_once_Of_r4 1 := ⟨rfl, rfl⟩
@[simp] def a_once_Of_r5 : List COper := [
  ⟨(some 22), .bin .lss, [.t 21, .c (.int .i64 32)], none⟩]
def c_once_Of_r5 : List COper := a_once_Of_r5
instance : Reg c_once_Of_r5 a_once_Of_r5 1 := ⟨rfl, rfl⟩
@[simp] def a_once_Of_r6 : List COper := [
  ⟨(some 23), .mov, [.t 21], none⟩,
  ⟨(some 7), .mov, [.t 23], none⟩]
def c_once_Of_r6 : List COper := a_once_Of_r6
instance : Reg c_once_Of_r6 a_once_Of_r6 2 := ⟨rfl, rfl⟩
@[simp] def a_once_Of_r7 : List COper := [
  ⟨(some 24), .faddr 0 1 false, [.t 3], none⟩,
  ⟨(some 25), .load false 1, [.t 24], none⟩,
  ⟨(some 26), .mov, [.t 7], none⟩,
  ⟨(some 27), .iaddr 32, [.t 25, .t 26], none⟩,
  ⟨(some 28), .load true 32, [.t 27], none⟩,
  ⟨(some 29), .call fn_once_shut, [.t 28], none⟩,
  ⟨(some 30), .faddr 1 1 false, [.t 3], none⟩,
  ⟨(some 31), .load false 1, [.t 30], none⟩,
  ⟨(some 32), .mov, [.t 7], none⟩,
  ⟨(some 33), .iaddr 32, [.t 31, .t 32], none⟩,
  ⟨(some 34), .load true 32, [.t 33], none⟩,
  ⟨(some 35), .buildA 32 (rep 2 (.arr 1 (rep 32 (.v (.int .u8 0))))) [0, 1], [.t 29, .t 34], none⟩,
  ⟨(some 8), .alloc (.arr 32 (rep 2 (.arr 1 (rep 32 (.v (.int .u8 0)))))), [], none⟩,
  ⟨none, .store true 64, [.t 8, .t 35], none⟩]
def c_once_Of_r7 : List COper := a_once_Of_r7
instance : Reg c_once_Of_r7 a_once_Of_r7 14 := ⟨rfl, rfl⟩
@[simp] def a_once_Of_r8 : List COper := [
  ⟨(some 36), .load true 32, [.t 2], none⟩,
  ⟨(some 37), .mov, [.t 7], none⟩,
  ⟨(some 38), .call fn_once_bit, [.t 36, .t 37], none⟩,
  ⟨(some 9), .mov, [.t 38], none⟩]
def c_once_Of_r8 : List COper := a_once_Of_r8
instance : Reg c_once_Of_r8 a_once_Of_r8 4 := ⟨rfl, rfl⟩
@[simp] def a_once_Of_r9 : List COper := [
  ⟨(some 39), .mov, [.t 6], none⟩,
  ⟨(some 40), .mov, [.t 9], none⟩,
  ⟨(some 41), .iaddrArr 2 32 true, [.t 8, .t 40], none⟩,
  ⟨(some 42), .load true 32, [.t 41], none⟩,
  ⟨(some 43), .mov, [.t 9], none⟩,
  ⟨(some 44), .bin .sub, [.c (.int .i64 1), .t 43], none⟩,
  ⟨(some 45), .iaddrArr 2 32 true, [.t 8, .t 44], none⟩,
  ⟨(some 46), .load true 32, [.t 45], none⟩,
  ⟨(some 47), .bslice 32 2 (.arr 1 (rep 32 (.v (.int .u8 0)))) [0, 1], [.t 42, .t 46], none⟩,
  ⟨(some 48), .app 32 32, [.t 39, .t 47], none⟩,
  ⟨(some 6), .mov, [.t 48], none⟩]
def c_once_Of_r9 : List COper := a_once_Of_r9
instance : Reg c_once_Of_r9 a_once_Of_r9 11 := ⟨rfl, rfl⟩
@[simp] def a_once_Of_r10 : List COper := [
  ⟨(some 49), .bin .add, [.t 21, .c (.int .i64 1)], none⟩,
  ⟨(some 21), .mov, [.t 49], none⟩]
def c_once_Of_r10 : List COper := a_once_Of_r10
instance : Reg c_once_Of_r10 a_once_Of_r10 2 := ⟨rfl, rfl⟩
@[simp] def a_once_Of_r11 : List COper := [
  ⟨(some 50), .mov, [.t 6], none⟩,
  ⟨(some 51), .call fn_once_whole, [.t 50], none⟩,
  ⟨none, .store true 32, [.t 4, .t 51], none⟩,
  ⟨(some 5), .mov, [.c (.bool true)], none⟩]
def c_once_Of_r11 : List COper := a_once_Of_r11
instance : Reg c_once_Of_r11 a_once_Of_r11 4 := ⟨rfl, rfl⟩
@[simp] def c_once_Of : CCode :=
  .seq (.region c_once_Of_r0 none [2, 3, 4]) (.seq (.seq (.region c_once_Of_r1 none [2, 3, 4, 19]) (.cond (.t 19) (.seq (.region c_once_Of_r2 none [4, 5]) (.ret)) (.skip))) (.seq (.region c_once_Of_r3 none [2, 3, 4, 6]) (.seq (.seq (.region c_once_Of_r4 none [2, 3, 4, 6, 21]) (.block 0 (.loop (.seq (.region c_once_Of_r5 none [2, 3, 4, 6, 21, 22]) (.seq (.cond (.t 22) (.skip) (.exit 0)) (.seq (.block 1 (.seq (.region c_once_Of_r6 none [2, 3, 4, 6, 7, 21]) (.seq (.region c_once_Of_r7 (some ([0, 1, 0, 7, 15, 31, 0, 64, 0, 448, 960, 2047, 0, 8191], [(5, 7), (5, 10), (1, 12), (4, 12), (5, 12), (7, 12), (10, 12)])) [2, 3, 4, 6, 7, 8, 21]) (.seq (.region c_once_Of_r8 none [2, 3, 4, 6, 8, 9, 21]) (.region c_once_Of_r9 (some ([0, 0, 2, 6, 0, 16, 48, 112, 254, 511, 1023], [])) [2, 3, 4, 6, 21]))))) (.region c_once_Of_r10 none [2, 3, 4, 6, 21]))))))) (.seq (.region c_once_Of_r11 none [4, 5]) (.ret)))))
@[simp] def R_once_Of : List CRes := [.cell 4 true 32, .tmp 5]
theorem k_once_Of : chkFn Tryd.prog fn_once_Of c_once_Of R_once_Of 2 = true := by kernel_rfl
/-! wapentake/tree.Check -/
@[simp] def a_tree_Check_r0 : List COper := [
  ⟨(some 5), .box, [.t 0], none⟩,
  ⟨(some 6), .box, [.t 1], none⟩,
  ⟨(some 10), .mov, [.c (.bool false)], none⟩]
def c_tree_Check_r0 : List COper := a_tree_Check_r0
instance : Reg c_tree_Check_r0 a_tree_Check_r0 3 := ⟨rfl, rfl⟩
@[simp] def a_tree_Check_r1 : List COper := [
  ⟨(some 12), .mov, [.t 2], none⟩,
  ⟨(some 13), .bin .lss, [.t 12, .c (.int .i64 0)], none⟩,
  ⟨(some 14), .mov, [.t 13], none⟩,
  ⟨(some 15), .mov, [.t 2], (some (14, false))⟩,
  ⟨(some 16), .mov, [.t 3], (some (14, false))⟩,
  ⟨(some 17), .bin .geq, [.t 15, .t 16], (some (14, false))⟩,
  ⟨(some 18), .pick, [.t 14, .c (.bool true), .t 17], none⟩]
def c_tree_Check_r1 : List COper := a_tree_Check_r1
instance : Reg c_tree_Check_r1 a_tree_Check_r1 7 := ⟨rfl, rfl⟩
@[simp] def a_tree_Check_r2 : List COper := [
  ⟨(some 10), .mov, [.c (.bool false)], none⟩]
def c_tree_Check_r2 : List COper := a_tree_Check_r2
instance : Reg c_tree_Check_r2 a_tree_Check_r2 1 := ⟨rfl, rfl⟩
@[simp] def a_tree_Check_r3 : List COper := [
  ⟨(some 19), .mov, [.t 3], none⟩,
  ⟨(some 20), .bin .gtr, [.t 19, .c (.int .i64 1)], none⟩]
def c_tree_Check_r3 : List COper := a_tree_Check_r3
instance : Reg c_tree_Check_r3 a_tree_Check_r3 2 := ⟨rfl, rfl⟩
@[simp] def a_tree_Check_r5 : List COper := [
  ⟨(some 27), .mov, [.t 2], none⟩,
  ⟨(some 28), .bin .xor, [.t 27, .c (.int .i64 1)], none⟩,
  ⟨(some 11), .mov, [.t 28], none⟩]
def c_tree_Check_r5 : List COper := a_tree_Check_r5
instance : Reg c_tree_Check_r5 a_tree_Check_r5 3 := ⟨rfl, rfl⟩
@[simp] def a_tree_Check_r6 : List COper := [
  ⟨(some 29), .mov, [.t 11], none⟩,
  ⟨(some 30), .mov, [.t 3], none⟩,
  ⟨(some 31), .bin .geq, [.t 29, .t 30], none⟩]
def c_tree_Check_r6 : List COper := a_tree_Check_r6
instance : Reg c_tree_Check_r6 a_tree_Check_r6 3 := ⟨rfl, rfl⟩
@[simp] def a_tree_Check_r7 : List COper := [
  ⟨(some 32), .mov, [.t 4], none⟩,
  ⟨(some 33), .len, [.t 32], none⟩,
  ⟨(some 34), .bin .eql, [.t 33, .c (.int .i64 0)], none⟩]
def c_tree_Check_r7 : List COper := a_tree_Check_r7
instance : Reg c_tree_Check_r7 a_tree_Check_r7 3 := ⟨rfl, rfl⟩
@[simp] def a_tree_Check_r8 : List COper := [
  ⟨(some 10), .mov, [.c (.bool false)], none⟩]
def c_tree_Check_r8 : List COper := a_tree_Check_r8
instance : Reg c_tree_Check_r8 a_tree_Check_r8 1 := ⟨rfl, rfl⟩
@[simp] def a_tree_Check_r9 : List COper := [
  ⟨(some 35), .mov, [.t 11], none⟩,
  ⟨(some 36), .mov, [.t 2], none⟩,
  ⟨(some 37), .bin .lss, [.t 35, .t 36], none⟩]
def c_tree_Check_r9 : List COper := a_tree_Check_r9
instance : Reg c_tree_Check_r9 a_tree_Check_r9 3 := ⟨rfl, rfl⟩
@[simp] def a_tree_Check_r10 : List COper := [
  ⟨(some 38), .mov, [.t 4], none⟩,
  ⟨(some 39), .iaddr 32, [.t 38, .c (.int .i64 0)], none⟩,
  ⟨(some 40), .load true 32, [.t 39], none⟩,
  ⟨(some 41), .load true 32, [.t 6], none⟩,
  ⟨(some 42), .call fn_sha_Pair, [.c (.int .u8 1), .t 40, .t 41], none⟩,
  ⟨none, .store true 32, [.t 6, .t 42], none⟩]
def c_tree_Check_r10 : List COper := a_tree_Check_r10
instance : Reg c_tree_Check_r10 a_tree_Check_r10 6 := ⟨rfl, rfl⟩
@[simp] def a_tree_Check_r11 : List COper := [
  ⟨(some 43), .load true 32, [.t 6], none⟩,
  ⟨(some 44), .mov, [.t 4], none⟩,
  ⟨(some 45), .iaddr 32, [.t 44, .c (.int .i64 0)], none⟩,
  ⟨(some 46), .load true 32, [.t 45], none⟩,
  ⟨(some 47), .call fn_sha_Pair, [.c (.int .u8 1), .t 43, .t 46], none⟩,
  ⟨none, .store true 32, [.t 6, .t 47], none⟩]
def c_tree_Check_r11 : List COper := a_tree_Check_r11
instance : Reg c_tree_Check_r11 a_tree_Check_r11 6 := ⟨rfl, rfl⟩
@[simp] def a_tree_Check_r12 : List COper := [
  ⟨(some 48), .mov, [.t 4], none⟩,
  ⟨(some 49), .slice 32 true false, [.t 48, .c (.int .i64 1)], none⟩,
  ⟨(some 4), .mov, [.t 49], none⟩]
def c_tree_Check_r12 : List COper := a_tree_Check_r12
instance : Reg c_tree_Check_r12 a_tree_Check_r12 3 := ⟨rfl, rfl⟩
@[simp] def a_tree_Check_r4 : List COper := [
  ⟨(some 21), .mov, [.t 2], none⟩,
  ⟨(some 22), .bin .quo, [.t 21, .c (.int .i64 2)], none⟩,
  ⟨(some 23), .mov, [.t 3], none⟩,
  ⟨(some 24), .bin .sub, [.t 23, .c (.int .i64 1)], none⟩,
  ⟨(some 25), .bin .quo, [.t 24, .c (.int .i64 2)], none⟩,
  ⟨(some 26), .bin .add, [.t 25, .c (.int .i64 1)], none⟩,
  ⟨(some 2), .mov, [.t 22], none⟩,
  ⟨(some 3), .mov, [.t 26], none⟩]
def c_tree_Check_r4 : List COper := a_tree_Check_r4
instance : Reg c_tree_Check_r4 a_tree_Check_r4 8 := ⟨rfl, rfl⟩
@[simp] def a_tree_Check_r13 : List COper := [
  ⟨(some 50), .mov, [.t 4], none⟩,
  ⟨(some 51), .len, [.t 50], none⟩,
  ⟨(some 52), .bin .eql, [.t 51, .c (.int .i64 0)], none⟩,
  ⟨(some 53), .mov, [.t 52], none⟩,
  ⟨(some 54), .load true 32, [.t 6], (some (53, true))⟩,
  ⟨(some 55), .load true 32, [.t 5], (some (53, true))⟩,
  ⟨(some 56), .eqa false .u8 32, [.t 54, .t 55], (some (53, true))⟩,
  ⟨(some 57), .pick, [.t 53, .t 56, .c (.bool false)], none⟩,
  ⟨(some 10), .mov, [.t 57], none⟩]
def c_tree_Check_r13 : List COper := a_tree_Check_r13
instance : Reg c_tree_Check_r13 a_tree_Check_r13 9 := ⟨rfl, rfl⟩
@[simp] def c_tree_Check : CCode :=
  .seq (.region c_tree_Check_r0 none [2, 3, 4, 5, 6]) (.seq (.seq (.region c_tree_Check_r1 none [2, 3, 4, 5, 6, 18]) (.cond (.t 18) (.seq (.region c_tree_Check_r2 none [10]) (.ret)) (.skip))) (.seq (.block 0 (.loop (.seq (.seq (.region c_tree_Check_r3 none [2, 3, 4, 5, 6, 20]) (.cond (.t 20) (.skip) (.exit 0))) (.seq (.block 1 (.seq (.region c_tree_Check_r5 none [2, 3, 4, 5, 6, 11]) (.seq (.seq (.region c_tree_Check_r6 none [2, 3, 4, 5, 6, 11, 31]) (.cond (.t 31) (.exit 1) (.skip))) (.seq (.seq (.region c_tree_Check_r7 none [2, 3, 4, 5, 6, 11, 34]) (.cond (.t 34) (.seq (.region c_tree_Check_r8 none [10]) (.ret)) (.skip))) (.seq (.seq (.region c_tree_Check_r9 none [2, 3, 4, 5, 6, 37]) (.cond (.t 37) (.region c_tree_Check_r10 (some ([0, 1, 3, 0, 15, 31], [])) [2, 3, 4, 5, 6]) (.region c_tree_Check_r11 (some ([0, 0, 2, 6, 15, 31], [])) [2, 3, 4, 5, 6]))) (.region c_tree_Check_r12 none [2, 3, 4, 5, 6])))))) (.region c_tree_Check_r4 none [2, 3, 4, 5, 6]))))) (.seq (.region c_tree_Check_r13 none [10]) (.ret))))
@[simp] def R_tree_Check : List CRes := [.tmp 10]
theorem k_tree_Check : chkFn Tryd.prog fn_tree_Check c_tree_Check R_tree_Check 5 = true := by kernel_rfl
/-! wapentake/wapentakeref04.Same -/
@[simp] def a_r04_Same_r0 : List COper := [
  ⟨(some 2), .box, [.t 0], none⟩,
  ⟨(some 3), .box, [.t 1], none⟩,
  ⟨(some 4), .mov, [.c (.bool false)], none⟩]
def c_r04_Same_r0 : List COper := a_r04_Same_r0
instance : Reg c_r04_Same_r0 a_r04_Same_r0 3 := ⟨rfl, rfl⟩
@[simp] def a_r04_Same_r1 : List COper := [
  ⟨(some 5), .faddr 0 1 false, [.t 2], none⟩,
  ⟨(some 6), .load false 1, [.t 5], none⟩,
  ⟨(some 7), .faddr 0 1 false, [.t 3], none⟩,
  ⟨(some 8), .load false 1, [.t 7], none⟩,
  ⟨(some 9), .call fn_r03_Same, [.t 6, .t 8], none⟩,
  ⟨(some 10), .mov, [.t 9], none⟩,
  ⟨(some 11), .faddr 1 1 false, [.t 2], (some (10, true))⟩,
  ⟨(some 12), .load false 1, [.t 11], (some (10, true))⟩,
  ⟨(some 13), .faddr 1 1 false, [.t 3], (some (10, true))⟩,
  ⟨(some 14), .load false 1, [.t 13], (some (10, true))⟩,
  ⟨(some 15), .call fn_r03_Same, [.t 12, .t 14], (some (10, true))⟩,
  ⟨(some 16), .pick, [.t 10, .t 15, .c (.bool false)], none⟩,
  ⟨(some 4), .mov, [.t 16], none⟩]
def c_r04_Same_r1 : List COper := a_r04_Same_r1
instance : Reg c_r04_Same_r1 a_r04_Same_r1 13 := ⟨rfl, rfl⟩
@[simp] def c_r04_Same : CCode :=
  .seq (.region c_r04_Same_r0 none [2, 3]) (.seq (.region c_r04_Same_r1 none [4]) (.ret))
@[simp] def R_r04_Same : List CRes := [.tmp 4]
theorem k_r04_Same : chkFn Tryd.prog fn_r04_Same c_r04_Same R_r04_Same 2 = true := by kernel_rfl
/-! wapentake/wapentakeref03.Same -/
@[simp] def a_r03_Same_r0 : List COper := [
  ⟨(some 4), .mov, [.c (.bool false)], none⟩]
def c_r03_Same_r0 : List COper := a_r03_Same_r0
instance : Reg c_r03_Same_r0 a_r03_Same_r0 1 := ⟨rfl, rfl⟩
@[simp] def a_r03_Same_r1 : List COper := [
  ⟨(some 6), .mov, [.t 0], none⟩,
  ⟨(some 7), .len, [.t 6], none⟩,
  ⟨(some 8), .mov, [.t 1], none⟩,
  ⟨(some 9), .len, [.t 8], none⟩,
  ⟨(some 10), .bin .neq, [.t 7, .t 9], none⟩]
def c_r03_Same_r1 : List COper := a_r03_Same_r1
instance : Reg c_r03_Same_r1 a_r03_Same_r1 5 := ⟨rfl, rfl⟩
@[simp] def a_r03_Same_r2 : List COper := [
  ⟨(some 4), .mov, [.c (.bool false)], none⟩]
def c_r03_Same_r2 : List COper := a_r03_Same_r2
instance : Reg c_r03_Same_r2 a_r03_Same_r2 1 := ⟨rfl, rfl⟩
@[simp] def a_r03_Same_r3 : List COper := [
  ⟨(some 11), .mov, [.t 0], none⟩,
  ⟨(some 12), .len, [.t 11], none⟩,
  ⟨(some 13), .mov, [.c (.int .i64 0)], none⟩]
def c_r03_Same_r3 : List COper := a_r03_Same_r3
instance : Reg c_r03_Same_r3 a_r03_Same_r3 3 := ⟨rfl, rfl⟩
@[simp] def a_r03_Same_r4 : List COper := [
  ⟨(some 14), .bin .lss, [.t 13, .t 12], none⟩]
def c_r03_Same_r4 : List COper := a_r03_Same_r4
instance : Reg c_r03_Same_r4 a_r03_Same_r4 1 := ⟨rfl, rfl⟩
@[simp] def a_r03_Same_r5 : List COper := [
  ⟨(some 15), .mov, [.t 13], none⟩,
  ⟨(some 5), .mov, [.t 15], none⟩]
def c_r03_Same_r5 : List COper := a_r03_Same_r5
instance : Reg c_r03_Same_r5 a_r03_Same_r5 2 := ⟨rfl, rfl⟩
@[simp] def a_r03_Same_r6 : List COper := [
  ⟨(some 16), .mov, [.t 0], none⟩,
  ⟨(some 17), .mov, [.t 5], none⟩,
  ⟨(some 18), .iaddr 32, [.t 16, .t 17], none⟩,
  ⟨(some 19), .load true 32, [.t 18], none⟩,
  ⟨(some 20), .mov, [.t 1], none⟩,
  ⟨(some 21), .mov, [.t 5], none⟩,
  ⟨(some 22), .iaddr 32, [.t 20, .t 21], none⟩,
  ⟨(some 23), .load true 32, [.t 22], none⟩,
  ⟨(some 24), .eqa true .u8 32, [.t 19, .t 23], none⟩]
def c_r03_Same_r6 : List COper := a_r03_Same_r6
instance : Reg c_r03_Same_r6 a_r03_Same_r6 9 := ⟨rfl, rfl⟩
@[simp] def a_r03_Same_r7 : List COper := [
  ⟨(some 4), .mov, [.c (.bool false)], none⟩]
def c_r03_Same_r7 : List COper := a_r03_Same_r7
instance : Reg c_r03_Same_r7 a_r03_Same_r7 1 := ⟨rfl, rfl⟩
@[simp] def a_r03_Same_r8 : List COper := [
  ⟨(some 25), .bin .add, [.t 13, .c (.int .i64 1)], none⟩,
  ⟨(some 13), .mov, [.t 25], none⟩]
def c_r03_Same_r8 : List COper := a_r03_Same_r8
instance : Reg c_r03_Same_r8 a_r03_Same_r8 2 := ⟨rfl, rfl⟩
@[simp] def a_r03_Same_r9 : List COper := [
  ⟨(some 4), .mov, [.c (.bool true)], none⟩]
def c_r03_Same_r9 : List COper := a_r03_Same_r9
instance : Reg c_r03_Same_r9 a_r03_Same_r9 1 := ⟨rfl, rfl⟩
@[simp] def c_r03_Same : CCode :=
  .seq (.region c_r03_Same_r0 none [0, 1]) (.seq (.seq (.region c_r03_Same_r1 none [0, 1, 10]) (.cond (.t 10) (.seq (.region c_r03_Same_r2 none [4]) (.ret)) (.skip))) (.seq (.seq (.region c_r03_Same_r3 none [0, 1, 12, 13]) (.block 0 (.loop (.seq (.region c_r03_Same_r4 none [0, 1, 12, 13, 14]) (.seq (.cond (.t 14) (.skip) (.exit 0)) (.seq (.block 1 (.seq (.region c_r03_Same_r5 none [0, 1, 5, 12, 13]) (.seq (.region c_r03_Same_r6 (some ([0, 0, 3, 7, 0, 0, 48, 112, 255], [])) [0, 1, 12, 13, 24]) (.cond (.t 24) (.seq (.region c_r03_Same_r7 none [4]) (.ret)) (.skip))))) (.region c_r03_Same_r8 none [0, 1, 12, 13]))))))) (.seq (.region c_r03_Same_r9 none [4]) (.ret))))
@[simp] def R_r03_Same : List CRes := [.tmp 4]
theorem k_r03_Same : chkFn Tryd.prog fn_r03_Same c_r03_Same R_r03_Same 2 = true := by kernel_rfl
/-! (*wapentake/code.Reader).take -/
@[simp] def a_code_Reader_take_r0 : List COper := [
  ⟨(some 4), .mov, [.c (.slice none 0 0)], none⟩]
def c_code_Reader_take_r0 : List COper := a_code_Reader_take_r0
instance : Reg c_code_Reader_take_r0 a_code_Reader_take_r0 1 := ⟨rfl, rfl⟩
@[simp] def a_code_Reader_take_r1 : List COper := [
  ⟨(some 6), .mov, [.t 0], none⟩,
  ⟨(some 7), .eqp false, [.t 6, .c (.pointer none)], none⟩]
def c_code_Reader_take_r1 : List COper := a_code_Reader_take_r1
instance : Reg c_code_Reader_take_r1 a_code_Reader_take_r1 2 := ⟨rfl, rfl⟩
@[simp] def a_code_Reader_take_r2 : List COper := [
  ⟨(some 4), .mov, [.c (.slice none 0 0)], none⟩]
def c_code_Reader_take_r2 : List COper := a_code_Reader_take_r2
instance : Reg c_code_Reader_take_r2 a_code_Reader_take_r2 1 := ⟨rfl, rfl⟩
@[simp] def a_code_Reader_take_r3 : List COper := [
  ⟨(some 8), .mov, [.t 0], none⟩,
  ⟨(some 9), .nilc, [.t 8], none⟩,
  ⟨(some 10), .faddr 1 1 false, [.t 9], none⟩,
  ⟨(some 11), .load false 1, [.t 10], none⟩,
  ⟨(some 12), .mov, [.t 11], none⟩,
  ⟨(some 13), .mov, [.t 1], (some (12, false))⟩,
  ⟨(some 14), .bin .lss, [.t 13, .c (.int .i64 0)], (some (12, false))⟩,
  ⟨(some 15), .pick, [.t 12, .c (.bool true), .t 14], none⟩,
  ⟨(some 16), .mov, [.t 15], none⟩,
  ⟨(some 17), .mov, [.t 1], (some (16, false))⟩,
  ⟨(some 18), .mov, [.t 0], (some (16, false))⟩,
  ⟨(some 19), .nilc, [.t 18], (some (16, false))⟩,
  ⟨(some 20), .faddr 0 1 false, [.t 19], (some (16, false))⟩,
  ⟨(some 21), .load false 1, [.t 20], (some (16, false))⟩,
  ⟨(some 22), .len, [.t 21], (some (16, false))⟩,
  ⟨(some 23), .bin .gtr, [.t 17, .t 22], (some (16, false))⟩,
  ⟨(some 24), .pick, [.t 16, .c (.bool true), .t 23], none⟩]
def c_code_Reader_take_r3 : List COper := a_code_Reader_take_r3
instance : Reg c_code_Reader_take_r3 a_code_Reader_take_r3 17 := ⟨rfl, rfl⟩
@[simp] def a_code_Reader_take_r4 : List COper := [
  ⟨(some 25), .mov, [.t 0], none⟩,
  ⟨(some 26), .nilc, [.t 25], none⟩,
  ⟨(some 27), .faddr 0 1 false, [.t 26], none⟩,
  ⟨(some 28), .load false 1, [.t 27], none⟩,
  ⟨(some 29), .mov, [.t 1], none⟩,
  ⟨(some 30), .slice 1 false true, [.t 28, .t 29], none⟩,
  ⟨(some 5), .mov, [.t 30], none⟩]
def c_code_Reader_take_r4 : List COper := a_code_Reader_take_r4
instance : Reg c_code_Reader_take_r4 a_code_Reader_take_r4 7 := ⟨rfl, rfl⟩
@[simp] def a_code_Reader_take_r5 : List COper := [
  ⟨(some 31), .mov, [.t 0], none⟩,
  ⟨(some 32), .mov, [.t 0], none⟩,
  ⟨(some 33), .nilc, [.t 32], none⟩,
  ⟨(some 34), .faddr 0 1 false, [.t 33], none⟩,
  ⟨(some 35), .load false 1, [.t 34], none⟩,
  ⟨(some 36), .mov, [.t 1], none⟩,
  ⟨(some 37), .slice 1 true false, [.t 35, .t 36], none⟩,
  ⟨(some 38), .nilc, [.t 31], none⟩,
  ⟨(some 39), .faddr 0 1 false, [.t 38], none⟩,
  ⟨none, .store false 1, [.t 39, .t 37], none⟩]
def c_code_Reader_take_r5 : List COper := a_code_Reader_take_r5
instance : Reg c_code_Reader_take_r5 a_code_Reader_take_r5 10 := ⟨rfl, rfl⟩
@[simp] def a_code_Reader_take_r6 : List COper := [
  ⟨(some 40), .mov, [.t 5], none⟩,
  ⟨(some 4), .mov, [.t 40], none⟩]
def c_code_Reader_take_r6 : List COper := a_code_Reader_take_r6
instance : Reg c_code_Reader_take_r6 a_code_Reader_take_r6 2 := ⟨rfl, rfl⟩
@[simp] def a_code_Reader_take_r7 : List COper := [
  ⟨(some 41), .mov, [.t 0], none⟩,
  ⟨(some 42), .mov, [.t 0], none⟩,
  ⟨(some 43), .nilc, [.t 41], none⟩,
  ⟨(some 44), .faddr 1 1 false, [.t 43], none⟩,
  ⟨none, .store false 1, [.t 44, .c (.bool true)], none⟩,
  ⟨(some 45), .nilc, [.t 42], none⟩,
  ⟨(some 46), .faddr 0 1 false, [.t 45], none⟩,
  ⟨none, .store false 1, [.t 46, .c (.slice none 0 0)], none⟩]
def c_code_Reader_take_r7 : List COper := a_code_Reader_take_r7
instance : Reg c_code_Reader_take_r7 a_code_Reader_take_r7 8 := ⟨rfl, rfl⟩
@[simp] def a_code_Reader_take_r8 : List COper := [
  ⟨(some 4), .mov, [.c (.slice none 0 0)], none⟩]
def c_code_Reader_take_r8 : List COper := a_code_Reader_take_r8
instance : Reg c_code_Reader_take_r8 a_code_Reader_take_r8 1 := ⟨rfl, rfl⟩
@[simp] def c_code_Reader_take : CCode :=
  .seq (.region c_code_Reader_take_r0 none [0, 1]) (.scope 0 (.seq (.seq (.region c_code_Reader_take_r1 none [0, 1, 7]) (.cond (.t 7) (.seq (.region c_code_Reader_take_r2 none [4]) (.ret)) (.skip))) (.seq (.seq (.region c_code_Reader_take_r3 none [0, 1, 24]) (.cond (.t 24) (.goto 0) (.skip))) (.seq (.seq (.region c_code_Reader_take_r4 none [0, 1, 5]) (.seq (.region c_code_Reader_take_r5 none [5]) (.seq (.region c_code_Reader_take_r6 none [4]) (.ret)))) (.seq (.label 0) (.seq (.region c_code_Reader_take_r7 none []) (.seq (.region c_code_Reader_take_r8 none [4]) (.ret))))))) (.seq (.skip) (.seq (.region c_code_Reader_take_r7 none []) (.seq (.region c_code_Reader_take_r8 none [4]) (.ret)))))
@[simp] def R_code_Reader_take : List CRes := [.tmp 4]
theorem k_code_Reader_take : chkFn Tryd.prog fn_code_Reader_take c_code_Reader_take R_code_Reader_take 2 = true := by kernel_rfl
/-! (*wapentake/code.Writer).Text -/
@[simp] def a_code_Writer_Text_r0 : List COper := [
  ⟨(some 7), .mov, [.t 0], none⟩,
  ⟨(some 8), .eqp false, [.t 7, .c (.pointer none)], none⟩]
def c_code_Writer_Text_r0 : List COper := a_code_Writer_Text_r0
instance : Reg c_code_Writer_Text_r0 a_code_Writer_Text_r0 2 := ⟨rfl, rfl⟩
@[simp] def a_code_Writer_Text_r1 : List COper := [
  ⟨(some 9), .mov, [.t 1], none⟩,
  ⟨(some 10), .len, [.t 9], none⟩,
  ⟨(some 11), .mov, [.c (.int .i64 0)], none⟩]
def c_code_Writer_Text_r1 : List COper := a_code_Writer_Text_r1
instance : Reg c_code_Writer_Text_r1 a_code_Writer_Text_r1 3 := ⟨rfl, rfl⟩
@[simp] def a_code_Writer_Text_r2 : List COper := [
  ⟨(some 12), .bin .lss, [.t 11, .t 10], none⟩]
def c_code_Writer_Text_r2 : List COper := a_code_Writer_Text_r2
instance : Reg c_code_Writer_Text_r2 a_code_Writer_Text_r2 1 := ⟨rfl, rfl⟩
@[simp] def a_code_Writer_Text_r3 : List COper := [
  ⟨(some 13), .iaddr 1, [.t 9, .t 11], none⟩,
  ⟨(some 14), .load false 1, [.t 13], none⟩,
  ⟨(some 5), .mov, [.t 14], none⟩]
def c_code_Writer_Text_r3 : List COper := a_code_Writer_Text_r3
instance : Reg c_code_Writer_Text_r3 a_code_Writer_Text_r3 3 := ⟨rfl, rfl⟩
@[simp] def a_code_Writer_Text_r4 : List COper := [
  ⟨(some 15), .mov, [.t 5], none⟩,
  ⟨(some 16), .lenS, [.t 15], none⟩,
  ⟨(some 6), .mov, [.t 16], none⟩]
def c_code_Writer_Text_r4 : List COper := a_code_Writer_Text_r4
instance : Reg c_code_Writer_Text_r4 a_code_Writer_Text_r4 3 := ⟨rfl, rfl⟩
@[simp] def a_code_Writer_Text_r5 : List COper := [
  ⟨(some 17), .mov, [.t 0], none⟩,
  ⟨(some 18), .mov, [.t 0], none⟩,
  ⟨(some 19), .nilc, [.t 18], none⟩,
  ⟨(some 20), .faddr 0 1 false, [.t 19], none⟩,
  ⟨(some 21), .load false 1, [.t 20], none⟩,
  ⟨(some 22), .mov, [.t 6], none⟩,
  ⟨(some 23), .bin .shr, [.t 22, .c (.int .u64 24)], none⟩,
  ⟨(some 24), .convI .u8, [.t 23], none⟩,
  ⟨(some 25), .mov, [.t 6], none⟩,
  ⟨(some 26), .bin .shr, [.t 25, .c (.int .u64 16)], none⟩,
  ⟨(some 27), .convI .u8, [.t 26], none⟩,
  ⟨(some 28), .mov, [.t 6], none⟩,
  ⟨(some 29), .bin .shr, [.t 28, .c (.int .u64 8)], none⟩,
  ⟨(some 30), .convI .u8, [.t 29], none⟩,
  ⟨(some 31), .mov, [.t 6], none⟩,
  ⟨(some 32), .convI .u8, [.t 31], none⟩,
  ⟨(some 33), .bslice 1 4 (.v (.int .u8 0)) [0, 1, 2, 3], [.t 24, .t 27, .t 30, .t 32], none⟩,
  ⟨(some 34), .app 1 1, [.t 21, .t 33], none⟩,
  ⟨(some 35), .nilc, [.t 17], none⟩,
  ⟨(some 36), .faddr 0 1 false, [.t 35], none⟩,
  ⟨none, .store false 1, [.t 36, .t 34], none⟩]
def c_code_Writer_Text_r5 : List COper := a_code_Writer_Text_r5
instance : Reg c_code_Writer_Text_r5 a_code_Writer_Text_r5 21 := ⟨rfl, rfl⟩
@[simp] def a_code_Writer_Text_r6 : List COper := [
  ⟨(some 37), .mov, [.t 0], none⟩,
  ⟨(some 38), .mov, [.t 0], none⟩,
  ⟨(some 39), .nilc, [.t 38], none⟩,
  ⟨(some 40), .faddr 0 1 false, [.t 39], none⟩,
  ⟨(some 41), .load false 1, [.t 40], none⟩,
  ⟨(some 42), .mov, [.t 5], none⟩,
  ⟨(some 43), .appS 1, [.t 41, .t 42], none⟩,
  ⟨(some 44), .nilc, [.t 37], none⟩,
  ⟨(some 45), .faddr 0 1 false, [.t 44], none⟩,
  ⟨none, .store false 1, [.t 45, .t 43], none⟩]
def c_code_Writer_Text_r6 : List COper := a_code_Writer_Text_r6
instance : Reg c_code_Writer_Text_r6 a_code_Writer_Text_r6 10 := ⟨rfl, rfl⟩
@[simp] def a_code_Writer_Text_r7 : List COper := [
  ⟨(some 46), .bin .add, [.t 11, .c (.int .i64 1)], none⟩,
  ⟨(some 11), .mov, [.t 46], none⟩]
def c_code_Writer_Text_r7 : List COper := a_code_Writer_Text_r7
instance : Reg c_code_Writer_Text_r7 a_code_Writer_Text_r7 2 := ⟨rfl, rfl⟩
@[simp] def c_code_Writer_Text : CCode :=
  .seq (.seq (.region c_code_Writer_Text_r0 none [0, 1, 8]) (.cond (.t 8) (.ret) (.skip))) (.seq (.region c_code_Writer_Text_r1 none [0, 9, 10, 11]) (.block 0 (.loop (.seq (.region c_code_Writer_Text_r2 none [0, 9, 10, 11, 12]) (.seq (.cond (.t 12) (.skip) (.exit 0)) (.seq (.block 1 (.seq (.region c_code_Writer_Text_r3 none [0, 5, 9, 10, 11]) (.seq (.region c_code_Writer_Text_r4 none [0, 5, 6, 9, 10, 11]) (.seq (.region c_code_Writer_Text_r5 none [0, 5, 9, 10, 11]) (.region c_code_Writer_Text_r6 none [0, 9, 10, 11]))))) (.region c_code_Writer_Text_r7 none [0, 9, 10, 11])))))))
@[simp] def R_code_Writer_Text : List CRes := []
theorem k_code_Writer_Text : chkFn Tryd.prog fn_code_Writer_Text c_code_Writer_Text R_code_Writer_Text 2 = true := by kernel_rfl
/-! wapentake/sha.word -/
@[simp] def a_sha_word_r0 : List COper := [
  ⟨(some 2), .mov, [.c (.int .u32 0)], none⟩]
def c_sha_word_r0 : List COper := a_sha_word_r0
instance : Reg c_sha_word_r0 a_sha_word_r0 1 := ⟨rfl, rfl⟩
@[simp] def a_sha_word_r1 : List COper := [
  ⟨(some 3), .mov, [.t 0], none⟩,
  ⟨(some 4), .iaddr 1, [.t 3, .c (.int .i64 0)], none⟩,
  ⟨(some 5), .load false 1, [.t 4], none⟩,
  ⟨(some 6), .convI .u32, [.t 5], none⟩,
  ⟨(some 7), .bin .shl, [.t 6, .c (.int .u64 24)], none⟩,
  ⟨(some 8), .mov, [.t 0], none⟩,
  ⟨(some 9), .iaddr 1, [.t 8, .c (.int .i64 1)], none⟩,
  ⟨(some 10), .load false 1, [.t 9], none⟩,
  ⟨(some 11), .convI .u32, [.t 10], none⟩,
  ⟨(some 12), .bin .shl, [.t 11, .c (.int .u64 16)], none⟩,
  ⟨(some 13), .bin .or, [.t 7, .t 12], none⟩,
  ⟨(some 14), .mov, [.t 0], none⟩,
  ⟨(some 15), .iaddr 1, [.t 14, .c (.int .i64 2)], none⟩,
  ⟨(some 16), .load false 1, [.t 15], none⟩,
  ⟨(some 17), .convI .u32, [.t 16], none⟩,
  ⟨(some 18), .bin .shl, [.t 17, .c (.int .u64 8)], none⟩,
  ⟨(some 19), .bin .or, [.t 13, .t 18], none⟩,
  ⟨(some 20), .mov, [.t 0], none⟩,
  ⟨(some 21), .iaddr 1, [.t 20, .c (.int .i64 3)], none⟩,
  ⟨(some 22), .load false 1, [.t 21], none⟩,
  ⟨(some 23), .convI .u32, [.t 22], none⟩,
  ⟨(some 24), .bin .or, [.t 19, .t 23], none⟩,
  ⟨(some 2), .mov, [.t 24], none⟩]
def c_sha_word_r1 : List COper := a_sha_word_r1
instance : Reg c_sha_word_r1 a_sha_word_r1 23 := ⟨rfl, rfl⟩
@[simp] def c_sha_word : CCode :=
  .seq (.region c_sha_word_r0 none [0]) (.seq (.region c_sha_word_r1 (some ([0, 1, 3, 7, 15, 0, 32, 96, 224, 480, 1023, 0, 2048, 6144, 14336, 30720, 65535, 0, 131072, 393216, 917504, 2097151, 4194303], [])) [2]) (.ret))
@[simp] def R_sha_word : List CRes := [.tmp 2]
theorem k_sha_word : chkFn Tryd.prog fn_sha_word c_sha_word R_sha_word 1 = true := by kernel_rfl
/-! math/bits.RotateLeft32 -/
@[simp] def a_bits_RotateLeft32_r0 : List COper := [
  ⟨(some 4), .mov, [.c (.int .u32 0)], none⟩]
def c_bits_RotateLeft32_r0 : List COper := a_bits_RotateLeft32_r0
instance : Reg c_bits_RotateLeft32_r0 a_bits_RotateLeft32_r0 1 := ⟨rfl, rfl⟩
@[simp] def a_bits_RotateLeft32_r1 : List COper := [
  ⟨(some 6), .mov, [.t 1], none⟩,
  ⟨(some 7), .convI .u64, [.t 6], none⟩,
  ⟨(some 8), .bin .and, [.t 7, .c (.int .u64 31)], none⟩,
  ⟨(some 5), .mov, [.t 8], none⟩]
def c_bits_RotateLeft32_r1 : List COper := a_bits_RotateLeft32_r1
instance : Reg c_bits_RotateLeft32_r1 a_bits_RotateLeft32_r1 4 := ⟨rfl, rfl⟩
@[simp] def a_bits_RotateLeft32_r2 : List COper := [
  ⟨(some 9), .mov, [.t 0], none⟩,
  ⟨(some 10), .mov, [.t 5], none⟩,
  ⟨(some 11), .bin .shl, [.t 9, .t 10], none⟩,
  ⟨(some 12), .mov, [.t 0], none⟩,
  ⟨(some 13), .mov, [.t 5], none⟩,
  ⟨(some 14), .bin .sub, [.c (.int .u64 32), .t 13], none⟩,
  ⟨(some 15), .bin .shr, [.t 12, .t 14], none⟩,
  ⟨(some 16), .bin .or, [.t 11, .t 15], none⟩,
  ⟨(some 4), .mov, [.t 16], none⟩]
def c_bits_RotateLeft32_r2 : List COper := a_bits_RotateLeft32_r2
instance : Reg c_bits_RotateLeft32_r2 a_bits_RotateLeft32_r2 9 := ⟨rfl, rfl⟩
@[simp] def c_bits_RotateLeft32 : CCode :=
  .seq (.region c_bits_RotateLeft32_r0 none [0, 1]) (.seq (.region c_bits_RotateLeft32_r1 none [0, 5]) (.seq (.region c_bits_RotateLeft32_r2 none [4]) (.ret)))
@[simp] def R_bits_RotateLeft32 : List CRes := [.tmp 4]
theorem k_bits_RotateLeft32 : chkFn Tryd.prog fn_bits_RotateLeft32 c_bits_RotateLeft32 R_bits_RotateLeft32 2 = true := by kernel_rfl
/-! wapentake/sha.Pair -/
@[simp] def a_sha_Pair_r0 : List COper := [
  ⟨(some 4), .box, [.t 1], none⟩,
  ⟨(some 5), .box, [.t 2], none⟩,
  ⟨(some 6), .alloc (.arr 1 (rep 32 (.v (.int .u8 0)))), [], none⟩]
def c_sha_Pair_r0 : List COper := a_sha_Pair_r0
instance : Reg c_sha_Pair_r0 a_sha_Pair_r0 3 := ⟨rfl, rfl⟩
@[simp] def a_sha_Pair_r1 : List COper := [
  ⟨(some 7), .mov, [.t 0], none⟩,
  ⟨(some 8), .bslice 1 1 (.v (.int .u8 0)) [0], [.t 7], none⟩,
  ⟨(some 9), .sliceArr 32 1 false false, [.t 4], none⟩,
  ⟨(some 10), .sliceArr 32 1 false false, [.t 5], none⟩,
  ⟨(some 11), .bslice 1 3 (.v (.slice none 0 0)) [0, 1, 2], [.t 8, .t 9, .t 10], none⟩,
  ⟨(some 12), .call fn_sha_Of, [.t 11], none⟩,
  ⟨none, .store true 32, [.t 6, .t 12], none⟩]
def c_sha_Pair_r1 : List COper := a_sha_Pair_r1
instance : Reg c_sha_Pair_r1 a_sha_Pair_r1 7 := ⟨rfl, rfl⟩
@[simp] def c_sha_Pair : CCode :=
  .seq (.region c_sha_Pair_r0 none [0, 4, 5, 6]) (.seq (.region c_sha_Pair_r1 (some ([0, 1, 0, 0, 15, 31, 63], [])) [6]) (.ret))
@[simp] def R_sha_Pair : List CRes := [.cell 6 true 32]
theorem k_sha_Pair : chkFn Tryd.prog fn_sha_Pair c_sha_Pair R_sha_Pair 3 = true := by kernel_rfl

end Go.Proofs.YtjlmpdbagmdbiaaDoor.WL
