/- The program's functions as abstract texts, each held against the program by the kernel. -/
import Derived.Test.YtglkfbhjimnboaaWm5
import Derived.Test.YtglkfbhjimnboaaChecked
namespace Go.Proofs.Ytglkfbhjimnboaa.WL
open Go
theorem mix : Try.prog.follows .mixedOrders = true := by kernel_rfl
def fn_l20_MailReads : Nat := 3
def fn_l20_MailBack : Nat := 4
def fn_l20_MailLong : Nat := 5
def fn_l20_MailParts : Nat := 6
def fn_l20_alive : Nat := 7
def fn_mail_Decode : Nat := 8
def fn_r20_Decode : Nat := 9
def fn_r20_Same : Nat := 10
def fn_l20_great : Nat := 11
def fn_mail_Encode : Nat := 12
def fn_code_Read : Nat := 13
def fn_code_Reader_In : Nat := 14
def fn_vote_ReadPlan : Nat := 15
def fn_vote_Read : Nat := 16
def fn_request_Read : Nat := 17
def fn_request_ReadReply : Nat := 18
def fn_block_Read : Nat := 19
def fn_cert_Read : Nat := 20
def fn_code_Reader_Good : Nat := 21
def fn_chain_Read : Nat := 22
def fn_mail_piece : Nat := 23
def fn_code_Reader_End : Nat := 24
def fn_r01_Reader_In : Nat := 25
def fn_r13_ReadPlan : Nat := 26
def fn_r13_Read : Nat := 27
def fn_r09_Read : Nat := 28
def fn_r09_ReadReply : Nat := 29
def fn_r12_Read : Nat := 30
def fn_r14_Read : Nat := 31
def fn_r01_Reader_Good : Nat := 32
def fn_r15_Read : Nat := 33
def fn_r20_piece : Nat := 34
def fn_r01_Reader_End : Nat := 35
def fn_r09_Same : Nat := 36
def fn_r13_Same : Nat := 37
def fn_r13_SamePlan : Nat := 38
def fn_r12_Same : Nat := 39
def fn_r14_Same : Nat := 40
def fn_r15_Same : Nat := 41
def fn_r11_Same : Nat := 42
def fn_r12_Great : Nat := 43
def fn_code_Writer_Num : Nat := 44
def fn_mail_body : Nat := 45
def fn_code_Writer_Bytes : Nat := 46
def fn_code_Reader_Num : Nat := 47
def fn_keys_Read : Nat := 48
def fn_code_Reader_Digest : Nat := 49
def fn_code_Reader_Text : Nat := 50
def fn_config_Read : Nat := 51
def fn_r01_Reader_Num : Nat := 52
def fn_r01_Reader_Take : Nat := 53
def fn_r05_Read : Nat := 54
def fn_r01_Reader_Digest : Nat := 55
def fn_r01_Reader_Text : Nat := 56
def fn_r08_Read : Nat := 57
def fn_r09_Texts : Nat := 58
def fn_r05_Same : Nat := 59
def fn_r08_Same : Nat := 60
def fn_r03_Same : Nat := 61
def fn_vote_WritePlan : Nat := 62
def fn_vote_Write : Nat := 63
def fn_request_Write : Nat := 64
def fn_request_WriteReply : Nat := 65
def fn_block_Write : Nat := 66
def fn_cert_Write : Nat := 67
def fn_mail_list : Nat := 68
def fn_code_Reader_take : Nat := 69
def fn_r04_Same : Nat := 70
def fn_keys_Write : Nat := 71
def fn_vote_plan : Nat := 72
def fn_vote_head : Nat := 73
def fn_code_Writer_Text : Nat := 74
def fn_code_Writer_Digest : Nat := 75
def fn_chain_Write : Nat := 76
def fn_config_Write : Nat := 77
/-! wapentake/wapentakelaw20.MailReads -/
@[simp] def a_l20_MailReads_r0 : List COper := [
  ⟨(some 2), .mov, [.c (.bool false)], none⟩]
def c_l20_MailReads_r0 : List COper := a_l20_MailReads_r0
instance : Reg c_l20_MailReads_r0 a_l20_MailReads_r0 1 := ⟨rfl, rfl⟩
@[simp] def a_l20_MailReads_r1 : List COper := [
  ⟨(some 7), .call fn_l20_alive, [], none⟩,
  ⟨(some 8), .not, [.t 7], none⟩]
def c_l20_MailReads_r1 : List COper := a_l20_MailReads_r1
instance : Reg c_l20_MailReads_r1 a_l20_MailReads_r1 2 := ⟨rfl, rfl⟩
@[simp] def a_l20_MailReads_r2 : List COper := [
  ⟨(some 2), .mov, [.c (.bool false)], none⟩]
def c_l20_MailReads_r2 : List COper := a_l20_MailReads_r2
instance : Reg c_l20_MailReads_r2 a_l20_MailReads_r2 1 := ⟨rfl, rfl⟩
@[simp] def a_l20_MailReads_r3 : List COper := [
  ⟨(some 9), .mov, [.t 0], none⟩,
  ⟨(some 10), .len, [.t 9], none⟩,
  ⟨(some 11), .bin .gtr, [.t 10, .c (.int .i64 65536)], none⟩]
def c_l20_MailReads_r3 : List COper := a_l20_MailReads_r3
instance : Reg c_l20_MailReads_r3 a_l20_MailReads_r3 3 := ⟨rfl, rfl⟩
@[simp] def a_l20_MailReads_r4 : List COper := [
  ⟨(some 2), .mov, [.c (.bool true)], none⟩]
def c_l20_MailReads_r4 : List COper := a_l20_MailReads_r4
instance : Reg c_l20_MailReads_r4 a_l20_MailReads_r4 1 := ⟨rfl, rfl⟩
@[simp] def a_l20_MailReads_r5 : List COper := [
  ⟨(some 13), .mov, [.t 0], none⟩,
  ⟨(some 14), .call fn_mail_Decode, [.t 13], none⟩,
  ⟨(some 12), .mov, [.t 14], none⟩,
  ⟨(some 15), .ext 0, [.t 12], none⟩,
  ⟨(some 16), .ext 1, [.t 12], none⟩,
  ⟨(some 3), .alloc (.node [.v (.int .i64 0), .node [.v (.int .i64 0), .v (.int .i64 0), .v (.int .i64 0), .v (.int .i64 0), .node [.v (.int .i64 0), .v (.int .i64 0), .arr 1 (rep 32 (.v (.int .u8 0))), .arr 1 (rep 32 (.v (.int .u8 0))), .arr 1 (rep 32 (.v (.int .u8 0))), .v (.slice none 0 0)], .v (.int .i64 0), .node [.v (.int .i64 0), .node [.v (.slice none 0 0), .v (.slice none 0 0)], .v (.slice none 0 0)]], .node [.v (.int .i64 0), .v (.int .i64 0), .v (.int .i64 0), .v (.int .i64 0), .arr 1 (rep 32 (.v (.int .u8 0))), .v (.int .i64 0), .node [.v (.int .i64 0), .node [.v (.slice none 0 0), .v (.slice none 0 0)], .v (.slice none 0 0)]], .node [.v (.int .i64 0), .v (.int .i64 0), .node [.v (.int .i64 0), .v (.string (mkS [])), .v (.string (mkS [])), .v (.string (mkS [])), .node [.v (.int .i64 0), .v (.int .i64 0), .v (.int .i64 0), .node [.arr 1 (rep 32 (.v (.int .u8 0))), .v (.int .i64 0)]]]], .node [.v (.int .i64 0), .v (.int .i64 0), .v (.int .i64 0), .v (.slice none 0 0)], .v (.int .i64 0), .node [.v (.int .i64 0), .v (.int .i64 0), .arr 1 (rep 32 (.v (.int .u8 0))), .arr 1 (rep 32 (.v (.int .u8 0))), .arr 1 (rep 32 (.v (.int .u8 0))), .v (.slice none 0 0)], .node [.v (.int .i64 0), .v (.slice none 0 0)], .v (.slice none 0 0), .v (.slice none 0 0)]), [], none⟩,
  ⟨none, .store true 300, [.t 3, .t 15], none⟩,
  ⟨(some 4), .mov, [.t 16], none⟩]
def c_l20_MailReads_r5 : List COper := a_l20_MailReads_r5
instance : Reg c_l20_MailReads_r5 a_l20_MailReads_r5 8 := ⟨rfl, rfl⟩
@[simp] def a_l20_MailReads_r6 : List COper := [
  ⟨(some 18), .mov, [.t 0], none⟩,
  ⟨(some 19), .convS, [.t 18], none⟩,
  ⟨(some 20), .call fn_r20_Decode, [.t 19], none⟩,
  ⟨(some 17), .mov, [.t 20], none⟩,
  ⟨(some 21), .ext 0, [.t 17], none⟩,
  ⟨(some 22), .ext 1, [.t 17], none⟩,
  ⟨(some 5), .alloc (.node [.v (.int .i64 0), .node [.v (.int .i64 0), .v (.int .i64 0), .v (.int .i64 0), .v (.int .i64 0), .node [.v (.int .i64 0), .v (.int .i64 0), .arr 1 (rep 32 (.v (.int .u8 0))), .arr 1 (rep 32 (.v (.int .u8 0))), .arr 1 (rep 32 (.v (.int .u8 0))), .v (.slice none 0 0)], .v (.int .i64 0), .node [.v (.int .i64 0), .node [.v (.slice none 0 0), .v (.slice none 0 0)], .v (.slice none 0 0)]], .node [.v (.int .i64 0), .v (.int .i64 0), .v (.int .i64 0), .v (.int .i64 0), .arr 1 (rep 32 (.v (.int .u8 0))), .v (.int .i64 0), .node [.v (.int .i64 0), .node [.v (.slice none 0 0), .v (.slice none 0 0)], .v (.slice none 0 0)]], .node [.v (.int .i64 0), .v (.int .i64 0), .node [.v (.int .i64 0), .v (.string (mkS [])), .v (.string (mkS [])), .v (.string (mkS [])), .node [.v (.int .i64 0), .v (.int .i64 0), .v (.int .i64 0), .node [.arr 1 (rep 32 (.v (.int .u8 0))), .v (.int .i64 0)]]]], .node [.v (.int .i64 0), .v (.int .i64 0), .v (.int .i64 0), .v (.slice none 0 0)], .v (.int .i64 0), .node [.v (.int .i64 0), .v (.int .i64 0), .arr 1 (rep 32 (.v (.int .u8 0))), .arr 1 (rep 32 (.v (.int .u8 0))), .arr 1 (rep 32 (.v (.int .u8 0))), .v (.slice none 0 0)], .node [.v (.int .i64 0), .v (.slice none 0 0)], .v (.slice none 0 0), .v (.slice none 0 0)]), [], none⟩,
  ⟨none, .store true 300, [.t 5, .t 21], none⟩,
  ⟨(some 6), .mov, [.t 22], none⟩]
def c_l20_MailReads_r6 : List COper := a_l20_MailReads_r6
instance : Reg c_l20_MailReads_r6 a_l20_MailReads_r6 9 := ⟨rfl, rfl⟩
@[simp] def a_l20_MailReads_r7 : List COper := [
  ⟨(some 23), .mov, [.t 4], none⟩,
  ⟨(some 24), .mov, [.t 6], none⟩,
  ⟨(some 25), .bin .eql, [.t 23, .t 24], none⟩,
  ⟨(some 26), .mov, [.t 25], none⟩,
  ⟨(some 27), .load true 300, [.t 3], (some (26, true))⟩,
  ⟨(some 28), .load true 300, [.t 5], (some (26, true))⟩,
  ⟨(some 29), .call fn_r20_Same, [.t 27, .t 28], (some (26, true))⟩,
  ⟨(some 30), .pick, [.t 26, .t 29, .c (.bool false)], none⟩,
  ⟨(some 2), .mov, [.t 30], none⟩]
def c_l20_MailReads_r7 : List COper := a_l20_MailReads_r7
instance : Reg c_l20_MailReads_r7 a_l20_MailReads_r7 9 := ⟨rfl, rfl⟩
@[simp] def c_l20_MailReads : CCode :=
  .seq (.region c_l20_MailReads_r0 none [0]) (.seq (.seq (.region c_l20_MailReads_r1 none [0, 8]) (.cond (.t 8) (.seq (.region c_l20_MailReads_r2 none [2]) (.ret)) (.skip))) (.seq (.seq (.region c_l20_MailReads_r3 none [0, 11]) (.cond (.t 11) (.seq (.region c_l20_MailReads_r4 none [2]) (.ret)) (.skip))) (.seq (.region c_l20_MailReads_r5 none [0, 3, 4]) (.seq (.region c_l20_MailReads_r6 none [3, 4, 5, 6]) (.seq (.region c_l20_MailReads_r7 none [2]) (.ret))))))
@[simp] def R_l20_MailReads : List CRes := [.tmp 2]
theorem k_l20_MailReads : chkFn Try.prog fn_l20_MailReads c_l20_MailReads R_l20_MailReads 1 = true := by kernel_rfl
/-! wapentake/wapentakelaw20.MailBack -/
@[simp] def a_l20_MailBack_r0 : List COper := [
  ⟨(some 2), .box, [.t 0], none⟩,
  ⟨(some 4), .mov, [.c (.bool false)], none⟩]
def c_l20_MailBack_r0 : List COper := a_l20_MailBack_r0
instance : Reg c_l20_MailBack_r0 a_l20_MailBack_r0 2 := ⟨rfl, rfl⟩
@[simp] def a_l20_MailBack_r1 : List COper := [
  ⟨(some 15), .call fn_l20_alive, [], none⟩,
  ⟨(some 16), .not, [.t 15], none⟩]
def c_l20_MailBack_r1 : List COper := a_l20_MailBack_r1
instance : Reg c_l20_MailBack_r1 a_l20_MailBack_r1 2 := ⟨rfl, rfl⟩
@[simp] def a_l20_MailBack_r2 : List COper := [
  ⟨(some 4), .mov, [.c (.bool false)], none⟩]
def c_l20_MailBack_r2 : List COper := a_l20_MailBack_r2
instance : Reg c_l20_MailBack_r2 a_l20_MailBack_r2 1 := ⟨rfl, rfl⟩
@[simp] def a_l20_MailBack_r3 : List COper := [
  ⟨(some 17), .load true 300, [.t 2], none⟩,
  ⟨(some 18), .call fn_l20_great, [.t 17], none⟩,
  ⟨(some 19), .mov, [.t 18], none⟩,
  ⟨(some 20), .mov, [.t 1], (some (19, false))⟩,
  ⟨(some 21), .len, [.t 20], (some (19, false))⟩,
  ⟨(some 22), .bin .gtr, [.t 21, .c (.int .i64 65536)], (some (19, false))⟩,
  ⟨(some 23), .pick, [.t 19, .c (.bool true), .t 22], none⟩]
def c_l20_MailBack_r3 : List COper := a_l20_MailBack_r3
instance : Reg c_l20_MailBack_r3 a_l20_MailBack_r3 7 := ⟨rfl, rfl⟩
@[simp] def a_l20_MailBack_r4 : List COper := [
  ⟨(some 4), .mov, [.c (.bool true)], none⟩]
def c_l20_MailBack_r4 : List COper := a_l20_MailBack_r4
instance : Reg c_l20_MailBack_r4 a_l20_MailBack_r4 1 := ⟨rfl, rfl⟩
@[simp] def a_l20_MailBack_r5 : List COper := [
  ⟨(some 25), .load true 300, [.t 2], none⟩,
  ⟨(some 26), .call fn_mail_Encode, [.t 25], none⟩,
  ⟨(some 24), .mov, [.t 26], none⟩,
  ⟨(some 27), .ext 0, [.t 24], none⟩,
  ⟨(some 28), .ext 1, [.t 24], none⟩,
  ⟨(some 5), .mov, [.t 27], none⟩,
  ⟨(some 6), .mov, [.t 28], none⟩]
def c_l20_MailBack_r5 : List COper := a_l20_MailBack_r5
instance : Reg c_l20_MailBack_r5 a_l20_MailBack_r5 7 := ⟨rfl, rfl⟩
@[simp] def a_l20_MailBack_r6 : List COper := [
  ⟨(some 29), .mov, [.t 6], none⟩,
  ⟨(some 30), .bin .eql, [.t 29, .c (.int .i64 0)], none⟩]
def c_l20_MailBack_r6 : List COper := a_l20_MailBack_r6
instance : Reg c_l20_MailBack_r6 a_l20_MailBack_r6 2 := ⟨rfl, rfl⟩
@[simp] def a_l20_MailBack_r7 : List COper := [
  ⟨(some 32), .mov, [.t 5], none⟩,
  ⟨(some 33), .call fn_mail_Decode, [.t 32], none⟩,
  ⟨(some 31), .mov, [.t 33], none⟩,
  ⟨(some 34), .ext 0, [.t 31], none⟩,
  ⟨(some 35), .ext 1, [.t 31], none⟩,
  ⟨(some 7), .alloc (.node [.v (.int .i64 0), .node [.v (.int .i64 0), .v (.int .i64 0), .v (.int .i64 0), .v (.int .i64 0), .node [.v (.int .i64 0), .v (.int .i64 0), .arr 1 (rep 32 (.v (.int .u8 0))), .arr 1 (rep 32 (.v (.int .u8 0))), .arr 1 (rep 32 (.v (.int .u8 0))), .v (.slice none 0 0)], .v (.int .i64 0), .node [.v (.int .i64 0), .node [.v (.slice none 0 0), .v (.slice none 0 0)], .v (.slice none 0 0)]], .node [.v (.int .i64 0), .v (.int .i64 0), .v (.int .i64 0), .v (.int .i64 0), .arr 1 (rep 32 (.v (.int .u8 0))), .v (.int .i64 0), .node [.v (.int .i64 0), .node [.v (.slice none 0 0), .v (.slice none 0 0)], .v (.slice none 0 0)]], .node [.v (.int .i64 0), .v (.int .i64 0), .node [.v (.int .i64 0), .v (.string (mkS [])), .v (.string (mkS [])), .v (.string (mkS [])), .node [.v (.int .i64 0), .v (.int .i64 0), .v (.int .i64 0), .node [.arr 1 (rep 32 (.v (.int .u8 0))), .v (.int .i64 0)]]]], .node [.v (.int .i64 0), .v (.int .i64 0), .v (.int .i64 0), .v (.slice none 0 0)], .v (.int .i64 0), .node [.v (.int .i64 0), .v (.int .i64 0), .arr 1 (rep 32 (.v (.int .u8 0))), .arr 1 (rep 32 (.v (.int .u8 0))), .arr 1 (rep 32 (.v (.int .u8 0))), .v (.slice none 0 0)], .node [.v (.int .i64 0), .v (.slice none 0 0)], .v (.slice none 0 0), .v (.slice none 0 0)]), [], none⟩,
  ⟨none, .store true 300, [.t 7, .t 34], none⟩,
  ⟨(some 8), .mov, [.t 35], none⟩]
def c_l20_MailBack_r7 : List COper := a_l20_MailBack_r7
instance : Reg c_l20_MailBack_r7 a_l20_MailBack_r7 8 := ⟨rfl, rfl⟩
@[simp] def a_l20_MailBack_r8 : List COper := [
  ⟨(some 37), .load true 300, [.t 7], none⟩,
  ⟨(some 38), .call fn_mail_Encode, [.t 37], none⟩,
  ⟨(some 36), .mov, [.t 38], none⟩,
  ⟨(some 39), .ext 0, [.t 36], none⟩,
  ⟨(some 40), .ext 1, [.t 36], none⟩,
  ⟨(some 9), .mov, [.t 39], none⟩,
  ⟨(some 10), .mov, [.t 40], none⟩]
def c_l20_MailBack_r8 : List COper := a_l20_MailBack_r8
instance : Reg c_l20_MailBack_r8 a_l20_MailBack_r8 7 := ⟨rfl, rfl⟩
@[simp] def a_l20_MailBack_r9 : List COper := [
  ⟨(some 41), .mov, [.t 8], none⟩,
  ⟨(some 42), .bin .neq, [.t 41, .c (.int .i64 0)], none⟩,
  ⟨(some 43), .mov, [.t 42], none⟩,
  ⟨(some 44), .mov, [.t 10], (some (43, false))⟩,
  ⟨(some 45), .bin .neq, [.t 44, .c (.int .i64 0)], (some (43, false))⟩,
  ⟨(some 46), .pick, [.t 43, .c (.bool true), .t 45], none⟩,
  ⟨(some 47), .mov, [.t 46], none⟩,
  ⟨(some 48), .mov, [.t 9], (some (47, false))⟩,
  ⟨(some 49), .convS, [.t 48], (some (47, false))⟩,
  ⟨(some 50), .mov, [.t 5], (some (47, false))⟩,
  ⟨(some 51), .convS, [.t 50], (some (47, false))⟩,
  ⟨(some 52), .bin .neq, [.t 49, .t 51], (some (47, false))⟩,
  ⟨(some 53), .pick, [.t 47, .c (.bool true), .t 52], none⟩,
  ⟨(some 54), .mov, [.t 53], none⟩,
  ⟨(some 55), .faddr 0 1 false, [.t 7], (some (54, false))⟩,
  ⟨(some 56), .load false 1, [.t 55], (some (54, false))⟩,
  ⟨(some 57), .faddr 0 1 false, [.t 2], (some (54, false))⟩,
  ⟨(some 58), .load false 1, [.t 57], (some (54, false))⟩,
  ⟨(some 59), .bin .neq, [.t 56, .t 58], (some (54, false))⟩,
  ⟨(some 60), .pick, [.t 54, .c (.bool true), .t 59], none⟩]
def c_l20_MailBack_r9 : List COper := a_l20_MailBack_r9
instance : Reg c_l20_MailBack_r9 a_l20_MailBack_r9 20 := ⟨rfl, rfl⟩
@[simp] def a_l20_MailBack_r10 : List COper := [
  ⟨(some 4), .mov, [.c (.bool false)], none⟩]
def c_l20_MailBack_r10 : List COper := a_l20_MailBack_r10
instance : Reg c_l20_MailBack_r10 a_l20_MailBack_r10 1 := ⟨rfl, rfl⟩
@[simp] def a_l20_MailBack_r11 : List COper := [
  ⟨(some 62), .mov, [.t 1], none⟩,
  ⟨(some 63), .call fn_mail_Decode, [.t 62], none⟩,
  ⟨(some 61), .mov, [.t 63], none⟩,
  ⟨(some 64), .ext 0, [.t 61], none⟩,
  ⟨(some 65), .ext 1, [.t 61], none⟩,
  ⟨(some 11), .alloc (.node [.v (.int .i64 0), .node [.v (.int .i64 0), .v (.int .i64 0), .v (.int .i64 0), .v (.int .i64 0), .node [.v (.int .i64 0), .v (.int .i64 0), .arr 1 (rep 32 (.v (.int .u8 0))), .arr 1 (rep 32 (.v (.int .u8 0))), .arr 1 (rep 32 (.v (.int .u8 0))), .v (.slice none 0 0)], .v (.int .i64 0), .node [.v (.int .i64 0), .node [.v (.slice none 0 0), .v (.slice none 0 0)], .v (.slice none 0 0)]], .node [.v (.int .i64 0), .v (.int .i64 0), .v (.int .i64 0), .v (.int .i64 0), .arr 1 (rep 32 (.v (.int .u8 0))), .v (.int .i64 0), .node [.v (.int .i64 0), .node [.v (.slice none 0 0), .v (.slice none 0 0)], .v (.slice none 0 0)]], .node [.v (.int .i64 0), .v (.int .i64 0), .node [.v (.int .i64 0), .v (.string (mkS [])), .v (.string (mkS [])), .v (.string (mkS [])), .node [.v (.int .i64 0), .v (.int .i64 0), .v (.int .i64 0), .node [.arr 1 (rep 32 (.v (.int .u8 0))), .v (.int .i64 0)]]]], .node [.v (.int .i64 0), .v (.int .i64 0), .v (.int .i64 0), .v (.slice none 0 0)], .v (.int .i64 0), .node [.v (.int .i64 0), .v (.int .i64 0), .arr 1 (rep 32 (.v (.int .u8 0))), .arr 1 (rep 32 (.v (.int .u8 0))), .arr 1 (rep 32 (.v (.int .u8 0))), .v (.slice none 0 0)], .node [.v (.int .i64 0), .v (.slice none 0 0)], .v (.slice none 0 0), .v (.slice none 0 0)]), [], none⟩,
  ⟨none, .store true 300, [.t 11, .t 64], none⟩,
  ⟨(some 12), .mov, [.t 65], none⟩]
def c_l20_MailBack_r11 : List COper := a_l20_MailBack_r11
instance : Reg c_l20_MailBack_r11 a_l20_MailBack_r11 8 := ⟨rfl, rfl⟩
@[simp] def a_l20_MailBack_r12 : List COper := [
  ⟨(some 66), .mov, [.t 12], none⟩,
  ⟨(some 67), .bin .neq, [.t 66, .c (.int .i64 0)], none⟩]
def c_l20_MailBack_r12 : List COper := a_l20_MailBack_r12
instance : Reg c_l20_MailBack_r12 a_l20_MailBack_r12 2 := ⟨rfl, rfl⟩
@[simp] def a_l20_MailBack_r13 : List COper := [
  ⟨(some 68), .load true 300, [.t 11], none⟩,
  ⟨(some 69), .build [.v (.int .i64 0), .node [.v (.int .i64 0), .v (.int .i64 0), .v (.int .i64 0), .v (.int .i64 0), .node [.v (.int .i64 0), .v (.int .i64 0), .arr 1 (rep 32 (.v (.int .u8 0))), .arr 1 (rep 32 (.v (.int .u8 0))), .arr 1 (rep 32 (.v (.int .u8 0))), .v (.slice none 0 0)], .v (.int .i64 0), .node [.v (.int .i64 0), .node [.v (.slice none 0 0), .v (.slice none 0 0)], .v (.slice none 0 0)]], .node [.v (.int .i64 0), .v (.int .i64 0), .v (.int .i64 0), .v (.int .i64 0), .arr 1 (rep 32 (.v (.int .u8 0))), .v (.int .i64 0), .node [.v (.int .i64 0), .node [.v (.slice none 0 0), .v (.slice none 0 0)], .v (.slice none 0 0)]], .node [.v (.int .i64 0), .v (.int .i64 0), .node [.v (.int .i64 0), .v (.string (mkS [])), .v (.string (mkS [])), .v (.string (mkS [])), .node [.v (.int .i64 0), .v (.int .i64 0), .v (.int .i64 0), .node [.arr 1 (rep 32 (.v (.int .u8 0))), .v (.int .i64 0)]]]], .node [.v (.int .i64 0), .v (.int .i64 0), .v (.int .i64 0), .v (.slice none 0 0)], .v (.int .i64 0), .node [.v (.int .i64 0), .v (.int .i64 0), .arr 1 (rep 32 (.v (.int .u8 0))), .arr 1 (rep 32 (.v (.int .u8 0))), .arr 1 (rep 32 (.v (.int .u8 0))), .v (.slice none 0 0)], .node [.v (.int .i64 0), .v (.slice none 0 0)], .v (.slice none 0 0), .v (.slice none 0 0)] [], [], none⟩,
  ⟨(some 70), .call fn_r20_Same, [.t 68, .t 69], none⟩,
  ⟨(some 4), .mov, [.t 70], none⟩]
def c_l20_MailBack_r13 : List COper := a_l20_MailBack_r13
instance : Reg c_l20_MailBack_r13 a_l20_MailBack_r13 4 := ⟨rfl, rfl⟩
@[simp] def a_l20_MailBack_r14 : List COper := [
  ⟨(some 72), .load true 300, [.t 11], none⟩,
  ⟨(some 73), .call fn_mail_Encode, [.t 72], none⟩,
  ⟨(some 71), .mov, [.t 73], none⟩,
  ⟨(some 74), .ext 0, [.t 71], none⟩,
  ⟨(some 75), .ext 1, [.t 71], none⟩,
  ⟨(some 13), .mov, [.t 74], none⟩,
  ⟨(some 14), .mov, [.t 75], none⟩]
def c_l20_MailBack_r14 : List COper := a_l20_MailBack_r14
instance : Reg c_l20_MailBack_r14 a_l20_MailBack_r14 7 := ⟨rfl, rfl⟩
@[simp] def a_l20_MailBack_r15 : List COper := [
  ⟨(some 76), .mov, [.t 14], none⟩,
  ⟨(some 77), .bin .eql, [.t 76, .c (.int .i64 0)], none⟩,
  ⟨(some 78), .mov, [.t 77], none⟩,
  ⟨(some 79), .mov, [.t 13], (some (78, true))⟩,
  ⟨(some 80), .convS, [.t 79], (some (78, true))⟩,
  ⟨(some 81), .mov, [.t 1], (some (78, true))⟩,
  ⟨(some 82), .convS, [.t 81], (some (78, true))⟩,
  ⟨(some 83), .bin .eql, [.t 80, .t 82], (some (78, true))⟩,
  ⟨(some 84), .pick, [.t 78, .t 83, .c (.bool false)], none⟩,
  ⟨(some 4), .mov, [.t 84], none⟩]
def c_l20_MailBack_r15 : List COper := a_l20_MailBack_r15
instance : Reg c_l20_MailBack_r15 a_l20_MailBack_r15 10 := ⟨rfl, rfl⟩
@[simp] def c_l20_MailBack : CCode :=
  .seq (.region c_l20_MailBack_r0 none [1, 2]) (.seq (.seq (.region c_l20_MailBack_r1 none [1, 2, 16]) (.cond (.t 16) (.seq (.region c_l20_MailBack_r2 none [4]) (.ret)) (.skip))) (.seq (.seq (.region c_l20_MailBack_r3 none [1, 2, 23]) (.cond (.t 23) (.seq (.region c_l20_MailBack_r4 none [4]) (.ret)) (.skip))) (.seq (.region c_l20_MailBack_r5 none [1, 2, 5, 6]) (.seq (.seq (.region c_l20_MailBack_r6 none [1, 2, 5, 30]) (.cond (.t 30) (.seq (.region c_l20_MailBack_r7 none [1, 2, 5, 7, 8]) (.seq (.region c_l20_MailBack_r8 none [1, 2, 5, 7, 8, 9, 10]) (.seq (.region c_l20_MailBack_r9 none [1, 60]) (.cond (.t 60) (.seq (.region c_l20_MailBack_r10 none [4]) (.ret)) (.skip))))) (.skip))) (.seq (.region c_l20_MailBack_r11 none [1, 11, 12]) (.seq (.seq (.region c_l20_MailBack_r12 none [1, 11, 67]) (.cond (.t 67) (.seq (.region c_l20_MailBack_r13 none [4]) (.ret)) (.skip))) (.seq (.region c_l20_MailBack_r14 none [1, 13, 14]) (.seq (.region c_l20_MailBack_r15 none [4]) (.ret)))))))))
@[simp] def R_l20_MailBack : List CRes := [.tmp 4]
theorem k_l20_MailBack : chkFn Try.prog fn_l20_MailBack c_l20_MailBack R_l20_MailBack 2 = true := by kernel_rfl
/-! wapentake/wapentakelaw20.MailLong -/
@[simp] def a_l20_MailLong_r0 : List COper := [
  ⟨(some 4), .mov, [.c (.bool false)], none⟩]
def c_l20_MailLong_r0 : List COper := a_l20_MailLong_r0
instance : Reg c_l20_MailLong_r0 a_l20_MailLong_r0 1 := ⟨rfl, rfl⟩
@[simp] def a_l20_MailLong_r1 : List COper := [
  ⟨(some 10), .call fn_l20_alive, [], none⟩,
  ⟨(some 11), .not, [.t 10], none⟩]
def c_l20_MailLong_r1 : List COper := a_l20_MailLong_r1
instance : Reg c_l20_MailLong_r1 a_l20_MailLong_r1 2 := ⟨rfl, rfl⟩
@[simp] def a_l20_MailLong_r2 : List COper := [
  ⟨(some 4), .mov, [.c (.bool false)], none⟩]
def c_l20_MailLong_r2 : List COper := a_l20_MailLong_r2
instance : Reg c_l20_MailLong_r2 a_l20_MailLong_r2 1 := ⟨rfl, rfl⟩
@[simp] def a_l20_MailLong_r3 : List COper := [
  ⟨(some 12), .mov, [.t 0], none⟩,
  ⟨(some 13), .bin .lss, [.t 12, .c (.int .i64 0)], none⟩,
  ⟨(some 14), .mov, [.t 13], none⟩,
  ⟨(some 15), .mov, [.t 0], (some (14, false))⟩,
  ⟨(some 16), .bin .gtr, [.t 15, .c (.int .i64 100)], (some (14, false))⟩,
  ⟨(some 17), .pick, [.t 14, .c (.bool true), .t 16], none⟩]
def c_l20_MailLong_r3 : List COper := a_l20_MailLong_r3
instance : Reg c_l20_MailLong_r3 a_l20_MailLong_r3 6 := ⟨rfl, rfl⟩
@[simp] def a_l20_MailLong_r4 : List COper := [
  ⟨(some 4), .mov, [.c (.bool true)], none⟩]
def c_l20_MailLong_r4 : List COper := a_l20_MailLong_r4
instance : Reg c_l20_MailLong_r4 a_l20_MailLong_r4 1 := ⟨rfl, rfl⟩
@[simp] def a_l20_MailLong_r5 : List COper := [
  ⟨(some 18), .mov, [.t 0], none⟩,
  ⟨(some 19), .bin .add, [.c (.int .i64 262094), .t 18], none⟩,
  ⟨(some 20), .mk 1 1 (.v (.int .u8 0)), [.t 19, .t 19], none⟩,
  ⟨(some 5), .mov, [.t 20], none⟩]
def c_l20_MailLong_r5 : List COper := a_l20_MailLong_r5
instance : Reg c_l20_MailLong_r5 a_l20_MailLong_r5 4 := ⟨rfl, rfl⟩
@[simp] def a_l20_MailLong_r6 : List COper := [
  ⟨(some 21), .mov, [.t 5], none⟩,
  ⟨(some 22), .len, [.t 21], none⟩,
  ⟨(some 23), .mov, [.c (.int .i64 0)], none⟩]
def c_l20_MailLong_r6 : List COper := a_l20_MailLong_r6
instance : Reg c_l20_MailLong_r6 a_l20_MailLong_r6 3 := ⟨rfl, rfl⟩
@[simp] def a_l20_MailLong_r7 : List COper := [
  ⟨(some 24), .bin .lss, [.t 23, .t 22], none⟩]
def c_l20_MailLong_r7 : List COper := a_l20_MailLong_r7
instance : Reg c_l20_MailLong_r7 a_l20_MailLong_r7 1 := ⟨rfl, rfl⟩
@[simp] def a_l20_MailLong_r8 : List COper := [
  ⟨(some 25), .mov, [.t 23], none⟩,
  ⟨(some 6), .mov, [.t 25], none⟩]
def c_l20_MailLong_r8 : List COper := a_l20_MailLong_r8
instance : Reg c_l20_MailLong_r8 a_l20_MailLong_r8 2 := ⟨rfl, rfl⟩
@[simp] def a_l20_MailLong_r9 : List COper := [
  ⟨(some 26), .mov, [.t 5], none⟩,
  ⟨(some 27), .mov, [.t 6], none⟩,
  ⟨(some 28), .mov, [.t 1], none⟩,
  ⟨(some 29), .iaddr 1, [.t 26, .t 27], none⟩,
  ⟨none, .store false 1, [.t 29, .t 28], none⟩]
def c_l20_MailLong_r9 : List COper := a_l20_MailLong_r9
instance : Reg c_l20_MailLong_r9 a_l20_MailLong_r9 5 := ⟨rfl, rfl⟩
@[simp] def a_l20_MailLong_r10 : List COper := [
  ⟨(some 30), .bin .add, [.t 23, .c (.int .i64 1)], none⟩,
  ⟨(some 23), .mov, [.t 30], none⟩]
def c_l20_MailLong_r10 : List COper := a_l20_MailLong_r10
instance : Reg c_l20_MailLong_r10 a_l20_MailLong_r10 2 := ⟨rfl, rfl⟩
@[simp] def a_l20_MailLong_r11 : List COper := [
  ⟨(some 32), .mov, [.t 5], none⟩,
  ⟨(some 33), .call fn_mail_Decode, [.t 32], none⟩,
  ⟨(some 31), .mov, [.t 33], none⟩,
  ⟨(some 34), .ext 0, [.t 31], none⟩,
  ⟨(some 35), .ext 1, [.t 31], none⟩,
  ⟨(some 7), .alloc (.node [.v (.int .i64 0), .node [.v (.int .i64 0), .v (.int .i64 0), .v (.int .i64 0), .v (.int .i64 0), .node [.v (.int .i64 0), .v (.int .i64 0), .arr 1 (rep 32 (.v (.int .u8 0))), .arr 1 (rep 32 (.v (.int .u8 0))), .arr 1 (rep 32 (.v (.int .u8 0))), .v (.slice none 0 0)], .v (.int .i64 0), .node [.v (.int .i64 0), .node [.v (.slice none 0 0), .v (.slice none 0 0)], .v (.slice none 0 0)]], .node [.v (.int .i64 0), .v (.int .i64 0), .v (.int .i64 0), .v (.int .i64 0), .arr 1 (rep 32 (.v (.int .u8 0))), .v (.int .i64 0), .node [.v (.int .i64 0), .node [.v (.slice none 0 0), .v (.slice none 0 0)], .v (.slice none 0 0)]], .node [.v (.int .i64 0), .v (.int .i64 0), .node [.v (.int .i64 0), .v (.string (mkS [])), .v (.string (mkS [])), .v (.string (mkS [])), .node [.v (.int .i64 0), .v (.int .i64 0), .v (.int .i64 0), .node [.arr 1 (rep 32 (.v (.int .u8 0))), .v (.int .i64 0)]]]], .node [.v (.int .i64 0), .v (.int .i64 0), .v (.int .i64 0), .v (.slice none 0 0)], .v (.int .i64 0), .node [.v (.int .i64 0), .v (.int .i64 0), .arr 1 (rep 32 (.v (.int .u8 0))), .arr 1 (rep 32 (.v (.int .u8 0))), .arr 1 (rep 32 (.v (.int .u8 0))), .v (.slice none 0 0)], .node [.v (.int .i64 0), .v (.slice none 0 0)], .v (.slice none 0 0), .v (.slice none 0 0)]), [], none⟩,
  ⟨none, .store true 300, [.t 7, .t 34], none⟩,
  ⟨(some 8), .mov, [.t 35], none⟩]
def c_l20_MailLong_r11 : List COper := a_l20_MailLong_r11
instance : Reg c_l20_MailLong_r11 a_l20_MailLong_r11 8 := ⟨rfl, rfl⟩
@[simp] def a_l20_MailLong_r12 : List COper := [
  ⟨(some 9), .mov, [.c (.int .i64 4)], none⟩]
def c_l20_MailLong_r12 : List COper := a_l20_MailLong_r12
instance : Reg c_l20_MailLong_r12 a_l20_MailLong_r12 1 := ⟨rfl, rfl⟩
@[simp] def a_l20_MailLong_r13 : List COper := [
  ⟨(some 36), .mov, [.t 0], none⟩,
  ⟨(some 37), .bin .gtr, [.t 36, .c (.int .i64 50)], none⟩]
def c_l20_MailLong_r13 : List COper := a_l20_MailLong_r13
instance : Reg c_l20_MailLong_r13 a_l20_MailLong_r13 2 := ⟨rfl, rfl⟩
@[simp] def a_l20_MailLong_r14 : List COper := [
  ⟨(some 9), .mov, [.c (.int .i64 3)], none⟩]
def c_l20_MailLong_r14 : List COper := a_l20_MailLong_r14
instance : Reg c_l20_MailLong_r14 a_l20_MailLong_r14 1 := ⟨rfl, rfl⟩
@[simp] def a_l20_MailLong_r15 : List COper := [
  ⟨(some 38), .mov, [.t 8], none⟩,
  ⟨(some 39), .mov, [.t 9], none⟩,
  ⟨(some 40), .bin .eql, [.t 38, .t 39], none⟩,
  ⟨(some 41), .mov, [.t 40], none⟩,
  ⟨(some 42), .load true 300, [.t 7], (some (41, true))⟩,
  ⟨(some 43), .build [.v (.int .i64 0), .node [.v (.int .i64 0), .v (.int .i64 0), .v (.int .i64 0), .v (.int .i64 0), .node [.v (.int .i64 0), .v (.int .i64 0), .arr 1 (rep 32 (.v (.int .u8 0))), .arr 1 (rep 32 (.v (.int .u8 0))), .arr 1 (rep 32 (.v (.int .u8 0))), .v (.slice none 0 0)], .v (.int .i64 0), .node [.v (.int .i64 0), .node [.v (.slice none 0 0), .v (.slice none 0 0)], .v (.slice none 0 0)]], .node [.v (.int .i64 0), .v (.int .i64 0), .v (.int .i64 0), .v (.int .i64 0), .arr 1 (rep 32 (.v (.int .u8 0))), .v (.int .i64 0), .node [.v (.int .i64 0), .node [.v (.slice none 0 0), .v (.slice none 0 0)], .v (.slice none 0 0)]], .node [.v (.int .i64 0), .v (.int .i64 0), .node [.v (.int .i64 0), .v (.string (mkS [])), .v (.string (mkS [])), .v (.string (mkS [])), .node [.v (.int .i64 0), .v (.int .i64 0), .v (.int .i64 0), .node [.arr 1 (rep 32 (.v (.int .u8 0))), .v (.int .i64 0)]]]], .node [.v (.int .i64 0), .v (.int .i64 0), .v (.int .i64 0), .v (.slice none 0 0)], .v (.int .i64 0), .node [.v (.int .i64 0), .v (.int .i64 0), .arr 1 (rep 32 (.v (.int .u8 0))), .arr 1 (rep 32 (.v (.int .u8 0))), .arr 1 (rep 32 (.v (.int .u8 0))), .v (.slice none 0 0)], .node [.v (.int .i64 0), .v (.slice none 0 0)], .v (.slice none 0 0), .v (.slice none 0 0)] [], [], (some (41, true))⟩,
  ⟨(some 44), .call fn_r20_Same, [.t 42, .t 43], (some (41, true))⟩,
  ⟨(some 45), .pick, [.t 41, .t 44, .c (.bool false)], none⟩,
  ⟨(some 4), .mov, [.t 45], none⟩]
def c_l20_MailLong_r15 : List COper := a_l20_MailLong_r15
instance : Reg c_l20_MailLong_r15 a_l20_MailLong_r15 9 := ⟨rfl, rfl⟩
@[simp] def c_l20_MailLong : CCode :=
  .seq (.region c_l20_MailLong_r0 none [0, 1]) (.seq (.seq (.region c_l20_MailLong_r1 none [0, 1, 11]) (.cond (.t 11) (.seq (.region c_l20_MailLong_r2 none [4]) (.ret)) (.skip))) (.seq (.seq (.region c_l20_MailLong_r3 none [0, 1, 17]) (.cond (.t 17) (.seq (.region c_l20_MailLong_r4 none [4]) (.ret)) (.skip))) (.seq (.region c_l20_MailLong_r5 none [0, 1, 5]) (.seq (.seq (.region c_l20_MailLong_r6 none [0, 1, 5, 22, 23]) (.block 0 (.loop (.seq (.region c_l20_MailLong_r7 none [0, 1, 5, 22, 23, 24]) (.seq (.cond (.t 24) (.skip) (.exit 0)) (.seq (.block 1 (.seq (.region c_l20_MailLong_r8 none [0, 1, 5, 6, 22, 23]) (.region c_l20_MailLong_r9 none [0, 1, 5, 22, 23]))) (.region c_l20_MailLong_r10 none [0, 1, 5, 22, 23]))))))) (.seq (.region c_l20_MailLong_r11 none [0, 7, 8]) (.seq (.region c_l20_MailLong_r12 none [0, 7, 8, 9]) (.seq (.seq (.region c_l20_MailLong_r13 none [7, 8, 9, 37]) (.cond (.t 37) (.region c_l20_MailLong_r14 none [7, 8, 9]) (.skip))) (.seq (.region c_l20_MailLong_r15 none [4]) (.ret)))))))))
@[simp] def R_l20_MailLong : List CRes := [.tmp 4]
theorem k_l20_MailLong : chkFn Try.prog fn_l20_MailLong c_l20_MailLong R_l20_MailLong 2 = true := by kernel_rfl
/-! wapentake/wapentakelaw20.MailParts -/
@[simp] def a_l20_MailParts_r0 : List COper := [
  ⟨(some 2), .box, [.t 0], none⟩,
  ⟨(some 3), .box, [.t 1], none⟩,
  ⟨(some 4), .mov, [.c (.bool false)], none⟩]
def c_l20_MailParts_r0 : List COper := a_l20_MailParts_r0
instance : Reg c_l20_MailParts_r0 a_l20_MailParts_r0 3 := ⟨rfl, rfl⟩
@[simp] def a_l20_MailParts_r1 : List COper := [
  ⟨(some 10), .call fn_l20_alive, [], none⟩,
  ⟨(some 11), .not, [.t 10], none⟩]
def c_l20_MailParts_r1 : List COper := a_l20_MailParts_r1
instance : Reg c_l20_MailParts_r1 a_l20_MailParts_r1 2 := ⟨rfl, rfl⟩
@[simp] def a_l20_MailParts_r2 : List COper := [
  ⟨(some 4), .mov, [.c (.bool false)], none⟩]
def c_l20_MailParts_r2 : List COper := a_l20_MailParts_r2
instance : Reg c_l20_MailParts_r2 a_l20_MailParts_r2 1 := ⟨rfl, rfl⟩
@[simp] def a_l20_MailParts_r3 : List COper := [
  ⟨(some 12), .load true 300, [.t 2], none⟩,
  ⟨(some 13), .call fn_l20_great, [.t 12], none⟩,
  ⟨(some 14), .mov, [.t 13], none⟩,
  ⟨(some 15), .load true 300, [.t 3], (some (14, false))⟩,
  ⟨(some 16), .call fn_l20_great, [.t 15], (some (14, false))⟩,
  ⟨(some 17), .pick, [.t 14, .c (.bool true), .t 16], none⟩]
def c_l20_MailParts_r3 : List COper := a_l20_MailParts_r3
instance : Reg c_l20_MailParts_r3 a_l20_MailParts_r3 6 := ⟨rfl, rfl⟩
@[simp] def a_l20_MailParts_r4 : List COper := [
  ⟨(some 4), .mov, [.c (.bool true)], none⟩]
def c_l20_MailParts_r4 : List COper := a_l20_MailParts_r4
instance : Reg c_l20_MailParts_r4 a_l20_MailParts_r4 1 := ⟨rfl, rfl⟩
@[simp] def a_l20_MailParts_r5 : List COper := [
  ⟨(some 18), .load true 300, [.t 2], none⟩,
  ⟨(some 5), .alloc (.node [.v (.int .i64 0), .node [.v (.int .i64 0), .v (.int .i64 0), .v (.int .i64 0), .v (.int .i64 0), .node [.v (.int .i64 0), .v (.int .i64 0), .arr 1 (rep 32 (.v (.int .u8 0))), .arr 1 (rep 32 (.v (.int .u8 0))), .arr 1 (rep 32 (.v (.int .u8 0))), .v (.slice none 0 0)], .v (.int .i64 0), .node [.v (.int .i64 0), .node [.v (.slice none 0 0), .v (.slice none 0 0)], .v (.slice none 0 0)]], .node [.v (.int .i64 0), .v (.int .i64 0), .v (.int .i64 0), .v (.int .i64 0), .arr 1 (rep 32 (.v (.int .u8 0))), .v (.int .i64 0), .node [.v (.int .i64 0), .node [.v (.slice none 0 0), .v (.slice none 0 0)], .v (.slice none 0 0)]], .node [.v (.int .i64 0), .v (.int .i64 0), .node [.v (.int .i64 0), .v (.string (mkS [])), .v (.string (mkS [])), .v (.string (mkS [])), .node [.v (.int .i64 0), .v (.int .i64 0), .v (.int .i64 0), .node [.arr 1 (rep 32 (.v (.int .u8 0))), .v (.int .i64 0)]]]], .node [.v (.int .i64 0), .v (.int .i64 0), .v (.int .i64 0), .v (.slice none 0 0)], .v (.int .i64 0), .node [.v (.int .i64 0), .v (.int .i64 0), .arr 1 (rep 32 (.v (.int .u8 0))), .arr 1 (rep 32 (.v (.int .u8 0))), .arr 1 (rep 32 (.v (.int .u8 0))), .v (.slice none 0 0)], .node [.v (.int .i64 0), .v (.slice none 0 0)], .v (.slice none 0 0), .v (.slice none 0 0)]), [], none⟩,
  ⟨none, .store true 300, [.t 5, .t 18], none⟩]
def c_l20_MailParts_r5 : List COper := a_l20_MailParts_r5
instance : Reg c_l20_MailParts_r5 a_l20_MailParts_r5 3 := ⟨rfl, rfl⟩
@[simp] def a_l20_MailParts_r6 : List COper := [
  ⟨(some 19), .faddr 0 1 false, [.t 2], none⟩,
  ⟨(some 20), .load false 1, [.t 19], none⟩,
  ⟨(some 21), .bin .neq, [.t 20, .c (.int .i64 3)], none⟩]
def c_l20_MailParts_r6 : List COper := a_l20_MailParts_r6
instance : Reg c_l20_MailParts_r6 a_l20_MailParts_r6 3 := ⟨rfl, rfl⟩
@[simp] def a_l20_MailParts_r7 : List COper := [
  ⟨(some 22), .faddr 150 42 true, [.t 3], none⟩,
  ⟨(some 23), .load true 42, [.t 22], none⟩,
  ⟨(some 24), .faddr 150 42 true, [.t 5], none⟩,
  ⟨none, .store true 42, [.t 24, .t 23], none⟩]
def c_l20_MailParts_r7 : List COper := a_l20_MailParts_r7
instance : Reg c_l20_MailParts_r7 a_l20_MailParts_r7 4 := ⟨rfl, rfl⟩
@[simp] def a_l20_MailParts_r8 : List COper := [
  ⟨(some 25), .faddr 0 1 false, [.t 2], none⟩,
  ⟨(some 26), .load false 1, [.t 25], none⟩,
  ⟨(some 27), .bin .neq, [.t 26, .c (.int .i64 4)], none⟩,
  ⟨(some 28), .mov, [.t 27], none⟩,
  ⟨(some 29), .faddr 0 1 false, [.t 2], (some (28, true))⟩,
  ⟨(some 30), .load false 1, [.t 29], (some (28, true))⟩,
  ⟨(some 31), .bin .neq, [.t 30, .c (.int .i64 6)], (some (28, true))⟩,
  ⟨(some 32), .pick, [.t 28, .t 31, .c (.bool false)], none⟩]
def c_l20_MailParts_r8 : List COper := a_l20_MailParts_r8
instance : Reg c_l20_MailParts_r8 a_l20_MailParts_r8 8 := ⟨rfl, rfl⟩
@[simp] def a_l20_MailParts_r9 : List COper := [
  ⟨(some 33), .faddr 196 1 false, [.t 3], none⟩,
  ⟨(some 34), .load false 1, [.t 33], none⟩,
  ⟨(some 35), .faddr 196 1 false, [.t 5], none⟩,
  ⟨none, .store false 1, [.t 35, .t 34], none⟩]
def c_l20_MailParts_r9 : List COper := a_l20_MailParts_r9
instance : Reg c_l20_MailParts_r9 a_l20_MailParts_r9 4 := ⟨rfl, rfl⟩
@[simp] def a_l20_MailParts_r10 : List COper := [
  ⟨(some 36), .faddr 0 1 false, [.t 2], none⟩,
  ⟨(some 37), .load false 1, [.t 36], none⟩,
  ⟨(some 38), .bin .neq, [.t 37, .c (.int .i64 8)], none⟩]
def c_l20_MailParts_r10 : List COper := a_l20_MailParts_r10
instance : Reg c_l20_MailParts_r10 a_l20_MailParts_r10 3 := ⟨rfl, rfl⟩
@[simp] def a_l20_MailParts_r11 : List COper := [
  ⟨(some 39), .faddr 298 1 false, [.t 3], none⟩,
  ⟨(some 40), .load false 1, [.t 39], none⟩,
  ⟨(some 41), .faddr 298 1 false, [.t 5], none⟩,
  ⟨none, .store false 1, [.t 41, .t 40], none⟩]
def c_l20_MailParts_r11 : List COper := a_l20_MailParts_r11
instance : Reg c_l20_MailParts_r11 a_l20_MailParts_r11 4 := ⟨rfl, rfl⟩
@[simp] def a_l20_MailParts_r12 : List COper := [
  ⟨(some 42), .faddr 0 1 false, [.t 2], none⟩,
  ⟨(some 43), .load false 1, [.t 42], none⟩,
  ⟨(some 44), .bin .neq, [.t 43, .c (.int .i64 9)], none⟩]
def c_l20_MailParts_r12 : List COper := a_l20_MailParts_r12
instance : Reg c_l20_MailParts_r12 a_l20_MailParts_r12 3 := ⟨rfl, rfl⟩
@[simp] def a_l20_MailParts_r13 : List COper := [
  ⟨(some 45), .faddr 299 1 false, [.t 3], none⟩,
  ⟨(some 46), .load false 1, [.t 45], none⟩,
  ⟨(some 47), .faddr 299 1 false, [.t 5], none⟩,
  ⟨none, .store false 1, [.t 47, .t 46], none⟩]
def c_l20_MailParts_r13 : List COper := a_l20_MailParts_r13
instance : Reg c_l20_MailParts_r13 a_l20_MailParts_r13 4 := ⟨rfl, rfl⟩
@[simp] def a_l20_MailParts_r14 : List COper := [
  ⟨(some 49), .load true 300, [.t 2], none⟩,
  ⟨(some 50), .call fn_mail_Encode, [.t 49], none⟩,
  ⟨(some 48), .mov, [.t 50], none⟩,
  ⟨(some 51), .ext 0, [.t 48], none⟩,
  ⟨(some 52), .ext 1, [.t 48], none⟩,
  ⟨(some 6), .mov, [.t 51], none⟩,
  ⟨(some 7), .mov, [.t 52], none⟩]
def c_l20_MailParts_r14 : List COper := a_l20_MailParts_r14
instance : Reg c_l20_MailParts_r14 a_l20_MailParts_r14 7 := ⟨rfl, rfl⟩
@[simp] def a_l20_MailParts_r15 : List COper := [
  ⟨(some 54), .load true 300, [.t 5], none⟩,
  ⟨(some 55), .call fn_mail_Encode, [.t 54], none⟩,
  ⟨(some 53), .mov, [.t 55], none⟩,
  ⟨(some 56), .ext 0, [.t 53], none⟩,
  ⟨(some 57), .ext 1, [.t 53], none⟩,
  ⟨(some 8), .mov, [.t 56], none⟩,
  ⟨(some 9), .mov, [.t 57], none⟩]
def c_l20_MailParts_r15 : List COper := a_l20_MailParts_r15
instance : Reg c_l20_MailParts_r15 a_l20_MailParts_r15 7 := ⟨rfl, rfl⟩
@[simp] def a_l20_MailParts_r16 : List COper := [
  ⟨(some 58), .mov, [.t 6], none⟩,
  ⟨(some 59), .convS, [.t 58], none⟩,
  ⟨(some 60), .mov, [.t 8], none⟩,
  ⟨(some 61), .convS, [.t 60], none⟩,
  ⟨(some 62), .bin .eql, [.t 59, .t 61], none⟩,
  ⟨(some 63), .mov, [.t 62], none⟩,
  ⟨(some 64), .mov, [.t 7], (some (63, true))⟩,
  ⟨(some 65), .mov, [.t 9], (some (63, true))⟩,
  ⟨(some 66), .bin .eql, [.t 64, .t 65], (some (63, true))⟩,
  ⟨(some 67), .pick, [.t 63, .t 66, .c (.bool false)], none⟩,
  ⟨(some 4), .mov, [.t 67], none⟩]
def c_l20_MailParts_r16 : List COper := a_l20_MailParts_r16
instance : Reg c_l20_MailParts_r16 a_l20_MailParts_r16 11 := ⟨rfl, rfl⟩
@[simp] def c_l20_MailParts : CCode :=
  .seq (.region c_l20_MailParts_r0 none [2, 3]) (.seq (.seq (.region c_l20_MailParts_r1 none [2, 3, 11]) (.cond (.t 11) (.seq (.region c_l20_MailParts_r2 none [4]) (.ret)) (.skip))) (.seq (.seq (.region c_l20_MailParts_r3 none [2, 3, 17]) (.cond (.t 17) (.seq (.region c_l20_MailParts_r4 none [4]) (.ret)) (.skip))) (.seq (.region c_l20_MailParts_r5 none [2, 3, 5]) (.seq (.seq (.region c_l20_MailParts_r6 none [2, 3, 5, 21]) (.cond (.t 21) (.region c_l20_MailParts_r7 none [2, 3, 5]) (.skip))) (.seq (.seq (.region c_l20_MailParts_r8 none [2, 3, 5, 32]) (.cond (.t 32) (.region c_l20_MailParts_r9 none [2, 3, 5]) (.skip))) (.seq (.seq (.region c_l20_MailParts_r10 none [2, 3, 5, 38]) (.cond (.t 38) (.region c_l20_MailParts_r11 none [2, 3, 5]) (.skip))) (.seq (.seq (.region c_l20_MailParts_r12 none [2, 3, 5, 44]) (.cond (.t 44) (.region c_l20_MailParts_r13 none [2, 5]) (.skip))) (.seq (.region c_l20_MailParts_r14 none [5, 6, 7]) (.seq (.region c_l20_MailParts_r15 none [6, 7, 8, 9]) (.seq (.region c_l20_MailParts_r16 none [4]) (.ret)))))))))))
@[simp] def R_l20_MailParts : List CRes := [.tmp 4]
theorem k_l20_MailParts : chkFn Try.prog fn_l20_MailParts c_l20_MailParts R_l20_MailParts 2 = true := by kernel_rfl
/-! wapentake/wapentakelaw20.alive -/
@[simp] def a_l20_alive_r0 : List COper := [
  ⟨(some 0), .mov, [.c (.bool false)], none⟩]
def c_l20_alive_r0 : List COper := a_l20_alive_r0
instance : Reg c_l20_alive_r0 a_l20_alive_r0 1 := ⟨rfl, rfl⟩
@[simp] def a_l20_alive_r1 : List COper := [
  ⟨(some 6), .build [.v (.int .i64 0), .node [.v (.int .i64 0), .v (.int .i64 0), .v (.int .i64 0), .v (.int .i64 0), .node [.v (.int .i64 0), .v (.int .i64 0), .arr 1 (rep 32 (.v (.int .u8 0))), .arr 1 (rep 32 (.v (.int .u8 0))), .arr 1 (rep 32 (.v (.int .u8 0))), .v (.slice none 0 0)], .v (.int .i64 0), .node [.v (.int .i64 0), .node [.v (.slice none 0 0), .v (.slice none 0 0)], .v (.slice none 0 0)]], .node [.v (.int .i64 0), .v (.int .i64 0), .v (.int .i64 0), .v (.int .i64 0), .arr 1 (rep 32 (.v (.int .u8 0))), .v (.int .i64 0), .node [.v (.int .i64 0), .node [.v (.slice none 0 0), .v (.slice none 0 0)], .v (.slice none 0 0)]], .node [.v (.int .i64 0), .v (.int .i64 0), .node [.v (.int .i64 0), .v (.string (mkS [])), .v (.string (mkS [])), .v (.string (mkS [])), .node [.v (.int .i64 0), .v (.int .i64 0), .v (.int .i64 0), .node [.arr 1 (rep 32 (.v (.int .u8 0))), .v (.int .i64 0)]]]], .node [.v (.int .i64 0), .v (.int .i64 0), .v (.int .i64 0), .v (.slice none 0 0)], .v (.int .i64 0), .node [.v (.int .i64 0), .v (.int .i64 0), .arr 1 (rep 32 (.v (.int .u8 0))), .arr 1 (rep 32 (.v (.int .u8 0))), .arr 1 (rep 32 (.v (.int .u8 0))), .v (.slice none 0 0)], .node [.v (.int .i64 0), .v (.slice none 0 0)], .v (.slice none 0 0), .v (.slice none 0 0)] [0], [.c (.int .i64 7)], none⟩,
  ⟨(some 7), .call fn_mail_Encode, [.t 6], none⟩,
  ⟨(some 5), .mov, [.t 7], none⟩,
  ⟨(some 8), .ext 0, [.t 5], none⟩,
  ⟨(some 9), .ext 1, [.t 5], none⟩,
  ⟨(some 1), .mov, [.t 8], none⟩,
  ⟨(some 2), .mov, [.t 9], none⟩]
def c_l20_alive_r1 : List COper := a_l20_alive_r1
instance : Reg c_l20_alive_r1 a_l20_alive_r1 7 := ⟨rfl, rfl⟩
@[simp] def a_l20_alive_r2 : List COper := [
  ⟨(some 11), .mov, [.t 1], none⟩,
  ⟨(some 12), .call fn_mail_Decode, [.t 11], none⟩,
  ⟨(some 10), .mov, [.t 12], none⟩,
  ⟨(some 13), .ext 0, [.t 10], none⟩,
  ⟨(some 14), .ext 1, [.t 10], none⟩,
  ⟨(some 3), .alloc (.node [.v (.int .i64 0), .node [.v (.int .i64 0), .v (.int .i64 0), .v (.int .i64 0), .v (.int .i64 0), .node [.v (.int .i64 0), .v (.int .i64 0), .arr 1 (rep 32 (.v (.int .u8 0))), .arr 1 (rep 32 (.v (.int .u8 0))), .arr 1 (rep 32 (.v (.int .u8 0))), .v (.slice none 0 0)], .v (.int .i64 0), .node [.v (.int .i64 0), .node [.v (.slice none 0 0), .v (.slice none 0 0)], .v (.slice none 0 0)]], .node [.v (.int .i64 0), .v (.int .i64 0), .v (.int .i64 0), .v (.int .i64 0), .arr 1 (rep 32 (.v (.int .u8 0))), .v (.int .i64 0), .node [.v (.int .i64 0), .node [.v (.slice none 0 0), .v (.slice none 0 0)], .v (.slice none 0 0)]], .node [.v (.int .i64 0), .v (.int .i64 0), .node [.v (.int .i64 0), .v (.string (mkS [])), .v (.string (mkS [])), .v (.string (mkS [])), .node [.v (.int .i64 0), .v (.int .i64 0), .v (.int .i64 0), .node [.arr 1 (rep 32 (.v (.int .u8 0))), .v (.int .i64 0)]]]], .node [.v (.int .i64 0), .v (.int .i64 0), .v (.int .i64 0), .v (.slice none 0 0)], .v (.int .i64 0), .node [.v (.int .i64 0), .v (.int .i64 0), .arr 1 (rep 32 (.v (.int .u8 0))), .arr 1 (rep 32 (.v (.int .u8 0))), .arr 1 (rep 32 (.v (.int .u8 0))), .v (.slice none 0 0)], .node [.v (.int .i64 0), .v (.slice none 0 0)], .v (.slice none 0 0), .v (.slice none 0 0)]), [], none⟩,
  ⟨none, .store true 300, [.t 3, .t 13], none⟩,
  ⟨(some 4), .mov, [.t 14], none⟩]
def c_l20_alive_r2 : List COper := a_l20_alive_r2
instance : Reg c_l20_alive_r2 a_l20_alive_r2 8 := ⟨rfl, rfl⟩
@[simp] def a_l20_alive_r3 : List COper := [
  ⟨(some 15), .mov, [.t 2], none⟩,
  ⟨(some 16), .bin .eql, [.t 15, .c (.int .i64 0)], none⟩,
  ⟨(some 17), .mov, [.t 16], none⟩,
  ⟨(some 18), .mov, [.t 1], (some (17, true))⟩,
  ⟨(some 19), .len, [.t 18], (some (17, true))⟩,
  ⟨(some 20), .bin .eql, [.t 19, .c (.int .i64 8)], (some (17, true))⟩,
  ⟨(some 21), .pick, [.t 17, .t 20, .c (.bool false)], none⟩,
  ⟨(some 22), .mov, [.t 21], none⟩,
  ⟨(some 23), .mov, [.t 4], (some (22, true))⟩,
  ⟨(some 24), .bin .eql, [.t 23, .c (.int .i64 0)], (some (22, true))⟩,
  ⟨(some 25), .pick, [.t 22, .t 24, .c (.bool false)], none⟩,
  ⟨(some 26), .mov, [.t 25], none⟩,
  ⟨(some 27), .faddr 0 1 false, [.t 3], (some (26, true))⟩,
  ⟨(some 28), .load false 1, [.t 27], (some (26, true))⟩,
  ⟨(some 29), .bin .eql, [.t 28, .c (.int .i64 7)], (some (26, true))⟩,
  ⟨(some 30), .pick, [.t 26, .t 29, .c (.bool false)], none⟩,
  ⟨(some 0), .mov, [.t 30], none⟩]
def c_l20_alive_r3 : List COper := a_l20_alive_r3
instance : Reg c_l20_alive_r3 a_l20_alive_r3 17 := ⟨rfl, rfl⟩
@[simp] def c_l20_alive : CCode :=
  .seq (.region c_l20_alive_r0 none []) (.seq (.region c_l20_alive_r1 none [1, 2]) (.seq (.region c_l20_alive_r2 none [1, 2, 3, 4]) (.seq (.region c_l20_alive_r3 none [0]) (.ret))))
@[simp] def R_l20_alive : List CRes := [.tmp 0]
theorem k_l20_alive : chkFn Try.prog fn_l20_alive c_l20_alive R_l20_alive 0 = true := by kernel_rfl
/-! wapentake/mail.Decode -/
@[simp] def a_mail_Decode_r0 : List COper := [
  ⟨(some 2), .alloc (.node [.v (.int .i64 0), .node [.v (.int .i64 0), .v (.int .i64 0), .v (.int .i64 0), .v (.int .i64 0), .node [.v (.int .i64 0), .v (.int .i64 0), .arr 1 (rep 32 (.v (.int .u8 0))), .arr 1 (rep 32 (.v (.int .u8 0))), .arr 1 (rep 32 (.v (.int .u8 0))), .v (.slice none 0 0)], .v (.int .i64 0), .node [.v (.int .i64 0), .node [.v (.slice none 0 0), .v (.slice none 0 0)], .v (.slice none 0 0)]], .node [.v (.int .i64 0), .v (.int .i64 0), .v (.int .i64 0), .v (.int .i64 0), .arr 1 (rep 32 (.v (.int .u8 0))), .v (.int .i64 0), .node [.v (.int .i64 0), .node [.v (.slice none 0 0), .v (.slice none 0 0)], .v (.slice none 0 0)]], .node [.v (.int .i64 0), .v (.int .i64 0), .node [.v (.int .i64 0), .v (.string (mkS [])), .v (.string (mkS [])), .v (.string (mkS [])), .node [.v (.int .i64 0), .v (.int .i64 0), .v (.int .i64 0), .node [.arr 1 (rep 32 (.v (.int .u8 0))), .v (.int .i64 0)]]]], .node [.v (.int .i64 0), .v (.int .i64 0), .v (.int .i64 0), .v (.slice none 0 0)], .v (.int .i64 0), .node [.v (.int .i64 0), .v (.int .i64 0), .arr 1 (rep 32 (.v (.int .u8 0))), .arr 1 (rep 32 (.v (.int .u8 0))), .arr 1 (rep 32 (.v (.int .u8 0))), .v (.slice none 0 0)], .node [.v (.int .i64 0), .v (.slice none 0 0)], .v (.slice none 0 0), .v (.slice none 0 0)]), [], none⟩,
  ⟨(some 3), .mov, [.c (.int .i64 0)], none⟩]
def c_mail_Decode_r0 : List COper := a_mail_Decode_r0
instance : Reg c_mail_Decode_r0 a_mail_Decode_r0 2 := ⟨rfl, rfl⟩
@[simp] def a_mail_Decode_r1 : List COper := [
  ⟨(some 8), .mov, [.t 0], none⟩,
  ⟨(some 9), .len, [.t 8], none⟩,
  ⟨(some 10), .bin .gtr, [.t 9, .c (.int .i64 262144)], none⟩]
def c_mail_Decode_r1 : List COper := a_mail_Decode_r1
instance : Reg c_mail_Decode_r1 a_mail_Decode_r1 3 := ⟨rfl, rfl⟩
@[simp] def a_mail_Decode_r2 : List COper := [
  ⟨(some 11), .build [.v (.int .i64 0), .node [.v (.int .i64 0), .v (.int .i64 0), .v (.int .i64 0), .v (.int .i64 0), .node [.v (.int .i64 0), .v (.int .i64 0), .arr 1 (rep 32 (.v (.int .u8 0))), .arr 1 (rep 32 (.v (.int .u8 0))), .arr 1 (rep 32 (.v (.int .u8 0))), .v (.slice none 0 0)], .v (.int .i64 0), .node [.v (.int .i64 0), .node [.v (.slice none 0 0), .v (.slice none 0 0)], .v (.slice none 0 0)]], .node [.v (.int .i64 0), .v (.int .i64 0), .v (.int .i64 0), .v (.int .i64 0), .arr 1 (rep 32 (.v (.int .u8 0))), .v (.int .i64 0), .node [.v (.int .i64 0), .node [.v (.slice none 0 0), .v (.slice none 0 0)], .v (.slice none 0 0)]], .node [.v (.int .i64 0), .v (.int .i64 0), .node [.v (.int .i64 0), .v (.string (mkS [])), .v (.string (mkS [])), .v (.string (mkS [])), .node [.v (.int .i64 0), .v (.int .i64 0), .v (.int .i64 0), .node [.arr 1 (rep 32 (.v (.int .u8 0))), .v (.int .i64 0)]]]], .node [.v (.int .i64 0), .v (.int .i64 0), .v (.int .i64 0), .v (.slice none 0 0)], .v (.int .i64 0), .node [.v (.int .i64 0), .v (.int .i64 0), .arr 1 (rep 32 (.v (.int .u8 0))), .arr 1 (rep 32 (.v (.int .u8 0))), .arr 1 (rep 32 (.v (.int .u8 0))), .v (.slice none 0 0)], .node [.v (.int .i64 0), .v (.slice none 0 0)], .v (.slice none 0 0), .v (.slice none 0 0)] [], [], none⟩,
  ⟨none, .store true 300, [.t 2, .t 11], none⟩,
  ⟨(some 3), .mov, [.c (.int .i64 3)], none⟩]
def c_mail_Decode_r2 : List COper := a_mail_Decode_r2
instance : Reg c_mail_Decode_r2 a_mail_Decode_r2 3 := ⟨rfl, rfl⟩
@[simp] def a_mail_Decode_r3 : List COper := [
  ⟨(some 12), .mov, [.t 0], none⟩,
  ⟨(some 13), .call fn_code_Read, [.t 12], none⟩,
  ⟨(some 4), .mov, [.t 13], none⟩]
def c_mail_Decode_r3 : List COper := a_mail_Decode_r3
instance : Reg c_mail_Decode_r3 a_mail_Decode_r3 3 := ⟨rfl, rfl⟩
@[simp] def a_mail_Decode_r4 : List COper := [
  ⟨(some 14), .mov, [.t 4], none⟩,
  ⟨(some 15), .call fn_code_Reader_In, [.t 14, .c (.int .i64 1), .c (.int .i64 9)], none⟩,
  ⟨(some 16), .build [.v (.int .i64 0), .node [.v (.int .i64 0), .v (.int .i64 0), .v (.int .i64 0), .v (.int .i64 0), .node [.v (.int .i64 0), .v (.int .i64 0), .arr 1 (rep 32 (.v (.int .u8 0))), .arr 1 (rep 32 (.v (.int .u8 0))), .arr 1 (rep 32 (.v (.int .u8 0))), .v (.slice none 0 0)], .v (.int .i64 0), .node [.v (.int .i64 0), .node [.v (.slice none 0 0), .v (.slice none 0 0)], .v (.slice none 0 0)]], .node [.v (.int .i64 0), .v (.int .i64 0), .v (.int .i64 0), .v (.int .i64 0), .arr 1 (rep 32 (.v (.int .u8 0))), .v (.int .i64 0), .node [.v (.int .i64 0), .node [.v (.slice none 0 0), .v (.slice none 0 0)], .v (.slice none 0 0)]], .node [.v (.int .i64 0), .v (.int .i64 0), .node [.v (.int .i64 0), .v (.string (mkS [])), .v (.string (mkS [])), .v (.string (mkS [])), .node [.v (.int .i64 0), .v (.int .i64 0), .v (.int .i64 0), .node [.arr 1 (rep 32 (.v (.int .u8 0))), .v (.int .i64 0)]]]], .node [.v (.int .i64 0), .v (.int .i64 0), .v (.int .i64 0), .v (.slice none 0 0)], .v (.int .i64 0), .node [.v (.int .i64 0), .v (.int .i64 0), .arr 1 (rep 32 (.v (.int .u8 0))), .arr 1 (rep 32 (.v (.int .u8 0))), .arr 1 (rep 32 (.v (.int .u8 0))), .v (.slice none 0 0)], .node [.v (.int .i64 0), .v (.slice none 0 0)], .v (.slice none 0 0), .v (.slice none 0 0)] [0], [.t 15], none⟩,
  ⟨(some 5), .alloc (.node [.v (.int .i64 0), .node [.v (.int .i64 0), .v (.int .i64 0), .v (.int .i64 0), .v (.int .i64 0), .node [.v (.int .i64 0), .v (.int .i64 0), .arr 1 (rep 32 (.v (.int .u8 0))), .arr 1 (rep 32 (.v (.int .u8 0))), .arr 1 (rep 32 (.v (.int .u8 0))), .v (.slice none 0 0)], .v (.int .i64 0), .node [.v (.int .i64 0), .node [.v (.slice none 0 0), .v (.slice none 0 0)], .v (.slice none 0 0)]], .node [.v (.int .i64 0), .v (.int .i64 0), .v (.int .i64 0), .v (.int .i64 0), .arr 1 (rep 32 (.v (.int .u8 0))), .v (.int .i64 0), .node [.v (.int .i64 0), .node [.v (.slice none 0 0), .v (.slice none 0 0)], .v (.slice none 0 0)]], .node [.v (.int .i64 0), .v (.int .i64 0), .node [.v (.int .i64 0), .v (.string (mkS [])), .v (.string (mkS [])), .v (.string (mkS [])), .node [.v (.int .i64 0), .v (.int .i64 0), .v (.int .i64 0), .node [.arr 1 (rep 32 (.v (.int .u8 0))), .v (.int .i64 0)]]]], .node [.v (.int .i64 0), .v (.int .i64 0), .v (.int .i64 0), .v (.slice none 0 0)], .v (.int .i64 0), .node [.v (.int .i64 0), .v (.int .i64 0), .arr 1 (rep 32 (.v (.int .u8 0))), .arr 1 (rep 32 (.v (.int .u8 0))), .arr 1 (rep 32 (.v (.int .u8 0))), .v (.slice none 0 0)], .node [.v (.int .i64 0), .v (.slice none 0 0)], .v (.slice none 0 0), .v (.slice none 0 0)]), [], none⟩,
  ⟨none, .store true 300, [.t 5, .t 16], none⟩]
def c_mail_Decode_r4 : List COper := a_mail_Decode_r4
instance : Reg c_mail_Decode_r4 a_mail_Decode_r4 5 := ⟨rfl, rfl⟩
@[simp] def a_mail_Decode_r5 : List COper := [
  ⟨(some 17), .faddr 0 1 false, [.t 5], none⟩,
  ⟨(some 18), .load false 1, [.t 17], none⟩]
def c_mail_Decode_r5 : List COper := a_mail_Decode_r5
instance : Reg c_mail_Decode_r5 a_mail_Decode_r5 2 := ⟨rfl, rfl⟩
@[simp] def a_mail_Decode_r6 : List COper := [
  ⟨(some 20), .bin .eql, [.t 18, .c (.int .i64 1)], none⟩,
  ⟨(some 19), .mov, [.t 20], none⟩]
def c_mail_Decode_r6 : List COper := a_mail_Decode_r6
instance : Reg c_mail_Decode_r6 a_mail_Decode_r6 2 := ⟨rfl, rfl⟩
@[simp] def a_mail_Decode_r7 : List COper := [
  ⟨(some 21), .mov, [.t 4], none⟩,
  ⟨(some 22), .call fn_vote_ReadPlan, [.t 21], none⟩,
  ⟨(some 23), .faddr 1 108 true, [.t 5], none⟩,
  ⟨none, .store true 108, [.t 23, .t 22], none⟩]
def c_mail_Decode_r7 : List COper := a_mail_Decode_r7
instance : Reg c_mail_Decode_r7 a_mail_Decode_r7 4 := ⟨rfl, rfl⟩
@[simp] def a_mail_Decode_r8 : List COper := [
  ⟨(some 25), .bin .eql, [.t 18, .c (.int .i64 2)], none⟩,
  ⟨(some 24), .mov, [.t 25], none⟩]
def c_mail_Decode_r8 : List COper := a_mail_Decode_r8
instance : Reg c_mail_Decode_r8 a_mail_Decode_r8 2 := ⟨rfl, rfl⟩
@[simp] def a_mail_Decode_r9 : List COper := [
  ⟨(some 26), .mov, [.t 4], none⟩,
  ⟨(some 27), .call fn_vote_Read, [.t 26], none⟩,
  ⟨(some 28), .faddr 109 41 true, [.t 5], none⟩,
  ⟨none, .store true 41, [.t 28, .t 27], none⟩]
def c_mail_Decode_r9 : List COper := a_mail_Decode_r9
instance : Reg c_mail_Decode_r9 a_mail_Decode_r9 4 := ⟨rfl, rfl⟩
@[simp] def a_mail_Decode_r10 : List COper := [
  ⟨(some 30), .bin .eql, [.t 18, .c (.int .i64 3)], none⟩,
  ⟨(some 29), .mov, [.t 30], none⟩]
def c_mail_Decode_r10 : List COper := a_mail_Decode_r10
instance : Reg c_mail_Decode_r10 a_mail_Decode_r10 2 := ⟨rfl, rfl⟩
@[simp] def a_mail_Decode_r11 : List COper := [
  ⟨(some 31), .mov, [.t 4], none⟩,
  ⟨(some 32), .call fn_request_Read, [.t 31], none⟩,
  ⟨(some 33), .faddr 150 42 true, [.t 5], none⟩,
  ⟨none, .store true 42, [.t 33, .t 32], none⟩]
def c_mail_Decode_r11 : List COper := a_mail_Decode_r11
instance : Reg c_mail_Decode_r11 a_mail_Decode_r11 4 := ⟨rfl, rfl⟩
@[simp] def a_mail_Decode_r12 : List COper := [
  ⟨(some 35), .bin .eql, [.t 18, .c (.int .i64 4)], none⟩,
  ⟨(some 34), .mov, [.t 35], none⟩]
def c_mail_Decode_r12 : List COper := a_mail_Decode_r12
instance : Reg c_mail_Decode_r12 a_mail_Decode_r12 2 := ⟨rfl, rfl⟩
@[simp] def a_mail_Decode_r13 : List COper := [
  ⟨(some 36), .mov, [.t 4], none⟩,
  ⟨(some 37), .call fn_code_Reader_In, [.t 36, .c (.int .i64 0), .c (.int .i64 1024)], none⟩,
  ⟨(some 38), .mov, [.t 4], none⟩,
  ⟨(some 39), .call fn_request_ReadReply, [.t 38], none⟩,
  ⟨(some 40), .faddr 196 1 false, [.t 5], none⟩,
  ⟨none, .store false 1, [.t 40, .t 37], none⟩,
  ⟨(some 41), .faddr 192 4 true, [.t 5], none⟩,
  ⟨none, .store true 4, [.t 41, .t 39], none⟩]
def c_mail_Decode_r13 : List COper := a_mail_Decode_r13
instance : Reg c_mail_Decode_r13 a_mail_Decode_r13 8 := ⟨rfl, rfl⟩
@[simp] def a_mail_Decode_r14 : List COper := [
  ⟨(some 43), .bin .eql, [.t 18, .c (.int .i64 5)], none⟩,
  ⟨(some 42), .mov, [.t 43], none⟩]
def c_mail_Decode_r14 : List COper := a_mail_Decode_r14
instance : Reg c_mail_Decode_r14 a_mail_Decode_r14 2 := ⟨rfl, rfl⟩
@[simp] def a_mail_Decode_r15 : List COper := [
  ⟨(some 44), .mov, [.t 4], none⟩,
  ⟨(some 45), .call fn_block_Read, [.t 44], none⟩,
  ⟨(some 46), .mov, [.t 4], none⟩,
  ⟨(some 47), .call fn_cert_Read, [.t 46], none⟩,
  ⟨(some 48), .faddr 197 99 true, [.t 5], none⟩,
  ⟨none, .store true 99, [.t 48, .t 45], none⟩,
  ⟨(some 49), .faddr 296 2 true, [.t 5], none⟩,
  ⟨none, .store true 2, [.t 49, .t 47], none⟩]
def c_mail_Decode_r15 : List COper := a_mail_Decode_r15
instance : Reg c_mail_Decode_r15 a_mail_Decode_r15 8 := ⟨rfl, rfl⟩
@[simp] def a_mail_Decode_r16 : List COper := [
  ⟨(some 51), .bin .eql, [.t 18, .c (.int .i64 6)], none⟩,
  ⟨(some 50), .mov, [.t 51], none⟩]
def c_mail_Decode_r16 : List COper := a_mail_Decode_r16
instance : Reg c_mail_Decode_r16 a_mail_Decode_r16 2 := ⟨rfl, rfl⟩
@[simp] def a_mail_Decode_r17 : List COper := [
  ⟨(some 52), .mov, [.t 4], none⟩,
  ⟨(some 53), .call fn_code_Reader_In, [.t 52, .c (.int .i64 1), .c (.int .i64 1025)], none⟩,
  ⟨(some 54), .faddr 196 1 false, [.t 5], none⟩,
  ⟨none, .store false 1, [.t 54, .t 53], none⟩]
def c_mail_Decode_r17 : List COper := a_mail_Decode_r17
instance : Reg c_mail_Decode_r17 a_mail_Decode_r17 4 := ⟨rfl, rfl⟩
@[simp] def a_mail_Decode_r18 : List COper := [
  ⟨(some 56), .bin .eql, [.t 18, .c (.int .i64 8)], none⟩,
  ⟨(some 55), .mov, [.t 56], none⟩]
def c_mail_Decode_r18 : List COper := a_mail_Decode_r18
instance : Reg c_mail_Decode_r18 a_mail_Decode_r18 2 := ⟨rfl, rfl⟩
@[simp] def a_mail_Decode_r19 : List COper := [
  ⟨(some 57), .mov, [.t 4], none⟩,
  ⟨(some 58), .call fn_code_Reader_In, [.t 57, .c (.int .i64 0), .c (.int .i64 1024)], none⟩,
  ⟨(some 6), .mov, [.t 58], none⟩]
def c_mail_Decode_r19 : List COper := a_mail_Decode_r19
instance : Reg c_mail_Decode_r19 a_mail_Decode_r19 3 := ⟨rfl, rfl⟩
@[simp] def a_mail_Decode_r20 : List COper := [
  ⟨(some 59), .mov, [.t 6], none⟩,
  ⟨(some 60), .bin .gtr, [.t 59, .c (.int .i64 0)], none⟩,
  ⟨(some 61), .mov, [.t 60], none⟩,
  ⟨(some 62), .mov, [.t 4], (some (61, true))⟩,
  ⟨(some 63), .call fn_code_Reader_Good, [.t 62], (some (61, true))⟩,
  ⟨(some 64), .pick, [.t 61, .t 63, .c (.bool false)], none⟩]
def c_mail_Decode_r20 : List COper := a_mail_Decode_r20
instance : Reg c_mail_Decode_r20 a_mail_Decode_r20 6 := ⟨rfl, rfl⟩
@[simp] def a_mail_Decode_r22 : List COper := [
  ⟨(some 67), .faddr 298 1 false, [.t 5], none⟩,
  ⟨(some 68), .load false 1, [.t 67], none⟩,
  ⟨(some 69), .mov, [.t 4], none⟩,
  ⟨(some 70), .call fn_chain_Read, [.t 69], none⟩,
  ⟨(some 71), .bslice 103 1 (.node [.node [.v (.int .i64 0), .v (.int .i64 0), .arr 1 (rep 32 (.v (.int .u8 0))), .arr 1 (rep 32 (.v (.int .u8 0))), .arr 1 (rep 32 (.v (.int .u8 0))), .v (.slice none 0 0)], .node [.v (.int .i64 0), .v (.slice none 0 0)], .node [.v (.int .i64 0), .v (.slice none 0 0)]]) [0], [.t 70], none⟩,
  ⟨(some 72), .app 103 200, [.t 68, .t 71], none⟩,
  ⟨(some 73), .faddr 298 1 false, [.t 5], none⟩,
  ⟨none, .store false 1, [.t 73, .t 72], none⟩]
def c_mail_Decode_r22 : List COper := a_mail_Decode_r22
instance : Reg c_mail_Decode_r22 a_mail_Decode_r22 8 := ⟨rfl, rfl⟩
@[simp] def a_mail_Decode_r21 : List COper := [
  ⟨(some 65), .mov, [.t 6], none⟩,
  ⟨(some 66), .bin .sub, [.t 65, .c (.int .i64 1)], none⟩,
  ⟨(some 6), .mov, [.t 66], none⟩]
def c_mail_Decode_r21 : List COper := a_mail_Decode_r21
instance : Reg c_mail_Decode_r21 a_mail_Decode_r21 3 := ⟨rfl, rfl⟩
@[simp] def a_mail_Decode_r23 : List COper := [
  ⟨(some 75), .bin .eql, [.t 18, .c (.int .i64 9)], none⟩,
  ⟨(some 74), .mov, [.t 75], none⟩]
def c_mail_Decode_r23 : List COper := a_mail_Decode_r23
instance : Reg c_mail_Decode_r23 a_mail_Decode_r23 2 := ⟨rfl, rfl⟩
@[simp] def a_mail_Decode_r24 : List COper := [
  ⟨(some 76), .mov, [.t 4], none⟩,
  ⟨(some 77), .call fn_block_Read, [.t 76], none⟩,
  ⟨(some 78), .mov, [.t 4], none⟩,
  ⟨(some 79), .call fn_cert_Read, [.t 78], none⟩,
  ⟨(some 80), .faddr 197 99 true, [.t 5], none⟩,
  ⟨none, .store true 99, [.t 80, .t 77], none⟩,
  ⟨(some 81), .faddr 296 2 true, [.t 5], none⟩,
  ⟨none, .store true 2, [.t 81, .t 79], none⟩]
def c_mail_Decode_r24 : List COper := a_mail_Decode_r24
instance : Reg c_mail_Decode_r24 a_mail_Decode_r24 8 := ⟨rfl, rfl⟩
@[simp] def a_mail_Decode_r25 : List COper := [
  ⟨(some 82), .mov, [.t 4], none⟩,
  ⟨(some 83), .call fn_code_Reader_In, [.t 82, .c (.int .i64 0), .c (.int .i64 1024)], none⟩,
  ⟨(some 7), .mov, [.t 83], none⟩]
def c_mail_Decode_r25 : List COper := a_mail_Decode_r25
instance : Reg c_mail_Decode_r25 a_mail_Decode_r25 3 := ⟨rfl, rfl⟩
@[simp] def a_mail_Decode_r26 : List COper := [
  ⟨(some 84), .mov, [.t 7], none⟩,
  ⟨(some 85), .bin .gtr, [.t 84, .c (.int .i64 0)], none⟩,
  ⟨(some 86), .mov, [.t 85], none⟩,
  ⟨(some 87), .mov, [.t 4], (some (86, true))⟩,
  ⟨(some 88), .call fn_code_Reader_Good, [.t 87], (some (86, true))⟩,
  ⟨(some 89), .pick, [.t 86, .t 88, .c (.bool false)], none⟩]
def c_mail_Decode_r26 : List COper := a_mail_Decode_r26
instance : Reg c_mail_Decode_r26 a_mail_Decode_r26 6 := ⟨rfl, rfl⟩
@[simp] def a_mail_Decode_r28 : List COper := [
  ⟨(some 92), .faddr 299 1 false, [.t 5], none⟩,
  ⟨(some 93), .load false 1, [.t 92], none⟩,
  ⟨(some 94), .mov, [.t 4], none⟩,
  ⟨(some 95), .call fn_mail_piece, [.t 94], none⟩,
  ⟨(some 96), .bslice 36 1 (.node [.v (.int .i64 0), .v (.int .i64 0), .arr 1 (rep 32 (.v (.int .u8 0))), .v (.string (mkS [])), .v (.slice none 0 0)]) [0], [.t 95], none⟩,
  ⟨(some 97), .app 36 88, [.t 93, .t 96], none⟩,
  ⟨(some 98), .faddr 299 1 false, [.t 5], none⟩,
  ⟨none, .store false 1, [.t 98, .t 97], none⟩]
def c_mail_Decode_r28 : List COper := a_mail_Decode_r28
instance : Reg c_mail_Decode_r28 a_mail_Decode_r28 8 := ⟨rfl, rfl⟩
@[simp] def a_mail_Decode_r27 : List COper := [
  ⟨(some 90), .mov, [.t 7], none⟩,
  ⟨(some 91), .bin .sub, [.t 90, .c (.int .i64 1)], none⟩,
  ⟨(some 7), .mov, [.t 91], none⟩]
def c_mail_Decode_r27 : List COper := a_mail_Decode_r27
instance : Reg c_mail_Decode_r27 a_mail_Decode_r27 3 := ⟨rfl, rfl⟩
@[simp] def a_mail_Decode_r29 : List COper := [
  ⟨(some 99), .mov, [.t 4], none⟩,
  ⟨(some 100), .call fn_code_Reader_End, [.t 99], none⟩,
  ⟨(some 101), .not, [.t 100], none⟩]
def c_mail_Decode_r29 : List COper := a_mail_Decode_r29
instance : Reg c_mail_Decode_r29 a_mail_Decode_r29 3 := ⟨rfl, rfl⟩
@[simp] def a_mail_Decode_r30 : List COper := [
  ⟨(some 102), .build [.v (.int .i64 0), .node [.v (.int .i64 0), .v (.int .i64 0), .v (.int .i64 0), .v (.int .i64 0), .node [.v (.int .i64 0), .v (.int .i64 0), .arr 1 (rep 32 (.v (.int .u8 0))), .arr 1 (rep 32 (.v (.int .u8 0))), .arr 1 (rep 32 (.v (.int .u8 0))), .v (.slice none 0 0)], .v (.int .i64 0), .node [.v (.int .i64 0), .node [.v (.slice none 0 0), .v (.slice none 0 0)], .v (.slice none 0 0)]], .node [.v (.int .i64 0), .v (.int .i64 0), .v (.int .i64 0), .v (.int .i64 0), .arr 1 (rep 32 (.v (.int .u8 0))), .v (.int .i64 0), .node [.v (.int .i64 0), .node [.v (.slice none 0 0), .v (.slice none 0 0)], .v (.slice none 0 0)]], .node [.v (.int .i64 0), .v (.int .i64 0), .node [.v (.int .i64 0), .v (.string (mkS [])), .v (.string (mkS [])), .v (.string (mkS [])), .node [.v (.int .i64 0), .v (.int .i64 0), .v (.int .i64 0), .node [.arr 1 (rep 32 (.v (.int .u8 0))), .v (.int .i64 0)]]]], .node [.v (.int .i64 0), .v (.int .i64 0), .v (.int .i64 0), .v (.slice none 0 0)], .v (.int .i64 0), .node [.v (.int .i64 0), .v (.int .i64 0), .arr 1 (rep 32 (.v (.int .u8 0))), .arr 1 (rep 32 (.v (.int .u8 0))), .arr 1 (rep 32 (.v (.int .u8 0))), .v (.slice none 0 0)], .node [.v (.int .i64 0), .v (.slice none 0 0)], .v (.slice none 0 0), .v (.slice none 0 0)] [], [], none⟩,
  ⟨none, .store true 300, [.t 2, .t 102], none⟩,
  ⟨(some 3), .mov, [.c (.int .i64 4)], none⟩]
def c_mail_Decode_r30 : List COper := a_mail_Decode_r30
instance : Reg c_mail_Decode_r30 a_mail_Decode_r30 3 := ⟨rfl, rfl⟩
@[simp] def a_mail_Decode_r31 : List COper := [
  ⟨(some 103), .load true 300, [.t 5], none⟩,
  ⟨none, .store true 300, [.t 2, .t 103], none⟩,
  ⟨(some 3), .mov, [.c (.int .i64 0)], none⟩]
def c_mail_Decode_r31 : List COper := a_mail_Decode_r31
instance : Reg c_mail_Decode_r31 a_mail_Decode_r31 3 := ⟨rfl, rfl⟩
@[simp] def c_mail_Decode : CCode :=
  .seq (.region c_mail_Decode_r0 none [0, 2]) (.seq (.seq (.region c_mail_Decode_r1 none [0, 2, 10]) (.cond (.t 10) (.seq (.region c_mail_Decode_r2 none [2, 3]) (.ret)) (.skip))) (.seq (.region c_mail_Decode_r3 none [2, 4]) (.seq (.region c_mail_Decode_r4 none [2, 4, 5]) (.seq (.seq (.region c_mail_Decode_r5 none [2, 4, 5, 18]) (.block 0 (.seq (.region c_mail_Decode_r6 none [2, 4, 5, 18, 19]) (.cond (.t 19) (.region c_mail_Decode_r7 none [2, 4, 5]) (.seq (.region c_mail_Decode_r8 none [2, 4, 5, 18, 24]) (.cond (.t 24) (.region c_mail_Decode_r9 none [2, 4, 5]) (.seq (.region c_mail_Decode_r10 none [2, 4, 5, 18, 29]) (.cond (.t 29) (.region c_mail_Decode_r11 none [2, 4, 5]) (.seq (.region c_mail_Decode_r12 none [2, 4, 5, 18, 34]) (.cond (.t 34) (.region c_mail_Decode_r13 none [2, 4, 5]) (.seq (.region c_mail_Decode_r14 none [2, 4, 5, 18, 42]) (.cond (.t 42) (.region c_mail_Decode_r15 none [2, 4, 5]) (.seq (.region c_mail_Decode_r16 none [2, 4, 5, 18, 50]) (.cond (.t 50) (.region c_mail_Decode_r17 none [2, 4, 5]) (.seq (.region c_mail_Decode_r18 none [2, 4, 5, 18, 55]) (.cond (.t 55) (.seq (.region c_mail_Decode_r19 none [2, 4, 5, 6]) (.block 1 (.loop (.seq (.seq (.region c_mail_Decode_r20 none [2, 4, 5, 6, 64]) (.cond (.t 64) (.skip) (.exit 1))) (.seq (.block 2 (.region c_mail_Decode_r22 (some ([0, 1, 0, 4, 12, 31, 63, 127], [(1, 3), (1, 4)])) [2, 4, 5, 6])) (.region c_mail_Decode_r21 none [2, 4, 5, 6])))))) (.seq (.region c_mail_Decode_r23 none [2, 4, 5, 74]) (.cond (.t 74) (.seq (.region c_mail_Decode_r24 none [2, 4, 5]) (.seq (.region c_mail_Decode_r25 none [2, 4, 5, 7]) (.block 3 (.loop (.seq (.seq (.region c_mail_Decode_r26 none [2, 4, 5, 7, 89]) (.cond (.t 89) (.skip) (.exit 3))) (.seq (.block 4 (.region c_mail_Decode_r28 (some ([0, 1, 0, 4, 12, 31, 63, 127], [(1, 3), (1, 4)])) [2, 4, 5, 7])) (.region c_mail_Decode_r27 none [2, 4, 5, 7]))))))) (.skip))))))))))))))))))) (.seq (.seq (.region c_mail_Decode_r29 none [2, 5, 101]) (.cond (.t 101) (.seq (.region c_mail_Decode_r30 none [2, 3]) (.ret)) (.skip))) (.seq (.region c_mail_Decode_r31 none [2, 3]) (.ret)))))))
@[simp] def R_mail_Decode : List CRes := [.cell 2 true 300, .tmp 3]
theorem k_mail_Decode : chkFn Try.prog fn_mail_Decode c_mail_Decode R_mail_Decode 1 = true := by kernel_rfl
/-! wapentake/wapentakeref20.Decode -/
@[simp] def a_r20_Decode_r0 : List COper := [
  ⟨(some 2), .alloc (.node [.v (.int .i64 0), .node [.v (.int .i64 0), .v (.int .i64 0), .v (.int .i64 0), .v (.int .i64 0), .node [.v (.int .i64 0), .v (.int .i64 0), .arr 1 (rep 32 (.v (.int .u8 0))), .arr 1 (rep 32 (.v (.int .u8 0))), .arr 1 (rep 32 (.v (.int .u8 0))), .v (.slice none 0 0)], .v (.int .i64 0), .node [.v (.int .i64 0), .node [.v (.slice none 0 0), .v (.slice none 0 0)], .v (.slice none 0 0)]], .node [.v (.int .i64 0), .v (.int .i64 0), .v (.int .i64 0), .v (.int .i64 0), .arr 1 (rep 32 (.v (.int .u8 0))), .v (.int .i64 0), .node [.v (.int .i64 0), .node [.v (.slice none 0 0), .v (.slice none 0 0)], .v (.slice none 0 0)]], .node [.v (.int .i64 0), .v (.int .i64 0), .node [.v (.int .i64 0), .v (.string (mkS [])), .v (.string (mkS [])), .v (.string (mkS [])), .node [.v (.int .i64 0), .v (.int .i64 0), .v (.int .i64 0), .node [.arr 1 (rep 32 (.v (.int .u8 0))), .v (.int .i64 0)]]]], .node [.v (.int .i64 0), .v (.int .i64 0), .v (.int .i64 0), .v (.slice none 0 0)], .v (.int .i64 0), .node [.v (.int .i64 0), .v (.int .i64 0), .arr 1 (rep 32 (.v (.int .u8 0))), .arr 1 (rep 32 (.v (.int .u8 0))), .arr 1 (rep 32 (.v (.int .u8 0))), .v (.slice none 0 0)], .node [.v (.int .i64 0), .v (.slice none 0 0)], .v (.slice none 0 0), .v (.slice none 0 0)]), [], none⟩,
  ⟨(some 3), .mov, [.c (.int .i64 0)], none⟩]
def c_r20_Decode_r0 : List COper := a_r20_Decode_r0
instance : Reg c_r20_Decode_r0 a_r20_Decode_r0 2 := ⟨rfl, rfl⟩
@[simp] def a_r20_Decode_r1 : List COper := [
  ⟨(some 10), .mov, [.t 0], none⟩,
  ⟨(some 11), .lenS, [.t 10], none⟩,
  ⟨(some 12), .bin .gtr, [.t 11, .c (.int .i64 262144)], none⟩]
def c_r20_Decode_r1 : List COper := a_r20_Decode_r1
instance : Reg c_r20_Decode_r1 a_r20_Decode_r1 3 := ⟨rfl, rfl⟩
@[simp] def a_r20_Decode_r2 : List COper := [
  ⟨(some 13), .build [.v (.int .i64 0), .node [.v (.int .i64 0), .v (.int .i64 0), .v (.int .i64 0), .v (.int .i64 0), .node [.v (.int .i64 0), .v (.int .i64 0), .arr 1 (rep 32 (.v (.int .u8 0))), .arr 1 (rep 32 (.v (.int .u8 0))), .arr 1 (rep 32 (.v (.int .u8 0))), .v (.slice none 0 0)], .v (.int .i64 0), .node [.v (.int .i64 0), .node [.v (.slice none 0 0), .v (.slice none 0 0)], .v (.slice none 0 0)]], .node [.v (.int .i64 0), .v (.int .i64 0), .v (.int .i64 0), .v (.int .i64 0), .arr 1 (rep 32 (.v (.int .u8 0))), .v (.int .i64 0), .node [.v (.int .i64 0), .node [.v (.slice none 0 0), .v (.slice none 0 0)], .v (.slice none 0 0)]], .node [.v (.int .i64 0), .v (.int .i64 0), .node [.v (.int .i64 0), .v (.string (mkS [])), .v (.string (mkS [])), .v (.string (mkS [])), .node [.v (.int .i64 0), .v (.int .i64 0), .v (.int .i64 0), .node [.arr 1 (rep 32 (.v (.int .u8 0))), .v (.int .i64 0)]]]], .node [.v (.int .i64 0), .v (.int .i64 0), .v (.int .i64 0), .v (.slice none 0 0)], .v (.int .i64 0), .node [.v (.int .i64 0), .v (.int .i64 0), .arr 1 (rep 32 (.v (.int .u8 0))), .arr 1 (rep 32 (.v (.int .u8 0))), .arr 1 (rep 32 (.v (.int .u8 0))), .v (.slice none 0 0)], .node [.v (.int .i64 0), .v (.slice none 0 0)], .v (.slice none 0 0), .v (.slice none 0 0)] [], [], none⟩,
  ⟨none, .store true 300, [.t 2, .t 13], none⟩,
  ⟨(some 3), .mov, [.c (.int .i64 3)], none⟩]
def c_r20_Decode_r2 : List COper := a_r20_Decode_r2
instance : Reg c_r20_Decode_r2 a_r20_Decode_r2 3 := ⟨rfl, rfl⟩
@[simp] def a_r20_Decode_r3 : List COper := [
  ⟨(some 14), .mov, [.t 0], none⟩,
  ⟨(some 15), .build [.v (.string (mkS [])), .v (.bool false)] [0], [.t 14], none⟩,
  ⟨(some 16), .box, [.t 15], none⟩,
  ⟨(some 4), .mov, [.t 16], none⟩]
def c_r20_Decode_r3 : List COper := a_r20_Decode_r3
instance : Reg c_r20_Decode_r3 a_r20_Decode_r3 4 := ⟨rfl, rfl⟩
@[simp] def a_r20_Decode_r4 : List COper := [
  ⟨(some 17), .mov, [.t 4], none⟩,
  ⟨(some 18), .call fn_r01_Reader_In, [.t 17, .c (.int .i64 1), .c (.int .i64 9)], none⟩,
  ⟨(some 19), .build [.v (.int .i64 0), .node [.v (.int .i64 0), .v (.int .i64 0), .v (.int .i64 0), .v (.int .i64 0), .node [.v (.int .i64 0), .v (.int .i64 0), .arr 1 (rep 32 (.v (.int .u8 0))), .arr 1 (rep 32 (.v (.int .u8 0))), .arr 1 (rep 32 (.v (.int .u8 0))), .v (.slice none 0 0)], .v (.int .i64 0), .node [.v (.int .i64 0), .node [.v (.slice none 0 0), .v (.slice none 0 0)], .v (.slice none 0 0)]], .node [.v (.int .i64 0), .v (.int .i64 0), .v (.int .i64 0), .v (.int .i64 0), .arr 1 (rep 32 (.v (.int .u8 0))), .v (.int .i64 0), .node [.v (.int .i64 0), .node [.v (.slice none 0 0), .v (.slice none 0 0)], .v (.slice none 0 0)]], .node [.v (.int .i64 0), .v (.int .i64 0), .node [.v (.int .i64 0), .v (.string (mkS [])), .v (.string (mkS [])), .v (.string (mkS [])), .node [.v (.int .i64 0), .v (.int .i64 0), .v (.int .i64 0), .node [.arr 1 (rep 32 (.v (.int .u8 0))), .v (.int .i64 0)]]]], .node [.v (.int .i64 0), .v (.int .i64 0), .v (.int .i64 0), .v (.slice none 0 0)], .v (.int .i64 0), .node [.v (.int .i64 0), .v (.int .i64 0), .arr 1 (rep 32 (.v (.int .u8 0))), .arr 1 (rep 32 (.v (.int .u8 0))), .arr 1 (rep 32 (.v (.int .u8 0))), .v (.slice none 0 0)], .node [.v (.int .i64 0), .v (.slice none 0 0)], .v (.slice none 0 0), .v (.slice none 0 0)] [0], [.t 18], none⟩,
  ⟨(some 5), .alloc (.node [.v (.int .i64 0), .node [.v (.int .i64 0), .v (.int .i64 0), .v (.int .i64 0), .v (.int .i64 0), .node [.v (.int .i64 0), .v (.int .i64 0), .arr 1 (rep 32 (.v (.int .u8 0))), .arr 1 (rep 32 (.v (.int .u8 0))), .arr 1 (rep 32 (.v (.int .u8 0))), .v (.slice none 0 0)], .v (.int .i64 0), .node [.v (.int .i64 0), .node [.v (.slice none 0 0), .v (.slice none 0 0)], .v (.slice none 0 0)]], .node [.v (.int .i64 0), .v (.int .i64 0), .v (.int .i64 0), .v (.int .i64 0), .arr 1 (rep 32 (.v (.int .u8 0))), .v (.int .i64 0), .node [.v (.int .i64 0), .node [.v (.slice none 0 0), .v (.slice none 0 0)], .v (.slice none 0 0)]], .node [.v (.int .i64 0), .v (.int .i64 0), .node [.v (.int .i64 0), .v (.string (mkS [])), .v (.string (mkS [])), .v (.string (mkS [])), .node [.v (.int .i64 0), .v (.int .i64 0), .v (.int .i64 0), .node [.arr 1 (rep 32 (.v (.int .u8 0))), .v (.int .i64 0)]]]], .node [.v (.int .i64 0), .v (.int .i64 0), .v (.int .i64 0), .v (.slice none 0 0)], .v (.int .i64 0), .node [.v (.int .i64 0), .v (.int .i64 0), .arr 1 (rep 32 (.v (.int .u8 0))), .arr 1 (rep 32 (.v (.int .u8 0))), .arr 1 (rep 32 (.v (.int .u8 0))), .v (.slice none 0 0)], .node [.v (.int .i64 0), .v (.slice none 0 0)], .v (.slice none 0 0), .v (.slice none 0 0)]), [], none⟩,
  ⟨none, .store true 300, [.t 5, .t 19], none⟩]
def c_r20_Decode_r4 : List COper := a_r20_Decode_r4
instance : Reg c_r20_Decode_r4 a_r20_Decode_r4 5 := ⟨rfl, rfl⟩
@[simp] def a_r20_Decode_r5 : List COper := [
  ⟨(some 20), .faddr 0 1 false, [.t 5], none⟩,
  ⟨(some 21), .load false 1, [.t 20], none⟩]
def c_r20_Decode_r5 : List COper := a_r20_Decode_r5
instance : Reg c_r20_Decode_r5 a_r20_Decode_r5 2 := ⟨rfl, rfl⟩
@[simp] def a_r20_Decode_r6 : List COper := [
  ⟨(some 23), .bin .eql, [.t 21, .c (.int .i64 1)], none⟩,
  ⟨(some 22), .mov, [.t 23], none⟩]
def c_r20_Decode_r6 : List COper := a_r20_Decode_r6
instance : Reg c_r20_Decode_r6 a_r20_Decode_r6 2 := ⟨rfl, rfl⟩
@[simp] def a_r20_Decode_r7 : List COper := [
  ⟨(some 24), .mov, [.t 4], none⟩,
  ⟨(some 25), .call fn_r13_ReadPlan, [.t 24], none⟩,
  ⟨(some 26), .faddr 1 108 true, [.t 5], none⟩,
  ⟨none, .store true 108, [.t 26, .t 25], none⟩]
def c_r20_Decode_r7 : List COper := a_r20_Decode_r7
instance : Reg c_r20_Decode_r7 a_r20_Decode_r7 4 := ⟨rfl, rfl⟩
@[simp] def a_r20_Decode_r8 : List COper := [
  ⟨(some 28), .bin .eql, [.t 21, .c (.int .i64 2)], none⟩,
  ⟨(some 27), .mov, [.t 28], none⟩]
def c_r20_Decode_r8 : List COper := a_r20_Decode_r8
instance : Reg c_r20_Decode_r8 a_r20_Decode_r8 2 := ⟨rfl, rfl⟩
@[simp] def a_r20_Decode_r9 : List COper := [
  ⟨(some 29), .mov, [.t 4], none⟩,
  ⟨(some 30), .call fn_r13_Read, [.t 29], none⟩,
  ⟨(some 31), .faddr 109 41 true, [.t 5], none⟩,
  ⟨none, .store true 41, [.t 31, .t 30], none⟩]
def c_r20_Decode_r9 : List COper := a_r20_Decode_r9
instance : Reg c_r20_Decode_r9 a_r20_Decode_r9 4 := ⟨rfl, rfl⟩
@[simp] def a_r20_Decode_r10 : List COper := [
  ⟨(some 33), .bin .eql, [.t 21, .c (.int .i64 3)], none⟩,
  ⟨(some 32), .mov, [.t 33], none⟩]
def c_r20_Decode_r10 : List COper := a_r20_Decode_r10
instance : Reg c_r20_Decode_r10 a_r20_Decode_r10 2 := ⟨rfl, rfl⟩
@[simp] def a_r20_Decode_r11 : List COper := [
  ⟨(some 34), .mov, [.t 4], none⟩,
  ⟨(some 35), .call fn_r09_Read, [.t 34], none⟩,
  ⟨(some 36), .faddr 150 42 true, [.t 5], none⟩,
  ⟨none, .store true 42, [.t 36, .t 35], none⟩]
def c_r20_Decode_r11 : List COper := a_r20_Decode_r11
instance : Reg c_r20_Decode_r11 a_r20_Decode_r11 4 := ⟨rfl, rfl⟩
@[simp] def a_r20_Decode_r12 : List COper := [
  ⟨(some 38), .bin .eql, [.t 21, .c (.int .i64 4)], none⟩,
  ⟨(some 37), .mov, [.t 38], none⟩]
def c_r20_Decode_r12 : List COper := a_r20_Decode_r12
instance : Reg c_r20_Decode_r12 a_r20_Decode_r12 2 := ⟨rfl, rfl⟩
@[simp] def a_r20_Decode_r13 : List COper := [
  ⟨(some 39), .mov, [.t 4], none⟩,
  ⟨(some 40), .call fn_r01_Reader_In, [.t 39, .c (.int .i64 0), .c (.int .i64 1024)], none⟩,
  ⟨(some 41), .faddr 196 1 false, [.t 5], none⟩,
  ⟨none, .store false 1, [.t 41, .t 40], none⟩]
def c_r20_Decode_r13 : List COper := a_r20_Decode_r13
instance : Reg c_r20_Decode_r13 a_r20_Decode_r13 4 := ⟨rfl, rfl⟩
@[simp] def a_r20_Decode_r14 : List COper := [
  ⟨(some 42), .mov, [.t 4], none⟩,
  ⟨(some 43), .call fn_r09_ReadReply, [.t 42], none⟩,
  ⟨(some 44), .faddr 192 4 true, [.t 5], none⟩,
  ⟨none, .store true 4, [.t 44, .t 43], none⟩]
def c_r20_Decode_r14 : List COper := a_r20_Decode_r14
instance : Reg c_r20_Decode_r14 a_r20_Decode_r14 4 := ⟨rfl, rfl⟩
@[simp] def a_r20_Decode_r15 : List COper := [
  ⟨(some 46), .bin .eql, [.t 21, .c (.int .i64 5)], none⟩,
  ⟨(some 45), .mov, [.t 46], none⟩]
def c_r20_Decode_r15 : List COper := a_r20_Decode_r15
instance : Reg c_r20_Decode_r15 a_r20_Decode_r15 2 := ⟨rfl, rfl⟩
@[simp] def a_r20_Decode_r16 : List COper := [
  ⟨(some 47), .bin .eql, [.t 21, .c (.int .i64 9)], none⟩,
  ⟨(some 45), .mov, [.t 47], none⟩]
def c_r20_Decode_r16 : List COper := a_r20_Decode_r16
instance : Reg c_r20_Decode_r16 a_r20_Decode_r16 2 := ⟨rfl, rfl⟩
@[simp] def a_r20_Decode_r17 : List COper := [
  ⟨(some 48), .mov, [.t 4], none⟩,
  ⟨(some 49), .call fn_r12_Read, [.t 48], none⟩,
  ⟨(some 50), .faddr 197 99 true, [.t 5], none⟩,
  ⟨none, .store true 99, [.t 50, .t 49], none⟩]
def c_r20_Decode_r17 : List COper := a_r20_Decode_r17
instance : Reg c_r20_Decode_r17 a_r20_Decode_r17 4 := ⟨rfl, rfl⟩
@[simp] def a_r20_Decode_r18 : List COper := [
  ⟨(some 51), .mov, [.t 4], none⟩,
  ⟨(some 52), .call fn_r14_Read, [.t 51], none⟩,
  ⟨(some 53), .faddr 296 2 true, [.t 5], none⟩,
  ⟨none, .store true 2, [.t 53, .t 52], none⟩]
def c_r20_Decode_r18 : List COper := a_r20_Decode_r18
instance : Reg c_r20_Decode_r18 a_r20_Decode_r18 4 := ⟨rfl, rfl⟩
@[simp] def a_r20_Decode_r19 : List COper := [
  ⟨(some 55), .bin .eql, [.t 21, .c (.int .i64 6)], none⟩,
  ⟨(some 54), .mov, [.t 55], none⟩]
def c_r20_Decode_r19 : List COper := a_r20_Decode_r19
instance : Reg c_r20_Decode_r19 a_r20_Decode_r19 2 := ⟨rfl, rfl⟩
@[simp] def a_r20_Decode_r20 : List COper := [
  ⟨(some 56), .mov, [.t 4], none⟩,
  ⟨(some 57), .call fn_r01_Reader_In, [.t 56, .c (.int .i64 1), .c (.int .i64 1025)], none⟩,
  ⟨(some 58), .faddr 196 1 false, [.t 5], none⟩,
  ⟨none, .store false 1, [.t 58, .t 57], none⟩]
def c_r20_Decode_r20 : List COper := a_r20_Decode_r20
instance : Reg c_r20_Decode_r20 a_r20_Decode_r20 4 := ⟨rfl, rfl⟩
@[simp] def a_r20_Decode_r21 : List COper := [
  ⟨(some 60), .bin .eql, [.t 21, .c (.int .i64 8)], none⟩,
  ⟨(some 59), .mov, [.t 60], none⟩]
def c_r20_Decode_r21 : List COper := a_r20_Decode_r21
instance : Reg c_r20_Decode_r21 a_r20_Decode_r21 2 := ⟨rfl, rfl⟩
@[simp] def a_r20_Decode_r22 : List COper := [
  ⟨(some 61), .mov, [.t 4], none⟩,
  ⟨(some 62), .call fn_r01_Reader_In, [.t 61, .c (.int .i64 0), .c (.int .i64 1024)], none⟩,
  ⟨(some 6), .mov, [.t 62], none⟩]
def c_r20_Decode_r22 : List COper := a_r20_Decode_r22
instance : Reg c_r20_Decode_r22 a_r20_Decode_r22 3 := ⟨rfl, rfl⟩
@[simp] def a_r20_Decode_r23 : List COper := [
  ⟨(some 7), .mov, [.c (.int .i64 0)], none⟩]
def c_r20_Decode_r23 : List COper := a_r20_Decode_r23
instance : Reg c_r20_Decode_r23 a_r20_Decode_r23 1 := ⟨rfl, rfl⟩
@[simp] def a_r20_Decode_r24 : List COper := [
  ⟨(some 63), .mov, [.t 7], none⟩,
  ⟨(some 64), .mov, [.t 6], none⟩,
  ⟨(some 65), .bin .lss, [.t 63, .t 64], none⟩,
  ⟨(some 66), .mov, [.t 65], none⟩,
  ⟨(some 67), .mov, [.t 4], (some (66, true))⟩,
  ⟨(some 68), .call fn_r01_Reader_Good, [.t 67], (some (66, true))⟩,
  ⟨(some 69), .pick, [.t 66, .t 68, .c (.bool false)], none⟩]
def c_r20_Decode_r24 : List COper := a_r20_Decode_r24
instance : Reg c_r20_Decode_r24 a_r20_Decode_r24 7 := ⟨rfl, rfl⟩
@[simp] def a_r20_Decode_r26 : List COper := [
  ⟨(some 72), .faddr 298 1 false, [.t 5], none⟩,
  ⟨(some 73), .load false 1, [.t 72], none⟩,
  ⟨(some 74), .mov, [.t 4], none⟩,
  ⟨(some 75), .call fn_r15_Read, [.t 74], none⟩,
  ⟨(some 76), .bslice 103 1 (.node [.node [.v (.int .i64 0), .v (.int .i64 0), .arr 1 (rep 32 (.v (.int .u8 0))), .arr 1 (rep 32 (.v (.int .u8 0))), .arr 1 (rep 32 (.v (.int .u8 0))), .v (.slice none 0 0)], .node [.v (.int .i64 0), .v (.slice none 0 0)], .node [.v (.int .i64 0), .v (.slice none 0 0)]]) [0], [.t 75], none⟩,
  ⟨(some 77), .app 103 200, [.t 73, .t 76], none⟩,
  ⟨(some 78), .faddr 298 1 false, [.t 5], none⟩,
  ⟨none, .store false 1, [.t 78, .t 77], none⟩]
def c_r20_Decode_r26 : List COper := a_r20_Decode_r26
instance : Reg c_r20_Decode_r26 a_r20_Decode_r26 8 := ⟨rfl, rfl⟩
@[simp] def a_r20_Decode_r25 : List COper := [
  ⟨(some 70), .mov, [.t 7], none⟩,
  ⟨(some 71), .bin .add, [.t 70, .c (.int .i64 1)], none⟩,
  ⟨(some 7), .mov, [.t 71], none⟩]
def c_r20_Decode_r25 : List COper := a_r20_Decode_r25
instance : Reg c_r20_Decode_r25 a_r20_Decode_r25 3 := ⟨rfl, rfl⟩
@[simp] def a_r20_Decode_r27 : List COper := [
  ⟨(some 79), .faddr 0 1 false, [.t 5], none⟩,
  ⟨(some 80), .load false 1, [.t 79], none⟩,
  ⟨(some 81), .bin .eql, [.t 80, .c (.int .i64 9)], none⟩]
def c_r20_Decode_r27 : List COper := a_r20_Decode_r27
instance : Reg c_r20_Decode_r27 a_r20_Decode_r27 3 := ⟨rfl, rfl⟩
@[simp] def a_r20_Decode_r28 : List COper := [
  ⟨(some 82), .mov, [.t 4], none⟩,
  ⟨(some 83), .call fn_r01_Reader_In, [.t 82, .c (.int .i64 0), .c (.int .i64 1024)], none⟩,
  ⟨(some 8), .mov, [.t 83], none⟩]
def c_r20_Decode_r28 : List COper := a_r20_Decode_r28
instance : Reg c_r20_Decode_r28 a_r20_Decode_r28 3 := ⟨rfl, rfl⟩
@[simp] def a_r20_Decode_r29 : List COper := [
  ⟨(some 9), .mov, [.c (.int .i64 0)], none⟩]
def c_r20_Decode_r29 : List COper := a_r20_Decode_r29
instance : Reg c_r20_Decode_r29 a_r20_Decode_r29 1 := ⟨rfl, rfl⟩
@[simp] def a_r20_Decode_r30 : List COper := [
  ⟨(some 84), .mov, [.t 9], none⟩,
  ⟨(some 85), .mov, [.t 8], none⟩,
  ⟨(some 86), .bin .lss, [.t 84, .t 85], none⟩,
  ⟨(some 87), .mov, [.t 86], none⟩,
  ⟨(some 88), .mov, [.t 4], (some (87, true))⟩,
  ⟨(some 89), .call fn_r01_Reader_Good, [.t 88], (some (87, true))⟩,
  ⟨(some 90), .pick, [.t 87, .t 89, .c (.bool false)], none⟩]
def c_r20_Decode_r30 : List COper := a_r20_Decode_r30
instance : Reg c_r20_Decode_r30 a_r20_Decode_r30 7 := ⟨rfl, rfl⟩
@[simp] def a_r20_Decode_r32 : List COper := [
  ⟨(some 93), .faddr 299 1 false, [.t 5], none⟩,
  ⟨(some 94), .load false 1, [.t 93], none⟩,
  ⟨(some 95), .mov, [.t 4], none⟩,
  ⟨(some 96), .call fn_r20_piece, [.t 95], none⟩,
  ⟨(some 97), .bslice 36 1 (.node [.v (.int .i64 0), .v (.int .i64 0), .arr 1 (rep 32 (.v (.int .u8 0))), .v (.string (mkS [])), .v (.slice none 0 0)]) [0], [.t 96], none⟩,
  ⟨(some 98), .app 36 88, [.t 94, .t 97], none⟩,
  ⟨(some 99), .faddr 299 1 false, [.t 5], none⟩,
  ⟨none, .store false 1, [.t 99, .t 98], none⟩]
def c_r20_Decode_r32 : List COper := a_r20_Decode_r32
instance : Reg c_r20_Decode_r32 a_r20_Decode_r32 8 := ⟨rfl, rfl⟩
@[simp] def a_r20_Decode_r31 : List COper := [
  ⟨(some 91), .mov, [.t 9], none⟩,
  ⟨(some 92), .bin .add, [.t 91, .c (.int .i64 1)], none⟩,
  ⟨(some 9), .mov, [.t 92], none⟩]
def c_r20_Decode_r31 : List COper := a_r20_Decode_r31
instance : Reg c_r20_Decode_r31 a_r20_Decode_r31 3 := ⟨rfl, rfl⟩
@[simp] def a_r20_Decode_r33 : List COper := [
  ⟨(some 100), .mov, [.t 4], none⟩,
  ⟨(some 101), .call fn_r01_Reader_End, [.t 100], none⟩,
  ⟨(some 102), .not, [.t 101], none⟩]
def c_r20_Decode_r33 : List COper := a_r20_Decode_r33
instance : Reg c_r20_Decode_r33 a_r20_Decode_r33 3 := ⟨rfl, rfl⟩
@[simp] def a_r20_Decode_r34 : List COper := [
  ⟨(some 103), .build [.v (.int .i64 0), .node [.v (.int .i64 0), .v (.int .i64 0), .v (.int .i64 0), .v (.int .i64 0), .node [.v (.int .i64 0), .v (.int .i64 0), .arr 1 (rep 32 (.v (.int .u8 0))), .arr 1 (rep 32 (.v (.int .u8 0))), .arr 1 (rep 32 (.v (.int .u8 0))), .v (.slice none 0 0)], .v (.int .i64 0), .node [.v (.int .i64 0), .node [.v (.slice none 0 0), .v (.slice none 0 0)], .v (.slice none 0 0)]], .node [.v (.int .i64 0), .v (.int .i64 0), .v (.int .i64 0), .v (.int .i64 0), .arr 1 (rep 32 (.v (.int .u8 0))), .v (.int .i64 0), .node [.v (.int .i64 0), .node [.v (.slice none 0 0), .v (.slice none 0 0)], .v (.slice none 0 0)]], .node [.v (.int .i64 0), .v (.int .i64 0), .node [.v (.int .i64 0), .v (.string (mkS [])), .v (.string (mkS [])), .v (.string (mkS [])), .node [.v (.int .i64 0), .v (.int .i64 0), .v (.int .i64 0), .node [.arr 1 (rep 32 (.v (.int .u8 0))), .v (.int .i64 0)]]]], .node [.v (.int .i64 0), .v (.int .i64 0), .v (.int .i64 0), .v (.slice none 0 0)], .v (.int .i64 0), .node [.v (.int .i64 0), .v (.int .i64 0), .arr 1 (rep 32 (.v (.int .u8 0))), .arr 1 (rep 32 (.v (.int .u8 0))), .arr 1 (rep 32 (.v (.int .u8 0))), .v (.slice none 0 0)], .node [.v (.int .i64 0), .v (.slice none 0 0)], .v (.slice none 0 0), .v (.slice none 0 0)] [], [], none⟩,
  ⟨none, .store true 300, [.t 2, .t 103], none⟩,
  ⟨(some 3), .mov, [.c (.int .i64 4)], none⟩]
def c_r20_Decode_r34 : List COper := a_r20_Decode_r34
instance : Reg c_r20_Decode_r34 a_r20_Decode_r34 3 := ⟨rfl, rfl⟩
@[simp] def a_r20_Decode_r35 : List COper := [
  ⟨(some 104), .load true 300, [.t 5], none⟩,
  ⟨none, .store true 300, [.t 2, .t 104], none⟩,
  ⟨(some 3), .mov, [.c (.int .i64 0)], none⟩]
def c_r20_Decode_r35 : List COper := a_r20_Decode_r35
instance : Reg c_r20_Decode_r35 a_r20_Decode_r35 3 := ⟨rfl, rfl⟩
@[simp] def c_r20_Decode : CCode :=
  .seq (.region c_r20_Decode_r0 none [0, 2]) (.seq (.seq (.region c_r20_Decode_r1 none [0, 2, 12]) (.cond (.t 12) (.seq (.region c_r20_Decode_r2 none [2, 3]) (.ret)) (.skip))) (.seq (.region c_r20_Decode_r3 none [2, 4]) (.seq (.region c_r20_Decode_r4 none [2, 4, 5]) (.seq (.seq (.region c_r20_Decode_r5 none [2, 4, 5, 21]) (.block 0 (.seq (.region c_r20_Decode_r6 none [2, 4, 5, 21, 22]) (.cond (.t 22) (.region c_r20_Decode_r7 none [2, 4, 5]) (.seq (.region c_r20_Decode_r8 none [2, 4, 5, 21, 27]) (.cond (.t 27) (.region c_r20_Decode_r9 none [2, 4, 5]) (.seq (.region c_r20_Decode_r10 none [2, 4, 5, 21, 32]) (.cond (.t 32) (.region c_r20_Decode_r11 none [2, 4, 5]) (.seq (.region c_r20_Decode_r12 none [2, 4, 5, 21, 37]) (.cond (.t 37) (.seq (.region c_r20_Decode_r13 none [2, 4, 5]) (.region c_r20_Decode_r14 none [2, 4, 5])) (.seq (.seq (.region c_r20_Decode_r15 none [2, 4, 5, 21, 45]) (.cond (.t 45) (.skip) (.region c_r20_Decode_r16 none [2, 4, 5, 21, 45]))) (.cond (.t 45) (.seq (.region c_r20_Decode_r17 none [2, 4, 5]) (.region c_r20_Decode_r18 none [2, 4, 5])) (.seq (.region c_r20_Decode_r19 none [2, 4, 5, 21, 54]) (.cond (.t 54) (.region c_r20_Decode_r20 none [2, 4, 5]) (.seq (.region c_r20_Decode_r21 none [2, 4, 5, 59]) (.cond (.t 59) (.seq (.region c_r20_Decode_r22 none [2, 4, 5, 6]) (.seq (.region c_r20_Decode_r23 none [2, 4, 5, 6, 7]) (.block 1 (.loop (.seq (.seq (.region c_r20_Decode_r24 none [2, 4, 5, 6, 7, 69]) (.cond (.t 69) (.skip) (.exit 1))) (.seq (.block 2 (.region c_r20_Decode_r26 (some ([0, 1, 0, 4, 12, 31, 63, 127], [(1, 3), (1, 4)])) [2, 4, 5, 6, 7])) (.region c_r20_Decode_r25 none [2, 4, 5, 6, 7]))))))) (.skip))))))))))))))))) (.seq (.seq (.region c_r20_Decode_r27 none [2, 4, 5, 81]) (.cond (.t 81) (.seq (.region c_r20_Decode_r28 none [2, 4, 5, 8]) (.seq (.region c_r20_Decode_r29 none [2, 4, 5, 8, 9]) (.block 3 (.loop (.seq (.seq (.region c_r20_Decode_r30 none [2, 4, 5, 8, 9, 90]) (.cond (.t 90) (.skip) (.exit 3))) (.seq (.block 4 (.region c_r20_Decode_r32 (some ([0, 1, 0, 4, 12, 31, 63, 127], [(1, 3), (1, 4)])) [2, 4, 5, 8, 9])) (.region c_r20_Decode_r31 none [2, 4, 5, 8, 9]))))))) (.skip))) (.seq (.seq (.region c_r20_Decode_r33 none [2, 5, 102]) (.cond (.t 102) (.seq (.region c_r20_Decode_r34 none [2, 3]) (.ret)) (.skip))) (.seq (.region c_r20_Decode_r35 none [2, 3]) (.ret))))))))
@[simp] def R_r20_Decode : List CRes := [.cell 2 true 300, .tmp 3]
theorem k_r20_Decode : chkFn Try.prog fn_r20_Decode c_r20_Decode R_r20_Decode 1 = true := by kernel_rfl
/-! wapentake/wapentakeref20.Same -/
@[simp] def a_r20_Same_r0 : List COper := [
  ⟨(some 2), .box, [.t 0], none⟩,
  ⟨(some 3), .box, [.t 1], none⟩,
  ⟨(some 4), .mov, [.c (.bool false)], none⟩]
def c_r20_Same_r0 : List COper := a_r20_Same_r0
instance : Reg c_r20_Same_r0 a_r20_Same_r0 3 := ⟨rfl, rfl⟩
@[simp] def a_r20_Same_r1 : List COper := [
  ⟨(some 7), .faddr 0 1 false, [.t 2], none⟩,
  ⟨(some 8), .load false 1, [.t 7], none⟩,
  ⟨(some 9), .faddr 0 1 false, [.t 3], none⟩,
  ⟨(some 10), .load false 1, [.t 9], none⟩,
  ⟨(some 11), .bin .neq, [.t 8, .t 10], none⟩,
  ⟨(some 12), .mov, [.t 11], none⟩,
  ⟨(some 13), .faddr 196 1 false, [.t 2], (some (12, false))⟩,
  ⟨(some 14), .load false 1, [.t 13], (some (12, false))⟩,
  ⟨(some 15), .faddr 196 1 false, [.t 3], (some (12, false))⟩,
  ⟨(some 16), .load false 1, [.t 15], (some (12, false))⟩,
  ⟨(some 17), .bin .neq, [.t 14, .t 16], (some (12, false))⟩,
  ⟨(some 18), .pick, [.t 12, .c (.bool true), .t 17], none⟩,
  ⟨(some 19), .mov, [.t 18], none⟩,
  ⟨(some 20), .faddr 150 42 true, [.t 2], (some (19, false))⟩,
  ⟨(some 21), .load true 42, [.t 20], (some (19, false))⟩,
  ⟨(some 22), .faddr 150 42 true, [.t 3], (some (19, false))⟩,
  ⟨(some 23), .load true 42, [.t 22], (some (19, false))⟩,
  ⟨(some 24), .eqs true (.st [.int .i64, .int .i64, .st [.int .i64, .str, .str, .str, .st [.int .i64, .int .i64, .int .i64, .st [.ints .u8 32, .int .i64]]]]), [.t 21, .t 23], (some (19, false))⟩,
  ⟨(some 25), .pick, [.t 19, .c (.bool true), .t 24], none⟩,
  ⟨(some 26), .mov, [.t 25], none⟩,
  ⟨(some 27), .faddr 192 4 true, [.t 2], (some (26, false))⟩,
  ⟨(some 28), .load true 4, [.t 27], (some (26, false))⟩,
  ⟨(some 29), .faddr 192 4 true, [.t 3], (some (26, false))⟩,
  ⟨(some 30), .load true 4, [.t 29], (some (26, false))⟩,
  ⟨(some 31), .call fn_r09_Same, [.t 28, .t 30], (some (26, false))⟩,
  ⟨(some 32), .not, [.t 31], (some (26, false))⟩,
  ⟨(some 33), .pick, [.t 26, .c (.bool true), .t 32], none⟩,
  ⟨(some 34), .mov, [.t 33], none⟩,
  ⟨(some 35), .faddr 109 41 true, [.t 2], (some (34, false))⟩,
  ⟨(some 36), .load true 41, [.t 35], (some (34, false))⟩,
  ⟨(some 37), .faddr 109 41 true, [.t 3], (some (34, false))⟩,
  ⟨(some 38), .load true 41, [.t 37], (some (34, false))⟩,
  ⟨(some 39), .call fn_r13_Same, [.t 36, .t 38], (some (34, false))⟩,
  ⟨(some 40), .not, [.t 39], (some (34, false))⟩,
  ⟨(some 41), .pick, [.t 34, .c (.bool true), .t 40], none⟩,
  ⟨(some 42), .mov, [.t 41], none⟩,
  ⟨(some 43), .faddr 1 108 true, [.t 2], (some (42, false))⟩,
  ⟨(some 44), .load true 108, [.t 43], (some (42, false))⟩,
  ⟨(some 45), .faddr 1 108 true, [.t 3], (some (42, false))⟩,
  ⟨(some 46), .load true 108, [.t 45], (some (42, false))⟩,
  ⟨(some 47), .call fn_r13_SamePlan, [.t 44, .t 46], (some (42, false))⟩,
  ⟨(some 48), .not, [.t 47], (some (42, false))⟩,
  ⟨(some 49), .pick, [.t 42, .c (.bool true), .t 48], none⟩]
def c_r20_Same_r1 : List COper := a_r20_Same_r1
instance : Reg c_r20_Same_r1 a_r20_Same_r1 43 := ⟨rfl, rfl⟩
@[simp] def a_r20_Same_r2 : List COper := [
  ⟨(some 4), .mov, [.c (.bool false)], none⟩]
def c_r20_Same_r2 : List COper := a_r20_Same_r2
instance : Reg c_r20_Same_r2 a_r20_Same_r2 1 := ⟨rfl, rfl⟩
@[simp] def a_r20_Same_r3 : List COper := [
  ⟨(some 50), .faddr 197 99 true, [.t 2], none⟩,
  ⟨(some 51), .load true 99, [.t 50], none⟩,
  ⟨(some 52), .faddr 197 99 true, [.t 3], none⟩,
  ⟨(some 53), .load true 99, [.t 52], none⟩,
  ⟨(some 54), .call fn_r12_Same, [.t 51, .t 53], none⟩,
  ⟨(some 55), .not, [.t 54], none⟩,
  ⟨(some 56), .mov, [.t 55], none⟩,
  ⟨(some 57), .faddr 296 2 true, [.t 2], (some (56, false))⟩,
  ⟨(some 58), .load true 2, [.t 57], (some (56, false))⟩,
  ⟨(some 59), .faddr 296 2 true, [.t 3], (some (56, false))⟩,
  ⟨(some 60), .load true 2, [.t 59], (some (56, false))⟩,
  ⟨(some 61), .call fn_r14_Same, [.t 58, .t 60], (some (56, false))⟩,
  ⟨(some 62), .not, [.t 61], (some (56, false))⟩,
  ⟨(some 63), .pick, [.t 56, .c (.bool true), .t 62], none⟩,
  ⟨(some 64), .mov, [.t 63], none⟩,
  ⟨(some 65), .faddr 298 1 false, [.t 2], (some (64, false))⟩,
  ⟨(some 66), .load false 1, [.t 65], (some (64, false))⟩,
  ⟨(some 67), .len, [.t 66], (some (64, false))⟩,
  ⟨(some 68), .faddr 298 1 false, [.t 3], (some (64, false))⟩,
  ⟨(some 69), .load false 1, [.t 68], (some (64, false))⟩,
  ⟨(some 70), .len, [.t 69], (some (64, false))⟩,
  ⟨(some 71), .bin .neq, [.t 67, .t 70], (some (64, false))⟩,
  ⟨(some 72), .pick, [.t 64, .c (.bool true), .t 71], none⟩,
  ⟨(some 73), .mov, [.t 72], none⟩,
  ⟨(some 74), .faddr 299 1 false, [.t 2], (some (73, false))⟩,
  ⟨(some 75), .load false 1, [.t 74], (some (73, false))⟩,
  ⟨(some 76), .len, [.t 75], (some (73, false))⟩,
  ⟨(some 77), .faddr 299 1 false, [.t 3], (some (73, false))⟩,
  ⟨(some 78), .load false 1, [.t 77], (some (73, false))⟩,
  ⟨(some 79), .len, [.t 78], (some (73, false))⟩,
  ⟨(some 80), .bin .neq, [.t 76, .t 79], (some (73, false))⟩,
  ⟨(some 81), .pick, [.t 73, .c (.bool true), .t 80], none⟩]
def c_r20_Same_r3 : List COper := a_r20_Same_r3
instance : Reg c_r20_Same_r3 a_r20_Same_r3 32 := ⟨rfl, rfl⟩
@[simp] def a_r20_Same_r4 : List COper := [
  ⟨(some 4), .mov, [.c (.bool false)], none⟩]
def c_r20_Same_r4 : List COper := a_r20_Same_r4
instance : Reg c_r20_Same_r4 a_r20_Same_r4 1 := ⟨rfl, rfl⟩
@[simp] def a_r20_Same_r5 : List COper := [
  ⟨(some 82), .faddr 298 1 false, [.t 2], none⟩,
  ⟨(some 83), .load false 1, [.t 82], none⟩,
  ⟨(some 84), .len, [.t 83], none⟩,
  ⟨(some 85), .mov, [.c (.int .i64 0)], none⟩]
def c_r20_Same_r5 : List COper := a_r20_Same_r5
instance : Reg c_r20_Same_r5 a_r20_Same_r5 4 := ⟨rfl, rfl⟩
@[simp] def a_r20_Same_r6 : List COper := [
  ⟨(some 86), .bin .lss, [.t 85, .t 84], none⟩]
def c_r20_Same_r6 : List COper := a_r20_Same_r6
instance : Reg c_r20_Same_r6 a_r20_Same_r6 1 := ⟨rfl, rfl⟩
@[simp] def a_r20_Same_r7 : List COper := [
  ⟨(some 87), .mov, [.t 85], none⟩,
  ⟨(some 5), .mov, [.t 87], none⟩]
def c_r20_Same_r7 : List COper := a_r20_Same_r7
instance : Reg c_r20_Same_r7 a_r20_Same_r7 2 := ⟨rfl, rfl⟩
@[simp] def a_r20_Same_r8 : List COper := [
  ⟨(some 88), .faddr 298 1 false, [.t 2], none⟩,
  ⟨(some 89), .load false 1, [.t 88], none⟩,
  ⟨(some 90), .mov, [.t 5], none⟩,
  ⟨(some 91), .iaddr 103, [.t 89, .t 90], none⟩,
  ⟨(some 92), .load true 103, [.t 91], none⟩,
  ⟨(some 93), .faddr 298 1 false, [.t 3], none⟩,
  ⟨(some 94), .load false 1, [.t 93], none⟩,
  ⟨(some 95), .mov, [.t 5], none⟩,
  ⟨(some 96), .iaddr 103, [.t 94, .t 95], none⟩,
  ⟨(some 97), .load true 103, [.t 96], none⟩,
  ⟨(some 98), .call fn_r15_Same, [.t 92, .t 97], none⟩,
  ⟨(some 99), .not, [.t 98], none⟩]
def c_r20_Same_r8 : List COper := a_r20_Same_r8
instance : Reg c_r20_Same_r8 a_r20_Same_r8 12 := ⟨rfl, rfl⟩
@[simp] def a_r20_Same_r9 : List COper := [
  ⟨(some 4), .mov, [.c (.bool false)], none⟩]
def c_r20_Same_r9 : List COper := a_r20_Same_r9
instance : Reg c_r20_Same_r9 a_r20_Same_r9 1 := ⟨rfl, rfl⟩
@[simp] def a_r20_Same_r10 : List COper := [
  ⟨(some 100), .bin .add, [.t 85, .c (.int .i64 1)], none⟩,
  ⟨(some 85), .mov, [.t 100], none⟩]
def c_r20_Same_r10 : List COper := a_r20_Same_r10
instance : Reg c_r20_Same_r10 a_r20_Same_r10 2 := ⟨rfl, rfl⟩
@[simp] def a_r20_Same_r11 : List COper := [
  ⟨(some 101), .faddr 299 1 false, [.t 2], none⟩,
  ⟨(some 102), .load false 1, [.t 101], none⟩,
  ⟨(some 103), .len, [.t 102], none⟩,
  ⟨(some 104), .mov, [.c (.int .i64 0)], none⟩]
def c_r20_Same_r11 : List COper := a_r20_Same_r11
instance : Reg c_r20_Same_r11 a_r20_Same_r11 4 := ⟨rfl, rfl⟩
@[simp] def a_r20_Same_r12 : List COper := [
  ⟨(some 105), .bin .lss, [.t 104, .t 103], none⟩]
def c_r20_Same_r12 : List COper := a_r20_Same_r12
instance : Reg c_r20_Same_r12 a_r20_Same_r12 1 := ⟨rfl, rfl⟩
@[simp] def a_r20_Same_r13 : List COper := [
  ⟨(some 106), .mov, [.t 104], none⟩,
  ⟨(some 6), .mov, [.t 106], none⟩]
def c_r20_Same_r13 : List COper := a_r20_Same_r13
instance : Reg c_r20_Same_r13 a_r20_Same_r13 2 := ⟨rfl, rfl⟩
@[simp] def a_r20_Same_r14 : List COper := [
  ⟨(some 107), .faddr 299 1 false, [.t 2], none⟩,
  ⟨(some 108), .load false 1, [.t 107], none⟩,
  ⟨(some 109), .mov, [.t 6], none⟩,
  ⟨(some 110), .iaddr 36, [.t 108, .t 109], none⟩,
  ⟨(some 111), .load true 36, [.t 110], none⟩,
  ⟨(some 112), .faddr 299 1 false, [.t 3], none⟩,
  ⟨(some 113), .load false 1, [.t 112], none⟩,
  ⟨(some 114), .mov, [.t 6], none⟩,
  ⟨(some 115), .iaddr 36, [.t 113, .t 114], none⟩,
  ⟨(some 116), .load true 36, [.t 115], none⟩,
  ⟨(some 117), .call fn_r11_Same, [.t 111, .t 116], none⟩,
  ⟨(some 118), .not, [.t 117], none⟩]
def c_r20_Same_r14 : List COper := a_r20_Same_r14
instance : Reg c_r20_Same_r14 a_r20_Same_r14 12 := ⟨rfl, rfl⟩
@[simp] def a_r20_Same_r15 : List COper := [
  ⟨(some 4), .mov, [.c (.bool false)], none⟩]
def c_r20_Same_r15 : List COper := a_r20_Same_r15
instance : Reg c_r20_Same_r15 a_r20_Same_r15 1 := ⟨rfl, rfl⟩
@[simp] def a_r20_Same_r16 : List COper := [
  ⟨(some 119), .bin .add, [.t 104, .c (.int .i64 1)], none⟩,
  ⟨(some 104), .mov, [.t 119], none⟩]
def c_r20_Same_r16 : List COper := a_r20_Same_r16
instance : Reg c_r20_Same_r16 a_r20_Same_r16 2 := ⟨rfl, rfl⟩
@[simp] def a_r20_Same_r17 : List COper := [
  ⟨(some 4), .mov, [.c (.bool true)], none⟩]
def c_r20_Same_r17 : List COper := a_r20_Same_r17
instance : Reg c_r20_Same_r17 a_r20_Same_r17 1 := ⟨rfl, rfl⟩
@[simp] def c_r20_Same : CCode :=
  .seq (.region c_r20_Same_r0 none [2, 3]) (.seq (.seq (.region c_r20_Same_r1 none [2, 3, 49]) (.cond (.t 49) (.seq (.region c_r20_Same_r2 none [4]) (.ret)) (.skip))) (.seq (.seq (.region c_r20_Same_r3 none [2, 3, 81]) (.cond (.t 81) (.seq (.region c_r20_Same_r4 none [4]) (.ret)) (.skip))) (.seq (.seq (.region c_r20_Same_r5 none [2, 3, 84, 85]) (.block 0 (.loop (.seq (.region c_r20_Same_r6 none [2, 3, 84, 85, 86]) (.seq (.cond (.t 86) (.skip) (.exit 0)) (.seq (.block 1 (.seq (.region c_r20_Same_r7 none [2, 3, 5, 84, 85]) (.seq (.region c_r20_Same_r8 (some ([0, 1, 0, 7, 15, 0, 32, 0, 224, 480, 1023, 2047], [])) [2, 3, 84, 85, 99]) (.cond (.t 99) (.seq (.region c_r20_Same_r9 none [4]) (.ret)) (.skip))))) (.region c_r20_Same_r10 none [2, 3, 84, 85]))))))) (.seq (.seq (.region c_r20_Same_r11 none [2, 3, 103, 104]) (.block 2 (.loop (.seq (.region c_r20_Same_r12 none [2, 3, 103, 104, 105]) (.seq (.cond (.t 105) (.skip) (.exit 2)) (.seq (.block 3 (.seq (.region c_r20_Same_r13 none [2, 3, 6, 103, 104]) (.seq (.region c_r20_Same_r14 (some ([0, 1, 0, 7, 15, 0, 32, 0, 224, 480, 1023, 2047], [])) [2, 3, 103, 104, 118]) (.cond (.t 118) (.seq (.region c_r20_Same_r15 none [4]) (.ret)) (.skip))))) (.region c_r20_Same_r16 none [2, 3, 103, 104]))))))) (.seq (.region c_r20_Same_r17 none [4]) (.ret))))))
@[simp] def R_r20_Same : List CRes := [.tmp 4]
theorem k_r20_Same : chkFn Try.prog fn_r20_Same c_r20_Same R_r20_Same 2 = true := by kernel_rfl
/-! wapentake/wapentakelaw20.great -/
@[simp] def a_l20_great_r0 : List COper := [
  ⟨(some 1), .box, [.t 0], none⟩,
  ⟨(some 2), .mov, [.c (.bool false)], none⟩]
def c_l20_great_r0 : List COper := a_l20_great_r0
instance : Reg c_l20_great_r0 a_l20_great_r0 2 := ⟨rfl, rfl⟩
@[simp] def a_l20_great_r1 : List COper := [
  ⟨(some 13), .faddr 197 99 true, [.t 1], none⟩,
  ⟨(some 14), .load true 99, [.t 13], none⟩,
  ⟨(some 15), .call fn_r12_Great, [.t 14, .c (.int .i64 4096)], none⟩,
  ⟨(some 16), .mov, [.t 15], none⟩,
  ⟨(some 17), .faddr 1 108 true, [.t 1], (some (16, false))⟩,
  ⟨(some 18), .faddr 4 99 true, [.t 17], (some (16, false))⟩,
  ⟨(some 19), .load true 99, [.t 18], (some (16, false))⟩,
  ⟨(some 20), .call fn_r12_Great, [.t 19, .c (.int .i64 4096)], (some (16, false))⟩,
  ⟨(some 21), .pick, [.t 16, .c (.bool true), .t 20], none⟩,
  ⟨(some 22), .mov, [.t 21], none⟩,
  ⟨(some 23), .faddr 296 2 true, [.t 1], (some (22, false))⟩,
  ⟨(some 24), .faddr 1 1 false, [.t 23], (some (22, false))⟩,
  ⟨(some 25), .load false 1, [.t 24], (some (22, false))⟩,
  ⟨(some 26), .len, [.t 25], (some (22, false))⟩,
  ⟨(some 27), .bin .gtr, [.t 26, .c (.int .i64 11)], (some (22, false))⟩,
  ⟨(some 28), .pick, [.t 22, .c (.bool true), .t 27], none⟩,
  ⟨(some 29), .mov, [.t 28], none⟩,
  ⟨(some 30), .faddr 298 1 false, [.t 1], (some (29, false))⟩,
  ⟨(some 31), .load false 1, [.t 30], (some (29, false))⟩,
  ⟨(some 32), .len, [.t 31], (some (29, false))⟩,
  ⟨(some 33), .bin .gtr, [.t 32, .c (.int .i64 3)], (some (29, false))⟩,
  ⟨(some 34), .pick, [.t 29, .c (.bool true), .t 33], none⟩,
  ⟨(some 35), .mov, [.t 34], none⟩,
  ⟨(some 36), .faddr 299 1 false, [.t 1], (some (35, false))⟩,
  ⟨(some 37), .load false 1, [.t 36], (some (35, false))⟩,
  ⟨(some 38), .len, [.t 37], (some (35, false))⟩,
  ⟨(some 39), .bin .gtr, [.t 38, .c (.int .i64 40)], (some (35, false))⟩,
  ⟨(some 40), .pick, [.t 35, .c (.bool true), .t 39], none⟩,
  ⟨(some 41), .mov, [.t 40], none⟩,
  ⟨(some 42), .faddr 192 4 true, [.t 1], (some (41, false))⟩,
  ⟨(some 43), .faddr 3 1 false, [.t 42], (some (41, false))⟩,
  ⟨(some 44), .load false 1, [.t 43], (some (41, false))⟩,
  ⟨(some 45), .len, [.t 44], (some (41, false))⟩,
  ⟨(some 46), .bin .gtr, [.t 45, .c (.int .i64 400)], (some (41, false))⟩,
  ⟨(some 47), .pick, [.t 41, .c (.bool true), .t 46], none⟩]
def c_l20_great_r1 : List COper := a_l20_great_r1
instance : Reg c_l20_great_r1 a_l20_great_r1 35 := ⟨rfl, rfl⟩
@[simp] def a_l20_great_r2 : List COper := [
  ⟨(some 2), .mov, [.c (.bool true)], none⟩]
def c_l20_great_r2 : List COper := a_l20_great_r2
instance : Reg c_l20_great_r2 a_l20_great_r2 1 := ⟨rfl, rfl⟩
@[simp] def a_l20_great_r3 : List COper := [
  ⟨(some 48), .faddr 109 41 true, [.t 1], none⟩,
  ⟨(some 49), .load true 41, [.t 48], none⟩,
  ⟨(some 50), .faddr 1 108 true, [.t 1], none⟩,
  ⟨(some 51), .faddr 104 4 true, [.t 50], none⟩,
  ⟨(some 52), .load true 4, [.t 51], none⟩,
  ⟨(some 53), .build [.v (.int .i64 0), .v (.int .i64 0), .v (.int .i64 0), .v (.int .i64 0), .arr 1 (rep 32 (.v (.int .u8 0))), .v (.int .i64 0), .node [.v (.int .i64 0), .node [.v (.slice none 0 0), .v (.slice none 0 0)], .v (.slice none 0 0)]] [6], [.t 52], none⟩,
  ⟨(some 54), .bslice 41 2 (.node [.v (.int .i64 0), .v (.int .i64 0), .v (.int .i64 0), .v (.int .i64 0), .arr 1 (rep 32 (.v (.int .u8 0))), .v (.int .i64 0), .node [.v (.int .i64 0), .node [.v (.slice none 0 0), .v (.slice none 0 0)], .v (.slice none 0 0)]]) [0, 1], [.t 49, .t 53], none⟩,
  ⟨(some 55), .faddr 296 2 true, [.t 1], none⟩,
  ⟨(some 56), .faddr 1 1 false, [.t 55], none⟩,
  ⟨(some 57), .load false 1, [.t 56], none⟩,
  ⟨(some 58), .app 41 152, [.t 54, .t 57], none⟩,
  ⟨(some 3), .mov, [.t 58], none⟩]
def c_l20_great_r3 : List COper := a_l20_great_r3
instance : Reg c_l20_great_r3 a_l20_great_r3 12 := ⟨rfl, rfl⟩
@[simp] def a_l20_great_r4 : List COper := [
  ⟨(some 59), .faddr 298 1 false, [.t 1], none⟩,
  ⟨(some 60), .load false 1, [.t 59], none⟩,
  ⟨(some 61), .len, [.t 60], none⟩,
  ⟨(some 62), .mov, [.c (.int .i64 0)], none⟩]
def c_l20_great_r4 : List COper := a_l20_great_r4
instance : Reg c_l20_great_r4 a_l20_great_r4 4 := ⟨rfl, rfl⟩
@[simp] def a_l20_great_r5 : List COper := [
  ⟨(some 63), .bin .lss, [.t 62, .t 61], none⟩]
def c_l20_great_r5 : List COper := a_l20_great_r5
instance : Reg c_l20_great_r5 a_l20_great_r5 1 := ⟨rfl, rfl⟩
@[simp] def a_l20_great_r6 : List COper := [
  ⟨(some 64), .iaddr 103, [.t 60, .t 62], none⟩,
  ⟨(some 65), .load true 103, [.t 64], none⟩,
  ⟨(some 5), .alloc (.node [.node [.v (.int .i64 0), .v (.int .i64 0), .arr 1 (rep 32 (.v (.int .u8 0))), .arr 1 (rep 32 (.v (.int .u8 0))), .arr 1 (rep 32 (.v (.int .u8 0))), .v (.slice none 0 0)], .node [.v (.int .i64 0), .v (.slice none 0 0)], .node [.v (.int .i64 0), .v (.slice none 0 0)]]), [], none⟩,
  ⟨none, .store true 103, [.t 5, .t 65], none⟩]
def c_l20_great_r6 : List COper := a_l20_great_r6
instance : Reg c_l20_great_r6 a_l20_great_r6 4 := ⟨rfl, rfl⟩
@[simp] def a_l20_great_r7 : List COper := [
  ⟨(some 66), .faddr 99 2 true, [.t 5], none⟩,
  ⟨(some 67), .faddr 1 1 false, [.t 66], none⟩,
  ⟨(some 68), .load false 1, [.t 67], none⟩,
  ⟨(some 69), .len, [.t 68], none⟩,
  ⟨(some 70), .bin .gtr, [.t 69, .c (.int .i64 11)], none⟩,
  ⟨(some 71), .mov, [.t 70], none⟩,
  ⟨(some 72), .faddr 101 2 true, [.t 5], (some (71, false))⟩,
  ⟨(some 73), .faddr 1 1 false, [.t 72], (some (71, false))⟩,
  ⟨(some 74), .load false 1, [.t 73], (some (71, false))⟩,
  ⟨(some 75), .len, [.t 74], (some (71, false))⟩,
  ⟨(some 76), .bin .gtr, [.t 75, .c (.int .i64 20)], (some (71, false))⟩,
  ⟨(some 77), .pick, [.t 71, .c (.bool true), .t 76], none⟩,
  ⟨(some 78), .mov, [.t 77], none⟩,
  ⟨(some 79), .faddr 0 99 true, [.t 5], (some (78, false))⟩,
  ⟨(some 80), .load true 99, [.t 79], (some (78, false))⟩,
  ⟨(some 81), .call fn_r12_Great, [.t 80, .c (.int .i64 4096)], (some (78, false))⟩,
  ⟨(some 82), .pick, [.t 78, .c (.bool true), .t 81], none⟩]
def c_l20_great_r7 : List COper := a_l20_great_r7
instance : Reg c_l20_great_r7 a_l20_great_r7 17 := ⟨rfl, rfl⟩
@[simp] def a_l20_great_r8 : List COper := [
  ⟨(some 2), .mov, [.c (.bool true)], none⟩]
def c_l20_great_r8 : List COper := a_l20_great_r8
instance : Reg c_l20_great_r8 a_l20_great_r8 1 := ⟨rfl, rfl⟩
@[simp] def a_l20_great_r9 : List COper := [
  ⟨(some 83), .mov, [.t 3], none⟩,
  ⟨(some 84), .faddr 99 2 true, [.t 5], none⟩,
  ⟨(some 85), .faddr 1 1 false, [.t 84], none⟩,
  ⟨(some 86), .load false 1, [.t 85], none⟩,
  ⟨(some 87), .app 41 152, [.t 83, .t 86], none⟩,
  ⟨(some 3), .mov, [.t 87], none⟩]
def c_l20_great_r9 : List COper := a_l20_great_r9
instance : Reg c_l20_great_r9 a_l20_great_r9 6 := ⟨rfl, rfl⟩
@[simp] def a_l20_great_r10 : List COper := [
  ⟨(some 88), .bin .add, [.t 62, .c (.int .i64 1)], none⟩,
  ⟨(some 62), .mov, [.t 88], none⟩]
def c_l20_great_r10 : List COper := a_l20_great_r10
instance : Reg c_l20_great_r10 a_l20_great_r10 2 := ⟨rfl, rfl⟩
@[simp] def a_l20_great_r11 : List COper := [
  ⟨(some 89), .mov, [.t 3], none⟩,
  ⟨(some 90), .len, [.t 89], none⟩,
  ⟨(some 91), .mov, [.c (.int .i64 0)], none⟩]
def c_l20_great_r11 : List COper := a_l20_great_r11
instance : Reg c_l20_great_r11 a_l20_great_r11 3 := ⟨rfl, rfl⟩
@[simp] def a_l20_great_r12 : List COper := [
  ⟨(some 92), .bin .lss, [.t 91, .t 90], none⟩]
def c_l20_great_r12 : List COper := a_l20_great_r12
instance : Reg c_l20_great_r12 a_l20_great_r12 1 := ⟨rfl, rfl⟩
@[simp] def a_l20_great_r13 : List COper := [
  ⟨(some 93), .iaddr 41, [.t 89, .t 91], none⟩,
  ⟨(some 94), .load true 41, [.t 93], none⟩,
  ⟨(some 7), .alloc (.node [.v (.int .i64 0), .v (.int .i64 0), .v (.int .i64 0), .v (.int .i64 0), .arr 1 (rep 32 (.v (.int .u8 0))), .v (.int .i64 0), .node [.v (.int .i64 0), .node [.v (.slice none 0 0), .v (.slice none 0 0)], .v (.slice none 0 0)]]), [], none⟩,
  ⟨none, .store true 41, [.t 7, .t 94], none⟩]
def c_l20_great_r13 : List COper := a_l20_great_r13
instance : Reg c_l20_great_r13 a_l20_great_r13 4 := ⟨rfl, rfl⟩
@[simp] def a_l20_great_r14 : List COper := [
  ⟨(some 95), .faddr 37 4 true, [.t 7], none⟩,
  ⟨(some 96), .faddr 1 2 true, [.t 95], none⟩,
  ⟨(some 97), .faddr 0 1 false, [.t 96], none⟩,
  ⟨(some 98), .load false 1, [.t 97], none⟩,
  ⟨(some 99), .len, [.t 98], none⟩,
  ⟨(some 100), .bin .gtr, [.t 99, .c (.int .i64 200)], none⟩,
  ⟨(some 101), .mov, [.t 100], none⟩,
  ⟨(some 102), .faddr 37 4 true, [.t 7], (some (101, false))⟩,
  ⟨(some 103), .faddr 1 2 true, [.t 102], (some (101, false))⟩,
  ⟨(some 104), .faddr 1 1 false, [.t 103], (some (101, false))⟩,
  ⟨(some 105), .load false 1, [.t 104], (some (101, false))⟩,
  ⟨(some 106), .len, [.t 105], (some (101, false))⟩,
  ⟨(some 107), .bin .gtr, [.t 106, .c (.int .i64 200)], (some (101, false))⟩,
  ⟨(some 108), .pick, [.t 101, .c (.bool true), .t 107], none⟩,
  ⟨(some 109), .mov, [.t 108], none⟩,
  ⟨(some 110), .faddr 37 4 true, [.t 7], (some (109, false))⟩,
  ⟨(some 111), .faddr 3 1 false, [.t 110], (some (109, false))⟩,
  ⟨(some 112), .load false 1, [.t 111], (some (109, false))⟩,
  ⟨(some 113), .len, [.t 112], (some (109, false))⟩,
  ⟨(some 114), .bin .gtr, [.t 113, .c (.int .i64 200)], (some (109, false))⟩,
  ⟨(some 115), .pick, [.t 109, .c (.bool true), .t 114], none⟩]
def c_l20_great_r14 : List COper := a_l20_great_r14
instance : Reg c_l20_great_r14 a_l20_great_r14 21 := ⟨rfl, rfl⟩
@[simp] def a_l20_great_r15 : List COper := [
  ⟨(some 2), .mov, [.c (.bool true)], none⟩]
def c_l20_great_r15 : List COper := a_l20_great_r15
instance : Reg c_l20_great_r15 a_l20_great_r15 1 := ⟨rfl, rfl⟩
@[simp] def a_l20_great_r16 : List COper := [
  ⟨(some 116), .bin .add, [.t 91, .c (.int .i64 1)], none⟩,
  ⟨(some 91), .mov, [.t 116], none⟩]
def c_l20_great_r16 : List COper := a_l20_great_r16
instance : Reg c_l20_great_r16 a_l20_great_r16 2 := ⟨rfl, rfl⟩
@[simp] def a_l20_great_r17 : List COper := [
  ⟨(some 117), .faddr 150 42 true, [.t 1], none⟩,
  ⟨(some 118), .faddr 2 40 true, [.t 117], none⟩,
  ⟨(some 119), .faddr 1 1 false, [.t 118], none⟩,
  ⟨(some 120), .load false 1, [.t 119], none⟩,
  ⟨(some 121), .lenS, [.t 120], none⟩,
  ⟨(some 122), .faddr 150 42 true, [.t 1], none⟩,
  ⟨(some 123), .faddr 2 40 true, [.t 122], none⟩,
  ⟨(some 124), .faddr 2 1 false, [.t 123], none⟩,
  ⟨(some 125), .load false 1, [.t 124], none⟩,
  ⟨(some 126), .lenS, [.t 125], none⟩,
  ⟨(some 127), .bin .add, [.t 121, .t 126], none⟩,
  ⟨(some 128), .faddr 150 42 true, [.t 1], none⟩,
  ⟨(some 129), .faddr 2 40 true, [.t 128], none⟩,
  ⟨(some 130), .faddr 3 1 false, [.t 129], none⟩,
  ⟨(some 131), .load false 1, [.t 130], none⟩,
  ⟨(some 132), .lenS, [.t 131], none⟩,
  ⟨(some 133), .bin .add, [.t 127, .t 132], none⟩,
  ⟨(some 8), .mov, [.t 133], none⟩]
def c_l20_great_r17 : List COper := a_l20_great_r17
instance : Reg c_l20_great_r17 a_l20_great_r17 18 := ⟨rfl, rfl⟩
@[simp] def a_l20_great_r18 : List COper := [
  ⟨(some 134), .faddr 192 4 true, [.t 1], none⟩,
  ⟨(some 135), .faddr 3 1 false, [.t 134], none⟩,
  ⟨(some 136), .load false 1, [.t 135], none⟩,
  ⟨(some 137), .len, [.t 136], none⟩,
  ⟨(some 138), .mov, [.c (.int .i64 0)], none⟩]
def c_l20_great_r18 : List COper := a_l20_great_r18
instance : Reg c_l20_great_r18 a_l20_great_r18 5 := ⟨rfl, rfl⟩
@[simp] def a_l20_great_r19 : List COper := [
  ⟨(some 139), .bin .lss, [.t 138, .t 137], none⟩]
def c_l20_great_r19 : List COper := a_l20_great_r19
instance : Reg c_l20_great_r19 a_l20_great_r19 1 := ⟨rfl, rfl⟩
@[simp] def a_l20_great_r20 : List COper := [
  ⟨(some 140), .iaddr 1, [.t 136, .t 138], none⟩,
  ⟨(some 141), .load false 1, [.t 140], none⟩,
  ⟨(some 10), .mov, [.t 141], none⟩]
def c_l20_great_r20 : List COper := a_l20_great_r20
instance : Reg c_l20_great_r20 a_l20_great_r20 3 := ⟨rfl, rfl⟩
@[simp] def a_l20_great_r21 : List COper := [
  ⟨(some 142), .mov, [.t 8], none⟩,
  ⟨(some 143), .mov, [.t 10], none⟩,
  ⟨(some 144), .lenS, [.t 143], none⟩,
  ⟨(some 145), .bin .add, [.t 142, .t 144], none⟩,
  ⟨(some 8), .mov, [.t 145], none⟩]
def c_l20_great_r21 : List COper := a_l20_great_r21
instance : Reg c_l20_great_r21 a_l20_great_r21 5 := ⟨rfl, rfl⟩
@[simp] def a_l20_great_r22 : List COper := [
  ⟨(some 146), .mov, [.t 8], none⟩,
  ⟨(some 147), .bin .gtr, [.t 146, .c (.int .i64 16384)], none⟩]
def c_l20_great_r22 : List COper := a_l20_great_r22
instance : Reg c_l20_great_r22 a_l20_great_r22 2 := ⟨rfl, rfl⟩
@[simp] def a_l20_great_r23 : List COper := [
  ⟨(some 2), .mov, [.c (.bool true)], none⟩]
def c_l20_great_r23 : List COper := a_l20_great_r23
instance : Reg c_l20_great_r23 a_l20_great_r23 1 := ⟨rfl, rfl⟩
@[simp] def a_l20_great_r24 : List COper := [
  ⟨(some 148), .bin .add, [.t 138, .c (.int .i64 1)], none⟩,
  ⟨(some 138), .mov, [.t 148], none⟩]
def c_l20_great_r24 : List COper := a_l20_great_r24
instance : Reg c_l20_great_r24 a_l20_great_r24 2 := ⟨rfl, rfl⟩
@[simp] def a_l20_great_r25 : List COper := [
  ⟨(some 149), .faddr 299 1 false, [.t 1], none⟩,
  ⟨(some 150), .load false 1, [.t 149], none⟩,
  ⟨(some 151), .len, [.t 150], none⟩,
  ⟨(some 152), .mov, [.c (.int .i64 0)], none⟩]
def c_l20_great_r25 : List COper := a_l20_great_r25
instance : Reg c_l20_great_r25 a_l20_great_r25 4 := ⟨rfl, rfl⟩
@[simp] def a_l20_great_r26 : List COper := [
  ⟨(some 153), .bin .lss, [.t 152, .t 151], none⟩]
def c_l20_great_r26 : List COper := a_l20_great_r26
instance : Reg c_l20_great_r26 a_l20_great_r26 1 := ⟨rfl, rfl⟩
@[simp] def a_l20_great_r27 : List COper := [
  ⟨(some 154), .iaddr 36, [.t 150, .t 152], none⟩,
  ⟨(some 155), .load true 36, [.t 154], none⟩,
  ⟨(some 12), .alloc (.node [.v (.int .i64 0), .v (.int .i64 0), .arr 1 (rep 32 (.v (.int .u8 0))), .v (.string (mkS [])), .v (.slice none 0 0)]), [], none⟩,
  ⟨none, .store true 36, [.t 12, .t 155], none⟩]
def c_l20_great_r27 : List COper := a_l20_great_r27
instance : Reg c_l20_great_r27 a_l20_great_r27 4 := ⟨rfl, rfl⟩
@[simp] def a_l20_great_r28 : List COper := [
  ⟨(some 156), .mov, [.t 8], none⟩,
  ⟨(some 157), .faddr 34 1 false, [.t 12], none⟩,
  ⟨(some 158), .load false 1, [.t 157], none⟩,
  ⟨(some 159), .lenS, [.t 158], none⟩,
  ⟨(some 160), .faddr 35 1 false, [.t 12], none⟩,
  ⟨(some 161), .load false 1, [.t 160], none⟩,
  ⟨(some 162), .len, [.t 161], none⟩,
  ⟨(some 163), .bin .mul, [.c (.int .i64 32), .t 162], none⟩,
  ⟨(some 164), .bin .add, [.t 159, .t 163], none⟩,
  ⟨(some 165), .bin .add, [.t 156, .t 164], none⟩,
  ⟨(some 8), .mov, [.t 165], none⟩]
def c_l20_great_r28 : List COper := a_l20_great_r28
instance : Reg c_l20_great_r28 a_l20_great_r28 11 := ⟨rfl, rfl⟩
@[simp] def a_l20_great_r29 : List COper := [
  ⟨(some 166), .mov, [.t 8], none⟩,
  ⟨(some 167), .bin .gtr, [.t 166, .c (.int .i64 16384)], none⟩]
def c_l20_great_r29 : List COper := a_l20_great_r29
instance : Reg c_l20_great_r29 a_l20_great_r29 2 := ⟨rfl, rfl⟩
@[simp] def a_l20_great_r30 : List COper := [
  ⟨(some 2), .mov, [.c (.bool true)], none⟩]
def c_l20_great_r30 : List COper := a_l20_great_r30
instance : Reg c_l20_great_r30 a_l20_great_r30 1 := ⟨rfl, rfl⟩
@[simp] def a_l20_great_r31 : List COper := [
  ⟨(some 168), .bin .add, [.t 152, .c (.int .i64 1)], none⟩,
  ⟨(some 152), .mov, [.t 168], none⟩]
def c_l20_great_r31 : List COper := a_l20_great_r31
instance : Reg c_l20_great_r31 a_l20_great_r31 2 := ⟨rfl, rfl⟩
@[simp] def a_l20_great_r32 : List COper := [
  ⟨(some 169), .mov, [.t 8], none⟩,
  ⟨(some 170), .bin .gtr, [.t 169, .c (.int .i64 16384)], none⟩,
  ⟨(some 2), .mov, [.t 170], none⟩]
def c_l20_great_r32 : List COper := a_l20_great_r32
instance : Reg c_l20_great_r32 a_l20_great_r32 3 := ⟨rfl, rfl⟩
@[simp] def c_l20_great : CCode :=
  .seq (.region c_l20_great_r0 none [1]) (.seq (.seq (.region c_l20_great_r1 none [1, 47]) (.cond (.t 47) (.seq (.region c_l20_great_r2 none [2]) (.ret)) (.skip))) (.seq (.region c_l20_great_r3 none [1, 3]) (.seq (.seq (.region c_l20_great_r4 none [1, 3, 60, 61, 62]) (.block 0 (.loop (.seq (.region c_l20_great_r5 none [1, 3, 60, 61, 62, 63]) (.seq (.cond (.t 63) (.skip) (.exit 0)) (.seq (.block 1 (.seq (.region c_l20_great_r6 none [1, 3, 5, 60, 61, 62]) (.seq (.seq (.region c_l20_great_r7 none [1, 3, 5, 60, 61, 62, 82]) (.cond (.t 82) (.seq (.region c_l20_great_r8 none [2]) (.ret)) (.skip))) (.region c_l20_great_r9 none [1, 3, 60, 61, 62])))) (.region c_l20_great_r10 none [1, 3, 60, 61, 62]))))))) (.seq (.seq (.region c_l20_great_r11 none [1, 89, 90, 91]) (.block 2 (.loop (.seq (.region c_l20_great_r12 none [1, 89, 90, 91, 92]) (.seq (.cond (.t 92) (.skip) (.exit 2)) (.seq (.block 3 (.seq (.region c_l20_great_r13 none [1, 7, 89, 90, 91]) (.seq (.region c_l20_great_r14 none [1, 89, 90, 91, 115]) (.cond (.t 115) (.seq (.region c_l20_great_r15 none [2]) (.ret)) (.skip))))) (.region c_l20_great_r16 none [1, 89, 90, 91]))))))) (.seq (.region c_l20_great_r17 none [1, 8]) (.seq (.seq (.region c_l20_great_r18 none [1, 8, 136, 137, 138]) (.block 4 (.loop (.seq (.region c_l20_great_r19 none [1, 8, 136, 137, 138, 139]) (.seq (.cond (.t 139) (.skip) (.exit 4)) (.seq (.block 5 (.seq (.region c_l20_great_r20 none [1, 8, 10, 136, 137, 138]) (.seq (.region c_l20_great_r21 none [1, 8, 136, 137, 138]) (.seq (.region c_l20_great_r22 none [1, 8, 136, 137, 138, 147]) (.cond (.t 147) (.seq (.region c_l20_great_r23 none [2]) (.ret)) (.skip)))))) (.region c_l20_great_r24 none [1, 8, 136, 137, 138]))))))) (.seq (.seq (.region c_l20_great_r25 none [8, 150, 151, 152]) (.block 6 (.loop (.seq (.region c_l20_great_r26 none [8, 150, 151, 152, 153]) (.seq (.cond (.t 153) (.skip) (.exit 6)) (.seq (.block 7 (.seq (.region c_l20_great_r27 none [8, 12, 150, 151, 152]) (.seq (.region c_l20_great_r28 none [8, 150, 151, 152]) (.seq (.region c_l20_great_r29 none [8, 150, 151, 152, 167]) (.cond (.t 167) (.seq (.region c_l20_great_r30 none [2]) (.ret)) (.skip)))))) (.region c_l20_great_r31 none [8, 150, 151, 152]))))))) (.seq (.region c_l20_great_r32 none [2]) (.ret)))))))))
@[simp] def R_l20_great : List CRes := [.tmp 2]
theorem k_l20_great : chkFn Try.prog fn_l20_great c_l20_great R_l20_great 1 = true := by kernel_rfl
/-! wapentake/mail.Encode -/
@[simp] def a_mail_Encode_r0 : List COper := [
  ⟨(some 1), .box, [.t 0], none⟩,
  ⟨(some 2), .mov, [.c (.slice none 0 0)], none⟩,
  ⟨(some 3), .mov, [.c (.int .i64 0)], none⟩]
def c_mail_Encode_r0 : List COper := a_mail_Encode_r0
instance : Reg c_mail_Encode_r0 a_mail_Encode_r0 3 := ⟨rfl, rfl⟩
@[simp] def a_mail_Encode_r1 : List COper := [
  ⟨(some 8), .build [.v (.slice none 0 0)] [], [], none⟩,
  ⟨(some 9), .box, [.t 8], none⟩,
  ⟨(some 4), .mov, [.t 9], none⟩]
def c_mail_Encode_r1 : List COper := a_mail_Encode_r1
instance : Reg c_mail_Encode_r1 a_mail_Encode_r1 3 := ⟨rfl, rfl⟩
@[simp] def a_mail_Encode_r2 : List COper := [
  ⟨(some 10), .mov, [.t 4], none⟩,
  ⟨(some 11), .faddr 0 1 false, [.t 1], none⟩,
  ⟨(some 12), .load false 1, [.t 11], none⟩,
  ⟨(some 13), .bslice 1 1 (.v (.int .i64 0)) [0], [.t 12], none⟩,
  ⟨(some 14), .call fn_code_Writer_Num, [.t 10, .t 13], none⟩]
def c_mail_Encode_r2 : List COper := a_mail_Encode_r2
instance : Reg c_mail_Encode_r2 a_mail_Encode_r2 5 := ⟨rfl, rfl⟩
@[simp] def a_mail_Encode_r3 : List COper := [
  ⟨(some 15), .mov, [.t 4], none⟩,
  ⟨(some 16), .load true 300, [.t 1], none⟩,
  ⟨(some 17), .call fn_mail_body, [.t 15, .t 16], none⟩,
  ⟨(some 18), .not, [.t 17], none⟩]
def c_mail_Encode_r3 : List COper := a_mail_Encode_r3
instance : Reg c_mail_Encode_r3 a_mail_Encode_r3 4 := ⟨rfl, rfl⟩
@[simp] def a_mail_Encode_r4 : List COper := [
  ⟨(some 2), .mov, [.c (.slice none 0 0)], none⟩,
  ⟨(some 3), .mov, [.c (.int .i64 1)], none⟩]
def c_mail_Encode_r4 : List COper := a_mail_Encode_r4
instance : Reg c_mail_Encode_r4 a_mail_Encode_r4 2 := ⟨rfl, rfl⟩
@[simp] def a_mail_Encode_r5 : List COper := [
  ⟨(some 19), .mov, [.t 4], none⟩,
  ⟨(some 20), .call fn_code_Writer_Bytes, [.t 19], none⟩,
  ⟨(some 5), .mov, [.t 20], none⟩]
def c_mail_Encode_r5 : List COper := a_mail_Encode_r5
instance : Reg c_mail_Encode_r5 a_mail_Encode_r5 3 := ⟨rfl, rfl⟩
@[simp] def a_mail_Encode_r6 : List COper := [
  ⟨(some 21), .mov, [.t 5], none⟩,
  ⟨(some 22), .len, [.t 21], none⟩,
  ⟨(some 23), .bin .gtr, [.t 22, .c (.int .i64 262144)], none⟩]
def c_mail_Encode_r6 : List COper := a_mail_Encode_r6
instance : Reg c_mail_Encode_r6 a_mail_Encode_r6 3 := ⟨rfl, rfl⟩
@[simp] def a_mail_Encode_r7 : List COper := [
  ⟨(some 2), .mov, [.c (.slice none 0 0)], none⟩,
  ⟨(some 3), .mov, [.c (.int .i64 3)], none⟩]
def c_mail_Encode_r7 : List COper := a_mail_Encode_r7
instance : Reg c_mail_Encode_r7 a_mail_Encode_r7 2 := ⟨rfl, rfl⟩
@[simp] def a_mail_Encode_r8 : List COper := [
  ⟨(some 25), .mov, [.t 5], none⟩,
  ⟨(some 26), .call fn_mail_Decode, [.t 25], none⟩,
  ⟨(some 24), .mov, [.t 26], none⟩,
  ⟨(some 27), .ext 0, [.t 24], none⟩,
  ⟨(some 28), .ext 1, [.t 24], none⟩,
  ⟨(some 6), .alloc (.node [.v (.int .i64 0), .node [.v (.int .i64 0), .v (.int .i64 0), .v (.int .i64 0), .v (.int .i64 0), .node [.v (.int .i64 0), .v (.int .i64 0), .arr 1 (rep 32 (.v (.int .u8 0))), .arr 1 (rep 32 (.v (.int .u8 0))), .arr 1 (rep 32 (.v (.int .u8 0))), .v (.slice none 0 0)], .v (.int .i64 0), .node [.v (.int .i64 0), .node [.v (.slice none 0 0), .v (.slice none 0 0)], .v (.slice none 0 0)]], .node [.v (.int .i64 0), .v (.int .i64 0), .v (.int .i64 0), .v (.int .i64 0), .arr 1 (rep 32 (.v (.int .u8 0))), .v (.int .i64 0), .node [.v (.int .i64 0), .node [.v (.slice none 0 0), .v (.slice none 0 0)], .v (.slice none 0 0)]], .node [.v (.int .i64 0), .v (.int .i64 0), .node [.v (.int .i64 0), .v (.string (mkS [])), .v (.string (mkS [])), .v (.string (mkS [])), .node [.v (.int .i64 0), .v (.int .i64 0), .v (.int .i64 0), .node [.arr 1 (rep 32 (.v (.int .u8 0))), .v (.int .i64 0)]]]], .node [.v (.int .i64 0), .v (.int .i64 0), .v (.int .i64 0), .v (.slice none 0 0)], .v (.int .i64 0), .node [.v (.int .i64 0), .v (.int .i64 0), .arr 1 (rep 32 (.v (.int .u8 0))), .arr 1 (rep 32 (.v (.int .u8 0))), .arr 1 (rep 32 (.v (.int .u8 0))), .v (.slice none 0 0)], .node [.v (.int .i64 0), .v (.slice none 0 0)], .v (.slice none 0 0), .v (.slice none 0 0)]), [], none⟩,
  ⟨none, .store true 300, [.t 6, .t 27], none⟩,
  ⟨(some 7), .mov, [.t 28], none⟩]
def c_mail_Encode_r8 : List COper := a_mail_Encode_r8
instance : Reg c_mail_Encode_r8 a_mail_Encode_r8 8 := ⟨rfl, rfl⟩
@[simp] def a_mail_Encode_r9 : List COper := [
  ⟨(some 29), .mov, [.t 7], none⟩,
  ⟨(some 30), .bin .neq, [.t 29, .c (.int .i64 0)], none⟩]
def c_mail_Encode_r9 : List COper := a_mail_Encode_r9
instance : Reg c_mail_Encode_r9 a_mail_Encode_r9 2 := ⟨rfl, rfl⟩
@[simp] def a_mail_Encode_r10 : List COper := [
  ⟨(some 2), .mov, [.c (.slice none 0 0)], none⟩,
  ⟨(some 3), .mov, [.c (.int .i64 1)], none⟩]
def c_mail_Encode_r10 : List COper := a_mail_Encode_r10
instance : Reg c_mail_Encode_r10 a_mail_Encode_r10 2 := ⟨rfl, rfl⟩
@[simp] def a_mail_Encode_r11 : List COper := [
  ⟨(some 31), .mov, [.t 5], none⟩,
  ⟨(some 2), .mov, [.t 31], none⟩,
  ⟨(some 3), .mov, [.c (.int .i64 0)], none⟩]
def c_mail_Encode_r11 : List COper := a_mail_Encode_r11
instance : Reg c_mail_Encode_r11 a_mail_Encode_r11 3 := ⟨rfl, rfl⟩
@[simp] def c_mail_Encode : CCode :=
  .seq (.region c_mail_Encode_r0 none [1]) (.seq (.region c_mail_Encode_r1 none [1, 4]) (.seq (.region c_mail_Encode_r2 none [1, 4]) (.seq (.seq (.region c_mail_Encode_r3 none [4, 18]) (.cond (.t 18) (.seq (.region c_mail_Encode_r4 none [2, 3]) (.ret)) (.skip))) (.seq (.region c_mail_Encode_r5 none [5]) (.seq (.seq (.region c_mail_Encode_r6 none [5, 23]) (.cond (.t 23) (.seq (.region c_mail_Encode_r7 none [2, 3]) (.ret)) (.skip))) (.seq (.seq (.region c_mail_Encode_r8 none [5, 7]) (.seq (.region c_mail_Encode_r9 none [5, 30]) (.cond (.t 30) (.seq (.region c_mail_Encode_r10 none [2, 3]) (.ret)) (.skip)))) (.seq (.region c_mail_Encode_r11 none [2, 3]) (.ret))))))))
@[simp] def R_mail_Encode : List CRes := [.tmp 2, .tmp 3]
theorem k_mail_Encode : chkFn Try.prog fn_mail_Encode c_mail_Encode R_mail_Encode 1 = true := by kernel_rfl
/-! wapentake/code.Read -/
@[simp] def a_code_Read_r0 : List COper := [
  ⟨(some 2), .mov, [.c (.pointer none)], none⟩]
def c_code_Read_r0 : List COper := a_code_Read_r0
instance : Reg c_code_Read_r0 a_code_Read_r0 1 := ⟨rfl, rfl⟩
@[simp] def a_code_Read_r1 : List COper := [
  ⟨(some 3), .bslice 1 0 (.v (.int .u8 0)) [], [], none⟩,
  ⟨(some 4), .mov, [.t 0], none⟩,
  ⟨(some 5), .app 1 1, [.t 3, .t 4], none⟩,
  ⟨(some 6), .build [.v (.slice none 0 0), .v (.bool false)] [0], [.t 5], none⟩,
  ⟨(some 7), .box, [.t 6], none⟩,
  ⟨(some 2), .mov, [.t 7], none⟩]
def c_code_Read_r1 : List COper := a_code_Read_r1
instance : Reg c_code_Read_r1 a_code_Read_r1 6 := ⟨rfl, rfl⟩
@[simp] def c_code_Read : CCode :=
  .seq (.region c_code_Read_r0 none [0]) (.seq (.region c_code_Read_r1 none [2]) (.ret))
@[simp] def R_code_Read : List CRes := [.tmp 2]
theorem k_code_Read : chkFn Try.prog fn_code_Read c_code_Read R_code_Read 1 = true := by kernel_rfl
/-! (*wapentake/code.Reader).In -/
@[simp] def a_code_Reader_In_r0 : List COper := [
  ⟨(some 6), .mov, [.c (.int .i64 0)], none⟩]
def c_code_Reader_In_r0 : List COper := a_code_Reader_In_r0
instance : Reg c_code_Reader_In_r0 a_code_Reader_In_r0 1 := ⟨rfl, rfl⟩
@[simp] def a_code_Reader_In_r1 : List COper := [
  ⟨(some 8), .mov, [.t 0], none⟩,
  ⟨(some 9), .call fn_code_Reader_Num, [.t 8], none⟩,
  ⟨(some 7), .mov, [.t 9], none⟩]
def c_code_Reader_In_r1 : List COper := a_code_Reader_In_r1
instance : Reg c_code_Reader_In_r1 a_code_Reader_In_r1 3 := ⟨rfl, rfl⟩
@[simp] def a_code_Reader_In_r2 : List COper := [
  ⟨(some 10), .mov, [.t 0], none⟩,
  ⟨(some 11), .eqp false, [.t 10, .c (.pointer none)], none⟩,
  ⟨(some 12), .mov, [.t 11], none⟩,
  ⟨(some 13), .mov, [.t 7], (some (12, false))⟩,
  ⟨(some 14), .mov, [.t 1], (some (12, false))⟩,
  ⟨(some 15), .bin .geq, [.t 13, .t 14], (some (12, false))⟩,
  ⟨(some 16), .mov, [.t 15], (some (12, false))⟩,
  ⟨(some 17), .mov, [.t 7], (some (16, true))⟩,
  ⟨(some 18), .mov, [.t 2], (some (16, true))⟩,
  ⟨(some 19), .bin .leq, [.t 17, .t 18], (some (16, true))⟩,
  ⟨(some 20), .pick, [.t 16, .t 19, .c (.bool false)], (some (12, false))⟩,
  ⟨(some 21), .mov, [.t 20], (some (12, false))⟩,
  ⟨(some 22), .mov, [.t 0], (some (21, true))⟩,
  ⟨(some 23), .nilc, [.t 22], (some (21, true))⟩,
  ⟨(some 24), .faddr 1 1 false, [.t 23], (some (21, true))⟩,
  ⟨(some 25), .load false 1, [.t 24], (some (21, true))⟩,
  ⟨(some 26), .not, [.t 25], (some (21, true))⟩,
  ⟨(some 27), .pick, [.t 21, .t 26, .c (.bool false)], (some (12, false))⟩,
  ⟨(some 28), .pick, [.t 12, .c (.bool true), .t 27], none⟩]
def c_code_Reader_In_r2 : List COper := a_code_Reader_In_r2
instance : Reg c_code_Reader_In_r2 a_code_Reader_In_r2 19 := ⟨rfl, rfl⟩
@[simp] def a_code_Reader_In_r3 : List COper := [
  ⟨(some 29), .mov, [.t 7], none⟩,
  ⟨(some 6), .mov, [.t 29], none⟩]
def c_code_Reader_In_r3 : List COper := a_code_Reader_In_r3
instance : Reg c_code_Reader_In_r3 a_code_Reader_In_r3 2 := ⟨rfl, rfl⟩
@[simp] def a_code_Reader_In_r4 : List COper := [
  ⟨(some 30), .mov, [.t 0], none⟩,
  ⟨(some 31), .mov, [.t 0], none⟩,
  ⟨(some 32), .nilc, [.t 30], none⟩,
  ⟨(some 33), .faddr 1 1 false, [.t 32], none⟩,
  ⟨none, .store false 1, [.t 33, .c (.bool true)], none⟩,
  ⟨(some 34), .nilc, [.t 31], none⟩,
  ⟨(some 35), .faddr 0 1 false, [.t 34], none⟩,
  ⟨none, .store false 1, [.t 35, .c (.slice none 0 0)], none⟩]
def c_code_Reader_In_r4 : List COper := a_code_Reader_In_r4
instance : Reg c_code_Reader_In_r4 a_code_Reader_In_r4 8 := ⟨rfl, rfl⟩
@[simp] def a_code_Reader_In_r5 : List COper := [
  ⟨(some 6), .mov, [.c (.int .i64 0)], none⟩]
def c_code_Reader_In_r5 : List COper := a_code_Reader_In_r5
instance : Reg c_code_Reader_In_r5 a_code_Reader_In_r5 1 := ⟨rfl, rfl⟩
@[simp] def c_code_Reader_In : CCode :=
  .seq (.region c_code_Reader_In_r0 none [0, 1, 2]) (.seq (.region c_code_Reader_In_r1 none [0, 1, 2, 7]) (.seq (.seq (.region c_code_Reader_In_r2 none [0, 7, 28]) (.cond (.t 28) (.seq (.region c_code_Reader_In_r3 none [6]) (.ret)) (.skip))) (.seq (.region c_code_Reader_In_r4 none []) (.seq (.region c_code_Reader_In_r5 none [6]) (.ret)))))
@[simp] def R_code_Reader_In : List CRes := [.tmp 6]
theorem k_code_Reader_In : chkFn Try.prog fn_code_Reader_In c_code_Reader_In R_code_Reader_In 3 = true := by kernel_rfl
/-! wapentake/vote.ReadPlan -/
@[simp] def a_vote_ReadPlan_r0 : List COper := [
  ⟨(some 2), .alloc (.node [.v (.int .i64 0), .v (.int .i64 0), .v (.int .i64 0), .v (.int .i64 0), .node [.v (.int .i64 0), .v (.int .i64 0), .arr 1 (rep 32 (.v (.int .u8 0))), .arr 1 (rep 32 (.v (.int .u8 0))), .arr 1 (rep 32 (.v (.int .u8 0))), .v (.slice none 0 0)], .v (.int .i64 0), .node [.v (.int .i64 0), .node [.v (.slice none 0 0), .v (.slice none 0 0)], .v (.slice none 0 0)]]), [], none⟩]
def c_vote_ReadPlan_r0 : List COper := a_vote_ReadPlan_r0
instance : Reg c_vote_ReadPlan_r0 a_vote_ReadPlan_r0 1 := ⟨rfl, rfl⟩
@[simp] def a_vote_ReadPlan_r1 : List COper := [
  ⟨(some 4), .mov, [.t 0], none⟩,
  ⟨(some 5), .call fn_code_Reader_In, [.t 4, .c (.int .i64 0), .c (.int .i64 1073741824)], none⟩,
  ⟨(some 6), .mov, [.t 0], none⟩,
  ⟨(some 7), .call fn_code_Reader_In, [.t 6, .c (.int .i64 1), .c (.int .i64 1024)], none⟩,
  ⟨(some 8), .mov, [.t 0], none⟩,
  ⟨(some 9), .call fn_code_Reader_In, [.t 8, .c (.int .i64 0), .c (.int .i64 1024)], none⟩,
  ⟨(some 10), .build [.v (.int .i64 0), .v (.int .i64 0), .v (.int .i64 0), .v (.int .i64 0), .node [.v (.int .i64 0), .v (.int .i64 0), .arr 1 (rep 32 (.v (.int .u8 0))), .arr 1 (rep 32 (.v (.int .u8 0))), .arr 1 (rep 32 (.v (.int .u8 0))), .v (.slice none 0 0)], .v (.int .i64 0), .node [.v (.int .i64 0), .node [.v (.slice none 0 0), .v (.slice none 0 0)], .v (.slice none 0 0)]] [0, 1, 2], [.t 5, .t 7, .t 9], none⟩,
  ⟨(some 3), .alloc (.node [.v (.int .i64 0), .v (.int .i64 0), .v (.int .i64 0), .v (.int .i64 0), .node [.v (.int .i64 0), .v (.int .i64 0), .arr 1 (rep 32 (.v (.int .u8 0))), .arr 1 (rep 32 (.v (.int .u8 0))), .arr 1 (rep 32 (.v (.int .u8 0))), .v (.slice none 0 0)], .v (.int .i64 0), .node [.v (.int .i64 0), .node [.v (.slice none 0 0), .v (.slice none 0 0)], .v (.slice none 0 0)]]), [], none⟩,
  ⟨none, .store true 108, [.t 3, .t 10], none⟩]
def c_vote_ReadPlan_r1 : List COper := a_vote_ReadPlan_r1
instance : Reg c_vote_ReadPlan_r1 a_vote_ReadPlan_r1 9 := ⟨rfl, rfl⟩
@[simp] def a_vote_ReadPlan_r2 : List COper := [
  ⟨(some 11), .mov, [.t 0], none⟩,
  ⟨(some 12), .faddr 2 1 false, [.t 3], none⟩,
  ⟨(some 13), .load false 1, [.t 12], none⟩,
  ⟨(some 14), .bin .sub, [.t 13, .c (.int .i64 1)], none⟩,
  ⟨(some 15), .call fn_code_Reader_In, [.t 11, .c (.int .i64 (-1)), .t 14], none⟩,
  ⟨(some 16), .faddr 3 1 false, [.t 3], none⟩,
  ⟨none, .store false 1, [.t 16, .t 15], none⟩]
def c_vote_ReadPlan_r2 : List COper := a_vote_ReadPlan_r2
instance : Reg c_vote_ReadPlan_r2 a_vote_ReadPlan_r2 7 := ⟨rfl, rfl⟩
@[simp] def a_vote_ReadPlan_r3 : List COper := [
  ⟨(some 17), .mov, [.t 0], none⟩,
  ⟨(some 18), .call fn_code_Reader_In, [.t 17, .c (.int .i64 1), .c (.int .i64 63)], none⟩,
  ⟨(some 19), .faddr 103 1 false, [.t 3], none⟩,
  ⟨none, .store false 1, [.t 19, .t 18], none⟩]
def c_vote_ReadPlan_r3 : List COper := a_vote_ReadPlan_r3
instance : Reg c_vote_ReadPlan_r3 a_vote_ReadPlan_r3 4 := ⟨rfl, rfl⟩
@[simp] def a_vote_ReadPlan_r4 : List COper := [
  ⟨(some 20), .mov, [.t 0], none⟩,
  ⟨(some 21), .call fn_block_Read, [.t 20], none⟩,
  ⟨(some 22), .faddr 4 99 true, [.t 3], none⟩,
  ⟨none, .store true 99, [.t 22, .t 21], none⟩]
def c_vote_ReadPlan_r4 : List COper := a_vote_ReadPlan_r4
instance : Reg c_vote_ReadPlan_r4 a_vote_ReadPlan_r4 4 := ⟨rfl, rfl⟩
@[simp] def a_vote_ReadPlan_r5 : List COper := [
  ⟨(some 23), .mov, [.t 0], none⟩,
  ⟨(some 24), .call fn_keys_Read, [.t 23], none⟩,
  ⟨(some 25), .faddr 104 4 true, [.t 3], none⟩,
  ⟨none, .store true 4, [.t 25, .t 24], none⟩]
def c_vote_ReadPlan_r5 : List COper := a_vote_ReadPlan_r5
instance : Reg c_vote_ReadPlan_r5 a_vote_ReadPlan_r5 4 := ⟨rfl, rfl⟩
@[simp] def a_vote_ReadPlan_r6 : List COper := [
  ⟨(some 26), .mov, [.t 0], none⟩,
  ⟨(some 27), .call fn_code_Reader_Good, [.t 26], none⟩,
  ⟨(some 28), .not, [.t 27], none⟩]
def c_vote_ReadPlan_r6 : List COper := a_vote_ReadPlan_r6
instance : Reg c_vote_ReadPlan_r6 a_vote_ReadPlan_r6 3 := ⟨rfl, rfl⟩
@[simp] def a_vote_ReadPlan_r7 : List COper := [
  ⟨(some 29), .build [.v (.int .i64 0), .v (.int .i64 0), .v (.int .i64 0), .v (.int .i64 0), .node [.v (.int .i64 0), .v (.int .i64 0), .arr 1 (rep 32 (.v (.int .u8 0))), .arr 1 (rep 32 (.v (.int .u8 0))), .arr 1 (rep 32 (.v (.int .u8 0))), .v (.slice none 0 0)], .v (.int .i64 0), .node [.v (.int .i64 0), .node [.v (.slice none 0 0), .v (.slice none 0 0)], .v (.slice none 0 0)]] [], [], none⟩,
  ⟨none, .store true 108, [.t 2, .t 29], none⟩]
def c_vote_ReadPlan_r7 : List COper := a_vote_ReadPlan_r7
instance : Reg c_vote_ReadPlan_r7 a_vote_ReadPlan_r7 2 := ⟨rfl, rfl⟩
@[simp] def a_vote_ReadPlan_r8 : List COper := [
  ⟨(some 30), .load true 108, [.t 3], none⟩,
  ⟨none, .store true 108, [.t 2, .t 30], none⟩]
def c_vote_ReadPlan_r8 : List COper := a_vote_ReadPlan_r8
instance : Reg c_vote_ReadPlan_r8 a_vote_ReadPlan_r8 2 := ⟨rfl, rfl⟩
@[simp] def c_vote_ReadPlan : CCode :=
  .seq (.region c_vote_ReadPlan_r0 none [0, 2]) (.seq (.region c_vote_ReadPlan_r1 none [0, 2, 3]) (.seq (.region c_vote_ReadPlan_r2 none [0, 2, 3]) (.seq (.region c_vote_ReadPlan_r3 none [0, 2, 3]) (.seq (.region c_vote_ReadPlan_r4 none [0, 2, 3]) (.seq (.region c_vote_ReadPlan_r5 none [0, 2, 3]) (.seq (.seq (.region c_vote_ReadPlan_r6 none [2, 3, 28]) (.cond (.t 28) (.seq (.region c_vote_ReadPlan_r7 none [2]) (.ret)) (.skip))) (.seq (.region c_vote_ReadPlan_r8 none [2]) (.ret))))))))
@[simp] def R_vote_ReadPlan : List CRes := [.cell 2 true 108]
theorem k_vote_ReadPlan : chkFn Try.prog fn_vote_ReadPlan c_vote_ReadPlan R_vote_ReadPlan 1 = true := by kernel_rfl
/-! wapentake/vote.Read -/
@[simp] def a_vote_Read_r0 : List COper := [
  ⟨(some 2), .alloc (.node [.v (.int .i64 0), .v (.int .i64 0), .v (.int .i64 0), .v (.int .i64 0), .arr 1 (rep 32 (.v (.int .u8 0))), .v (.int .i64 0), .node [.v (.int .i64 0), .node [.v (.slice none 0 0), .v (.slice none 0 0)], .v (.slice none 0 0)]]), [], none⟩]
def c_vote_Read_r0 : List COper := a_vote_Read_r0
instance : Reg c_vote_Read_r0 a_vote_Read_r0 1 := ⟨rfl, rfl⟩
@[simp] def a_vote_Read_r1 : List COper := [
  ⟨(some 4), .mov, [.t 0], none⟩,
  ⟨(some 5), .call fn_code_Reader_In, [.t 4, .c (.int .i64 1), .c (.int .i64 2)], none⟩,
  ⟨(some 6), .mov, [.t 0], none⟩,
  ⟨(some 7), .call fn_code_Reader_In, [.t 6, .c (.int .i64 0), .c (.int .i64 1073741824)], none⟩,
  ⟨(some 8), .mov, [.t 0], none⟩,
  ⟨(some 9), .call fn_code_Reader_In, [.t 8, .c (.int .i64 1), .c (.int .i64 1024)], none⟩,
  ⟨(some 10), .mov, [.t 0], none⟩,
  ⟨(some 11), .call fn_code_Reader_In, [.t 10, .c (.int .i64 0), .c (.int .i64 1024)], none⟩,
  ⟨(some 12), .mov, [.t 0], none⟩,
  ⟨(some 13), .call fn_code_Reader_In, [.t 12, .c (.int .i64 1), .c (.int .i64 63)], none⟩,
  ⟨(some 14), .mov, [.t 0], none⟩,
  ⟨(some 15), .call fn_code_Reader_Digest, [.t 14], none⟩,
  ⟨(some 16), .build [.v (.int .i64 0), .v (.int .i64 0), .v (.int .i64 0), .v (.int .i64 0), .arr 1 (rep 32 (.v (.int .u8 0))), .v (.int .i64 0), .node [.v (.int .i64 0), .node [.v (.slice none 0 0), .v (.slice none 0 0)], .v (.slice none 0 0)]] [0, 1, 2, 3, 5, 4], [.t 5, .t 7, .t 9, .t 11, .t 13, .t 15], none⟩,
  ⟨(some 3), .alloc (.node [.v (.int .i64 0), .v (.int .i64 0), .v (.int .i64 0), .v (.int .i64 0), .arr 1 (rep 32 (.v (.int .u8 0))), .v (.int .i64 0), .node [.v (.int .i64 0), .node [.v (.slice none 0 0), .v (.slice none 0 0)], .v (.slice none 0 0)]]), [], none⟩,
  ⟨none, .store true 41, [.t 3, .t 16], none⟩]
def c_vote_Read_r1 : List COper := a_vote_Read_r1
instance : Reg c_vote_Read_r1 a_vote_Read_r1 15 := ⟨rfl, rfl⟩
@[simp] def a_vote_Read_r2 : List COper := [
  ⟨(some 17), .mov, [.t 0], none⟩,
  ⟨(some 18), .call fn_keys_Read, [.t 17], none⟩,
  ⟨(some 19), .faddr 37 4 true, [.t 3], none⟩,
  ⟨none, .store true 4, [.t 19, .t 18], none⟩]
def c_vote_Read_r2 : List COper := a_vote_Read_r2
instance : Reg c_vote_Read_r2 a_vote_Read_r2 4 := ⟨rfl, rfl⟩
@[simp] def a_vote_Read_r3 : List COper := [
  ⟨(some 20), .mov, [.t 0], none⟩,
  ⟨(some 21), .call fn_code_Reader_Good, [.t 20], none⟩,
  ⟨(some 22), .not, [.t 21], none⟩]
def c_vote_Read_r3 : List COper := a_vote_Read_r3
instance : Reg c_vote_Read_r3 a_vote_Read_r3 3 := ⟨rfl, rfl⟩
@[simp] def a_vote_Read_r4 : List COper := [
  ⟨(some 23), .build [.v (.int .i64 0), .v (.int .i64 0), .v (.int .i64 0), .v (.int .i64 0), .arr 1 (rep 32 (.v (.int .u8 0))), .v (.int .i64 0), .node [.v (.int .i64 0), .node [.v (.slice none 0 0), .v (.slice none 0 0)], .v (.slice none 0 0)]] [], [], none⟩,
  ⟨none, .store true 41, [.t 2, .t 23], none⟩]
def c_vote_Read_r4 : List COper := a_vote_Read_r4
instance : Reg c_vote_Read_r4 a_vote_Read_r4 2 := ⟨rfl, rfl⟩
@[simp] def a_vote_Read_r5 : List COper := [
  ⟨(some 24), .load true 41, [.t 3], none⟩,
  ⟨none, .store true 41, [.t 2, .t 24], none⟩]
def c_vote_Read_r5 : List COper := a_vote_Read_r5
instance : Reg c_vote_Read_r5 a_vote_Read_r5 2 := ⟨rfl, rfl⟩
@[simp] def c_vote_Read : CCode :=
  .seq (.region c_vote_Read_r0 none [0, 2]) (.seq (.region c_vote_Read_r1 none [0, 2, 3]) (.seq (.region c_vote_Read_r2 none [0, 2, 3]) (.seq (.seq (.region c_vote_Read_r3 none [2, 3, 22]) (.cond (.t 22) (.seq (.region c_vote_Read_r4 none [2]) (.ret)) (.skip))) (.seq (.region c_vote_Read_r5 none [2]) (.ret)))))
@[simp] def R_vote_Read : List CRes := [.cell 2 true 41]
theorem k_vote_Read : chkFn Try.prog fn_vote_Read c_vote_Read R_vote_Read 1 = true := by kernel_rfl
/-! wapentake/request.Read -/
@[simp] def a_request_Read_r0 : List COper := [
  ⟨(some 2), .alloc (.node [.v (.int .i64 0), .v (.int .i64 0), .node [.v (.int .i64 0), .v (.string (mkS [])), .v (.string (mkS [])), .v (.string (mkS [])), .node [.v (.int .i64 0), .v (.int .i64 0), .v (.int .i64 0), .node [.arr 1 (rep 32 (.v (.int .u8 0))), .v (.int .i64 0)]]]]), [], none⟩]
def c_request_Read_r0 : List COper := a_request_Read_r0
instance : Reg c_request_Read_r0 a_request_Read_r0 1 := ⟨rfl, rfl⟩
@[simp] def a_request_Read_r1 : List COper := [
  ⟨(some 4), .mov, [.t 0], none⟩,
  ⟨(some 5), .call fn_code_Reader_In, [.t 4, .c (.int .i64 1), .c (.int .i64 64)], none⟩,
  ⟨(some 6), .mov, [.t 0], none⟩,
  ⟨(some 7), .call fn_code_Reader_In, [.t 6, .c (.int .i64 1), .c (.int .i64 1099511627776)], none⟩,
  ⟨(some 8), .build [.v (.int .i64 0), .v (.int .i64 0), .node [.v (.int .i64 0), .v (.string (mkS [])), .v (.string (mkS [])), .v (.string (mkS [])), .node [.v (.int .i64 0), .v (.int .i64 0), .v (.int .i64 0), .node [.arr 1 (rep 32 (.v (.int .u8 0))), .v (.int .i64 0)]]]] [0, 1], [.t 5, .t 7], none⟩,
  ⟨(some 3), .alloc (.node [.v (.int .i64 0), .v (.int .i64 0), .node [.v (.int .i64 0), .v (.string (mkS [])), .v (.string (mkS [])), .v (.string (mkS [])), .node [.v (.int .i64 0), .v (.int .i64 0), .v (.int .i64 0), .node [.arr 1 (rep 32 (.v (.int .u8 0))), .v (.int .i64 0)]]]]), [], none⟩,
  ⟨none, .store true 42, [.t 3, .t 8], none⟩]
def c_request_Read_r1 : List COper := a_request_Read_r1
instance : Reg c_request_Read_r1 a_request_Read_r1 7 := ⟨rfl, rfl⟩
@[simp] def a_request_Read_r2 : List COper := [
  ⟨(some 9), .mov, [.t 0], none⟩,
  ⟨(some 10), .call fn_code_Reader_In, [.t 9, .c (.int .i64 1), .c (.int .i64 7)], none⟩,
  ⟨(some 11), .faddr 2 40 true, [.t 3], none⟩,
  ⟨(some 12), .faddr 0 1 false, [.t 11], none⟩,
  ⟨none, .store false 1, [.t 12, .t 10], none⟩]
def c_request_Read_r2 : List COper := a_request_Read_r2
instance : Reg c_request_Read_r2 a_request_Read_r2 5 := ⟨rfl, rfl⟩
@[simp] def a_request_Read_r3 : List COper := [
  ⟨(some 13), .mov, [.t 0], none⟩,
  ⟨(some 14), .call fn_code_Reader_Text, [.t 13, .c (.int .i64 1024)], none⟩,
  ⟨(some 15), .mov, [.t 0], none⟩,
  ⟨(some 16), .call fn_code_Reader_Text, [.t 15, .c (.int .i64 1024)], none⟩,
  ⟨(some 17), .mov, [.t 0], none⟩,
  ⟨(some 18), .call fn_code_Reader_Text, [.t 17, .c (.int .i64 1024)], none⟩,
  ⟨(some 19), .faddr 2 40 true, [.t 3], none⟩,
  ⟨(some 20), .faddr 1 1 false, [.t 19], none⟩,
  ⟨none, .store false 1, [.t 20, .t 14], none⟩,
  ⟨(some 21), .faddr 2 40 true, [.t 3], none⟩,
  ⟨(some 22), .faddr 2 1 false, [.t 21], none⟩,
  ⟨none, .store false 1, [.t 22, .t 16], none⟩,
  ⟨(some 23), .faddr 2 40 true, [.t 3], none⟩,
  ⟨(some 24), .faddr 3 1 false, [.t 23], none⟩,
  ⟨none, .store false 1, [.t 24, .t 18], none⟩]
def c_request_Read_r3 : List COper := a_request_Read_r3
instance : Reg c_request_Read_r3 a_request_Read_r3 15 := ⟨rfl, rfl⟩
@[simp] def a_request_Read_r4 : List COper := [
  ⟨(some 25), .mov, [.t 0], none⟩,
  ⟨(some 26), .call fn_code_Reader_Num, [.t 25], none⟩,
  ⟨(some 27), .mov, [.t 0], none⟩,
  ⟨(some 28), .call fn_code_Reader_Num, [.t 27], none⟩,
  ⟨(some 29), .mov, [.t 0], none⟩,
  ⟨(some 30), .call fn_code_Reader_Num, [.t 29], none⟩,
  ⟨(some 31), .mov, [.t 0], none⟩,
  ⟨(some 32), .call fn_code_Reader_Num, [.t 31], none⟩,
  ⟨(some 33), .build [.arr 1 (rep 32 (.v (.int .u8 0))), .v (.int .i64 0)] [1], [.t 32], none⟩,
  ⟨(some 34), .build [.v (.int .i64 0), .v (.int .i64 0), .v (.int .i64 0), .node [.arr 1 (rep 32 (.v (.int .u8 0))), .v (.int .i64 0)]] [0, 1, 2, 3], [.t 26, .t 28, .t 30, .t 33], none⟩,
  ⟨(some 35), .faddr 2 40 true, [.t 3], none⟩,
  ⟨(some 36), .faddr 4 36 true, [.t 35], none⟩,
  ⟨none, .store true 36, [.t 36, .t 34], none⟩]
def c_request_Read_r4 : List COper := a_request_Read_r4
instance : Reg c_request_Read_r4 a_request_Read_r4 13 := ⟨rfl, rfl⟩
@[simp] def a_request_Read_r5 : List COper := [
  ⟨(some 37), .mov, [.t 0], none⟩,
  ⟨(some 38), .call fn_code_Reader_Digest, [.t 37], none⟩,
  ⟨(some 39), .faddr 2 40 true, [.t 3], none⟩,
  ⟨(some 40), .faddr 4 36 true, [.t 39], none⟩,
  ⟨(some 41), .faddr 3 33 true, [.t 40], none⟩,
  ⟨(some 42), .faddr 0 32 true, [.t 41], none⟩,
  ⟨none, .store true 32, [.t 42, .t 38], none⟩]
def c_request_Read_r5 : List COper := a_request_Read_r5
instance : Reg c_request_Read_r5 a_request_Read_r5 7 := ⟨rfl, rfl⟩
@[simp] def a_request_Read_r6 : List COper := [
  ⟨(some 43), .mov, [.t 0], none⟩,
  ⟨(some 44), .call fn_code_Reader_Good, [.t 43], none⟩,
  ⟨(some 45), .not, [.t 44], none⟩]
def c_request_Read_r6 : List COper := a_request_Read_r6
instance : Reg c_request_Read_r6 a_request_Read_r6 3 := ⟨rfl, rfl⟩
@[simp] def a_request_Read_r7 : List COper := [
  ⟨(some 46), .build [.v (.int .i64 0), .v (.int .i64 0), .node [.v (.int .i64 0), .v (.string (mkS [])), .v (.string (mkS [])), .v (.string (mkS [])), .node [.v (.int .i64 0), .v (.int .i64 0), .v (.int .i64 0), .node [.arr 1 (rep 32 (.v (.int .u8 0))), .v (.int .i64 0)]]]] [], [], none⟩,
  ⟨none, .store true 42, [.t 2, .t 46], none⟩]
def c_request_Read_r7 : List COper := a_request_Read_r7
instance : Reg c_request_Read_r7 a_request_Read_r7 2 := ⟨rfl, rfl⟩
@[simp] def a_request_Read_r8 : List COper := [
  ⟨(some 47), .load true 42, [.t 3], none⟩,
  ⟨none, .store true 42, [.t 2, .t 47], none⟩]
def c_request_Read_r8 : List COper := a_request_Read_r8
instance : Reg c_request_Read_r8 a_request_Read_r8 2 := ⟨rfl, rfl⟩
@[simp] def c_request_Read : CCode :=
  .seq (.region c_request_Read_r0 none [0, 2]) (.seq (.region c_request_Read_r1 none [0, 2, 3]) (.seq (.region c_request_Read_r2 none [0, 2, 3]) (.seq (.region c_request_Read_r3 none [0, 2, 3]) (.seq (.region c_request_Read_r4 none [0, 2, 3]) (.seq (.region c_request_Read_r5 none [0, 2, 3]) (.seq (.seq (.region c_request_Read_r6 none [2, 3, 45]) (.cond (.t 45) (.seq (.region c_request_Read_r7 none [2]) (.ret)) (.skip))) (.seq (.region c_request_Read_r8 none [2]) (.ret))))))))
@[simp] def R_request_Read : List CRes := [.cell 2 true 42]
theorem k_request_Read : chkFn Try.prog fn_request_Read c_request_Read R_request_Read 1 = true := by kernel_rfl
/-! wapentake/request.ReadReply -/
@[simp] def a_request_ReadReply_r0 : List COper := [
  ⟨(some 2), .alloc (.node [.v (.int .i64 0), .v (.int .i64 0), .v (.int .i64 0), .v (.slice none 0 0)]), [], none⟩]
def c_request_ReadReply_r0 : List COper := a_request_ReadReply_r0
instance : Reg c_request_ReadReply_r0 a_request_ReadReply_r0 1 := ⟨rfl, rfl⟩
@[simp] def a_request_ReadReply_r1 : List COper := [
  ⟨(some 4), .mov, [.t 0], none⟩,
  ⟨(some 5), .call fn_code_Reader_In, [.t 4, .c (.int .i64 1), .c (.int .i64 64)], none⟩,
  ⟨(some 6), .mov, [.t 0], none⟩,
  ⟨(some 7), .call fn_code_Reader_In, [.t 6, .c (.int .i64 1), .c (.int .i64 1099511627776)], none⟩,
  ⟨(some 8), .mov, [.t 0], none⟩,
  ⟨(some 9), .call fn_code_Reader_In, [.t 8, .c (.int .i64 0), .c (.int .i64 1024)], none⟩,
  ⟨(some 10), .build [.v (.int .i64 0), .v (.int .i64 0), .v (.int .i64 0), .v (.slice none 0 0)] [0, 1, 2], [.t 5, .t 7, .t 9], none⟩,
  ⟨(some 3), .alloc (.node [.v (.int .i64 0), .v (.int .i64 0), .v (.int .i64 0), .v (.slice none 0 0)]), [], none⟩,
  ⟨none, .store true 4, [.t 3, .t 10], none⟩]
def c_request_ReadReply_r1 : List COper := a_request_ReadReply_r1
instance : Reg c_request_ReadReply_r1 a_request_ReadReply_r1 9 := ⟨rfl, rfl⟩
@[simp] def a_request_ReadReply_r2 : List COper := [
  ⟨(some 11), .mov, [.t 0], none⟩,
  ⟨(some 12), .call fn_code_Reader_In, [.t 11, .c (.int .i64 0), .c (.int .i64 256)], none⟩,
  ⟨(some 13), .mov, [.c (.int .i64 0)], none⟩]
def c_request_ReadReply_r2 : List COper := a_request_ReadReply_r2
instance : Reg c_request_ReadReply_r2 a_request_ReadReply_r2 3 := ⟨rfl, rfl⟩
@[simp] def a_request_ReadReply_r3 : List COper := [
  ⟨(some 14), .bin .lss, [.t 13, .t 12], none⟩]
def c_request_ReadReply_r3 : List COper := a_request_ReadReply_r3
instance : Reg c_request_ReadReply_r3 a_request_ReadReply_r3 1 := ⟨rfl, rfl⟩
@[simp] def a_request_ReadReply_r4 : List COper := [
  ⟨(some 15), .faddr 3 1 false, [.t 3], none⟩,
  ⟨(some 16), .load false 1, [.t 15], none⟩,
  ⟨(some 17), .mov, [.t 0], none⟩,
  ⟨(some 18), .call fn_code_Reader_Text, [.t 17, .c (.int .i64 1024)], none⟩,
  ⟨(some 19), .bslice 1 1 (.v (.string (mkS []))) [0], [.t 18], none⟩,
  ⟨(some 20), .app 1 16, [.t 16, .t 19], none⟩,
  ⟨(some 21), .faddr 3 1 false, [.t 3], none⟩,
  ⟨none, .store false 1, [.t 21, .t 20], none⟩]
def c_request_ReadReply_r4 : List COper := a_request_ReadReply_r4
instance : Reg c_request_ReadReply_r4 a_request_ReadReply_r4 8 := ⟨rfl, rfl⟩
@[simp] def a_request_ReadReply_r5 : List COper := [
  ⟨(some 22), .bin .add, [.t 13, .c (.int .i64 1)], none⟩,
  ⟨(some 13), .mov, [.t 22], none⟩]
def c_request_ReadReply_r5 : List COper := a_request_ReadReply_r5
instance : Reg c_request_ReadReply_r5 a_request_ReadReply_r5 2 := ⟨rfl, rfl⟩
@[simp] def a_request_ReadReply_r6 : List COper := [
  ⟨(some 23), .mov, [.t 0], none⟩,
  ⟨(some 24), .call fn_code_Reader_Good, [.t 23], none⟩,
  ⟨(some 25), .not, [.t 24], none⟩]
def c_request_ReadReply_r6 : List COper := a_request_ReadReply_r6
instance : Reg c_request_ReadReply_r6 a_request_ReadReply_r6 3 := ⟨rfl, rfl⟩
@[simp] def a_request_ReadReply_r7 : List COper := [
  ⟨(some 26), .build [.v (.int .i64 0), .v (.int .i64 0), .v (.int .i64 0), .v (.slice none 0 0)] [], [], none⟩,
  ⟨none, .store true 4, [.t 2, .t 26], none⟩]
def c_request_ReadReply_r7 : List COper := a_request_ReadReply_r7
instance : Reg c_request_ReadReply_r7 a_request_ReadReply_r7 2 := ⟨rfl, rfl⟩
@[simp] def a_request_ReadReply_r8 : List COper := [
  ⟨(some 27), .load true 4, [.t 3], none⟩,
  ⟨none, .store true 4, [.t 2, .t 27], none⟩]
def c_request_ReadReply_r8 : List COper := a_request_ReadReply_r8
instance : Reg c_request_ReadReply_r8 a_request_ReadReply_r8 2 := ⟨rfl, rfl⟩
@[simp] def c_request_ReadReply : CCode :=
  .seq (.region c_request_ReadReply_r0 none [0, 2]) (.seq (.region c_request_ReadReply_r1 none [0, 2, 3]) (.seq (.seq (.region c_request_ReadReply_r2 none [0, 2, 3, 12, 13]) (.block 0 (.loop (.seq (.region c_request_ReadReply_r3 none [0, 2, 3, 12, 13, 14]) (.seq (.cond (.t 14) (.skip) (.exit 0)) (.seq (.block 1 (.region c_request_ReadReply_r4 (some ([0, 1, 0, 4, 12, 31, 63, 127], [(1, 3), (1, 4)])) [0, 2, 3, 12, 13])) (.region c_request_ReadReply_r5 none [0, 2, 3, 12, 13]))))))) (.seq (.seq (.region c_request_ReadReply_r6 none [2, 3, 25]) (.cond (.t 25) (.seq (.region c_request_ReadReply_r7 none [2]) (.ret)) (.skip))) (.seq (.region c_request_ReadReply_r8 none [2]) (.ret)))))
@[simp] def R_request_ReadReply : List CRes := [.cell 2 true 4]
theorem k_request_ReadReply : chkFn Try.prog fn_request_ReadReply c_request_ReadReply R_request_ReadReply 1 = true := by kernel_rfl
/-! wapentake/block.Read -/
@[simp] def a_block_Read_r0 : List COper := [
  ⟨(some 2), .alloc (.node [.v (.int .i64 0), .v (.int .i64 0), .arr 1 (rep 32 (.v (.int .u8 0))), .arr 1 (rep 32 (.v (.int .u8 0))), .arr 1 (rep 32 (.v (.int .u8 0))), .v (.slice none 0 0)]), [], none⟩]
def c_block_Read_r0 : List COper := a_block_Read_r0
instance : Reg c_block_Read_r0 a_block_Read_r0 1 := ⟨rfl, rfl⟩
@[simp] def a_block_Read_r1 : List COper := [
  ⟨(some 4), .mov, [.t 0], none⟩,
  ⟨(some 5), .call fn_code_Reader_In, [.t 4, .c (.int .i64 0), .c (.int .i64 1073741824)], none⟩,
  ⟨(some 6), .mov, [.t 0], none⟩,
  ⟨(some 7), .call fn_code_Reader_In, [.t 6, .c (.int .i64 1), .c (.int .i64 1024)], none⟩,
  ⟨(some 8), .mov, [.t 0], none⟩,
  ⟨(some 9), .call fn_code_Reader_Digest, [.t 8], none⟩,
  ⟨(some 10), .mov, [.t 0], none⟩,
  ⟨(some 11), .call fn_code_Reader_Digest, [.t 10], none⟩,
  ⟨(some 12), .mov, [.t 0], none⟩,
  ⟨(some 13), .call fn_code_Reader_Digest, [.t 12], none⟩,
  ⟨(some 14), .build [.v (.int .i64 0), .v (.int .i64 0), .arr 1 (rep 32 (.v (.int .u8 0))), .arr 1 (rep 32 (.v (.int .u8 0))), .arr 1 (rep 32 (.v (.int .u8 0))), .v (.slice none 0 0)] [0, 1, 2, 3, 4], [.t 5, .t 7, .t 9, .t 11, .t 13], none⟩,
  ⟨(some 3), .alloc (.node [.v (.int .i64 0), .v (.int .i64 0), .arr 1 (rep 32 (.v (.int .u8 0))), .arr 1 (rep 32 (.v (.int .u8 0))), .arr 1 (rep 32 (.v (.int .u8 0))), .v (.slice none 0 0)]), [], none⟩,
  ⟨none, .store true 99, [.t 3, .t 14], none⟩]
def c_block_Read_r1 : List COper := a_block_Read_r1
instance : Reg c_block_Read_r1 a_block_Read_r1 13 := ⟨rfl, rfl⟩
@[simp] def a_block_Read_r2 : List COper := [
  ⟨(some 15), .mov, [.t 0], none⟩,
  ⟨(some 16), .call fn_code_Reader_In, [.t 15, .c (.int .i64 0), .c (.int .i64 8)], none⟩,
  ⟨(some 17), .mov, [.c (.int .i64 0)], none⟩]
def c_block_Read_r2 : List COper := a_block_Read_r2
instance : Reg c_block_Read_r2 a_block_Read_r2 3 := ⟨rfl, rfl⟩
@[simp] def a_block_Read_r3 : List COper := [
  ⟨(some 18), .bin .lss, [.t 17, .t 16], none⟩]
def c_block_Read_r3 : List COper := a_block_Read_r3
instance : Reg c_block_Read_r3 a_block_Read_r3 1 := ⟨rfl, rfl⟩
@[simp] def a_block_Read_r4 : List COper := [
  ⟨(some 19), .faddr 98 1 false, [.t 3], none⟩,
  ⟨(some 20), .load false 1, [.t 19], none⟩,
  ⟨(some 21), .mov, [.t 0], none⟩,
  ⟨(some 22), .call fn_request_Read, [.t 21], none⟩,
  ⟨(some 23), .bslice 42 1 (.node [.v (.int .i64 0), .v (.int .i64 0), .node [.v (.int .i64 0), .v (.string (mkS [])), .v (.string (mkS [])), .v (.string (mkS [])), .node [.v (.int .i64 0), .v (.int .i64 0), .v (.int .i64 0), .node [.arr 1 (rep 32 (.v (.int .u8 0))), .v (.int .i64 0)]]]]) [0], [.t 22], none⟩,
  ⟨(some 24), .app 42 136, [.t 20, .t 23], none⟩,
  ⟨(some 25), .faddr 98 1 false, [.t 3], none⟩,
  ⟨none, .store false 1, [.t 25, .t 24], none⟩]
def c_block_Read_r4 : List COper := a_block_Read_r4
instance : Reg c_block_Read_r4 a_block_Read_r4 8 := ⟨rfl, rfl⟩
@[simp] def a_block_Read_r5 : List COper := [
  ⟨(some 26), .bin .add, [.t 17, .c (.int .i64 1)], none⟩,
  ⟨(some 17), .mov, [.t 26], none⟩]
def c_block_Read_r5 : List COper := a_block_Read_r5
instance : Reg c_block_Read_r5 a_block_Read_r5 2 := ⟨rfl, rfl⟩
@[simp] def a_block_Read_r6 : List COper := [
  ⟨(some 27), .mov, [.t 0], none⟩,
  ⟨(some 28), .call fn_code_Reader_Good, [.t 27], none⟩,
  ⟨(some 29), .not, [.t 28], none⟩]
def c_block_Read_r6 : List COper := a_block_Read_r6
instance : Reg c_block_Read_r6 a_block_Read_r6 3 := ⟨rfl, rfl⟩
@[simp] def a_block_Read_r7 : List COper := [
  ⟨(some 30), .build [.v (.int .i64 0), .v (.int .i64 0), .arr 1 (rep 32 (.v (.int .u8 0))), .arr 1 (rep 32 (.v (.int .u8 0))), .arr 1 (rep 32 (.v (.int .u8 0))), .v (.slice none 0 0)] [], [], none⟩,
  ⟨none, .store true 99, [.t 2, .t 30], none⟩]
def c_block_Read_r7 : List COper := a_block_Read_r7
instance : Reg c_block_Read_r7 a_block_Read_r7 2 := ⟨rfl, rfl⟩
@[simp] def a_block_Read_r8 : List COper := [
  ⟨(some 31), .load true 99, [.t 3], none⟩,
  ⟨none, .store true 99, [.t 2, .t 31], none⟩]
def c_block_Read_r8 : List COper := a_block_Read_r8
instance : Reg c_block_Read_r8 a_block_Read_r8 2 := ⟨rfl, rfl⟩
@[simp] def c_block_Read : CCode :=
  .seq (.region c_block_Read_r0 none [0, 2]) (.seq (.region c_block_Read_r1 none [0, 2, 3]) (.seq (.seq (.region c_block_Read_r2 none [0, 2, 3, 16, 17]) (.block 0 (.loop (.seq (.region c_block_Read_r3 none [0, 2, 3, 16, 17, 18]) (.seq (.cond (.t 18) (.skip) (.exit 0)) (.seq (.block 1 (.region c_block_Read_r4 (some ([0, 1, 0, 4, 12, 31, 63, 127], [(1, 3), (1, 4)])) [0, 2, 3, 16, 17])) (.region c_block_Read_r5 none [0, 2, 3, 16, 17]))))))) (.seq (.seq (.region c_block_Read_r6 none [2, 3, 29]) (.cond (.t 29) (.seq (.region c_block_Read_r7 none [2]) (.ret)) (.skip))) (.seq (.region c_block_Read_r8 none [2]) (.ret)))))
@[simp] def R_block_Read : List CRes := [.cell 2 true 99]
theorem k_block_Read : chkFn Try.prog fn_block_Read c_block_Read R_block_Read 1 = true := by kernel_rfl
/-! wapentake/cert.Read -/
@[simp] def a_cert_Read_r0 : List COper := [
  ⟨(some 2), .alloc (.node [.v (.int .i64 0), .v (.slice none 0 0)]), [], none⟩]
def c_cert_Read_r0 : List COper := a_cert_Read_r0
instance : Reg c_cert_Read_r0 a_cert_Read_r0 1 := ⟨rfl, rfl⟩
@[simp] def a_cert_Read_r1 : List COper := [
  ⟨(some 4), .mov, [.t 0], none⟩,
  ⟨(some 5), .call fn_code_Reader_In, [.t 4, .c (.int .i64 0), .c (.int .i64 1024)], none⟩,
  ⟨(some 6), .build [.v (.int .i64 0), .v (.slice none 0 0)] [0], [.t 5], none⟩,
  ⟨(some 3), .alloc (.node [.v (.int .i64 0), .v (.slice none 0 0)]), [], none⟩,
  ⟨none, .store true 2, [.t 3, .t 6], none⟩]
def c_cert_Read_r1 : List COper := a_cert_Read_r1
instance : Reg c_cert_Read_r1 a_cert_Read_r1 5 := ⟨rfl, rfl⟩
@[simp] def a_cert_Read_r2 : List COper := [
  ⟨(some 7), .mov, [.t 0], none⟩,
  ⟨(some 8), .call fn_code_Reader_In, [.t 7, .c (.int .i64 1), .c (.int .i64 10)], none⟩,
  ⟨(some 9), .mov, [.c (.int .i64 0)], none⟩]
def c_cert_Read_r2 : List COper := a_cert_Read_r2
instance : Reg c_cert_Read_r2 a_cert_Read_r2 3 := ⟨rfl, rfl⟩
@[simp] def a_cert_Read_r3 : List COper := [
  ⟨(some 10), .bin .lss, [.t 9, .t 8], none⟩]
def c_cert_Read_r3 : List COper := a_cert_Read_r3
instance : Reg c_cert_Read_r3 a_cert_Read_r3 1 := ⟨rfl, rfl⟩
@[simp] def a_cert_Read_r4 : List COper := [
  ⟨(some 11), .faddr 1 1 false, [.t 3], none⟩,
  ⟨(some 12), .load false 1, [.t 11], none⟩,
  ⟨(some 13), .mov, [.t 0], none⟩,
  ⟨(some 14), .call fn_vote_Read, [.t 13], none⟩,
  ⟨(some 15), .bslice 41 1 (.node [.v (.int .i64 0), .v (.int .i64 0), .v (.int .i64 0), .v (.int .i64 0), .arr 1 (rep 32 (.v (.int .u8 0))), .v (.int .i64 0), .node [.v (.int .i64 0), .node [.v (.slice none 0 0), .v (.slice none 0 0)], .v (.slice none 0 0)]]) [0], [.t 14], none⟩,
  ⟨(some 16), .app 41 152, [.t 12, .t 15], none⟩,
  ⟨(some 17), .faddr 1 1 false, [.t 3], none⟩,
  ⟨none, .store false 1, [.t 17, .t 16], none⟩]
def c_cert_Read_r4 : List COper := a_cert_Read_r4
instance : Reg c_cert_Read_r4 a_cert_Read_r4 8 := ⟨rfl, rfl⟩
@[simp] def a_cert_Read_r5 : List COper := [
  ⟨(some 18), .bin .add, [.t 9, .c (.int .i64 1)], none⟩,
  ⟨(some 9), .mov, [.t 18], none⟩]
def c_cert_Read_r5 : List COper := a_cert_Read_r5
instance : Reg c_cert_Read_r5 a_cert_Read_r5 2 := ⟨rfl, rfl⟩
@[simp] def a_cert_Read_r6 : List COper := [
  ⟨(some 19), .mov, [.t 0], none⟩,
  ⟨(some 20), .call fn_code_Reader_Good, [.t 19], none⟩,
  ⟨(some 21), .not, [.t 20], none⟩]
def c_cert_Read_r6 : List COper := a_cert_Read_r6
instance : Reg c_cert_Read_r6 a_cert_Read_r6 3 := ⟨rfl, rfl⟩
@[simp] def a_cert_Read_r7 : List COper := [
  ⟨(some 22), .build [.v (.int .i64 0), .v (.slice none 0 0)] [], [], none⟩,
  ⟨none, .store true 2, [.t 2, .t 22], none⟩]
def c_cert_Read_r7 : List COper := a_cert_Read_r7
instance : Reg c_cert_Read_r7 a_cert_Read_r7 2 := ⟨rfl, rfl⟩
@[simp] def a_cert_Read_r8 : List COper := [
  ⟨(some 23), .load true 2, [.t 3], none⟩,
  ⟨none, .store true 2, [.t 2, .t 23], none⟩]
def c_cert_Read_r8 : List COper := a_cert_Read_r8
instance : Reg c_cert_Read_r8 a_cert_Read_r8 2 := ⟨rfl, rfl⟩
@[simp] def c_cert_Read : CCode :=
  .seq (.region c_cert_Read_r0 none [0, 2]) (.seq (.region c_cert_Read_r1 none [0, 2, 3]) (.seq (.seq (.region c_cert_Read_r2 none [0, 2, 3, 8, 9]) (.block 0 (.loop (.seq (.region c_cert_Read_r3 none [0, 2, 3, 8, 9, 10]) (.seq (.cond (.t 10) (.skip) (.exit 0)) (.seq (.block 1 (.region c_cert_Read_r4 (some ([0, 1, 0, 4, 12, 31, 63, 127], [(1, 3), (1, 4)])) [0, 2, 3, 8, 9])) (.region c_cert_Read_r5 none [0, 2, 3, 8, 9]))))))) (.seq (.seq (.region c_cert_Read_r6 none [2, 3, 21]) (.cond (.t 21) (.seq (.region c_cert_Read_r7 none [2]) (.ret)) (.skip))) (.seq (.region c_cert_Read_r8 none [2]) (.ret)))))
@[simp] def R_cert_Read : List CRes := [.cell 2 true 2]
theorem k_cert_Read : chkFn Try.prog fn_cert_Read c_cert_Read R_cert_Read 1 = true := by kernel_rfl
/-! (*wapentake/code.Reader).Good -/
@[simp] def a_code_Reader_Good_r0 : List COper := [
  ⟨(some 2), .mov, [.c (.bool false)], none⟩]
def c_code_Reader_Good_r0 : List COper := a_code_Reader_Good_r0
instance : Reg c_code_Reader_Good_r0 a_code_Reader_Good_r0 1 := ⟨rfl, rfl⟩
@[simp] def a_code_Reader_Good_r1 : List COper := [
  ⟨(some 3), .mov, [.t 0], none⟩,
  ⟨(some 4), .eqp true, [.t 3, .c (.pointer none)], none⟩,
  ⟨(some 5), .mov, [.t 4], none⟩,
  ⟨(some 6), .mov, [.t 0], (some (5, true))⟩,
  ⟨(some 7), .nilc, [.t 6], (some (5, true))⟩,
  ⟨(some 8), .faddr 1 1 false, [.t 7], (some (5, true))⟩,
  ⟨(some 9), .load false 1, [.t 8], (some (5, true))⟩,
  ⟨(some 10), .not, [.t 9], (some (5, true))⟩,
  ⟨(some 11), .pick, [.t 5, .t 10, .c (.bool false)], none⟩,
  ⟨(some 2), .mov, [.t 11], none⟩]
def c_code_Reader_Good_r1 : List COper := a_code_Reader_Good_r1
instance : Reg c_code_Reader_Good_r1 a_code_Reader_Good_r1 10 := ⟨rfl, rfl⟩
@[simp] def c_code_Reader_Good : CCode :=
  .seq (.region c_code_Reader_Good_r0 none [0]) (.seq (.region c_code_Reader_Good_r1 none [2]) (.ret))
@[simp] def R_code_Reader_Good : List CRes := [.tmp 2]
theorem k_code_Reader_Good : chkFn Try.prog fn_code_Reader_Good c_code_Reader_Good R_code_Reader_Good 1 = true := by kernel_rfl
/-! wapentake/chain.Read -/
@[simp] def a_chain_Read_r0 : List COper := [
  ⟨(some 2), .alloc (.node [.node [.v (.int .i64 0), .v (.int .i64 0), .arr 1 (rep 32 (.v (.int .u8 0))), .arr 1 (rep 32 (.v (.int .u8 0))), .arr 1 (rep 32 (.v (.int .u8 0))), .v (.slice none 0 0)], .node [.v (.int .i64 0), .v (.slice none 0 0)], .node [.v (.int .i64 0), .v (.slice none 0 0)]]), [], none⟩]
def c_chain_Read_r0 : List COper := a_chain_Read_r0
instance : Reg c_chain_Read_r0 a_chain_Read_r0 1 := ⟨rfl, rfl⟩
@[simp] def a_chain_Read_r1 : List COper := [
  ⟨(some 4), .mov, [.t 0], none⟩,
  ⟨(some 5), .call fn_block_Read, [.t 4], none⟩,
  ⟨(some 6), .mov, [.t 0], none⟩,
  ⟨(some 7), .call fn_cert_Read, [.t 6], none⟩,
  ⟨(some 8), .mov, [.t 0], none⟩,
  ⟨(some 9), .call fn_config_Read, [.t 8], none⟩,
  ⟨(some 10), .build [.node [.v (.int .i64 0), .v (.int .i64 0), .arr 1 (rep 32 (.v (.int .u8 0))), .arr 1 (rep 32 (.v (.int .u8 0))), .arr 1 (rep 32 (.v (.int .u8 0))), .v (.slice none 0 0)], .node [.v (.int .i64 0), .v (.slice none 0 0)], .node [.v (.int .i64 0), .v (.slice none 0 0)]] [0, 1, 2], [.t 5, .t 7, .t 9], none⟩,
  ⟨(some 3), .alloc (.node [.node [.v (.int .i64 0), .v (.int .i64 0), .arr 1 (rep 32 (.v (.int .u8 0))), .arr 1 (rep 32 (.v (.int .u8 0))), .arr 1 (rep 32 (.v (.int .u8 0))), .v (.slice none 0 0)], .node [.v (.int .i64 0), .v (.slice none 0 0)], .node [.v (.int .i64 0), .v (.slice none 0 0)]]), [], none⟩,
  ⟨none, .store true 103, [.t 3, .t 10], none⟩]
def c_chain_Read_r1 : List COper := a_chain_Read_r1
instance : Reg c_chain_Read_r1 a_chain_Read_r1 9 := ⟨rfl, rfl⟩
@[simp] def a_chain_Read_r2 : List COper := [
  ⟨(some 11), .mov, [.t 0], none⟩,
  ⟨(some 12), .call fn_code_Reader_Good, [.t 11], none⟩,
  ⟨(some 13), .not, [.t 12], none⟩]
def c_chain_Read_r2 : List COper := a_chain_Read_r2
instance : Reg c_chain_Read_r2 a_chain_Read_r2 3 := ⟨rfl, rfl⟩
@[simp] def a_chain_Read_r3 : List COper := [
  ⟨(some 14), .build [.node [.v (.int .i64 0), .v (.int .i64 0), .arr 1 (rep 32 (.v (.int .u8 0))), .arr 1 (rep 32 (.v (.int .u8 0))), .arr 1 (rep 32 (.v (.int .u8 0))), .v (.slice none 0 0)], .node [.v (.int .i64 0), .v (.slice none 0 0)], .node [.v (.int .i64 0), .v (.slice none 0 0)]] [], [], none⟩,
  ⟨none, .store true 103, [.t 2, .t 14], none⟩]
def c_chain_Read_r3 : List COper := a_chain_Read_r3
instance : Reg c_chain_Read_r3 a_chain_Read_r3 2 := ⟨rfl, rfl⟩
@[simp] def a_chain_Read_r4 : List COper := [
  ⟨(some 15), .load true 103, [.t 3], none⟩,
  ⟨none, .store true 103, [.t 2, .t 15], none⟩]
def c_chain_Read_r4 : List COper := a_chain_Read_r4
instance : Reg c_chain_Read_r4 a_chain_Read_r4 2 := ⟨rfl, rfl⟩
@[simp] def c_chain_Read : CCode :=
  .seq (.region c_chain_Read_r0 none [0, 2]) (.seq (.region c_chain_Read_r1 none [0, 2, 3]) (.seq (.seq (.region c_chain_Read_r2 none [2, 3, 13]) (.cond (.t 13) (.seq (.region c_chain_Read_r3 none [2]) (.ret)) (.skip))) (.seq (.region c_chain_Read_r4 none [2]) (.ret))))
@[simp] def R_chain_Read : List CRes := [.cell 2 true 103]
theorem k_chain_Read : chkFn Try.prog fn_chain_Read c_chain_Read R_chain_Read 1 = true := by kernel_rfl
/-! wapentake/mail.piece -/
@[simp] def a_mail_piece_r0 : List COper := [
  ⟨(some 2), .alloc (.node [.v (.int .i64 0), .v (.int .i64 0), .arr 1 (rep 32 (.v (.int .u8 0))), .v (.string (mkS [])), .v (.slice none 0 0)]), [], none⟩]
def c_mail_piece_r0 : List COper := a_mail_piece_r0
instance : Reg c_mail_piece_r0 a_mail_piece_r0 1 := ⟨rfl, rfl⟩
@[simp] def a_mail_piece_r1 : List COper := [
  ⟨(some 5), .mov, [.t 0], none⟩,
  ⟨(some 6), .call fn_code_Reader_In, [.t 5, .c (.int .i64 0), .c (.int .i64 1024)], none⟩,
  ⟨(some 7), .mov, [.t 0], none⟩,
  ⟨(some 8), .call fn_code_Reader_In, [.t 7, .c (.int .i64 0), .c (.int .i64 1024)], none⟩,
  ⟨(some 9), .build [.v (.int .i64 0), .v (.int .i64 0), .arr 1 (rep 32 (.v (.int .u8 0))), .v (.string (mkS [])), .v (.slice none 0 0)] [0, 1], [.t 6, .t 8], none⟩,
  ⟨(some 3), .alloc (.node [.v (.int .i64 0), .v (.int .i64 0), .arr 1 (rep 32 (.v (.int .u8 0))), .v (.string (mkS [])), .v (.slice none 0 0)]), [], none⟩,
  ⟨none, .store true 36, [.t 3, .t 9], none⟩]
def c_mail_piece_r1 : List COper := a_mail_piece_r1
instance : Reg c_mail_piece_r1 a_mail_piece_r1 7 := ⟨rfl, rfl⟩
@[simp] def a_mail_piece_r2 : List COper := [
  ⟨(some 10), .mov, [.t 0], none⟩,
  ⟨(some 11), .call fn_code_Reader_In, [.t 10, .c (.int .i64 0), .c (.int .i64 16)], none⟩,
  ⟨(some 4), .mov, [.t 11], none⟩]
def c_mail_piece_r2 : List COper := a_mail_piece_r2
instance : Reg c_mail_piece_r2 a_mail_piece_r2 3 := ⟨rfl, rfl⟩
@[simp] def a_mail_piece_r3 : List COper := [
  ⟨(some 12), .mov, [.t 0], none⟩,
  ⟨(some 13), .call fn_code_Reader_Digest, [.t 12], none⟩,
  ⟨(some 14), .faddr 2 32 true, [.t 3], none⟩,
  ⟨none, .store true 32, [.t 14, .t 13], none⟩]
def c_mail_piece_r3 : List COper := a_mail_piece_r3
instance : Reg c_mail_piece_r3 a_mail_piece_r3 4 := ⟨rfl, rfl⟩
@[simp] def a_mail_piece_r4 : List COper := [
  ⟨(some 15), .mov, [.t 4], none⟩,
  ⟨(some 16), .mov, [.c (.int .i64 0)], none⟩]
def c_mail_piece_r4 : List COper := a_mail_piece_r4
instance : Reg c_mail_piece_r4 a_mail_piece_r4 2 := ⟨rfl, rfl⟩
@[simp] def a_mail_piece_r5 : List COper := [
  ⟨(some 17), .bin .lss, [.t 16, .t 15], none⟩]
def c_mail_piece_r5 : List COper := a_mail_piece_r5
instance : Reg c_mail_piece_r5 a_mail_piece_r5 1 := ⟨rfl, rfl⟩
@[simp] def a_mail_piece_r6 : List COper := [
  ⟨(some 18), .faddr 35 1 false, [.t 3], none⟩,
  ⟨(some 19), .load false 1, [.t 18], none⟩,
  ⟨(some 20), .mov, [.t 0], none⟩,
  ⟨(some 21), .call fn_code_Reader_Digest, [.t 20], none⟩,
  ⟨(some 22), .bslice 32 1 (.arr 1 (rep 32 (.v (.int .u8 0)))) [0], [.t 21], none⟩,
  ⟨(some 23), .app 32 32, [.t 19, .t 22], none⟩,
  ⟨(some 24), .faddr 35 1 false, [.t 3], none⟩,
  ⟨none, .store false 1, [.t 24, .t 23], none⟩]
def c_mail_piece_r6 : List COper := a_mail_piece_r6
instance : Reg c_mail_piece_r6 a_mail_piece_r6 8 := ⟨rfl, rfl⟩
@[simp] def a_mail_piece_r7 : List COper := [
  ⟨(some 25), .bin .add, [.t 16, .c (.int .i64 1)], none⟩,
  ⟨(some 16), .mov, [.t 25], none⟩]
def c_mail_piece_r7 : List COper := a_mail_piece_r7
instance : Reg c_mail_piece_r7 a_mail_piece_r7 2 := ⟨rfl, rfl⟩
@[simp] def a_mail_piece_r8 : List COper := [
  ⟨(some 26), .mov, [.t 0], none⟩,
  ⟨(some 27), .call fn_code_Reader_Text, [.t 26, .c (.int .i64 1024)], none⟩,
  ⟨(some 28), .faddr 34 1 false, [.t 3], none⟩,
  ⟨none, .store false 1, [.t 28, .t 27], none⟩]
def c_mail_piece_r8 : List COper := a_mail_piece_r8
instance : Reg c_mail_piece_r8 a_mail_piece_r8 4 := ⟨rfl, rfl⟩
@[simp] def a_mail_piece_r9 : List COper := [
  ⟨(some 29), .load true 36, [.t 3], none⟩,
  ⟨none, .store true 36, [.t 2, .t 29], none⟩]
def c_mail_piece_r9 : List COper := a_mail_piece_r9
instance : Reg c_mail_piece_r9 a_mail_piece_r9 2 := ⟨rfl, rfl⟩
@[simp] def c_mail_piece : CCode :=
  .seq (.region c_mail_piece_r0 none [0, 2]) (.seq (.region c_mail_piece_r1 none [0, 2, 3]) (.seq (.region c_mail_piece_r2 none [0, 2, 3, 4]) (.seq (.region c_mail_piece_r3 none [0, 2, 3, 4]) (.seq (.seq (.region c_mail_piece_r4 none [0, 2, 3, 15, 16]) (.block 0 (.loop (.seq (.region c_mail_piece_r5 none [0, 2, 3, 15, 16, 17]) (.seq (.cond (.t 17) (.skip) (.exit 0)) (.seq (.block 1 (.region c_mail_piece_r6 (some ([0, 1, 0, 4, 12, 31, 63, 127], [(1, 3), (1, 4)])) [0, 2, 3, 15, 16])) (.region c_mail_piece_r7 none [0, 2, 3, 15, 16]))))))) (.seq (.region c_mail_piece_r8 none [2, 3]) (.seq (.region c_mail_piece_r9 none [2]) (.ret)))))))
@[simp] def R_mail_piece : List CRes := [.cell 2 true 36]
theorem k_mail_piece : chkFn Try.prog fn_mail_piece c_mail_piece R_mail_piece 1 = true := by kernel_rfl
/-! (*wapentake/code.Reader).End -/
@[simp] def a_code_Reader_End_r0 : List COper := [
  ⟨(some 2), .mov, [.c (.bool false)], none⟩]
def c_code_Reader_End_r0 : List COper := a_code_Reader_End_r0
instance : Reg c_code_Reader_End_r0 a_code_Reader_End_r0 1 := ⟨rfl, rfl⟩
@[simp] def a_code_Reader_End_r1 : List COper := [
  ⟨(some 3), .mov, [.t 0], none⟩,
  ⟨(some 4), .call fn_code_Reader_Good, [.t 3], none⟩,
  ⟨(some 5), .mov, [.t 4], none⟩,
  ⟨(some 6), .mov, [.t 0], (some (5, true))⟩,
  ⟨(some 7), .nilc, [.t 6], (some (5, true))⟩,
  ⟨(some 8), .faddr 0 1 false, [.t 7], (some (5, true))⟩,
  ⟨(some 9), .load false 1, [.t 8], (some (5, true))⟩,
  ⟨(some 10), .len, [.t 9], (some (5, true))⟩,
  ⟨(some 11), .bin .eql, [.t 10, .c (.int .i64 0)], (some (5, true))⟩,
  ⟨(some 12), .pick, [.t 5, .t 11, .c (.bool false)], none⟩,
  ⟨(some 2), .mov, [.t 12], none⟩]
def c_code_Reader_End_r1 : List COper := a_code_Reader_End_r1
instance : Reg c_code_Reader_End_r1 a_code_Reader_End_r1 11 := ⟨rfl, rfl⟩
@[simp] def c_code_Reader_End : CCode :=
  .seq (.region c_code_Reader_End_r0 none [0]) (.seq (.region c_code_Reader_End_r1 none [2]) (.ret))
@[simp] def R_code_Reader_End : List CRes := [.tmp 2]
theorem k_code_Reader_End : chkFn Try.prog fn_code_Reader_End c_code_Reader_End R_code_Reader_End 1 = true := by kernel_rfl
/-! (*wapentake/wapentakeref01.Reader).In -/
@[simp] def a_r01_Reader_In_r0 : List COper := [
  ⟨(some 6), .mov, [.c (.int .i64 0)], none⟩]
def c_r01_Reader_In_r0 : List COper := a_r01_Reader_In_r0
instance : Reg c_r01_Reader_In_r0 a_r01_Reader_In_r0 1 := ⟨rfl, rfl⟩
@[simp] def a_r01_Reader_In_r1 : List COper := [
  ⟨(some 8), .mov, [.t 0], none⟩,
  ⟨(some 9), .call fn_r01_Reader_Num, [.t 8], none⟩,
  ⟨(some 7), .mov, [.t 9], none⟩]
def c_r01_Reader_In_r1 : List COper := a_r01_Reader_In_r1
instance : Reg c_r01_Reader_In_r1 a_r01_Reader_In_r1 3 := ⟨rfl, rfl⟩
@[simp] def a_r01_Reader_In_r2 : List COper := [
  ⟨(some 10), .mov, [.t 0], none⟩,
  ⟨(some 11), .nilc, [.t 10], none⟩,
  ⟨(some 12), .faddr 1 1 false, [.t 11], none⟩,
  ⟨(some 13), .load false 1, [.t 12], none⟩,
  ⟨(some 14), .mov, [.t 13], none⟩,
  ⟨(some 15), .mov, [.t 7], (some (14, false))⟩,
  ⟨(some 16), .mov, [.t 1], (some (14, false))⟩,
  ⟨(some 17), .bin .lss, [.t 15, .t 16], (some (14, false))⟩,
  ⟨(some 18), .pick, [.t 14, .c (.bool true), .t 17], none⟩,
  ⟨(some 19), .mov, [.t 18], none⟩,
  ⟨(some 20), .mov, [.t 7], (some (19, false))⟩,
  ⟨(some 21), .mov, [.t 2], (some (19, false))⟩,
  ⟨(some 22), .bin .gtr, [.t 20, .t 21], (some (19, false))⟩,
  ⟨(some 23), .pick, [.t 19, .c (.bool true), .t 22], none⟩]
def c_r01_Reader_In_r2 : List COper := a_r01_Reader_In_r2
instance : Reg c_r01_Reader_In_r2 a_r01_Reader_In_r2 14 := ⟨rfl, rfl⟩
@[simp] def a_r01_Reader_In_r3 : List COper := [
  ⟨(some 24), .mov, [.t 0], none⟩,
  ⟨(some 25), .call fn_r01_Reader_Take, [.t 24, .c (.int .i64 (-1))], none⟩]
def c_r01_Reader_In_r3 : List COper := a_r01_Reader_In_r3
instance : Reg c_r01_Reader_In_r3 a_r01_Reader_In_r3 2 := ⟨rfl, rfl⟩
@[simp] def a_r01_Reader_In_r4 : List COper := [
  ⟨(some 6), .mov, [.c (.int .i64 0)], none⟩]
def c_r01_Reader_In_r4 : List COper := a_r01_Reader_In_r4
instance : Reg c_r01_Reader_In_r4 a_r01_Reader_In_r4 1 := ⟨rfl, rfl⟩
@[simp] def a_r01_Reader_In_r5 : List COper := [
  ⟨(some 26), .mov, [.t 7], none⟩,
  ⟨(some 6), .mov, [.t 26], none⟩]
def c_r01_Reader_In_r5 : List COper := a_r01_Reader_In_r5
instance : Reg c_r01_Reader_In_r5 a_r01_Reader_In_r5 2 := ⟨rfl, rfl⟩
@[simp] def c_r01_Reader_In : CCode :=
  .seq (.region c_r01_Reader_In_r0 none [0, 1, 2]) (.seq (.region c_r01_Reader_In_r1 none [0, 1, 2, 7]) (.seq (.seq (.region c_r01_Reader_In_r2 none [0, 7, 23]) (.cond (.t 23) (.seq (.region c_r01_Reader_In_r3 none []) (.seq (.region c_r01_Reader_In_r4 none [6]) (.ret))) (.skip))) (.seq (.region c_r01_Reader_In_r5 none [6]) (.ret))))
@[simp] def R_r01_Reader_In : List CRes := [.tmp 6]
theorem k_r01_Reader_In : chkFn Try.prog fn_r01_Reader_In c_r01_Reader_In R_r01_Reader_In 3 = true := by kernel_rfl
/-! wapentake/wapentakeref13.ReadPlan -/
@[simp] def a_r13_ReadPlan_r0 : List COper := [
  ⟨(some 2), .alloc (.node [.v (.int .i64 0), .v (.int .i64 0), .v (.int .i64 0), .v (.int .i64 0), .node [.v (.int .i64 0), .v (.int .i64 0), .arr 1 (rep 32 (.v (.int .u8 0))), .arr 1 (rep 32 (.v (.int .u8 0))), .arr 1 (rep 32 (.v (.int .u8 0))), .v (.slice none 0 0)], .v (.int .i64 0), .node [.v (.int .i64 0), .node [.v (.slice none 0 0), .v (.slice none 0 0)], .v (.slice none 0 0)]]), [], none⟩]
def c_r13_ReadPlan_r0 : List COper := a_r13_ReadPlan_r0
instance : Reg c_r13_ReadPlan_r0 a_r13_ReadPlan_r0 1 := ⟨rfl, rfl⟩
@[simp] def a_r13_ReadPlan_r1 : List COper := [
  ⟨(some 3), .alloc (.node [.v (.int .i64 0), .v (.int .i64 0), .v (.int .i64 0), .v (.int .i64 0), .node [.v (.int .i64 0), .v (.int .i64 0), .arr 1 (rep 32 (.v (.int .u8 0))), .arr 1 (rep 32 (.v (.int .u8 0))), .arr 1 (rep 32 (.v (.int .u8 0))), .v (.slice none 0 0)], .v (.int .i64 0), .node [.v (.int .i64 0), .node [.v (.slice none 0 0), .v (.slice none 0 0)], .v (.slice none 0 0)]]), [], none⟩]
def c_r13_ReadPlan_r1 : List COper := a_r13_ReadPlan_r1
instance : Reg c_r13_ReadPlan_r1 a_r13_ReadPlan_r1 1 := ⟨rfl, rfl⟩
@[simp] def a_r13_ReadPlan_r2 : List COper := [
  ⟨(some 4), .mov, [.t 0], none⟩,
  ⟨(some 5), .call fn_r01_Reader_In, [.t 4, .c (.int .i64 0), .c (.int .i64 1073741824)], none⟩,
  ⟨(some 6), .faddr 0 1 false, [.t 3], none⟩,
  ⟨none, .store false 1, [.t 6, .t 5], none⟩]
def c_r13_ReadPlan_r2 : List COper := a_r13_ReadPlan_r2
instance : Reg c_r13_ReadPlan_r2 a_r13_ReadPlan_r2 4 := ⟨rfl, rfl⟩
@[simp] def a_r13_ReadPlan_r3 : List COper := [
  ⟨(some 7), .mov, [.t 0], none⟩,
  ⟨(some 8), .call fn_r01_Reader_In, [.t 7, .c (.int .i64 1), .c (.int .i64 1024)], none⟩,
  ⟨(some 9), .faddr 1 1 false, [.t 3], none⟩,
  ⟨none, .store false 1, [.t 9, .t 8], none⟩]
def c_r13_ReadPlan_r3 : List COper := a_r13_ReadPlan_r3
instance : Reg c_r13_ReadPlan_r3 a_r13_ReadPlan_r3 4 := ⟨rfl, rfl⟩
@[simp] def a_r13_ReadPlan_r4 : List COper := [
  ⟨(some 10), .mov, [.t 0], none⟩,
  ⟨(some 11), .call fn_r01_Reader_In, [.t 10, .c (.int .i64 0), .c (.int .i64 1024)], none⟩,
  ⟨(some 12), .faddr 2 1 false, [.t 3], none⟩,
  ⟨none, .store false 1, [.t 12, .t 11], none⟩]
def c_r13_ReadPlan_r4 : List COper := a_r13_ReadPlan_r4
instance : Reg c_r13_ReadPlan_r4 a_r13_ReadPlan_r4 4 := ⟨rfl, rfl⟩
@[simp] def a_r13_ReadPlan_r5 : List COper := [
  ⟨(some 13), .mov, [.t 0], none⟩,
  ⟨(some 14), .faddr 2 1 false, [.t 3], none⟩,
  ⟨(some 15), .load false 1, [.t 14], none⟩,
  ⟨(some 16), .bin .sub, [.t 15, .c (.int .i64 1)], none⟩,
  ⟨(some 17), .call fn_r01_Reader_In, [.t 13, .c (.int .i64 (-1)), .t 16], none⟩,
  ⟨(some 18), .faddr 3 1 false, [.t 3], none⟩,
  ⟨none, .store false 1, [.t 18, .t 17], none⟩]
def c_r13_ReadPlan_r5 : List COper := a_r13_ReadPlan_r5
instance : Reg c_r13_ReadPlan_r5 a_r13_ReadPlan_r5 7 := ⟨rfl, rfl⟩
@[simp] def a_r13_ReadPlan_r6 : List COper := [
  ⟨(some 19), .mov, [.t 0], none⟩,
  ⟨(some 20), .call fn_r01_Reader_In, [.t 19, .c (.int .i64 1), .c (.int .i64 63)], none⟩,
  ⟨(some 21), .faddr 103 1 false, [.t 3], none⟩,
  ⟨none, .store false 1, [.t 21, .t 20], none⟩]
def c_r13_ReadPlan_r6 : List COper := a_r13_ReadPlan_r6
instance : Reg c_r13_ReadPlan_r6 a_r13_ReadPlan_r6 4 := ⟨rfl, rfl⟩
@[simp] def a_r13_ReadPlan_r7 : List COper := [
  ⟨(some 22), .mov, [.t 0], none⟩,
  ⟨(some 23), .call fn_r12_Read, [.t 22], none⟩,
  ⟨(some 24), .faddr 4 99 true, [.t 3], none⟩,
  ⟨none, .store true 99, [.t 24, .t 23], none⟩]
def c_r13_ReadPlan_r7 : List COper := a_r13_ReadPlan_r7
instance : Reg c_r13_ReadPlan_r7 a_r13_ReadPlan_r7 4 := ⟨rfl, rfl⟩
@[simp] def a_r13_ReadPlan_r8 : List COper := [
  ⟨(some 25), .mov, [.t 0], none⟩,
  ⟨(some 26), .call fn_r05_Read, [.t 25], none⟩,
  ⟨(some 27), .faddr 104 4 true, [.t 3], none⟩,
  ⟨none, .store true 4, [.t 27, .t 26], none⟩]
def c_r13_ReadPlan_r8 : List COper := a_r13_ReadPlan_r8
instance : Reg c_r13_ReadPlan_r8 a_r13_ReadPlan_r8 4 := ⟨rfl, rfl⟩
@[simp] def a_r13_ReadPlan_r9 : List COper := [
  ⟨(some 28), .mov, [.t 0], none⟩,
  ⟨(some 29), .call fn_r01_Reader_Good, [.t 28], none⟩,
  ⟨(some 30), .not, [.t 29], none⟩]
def c_r13_ReadPlan_r9 : List COper := a_r13_ReadPlan_r9
instance : Reg c_r13_ReadPlan_r9 a_r13_ReadPlan_r9 3 := ⟨rfl, rfl⟩
@[simp] def a_r13_ReadPlan_r10 : List COper := [
  ⟨(some 31), .build [.v (.int .i64 0), .v (.int .i64 0), .v (.int .i64 0), .v (.int .i64 0), .node [.v (.int .i64 0), .v (.int .i64 0), .arr 1 (rep 32 (.v (.int .u8 0))), .arr 1 (rep 32 (.v (.int .u8 0))), .arr 1 (rep 32 (.v (.int .u8 0))), .v (.slice none 0 0)], .v (.int .i64 0), .node [.v (.int .i64 0), .node [.v (.slice none 0 0), .v (.slice none 0 0)], .v (.slice none 0 0)]] [], [], none⟩,
  ⟨none, .store true 108, [.t 2, .t 31], none⟩]
def c_r13_ReadPlan_r10 : List COper := a_r13_ReadPlan_r10
instance : Reg c_r13_ReadPlan_r10 a_r13_ReadPlan_r10 2 := ⟨rfl, rfl⟩
@[simp] def a_r13_ReadPlan_r11 : List COper := [
  ⟨(some 32), .load true 108, [.t 3], none⟩,
  ⟨none, .store true 108, [.t 2, .t 32], none⟩]
def c_r13_ReadPlan_r11 : List COper := a_r13_ReadPlan_r11
instance : Reg c_r13_ReadPlan_r11 a_r13_ReadPlan_r11 2 := ⟨rfl, rfl⟩
@[simp] def c_r13_ReadPlan : CCode :=
  .seq (.region c_r13_ReadPlan_r0 none [0, 2]) (.seq (.region c_r13_ReadPlan_r1 none [0, 2, 3]) (.seq (.region c_r13_ReadPlan_r2 none [0, 2, 3]) (.seq (.region c_r13_ReadPlan_r3 none [0, 2, 3]) (.seq (.region c_r13_ReadPlan_r4 none [0, 2, 3]) (.seq (.region c_r13_ReadPlan_r5 none [0, 2, 3]) (.seq (.region c_r13_ReadPlan_r6 none [0, 2, 3]) (.seq (.region c_r13_ReadPlan_r7 none [0, 2, 3]) (.seq (.region c_r13_ReadPlan_r8 none [0, 2, 3]) (.seq (.seq (.region c_r13_ReadPlan_r9 none [2, 3, 30]) (.cond (.t 30) (.seq (.region c_r13_ReadPlan_r10 none [2]) (.ret)) (.skip))) (.seq (.region c_r13_ReadPlan_r11 none [2]) (.ret)))))))))))
@[simp] def R_r13_ReadPlan : List CRes := [.cell 2 true 108]
theorem k_r13_ReadPlan : chkFn Try.prog fn_r13_ReadPlan c_r13_ReadPlan R_r13_ReadPlan 1 = true := by kernel_rfl
/-! wapentake/wapentakeref13.Read -/
@[simp] def a_r13_Read_r0 : List COper := [
  ⟨(some 2), .alloc (.node [.v (.int .i64 0), .v (.int .i64 0), .v (.int .i64 0), .v (.int .i64 0), .arr 1 (rep 32 (.v (.int .u8 0))), .v (.int .i64 0), .node [.v (.int .i64 0), .node [.v (.slice none 0 0), .v (.slice none 0 0)], .v (.slice none 0 0)]]), [], none⟩]
def c_r13_Read_r0 : List COper := a_r13_Read_r0
instance : Reg c_r13_Read_r0 a_r13_Read_r0 1 := ⟨rfl, rfl⟩
@[simp] def a_r13_Read_r1 : List COper := [
  ⟨(some 3), .alloc (.node [.v (.int .i64 0), .v (.int .i64 0), .v (.int .i64 0), .v (.int .i64 0), .arr 1 (rep 32 (.v (.int .u8 0))), .v (.int .i64 0), .node [.v (.int .i64 0), .node [.v (.slice none 0 0), .v (.slice none 0 0)], .v (.slice none 0 0)]]), [], none⟩]
def c_r13_Read_r1 : List COper := a_r13_Read_r1
instance : Reg c_r13_Read_r1 a_r13_Read_r1 1 := ⟨rfl, rfl⟩
@[simp] def a_r13_Read_r2 : List COper := [
  ⟨(some 4), .mov, [.t 0], none⟩,
  ⟨(some 5), .call fn_r01_Reader_In, [.t 4, .c (.int .i64 1), .c (.int .i64 2)], none⟩,
  ⟨(some 6), .faddr 0 1 false, [.t 3], none⟩,
  ⟨none, .store false 1, [.t 6, .t 5], none⟩]
def c_r13_Read_r2 : List COper := a_r13_Read_r2
instance : Reg c_r13_Read_r2 a_r13_Read_r2 4 := ⟨rfl, rfl⟩
@[simp] def a_r13_Read_r3 : List COper := [
  ⟨(some 7), .mov, [.t 0], none⟩,
  ⟨(some 8), .call fn_r01_Reader_In, [.t 7, .c (.int .i64 0), .c (.int .i64 1073741824)], none⟩,
  ⟨(some 9), .faddr 1 1 false, [.t 3], none⟩,
  ⟨none, .store false 1, [.t 9, .t 8], none⟩]
def c_r13_Read_r3 : List COper := a_r13_Read_r3
instance : Reg c_r13_Read_r3 a_r13_Read_r3 4 := ⟨rfl, rfl⟩
@[simp] def a_r13_Read_r4 : List COper := [
  ⟨(some 10), .mov, [.t 0], none⟩,
  ⟨(some 11), .call fn_r01_Reader_In, [.t 10, .c (.int .i64 1), .c (.int .i64 1024)], none⟩,
  ⟨(some 12), .faddr 2 1 false, [.t 3], none⟩,
  ⟨none, .store false 1, [.t 12, .t 11], none⟩]
def c_r13_Read_r4 : List COper := a_r13_Read_r4
instance : Reg c_r13_Read_r4 a_r13_Read_r4 4 := ⟨rfl, rfl⟩
@[simp] def a_r13_Read_r5 : List COper := [
  ⟨(some 13), .mov, [.t 0], none⟩,
  ⟨(some 14), .call fn_r01_Reader_In, [.t 13, .c (.int .i64 0), .c (.int .i64 1024)], none⟩,
  ⟨(some 15), .faddr 3 1 false, [.t 3], none⟩,
  ⟨none, .store false 1, [.t 15, .t 14], none⟩]
def c_r13_Read_r5 : List COper := a_r13_Read_r5
instance : Reg c_r13_Read_r5 a_r13_Read_r5 4 := ⟨rfl, rfl⟩
@[simp] def a_r13_Read_r6 : List COper := [
  ⟨(some 16), .mov, [.t 0], none⟩,
  ⟨(some 17), .call fn_r01_Reader_In, [.t 16, .c (.int .i64 1), .c (.int .i64 63)], none⟩,
  ⟨(some 18), .faddr 36 1 false, [.t 3], none⟩,
  ⟨none, .store false 1, [.t 18, .t 17], none⟩]
def c_r13_Read_r6 : List COper := a_r13_Read_r6
instance : Reg c_r13_Read_r6 a_r13_Read_r6 4 := ⟨rfl, rfl⟩
@[simp] def a_r13_Read_r7 : List COper := [
  ⟨(some 19), .mov, [.t 0], none⟩,
  ⟨(some 20), .call fn_r01_Reader_Digest, [.t 19], none⟩,
  ⟨(some 21), .faddr 4 32 true, [.t 3], none⟩,
  ⟨none, .store true 32, [.t 21, .t 20], none⟩]
def c_r13_Read_r7 : List COper := a_r13_Read_r7
instance : Reg c_r13_Read_r7 a_r13_Read_r7 4 := ⟨rfl, rfl⟩
@[simp] def a_r13_Read_r8 : List COper := [
  ⟨(some 22), .mov, [.t 0], none⟩,
  ⟨(some 23), .call fn_r05_Read, [.t 22], none⟩,
  ⟨(some 24), .faddr 37 4 true, [.t 3], none⟩,
  ⟨none, .store true 4, [.t 24, .t 23], none⟩]
def c_r13_Read_r8 : List COper := a_r13_Read_r8
instance : Reg c_r13_Read_r8 a_r13_Read_r8 4 := ⟨rfl, rfl⟩
@[simp] def a_r13_Read_r9 : List COper := [
  ⟨(some 25), .mov, [.t 0], none⟩,
  ⟨(some 26), .call fn_r01_Reader_Good, [.t 25], none⟩,
  ⟨(some 27), .not, [.t 26], none⟩]
def c_r13_Read_r9 : List COper := a_r13_Read_r9
instance : Reg c_r13_Read_r9 a_r13_Read_r9 3 := ⟨rfl, rfl⟩
@[simp] def a_r13_Read_r10 : List COper := [
  ⟨(some 28), .build [.v (.int .i64 0), .v (.int .i64 0), .v (.int .i64 0), .v (.int .i64 0), .arr 1 (rep 32 (.v (.int .u8 0))), .v (.int .i64 0), .node [.v (.int .i64 0), .node [.v (.slice none 0 0), .v (.slice none 0 0)], .v (.slice none 0 0)]] [], [], none⟩,
  ⟨none, .store true 41, [.t 2, .t 28], none⟩]
def c_r13_Read_r10 : List COper := a_r13_Read_r10
instance : Reg c_r13_Read_r10 a_r13_Read_r10 2 := ⟨rfl, rfl⟩
@[simp] def a_r13_Read_r11 : List COper := [
  ⟨(some 29), .load true 41, [.t 3], none⟩,
  ⟨none, .store true 41, [.t 2, .t 29], none⟩]
def c_r13_Read_r11 : List COper := a_r13_Read_r11
instance : Reg c_r13_Read_r11 a_r13_Read_r11 2 := ⟨rfl, rfl⟩
@[simp] def c_r13_Read : CCode :=
  .seq (.region c_r13_Read_r0 none [0, 2]) (.seq (.region c_r13_Read_r1 none [0, 2, 3]) (.seq (.region c_r13_Read_r2 none [0, 2, 3]) (.seq (.region c_r13_Read_r3 none [0, 2, 3]) (.seq (.region c_r13_Read_r4 none [0, 2, 3]) (.seq (.region c_r13_Read_r5 none [0, 2, 3]) (.seq (.region c_r13_Read_r6 none [0, 2, 3]) (.seq (.region c_r13_Read_r7 none [0, 2, 3]) (.seq (.region c_r13_Read_r8 none [0, 2, 3]) (.seq (.seq (.region c_r13_Read_r9 none [2, 3, 27]) (.cond (.t 27) (.seq (.region c_r13_Read_r10 none [2]) (.ret)) (.skip))) (.seq (.region c_r13_Read_r11 none [2]) (.ret)))))))))))
@[simp] def R_r13_Read : List CRes := [.cell 2 true 41]
theorem k_r13_Read : chkFn Try.prog fn_r13_Read c_r13_Read R_r13_Read 1 = true := by kernel_rfl
/-! wapentake/wapentakeref09.Read -/
@[simp] def a_r09_Read_r0 : List COper := [
  ⟨(some 2), .alloc (.node [.v (.int .i64 0), .v (.int .i64 0), .node [.v (.int .i64 0), .v (.string (mkS [])), .v (.string (mkS [])), .v (.string (mkS [])), .node [.v (.int .i64 0), .v (.int .i64 0), .v (.int .i64 0), .node [.arr 1 (rep 32 (.v (.int .u8 0))), .v (.int .i64 0)]]]]), [], none⟩]
def c_r09_Read_r0 : List COper := a_r09_Read_r0
instance : Reg c_r09_Read_r0 a_r09_Read_r0 1 := ⟨rfl, rfl⟩
@[simp] def a_r09_Read_r1 : List COper := [
  ⟨(some 3), .alloc (.node [.v (.int .i64 0), .v (.int .i64 0), .node [.v (.int .i64 0), .v (.string (mkS [])), .v (.string (mkS [])), .v (.string (mkS [])), .node [.v (.int .i64 0), .v (.int .i64 0), .v (.int .i64 0), .node [.arr 1 (rep 32 (.v (.int .u8 0))), .v (.int .i64 0)]]]]), [], none⟩]
def c_r09_Read_r1 : List COper := a_r09_Read_r1
instance : Reg c_r09_Read_r1 a_r09_Read_r1 1 := ⟨rfl, rfl⟩
@[simp] def a_r09_Read_r2 : List COper := [
  ⟨(some 4), .mov, [.t 0], none⟩,
  ⟨(some 5), .call fn_r01_Reader_In, [.t 4, .c (.int .i64 1), .c (.int .i64 64)], none⟩,
  ⟨(some 6), .faddr 0 1 false, [.t 3], none⟩,
  ⟨none, .store false 1, [.t 6, .t 5], none⟩]
def c_r09_Read_r2 : List COper := a_r09_Read_r2
instance : Reg c_r09_Read_r2 a_r09_Read_r2 4 := ⟨rfl, rfl⟩
@[simp] def a_r09_Read_r3 : List COper := [
  ⟨(some 7), .mov, [.t 0], none⟩,
  ⟨(some 8), .call fn_r01_Reader_In, [.t 7, .c (.int .i64 1), .c (.int .i64 1099511627776)], none⟩,
  ⟨(some 9), .faddr 1 1 false, [.t 3], none⟩,
  ⟨none, .store false 1, [.t 9, .t 8], none⟩]
def c_r09_Read_r3 : List COper := a_r09_Read_r3
instance : Reg c_r09_Read_r3 a_r09_Read_r3 4 := ⟨rfl, rfl⟩
@[simp] def a_r09_Read_r4 : List COper := [
  ⟨(some 10), .mov, [.t 0], none⟩,
  ⟨(some 11), .call fn_r01_Reader_In, [.t 10, .c (.int .i64 1), .c (.int .i64 7)], none⟩,
  ⟨(some 12), .faddr 2 40 true, [.t 3], none⟩,
  ⟨(some 13), .faddr 0 1 false, [.t 12], none⟩,
  ⟨none, .store false 1, [.t 13, .t 11], none⟩]
def c_r09_Read_r4 : List COper := a_r09_Read_r4
instance : Reg c_r09_Read_r4 a_r09_Read_r4 5 := ⟨rfl, rfl⟩
@[simp] def a_r09_Read_r5 : List COper := [
  ⟨(some 14), .mov, [.t 0], none⟩,
  ⟨(some 15), .call fn_r01_Reader_Text, [.t 14, .c (.int .i64 1024)], none⟩,
  ⟨(some 16), .faddr 2 40 true, [.t 3], none⟩,
  ⟨(some 17), .faddr 1 1 false, [.t 16], none⟩,
  ⟨none, .store false 1, [.t 17, .t 15], none⟩]
def c_r09_Read_r5 : List COper := a_r09_Read_r5
instance : Reg c_r09_Read_r5 a_r09_Read_r5 5 := ⟨rfl, rfl⟩
@[simp] def a_r09_Read_r6 : List COper := [
  ⟨(some 18), .mov, [.t 0], none⟩,
  ⟨(some 19), .call fn_r01_Reader_Text, [.t 18, .c (.int .i64 1024)], none⟩,
  ⟨(some 20), .faddr 2 40 true, [.t 3], none⟩,
  ⟨(some 21), .faddr 2 1 false, [.t 20], none⟩,
  ⟨none, .store false 1, [.t 21, .t 19], none⟩]
def c_r09_Read_r6 : List COper := a_r09_Read_r6
instance : Reg c_r09_Read_r6 a_r09_Read_r6 5 := ⟨rfl, rfl⟩
@[simp] def a_r09_Read_r7 : List COper := [
  ⟨(some 22), .mov, [.t 0], none⟩,
  ⟨(some 23), .call fn_r01_Reader_Text, [.t 22, .c (.int .i64 1024)], none⟩,
  ⟨(some 24), .faddr 2 40 true, [.t 3], none⟩,
  ⟨(some 25), .faddr 3 1 false, [.t 24], none⟩,
  ⟨none, .store false 1, [.t 25, .t 23], none⟩]
def c_r09_Read_r7 : List COper := a_r09_Read_r7
instance : Reg c_r09_Read_r7 a_r09_Read_r7 5 := ⟨rfl, rfl⟩
@[simp] def a_r09_Read_r8 : List COper := [
  ⟨(some 26), .mov, [.t 0], none⟩,
  ⟨(some 27), .call fn_r01_Reader_Num, [.t 26], none⟩,
  ⟨(some 28), .faddr 2 40 true, [.t 3], none⟩,
  ⟨(some 29), .faddr 4 36 true, [.t 28], none⟩,
  ⟨(some 30), .faddr 0 1 false, [.t 29], none⟩,
  ⟨none, .store false 1, [.t 30, .t 27], none⟩]
def c_r09_Read_r8 : List COper := a_r09_Read_r8
instance : Reg c_r09_Read_r8 a_r09_Read_r8 6 := ⟨rfl, rfl⟩
@[simp] def a_r09_Read_r9 : List COper := [
  ⟨(some 31), .mov, [.t 0], none⟩,
  ⟨(some 32), .call fn_r01_Reader_Num, [.t 31], none⟩,
  ⟨(some 33), .faddr 2 40 true, [.t 3], none⟩,
  ⟨(some 34), .faddr 4 36 true, [.t 33], none⟩,
  ⟨(some 35), .faddr 1 1 false, [.t 34], none⟩,
  ⟨none, .store false 1, [.t 35, .t 32], none⟩]
def c_r09_Read_r9 : List COper := a_r09_Read_r9
instance : Reg c_r09_Read_r9 a_r09_Read_r9 6 := ⟨rfl, rfl⟩
@[simp] def a_r09_Read_r10 : List COper := [
  ⟨(some 36), .mov, [.t 0], none⟩,
  ⟨(some 37), .call fn_r01_Reader_Num, [.t 36], none⟩,
  ⟨(some 38), .faddr 2 40 true, [.t 3], none⟩,
  ⟨(some 39), .faddr 4 36 true, [.t 38], none⟩,
  ⟨(some 40), .faddr 2 1 false, [.t 39], none⟩,
  ⟨none, .store false 1, [.t 40, .t 37], none⟩]
def c_r09_Read_r10 : List COper := a_r09_Read_r10
instance : Reg c_r09_Read_r10 a_r09_Read_r10 6 := ⟨rfl, rfl⟩
@[simp] def a_r09_Read_r11 : List COper := [
  ⟨(some 41), .mov, [.t 0], none⟩,
  ⟨(some 42), .call fn_r01_Reader_Num, [.t 41], none⟩,
  ⟨(some 43), .faddr 2 40 true, [.t 3], none⟩,
  ⟨(some 44), .faddr 4 36 true, [.t 43], none⟩,
  ⟨(some 45), .faddr 3 33 true, [.t 44], none⟩,
  ⟨(some 46), .faddr 32 1 false, [.t 45], none⟩,
  ⟨none, .store false 1, [.t 46, .t 42], none⟩]
def c_r09_Read_r11 : List COper := a_r09_Read_r11
instance : Reg c_r09_Read_r11 a_r09_Read_r11 7 := ⟨rfl, rfl⟩
@[simp] def a_r09_Read_r12 : List COper := [
  ⟨(some 47), .mov, [.t 0], none⟩,
  ⟨(some 48), .call fn_r01_Reader_Digest, [.t 47], none⟩,
  ⟨(some 49), .faddr 2 40 true, [.t 3], none⟩,
  ⟨(some 50), .faddr 4 36 true, [.t 49], none⟩,
  ⟨(some 51), .faddr 3 33 true, [.t 50], none⟩,
  ⟨(some 52), .faddr 0 32 true, [.t 51], none⟩,
  ⟨none, .store true 32, [.t 52, .t 48], none⟩]
def c_r09_Read_r12 : List COper := a_r09_Read_r12
instance : Reg c_r09_Read_r12 a_r09_Read_r12 7 := ⟨rfl, rfl⟩
@[simp] def a_r09_Read_r13 : List COper := [
  ⟨(some 53), .mov, [.t 0], none⟩,
  ⟨(some 54), .call fn_r01_Reader_Good, [.t 53], none⟩,
  ⟨(some 55), .not, [.t 54], none⟩]
def c_r09_Read_r13 : List COper := a_r09_Read_r13
instance : Reg c_r09_Read_r13 a_r09_Read_r13 3 := ⟨rfl, rfl⟩
@[simp] def a_r09_Read_r14 : List COper := [
  ⟨(some 56), .build [.v (.int .i64 0), .v (.int .i64 0), .node [.v (.int .i64 0), .v (.string (mkS [])), .v (.string (mkS [])), .v (.string (mkS [])), .node [.v (.int .i64 0), .v (.int .i64 0), .v (.int .i64 0), .node [.arr 1 (rep 32 (.v (.int .u8 0))), .v (.int .i64 0)]]]] [], [], none⟩,
  ⟨none, .store true 42, [.t 2, .t 56], none⟩]
def c_r09_Read_r14 : List COper := a_r09_Read_r14
instance : Reg c_r09_Read_r14 a_r09_Read_r14 2 := ⟨rfl, rfl⟩
@[simp] def a_r09_Read_r15 : List COper := [
  ⟨(some 57), .load true 42, [.t 3], none⟩,
  ⟨none, .store true 42, [.t 2, .t 57], none⟩]
def c_r09_Read_r15 : List COper := a_r09_Read_r15
instance : Reg c_r09_Read_r15 a_r09_Read_r15 2 := ⟨rfl, rfl⟩
@[simp] def c_r09_Read : CCode :=
  .seq (.region c_r09_Read_r0 none [0, 2]) (.seq (.region c_r09_Read_r1 none [0, 2, 3]) (.seq (.region c_r09_Read_r2 none [0, 2, 3]) (.seq (.region c_r09_Read_r3 none [0, 2, 3]) (.seq (.region c_r09_Read_r4 none [0, 2, 3]) (.seq (.region c_r09_Read_r5 none [0, 2, 3]) (.seq (.region c_r09_Read_r6 none [0, 2, 3]) (.seq (.region c_r09_Read_r7 none [0, 2, 3]) (.seq (.region c_r09_Read_r8 none [0, 2, 3]) (.seq (.region c_r09_Read_r9 none [0, 2, 3]) (.seq (.region c_r09_Read_r10 none [0, 2, 3]) (.seq (.region c_r09_Read_r11 none [0, 2, 3]) (.seq (.region c_r09_Read_r12 none [0, 2, 3]) (.seq (.seq (.region c_r09_Read_r13 none [2, 3, 55]) (.cond (.t 55) (.seq (.region c_r09_Read_r14 none [2]) (.ret)) (.skip))) (.seq (.region c_r09_Read_r15 none [2]) (.ret)))))))))))))))
@[simp] def R_r09_Read : List CRes := [.cell 2 true 42]
theorem k_r09_Read : chkFn Try.prog fn_r09_Read c_r09_Read R_r09_Read 1 = true := by kernel_rfl
/-! wapentake/wapentakeref09.ReadReply -/
@[simp] def a_r09_ReadReply_r0 : List COper := [
  ⟨(some 2), .alloc (.node [.v (.int .i64 0), .v (.int .i64 0), .v (.int .i64 0), .v (.slice none 0 0)]), [], none⟩]
def c_r09_ReadReply_r0 : List COper := a_r09_ReadReply_r0
instance : Reg c_r09_ReadReply_r0 a_r09_ReadReply_r0 1 := ⟨rfl, rfl⟩
@[simp] def a_r09_ReadReply_r1 : List COper := [
  ⟨(some 3), .alloc (.node [.v (.int .i64 0), .v (.int .i64 0), .v (.int .i64 0), .v (.slice none 0 0)]), [], none⟩]
def c_r09_ReadReply_r1 : List COper := a_r09_ReadReply_r1
instance : Reg c_r09_ReadReply_r1 a_r09_ReadReply_r1 1 := ⟨rfl, rfl⟩
@[simp] def a_r09_ReadReply_r2 : List COper := [
  ⟨(some 6), .mov, [.t 0], none⟩,
  ⟨(some 7), .call fn_r01_Reader_In, [.t 6, .c (.int .i64 1), .c (.int .i64 64)], none⟩,
  ⟨(some 8), .faddr 0 1 false, [.t 3], none⟩,
  ⟨none, .store false 1, [.t 8, .t 7], none⟩]
def c_r09_ReadReply_r2 : List COper := a_r09_ReadReply_r2
instance : Reg c_r09_ReadReply_r2 a_r09_ReadReply_r2 4 := ⟨rfl, rfl⟩
@[simp] def a_r09_ReadReply_r3 : List COper := [
  ⟨(some 9), .mov, [.t 0], none⟩,
  ⟨(some 10), .call fn_r01_Reader_In, [.t 9, .c (.int .i64 1), .c (.int .i64 1099511627776)], none⟩,
  ⟨(some 11), .faddr 1 1 false, [.t 3], none⟩,
  ⟨none, .store false 1, [.t 11, .t 10], none⟩]
def c_r09_ReadReply_r3 : List COper := a_r09_ReadReply_r3
instance : Reg c_r09_ReadReply_r3 a_r09_ReadReply_r3 4 := ⟨rfl, rfl⟩
@[simp] def a_r09_ReadReply_r4 : List COper := [
  ⟨(some 12), .mov, [.t 0], none⟩,
  ⟨(some 13), .call fn_r01_Reader_In, [.t 12, .c (.int .i64 0), .c (.int .i64 1024)], none⟩,
  ⟨(some 14), .faddr 2 1 false, [.t 3], none⟩,
  ⟨none, .store false 1, [.t 14, .t 13], none⟩]
def c_r09_ReadReply_r4 : List COper := a_r09_ReadReply_r4
instance : Reg c_r09_ReadReply_r4 a_r09_ReadReply_r4 4 := ⟨rfl, rfl⟩
@[simp] def a_r09_ReadReply_r5 : List COper := [
  ⟨(some 15), .mov, [.t 0], none⟩,
  ⟨(some 16), .call fn_r01_Reader_In, [.t 15, .c (.int .i64 0), .c (.int .i64 256)], none⟩,
  ⟨(some 4), .mov, [.t 16], none⟩]
def c_r09_ReadReply_r5 : List COper := a_r09_ReadReply_r5
instance : Reg c_r09_ReadReply_r5 a_r09_ReadReply_r5 3 := ⟨rfl, rfl⟩
@[simp] def a_r09_ReadReply_r6 : List COper := [
  ⟨(some 5), .mov, [.c (.int .i64 0)], none⟩]
def c_r09_ReadReply_r6 : List COper := a_r09_ReadReply_r6
instance : Reg c_r09_ReadReply_r6 a_r09_ReadReply_r6 1 := ⟨rfl, rfl⟩
@[simp] def a_r09_ReadReply_r7 : List COper := [
  ⟨(some 17), .mov, [.t 5], none⟩,
  ⟨(some 18), .mov, [.t 4], none⟩,
  ⟨(some 19), .bin .lss, [.t 17, .t 18], none⟩,
  ⟨(some 20), .mov, [.t 19], none⟩,
  ⟨(some 21), .mov, [.t 0], (some (20, true))⟩,
  ⟨(some 22), .call fn_r01_Reader_Good, [.t 21], (some (20, true))⟩,
  ⟨(some 23), .pick, [.t 20, .t 22, .c (.bool false)], none⟩]
def c_r09_ReadReply_r7 : List COper := a_r09_ReadReply_r7
instance : Reg c_r09_ReadReply_r7 a_r09_ReadReply_r7 7 := ⟨rfl, rfl⟩
@[simp] def a_r09_ReadReply_r9 : List COper := [
  ⟨(some 26), .faddr 3 1 false, [.t 3], none⟩,
  ⟨(some 27), .load false 1, [.t 26], none⟩,
  ⟨(some 28), .mov, [.t 0], none⟩,
  ⟨(some 29), .call fn_r01_Reader_Text, [.t 28, .c (.int .i64 1024)], none⟩,
  ⟨(some 30), .bslice 1 1 (.v (.string (mkS []))) [0], [.t 29], none⟩,
  ⟨(some 31), .app 1 16, [.t 27, .t 30], none⟩,
  ⟨(some 32), .faddr 3 1 false, [.t 3], none⟩,
  ⟨none, .store false 1, [.t 32, .t 31], none⟩]
def c_r09_ReadReply_r9 : List COper := a_r09_ReadReply_r9
instance : Reg c_r09_ReadReply_r9 a_r09_ReadReply_r9 8 := ⟨rfl, rfl⟩
@[simp] def a_r09_ReadReply_r8 : List COper := [
  ⟨(some 24), .mov, [.t 5], none⟩,
  ⟨(some 25), .bin .add, [.t 24, .c (.int .i64 1)], none⟩,
  ⟨(some 5), .mov, [.t 25], none⟩]
def c_r09_ReadReply_r8 : List COper := a_r09_ReadReply_r8
instance : Reg c_r09_ReadReply_r8 a_r09_ReadReply_r8 3 := ⟨rfl, rfl⟩
@[simp] def a_r09_ReadReply_r10 : List COper := [
  ⟨(some 33), .mov, [.t 0], none⟩,
  ⟨(some 34), .call fn_r01_Reader_Good, [.t 33], none⟩,
  ⟨(some 35), .not, [.t 34], none⟩]
def c_r09_ReadReply_r10 : List COper := a_r09_ReadReply_r10
instance : Reg c_r09_ReadReply_r10 a_r09_ReadReply_r10 3 := ⟨rfl, rfl⟩
@[simp] def a_r09_ReadReply_r11 : List COper := [
  ⟨(some 36), .build [.v (.int .i64 0), .v (.int .i64 0), .v (.int .i64 0), .v (.slice none 0 0)] [], [], none⟩,
  ⟨none, .store true 4, [.t 2, .t 36], none⟩]
def c_r09_ReadReply_r11 : List COper := a_r09_ReadReply_r11
instance : Reg c_r09_ReadReply_r11 a_r09_ReadReply_r11 2 := ⟨rfl, rfl⟩
@[simp] def a_r09_ReadReply_r12 : List COper := [
  ⟨(some 37), .load true 4, [.t 3], none⟩,
  ⟨none, .store true 4, [.t 2, .t 37], none⟩]
def c_r09_ReadReply_r12 : List COper := a_r09_ReadReply_r12
instance : Reg c_r09_ReadReply_r12 a_r09_ReadReply_r12 2 := ⟨rfl, rfl⟩
@[simp] def c_r09_ReadReply : CCode :=
  .seq (.region c_r09_ReadReply_r0 none [0, 2]) (.seq (.region c_r09_ReadReply_r1 none [0, 2, 3]) (.seq (.region c_r09_ReadReply_r2 none [0, 2, 3]) (.seq (.region c_r09_ReadReply_r3 none [0, 2, 3]) (.seq (.region c_r09_ReadReply_r4 none [0, 2, 3]) (.seq (.region c_r09_ReadReply_r5 none [0, 2, 3, 4]) (.seq (.seq (.region c_r09_ReadReply_r6 none [0, 2, 3, 4, 5]) (.block 0 (.loop (.seq (.seq (.region c_r09_ReadReply_r7 none [0, 2, 3, 4, 5, 23]) (.cond (.t 23) (.skip) (.exit 0))) (.seq (.block 1 (.region c_r09_ReadReply_r9 (some ([0, 1, 0, 4, 12, 31, 63, 127], [(1, 3), (1, 4)])) [0, 2, 3, 4, 5])) (.region c_r09_ReadReply_r8 none [0, 2, 3, 4, 5])))))) (.seq (.seq (.region c_r09_ReadReply_r10 none [2, 3, 35]) (.cond (.t 35) (.seq (.region c_r09_ReadReply_r11 none [2]) (.ret)) (.skip))) (.seq (.region c_r09_ReadReply_r12 none [2]) (.ret)))))))))
@[simp] def R_r09_ReadReply : List CRes := [.cell 2 true 4]
theorem k_r09_ReadReply : chkFn Try.prog fn_r09_ReadReply c_r09_ReadReply R_r09_ReadReply 1 = true := by kernel_rfl
/-! wapentake/wapentakeref12.Read -/
@[simp] def a_r12_Read_r0 : List COper := [
  ⟨(some 2), .alloc (.node [.v (.int .i64 0), .v (.int .i64 0), .arr 1 (rep 32 (.v (.int .u8 0))), .arr 1 (rep 32 (.v (.int .u8 0))), .arr 1 (rep 32 (.v (.int .u8 0))), .v (.slice none 0 0)]), [], none⟩]
def c_r12_Read_r0 : List COper := a_r12_Read_r0
instance : Reg c_r12_Read_r0 a_r12_Read_r0 1 := ⟨rfl, rfl⟩
@[simp] def a_r12_Read_r1 : List COper := [
  ⟨(some 3), .alloc (.node [.v (.int .i64 0), .v (.int .i64 0), .arr 1 (rep 32 (.v (.int .u8 0))), .arr 1 (rep 32 (.v (.int .u8 0))), .arr 1 (rep 32 (.v (.int .u8 0))), .v (.slice none 0 0)]), [], none⟩]
def c_r12_Read_r1 : List COper := a_r12_Read_r1
instance : Reg c_r12_Read_r1 a_r12_Read_r1 1 := ⟨rfl, rfl⟩
@[simp] def a_r12_Read_r2 : List COper := [
  ⟨(some 6), .mov, [.t 0], none⟩,
  ⟨(some 7), .call fn_r01_Reader_In, [.t 6, .c (.int .i64 0), .c (.int .i64 1073741824)], none⟩,
  ⟨(some 8), .faddr 0 1 false, [.t 3], none⟩,
  ⟨none, .store false 1, [.t 8, .t 7], none⟩]
def c_r12_Read_r2 : List COper := a_r12_Read_r2
instance : Reg c_r12_Read_r2 a_r12_Read_r2 4 := ⟨rfl, rfl⟩
@[simp] def a_r12_Read_r3 : List COper := [
  ⟨(some 9), .mov, [.t 0], none⟩,
  ⟨(some 10), .call fn_r01_Reader_In, [.t 9, .c (.int .i64 1), .c (.int .i64 1024)], none⟩,
  ⟨(some 11), .faddr 1 1 false, [.t 3], none⟩,
  ⟨none, .store false 1, [.t 11, .t 10], none⟩]
def c_r12_Read_r3 : List COper := a_r12_Read_r3
instance : Reg c_r12_Read_r3 a_r12_Read_r3 4 := ⟨rfl, rfl⟩
@[simp] def a_r12_Read_r4 : List COper := [
  ⟨(some 12), .mov, [.t 0], none⟩,
  ⟨(some 13), .call fn_r01_Reader_Digest, [.t 12], none⟩,
  ⟨(some 14), .faddr 2 32 true, [.t 3], none⟩,
  ⟨none, .store true 32, [.t 14, .t 13], none⟩]
def c_r12_Read_r4 : List COper := a_r12_Read_r4
instance : Reg c_r12_Read_r4 a_r12_Read_r4 4 := ⟨rfl, rfl⟩
@[simp] def a_r12_Read_r5 : List COper := [
  ⟨(some 15), .mov, [.t 0], none⟩,
  ⟨(some 16), .call fn_r01_Reader_Digest, [.t 15], none⟩,
  ⟨(some 17), .faddr 34 32 true, [.t 3], none⟩,
  ⟨none, .store true 32, [.t 17, .t 16], none⟩]
def c_r12_Read_r5 : List COper := a_r12_Read_r5
instance : Reg c_r12_Read_r5 a_r12_Read_r5 4 := ⟨rfl, rfl⟩
@[simp] def a_r12_Read_r6 : List COper := [
  ⟨(some 18), .mov, [.t 0], none⟩,
  ⟨(some 19), .call fn_r01_Reader_Digest, [.t 18], none⟩,
  ⟨(some 20), .faddr 66 32 true, [.t 3], none⟩,
  ⟨none, .store true 32, [.t 20, .t 19], none⟩]
def c_r12_Read_r6 : List COper := a_r12_Read_r6
instance : Reg c_r12_Read_r6 a_r12_Read_r6 4 := ⟨rfl, rfl⟩
@[simp] def a_r12_Read_r7 : List COper := [
  ⟨(some 21), .mov, [.t 0], none⟩,
  ⟨(some 22), .call fn_r01_Reader_In, [.t 21, .c (.int .i64 0), .c (.int .i64 8)], none⟩,
  ⟨(some 4), .mov, [.t 22], none⟩]
def c_r12_Read_r7 : List COper := a_r12_Read_r7
instance : Reg c_r12_Read_r7 a_r12_Read_r7 3 := ⟨rfl, rfl⟩
@[simp] def a_r12_Read_r8 : List COper := [
  ⟨(some 5), .mov, [.c (.int .i64 0)], none⟩]
def c_r12_Read_r8 : List COper := a_r12_Read_r8
instance : Reg c_r12_Read_r8 a_r12_Read_r8 1 := ⟨rfl, rfl⟩
@[simp] def a_r12_Read_r9 : List COper := [
  ⟨(some 23), .mov, [.t 5], none⟩,
  ⟨(some 24), .mov, [.t 4], none⟩,
  ⟨(some 25), .bin .lss, [.t 23, .t 24], none⟩,
  ⟨(some 26), .mov, [.t 25], none⟩,
  ⟨(some 27), .mov, [.t 0], (some (26, true))⟩,
  ⟨(some 28), .call fn_r01_Reader_Good, [.t 27], (some (26, true))⟩,
  ⟨(some 29), .pick, [.t 26, .t 28, .c (.bool false)], none⟩]
def c_r12_Read_r9 : List COper := a_r12_Read_r9
instance : Reg c_r12_Read_r9 a_r12_Read_r9 7 := ⟨rfl, rfl⟩
@[simp] def a_r12_Read_r11 : List COper := [
  ⟨(some 32), .faddr 98 1 false, [.t 3], none⟩,
  ⟨(some 33), .load false 1, [.t 32], none⟩,
  ⟨(some 34), .mov, [.t 0], none⟩,
  ⟨(some 35), .call fn_r09_Read, [.t 34], none⟩,
  ⟨(some 36), .bslice 42 1 (.node [.v (.int .i64 0), .v (.int .i64 0), .node [.v (.int .i64 0), .v (.string (mkS [])), .v (.string (mkS [])), .v (.string (mkS [])), .node [.v (.int .i64 0), .v (.int .i64 0), .v (.int .i64 0), .node [.arr 1 (rep 32 (.v (.int .u8 0))), .v (.int .i64 0)]]]]) [0], [.t 35], none⟩,
  ⟨(some 37), .app 42 136, [.t 33, .t 36], none⟩,
  ⟨(some 38), .faddr 98 1 false, [.t 3], none⟩,
  ⟨none, .store false 1, [.t 38, .t 37], none⟩]
def c_r12_Read_r11 : List COper := a_r12_Read_r11
instance : Reg c_r12_Read_r11 a_r12_Read_r11 8 := ⟨rfl, rfl⟩
@[simp] def a_r12_Read_r10 : List COper := [
  ⟨(some 30), .mov, [.t 5], none⟩,
  ⟨(some 31), .bin .add, [.t 30, .c (.int .i64 1)], none⟩,
  ⟨(some 5), .mov, [.t 31], none⟩]
def c_r12_Read_r10 : List COper := a_r12_Read_r10
instance : Reg c_r12_Read_r10 a_r12_Read_r10 3 := ⟨rfl, rfl⟩
@[simp] def a_r12_Read_r12 : List COper := [
  ⟨(some 39), .mov, [.t 0], none⟩,
  ⟨(some 40), .call fn_r01_Reader_Good, [.t 39], none⟩,
  ⟨(some 41), .not, [.t 40], none⟩]
def c_r12_Read_r12 : List COper := a_r12_Read_r12
instance : Reg c_r12_Read_r12 a_r12_Read_r12 3 := ⟨rfl, rfl⟩
@[simp] def a_r12_Read_r13 : List COper := [
  ⟨(some 42), .build [.v (.int .i64 0), .v (.int .i64 0), .arr 1 (rep 32 (.v (.int .u8 0))), .arr 1 (rep 32 (.v (.int .u8 0))), .arr 1 (rep 32 (.v (.int .u8 0))), .v (.slice none 0 0)] [], [], none⟩,
  ⟨none, .store true 99, [.t 2, .t 42], none⟩]
def c_r12_Read_r13 : List COper := a_r12_Read_r13
instance : Reg c_r12_Read_r13 a_r12_Read_r13 2 := ⟨rfl, rfl⟩
@[simp] def a_r12_Read_r14 : List COper := [
  ⟨(some 43), .load true 99, [.t 3], none⟩,
  ⟨none, .store true 99, [.t 2, .t 43], none⟩]
def c_r12_Read_r14 : List COper := a_r12_Read_r14
instance : Reg c_r12_Read_r14 a_r12_Read_r14 2 := ⟨rfl, rfl⟩
@[simp] def c_r12_Read : CCode :=
  .seq (.region c_r12_Read_r0 none [0, 2]) (.seq (.region c_r12_Read_r1 none [0, 2, 3]) (.seq (.region c_r12_Read_r2 none [0, 2, 3]) (.seq (.region c_r12_Read_r3 none [0, 2, 3]) (.seq (.region c_r12_Read_r4 none [0, 2, 3]) (.seq (.region c_r12_Read_r5 none [0, 2, 3]) (.seq (.region c_r12_Read_r6 none [0, 2, 3]) (.seq (.region c_r12_Read_r7 none [0, 2, 3, 4]) (.seq (.seq (.region c_r12_Read_r8 none [0, 2, 3, 4, 5]) (.block 0 (.loop (.seq (.seq (.region c_r12_Read_r9 none [0, 2, 3, 4, 5, 29]) (.cond (.t 29) (.skip) (.exit 0))) (.seq (.block 1 (.region c_r12_Read_r11 (some ([0, 1, 0, 4, 12, 31, 63, 127], [(1, 3), (1, 4)])) [0, 2, 3, 4, 5])) (.region c_r12_Read_r10 none [0, 2, 3, 4, 5])))))) (.seq (.seq (.region c_r12_Read_r12 none [2, 3, 41]) (.cond (.t 41) (.seq (.region c_r12_Read_r13 none [2]) (.ret)) (.skip))) (.seq (.region c_r12_Read_r14 none [2]) (.ret)))))))))))
@[simp] def R_r12_Read : List CRes := [.cell 2 true 99]
theorem k_r12_Read : chkFn Try.prog fn_r12_Read c_r12_Read R_r12_Read 1 = true := by kernel_rfl
/-! wapentake/wapentakeref14.Read -/
@[simp] def a_r14_Read_r0 : List COper := [
  ⟨(some 2), .alloc (.node [.v (.int .i64 0), .v (.slice none 0 0)]), [], none⟩]
def c_r14_Read_r0 : List COper := a_r14_Read_r0
instance : Reg c_r14_Read_r0 a_r14_Read_r0 1 := ⟨rfl, rfl⟩
@[simp] def a_r14_Read_r1 : List COper := [
  ⟨(some 3), .alloc (.node [.v (.int .i64 0), .v (.slice none 0 0)]), [], none⟩]
def c_r14_Read_r1 : List COper := a_r14_Read_r1
instance : Reg c_r14_Read_r1 a_r14_Read_r1 1 := ⟨rfl, rfl⟩
@[simp] def a_r14_Read_r2 : List COper := [
  ⟨(some 6), .mov, [.t 0], none⟩,
  ⟨(some 7), .call fn_r01_Reader_In, [.t 6, .c (.int .i64 0), .c (.int .i64 1024)], none⟩,
  ⟨(some 8), .faddr 0 1 false, [.t 3], none⟩,
  ⟨none, .store false 1, [.t 8, .t 7], none⟩]
def c_r14_Read_r2 : List COper := a_r14_Read_r2
instance : Reg c_r14_Read_r2 a_r14_Read_r2 4 := ⟨rfl, rfl⟩
@[simp] def a_r14_Read_r3 : List COper := [
  ⟨(some 9), .mov, [.t 0], none⟩,
  ⟨(some 10), .call fn_r01_Reader_In, [.t 9, .c (.int .i64 1), .c (.int .i64 10)], none⟩,
  ⟨(some 4), .mov, [.t 10], none⟩]
def c_r14_Read_r3 : List COper := a_r14_Read_r3
instance : Reg c_r14_Read_r3 a_r14_Read_r3 3 := ⟨rfl, rfl⟩
@[simp] def a_r14_Read_r4 : List COper := [
  ⟨(some 5), .mov, [.c (.int .i64 0)], none⟩]
def c_r14_Read_r4 : List COper := a_r14_Read_r4
instance : Reg c_r14_Read_r4 a_r14_Read_r4 1 := ⟨rfl, rfl⟩
@[simp] def a_r14_Read_r5 : List COper := [
  ⟨(some 11), .mov, [.t 5], none⟩,
  ⟨(some 12), .mov, [.t 4], none⟩,
  ⟨(some 13), .bin .lss, [.t 11, .t 12], none⟩,
  ⟨(some 14), .mov, [.t 13], none⟩,
  ⟨(some 15), .mov, [.t 0], (some (14, true))⟩,
  ⟨(some 16), .call fn_r01_Reader_Good, [.t 15], (some (14, true))⟩,
  ⟨(some 17), .pick, [.t 14, .t 16, .c (.bool false)], none⟩]
def c_r14_Read_r5 : List COper := a_r14_Read_r5
instance : Reg c_r14_Read_r5 a_r14_Read_r5 7 := ⟨rfl, rfl⟩
@[simp] def a_r14_Read_r7 : List COper := [
  ⟨(some 20), .faddr 1 1 false, [.t 3], none⟩,
  ⟨(some 21), .load false 1, [.t 20], none⟩,
  ⟨(some 22), .mov, [.t 0], none⟩,
  ⟨(some 23), .call fn_r13_Read, [.t 22], none⟩,
  ⟨(some 24), .bslice 41 1 (.node [.v (.int .i64 0), .v (.int .i64 0), .v (.int .i64 0), .v (.int .i64 0), .arr 1 (rep 32 (.v (.int .u8 0))), .v (.int .i64 0), .node [.v (.int .i64 0), .node [.v (.slice none 0 0), .v (.slice none 0 0)], .v (.slice none 0 0)]]) [0], [.t 23], none⟩,
  ⟨(some 25), .app 41 152, [.t 21, .t 24], none⟩,
  ⟨(some 26), .faddr 1 1 false, [.t 3], none⟩,
  ⟨none, .store false 1, [.t 26, .t 25], none⟩]
def c_r14_Read_r7 : List COper := a_r14_Read_r7
instance : Reg c_r14_Read_r7 a_r14_Read_r7 8 := ⟨rfl, rfl⟩
@[simp] def a_r14_Read_r6 : List COper := [
  ⟨(some 18), .mov, [.t 5], none⟩,
  ⟨(some 19), .bin .add, [.t 18, .c (.int .i64 1)], none⟩,
  ⟨(some 5), .mov, [.t 19], none⟩]
def c_r14_Read_r6 : List COper := a_r14_Read_r6
instance : Reg c_r14_Read_r6 a_r14_Read_r6 3 := ⟨rfl, rfl⟩
@[simp] def a_r14_Read_r8 : List COper := [
  ⟨(some 27), .mov, [.t 0], none⟩,
  ⟨(some 28), .call fn_r01_Reader_Good, [.t 27], none⟩,
  ⟨(some 29), .not, [.t 28], none⟩]
def c_r14_Read_r8 : List COper := a_r14_Read_r8
instance : Reg c_r14_Read_r8 a_r14_Read_r8 3 := ⟨rfl, rfl⟩
@[simp] def a_r14_Read_r9 : List COper := [
  ⟨(some 30), .build [.v (.int .i64 0), .v (.slice none 0 0)] [], [], none⟩,
  ⟨none, .store true 2, [.t 2, .t 30], none⟩]
def c_r14_Read_r9 : List COper := a_r14_Read_r9
instance : Reg c_r14_Read_r9 a_r14_Read_r9 2 := ⟨rfl, rfl⟩
@[simp] def a_r14_Read_r10 : List COper := [
  ⟨(some 31), .load true 2, [.t 3], none⟩,
  ⟨none, .store true 2, [.t 2, .t 31], none⟩]
def c_r14_Read_r10 : List COper := a_r14_Read_r10
instance : Reg c_r14_Read_r10 a_r14_Read_r10 2 := ⟨rfl, rfl⟩
@[simp] def c_r14_Read : CCode :=
  .seq (.region c_r14_Read_r0 none [0, 2]) (.seq (.region c_r14_Read_r1 none [0, 2, 3]) (.seq (.region c_r14_Read_r2 none [0, 2, 3]) (.seq (.region c_r14_Read_r3 none [0, 2, 3, 4]) (.seq (.seq (.region c_r14_Read_r4 none [0, 2, 3, 4, 5]) (.block 0 (.loop (.seq (.seq (.region c_r14_Read_r5 none [0, 2, 3, 4, 5, 17]) (.cond (.t 17) (.skip) (.exit 0))) (.seq (.block 1 (.region c_r14_Read_r7 (some ([0, 1, 0, 4, 12, 31, 63, 127], [(1, 3), (1, 4)])) [0, 2, 3, 4, 5])) (.region c_r14_Read_r6 none [0, 2, 3, 4, 5])))))) (.seq (.seq (.region c_r14_Read_r8 none [2, 3, 29]) (.cond (.t 29) (.seq (.region c_r14_Read_r9 none [2]) (.ret)) (.skip))) (.seq (.region c_r14_Read_r10 none [2]) (.ret)))))))
@[simp] def R_r14_Read : List CRes := [.cell 2 true 2]
theorem k_r14_Read : chkFn Try.prog fn_r14_Read c_r14_Read R_r14_Read 1 = true := by kernel_rfl
/-! (*wapentake/wapentakeref01.Reader).Good -/
@[simp] def a_r01_Reader_Good_r0 : List COper := [
  ⟨(some 2), .mov, [.c (.bool false)], none⟩]
def c_r01_Reader_Good_r0 : List COper := a_r01_Reader_Good_r0
instance : Reg c_r01_Reader_Good_r0 a_r01_Reader_Good_r0 1 := ⟨rfl, rfl⟩
@[simp] def a_r01_Reader_Good_r1 : List COper := [
  ⟨(some 3), .mov, [.t 0], none⟩,
  ⟨(some 4), .nilc, [.t 3], none⟩,
  ⟨(some 5), .faddr 1 1 false, [.t 4], none⟩,
  ⟨(some 6), .load false 1, [.t 5], none⟩,
  ⟨(some 7), .not, [.t 6], none⟩,
  ⟨(some 2), .mov, [.t 7], none⟩]
def c_r01_Reader_Good_r1 : List COper := a_r01_Reader_Good_r1
instance : Reg c_r01_Reader_Good_r1 a_r01_Reader_Good_r1 6 := ⟨rfl, rfl⟩
@[simp] def c_r01_Reader_Good : CCode :=
  .seq (.region c_r01_Reader_Good_r0 none [0]) (.seq (.region c_r01_Reader_Good_r1 none [2]) (.ret))
@[simp] def R_r01_Reader_Good : List CRes := [.tmp 2]
theorem k_r01_Reader_Good : chkFn Try.prog fn_r01_Reader_Good c_r01_Reader_Good R_r01_Reader_Good 1 = true := by kernel_rfl
/-! wapentake/wapentakeref15.Read -/
@[simp] def a_r15_Read_r0 : List COper := [
  ⟨(some 2), .alloc (.node [.node [.v (.int .i64 0), .v (.int .i64 0), .arr 1 (rep 32 (.v (.int .u8 0))), .arr 1 (rep 32 (.v (.int .u8 0))), .arr 1 (rep 32 (.v (.int .u8 0))), .v (.slice none 0 0)], .node [.v (.int .i64 0), .v (.slice none 0 0)], .node [.v (.int .i64 0), .v (.slice none 0 0)]]), [], none⟩]
def c_r15_Read_r0 : List COper := a_r15_Read_r0
instance : Reg c_r15_Read_r0 a_r15_Read_r0 1 := ⟨rfl, rfl⟩
@[simp] def a_r15_Read_r1 : List COper := [
  ⟨(some 3), .alloc (.node [.node [.v (.int .i64 0), .v (.int .i64 0), .arr 1 (rep 32 (.v (.int .u8 0))), .arr 1 (rep 32 (.v (.int .u8 0))), .arr 1 (rep 32 (.v (.int .u8 0))), .v (.slice none 0 0)], .node [.v (.int .i64 0), .v (.slice none 0 0)], .node [.v (.int .i64 0), .v (.slice none 0 0)]]), [], none⟩]
def c_r15_Read_r1 : List COper := a_r15_Read_r1
instance : Reg c_r15_Read_r1 a_r15_Read_r1 1 := ⟨rfl, rfl⟩
@[simp] def a_r15_Read_r2 : List COper := [
  ⟨(some 4), .mov, [.t 0], none⟩,
  ⟨(some 5), .call fn_r12_Read, [.t 4], none⟩,
  ⟨(some 6), .faddr 0 99 true, [.t 3], none⟩,
  ⟨none, .store true 99, [.t 6, .t 5], none⟩]
def c_r15_Read_r2 : List COper := a_r15_Read_r2
instance : Reg c_r15_Read_r2 a_r15_Read_r2 4 := ⟨rfl, rfl⟩
@[simp] def a_r15_Read_r3 : List COper := [
  ⟨(some 7), .mov, [.t 0], none⟩,
  ⟨(some 8), .call fn_r14_Read, [.t 7], none⟩,
  ⟨(some 9), .faddr 99 2 true, [.t 3], none⟩,
  ⟨none, .store true 2, [.t 9, .t 8], none⟩]
def c_r15_Read_r3 : List COper := a_r15_Read_r3
instance : Reg c_r15_Read_r3 a_r15_Read_r3 4 := ⟨rfl, rfl⟩
@[simp] def a_r15_Read_r4 : List COper := [
  ⟨(some 10), .mov, [.t 0], none⟩,
  ⟨(some 11), .call fn_r08_Read, [.t 10], none⟩,
  ⟨(some 12), .faddr 101 2 true, [.t 3], none⟩,
  ⟨none, .store true 2, [.t 12, .t 11], none⟩]
def c_r15_Read_r4 : List COper := a_r15_Read_r4
instance : Reg c_r15_Read_r4 a_r15_Read_r4 4 := ⟨rfl, rfl⟩
@[simp] def a_r15_Read_r5 : List COper := [
  ⟨(some 13), .mov, [.t 0], none⟩,
  ⟨(some 14), .call fn_r01_Reader_Good, [.t 13], none⟩,
  ⟨(some 15), .not, [.t 14], none⟩]
def c_r15_Read_r5 : List COper := a_r15_Read_r5
instance : Reg c_r15_Read_r5 a_r15_Read_r5 3 := ⟨rfl, rfl⟩
@[simp] def a_r15_Read_r6 : List COper := [
  ⟨(some 16), .build [.node [.v (.int .i64 0), .v (.int .i64 0), .arr 1 (rep 32 (.v (.int .u8 0))), .arr 1 (rep 32 (.v (.int .u8 0))), .arr 1 (rep 32 (.v (.int .u8 0))), .v (.slice none 0 0)], .node [.v (.int .i64 0), .v (.slice none 0 0)], .node [.v (.int .i64 0), .v (.slice none 0 0)]] [], [], none⟩,
  ⟨none, .store true 103, [.t 2, .t 16], none⟩]
def c_r15_Read_r6 : List COper := a_r15_Read_r6
instance : Reg c_r15_Read_r6 a_r15_Read_r6 2 := ⟨rfl, rfl⟩
@[simp] def a_r15_Read_r7 : List COper := [
  ⟨(some 17), .load true 103, [.t 3], none⟩,
  ⟨none, .store true 103, [.t 2, .t 17], none⟩]
def c_r15_Read_r7 : List COper := a_r15_Read_r7
instance : Reg c_r15_Read_r7 a_r15_Read_r7 2 := ⟨rfl, rfl⟩
@[simp] def c_r15_Read : CCode :=
  .seq (.region c_r15_Read_r0 none [0, 2]) (.seq (.region c_r15_Read_r1 none [0, 2, 3]) (.seq (.region c_r15_Read_r2 none [0, 2, 3]) (.seq (.region c_r15_Read_r3 none [0, 2, 3]) (.seq (.region c_r15_Read_r4 none [0, 2, 3]) (.seq (.seq (.region c_r15_Read_r5 none [2, 3, 15]) (.cond (.t 15) (.seq (.region c_r15_Read_r6 none [2]) (.ret)) (.skip))) (.seq (.region c_r15_Read_r7 none [2]) (.ret)))))))
@[simp] def R_r15_Read : List CRes := [.cell 2 true 103]
theorem k_r15_Read : chkFn Try.prog fn_r15_Read c_r15_Read R_r15_Read 1 = true := by kernel_rfl
/-! wapentake/wapentakeref20.piece -/
@[simp] def a_r20_piece_r0 : List COper := [
  ⟨(some 2), .alloc (.node [.v (.int .i64 0), .v (.int .i64 0), .arr 1 (rep 32 (.v (.int .u8 0))), .v (.string (mkS [])), .v (.slice none 0 0)]), [], none⟩]
def c_r20_piece_r0 : List COper := a_r20_piece_r0
instance : Reg c_r20_piece_r0 a_r20_piece_r0 1 := ⟨rfl, rfl⟩
@[simp] def a_r20_piece_r1 : List COper := [
  ⟨(some 3), .alloc (.node [.v (.int .i64 0), .v (.int .i64 0), .arr 1 (rep 32 (.v (.int .u8 0))), .v (.string (mkS [])), .v (.slice none 0 0)]), [], none⟩]
def c_r20_piece_r1 : List COper := a_r20_piece_r1
instance : Reg c_r20_piece_r1 a_r20_piece_r1 1 := ⟨rfl, rfl⟩
@[simp] def a_r20_piece_r2 : List COper := [
  ⟨(some 6), .mov, [.t 0], none⟩,
  ⟨(some 7), .call fn_r01_Reader_In, [.t 6, .c (.int .i64 0), .c (.int .i64 1024)], none⟩,
  ⟨(some 8), .faddr 0 1 false, [.t 3], none⟩,
  ⟨none, .store false 1, [.t 8, .t 7], none⟩]
def c_r20_piece_r2 : List COper := a_r20_piece_r2
instance : Reg c_r20_piece_r2 a_r20_piece_r2 4 := ⟨rfl, rfl⟩
@[simp] def a_r20_piece_r3 : List COper := [
  ⟨(some 9), .mov, [.t 0], none⟩,
  ⟨(some 10), .call fn_r01_Reader_In, [.t 9, .c (.int .i64 0), .c (.int .i64 1024)], none⟩,
  ⟨(some 11), .faddr 1 1 false, [.t 3], none⟩,
  ⟨none, .store false 1, [.t 11, .t 10], none⟩]
def c_r20_piece_r3 : List COper := a_r20_piece_r3
instance : Reg c_r20_piece_r3 a_r20_piece_r3 4 := ⟨rfl, rfl⟩
@[simp] def a_r20_piece_r4 : List COper := [
  ⟨(some 12), .mov, [.t 0], none⟩,
  ⟨(some 13), .call fn_r01_Reader_In, [.t 12, .c (.int .i64 0), .c (.int .i64 16)], none⟩,
  ⟨(some 4), .mov, [.t 13], none⟩]
def c_r20_piece_r4 : List COper := a_r20_piece_r4
instance : Reg c_r20_piece_r4 a_r20_piece_r4 3 := ⟨rfl, rfl⟩
@[simp] def a_r20_piece_r5 : List COper := [
  ⟨(some 14), .mov, [.t 0], none⟩,
  ⟨(some 15), .call fn_r01_Reader_Digest, [.t 14], none⟩,
  ⟨(some 16), .faddr 2 32 true, [.t 3], none⟩,
  ⟨none, .store true 32, [.t 16, .t 15], none⟩]
def c_r20_piece_r5 : List COper := a_r20_piece_r5
instance : Reg c_r20_piece_r5 a_r20_piece_r5 4 := ⟨rfl, rfl⟩
@[simp] def a_r20_piece_r6 : List COper := [
  ⟨(some 5), .mov, [.c (.int .i64 0)], none⟩]
def c_r20_piece_r6 : List COper := a_r20_piece_r6
instance : Reg c_r20_piece_r6 a_r20_piece_r6 1 := ⟨rfl, rfl⟩
@[simp] def a_r20_piece_r7 : List COper := [
  ⟨(some 17), .mov, [.t 5], none⟩,
  ⟨(some 18), .mov, [.t 4], none⟩,
  ⟨(some 19), .bin .lss, [.t 17, .t 18], none⟩]
def c_r20_piece_r7 : List COper := a_r20_piece_r7
instance : Reg c_r20_piece_r7 a_r20_piece_r7 3 := ⟨rfl, rfl⟩
@[simp] def a_r20_piece_r9 : List COper := [
  ⟨(some 22), .faddr 35 1 false, [.t 3], none⟩,
  ⟨(some 23), .load false 1, [.t 22], none⟩,
  ⟨(some 24), .mov, [.t 0], none⟩,
  ⟨(some 25), .call fn_r01_Reader_Digest, [.t 24], none⟩,
  ⟨(some 26), .bslice 32 1 (.arr 1 (rep 32 (.v (.int .u8 0)))) [0], [.t 25], none⟩,
  ⟨(some 27), .app 32 32, [.t 23, .t 26], none⟩,
  ⟨(some 28), .faddr 35 1 false, [.t 3], none⟩,
  ⟨none, .store false 1, [.t 28, .t 27], none⟩]
def c_r20_piece_r9 : List COper := a_r20_piece_r9
instance : Reg c_r20_piece_r9 a_r20_piece_r9 8 := ⟨rfl, rfl⟩
@[simp] def a_r20_piece_r8 : List COper := [
  ⟨(some 20), .mov, [.t 5], none⟩,
  ⟨(some 21), .bin .add, [.t 20, .c (.int .i64 1)], none⟩,
  ⟨(some 5), .mov, [.t 21], none⟩]
def c_r20_piece_r8 : List COper := a_r20_piece_r8
instance : Reg c_r20_piece_r8 a_r20_piece_r8 3 := ⟨rfl, rfl⟩
@[simp] def a_r20_piece_r10 : List COper := [
  ⟨(some 29), .mov, [.t 0], none⟩,
  ⟨(some 30), .call fn_r01_Reader_Text, [.t 29, .c (.int .i64 1024)], none⟩,
  ⟨(some 31), .faddr 34 1 false, [.t 3], none⟩,
  ⟨none, .store false 1, [.t 31, .t 30], none⟩]
def c_r20_piece_r10 : List COper := a_r20_piece_r10
instance : Reg c_r20_piece_r10 a_r20_piece_r10 4 := ⟨rfl, rfl⟩
@[simp] def a_r20_piece_r11 : List COper := [
  ⟨(some 32), .load true 36, [.t 3], none⟩,
  ⟨none, .store true 36, [.t 2, .t 32], none⟩]
def c_r20_piece_r11 : List COper := a_r20_piece_r11
instance : Reg c_r20_piece_r11 a_r20_piece_r11 2 := ⟨rfl, rfl⟩
@[simp] def c_r20_piece : CCode :=
  .seq (.region c_r20_piece_r0 none [0, 2]) (.seq (.region c_r20_piece_r1 none [0, 2, 3]) (.seq (.region c_r20_piece_r2 none [0, 2, 3]) (.seq (.region c_r20_piece_r3 none [0, 2, 3]) (.seq (.region c_r20_piece_r4 none [0, 2, 3, 4]) (.seq (.region c_r20_piece_r5 none [0, 2, 3, 4]) (.seq (.seq (.region c_r20_piece_r6 none [0, 2, 3, 4, 5]) (.block 0 (.loop (.seq (.seq (.region c_r20_piece_r7 none [0, 2, 3, 4, 5, 19]) (.cond (.t 19) (.skip) (.exit 0))) (.seq (.block 1 (.region c_r20_piece_r9 (some ([0, 1, 0, 4, 12, 31, 63, 127], [(1, 3), (1, 4)])) [0, 2, 3, 4, 5])) (.region c_r20_piece_r8 none [0, 2, 3, 4, 5])))))) (.seq (.region c_r20_piece_r10 none [2, 3]) (.seq (.region c_r20_piece_r11 none [2]) (.ret)))))))))
@[simp] def R_r20_piece : List CRes := [.cell 2 true 36]
theorem k_r20_piece : chkFn Try.prog fn_r20_piece c_r20_piece R_r20_piece 1 = true := by kernel_rfl
/-! (*wapentake/wapentakeref01.Reader).End -/
@[simp] def a_r01_Reader_End_r0 : List COper := [
  ⟨(some 2), .mov, [.c (.bool false)], none⟩]
def c_r01_Reader_End_r0 : List COper := a_r01_Reader_End_r0
instance : Reg c_r01_Reader_End_r0 a_r01_Reader_End_r0 1 := ⟨rfl, rfl⟩
@[simp] def a_r01_Reader_End_r1 : List COper := [
  ⟨(some 3), .mov, [.t 0], none⟩,
  ⟨(some 4), .nilc, [.t 3], none⟩,
  ⟨(some 5), .faddr 1 1 false, [.t 4], none⟩,
  ⟨(some 6), .load false 1, [.t 5], none⟩,
  ⟨(some 7), .not, [.t 6], none⟩,
  ⟨(some 8), .mov, [.t 7], none⟩,
  ⟨(some 9), .mov, [.t 0], (some (8, true))⟩,
  ⟨(some 10), .nilc, [.t 9], (some (8, true))⟩,
  ⟨(some 11), .faddr 0 1 false, [.t 10], (some (8, true))⟩,
  ⟨(some 12), .load false 1, [.t 11], (some (8, true))⟩,
  ⟨(some 13), .bin .eql, [.t 12, .c (.string (mkS []))], (some (8, true))⟩,
  ⟨(some 14), .pick, [.t 8, .t 13, .c (.bool false)], none⟩,
  ⟨(some 2), .mov, [.t 14], none⟩]
def c_r01_Reader_End_r1 : List COper := a_r01_Reader_End_r1
instance : Reg c_r01_Reader_End_r1 a_r01_Reader_End_r1 13 := ⟨rfl, rfl⟩
@[simp] def c_r01_Reader_End : CCode :=
  .seq (.region c_r01_Reader_End_r0 none [0]) (.seq (.region c_r01_Reader_End_r1 none [2]) (.ret))
@[simp] def R_r01_Reader_End : List CRes := [.tmp 2]
theorem k_r01_Reader_End : chkFn Try.prog fn_r01_Reader_End c_r01_Reader_End R_r01_Reader_End 1 = true := by kernel_rfl
/-! wapentake/wapentakeref09.Same -/
@[simp] def a_r09_Same_r0 : List COper := [
  ⟨(some 2), .box, [.t 0], none⟩,
  ⟨(some 3), .box, [.t 1], none⟩,
  ⟨(some 4), .mov, [.c (.bool false)], none⟩]
def c_r09_Same_r0 : List COper := a_r09_Same_r0
instance : Reg c_r09_Same_r0 a_r09_Same_r0 3 := ⟨rfl, rfl⟩
@[simp] def a_r09_Same_r1 : List COper := [
  ⟨(some 5), .faddr 0 1 false, [.t 2], none⟩,
  ⟨(some 6), .load false 1, [.t 5], none⟩,
  ⟨(some 7), .faddr 0 1 false, [.t 3], none⟩,
  ⟨(some 8), .load false 1, [.t 7], none⟩,
  ⟨(some 9), .bin .eql, [.t 6, .t 8], none⟩,
  ⟨(some 10), .mov, [.t 9], none⟩,
  ⟨(some 11), .faddr 1 1 false, [.t 2], (some (10, true))⟩,
  ⟨(some 12), .load false 1, [.t 11], (some (10, true))⟩,
  ⟨(some 13), .faddr 1 1 false, [.t 3], (some (10, true))⟩,
  ⟨(some 14), .load false 1, [.t 13], (some (10, true))⟩,
  ⟨(some 15), .bin .eql, [.t 12, .t 14], (some (10, true))⟩,
  ⟨(some 16), .pick, [.t 10, .t 15, .c (.bool false)], none⟩,
  ⟨(some 17), .mov, [.t 16], none⟩,
  ⟨(some 18), .faddr 2 1 false, [.t 2], (some (17, true))⟩,
  ⟨(some 19), .load false 1, [.t 18], (some (17, true))⟩,
  ⟨(some 20), .faddr 2 1 false, [.t 3], (some (17, true))⟩,
  ⟨(some 21), .load false 1, [.t 20], (some (17, true))⟩,
  ⟨(some 22), .bin .eql, [.t 19, .t 21], (some (17, true))⟩,
  ⟨(some 23), .pick, [.t 17, .t 22, .c (.bool false)], none⟩,
  ⟨(some 24), .mov, [.t 23], none⟩,
  ⟨(some 25), .faddr 3 1 false, [.t 2], (some (24, true))⟩,
  ⟨(some 26), .load false 1, [.t 25], (some (24, true))⟩,
  ⟨(some 27), .faddr 3 1 false, [.t 3], (some (24, true))⟩,
  ⟨(some 28), .load false 1, [.t 27], (some (24, true))⟩,
  ⟨(some 29), .call fn_r09_Texts, [.t 26, .t 28], (some (24, true))⟩,
  ⟨(some 30), .pick, [.t 24, .t 29, .c (.bool false)], none⟩,
  ⟨(some 4), .mov, [.t 30], none⟩]
def c_r09_Same_r1 : List COper := a_r09_Same_r1
instance : Reg c_r09_Same_r1 a_r09_Same_r1 27 := ⟨rfl, rfl⟩
@[simp] def c_r09_Same : CCode :=
  .seq (.region c_r09_Same_r0 none [2, 3]) (.seq (.region c_r09_Same_r1 none [4]) (.ret))
@[simp] def R_r09_Same : List CRes := [.tmp 4]
theorem k_r09_Same : chkFn Try.prog fn_r09_Same c_r09_Same R_r09_Same 2 = true := by kernel_rfl
/-! wapentake/wapentakeref13.Same -/
@[simp] def a_r13_Same_r0 : List COper := [
  ⟨(some 2), .box, [.t 0], none⟩,
  ⟨(some 3), .box, [.t 1], none⟩,
  ⟨(some 4), .mov, [.c (.bool false)], none⟩]
def c_r13_Same_r0 : List COper := a_r13_Same_r0
instance : Reg c_r13_Same_r0 a_r13_Same_r0 3 := ⟨rfl, rfl⟩
@[simp] def a_r13_Same_r1 : List COper := [
  ⟨(some 5), .faddr 0 1 false, [.t 2], none⟩,
  ⟨(some 6), .load false 1, [.t 5], none⟩,
  ⟨(some 7), .faddr 0 1 false, [.t 3], none⟩,
  ⟨(some 8), .load false 1, [.t 7], none⟩,
  ⟨(some 9), .bin .eql, [.t 6, .t 8], none⟩,
  ⟨(some 10), .mov, [.t 9], none⟩,
  ⟨(some 11), .faddr 1 1 false, [.t 2], (some (10, true))⟩,
  ⟨(some 12), .load false 1, [.t 11], (some (10, true))⟩,
  ⟨(some 13), .faddr 1 1 false, [.t 3], (some (10, true))⟩,
  ⟨(some 14), .load false 1, [.t 13], (some (10, true))⟩,
  ⟨(some 15), .bin .eql, [.t 12, .t 14], (some (10, true))⟩,
  ⟨(some 16), .pick, [.t 10, .t 15, .c (.bool false)], none⟩,
  ⟨(some 17), .mov, [.t 16], none⟩,
  ⟨(some 18), .faddr 2 1 false, [.t 2], (some (17, true))⟩,
  ⟨(some 19), .load false 1, [.t 18], (some (17, true))⟩,
  ⟨(some 20), .faddr 2 1 false, [.t 3], (some (17, true))⟩,
  ⟨(some 21), .load false 1, [.t 20], (some (17, true))⟩,
  ⟨(some 22), .bin .eql, [.t 19, .t 21], (some (17, true))⟩,
  ⟨(some 23), .pick, [.t 17, .t 22, .c (.bool false)], none⟩,
  ⟨(some 24), .mov, [.t 23], none⟩,
  ⟨(some 25), .faddr 3 1 false, [.t 2], (some (24, true))⟩,
  ⟨(some 26), .load false 1, [.t 25], (some (24, true))⟩,
  ⟨(some 27), .faddr 3 1 false, [.t 3], (some (24, true))⟩,
  ⟨(some 28), .load false 1, [.t 27], (some (24, true))⟩,
  ⟨(some 29), .bin .eql, [.t 26, .t 28], (some (24, true))⟩,
  ⟨(some 30), .pick, [.t 24, .t 29, .c (.bool false)], none⟩,
  ⟨(some 31), .mov, [.t 30], none⟩,
  ⟨(some 32), .faddr 4 32 true, [.t 2], (some (31, true))⟩,
  ⟨(some 33), .load true 32, [.t 32], (some (31, true))⟩,
  ⟨(some 34), .faddr 4 32 true, [.t 3], (some (31, true))⟩,
  ⟨(some 35), .load true 32, [.t 34], (some (31, true))⟩,
  ⟨(some 36), .eqa false .u8 32, [.t 33, .t 35], (some (31, true))⟩,
  ⟨(some 37), .pick, [.t 31, .t 36, .c (.bool false)], none⟩,
  ⟨(some 38), .mov, [.t 37], none⟩,
  ⟨(some 39), .faddr 36 1 false, [.t 2], (some (38, true))⟩,
  ⟨(some 40), .load false 1, [.t 39], (some (38, true))⟩,
  ⟨(some 41), .faddr 36 1 false, [.t 3], (some (38, true))⟩,
  ⟨(some 42), .load false 1, [.t 41], (some (38, true))⟩,
  ⟨(some 43), .bin .eql, [.t 40, .t 42], (some (38, true))⟩,
  ⟨(some 44), .pick, [.t 38, .t 43, .c (.bool false)], none⟩,
  ⟨(some 45), .mov, [.t 44], none⟩,
  ⟨(some 46), .faddr 37 4 true, [.t 2], (some (45, true))⟩,
  ⟨(some 47), .load true 4, [.t 46], (some (45, true))⟩,
  ⟨(some 48), .faddr 37 4 true, [.t 3], (some (45, true))⟩,
  ⟨(some 49), .load true 4, [.t 48], (some (45, true))⟩,
  ⟨(some 50), .call fn_r05_Same, [.t 47, .t 49], (some (45, true))⟩,
  ⟨(some 51), .pick, [.t 45, .t 50, .c (.bool false)], none⟩,
  ⟨(some 4), .mov, [.t 51], none⟩]
def c_r13_Same_r1 : List COper := a_r13_Same_r1
instance : Reg c_r13_Same_r1 a_r13_Same_r1 48 := ⟨rfl, rfl⟩
@[simp] def c_r13_Same : CCode :=
  .seq (.region c_r13_Same_r0 none [2, 3]) (.seq (.region c_r13_Same_r1 none [4]) (.ret))
@[simp] def R_r13_Same : List CRes := [.tmp 4]
theorem k_r13_Same : chkFn Try.prog fn_r13_Same c_r13_Same R_r13_Same 2 = true := by kernel_rfl
/-! wapentake/wapentakeref13.SamePlan -/
@[simp] def a_r13_SamePlan_r0 : List COper := [
  ⟨(some 2), .box, [.t 0], none⟩,
  ⟨(some 3), .box, [.t 1], none⟩,
  ⟨(some 4), .mov, [.c (.bool false)], none⟩]
def c_r13_SamePlan_r0 : List COper := a_r13_SamePlan_r0
instance : Reg c_r13_SamePlan_r0 a_r13_SamePlan_r0 3 := ⟨rfl, rfl⟩
@[simp] def a_r13_SamePlan_r1 : List COper := [
  ⟨(some 5), .faddr 0 1 false, [.t 2], none⟩,
  ⟨(some 6), .load false 1, [.t 5], none⟩,
  ⟨(some 7), .faddr 0 1 false, [.t 3], none⟩,
  ⟨(some 8), .load false 1, [.t 7], none⟩,
  ⟨(some 9), .bin .eql, [.t 6, .t 8], none⟩,
  ⟨(some 10), .mov, [.t 9], none⟩,
  ⟨(some 11), .faddr 1 1 false, [.t 2], (some (10, true))⟩,
  ⟨(some 12), .load false 1, [.t 11], (some (10, true))⟩,
  ⟨(some 13), .faddr 1 1 false, [.t 3], (some (10, true))⟩,
  ⟨(some 14), .load false 1, [.t 13], (some (10, true))⟩,
  ⟨(some 15), .bin .eql, [.t 12, .t 14], (some (10, true))⟩,
  ⟨(some 16), .pick, [.t 10, .t 15, .c (.bool false)], none⟩,
  ⟨(some 17), .mov, [.t 16], none⟩,
  ⟨(some 18), .faddr 2 1 false, [.t 2], (some (17, true))⟩,
  ⟨(some 19), .load false 1, [.t 18], (some (17, true))⟩,
  ⟨(some 20), .faddr 2 1 false, [.t 3], (some (17, true))⟩,
  ⟨(some 21), .load false 1, [.t 20], (some (17, true))⟩,
  ⟨(some 22), .bin .eql, [.t 19, .t 21], (some (17, true))⟩,
  ⟨(some 23), .pick, [.t 17, .t 22, .c (.bool false)], none⟩,
  ⟨(some 24), .mov, [.t 23], none⟩,
  ⟨(some 25), .faddr 3 1 false, [.t 2], (some (24, true))⟩,
  ⟨(some 26), .load false 1, [.t 25], (some (24, true))⟩,
  ⟨(some 27), .faddr 3 1 false, [.t 3], (some (24, true))⟩,
  ⟨(some 28), .load false 1, [.t 27], (some (24, true))⟩,
  ⟨(some 29), .bin .eql, [.t 26, .t 28], (some (24, true))⟩,
  ⟨(some 30), .pick, [.t 24, .t 29, .c (.bool false)], none⟩,
  ⟨(some 31), .mov, [.t 30], none⟩,
  ⟨(some 32), .faddr 103 1 false, [.t 2], (some (31, true))⟩,
  ⟨(some 33), .load false 1, [.t 32], (some (31, true))⟩,
  ⟨(some 34), .faddr 103 1 false, [.t 3], (some (31, true))⟩,
  ⟨(some 35), .load false 1, [.t 34], (some (31, true))⟩,
  ⟨(some 36), .bin .eql, [.t 33, .t 35], (some (31, true))⟩,
  ⟨(some 37), .pick, [.t 31, .t 36, .c (.bool false)], none⟩,
  ⟨(some 38), .mov, [.t 37], none⟩,
  ⟨(some 39), .faddr 4 99 true, [.t 2], (some (38, true))⟩,
  ⟨(some 40), .load true 99, [.t 39], (some (38, true))⟩,
  ⟨(some 41), .faddr 4 99 true, [.t 3], (some (38, true))⟩,
  ⟨(some 42), .load true 99, [.t 41], (some (38, true))⟩,
  ⟨(some 43), .call fn_r12_Same, [.t 40, .t 42], (some (38, true))⟩,
  ⟨(some 44), .pick, [.t 38, .t 43, .c (.bool false)], none⟩,
  ⟨(some 45), .mov, [.t 44], none⟩,
  ⟨(some 46), .faddr 104 4 true, [.t 2], (some (45, true))⟩,
  ⟨(some 47), .load true 4, [.t 46], (some (45, true))⟩,
  ⟨(some 48), .faddr 104 4 true, [.t 3], (some (45, true))⟩,
  ⟨(some 49), .load true 4, [.t 48], (some (45, true))⟩,
  ⟨(some 50), .call fn_r05_Same, [.t 47, .t 49], (some (45, true))⟩,
  ⟨(some 51), .pick, [.t 45, .t 50, .c (.bool false)], none⟩,
  ⟨(some 4), .mov, [.t 51], none⟩]
def c_r13_SamePlan_r1 : List COper := a_r13_SamePlan_r1
instance : Reg c_r13_SamePlan_r1 a_r13_SamePlan_r1 48 := ⟨rfl, rfl⟩
@[simp] def c_r13_SamePlan : CCode :=
  .seq (.region c_r13_SamePlan_r0 none [2, 3]) (.seq (.region c_r13_SamePlan_r1 none [4]) (.ret))
@[simp] def R_r13_SamePlan : List CRes := [.tmp 4]
theorem k_r13_SamePlan : chkFn Try.prog fn_r13_SamePlan c_r13_SamePlan R_r13_SamePlan 2 = true := by kernel_rfl
/-! wapentake/wapentakeref12.Same -/
@[simp] def a_r12_Same_r0 : List COper := [
  ⟨(some 2), .box, [.t 0], none⟩,
  ⟨(some 3), .box, [.t 1], none⟩,
  ⟨(some 4), .mov, [.c (.bool false)], none⟩]
def c_r12_Same_r0 : List COper := a_r12_Same_r0
instance : Reg c_r12_Same_r0 a_r12_Same_r0 3 := ⟨rfl, rfl⟩
@[simp] def a_r12_Same_r1 : List COper := [
  ⟨(some 6), .faddr 0 1 false, [.t 2], none⟩,
  ⟨(some 7), .load false 1, [.t 6], none⟩,
  ⟨(some 8), .faddr 0 1 false, [.t 3], none⟩,
  ⟨(some 9), .load false 1, [.t 8], none⟩,
  ⟨(some 10), .bin .neq, [.t 7, .t 9], none⟩,
  ⟨(some 11), .mov, [.t 10], none⟩,
  ⟨(some 12), .faddr 1 1 false, [.t 2], (some (11, false))⟩,
  ⟨(some 13), .load false 1, [.t 12], (some (11, false))⟩,
  ⟨(some 14), .faddr 1 1 false, [.t 3], (some (11, false))⟩,
  ⟨(some 15), .load false 1, [.t 14], (some (11, false))⟩,
  ⟨(some 16), .bin .neq, [.t 13, .t 15], (some (11, false))⟩,
  ⟨(some 17), .pick, [.t 11, .c (.bool true), .t 16], none⟩,
  ⟨(some 18), .mov, [.t 17], none⟩,
  ⟨(some 19), .faddr 2 32 true, [.t 2], (some (18, false))⟩,
  ⟨(some 20), .load true 32, [.t 19], (some (18, false))⟩,
  ⟨(some 21), .faddr 2 32 true, [.t 3], (some (18, false))⟩,
  ⟨(some 22), .load true 32, [.t 21], (some (18, false))⟩,
  ⟨(some 23), .eqa true .u8 32, [.t 20, .t 22], (some (18, false))⟩,
  ⟨(some 24), .pick, [.t 18, .c (.bool true), .t 23], none⟩,
  ⟨(some 25), .mov, [.t 24], none⟩,
  ⟨(some 26), .faddr 34 32 true, [.t 2], (some (25, false))⟩,
  ⟨(some 27), .load true 32, [.t 26], (some (25, false))⟩,
  ⟨(some 28), .faddr 34 32 true, [.t 3], (some (25, false))⟩,
  ⟨(some 29), .load true 32, [.t 28], (some (25, false))⟩,
  ⟨(some 30), .eqa true .u8 32, [.t 27, .t 29], (some (25, false))⟩,
  ⟨(some 31), .pick, [.t 25, .c (.bool true), .t 30], none⟩,
  ⟨(some 32), .mov, [.t 31], none⟩,
  ⟨(some 33), .faddr 66 32 true, [.t 2], (some (32, false))⟩,
  ⟨(some 34), .load true 32, [.t 33], (some (32, false))⟩,
  ⟨(some 35), .faddr 66 32 true, [.t 3], (some (32, false))⟩,
  ⟨(some 36), .load true 32, [.t 35], (some (32, false))⟩,
  ⟨(some 37), .eqa true .u8 32, [.t 34, .t 36], (some (32, false))⟩,
  ⟨(some 38), .pick, [.t 32, .c (.bool true), .t 37], none⟩,
  ⟨(some 39), .mov, [.t 38], none⟩,
  ⟨(some 40), .faddr 98 1 false, [.t 2], (some (39, false))⟩,
  ⟨(some 41), .load false 1, [.t 40], (some (39, false))⟩,
  ⟨(some 42), .len, [.t 41], (some (39, false))⟩,
  ⟨(some 43), .faddr 98 1 false, [.t 3], (some (39, false))⟩,
  ⟨(some 44), .load false 1, [.t 43], (some (39, false))⟩,
  ⟨(some 45), .len, [.t 44], (some (39, false))⟩,
  ⟨(some 46), .bin .neq, [.t 42, .t 45], (some (39, false))⟩,
  ⟨(some 47), .pick, [.t 39, .c (.bool true), .t 46], none⟩]
def c_r12_Same_r1 : List COper := a_r12_Same_r1
instance : Reg c_r12_Same_r1 a_r12_Same_r1 42 := ⟨rfl, rfl⟩
@[simp] def a_r12_Same_r2 : List COper := [
  ⟨(some 4), .mov, [.c (.bool false)], none⟩]
def c_r12_Same_r2 : List COper := a_r12_Same_r2
instance : Reg c_r12_Same_r2 a_r12_Same_r2 1 := ⟨rfl, rfl⟩
@[simp] def a_r12_Same_r3 : List COper := [
  ⟨(some 48), .faddr 98 1 false, [.t 2], none⟩,
  ⟨(some 49), .load false 1, [.t 48], none⟩,
  ⟨(some 50), .len, [.t 49], none⟩,
  ⟨(some 51), .mov, [.c (.int .i64 0)], none⟩]
def c_r12_Same_r3 : List COper := a_r12_Same_r3
instance : Reg c_r12_Same_r3 a_r12_Same_r3 4 := ⟨rfl, rfl⟩
@[simp] def a_r12_Same_r4 : List COper := [
  ⟨(some 52), .bin .lss, [.t 51, .t 50], none⟩]
def c_r12_Same_r4 : List COper := a_r12_Same_r4
instance : Reg c_r12_Same_r4 a_r12_Same_r4 1 := ⟨rfl, rfl⟩
@[simp] def a_r12_Same_r5 : List COper := [
  ⟨(some 53), .mov, [.t 51], none⟩,
  ⟨(some 5), .mov, [.t 53], none⟩]
def c_r12_Same_r5 : List COper := a_r12_Same_r5
instance : Reg c_r12_Same_r5 a_r12_Same_r5 2 := ⟨rfl, rfl⟩
@[simp] def a_r12_Same_r6 : List COper := [
  ⟨(some 54), .faddr 98 1 false, [.t 2], none⟩,
  ⟨(some 55), .load false 1, [.t 54], none⟩,
  ⟨(some 56), .mov, [.t 5], none⟩,
  ⟨(some 57), .iaddr 42, [.t 55, .t 56], none⟩,
  ⟨(some 58), .load true 42, [.t 57], none⟩,
  ⟨(some 59), .faddr 98 1 false, [.t 3], none⟩,
  ⟨(some 60), .load false 1, [.t 59], none⟩,
  ⟨(some 61), .mov, [.t 5], none⟩,
  ⟨(some 62), .iaddr 42, [.t 60, .t 61], none⟩,
  ⟨(some 63), .load true 42, [.t 62], none⟩,
  ⟨(some 64), .eqs true (.st [.int .i64, .int .i64, .st [.int .i64, .str, .str, .str, .st [.int .i64, .int .i64, .int .i64, .st [.ints .u8 32, .int .i64]]]]), [.t 58, .t 63], none⟩]
def c_r12_Same_r6 : List COper := a_r12_Same_r6
instance : Reg c_r12_Same_r6 a_r12_Same_r6 11 := ⟨rfl, rfl⟩
@[simp] def a_r12_Same_r7 : List COper := [
  ⟨(some 4), .mov, [.c (.bool false)], none⟩]
def c_r12_Same_r7 : List COper := a_r12_Same_r7
instance : Reg c_r12_Same_r7 a_r12_Same_r7 1 := ⟨rfl, rfl⟩
@[simp] def a_r12_Same_r8 : List COper := [
  ⟨(some 65), .bin .add, [.t 51, .c (.int .i64 1)], none⟩,
  ⟨(some 51), .mov, [.t 65], none⟩]
def c_r12_Same_r8 : List COper := a_r12_Same_r8
instance : Reg c_r12_Same_r8 a_r12_Same_r8 2 := ⟨rfl, rfl⟩
@[simp] def a_r12_Same_r9 : List COper := [
  ⟨(some 4), .mov, [.c (.bool true)], none⟩]
def c_r12_Same_r9 : List COper := a_r12_Same_r9
instance : Reg c_r12_Same_r9 a_r12_Same_r9 1 := ⟨rfl, rfl⟩
@[simp] def c_r12_Same : CCode :=
  .seq (.region c_r12_Same_r0 none [2, 3]) (.seq (.seq (.region c_r12_Same_r1 none [2, 3, 47]) (.cond (.t 47) (.seq (.region c_r12_Same_r2 none [4]) (.ret)) (.skip))) (.seq (.seq (.region c_r12_Same_r3 none [2, 3, 50, 51]) (.block 0 (.loop (.seq (.region c_r12_Same_r4 none [2, 3, 50, 51, 52]) (.seq (.cond (.t 52) (.skip) (.exit 0)) (.seq (.block 1 (.seq (.region c_r12_Same_r5 none [2, 3, 5, 50, 51]) (.seq (.region c_r12_Same_r6 (some ([0, 1, 0, 7, 15, 0, 32, 0, 224, 480, 1023], [])) [2, 3, 50, 51, 64]) (.cond (.t 64) (.seq (.region c_r12_Same_r7 none [4]) (.ret)) (.skip))))) (.region c_r12_Same_r8 none [2, 3, 50, 51]))))))) (.seq (.region c_r12_Same_r9 none [4]) (.ret))))
@[simp] def R_r12_Same : List CRes := [.tmp 4]
theorem k_r12_Same : chkFn Try.prog fn_r12_Same c_r12_Same R_r12_Same 2 = true := by kernel_rfl
/-! wapentake/wapentakeref14.Same -/
@[simp] def a_r14_Same_r0 : List COper := [
  ⟨(some 2), .box, [.t 0], none⟩,
  ⟨(some 3), .box, [.t 1], none⟩,
  ⟨(some 4), .mov, [.c (.bool false)], none⟩]
def c_r14_Same_r0 : List COper := a_r14_Same_r0
instance : Reg c_r14_Same_r0 a_r14_Same_r0 3 := ⟨rfl, rfl⟩
@[simp] def a_r14_Same_r1 : List COper := [
  ⟨(some 6), .faddr 0 1 false, [.t 2], none⟩,
  ⟨(some 7), .load false 1, [.t 6], none⟩,
  ⟨(some 8), .faddr 0 1 false, [.t 3], none⟩,
  ⟨(some 9), .load false 1, [.t 8], none⟩,
  ⟨(some 10), .bin .neq, [.t 7, .t 9], none⟩,
  ⟨(some 11), .mov, [.t 10], none⟩,
  ⟨(some 12), .faddr 1 1 false, [.t 2], (some (11, false))⟩,
  ⟨(some 13), .load false 1, [.t 12], (some (11, false))⟩,
  ⟨(some 14), .len, [.t 13], (some (11, false))⟩,
  ⟨(some 15), .faddr 1 1 false, [.t 3], (some (11, false))⟩,
  ⟨(some 16), .load false 1, [.t 15], (some (11, false))⟩,
  ⟨(some 17), .len, [.t 16], (some (11, false))⟩,
  ⟨(some 18), .bin .neq, [.t 14, .t 17], (some (11, false))⟩,
  ⟨(some 19), .pick, [.t 11, .c (.bool true), .t 18], none⟩]
def c_r14_Same_r1 : List COper := a_r14_Same_r1
instance : Reg c_r14_Same_r1 a_r14_Same_r1 14 := ⟨rfl, rfl⟩
@[simp] def a_r14_Same_r2 : List COper := [
  ⟨(some 4), .mov, [.c (.bool false)], none⟩]
def c_r14_Same_r2 : List COper := a_r14_Same_r2
instance : Reg c_r14_Same_r2 a_r14_Same_r2 1 := ⟨rfl, rfl⟩
@[simp] def a_r14_Same_r3 : List COper := [
  ⟨(some 20), .faddr 1 1 false, [.t 2], none⟩,
  ⟨(some 21), .load false 1, [.t 20], none⟩,
  ⟨(some 22), .len, [.t 21], none⟩,
  ⟨(some 23), .mov, [.c (.int .i64 0)], none⟩]
def c_r14_Same_r3 : List COper := a_r14_Same_r3
instance : Reg c_r14_Same_r3 a_r14_Same_r3 4 := ⟨rfl, rfl⟩
@[simp] def a_r14_Same_r4 : List COper := [
  ⟨(some 24), .bin .lss, [.t 23, .t 22], none⟩]
def c_r14_Same_r4 : List COper := a_r14_Same_r4
instance : Reg c_r14_Same_r4 a_r14_Same_r4 1 := ⟨rfl, rfl⟩
@[simp] def a_r14_Same_r5 : List COper := [
  ⟨(some 25), .mov, [.t 23], none⟩,
  ⟨(some 5), .mov, [.t 25], none⟩]
def c_r14_Same_r5 : List COper := a_r14_Same_r5
instance : Reg c_r14_Same_r5 a_r14_Same_r5 2 := ⟨rfl, rfl⟩
@[simp] def a_r14_Same_r6 : List COper := [
  ⟨(some 26), .faddr 1 1 false, [.t 2], none⟩,
  ⟨(some 27), .load false 1, [.t 26], none⟩,
  ⟨(some 28), .mov, [.t 5], none⟩,
  ⟨(some 29), .iaddr 41, [.t 27, .t 28], none⟩,
  ⟨(some 30), .load true 41, [.t 29], none⟩,
  ⟨(some 31), .faddr 1 1 false, [.t 3], none⟩,
  ⟨(some 32), .load false 1, [.t 31], none⟩,
  ⟨(some 33), .mov, [.t 5], none⟩,
  ⟨(some 34), .iaddr 41, [.t 32, .t 33], none⟩,
  ⟨(some 35), .load true 41, [.t 34], none⟩,
  ⟨(some 36), .call fn_r13_Same, [.t 30, .t 35], none⟩,
  ⟨(some 37), .not, [.t 36], none⟩]
def c_r14_Same_r6 : List COper := a_r14_Same_r6
instance : Reg c_r14_Same_r6 a_r14_Same_r6 12 := ⟨rfl, rfl⟩
@[simp] def a_r14_Same_r7 : List COper := [
  ⟨(some 4), .mov, [.c (.bool false)], none⟩]
def c_r14_Same_r7 : List COper := a_r14_Same_r7
instance : Reg c_r14_Same_r7 a_r14_Same_r7 1 := ⟨rfl, rfl⟩
@[simp] def a_r14_Same_r8 : List COper := [
  ⟨(some 38), .bin .add, [.t 23, .c (.int .i64 1)], none⟩,
  ⟨(some 23), .mov, [.t 38], none⟩]
def c_r14_Same_r8 : List COper := a_r14_Same_r8
instance : Reg c_r14_Same_r8 a_r14_Same_r8 2 := ⟨rfl, rfl⟩
@[simp] def a_r14_Same_r9 : List COper := [
  ⟨(some 4), .mov, [.c (.bool true)], none⟩]
def c_r14_Same_r9 : List COper := a_r14_Same_r9
instance : Reg c_r14_Same_r9 a_r14_Same_r9 1 := ⟨rfl, rfl⟩
@[simp] def c_r14_Same : CCode :=
  .seq (.region c_r14_Same_r0 none [2, 3]) (.seq (.seq (.region c_r14_Same_r1 none [2, 3, 19]) (.cond (.t 19) (.seq (.region c_r14_Same_r2 none [4]) (.ret)) (.skip))) (.seq (.seq (.region c_r14_Same_r3 none [2, 3, 22, 23]) (.block 0 (.loop (.seq (.region c_r14_Same_r4 none [2, 3, 22, 23, 24]) (.seq (.cond (.t 24) (.skip) (.exit 0)) (.seq (.block 1 (.seq (.region c_r14_Same_r5 none [2, 3, 5, 22, 23]) (.seq (.region c_r14_Same_r6 (some ([0, 1, 0, 7, 15, 0, 32, 0, 224, 480, 1023, 2047], [])) [2, 3, 22, 23, 37]) (.cond (.t 37) (.seq (.region c_r14_Same_r7 none [4]) (.ret)) (.skip))))) (.region c_r14_Same_r8 none [2, 3, 22, 23]))))))) (.seq (.region c_r14_Same_r9 none [4]) (.ret))))
@[simp] def R_r14_Same : List CRes := [.tmp 4]
theorem k_r14_Same : chkFn Try.prog fn_r14_Same c_r14_Same R_r14_Same 2 = true := by kernel_rfl
end Go.Proofs.Ytglkfbhjimnboaa.WL
