
import Derived.Test.YtjlmpdbagmdbiaaDoorWm6
import Derived.Test.YtjlmpdbagmdbiaaDoorChecked
namespace Go.Proofs.YtjlmpdbagmdbiaaDoor.WL
open Go
abbrev om (d t : Nat) : COper := ⟨some d, .mov, [.t t], none⟩
abbrev oq (d : Nat) (o : COp) (l : List COpd) : COper := ⟨some d, o, l, none⟩
theorem mix : Tryd.prog.follows .mixedOrders = true := by kernel_rfl
def JJW : Nat := 3
def JKP : Nat := 4
def JLk : Nat := 5
def JLv : Nat := 6
def JMm : Nat := 7
def JOD : Nat := 8
def JKu : Nat := 9
def JKZ : Nat := 10
def JhG : Nat := 11
def Jhy : Nat := 12
def JmS : Nat := 13
def JbH : Nat := 14
def JSK : Nat := 15
def Jiw : Nat := 16
def JQi : Nat := 17
def JvG : Nat := 18
def JP4 : Nat := 19
def JPZ : Nat := 20
def Jj4 : Nat := 21
def JQh : Nat := 22
def JPH : Nat := 23
def JQT : Nat := 24
def Jvg : Nat := 25
def JOz : Nat := 26
def JbE : Nat := 27
def JmJ : Nat := 28
def Jt : Nat := 29
def JcN : Nat := 30
def JpV : Nat := 31
def Jvd : Nat := 32
def Jk : Nat := 33
def Jj : Nat := 34
def J9 : Nat := 35
def Jcq : Nat := 36
def Jbl : Nat := 37
def Jqf : Nat := 38
def JgA : Nat := 39
def Jgn : Nat := 40
def Jvi : Nat := 41
def Jol : Nat := 42
def Jbn : Nat := 43
def Jeq : Nat := 44
def JRj : Nat := 45
def JPE : Nat := 46
def JRz : Nat := 47
def JMl : Nat := 48
def JgY : Nat := 49
def JLp : Nat := 50
def JjN : Nat := 51
def Jj7 : Nat := 52
def Jer : Nat := 53
def Jgp : Nat := 54
def JRi : Nat := 55
def JO6 : Nat := 56
def JQw : Nat := 57
def JPB : Nat := 58
def Jvq : Nat := 59
def Jeo : Nat := 60
def Jm : Nat := 61
def JbA : Nat := 62
def JC : Nat := 63
def JhX : Nat := 64
def Jd : Nat := 65
def JoN : Nat := 66
def Jf : Nat := 67
def Jvf : Nat := 68
def Jcu : Nat := 69
def JbC : Nat := 70
def Jp0 : Nat := 71
def JmH : Nat := 72
def JjO : Nat := 73
def Jgt : Nat := 74
def Jix : Nat := 75
def Jj0 : Nat := 76
def Jvo : Nat := 77
def Jg1 : Nat := 78
def JbG : Nat := 79
def JP7 : Nat := 80
def JSj : Nat := 81
def Jmf : Nat := 82
def JOy : Nat := 83
def JQP : Nat := 84
def JP9 : Nat := 85
def JQe : Nat := 86
def JhU : Nat := 87
def Jg9 : Nat := 88
def JEQ : Nat := 89
def Jqh : Nat := 90
def JjZ : Nat := 91
def JSR : Nat := 92
def JP6 : Nat := 93
def JRR : Nat := 94
def JP8 : Nat := 95
def JQG : Nat := 96
def JjQ : Nat := 97
def JbK : Nat := 98
def Jin : Nat := 99
def JvC : Nat := 100
def Jx : Nat := 101
def Ji : Nat := 102
def Jib : Nat := 103
def JB : Nat := 104
def Jy : Nat := 105
def Jn : Nat := 106
def JjW : Nat := 107
def Jl : Nat := 108
def Jep : Nat := 109
def JP : Nat := 110
def Jpx : Nat := 111
def JgQ : Nat := 112
def Jvn : Nat := 113
def JY : Nat := 114
def JUc : Nat := 115
def Jpz : Nat := 116
def Jmg : Nat := 117
def JOF : Nat := 118
def Jj3 : Nat := 119
def JS4 : Nat := 120
def JvH : Nat := 121
def Jen : Nat := 122
def JJH : Nat := 123
def JMk : Nat := 124
def JqB : Nat := 125
def Jgv : Nat := 126
def JUA : Nat := 127
def JQY : Nat := 128
def JSt : Nat := 129
def Jvh : Nat := 130
def Jg8 : Nat := 131
def JJ : Nat := 132
def Jbr : Nat := 133
def JjX : Nat := 134
def Jg2 : Nat := 135
def JS : Nat := 136
def JW : Nat := 137
def Jvw : Nat := 138
def Jh : Nat := 139
def JPd : Nat := 140
def JOA : Nat := 141
def JSz : Nat := 142
def Jhe : Nat := 143
def JRG : Nat := 144
def JTq : Nat := 145
def JRo : Nat := 146
def JRF : Nat := 147
def JQa : Nat := 148
@[simp] def JfM : List COper := [
  oq 3 .box [.t 0], oq 4 .box [.t 1],
  ⟨(some 6), .mov, [.c (.bool false)], none⟩]
def JfG : List COper := JfM
instance : Reg JfG JfM 3 := ⟨rfl, rfl⟩
@[simp] def Jf1 : List COper := [
  oq 17 (.call Jhy) [],
  ⟨(some 18), .not, [.t 17], none⟩]
def JfX : List COper := Jf1
instance : Reg JfX Jf1 2 := ⟨rfl, rfl⟩
@[simp] def Jfq : List COper := [
  ⟨(some 6), .mov, [.c (.bool false)], none⟩]
def Jgf : List COper := Jfq
instance : Reg Jgf Jfq 1 := ⟨rfl, rfl⟩
@[simp] def JeB : List COper := [
  oq 19 (.load true 2) [.t 3], oq 20 (.load true 103) [.t 4], oq 21 (.bslice 103 1 (.node [.node [.v (.int .i64 0), .v (.int .i64 0), .arr 1 (rep 32 (.v (.int .u8 0))), .arr 1 (rep 32 (.v (.int .u8 0))), .arr 1 (rep 32 (.v (.int .u8 0))), .v (.slice none 0 0)], .node [.v (.int .i64 0), .v (.slice none 0 0)], .node [.v (.int .i64 0), .v (.slice none 0 0)]]) [0]) [.t 20], oq 22 (.call JmS) [.t 19, .t 21], om 23 22,
  ⟨(some 24), .mov, [.t 2], (some (23, false))⟩,
  ⟨(some 25), .len, [.t 24], (some (23, false))⟩,
  ⟨(some 26), .bin .gtr, [.t 25, .c (.int .i64 65536)], (some (23, false))⟩,
  ⟨(some 27), .pick, [.t 23, .c (.bool true), .t 26], none⟩]
def Jfb : List COper := JeB
instance : Reg Jfb JeB 9 := ⟨rfl, rfl⟩
@[simp] def JeY : List COper := [
  ⟨(some 6), .mov, [.c (.bool true)], none⟩]
def Je5 : List COper := JeY
instance : Reg Je5 JeY 1 := ⟨rfl, rfl⟩
@[simp] def JeF : List COper := [
  oq 28 (.build [.v (.slice none 0 0)] []) [], oq 29 .box [.t 28], om 7 29]
def Jey : List COper := JeF
instance : Reg Jey JeF 3 := ⟨rfl, rfl⟩
@[simp] def JeC : List COper := [
  om 30 7, oq 31 (.load true 103) [.t 4], oq 32 (.call Jbl) [.t 30, .t 31], om 8 32]
def JeM : List COper := JeC
instance : Reg JeM JeC 4 := ⟨rfl, rfl⟩
@[simp] def JfH : List COper := [
  oq 34 (.load true 103) [.t 4], oq 35 (.call Jqf) [.t 34], om 33 35, oq 36 (.ext 0) [.t 33], oq 37 (.ext 1) [.t 33], om 9 36, om 10 37]
def Jfs : List COper := JfH
instance : Reg Jfs JfH 7 := ⟨rfl, rfl⟩
@[simp] def JeD : List COper := [
  om 38 8, om 39 10, oq 40 (.eqb true) [.t 38, .t 39], om 41 40,
  ⟨(some 42), .mov, [.t 7], (some (41, false))⟩,
  ⟨(some 43), .call Jt, [.t 42], (some (41, false))⟩,
  ⟨(some 44), .convS, [.t 43], (some (41, false))⟩,
  ⟨(some 45), .mov, [.t 9], (some (41, false))⟩,
  ⟨(some 46), .bin .neq, [.t 44, .t 45], (some (41, false))⟩,
  ⟨(some 47), .pick, [.t 41, .c (.bool true), .t 46], none⟩]
def JfP : List COper := JeD
instance : Reg JfP JeD 10 := ⟨rfl, rfl⟩
@[simp] def JeU : List COper := [
  ⟨(some 6), .mov, [.c (.bool false)], none⟩]
def Jf0 : List COper := JeU
instance : Reg Jf0 JeU 1 := ⟨rfl, rfl⟩
@[simp] def Jdz : List COper := [
  om 48 2, oq 49 .convS [.t 48], om 50 9, oq 51 (.buildA 1 (rep 2 (.v (.string (mkS [])))) [0, 1]) [.t 49, .t 50],
  ⟨(some 52), .mov, [.c (.int .i64 0)], none⟩]
def Jd2 : List COper := Jdz
instance : Reg Jd2 Jdz 5 := ⟨rfl, rfl⟩
@[simp] def JcA : List COper := [
  ⟨(some 53), .bin .lss, [.t 52, .c (.int .i64 2)], none⟩]
def Jdr : List COper := JcA
instance : Reg Jdr JcA 1 := ⟨rfl, rfl⟩
@[simp] def JdV : List COper := [
  oq 54 (.idx false 2 1) [.t 51, .t 52], om 12 54]
def JcJ : List COper := JdV
instance : Reg JcJ JdV 2 := ⟨rfl, rfl⟩
@[simp] def Jej : List COper := [
  om 55 12, oq 56 .convB [.t 55], oq 57 (.call JcN) [.t 56], om 58 12, oq 59 (.build [.v (.string (mkS [])), .v (.bool false)] [0]) [.t 58], oq 60 .box [.t 59], om 13 57, om 14 60]
def Jdp : List COper := Jej
instance : Reg Jdp Jej 8 := ⟨rfl, rfl⟩
@[simp] def JcL : List COper := [
  om 61 13, oq 62 (.call Jgn) [.t 61], om 63 14, oq 64 (.call Jvi) [.t 63], oq 65 (.call JgA) [.t 62, .t 64], oq 66 .not [.t 65], om 67 66,
  ⟨(some 68), .mov, [.t 13], (some (67, false))⟩,
  ⟨(some 69), .call Jk, [.t 68], (some (67, false))⟩,
  ⟨(some 70), .mov, [.t 14], (some (67, false))⟩,
  ⟨(some 71), .call Jj, [.t 70], (some (67, false))⟩,
  ⟨(some 72), .eqb true, [.t 69, .t 71], (some (67, false))⟩, oq 73 .pick [.t 67, .c (.bool true), .t 72], om 74 73,
  ⟨(some 75), .mov, [.t 13], (some (74, false))⟩,
  ⟨(some 76), .call J9, [.t 75], (some (74, false))⟩,
  ⟨(some 77), .mov, [.t 14], (some (74, false))⟩,
  ⟨(some 78), .call Jcq, [.t 77], (some (74, false))⟩,
  ⟨(some 79), .eqb true, [.t 76, .t 78], (some (74, false))⟩,
  ⟨(some 80), .pick, [.t 74, .c (.bool true), .t 79], none⟩]
def JdZ : List COper := JcL
instance : Reg JdZ JcL 20 := ⟨rfl, rfl⟩
@[simp] def Jc7 : List COper := [
  ⟨(some 6), .mov, [.c (.bool false)], none⟩]
def Jea : List COper := Jc7
instance : Reg Jea Jc7 1 := ⟨rfl, rfl⟩
@[simp] def JcI : List COper := [
  oq 81 (.bin .add) [.t 52, .c (.int .i64 1)], om 52 81]
def Jem : List COper := JcI
instance : Reg Jem JcI 2 := ⟨rfl, rfl⟩
@[simp] def Jdx : List COper := [
  om 82 7, oq 83 (.call Jt) [.t 82], oq 84 (.call JcN) [.t 83], om 15 84]
def JdS : List COper := Jdx
instance : Reg JdS Jdx 4 := ⟨rfl, rfl⟩
@[simp] def Jcw : List COper := [
  om 85 15, oq 86 (.call Jgn) [.t 85], oq 16 (.alloc (.node [.node [.v (.int .i64 0), .v (.int .i64 0), .arr 1 (rep 32 (.v (.int .u8 0))), .arr 1 (rep 32 (.v (.int .u8 0))), .arr 1 (rep 32 (.v (.int .u8 0))), .v (.slice none 0 0)], .node [.v (.int .i64 0), .v (.slice none 0 0)], .node [.v (.int .i64 0), .v (.slice none 0 0)]])) [],
  ⟨none, .store true 103, [.t 16, .t 86], none⟩]
def Jd0 : List COper := Jcw
instance : Reg Jd0 Jcw 4 := ⟨rfl, rfl⟩
@[simp] def JcM : List COper := [
  oq 87 (.faddr 99 2 true) [.t 4], oq 88 (.faddr 1 1 false) [.t 87], oq 89 (.load false 1) [.t 88], oq 90 .len [.t 89], oq 91 (.bin .gtr) [.t 90, .c (.int .i64 10)], om 92 91,
  ⟨(some 93), .load true 2, [.t 3], (some (92, false))⟩,
  ⟨(some 94), .load true 103, [.t 4], (some (92, false))⟩,
  ⟨(some 95), .call JbH, [.t 93, .c (.int .i64 0), .t 94], (some (92, false))⟩,
  ⟨(some 96), .bin .neq, [.t 95, .c (.int .i64 0)], (some (92, false))⟩, oq 97 .pick [.t 92, .c (.bool true), .t 96], om 98 97,
  ⟨(some 99), .mov, [.t 10], (some (98, false))⟩,
  ⟨(some 100), .mov, [.t 99], (some (98, false))⟩,
  ⟨(some 101), .mov, [.t 15], (some (100, true))⟩,
  ⟨(some 102), .call J9, [.t 101], (some (100, true))⟩,
  ⟨(some 103), .pick, [.t 100, .t 102, .c (.bool false)], (some (98, false))⟩,
  ⟨(some 104), .mov, [.t 103], (some (98, false))⟩,
  ⟨(some 105), .load true 103, [.t 16], (some (104, true))⟩,
  ⟨(some 106), .load true 103, [.t 4], (some (104, true))⟩,
  ⟨(some 107), .call JgA, [.t 105, .t 106], (some (104, true))⟩,
  ⟨(some 108), .pick, [.t 104, .t 107, .c (.bool false)], (some (98, false))⟩, oq 109 .pick [.t 98, .c (.bool true), .t 108], om 6 109]
def JdC : List COper := JcM
instance : Reg JdC JcM 24 := ⟨rfl, rfl⟩
@[simp] def JA6 : CCode :=
  .seq (.region JfG none [2, 3, 4]) (.seq (.seq (.region JfX none [2, 3, 4, 18]) (.cond (.t 18) (.seq (.region Jgf none [6]) (.ret)) (.skip))) (.seq (.seq (.region Jfb none [2, 3, 4, 27]) (.cond (.t 27) (.seq (.region Je5 none [6]) (.ret)) (.skip))) (.seq (.region Jey none [2, 3, 4, 7]) (.seq (.region JeM none [2, 3, 4, 7, 8]) (.seq (.region Jfs none [2, 3, 4, 7, 8, 9, 10]) (.seq (.seq (.region JfP none [2, 3, 4, 7, 9, 10, 47]) (.cond (.t 47) (.seq (.region Jf0 none [6]) (.ret)) (.skip))) (.seq (.seq (.region Jd2 none [3, 4, 7, 10, 51, 52]) (.block 0 (.loop (.seq (.region Jdr none [3, 4, 7, 10, 51, 52, 53]) (.seq (.cond (.t 53) (.skip) (.exit 0)) (.seq (.block 1 (.seq (.region JcJ none [3, 4, 7, 10, 12, 51, 52]) (.seq (.region Jdp none [3, 4, 7, 10, 13, 14, 51, 52]) (.seq (.region JdZ none [3, 4, 7, 10, 51, 52, 80]) (.cond (.t 80) (.seq (.region Jea none [6]) (.ret)) (.skip)))))) (.region Jem none [3, 4, 7, 10, 51, 52]))))))) (.seq (.region JdS none [3, 4, 10, 15]) (.seq (.region Jd0 none [3, 4, 10, 15, 16]) (.seq (.region JdC none [6]) (.ret)))))))))))
@[simp] def JBi : List CRes := [.tmp 6]
theorem JBd : chkFn Tryd.prog JhG JA6 JBi 3 = true := by kernel_rfl
@[simp] def JsX : List COper := [
  ⟨(some 0), .mov, [.c (.bool false)], none⟩]
def Jiv : List COper := JsX
instance : Reg Jiv JsX 1 := ⟨rfl, rfl⟩
@[simp] def JtW : List COper := [
  oq 5 (.build [.v (.int .i64 0), .node [.arr 1 (rep 32 (.v (.int .u8 0))), .v (.int .i64 0)]] [0]) [.c (.int .i64 1)], oq 6 (.bslice 34 1 (.node [.v (.int .i64 0), .node [.arr 1 (rep 32 (.v (.int .u8 0))), .v (.int .i64 0)]]) [0]) [.t 5], oq 7 (.build [.v (.int .i64 0), .v (.slice none 0 0)] [1]) [.t 6], oq 1 (.alloc (.node [.v (.int .i64 0), .v (.slice none 0 0)])) [],
  ⟨none, .store true 2, [.t 1, .t 7], none⟩]
def Jit : List COper := JtW
instance : Reg Jit JtW 5 := ⟨rfl, rfl⟩
@[simp] def JrP : List COper := [
  oq 9 (.load true 2) [.t 1], oq 10 (.call Jiw) [.t 9, .c (.slice none 0 0)], om 8 10, oq 11 (.ext 0) [.t 8], oq 12 (.ext 1) [.t 8], oq 13 (.ext 2) [.t 8], oq 2 (.alloc (.node [.v (.int .i64 0), .v (.slice none 0 0)])) [],
  ⟨none, .store true 2, [.t 2, .t 11], none⟩, om 3 12, om 4 13]
def Jis : List COper := JrP
instance : Reg Jis JrP 10 := ⟨rfl, rfl⟩
@[simp] def JsJ : List COper := [
  om 14 4, oq 15 (.bin .eql) [.t 14, .c (.int .i64 0)], om 16 15,
  ⟨(some 17), .mov, [.t 3], (some (16, true))⟩,
  ⟨(some 18), .bin .eql, [.t 17, .c (.int .i64 0)], (some (16, true))⟩, oq 19 .pick [.t 16, .t 18, .c (.bool false)], om 20 19,
  ⟨(some 21), .faddr 1 1 false, [.t 2], (some (20, true))⟩,
  ⟨(some 22), .load false 1, [.t 21], (some (20, true))⟩,
  ⟨(some 23), .len, [.t 22], (some (20, true))⟩,
  ⟨(some 24), .bin .eql, [.t 23, .c (.int .i64 1)], (some (20, true))⟩, oq 25 .pick [.t 20, .t 24, .c (.bool false)], om 26 25,
  ⟨(some 27), .load true 2, [.t 1], (some (26, true))⟩,
  ⟨(some 28), .build [.node [.v (.int .i64 0), .v (.int .i64 0), .arr 1 (rep 32 (.v (.int .u8 0))), .arr 1 (rep 32 (.v (.int .u8 0))), .arr 1 (rep 32 (.v (.int .u8 0))), .v (.slice none 0 0)], .node [.v (.int .i64 0), .v (.slice none 0 0)], .node [.v (.int .i64 0), .v (.slice none 0 0)]] [], [], (some (26, true))⟩,
  ⟨(some 29), .call JbH, [.t 27, .c (.int .i64 0), .t 28], (some (26, true))⟩,
  ⟨(some 30), .bin .eql, [.t 29, .c (.int .i64 12)], (some (26, true))⟩, oq 31 .pick [.t 26, .t 30, .c (.bool false)], om 0 31]
def Jip : List COper := JsJ
instance : Reg Jip JsJ 19 := ⟨rfl, rfl⟩
@[simp] def JIc : CCode :=
  .seq (.region Jiv none []) (.seq (.region Jit none [1]) (.seq (.region Jis none [1, 2, 3, 4]) (.seq (.region Jip none [0]) (.ret))))
@[simp] def JDm : List CRes := [.tmp 0]
theorem JRM : chkFn Tryd.prog Jhy JIc JDm 0 = true := by kernel_rfl
@[simp] def JtT : List COper := [
  oq 2 .box [.t 0],
  ⟨(some 4), .mov, [.c (.bool false)], none⟩]
def JqT : List COper := JtT
instance : Reg JqT JtT 2 := ⟨rfl, rfl⟩
@[simp] def Jrw : List COper := [
  oq 9 (.faddr 1 1 false) [.t 2], oq 10 (.load false 1) [.t 9], oq 11 .len [.t 10], oq 12 (.bin .gtr) [.t 11, .c (.int .i64 20)], om 13 12,
  ⟨(some 14), .mov, [.t 1], (some (13, false))⟩,
  ⟨(some 15), .len, [.t 14], (some (13, false))⟩,
  ⟨(some 16), .bin .gtr, [.t 15, .c (.int .i64 6)], (some (13, false))⟩,
  ⟨(some 17), .pick, [.t 13, .c (.bool true), .t 16], none⟩]
def Jq4 : List COper := Jrw
instance : Reg Jq4 Jrw 9 := ⟨rfl, rfl⟩
@[simp] def Js7 : List COper := [
  ⟨(some 4), .mov, [.c (.bool true)], none⟩]
def JrS : List COper := Js7
instance : Reg JrS Js7 1 := ⟨rfl, rfl⟩
@[simp] def Jr3 : List COper := [
  om 18 1, oq 19 .len [.t 18],
  ⟨(some 20), .mov, [.c (.int .i64 0)], none⟩]
def Jss : List COper := Jr3
instance : Reg Jss Jr3 3 := ⟨rfl, rfl⟩
@[simp] def Juu : List COper := [
  ⟨(some 21), .bin .lss, [.t 20, .t 19], none⟩]
def Jsn : List COper := Juu
instance : Reg Jsn Juu 1 := ⟨rfl, rfl⟩
@[simp] def JqU : List COper := [
  oq 22 (.iaddr 103) [.t 18, .t 20], oq 23 (.load true 103) [.t 22], oq 6 (.alloc (.node [.node [.v (.int .i64 0), .v (.int .i64 0), .arr 1 (rep 32 (.v (.int .u8 0))), .arr 1 (rep 32 (.v (.int .u8 0))), .arr 1 (rep 32 (.v (.int .u8 0))), .v (.slice none 0 0)], .node [.v (.int .i64 0), .v (.slice none 0 0)], .node [.v (.int .i64 0), .v (.slice none 0 0)]])) [],
  ⟨none, .store true 103, [.t 6, .t 23], none⟩]
def Jq2 : List COper := JqU
instance : Reg Jq2 JqU 4 := ⟨rfl, rfl⟩
@[simp] def JtC : List COper := [
  oq 24 (.faddr 101 2 true) [.t 6], oq 25 (.faddr 1 1 false) [.t 24], oq 26 (.load false 1) [.t 25], oq 27 .len [.t 26], oq 28 (.bin .gtr) [.t 27, .c (.int .i64 20)], om 29 28,
  ⟨(some 30), .faddr 99 2 true, [.t 6], (some (29, false))⟩,
  ⟨(some 31), .faddr 1 1 false, [.t 30], (some (29, false))⟩,
  ⟨(some 32), .load false 1, [.t 31], (some (29, false))⟩,
  ⟨(some 33), .len, [.t 32], (some (29, false))⟩,
  ⟨(some 34), .bin .gtr, [.t 33, .c (.int .i64 12)], (some (29, false))⟩, oq 35 .pick [.t 29, .c (.bool true), .t 34], om 36 35,
  ⟨(some 37), .faddr 0 99 true, [.t 6], (some (36, false))⟩,
  ⟨(some 38), .load true 99, [.t 37], (some (36, false))⟩,
  ⟨(some 39), .call Jol, [.t 38, .c (.int .i64 4096)], (some (36, false))⟩,
  ⟨(some 40), .pick, [.t 36, .c (.bool true), .t 39], none⟩]
def JtK : List COper := JtC
instance : Reg JtK JtC 17 := ⟨rfl, rfl⟩
@[simp] def JtB : List COper := [
  ⟨(some 4), .mov, [.c (.bool true)], none⟩]
def JsC : List COper := JtB
instance : Reg JsC JtB 1 := ⟨rfl, rfl⟩
@[simp] def Jul : List COper := [
  oq 41 (.faddr 99 2 true) [.t 6], oq 42 (.faddr 1 1 false) [.t 41], oq 43 (.load false 1) [.t 42], oq 44 .len [.t 43],
  ⟨(some 45), .mov, [.c (.int .i64 0)], none⟩]
def JtP : List COper := Jul
instance : Reg JtP Jul 5 := ⟨rfl, rfl⟩
@[simp] def Jrm : List COper := [
  ⟨(some 46), .bin .lss, [.t 45, .t 44], none⟩]
def Juj : List COper := Jrm
instance : Reg Juj Jrm 1 := ⟨rfl, rfl⟩
@[simp] def Jm3 : List COper := [
  oq 47 (.iaddr 41) [.t 43, .t 45], oq 48 (.load true 41) [.t 47], oq 8 (.alloc (.node [.v (.int .i64 0), .v (.int .i64 0), .v (.int .i64 0), .v (.int .i64 0), .arr 1 (rep 32 (.v (.int .u8 0))), .v (.int .i64 0), .node [.v (.int .i64 0), .node [.v (.slice none 0 0), .v (.slice none 0 0)], .v (.slice none 0 0)]])) [],
  ⟨none, .store true 41, [.t 8, .t 48], none⟩]
def Jmp : List COper := Jm3
instance : Reg Jmp Jm3 4 := ⟨rfl, rfl⟩
@[simp] def JpA : List COper := [
  oq 49 (.faddr 37 4 true) [.t 8], oq 50 (.faddr 1 2 true) [.t 49], oq 51 (.faddr 0 1 false) [.t 50], oq 52 (.load false 1) [.t 51], oq 53 .len [.t 52], oq 54 (.bin .gtr) [.t 53, .c (.int .i64 200)], om 55 54,
  ⟨(some 56), .faddr 37 4 true, [.t 8], (some (55, false))⟩,
  ⟨(some 57), .faddr 1 2 true, [.t 56], (some (55, false))⟩,
  ⟨(some 58), .faddr 1 1 false, [.t 57], (some (55, false))⟩,
  ⟨(some 59), .load false 1, [.t 58], (some (55, false))⟩,
  ⟨(some 60), .len, [.t 59], (some (55, false))⟩,
  ⟨(some 61), .bin .gtr, [.t 60, .c (.int .i64 200)], (some (55, false))⟩, oq 62 .pick [.t 55, .c (.bool true), .t 61], om 63 62,
  ⟨(some 64), .faddr 37 4 true, [.t 8], (some (63, false))⟩,
  ⟨(some 65), .faddr 3 1 false, [.t 64], (some (63, false))⟩,
  ⟨(some 66), .load false 1, [.t 65], (some (63, false))⟩,
  ⟨(some 67), .len, [.t 66], (some (63, false))⟩,
  ⟨(some 68), .bin .gtr, [.t 67, .c (.int .i64 200)], (some (63, false))⟩,
  ⟨(some 69), .pick, [.t 63, .c (.bool true), .t 68], none⟩]
def Jox : List COper := JpA
instance : Reg Jox JpA 21 := ⟨rfl, rfl⟩
@[simp] def Jqc : List COper := [
  ⟨(some 4), .mov, [.c (.bool true)], none⟩]
def Jqm : List COper := Jqc
instance : Reg Jqm Jqc 1 := ⟨rfl, rfl⟩
@[simp] def Jmw : List COper := [
  oq 70 (.bin .add) [.t 45, .c (.int .i64 1)], om 45 70]
def JpJ : List COper := Jmw
instance : Reg JpJ Jmw 2 := ⟨rfl, rfl⟩
@[simp] def JpU : List COper := [
  oq 71 (.bin .add) [.t 20, .c (.int .i64 1)], om 20 71]
def Jo7 : List COper := JpU
instance : Reg Jo7 JpU 2 := ⟨rfl, rfl⟩
@[simp] def Jl6 : List COper := [
  ⟨(some 4), .mov, [.c (.bool false)], none⟩]
def JnZ : List COper := Jl6
instance : Reg JnZ Jl6 1 := ⟨rfl, rfl⟩
@[simp] def JIS : CCode :=
  .seq (.region JqT none [1, 2]) (.seq (.seq (.region Jq4 none [1, 17]) (.cond (.t 17) (.seq (.region JrS none [4]) (.ret)) (.skip))) (.seq (.seq (.region Jss none [18, 19, 20]) (.block 0 (.loop (.seq (.region Jsn none [18, 19, 20, 21]) (.seq (.cond (.t 21) (.skip) (.exit 0)) (.seq (.block 1 (.seq (.region Jq2 none [6, 18, 19, 20]) (.seq (.seq (.region JtK none [6, 18, 19, 20, 40]) (.cond (.t 40) (.seq (.region JsC none [4]) (.ret)) (.skip))) (.seq (.region JtP none [18, 19, 20, 43, 44, 45]) (.block 2 (.loop (.seq (.region Juj none [18, 19, 20, 43, 44, 45, 46]) (.seq (.cond (.t 46) (.skip) (.exit 2)) (.seq (.block 3 (.seq (.region Jmp none [8, 18, 19, 20, 43, 44, 45]) (.seq (.region Jox none [18, 19, 20, 43, 44, 45, 69]) (.cond (.t 69) (.seq (.region Jqm none [4]) (.ret)) (.skip))))) (.region JpJ none [18, 19, 20, 43, 44, 45])))))))))) (.region Jo7 none [18, 19, 20]))))))) (.seq (.region JnZ none [4]) (.ret))))
@[simp] def JIO : List CRes := [.tmp 4]
theorem JJt : chkFn Tryd.prog JmS JIS JIO 2 = true := by kernel_rfl
@[simp] def JmV : List COper := [
  oq 3 .box [.t 0], oq 5 .box [.t 2],
  ⟨(some 6), .mov, [.c (.int .i64 0)], none⟩]
def Jmr : List COper := JmV
instance : Reg Jmr JmV 3 := ⟨rfl, rfl⟩
@[simp] def JnK : List COper := [
  oq 8 (.faddr 0 99 true) [.t 5], oq 9 (.faddr 1 1 false) [.t 8], oq 10 (.load false 1) [.t 9], om 11 1, oq 12 (.bin .leq) [.t 10, .t 11], om 13 12,
  ⟨(some 14), .faddr 101 2 true, [.t 5], (some (13, false))⟩,
  ⟨(some 15), .load true 2, [.t 14], (some (13, false))⟩,
  ⟨(some 16), .call Jbn, [.t 15], (some (13, false))⟩,
  ⟨(some 17), .not, [.t 16], (some (13, false))⟩, oq 18 .pick [.t 13, .c (.bool true), .t 17], om 19 18,
  ⟨(some 20), .faddr 101 2 true, [.t 5], (some (19, false))⟩,
  ⟨(some 21), .faddr 0 1 false, [.t 20], (some (19, false))⟩,
  ⟨(some 22), .load false 1, [.t 21], (some (19, false))⟩,
  ⟨(some 23), .faddr 0 1 false, [.t 3], (some (19, false))⟩,
  ⟨(some 24), .load false 1, [.t 23], (some (19, false))⟩,
  ⟨(some 25), .bin .leq, [.t 22, .t 24], (some (19, false))⟩, oq 26 .pick [.t 19, .c (.bool true), .t 25], om 7 26]
def Jnh : List COper := JnK
instance : Reg Jnh JnK 20 := ⟨rfl, rfl⟩
@[simp] def JnB : List COper := [
  ⟨(some 6), .mov, [.c (.int .i64 12)], none⟩]
def Jmj : List COper := JnB
instance : Reg Jmj JnB 1 := ⟨rfl, rfl⟩
@[simp] def Jma : List COper := [
  oq 28 (.load true 2) [.t 3], oq 29 (.faddr 0 99 true) [.t 5], oq 30 (.load true 99) [.t 29], oq 31 (.faddr 99 2 true) [.t 5], oq 32 (.load true 2) [.t 31], oq 33 (.call Jj4) [.t 28, .t 30, .t 32], oq 34 .not [.t 33], om 27 34]
def JnA : List COper := Jma
instance : Reg JnA Jma 8 := ⟨rfl, rfl⟩
@[simp] def Jp4 : List COper := [
  ⟨(some 6), .mov, [.c (.int .i64 10)], none⟩]
def JmZ : List COper := Jp4
instance : Reg JmZ Jp4 1 := ⟨rfl, rfl⟩
@[simp] def Jnw : List COper := [
  oq 36 (.faddr 101 2 true) [.t 5], oq 37 (.load true 2) [.t 36], oq 38 (.call Jeq) [.t 37], oq 39 (.faddr 0 99 true) [.t 5], oq 40 (.faddr 66 32 true) [.t 39], oq 41 (.load true 32) [.t 40], oq 42 (.eqa true .u8 32) [.t 38, .t 41], om 35 42]
def Jou : List COper := Jnw
instance : Reg Jou Jnw 8 := ⟨rfl, rfl⟩
@[simp] def JoI : List COper := [
  ⟨(some 6), .mov, [.c (.int .i64 13)], none⟩]
def Jnm : List COper := JoI
instance : Reg Jnm JoI 1 := ⟨rfl, rfl⟩
@[simp] def JmL : List COper := [
  ⟨(some 6), .mov, [.c (.int .i64 0)], none⟩]
def Jnz : List COper := JmL
instance : Reg Jnz JmL 1 := ⟨rfl, rfl⟩
@[simp] def JHK : CCode :=
  .seq (.region Jmr none [1, 3, 5]) (.seq (.block 0 (.seq (.region Jnh none [3, 5, 7]) (.cond (.t 7) (.seq (.region Jmj none [6]) (.ret)) (.seq (.region JnA none [5, 27]) (.cond (.t 27) (.seq (.region JmZ none [6]) (.ret)) (.seq (.region Jou (some ([0, 1, 3, 0, 8, 24, 63, 127], [(2, 5)])) [35]) (.cond (.t 35) (.seq (.region Jnm none [6]) (.ret)) (.skip)))))))) (.seq (.region Jnz none [6]) (.ret)))
@[simp] def JGa : List CRes := [.tmp 6]
theorem JHO : chkFn Tryd.prog JbH JHK JGa 3 = true := by kernel_rfl
@[simp] def Jld : List COper := [
  oq 2 .box [.t 0], oq 4 (.alloc (.node [.v (.int .i64 0), .v (.slice none 0 0)])) [], oq 5 .mov [.c (.int .i64 0)],
  ⟨(some 6), .mov, [.c (.int .i64 0)], none⟩]
def JkW : List COper := Jld
instance : Reg JkW Jld 4 := ⟨rfl, rfl⟩
@[simp] def JkE : List COper := [
  oq 12 (.load true 2) [.t 2], oq 13 (.call Jbn) [.t 12],
  ⟨(some 14), .not, [.t 13], none⟩]
def Jkg : List COper := JkE
instance : Reg Jkg JkE 3 := ⟨rfl, rfl⟩
@[simp] def JlJ : List COper := [
  oq 15 (.build [.v (.int .i64 0), .v (.slice none 0 0)] []) [],
  ⟨none, .store true 2, [.t 4, .t 15], none⟩, oq 5 .mov [.c (.int .i64 0)],
  ⟨(some 6), .mov, [.c (.int .i64 1)], none⟩]
def JkH : List COper := JlJ
instance : Reg JkH JlJ 4 := ⟨rfl, rfl⟩
@[simp] def JlE : List COper := [
  om 16 1, oq 17 .len [.t 16],
  ⟨(some 18), .bin .gtr, [.t 17, .c (.int .i64 1024)], none⟩]
def Jk6 : List COper := JlE
instance : Reg Jk6 JlE 3 := ⟨rfl, rfl⟩
@[simp] def JlH : List COper := [
  oq 19 (.build [.v (.int .i64 0), .v (.slice none 0 0)] []) [],
  ⟨none, .store true 2, [.t 4, .t 19], none⟩, oq 5 .mov [.c (.int .i64 0)],
  ⟨(some 6), .mov, [.c (.int .i64 11)], none⟩]
def Jla : List COper := JlH
instance : Reg Jla JlH 4 := ⟨rfl, rfl⟩
@[simp] def Jli : List COper := [
  oq 20 (.load true 2) [.t 2], oq 7 (.alloc (.node [.v (.int .i64 0), .v (.slice none 0 0)])) [],
  ⟨none, .store true 2, [.t 7, .t 20], none⟩,
  ⟨(some 8), .mov, [.c (.int .i64 0)], none⟩]
def JkP : List COper := Jli
instance : Reg JkP Jli 4 := ⟨rfl, rfl⟩
@[simp] def Jls : List COper := [
  om 21 1, oq 22 .len [.t 21],
  ⟨(some 23), .mov, [.c (.int .i64 0)], none⟩]
def JlA : List COper := Jls
instance : Reg JlA Jls 3 := ⟨rfl, rfl⟩
@[simp] def JkV : List COper := [
  ⟨(some 24), .bin .lss, [.t 23, .t 22], none⟩]
def JkF : List COper := JkV
instance : Reg JkF JkV 1 := ⟨rfl, rfl⟩
@[simp] def Jlb : List COper := [
  om 25 23, oq 26 (.iaddr 103) [.t 21, .t 23], oq 27 (.load true 103) [.t 26], oq 10 (.alloc (.node [.node [.v (.int .i64 0), .v (.int .i64 0), .arr 1 (rep 32 (.v (.int .u8 0))), .arr 1 (rep 32 (.v (.int .u8 0))), .arr 1 (rep 32 (.v (.int .u8 0))), .v (.slice none 0 0)], .node [.v (.int .i64 0), .v (.slice none 0 0)], .node [.v (.int .i64 0), .v (.slice none 0 0)]])) [], om 9 25,
  ⟨none, .store true 103, [.t 10, .t 27], none⟩]
def JkJ : List COper := Jlb
instance : Reg JkJ Jlb 6 := ⟨rfl, rfl⟩
@[simp] def JkS : List COper := [
  oq 28 (.load true 2) [.t 7], om 29 8, oq 30 (.load true 103) [.t 10], oq 31 (.call JbH) [.t 28, .t 29, .t 30], om 11 31]
def JkK : List COper := JkS
instance : Reg JkK JkS 5 := ⟨rfl, rfl⟩
@[simp] def JiS : List COper := [
  om 32 11,
  ⟨(some 33), .bin .neq, [.t 32, .c (.int .i64 0)], none⟩]
def JiX : List COper := JiS
instance : Reg JiX JiS 2 := ⟨rfl, rfl⟩
@[simp] def Jiz : List COper := [
  oq 34 (.build [.v (.int .i64 0), .v (.slice none 0 0)] []) [], om 35 9, om 36 11,
  ⟨none, .store true 2, [.t 4, .t 34], none⟩, om 5 35, om 6 36]
def Jjd : List COper := Jiz
instance : Reg Jjd Jiz 6 := ⟨rfl, rfl⟩
@[simp] def JiL : List COper := [
  oq 37 (.faddr 101 2 true) [.t 10], oq 38 (.load true 2) [.t 37], oq 39 (.faddr 0 99 true) [.t 10], oq 40 (.faddr 1 1 false) [.t 39], oq 41 (.load false 1) [.t 40],
  ⟨none, .store true 2, [.t 7, .t 38], none⟩, om 8 41]
def JjF : List COper := JiL
instance : Reg JjF JiL 7 := ⟨rfl, rfl⟩
@[simp] def JjG : List COper := [
  oq 42 (.bin .add) [.t 23, .c (.int .i64 1)], om 23 42]
def Jje : List COper := JjG
instance : Reg Jje JjG 2 := ⟨rfl, rfl⟩
@[simp] def JiY : List COper := [
  oq 43 (.faddr 0 1 false) [.t 7], oq 44 (.load false 1) [.t 43], oq 45 (.bslice 34 0 (.node [.v (.int .i64 0), .node [.arr 1 (rep 32 (.v (.int .u8 0))), .v (.int .i64 0)]]) []) [], oq 46 (.faddr 1 1 false) [.t 7], oq 47 (.load false 1) [.t 46], oq 48 (.app 34 48) [.t 45, .t 47], oq 49 (.build [.v (.int .i64 0), .v (.slice none 0 0)] [0, 1]) [.t 44, .t 48], om 50 1, oq 51 .len [.t 50],
  ⟨none, .store true 2, [.t 4, .t 49], none⟩, om 5 51,
  ⟨(some 6), .mov, [.c (.int .i64 0)], none⟩]
def Jjw : List COper := JiY
instance : Reg Jjw JiY 12 := ⟨rfl, rfl⟩
@[simp] def JFU : CCode :=
  .seq (.region JkW none [1, 2, 4]) (.seq (.seq (.region Jkg none [1, 2, 4, 14]) (.cond (.t 14) (.seq (.region JkH none [4, 5, 6]) (.ret)) (.skip))) (.seq (.seq (.region Jk6 none [1, 2, 4, 18]) (.cond (.t 18) (.seq (.region Jla none [4, 5, 6]) (.ret)) (.skip))) (.seq (.region JkP none [1, 4, 7, 8]) (.seq (.seq (.region JlA none [1, 4, 7, 8, 21, 22, 23]) (.block 0 (.loop (.seq (.region JkF none [1, 4, 7, 8, 21, 22, 23, 24]) (.seq (.cond (.t 24) (.skip) (.exit 0)) (.seq (.block 1 (.seq (.region JkJ none [1, 4, 7, 8, 9, 10, 21, 22, 23]) (.seq (.seq (.region JkK none [1, 4, 7, 9, 10, 11, 21, 22, 23]) (.seq (.region JiX none [1, 4, 7, 9, 10, 11, 21, 22, 23, 33]) (.cond (.t 33) (.seq (.region Jjd none [4, 5, 6]) (.ret)) (.skip)))) (.region JjF (some ([0, 1, 0, 4, 12, 3, 63], [(4, 5)])) [1, 4, 7, 8, 21, 22, 23])))) (.region Jje none [1, 4, 7, 8, 21, 22, 23]))))))) (.seq (.region Jjw (some ([0, 1, 0, 0, 8, 28, 63, 0, 128, 127, 1023, 2047], [(1, 2), (2, 4), (1, 5)])) [4, 5, 6]) (.ret))))))
@[simp] def JFs : List CRes := [.cell 4 true 2, .tmp 5, .tmp 6]
theorem JFx : chkFn Tryd.prog Jiw JFU JFs 2 = true := by kernel_rfl
@[simp] def JwU : List COper := [
  oq 2 .box [.t 0], oq 3 .box [.t 1],
  ⟨(some 4), .mov, [.c (.bool false)], none⟩]
def JAN : List COper := JwU
instance : Reg JAN JwU 3 := ⟨rfl, rfl⟩
@[simp] def JwB : List COper := [
  oq 6 (.faddr 0 1 false) [.t 2], oq 7 (.load false 1) [.t 6], oq 8 (.faddr 0 1 false) [.t 3], oq 9 (.load false 1) [.t 8], oq 10 (.bin .neq) [.t 7, .t 9], om 11 10,
  ⟨(some 12), .faddr 1 1 false, [.t 2], (some (11, false))⟩,
  ⟨(some 13), .load false 1, [.t 12], (some (11, false))⟩,
  ⟨(some 14), .len, [.t 13], (some (11, false))⟩,
  ⟨(some 15), .faddr 1 1 false, [.t 3], (some (11, false))⟩,
  ⟨(some 16), .load false 1, [.t 15], (some (11, false))⟩,
  ⟨(some 17), .len, [.t 16], (some (11, false))⟩,
  ⟨(some 18), .bin .neq, [.t 14, .t 17], (some (11, false))⟩,
  ⟨(some 19), .pick, [.t 11, .c (.bool true), .t 18], none⟩]
def Jx3 : List COper := JwB
instance : Reg Jx3 JwB 14 := ⟨rfl, rfl⟩
@[simp] def JyR : List COper := [
  ⟨(some 4), .mov, [.c (.bool false)], none⟩]
def Jx6 : List COper := JyR
instance : Reg Jx6 JyR 1 := ⟨rfl, rfl⟩
@[simp] def JAl : List COper := [
  oq 20 (.faddr 1 1 false) [.t 2], oq 21 (.load false 1) [.t 20], oq 22 .len [.t 21],
  ⟨(some 23), .mov, [.c (.int .i64 0)], none⟩]
def JAI : List COper := JAl
instance : Reg JAI JAl 4 := ⟨rfl, rfl⟩
@[simp] def Jws : List COper := [
  ⟨(some 24), .bin .lss, [.t 23, .t 22], none⟩]
def Jxx : List COper := Jws
instance : Reg Jxx Jws 1 := ⟨rfl, rfl⟩
@[simp] def JzB : List COper := [
  om 25 23, om 5 25]
def JxU : List COper := JzB
instance : Reg JxU JzB 2 := ⟨rfl, rfl⟩
@[simp] def Jv8 : List COper := [
  oq 26 (.faddr 1 1 false) [.t 2], oq 27 (.load false 1) [.t 26], om 28 5, oq 29 (.iaddr 34) [.t 27, .t 28], oq 30 (.load true 34) [.t 29], oq 31 (.faddr 1 1 false) [.t 3], oq 32 (.load false 1) [.t 31], om 33 5, oq 34 (.iaddr 34) [.t 32, .t 33], oq 35 (.load true 34) [.t 34],
  ⟨(some 36), .eqs true (.st [.int .i64, .st [.ints .u8 32, .int .i64]]), [.t 30, .t 35], none⟩]
def Jx8 : List COper := Jv8
instance : Reg Jx8 Jv8 11 := ⟨rfl, rfl⟩
@[simp] def JAi : List COper := [
  ⟨(some 4), .mov, [.c (.bool false)], none⟩]
def JzF : List COper := JAi
instance : Reg JzF JAi 1 := ⟨rfl, rfl⟩
@[simp] def Jyz : List COper := [
  oq 37 (.bin .add) [.t 23, .c (.int .i64 1)], om 23 37]
def JwQ : List COper := Jyz
instance : Reg JwQ Jyz 2 := ⟨rfl, rfl⟩
@[simp] def Jwz : List COper := [
  ⟨(some 4), .mov, [.c (.bool true)], none⟩]
def Jyn : List COper := Jwz
instance : Reg Jyn Jwz 1 := ⟨rfl, rfl⟩
@[simp] def JLR : CCode :=
  .seq (.region JAN none [2, 3]) (.seq (.seq (.region Jx3 none [2, 3, 19]) (.cond (.t 19) (.seq (.region Jx6 none [4]) (.ret)) (.skip))) (.seq (.seq (.region JAI none [2, 3, 22, 23]) (.block 0 (.loop (.seq (.region Jxx none [2, 3, 22, 23, 24]) (.seq (.cond (.t 24) (.skip) (.exit 0)) (.seq (.block 1 (.seq (.region JxU none [2, 3, 5, 22, 23]) (.seq (.region Jx8 (some ([0, 1, 0, 7, 15, 0, 32, 0, 224, 480, 1023], [])) [2, 3, 22, 23, 36]) (.cond (.t 36) (.seq (.region JzF none [4]) (.ret)) (.skip))))) (.region JwQ none [2, 3, 22, 23]))))))) (.seq (.region Jyn none [4]) (.ret))))
@[simp] def JLm : List CRes := [.tmp 4]
theorem JLb : chkFn Tryd.prog JvG JLR JLm 2 = true := by kernel_rfl
@[simp] def JoF : List COper := [
  oq 3 .box [.t 0], oq 4 .box [.t 1], oq 5 .box [.t 2],
  ⟨(some 6), .mov, [.c (.bool false)], none⟩]
def Jmu : List COper := JoF
instance : Reg Jmu JoF 4 := ⟨rfl, rfl⟩
@[simp] def JoL : List COper := [
  oq 11 (.load true 2) [.t 3], oq 12 (.call Jbn) [.t 11], oq 13 .not [.t 12], om 14 13,
  ⟨(some 15), .load true 99, [.t 4], (some (14, false))⟩,
  ⟨(some 16), .call Jj7, [.t 15], (some (14, false))⟩,
  ⟨(some 17), .not, [.t 16], (some (14, false))⟩, oq 18 .pick [.t 14, .c (.bool true), .t 17], om 19 18,
  ⟨(some 20), .faddr 0 1 false, [.t 4], (some (19, false))⟩,
  ⟨(some 21), .load false 1, [.t 20], (some (19, false))⟩,
  ⟨(some 22), .faddr 0 1 false, [.t 3], (some (19, false))⟩,
  ⟨(some 23), .load false 1, [.t 22], (some (19, false))⟩,
  ⟨(some 24), .bin .neq, [.t 21, .t 23], (some (19, false))⟩, oq 25 .pick [.t 19, .c (.bool true), .t 24], om 26 25,
  ⟨(some 27), .faddr 1 1 false, [.t 5], (some (26, false))⟩,
  ⟨(some 28), .load false 1, [.t 27], (some (26, false))⟩,
  ⟨(some 29), .len, [.t 28], (some (26, false))⟩,
  ⟨(some 30), .load true 2, [.t 3], (some (26, false))⟩,
  ⟨(some 31), .call Jer, [.t 30], (some (26, false))⟩,
  ⟨(some 32), .bin .lss, [.t 29, .t 31], (some (26, false))⟩,
  ⟨(some 33), .pick, [.t 26, .c (.bool true), .t 32], none⟩]
def JoG : List COper := JoL
instance : Reg JoG JoL 23 := ⟨rfl, rfl⟩
@[simp] def Jn7 : List COper := [
  ⟨(some 6), .mov, [.c (.bool false)], none⟩]
def Jp8 : List COper := Jn7
instance : Reg Jp8 Jn7 1 := ⟨rfl, rfl⟩
@[simp] def JoZ : List COper := [
  oq 34 (.load true 99) [.t 4], oq 35 (.call JgY) [.t 34], oq 7 (.alloc (.arr 1 (rep 32 (.v (.int .u8 0))))) [],
  ⟨none, .store true 32, [.t 7, .t 35], none⟩]
def JmU : List COper := JoZ
instance : Reg JmU JoZ 4 := ⟨rfl, rfl⟩
@[simp] def JnD : List COper := [
  ⟨(some 8), .mov, [.c (.int .i64 0)], none⟩]
def Jqj : List COper := JnD
instance : Reg Jqj JnD 1 := ⟨rfl, rfl⟩
@[simp] def Jps : List COper := [
  oq 36 (.faddr 1 1 false) [.t 5], oq 37 (.load false 1) [.t 36], oq 38 .len [.t 37],
  ⟨(some 39), .mov, [.c (.int .i64 0)], none⟩]
def JnJ : List COper := Jps
instance : Reg JnJ Jps 4 := ⟨rfl, rfl⟩
@[simp] def JoB : List COper := [
  ⟨(some 40), .bin .lss, [.t 39, .t 38], none⟩]
def JmP : List COper := JoB
instance : Reg JmP JoB 1 := ⟨rfl, rfl⟩
@[simp] def Jqb : List COper := [
  oq 41 (.iaddr 41) [.t 37, .t 39], oq 42 (.load true 41) [.t 41], oq 10 (.alloc (.node [.v (.int .i64 0), .v (.int .i64 0), .v (.int .i64 0), .v (.int .i64 0), .arr 1 (rep 32 (.v (.int .u8 0))), .v (.int .i64 0), .node [.v (.int .i64 0), .node [.v (.slice none 0 0), .v (.slice none 0 0)], .v (.slice none 0 0)]])) [],
  ⟨none, .store true 41, [.t 10, .t 42], none⟩]
def Jna : List COper := Jqb
instance : Reg Jna Jqb 4 := ⟨rfl, rfl⟩
@[simp] def Jqp : List COper := [
  oq 43 (.faddr 36 1 false) [.t 10], oq 44 (.load false 1) [.t 43], om 45 8, oq 46 (.bin .leq) [.t 44, .t 45], om 47 46,
  ⟨(some 48), .faddr 0 1 false, [.t 10], (some (47, false))⟩,
  ⟨(some 49), .load false 1, [.t 48], (some (47, false))⟩,
  ⟨(some 50), .bin .neq, [.t 49, .c (.int .i64 2)], (some (47, false))⟩, oq 51 .pick [.t 47, .c (.bool true), .t 50], om 52 51,
  ⟨(some 53), .faddr 2 1 false, [.t 10], (some (52, false))⟩,
  ⟨(some 54), .load false 1, [.t 53], (some (52, false))⟩,
  ⟨(some 55), .faddr 1 1 false, [.t 4], (some (52, false))⟩,
  ⟨(some 56), .load false 1, [.t 55], (some (52, false))⟩,
  ⟨(some 57), .bin .neq, [.t 54, .t 56], (some (52, false))⟩, oq 58 .pick [.t 52, .c (.bool true), .t 57], om 59 58,
  ⟨(some 60), .faddr 3 1 false, [.t 10], (some (59, false))⟩,
  ⟨(some 61), .load false 1, [.t 60], (some (59, false))⟩,
  ⟨(some 62), .faddr 0 1 false, [.t 5], (some (59, false))⟩,
  ⟨(some 63), .load false 1, [.t 62], (some (59, false))⟩,
  ⟨(some 64), .bin .neq, [.t 61, .t 63], (some (59, false))⟩, oq 65 .pick [.t 59, .c (.bool true), .t 64], om 66 65,
  ⟨(some 67), .faddr 4 32 true, [.t 10], (some (66, false))⟩,
  ⟨(some 68), .load true 32, [.t 67], (some (66, false))⟩,
  ⟨(some 69), .load true 32, [.t 7], (some (66, false))⟩,
  ⟨(some 70), .eqa true .u8 32, [.t 68, .t 69], (some (66, false))⟩, oq 71 .pick [.t 66, .c (.bool true), .t 70], om 72 71,
  ⟨(some 73), .load true 2, [.t 3], (some (72, false))⟩,
  ⟨(some 74), .load true 41, [.t 10], (some (72, false))⟩,
  ⟨(some 75), .call Jgp, [.t 73, .t 74], (some (72, false))⟩,
  ⟨(some 76), .not, [.t 75], (some (72, false))⟩,
  ⟨(some 77), .pick, [.t 72, .c (.bool true), .t 76], none⟩]
def Joj : List COper := Jqp
instance : Reg Joj Jqp 35 := ⟨rfl, rfl⟩
@[simp] def Jmz : List COper := [
  ⟨(some 6), .mov, [.c (.bool false)], none⟩]
def Jo0 : List COper := Jmz
instance : Reg Jo0 Jmz 1 := ⟨rfl, rfl⟩
@[simp] def JlP : List COper := [
  oq 78 (.faddr 36 1 false) [.t 10], oq 79 (.load false 1) [.t 78], om 8 79]
def Jkz : List COper := JlP
instance : Reg Jkz JlP 3 := ⟨rfl, rfl⟩
@[simp] def JlM : List COper := [
  oq 80 (.bin .add) [.t 39, .c (.int .i64 1)], om 39 80]
def JkQ : List COper := JlM
instance : Reg JkQ JlM 2 := ⟨rfl, rfl⟩
@[simp] def Jl4 : List COper := [
  ⟨(some 6), .mov, [.c (.bool true)], none⟩]
def JlV : List COper := Jl4
instance : Reg JlV Jl4 1 := ⟨rfl, rfl⟩
@[simp] def JHf : CCode :=
  .seq (.region Jmu none [3, 4, 5]) (.seq (.seq (.region JoG (some ([0, 1, 3, 7, 15, 31, 63, 127, 255, 511, 1023, 511, 2559, 8191, 16383, 32767, 65535, 131071, 262143, 65535, 589823, 2097151, 4194303], [(17, 20)])) [3, 4, 5, 33]) (.cond (.t 33) (.seq (.region Jp8 none [6]) (.ret)) (.skip))) (.seq (.region JmU none [3, 4, 5, 7]) (.seq (.region Jqj none [3, 4, 5, 7, 8]) (.seq (.seq (.region JnJ none [3, 4, 5, 7, 8, 37, 38, 39]) (.block 0 (.loop (.seq (.region JmP none [3, 4, 5, 7, 8, 37, 38, 39, 40]) (.seq (.cond (.t 40) (.skip) (.exit 0)) (.seq (.block 1 (.seq (.region Jna none [3, 4, 5, 7, 8, 10, 37, 38, 39]) (.seq (.seq (.region Joj none [3, 4, 5, 7, 10, 37, 38, 39, 77]) (.cond (.t 77) (.seq (.region Jo0 none [6]) (.ret)) (.skip))) (.region Jkz none [3, 4, 5, 7, 8, 37, 38, 39])))) (.region JkQ none [3, 4, 5, 7, 8, 37, 38, 39]))))))) (.seq (.region JlV none [6]) (.ret))))))
@[simp] def JGT : List CRes := [.tmp 6]
theorem JHF : chkFn Tryd.prog Jj4 JHf JGT 3 = true := by kernel_rfl
@[simp] def Jzf : List COper := [
  oq 2 .box [.t 0], oq 3 .box [.t 1],
  ⟨(some 4), .mov, [.c (.bool false)], none⟩]
def Jw4 : List COper := Jzf
instance : Reg Jw4 Jzf 3 := ⟨rfl, rfl⟩
@[simp] def Jz1 : List COper := [
  oq 6 (.faddr 0 1 false) [.t 2], oq 7 (.load false 1) [.t 6], oq 8 (.faddr 0 1 false) [.t 3], oq 9 (.load false 1) [.t 8], oq 10 (.bin .neq) [.t 7, .t 9], om 11 10,
  ⟨(some 12), .faddr 1 1 false, [.t 2], (some (11, false))⟩,
  ⟨(some 13), .load false 1, [.t 12], (some (11, false))⟩,
  ⟨(some 14), .len, [.t 13], (some (11, false))⟩,
  ⟨(some 15), .faddr 1 1 false, [.t 3], (some (11, false))⟩,
  ⟨(some 16), .load false 1, [.t 15], (some (11, false))⟩,
  ⟨(some 17), .len, [.t 16], (some (11, false))⟩,
  ⟨(some 18), .bin .neq, [.t 14, .t 17], (some (11, false))⟩,
  ⟨(some 19), .pick, [.t 11, .c (.bool true), .t 18], none⟩]
def JvR : List COper := Jz1
instance : Reg JvR Jz1 14 := ⟨rfl, rfl⟩
@[simp] def JxD : List COper := [
  ⟨(some 4), .mov, [.c (.bool false)], none⟩]
def JzS : List COper := JxD
instance : Reg JzS JxD 1 := ⟨rfl, rfl⟩
@[simp] def Jyj : List COper := [
  oq 20 (.faddr 1 1 false) [.t 2], oq 21 (.load false 1) [.t 20], oq 22 .len [.t 21],
  ⟨(some 23), .mov, [.c (.int .i64 0)], none⟩]
def JAd : List COper := Jyj
instance : Reg JAd Jyj 4 := ⟨rfl, rfl⟩
@[simp] def JyG : List COper := [
  ⟨(some 24), .bin .lss, [.t 23, .t 22], none⟩]
def JzQ : List COper := JyG
instance : Reg JzQ JyG 1 := ⟨rfl, rfl⟩
@[simp] def Jxm : List COper := [
  om 25 23, om 5 25]
def Jv7 : List COper := Jxm
instance : Reg Jv7 Jxm 2 := ⟨rfl, rfl⟩
@[simp] def Jzm : List COper := [
  oq 26 (.faddr 1 1 false) [.t 2], oq 27 (.load false 1) [.t 26], om 28 5, oq 29 (.iaddr 41) [.t 27, .t 28], oq 30 (.load true 41) [.t 29], oq 31 (.faddr 1 1 false) [.t 3], oq 32 (.load false 1) [.t 31], om 33 5, oq 34 (.iaddr 41) [.t 32, .t 33], oq 35 (.load true 41) [.t 34], oq 36 (.call Jvq) [.t 30, .t 35],
  ⟨(some 37), .not, [.t 36], none⟩]
def Jx9 : List COper := Jzm
instance : Reg Jx9 Jzm 12 := ⟨rfl, rfl⟩
@[simp] def JwH : List COper := [
  ⟨(some 4), .mov, [.c (.bool false)], none⟩]
def JAA : List COper := JwH
instance : Reg JAA JwH 1 := ⟨rfl, rfl⟩
@[simp] def Jxs : List COper := [
  oq 38 (.bin .add) [.t 23, .c (.int .i64 1)], om 23 38]
def JwS : List COper := Jxs
instance : Reg JwS Jxs 2 := ⟨rfl, rfl⟩
@[simp] def JAv : List COper := [
  ⟨(some 4), .mov, [.c (.bool true)], none⟩]
def Jzc : List COper := JAv
instance : Reg Jzc JAv 1 := ⟨rfl, rfl⟩
@[simp] def JK6 : CCode :=
  .seq (.region Jw4 none [2, 3]) (.seq (.seq (.region JvR none [2, 3, 19]) (.cond (.t 19) (.seq (.region JzS none [4]) (.ret)) (.skip))) (.seq (.seq (.region JAd none [2, 3, 22, 23]) (.block 0 (.loop (.seq (.region JzQ none [2, 3, 22, 23, 24]) (.seq (.cond (.t 24) (.skip) (.exit 0)) (.seq (.block 1 (.seq (.region Jv7 none [2, 3, 5, 22, 23]) (.seq (.region Jx9 (some ([0, 1, 0, 7, 15, 0, 32, 0, 224, 480, 1023, 2047], [])) [2, 3, 22, 23, 37]) (.cond (.t 37) (.seq (.region JAA none [4]) (.ret)) (.skip))))) (.region JwS none [2, 3, 22, 23]))))))) (.seq (.region Jzc none [4]) (.ret))))
@[simp] def JLU : List CRes := [.tmp 4]
theorem JLC : chkFn Tryd.prog Jvg JK6 JLU 2 = true := by kernel_rfl
@[simp] def Jph : List COper := [
  oq 3 .box [.t 1],
  ⟨(some 4), .mov, [.c (.bool false)], none⟩]
def Jp6 : List COper := Jph
instance : Reg Jp6 Jph 2 := ⟨rfl, rfl⟩
@[simp] def Jm0 : List COper := [
  oq 10 (.build [.v (.slice none 0 0)] []) [], oq 11 .box [.t 10], om 5 11]
def JpK : List COper := Jm0
instance : Reg JpK Jm0 3 := ⟨rfl, rfl⟩
@[simp] def JnU : List COper := [
  om 12 5, oq 13 (.faddr 0 1 false) [.t 3], oq 14 (.load false 1) [.t 13], oq 15 (.faddr 1 1 false) [.t 3], oq 16 (.load false 1) [.t 15], oq 17 .len [.t 16], oq 18 (.bslice 1 2 (.v (.int .i64 0)) [0, 1]) [.t 14, .t 17],
  ⟨(some 19), .call Jm, [.t 12, .t 18], none⟩]
def JnH : List COper := JnU
instance : Reg JnH JnU 8 := ⟨rfl, rfl⟩
@[simp] def JmB : List COper := [
  oq 20 (.faddr 1 1 false) [.t 3], oq 21 (.load false 1) [.t 20], oq 22 .len [.t 21],
  ⟨(some 23), .mov, [.c (.int .i64 0)], none⟩]
def JmE : List COper := JmB
instance : Reg JmE JmB 4 := ⟨rfl, rfl⟩
@[simp] def Jmh : List COper := [
  ⟨(some 24), .bin .lss, [.t 23, .t 22], none⟩]
def Jpj : List COper := Jmh
instance : Reg Jpj Jmh 1 := ⟨rfl, rfl⟩
@[simp] def Jpm : List COper := [
  oq 25 (.iaddr 41) [.t 21, .t 23], oq 26 (.load true 41) [.t 25], oq 7 (.alloc (.node [.v (.int .i64 0), .v (.int .i64 0), .v (.int .i64 0), .v (.int .i64 0), .arr 1 (rep 32 (.v (.int .u8 0))), .v (.int .i64 0), .node [.v (.int .i64 0), .node [.v (.slice none 0 0), .v (.slice none 0 0)], .v (.slice none 0 0)]])) [],
  ⟨none, .store true 41, [.t 7, .t 26], none⟩]
def Jl8 : List COper := Jpm
instance : Reg Jl8 Jpm 4 := ⟨rfl, rfl⟩
@[simp] def JnE : List COper := [
  om 27 5, oq 28 (.load true 41) [.t 7], oq 29 (.call JbA) [.t 27, .t 28],
  ⟨(some 30), .not, [.t 29], none⟩]
def Jl9 : List COper := JnE
instance : Reg Jl9 JnE 4 := ⟨rfl, rfl⟩
@[simp] def Jp1 : List COper := [
  ⟨(some 4), .mov, [.c (.bool false)], none⟩]
def JnP : List COper := Jp1
instance : Reg JnP Jp1 1 := ⟨rfl, rfl⟩
@[simp] def Jm4 : List COper := [
  oq 31 (.bin .add) [.t 23, .c (.int .i64 1)], om 23 31]
def JoM : List COper := Jm4
instance : Reg JoM Jm4 2 := ⟨rfl, rfl⟩
@[simp] def JnF : List COper := [
  om 32 0, oq 33 (.faddr 0 1 false) [.t 3], oq 34 (.load false 1) [.t 33], oq 35 (.faddr 1 1 false) [.t 3], oq 36 (.load false 1) [.t 35], oq 37 .len [.t 36], oq 38 (.bslice 1 2 (.v (.int .i64 0)) [0, 1]) [.t 34, .t 37],
  ⟨(some 39), .call Jm, [.t 32, .t 38], none⟩]
def JnM : List COper := JnF
instance : Reg JnM JnF 8 := ⟨rfl, rfl⟩
@[simp] def Jlx : List COper := [
  oq 40 (.faddr 1 1 false) [.t 3], oq 41 (.load false 1) [.t 40], oq 42 .len [.t 41],
  ⟨(some 43), .mov, [.c (.int .i64 0)], none⟩]
def Jlg : List COper := Jlx
instance : Reg Jlg Jlx 4 := ⟨rfl, rfl⟩
@[simp] def Jl5 : List COper := [
  ⟨(some 44), .bin .lss, [.t 43, .t 42], none⟩]
def Jlq : List COper := Jl5
instance : Reg Jlq Jl5 1 := ⟨rfl, rfl⟩
@[simp] def JlN : List COper := [
  oq 45 (.iaddr 41) [.t 41, .t 43], oq 46 (.load true 41) [.t 45], oq 9 (.alloc (.node [.v (.int .i64 0), .v (.int .i64 0), .v (.int .i64 0), .v (.int .i64 0), .arr 1 (rep 32 (.v (.int .u8 0))), .v (.int .i64 0), .node [.v (.int .i64 0), .node [.v (.slice none 0 0), .v (.slice none 0 0)], .v (.slice none 0 0)]])) [],
  ⟨none, .store true 41, [.t 9, .t 46], none⟩]
def Jk1 : List COper := JlN
instance : Reg Jk1 JlN 4 := ⟨rfl, rfl⟩
@[simp] def Jkk : List COper := [
  om 47 0, oq 48 (.load true 41) [.t 9],
  ⟨(some 49), .call JbA, [.t 47, .t 48], none⟩]
def Jkh : List COper := Jkk
instance : Reg Jkh Jkk 3 := ⟨rfl, rfl⟩
@[simp] def JlY : List COper := [
  oq 50 (.bin .add) [.t 43, .c (.int .i64 1)], om 43 50]
def JlO : List COper := JlY
instance : Reg JlO JlY 2 := ⟨rfl, rfl⟩
@[simp] def Jlr : List COper := [
  ⟨(some 4), .mov, [.c (.bool true)], none⟩]
def Jl2 : List COper := Jlr
instance : Reg Jl2 Jlr 1 := ⟨rfl, rfl⟩
@[simp] def JHQ : CCode :=
  .seq (.region Jp6 none [0, 3]) (.seq (.region JpK none [0, 3, 5]) (.seq (.region JnH none [0, 3, 5]) (.seq (.seq (.region JmE none [0, 3, 5, 21, 22, 23]) (.block 0 (.loop (.seq (.region Jpj none [0, 3, 5, 21, 22, 23, 24]) (.seq (.cond (.t 24) (.skip) (.exit 0)) (.seq (.block 1 (.seq (.region Jl8 none [0, 3, 5, 7, 21, 22, 23]) (.seq (.region Jl9 none [0, 3, 5, 21, 22, 23, 30]) (.cond (.t 30) (.seq (.region JnP none [4]) (.ret)) (.skip))))) (.region JoM none [0, 3, 5, 21, 22, 23]))))))) (.seq (.region JnM none [0, 3]) (.seq (.seq (.region Jlg none [0, 41, 42, 43]) (.block 2 (.loop (.seq (.region Jlq none [0, 41, 42, 43, 44]) (.seq (.cond (.t 44) (.skip) (.exit 2)) (.seq (.block 3 (.seq (.region Jk1 none [0, 9, 41, 42, 43]) (.region Jkh none [0, 41, 42, 43]))) (.region JlO none [0, 41, 42, 43]))))))) (.seq (.region Jl2 none [4]) (.ret)))))))
@[simp] def JHd : List CRes := [.tmp 4]
theorem JCI : chkFn Tryd.prog JbE JHQ JHd 2 = true := by kernel_rfl
@[simp] def Jsd : List COper := [
  oq 1 .box [.t 0],
  ⟨(some 2), .mov, [.c (.string (mkS []))], none⟩,
  ⟨(some 3), .mov, [.c (.bool false)], none⟩]
def JtI : List COper := Jsd
instance : Reg JtI Jsd 3 := ⟨rfl, rfl⟩
@[simp] def JrJ : List COper := [
  oq 9 (.faddr 0 1 false) [.t 1], oq 10 (.load false 1) [.t 9], oq 11 (.call JC) [.t 10], oq 12 (.faddr 1 1 false) [.t 1], oq 13 (.load false 1) [.t 12], oq 14 .len [.t 13], oq 15 (.call JC) [.t 14], oq 16 (.bin .add) [.t 11, .t 15], om 4 16]
def Jre : List COper := JrJ
instance : Reg Jre JrJ 9 := ⟨rfl, rfl⟩
@[simp] def JsM : List COper := [
  oq 17 (.faddr 1 1 false) [.t 1], oq 18 (.load false 1) [.t 17], oq 19 .len [.t 18],
  ⟨(some 20), .mov, [.c (.int .i64 0)], none⟩]
def JsA : List COper := JsM
instance : Reg JsA JsM 4 := ⟨rfl, rfl⟩
@[simp] def JsY : List COper := [
  ⟨(some 21), .bin .lss, [.t 20, .t 19], none⟩]
def Jrr : List COper := JsY
instance : Reg Jrr JsY 1 := ⟨rfl, rfl⟩
@[simp] def Jrp : List COper := [
  oq 22 (.iaddr 41) [.t 18, .t 20], oq 23 (.load true 41) [.t 22], oq 6 (.alloc (.node [.v (.int .i64 0), .v (.int .i64 0), .v (.int .i64 0), .v (.int .i64 0), .arr 1 (rep 32 (.v (.int .u8 0))), .v (.int .i64 0), .node [.v (.int .i64 0), .node [.v (.slice none 0 0), .v (.slice none 0 0)], .v (.slice none 0 0)]])) [],
  ⟨none, .store true 41, [.t 6, .t 23], none⟩]
def Jru : List COper := Jrp
instance : Reg Jru Jrp 4 := ⟨rfl, rfl⟩
@[simp] def Jrf : List COper := [
  oq 25 (.load true 41) [.t 6], oq 26 (.call JhX) [.t 25], om 24 26, oq 27 (.ext 0) [.t 24], oq 28 (.ext 1) [.t 24], om 7 27, om 8 28]
def JuI : List COper := Jrf
instance : Reg JuI Jrf 7 := ⟨rfl, rfl⟩
@[simp] def JuW : List COper := [
  om 29 8,
  ⟨(some 30), .not, [.t 29], none⟩]
def JtN : List COper := JuW
instance : Reg JtN JuW 2 := ⟨rfl, rfl⟩
@[simp] def Ju2 : List COper := [
  ⟨(some 2), .mov, [.c (.string (mkS []))], none⟩,
  ⟨(some 3), .mov, [.c (.bool false)], none⟩]
def JuC : List COper := Ju2
instance : Reg JuC Ju2 2 := ⟨rfl, rfl⟩
@[simp] def Jq5 : List COper := [
  om 31 4, om 32 7, oq 33 (.bin .add) [.t 31, .t 32], om 4 33]
def JsI : List COper := Jq5
instance : Reg JsI Jq5 4 := ⟨rfl, rfl⟩
@[simp] def JrY : List COper := [
  oq 34 (.bin .add) [.t 20, .c (.int .i64 1)], om 20 34]
def Jt2 : List COper := JrY
instance : Reg Jt2 JrY 2 := ⟨rfl, rfl⟩
@[simp] def Joa : List COper := [
  om 35 4, om 2 35,
  ⟨(some 3), .mov, [.c (.bool true)], none⟩]
def JmF : List COper := Joa
instance : Reg JmF Joa 3 := ⟨rfl, rfl⟩
@[simp] def JIU : CCode :=
  .seq (.region JtI none [1]) (.seq (.region Jre (some ([0, 1, 3, 0, 8, 24, 63, 127, 255], [(2, 4)])) [1, 4]) (.seq (.seq (.region JsA none [4, 18, 19, 20]) (.block 0 (.loop (.seq (.region Jrr none [4, 18, 19, 20, 21]) (.seq (.cond (.t 21) (.skip) (.exit 0)) (.seq (.block 1 (.seq (.region Jru none [4, 6, 18, 19, 20]) (.seq (.region JuI none [4, 7, 8, 18, 19, 20]) (.seq (.seq (.region JtN none [4, 7, 18, 19, 20, 30]) (.cond (.t 30) (.seq (.region JuC none [2, 3]) (.ret)) (.skip))) (.region JsI none [4, 18, 19, 20]))))) (.region Jt2 none [4, 18, 19, 20]))))))) (.seq (.region JmF none [2, 3]) (.ret))))
@[simp] def JIf : List CRes := [.tmp 2, .tmp 3]
theorem JIW : chkFn Tryd.prog JmJ JIU JIf 1 = true := by kernel_rfl
@[simp] def Jcn : List COper := [
  ⟨(some 2), .mov, [.c (.slice none 0 0)], none⟩]
def Jco : List COper := Jcn
instance : Reg Jco Jcn 1 := ⟨rfl, rfl⟩
@[simp] def Jb7 : List COper := [
  om 3 0,
  ⟨(some 4), .eqp false, [.t 3, .c (.pointer none)], none⟩]
def Jcj : List COper := Jb7
instance : Reg Jcj Jb7 2 := ⟨rfl, rfl⟩
@[simp] def JbW : List COper := [
  ⟨(some 2), .mov, [.c (.slice none 0 0)], none⟩]
def Jch : List COper := JbW
instance : Reg Jch JbW 1 := ⟨rfl, rfl⟩
@[simp] def Jcd : List COper := [
  om 5 0, oq 6 .nilc [.t 5], oq 7 (.faddr 0 1 false) [.t 6], oq 8 (.load false 1) [.t 7], oq 9 (.slice0 1) [.t 8], om 10 0, oq 11 .nilc [.t 10], oq 12 (.faddr 0 1 false) [.t 11], oq 13 (.load false 1) [.t 12], oq 14 (.app 1 1) [.t 9, .t 13], om 2 14]
def Jck : List COper := Jcd
instance : Reg Jck Jcd 11 := ⟨rfl, rfl⟩
@[simp] def Jvp : CCode :=
  .seq (.region Jco none [0]) (.seq (.seq (.region Jcj none [0, 4]) (.cond (.t 4) (.seq (.region Jch none [2]) (.ret)) (.skip))) (.seq (.region Jck (some ([0, 1, 3, 7, 15, 0, 32, 96, 224, 511, 1023], [(4, 8)])) [2]) (.ret)))
@[simp] def JvK : List CRes := [.tmp 2]
theorem Jvm : chkFn Tryd.prog Jt Jvp JvK 1 = true := by kernel_rfl
@[simp] def JuR : List COper := [
  ⟨(some 2), .mov, [.c (.pointer none)], none⟩]
def Jtw : List COper := JuR
instance : Reg Jtw JuR 1 := ⟨rfl, rfl⟩
@[simp] def Jrv : List COper := [
  oq 3 (.bslice 1 0 (.v (.int .u8 0)) []) [], om 4 0, oq 5 (.app 1 1) [.t 3, .t 4], oq 6 (.build [.v (.slice none 0 0), .v (.bool false)] [0]) [.t 5], oq 7 .box [.t 6], om 2 7]
def Jr0 : List COper := Jrv
instance : Reg Jr0 Jrv 6 := ⟨rfl, rfl⟩
@[simp] def JIv : CCode :=
  .seq (.region Jtw none [0]) (.seq (.region Jr0 none [2]) (.ret))
@[simp] def JJJ : List CRes := [.tmp 2]
theorem JJC : chkFn Tryd.prog JcN JIv JJJ 1 = true := by kernel_rfl
@[simp] def Jt4 : List COper := [
  ⟨(some 2), .alloc (.node [.v (.int .i64 0), .v (.slice none 0 0)]), [], none⟩]
def JqZ : List COper := Jt4
instance : Reg JqZ Jt4 1 := ⟨rfl, rfl⟩
@[simp] def JsZ : List COper := [
  om 4 0, oq 5 (.call Jd) [.t 4, .c (.int .i64 0), .c (.int .i64 1024)], oq 6 (.build [.v (.int .i64 0), .v (.slice none 0 0)] [0]) [.t 5], oq 3 (.alloc (.node [.v (.int .i64 0), .v (.slice none 0 0)])) [],
  ⟨none, .store true 2, [.t 3, .t 6], none⟩]
def JtG : List COper := JsZ
instance : Reg JtG JsZ 5 := ⟨rfl, rfl⟩
@[simp] def Jup : List COper := [
  om 7 0, oq 8 (.call Jd) [.t 7, .c (.int .i64 1), .c (.int .i64 10)],
  ⟨(some 9), .mov, [.c (.int .i64 0)], none⟩]
def JuQ : List COper := Jup
instance : Reg JuQ Jup 3 := ⟨rfl, rfl⟩
@[simp] def Jt6 : List COper := [
  ⟨(some 10), .bin .lss, [.t 9, .t 8], none⟩]
def Jse : List COper := Jt6
instance : Reg Jse Jt6 1 := ⟨rfl, rfl⟩
@[simp] def Jsz : List COper := [
  oq 11 (.faddr 1 1 false) [.t 3], oq 12 (.load false 1) [.t 11], om 13 0, oq 14 (.call JoN) [.t 13], oq 15 (.bslice 41 1 (.node [.v (.int .i64 0), .v (.int .i64 0), .v (.int .i64 0), .v (.int .i64 0), .arr 1 (rep 32 (.v (.int .u8 0))), .v (.int .i64 0), .node [.v (.int .i64 0), .node [.v (.slice none 0 0), .v (.slice none 0 0)], .v (.slice none 0 0)]]) [0]) [.t 14], oq 16 (.app 41 152) [.t 12, .t 15], oq 17 (.faddr 1 1 false) [.t 3],
  ⟨none, .store false 1, [.t 17, .t 16], none⟩]
def JrN : List COper := Jsz
instance : Reg JrN Jsz 8 := ⟨rfl, rfl⟩
@[simp] def JqS : List COper := [
  oq 18 (.bin .add) [.t 9, .c (.int .i64 1)], om 9 18]
def Jtr : List COper := JqS
instance : Reg Jtr JqS 2 := ⟨rfl, rfl⟩
@[simp] def Jra : List COper := [
  om 19 0, oq 20 (.call Jk) [.t 19],
  ⟨(some 21), .not, [.t 20], none⟩]
def Js3 : List COper := Jra
instance : Reg Js3 Jra 3 := ⟨rfl, rfl⟩
@[simp] def Jun : List COper := [
  oq 22 (.build [.v (.int .i64 0), .v (.slice none 0 0)] []) [],
  ⟨none, .store true 2, [.t 2, .t 22], none⟩]
def JrK : List COper := Jun
instance : Reg JrK Jun 2 := ⟨rfl, rfl⟩
@[simp] def Jum : List COper := [
  oq 23 (.load true 2) [.t 3],
  ⟨none, .store true 2, [.t 2, .t 23], none⟩]
def JtH : List COper := Jum
instance : Reg JtH Jum 2 := ⟨rfl, rfl⟩
@[simp] def JID : CCode :=
  .seq (.region JqZ none [0, 2]) (.seq (.region JtG none [0, 2, 3]) (.seq (.seq (.region JuQ none [0, 2, 3, 8, 9]) (.block 0 (.loop (.seq (.region Jse none [0, 2, 3, 8, 9, 10]) (.seq (.cond (.t 10) (.skip) (.exit 0)) (.seq (.block 1 (.region JrN (some ([0, 1, 0, 4, 12, 31, 63, 127], [(1, 3), (1, 4)])) [0, 2, 3, 8, 9])) (.region Jtr none [0, 2, 3, 8, 9]))))))) (.seq (.seq (.region Js3 none [2, 3, 21]) (.cond (.t 21) (.seq (.region JrK none [2]) (.ret)) (.skip))) (.seq (.region JtH none [2]) (.ret)))))
@[simp] def JIE : List CRes := [.cell 2 true 2]
theorem JJs : chkFn Tryd.prog JpV JID JIE 1 = true := by kernel_rfl
@[simp] def JxG : List COper := [
  ⟨(some 2), .alloc (.node [.v (.int .i64 0), .v (.slice none 0 0)]), [], none⟩]
def Jwq : List COper := JxG
instance : Reg Jwq JxG 1 := ⟨rfl, rfl⟩
@[simp] def Jwo : List COper := [
  ⟨(some 3), .alloc (.node [.v (.int .i64 0), .v (.slice none 0 0)]), [], none⟩]
def JAM : List COper := Jwo
instance : Reg JAM Jwo 1 := ⟨rfl, rfl⟩
@[simp] def JvS : List COper := [
  om 6 0, oq 7 (.call Jf) [.t 6, .c (.int .i64 0), .c (.int .i64 1024)], oq 8 (.faddr 0 1 false) [.t 3],
  ⟨none, .store false 1, [.t 8, .t 7], none⟩]
def Jwl : List COper := JvS
instance : Reg Jwl JvS 4 := ⟨rfl, rfl⟩
@[simp] def Jxy : List COper := [
  om 9 0, oq 10 (.call Jf) [.t 9, .c (.int .i64 1), .c (.int .i64 10)], om 4 10]
def JyD : List COper := Jxy
instance : Reg JyD Jxy 3 := ⟨rfl, rfl⟩
@[simp] def Jx0 : List COper := [
  ⟨(some 5), .mov, [.c (.int .i64 0)], none⟩]
def Jxt : List COper := Jx0
instance : Reg Jxt Jx0 1 := ⟨rfl, rfl⟩
@[simp] def JyP : List COper := [
  om 11 5, om 12 4, oq 13 (.bin .lss) [.t 11, .t 12], om 14 13,
  ⟨(some 15), .mov, [.t 0], (some (14, true))⟩,
  ⟨(some 16), .call Jj, [.t 15], (some (14, true))⟩,
  ⟨(some 17), .pick, [.t 14, .t 16, .c (.bool false)], none⟩]
def JAG : List COper := JyP
instance : Reg JAG JyP 7 := ⟨rfl, rfl⟩
@[simp] def JyU : List COper := [
  oq 20 (.faddr 1 1 false) [.t 3], oq 21 (.load false 1) [.t 20], om 22 0, oq 23 (.call Jvf) [.t 22], oq 24 (.bslice 41 1 (.node [.v (.int .i64 0), .v (.int .i64 0), .v (.int .i64 0), .v (.int .i64 0), .arr 1 (rep 32 (.v (.int .u8 0))), .v (.int .i64 0), .node [.v (.int .i64 0), .node [.v (.slice none 0 0), .v (.slice none 0 0)], .v (.slice none 0 0)]]) [0]) [.t 23], oq 25 (.app 41 152) [.t 21, .t 24], oq 26 (.faddr 1 1 false) [.t 3],
  ⟨none, .store false 1, [.t 26, .t 25], none⟩]
def Jyg : List COper := JyU
instance : Reg Jyg JyU 8 := ⟨rfl, rfl⟩
@[simp] def Jxr : List COper := [
  om 18 5, oq 19 (.bin .add) [.t 18, .c (.int .i64 1)], om 5 19]
def Jv9 : List COper := Jxr
instance : Reg Jv9 Jxr 3 := ⟨rfl, rfl⟩
@[simp] def JAB : List COper := [
  om 27 0, oq 28 (.call Jj) [.t 27],
  ⟨(some 29), .not, [.t 28], none⟩]
def JwY : List COper := JAB
instance : Reg JwY JAB 3 := ⟨rfl, rfl⟩
@[simp] def JzT : List COper := [
  oq 30 (.build [.v (.int .i64 0), .v (.slice none 0 0)] []) [],
  ⟨none, .store true 2, [.t 2, .t 30], none⟩]
def Jwk : List COper := JzT
instance : Reg Jwk JzT 2 := ⟨rfl, rfl⟩
@[simp] def Jt0 : List COper := [
  oq 31 (.load true 2) [.t 3],
  ⟨none, .store true 2, [.t 2, .t 31], none⟩]
def Jrz : List COper := Jt0
instance : Reg Jrz Jt0 2 := ⟨rfl, rfl⟩
@[simp] def JK7 : CCode :=
  .seq (.region Jwq none [0, 2]) (.seq (.region JAM none [0, 2, 3]) (.seq (.region Jwl none [0, 2, 3]) (.seq (.region JyD none [0, 2, 3, 4]) (.seq (.seq (.region Jxt none [0, 2, 3, 4, 5]) (.block 0 (.loop (.seq (.seq (.region JAG none [0, 2, 3, 4, 5, 17]) (.cond (.t 17) (.skip) (.exit 0))) (.seq (.block 1 (.region Jyg (some ([0, 1, 0, 4, 12, 31, 63, 127], [(1, 3), (1, 4)])) [0, 2, 3, 4, 5])) (.region Jv9 none [0, 2, 3, 4, 5])))))) (.seq (.seq (.region JwY none [2, 3, 29]) (.cond (.t 29) (.seq (.region Jwk none [2]) (.ret)) (.skip))) (.seq (.region Jrz none [2]) (.ret)))))))
@[simp] def JLA : List CRes := [.cell 2 true 2]
theorem JLI : chkFn Tryd.prog Jvd JK7 JLA 1 = true := by kernel_rfl
@[simp] def JdA : List COper := [
  ⟨(some 2), .mov, [.c (.bool false)], none⟩]
def JdL : List COper := JdA
instance : Reg JdL JdA 1 := ⟨rfl, rfl⟩
@[simp] def JdU : List COper := [
  om 3 0, oq 4 (.eqp true) [.t 3, .c (.pointer none)], om 5 4,
  ⟨(some 6), .mov, [.t 0], (some (5, true))⟩,
  ⟨(some 7), .nilc, [.t 6], (some (5, true))⟩,
  ⟨(some 8), .faddr 1 1 false, [.t 7], (some (5, true))⟩,
  ⟨(some 9), .load false 1, [.t 8], (some (5, true))⟩,
  ⟨(some 10), .not, [.t 9], (some (5, true))⟩, oq 11 .pick [.t 5, .t 10, .c (.bool false)], om 2 11]
def Jef : List COper := JdU
instance : Reg Jef JdU 10 := ⟨rfl, rfl⟩
@[simp] def JyL : CCode :=
  .seq (.region JdL none [0]) (.seq (.region Jef none [2]) (.ret))
@[simp] def JAK : List CRes := [.tmp 2]
theorem Jyh : chkFn Tryd.prog Jk JyL JAK 1 = true := by kernel_rfl
@[simp] def Je6 : List COper := [
  ⟨(some 2), .mov, [.c (.bool false)], none⟩]
def JfD : List COper := Je6
instance : Reg JfD Je6 1 := ⟨rfl, rfl⟩
@[simp] def Jgg : List COper := [
  om 3 0, oq 4 .nilc [.t 3], oq 5 (.faddr 1 1 false) [.t 4], oq 6 (.load false 1) [.t 5], oq 7 .not [.t 6], om 2 7]
def Jez : List COper := Jgg
instance : Reg Jez Jgg 6 := ⟨rfl, rfl⟩
@[simp] def JA9 : CCode :=
  .seq (.region JfD none [0]) (.seq (.region Jez none [2]) (.ret))
@[simp] def JBk : List CRes := [.tmp 2]
theorem JBh : chkFn Tryd.prog Jj JA9 JBk 1 = true := by kernel_rfl
@[simp] def JfT : List COper := [
  ⟨(some 2), .mov, [.c (.bool false)], none⟩]
def Je2 : List COper := JfT
instance : Reg Je2 JfT 1 := ⟨rfl, rfl⟩
@[simp] def Jf2 : List COper := [
  om 3 0, oq 4 (.call Jk) [.t 3], om 5 4,
  ⟨(some 6), .mov, [.t 0], (some (5, true))⟩,
  ⟨(some 7), .nilc, [.t 6], (some (5, true))⟩,
  ⟨(some 8), .faddr 0 1 false, [.t 7], (some (5, true))⟩,
  ⟨(some 9), .load false 1, [.t 8], (some (5, true))⟩,
  ⟨(some 10), .len, [.t 9], (some (5, true))⟩,
  ⟨(some 11), .bin .eql, [.t 10, .c (.int .i64 0)], (some (5, true))⟩, oq 12 .pick [.t 5, .t 11, .c (.bool false)], om 2 12]
def Jf8 : List COper := Jf2
instance : Reg Jf8 Jf2 11 := ⟨rfl, rfl⟩
@[simp] def JBn : CCode :=
  .seq (.region Je2 none [0]) (.seq (.region Jf8 none [2]) (.ret))
@[simp] def JAW : List CRes := [.tmp 2]
theorem JBm : chkFn Tryd.prog J9 JBn JAW 1 = true := by kernel_rfl
@[simp] def Jhj : List COper := [
  ⟨(some 2), .mov, [.c (.bool false)], none⟩]
def JgI : List COper := Jhj
instance : Reg JgI Jhj 1 := ⟨rfl, rfl⟩
@[simp] def Jha : List COper := [
  om 3 0, oq 4 .nilc [.t 3], oq 5 (.faddr 1 1 false) [.t 4], oq 6 (.load false 1) [.t 5], oq 7 .not [.t 6], om 8 7,
  ⟨(some 9), .mov, [.t 0], (some (8, true))⟩,
  ⟨(some 10), .nilc, [.t 9], (some (8, true))⟩,
  ⟨(some 11), .faddr 0 1 false, [.t 10], (some (8, true))⟩,
  ⟨(some 12), .load false 1, [.t 11], (some (8, true))⟩,
  ⟨(some 13), .bin .eql, [.t 12, .c (.string (mkS []))], (some (8, true))⟩, oq 14 .pick [.t 8, .t 13, .c (.bool false)], om 2 14]
def JgN : List COper := Jha
instance : Reg JgN Jha 13 := ⟨rfl, rfl⟩
@[simp] def JC3 : CCode :=
  .seq (.region JgI none [0]) (.seq (.region JgN none [2]) (.ret))
@[simp] def JC2 : List CRes := [.tmp 2]
theorem JDb : chkFn Tryd.prog Jcq JC3 JC2 1 = true := by kernel_rfl
@[simp] def Jlo : List COper := [
  oq 3 .box [.t 1],
  ⟨(some 4), .mov, [.c (.bool false)], none⟩]
def Jka : List COper := Jlo
instance : Reg Jka Jlo 2 := ⟨rfl, rfl⟩
@[simp] def Jj9 : List COper := [
  oq 6 (.build [.v (.slice none 0 0)] []) [], oq 7 .box [.t 6], om 5 7]
def Jlj : List COper := Jj9
instance : Reg Jlj Jj9 3 := ⟨rfl, rfl⟩
@[simp] def Jk9 : List COper := [
  om 8 5, oq 9 (.faddr 99 2 true) [.t 3], oq 10 (.load true 2) [.t 9], oq 11 (.call JbE) [.t 8, .t 10],
  ⟨(some 12), .not, [.t 11], none⟩]
def Jkn : List COper := Jk9
instance : Reg Jkn Jk9 5 := ⟨rfl, rfl⟩
@[simp] def Jlk : List COper := [
  ⟨(some 4), .mov, [.c (.bool false)], none⟩]
def Jko : List COper := Jlk
instance : Reg Jko Jlk 1 := ⟨rfl, rfl⟩
@[simp] def JkO : List COper := [
  om 13 0, oq 14 (.faddr 0 99 true) [.t 3], oq 15 (.load true 99) [.t 14],
  ⟨(some 16), .call Jcu, [.t 13, .t 15], none⟩]
def Jk5 : List COper := JkO
instance : Reg Jk5 JkO 4 := ⟨rfl, rfl⟩
@[simp] def Jlz : List COper := [
  om 17 0, oq 18 (.faddr 99 2 true) [.t 3], oq 19 (.load true 2) [.t 18],
  ⟨(some 20), .call JbE, [.t 17, .t 19], none⟩]
def JlW : List COper := Jlz
instance : Reg JlW Jlz 4 := ⟨rfl, rfl⟩
@[simp] def Jkr : List COper := [
  om 21 0, oq 22 (.faddr 101 2 true) [.t 3], oq 23 (.load true 2) [.t 22],
  ⟨(some 24), .call JbC, [.t 21, .t 23], none⟩]
def JlB : List COper := Jkr
instance : Reg JlB Jkr 4 := ⟨rfl, rfl⟩
@[simp] def Jkv : List COper := [
  ⟨(some 4), .mov, [.c (.bool true)], none⟩]
def JkX : List COper := Jkv
instance : Reg JkX Jkv 1 := ⟨rfl, rfl⟩
@[simp] def JFD : CCode :=
  .seq (.region Jka none [0, 3]) (.seq (.region Jlj none [0, 3, 5]) (.seq (.seq (.region Jkn none [0, 3, 12]) (.cond (.t 12) (.seq (.region Jko none [4]) (.ret)) (.skip))) (.seq (.region Jk5 none [0, 3]) (.seq (.region JlW none [0, 3]) (.seq (.region JlB none []) (.seq (.region JkX none [4]) (.ret)))))))
@[simp] def JFQ : List CRes := [.tmp 4]
theorem Jwx : chkFn Tryd.prog Jbl JFD JFQ 2 = true := by kernel_rfl
@[simp] def Jrl : List COper := [
  oq 1 .box [.t 0],
  ⟨(some 2), .mov, [.c (.string (mkS []))], none⟩,
  ⟨(some 3), .mov, [.c (.bool false)], none⟩]
def Jt1 : List COper := Jrl
instance : Reg Jt1 Jrl 3 := ⟨rfl, rfl⟩
@[simp] def JsO : List COper := [
  oq 7 (.faddr 99 2 true) [.t 1], oq 8 (.load true 2) [.t 7], oq 9 (.call JmJ) [.t 8], om 6 9, oq 10 (.ext 0) [.t 6], oq 11 (.ext 1) [.t 6], om 4 10, om 5 11]
def JqQ : List COper := JsO
instance : Reg JqQ JsO 8 := ⟨rfl, rfl⟩
@[simp] def JqR : List COper := [
  om 12 5,
  ⟨(some 13), .not, [.t 12], none⟩]
def Jr7 : List COper := JqR
instance : Reg Jr7 JqR 2 := ⟨rfl, rfl⟩
@[simp] def Jr2 : List COper := [
  ⟨(some 2), .mov, [.c (.string (mkS []))], none⟩,
  ⟨(some 3), .mov, [.c (.bool false)], none⟩]
def Jtj : List COper := Jr2
instance : Reg Jtj Jr2 2 := ⟨rfl, rfl⟩
@[simp] def Jro : List COper := [
  oq 14 (.faddr 0 99 true) [.t 1], oq 15 (.load true 99) [.t 14], oq 16 (.call Jp0) [.t 15], om 17 4, oq 18 (.bin .add) [.t 16, .t 17], oq 19 (.faddr 101 2 true) [.t 1], oq 20 (.load true 2) [.t 19], oq 21 (.call JmH) [.t 20], oq 22 (.bin .add) [.t 18, .t 21], om 2 22,
  ⟨(some 3), .mov, [.c (.bool true)], none⟩]
def Jtz : List COper := Jro
instance : Reg Jtz Jro 11 := ⟨rfl, rfl⟩
@[simp] def JIR : CCode :=
  .seq (.region Jt1 none [1]) (.seq (.region JqQ none [1, 4, 5]) (.seq (.seq (.region Jr7 none [1, 4, 13]) (.cond (.t 13) (.seq (.region Jtj none [2, 3]) (.ret)) (.skip))) (.seq (.region Jtz (some ([0, 1, 3, 0, 15, 0, 32, 103, 255, 511, 1023], [(2, 6)])) [2, 3]) (.ret))))
@[simp] def JIF : List CRes := [.tmp 2, .tmp 3]
theorem JId : chkFn Tryd.prog Jqf JIR JIF 1 = true := by kernel_rfl
@[simp] def JyI : List COper := [
  oq 2 .box [.t 0], oq 3 .box [.t 1],
  ⟨(some 4), .mov, [.c (.bool false)], none⟩]
def Jxo : List COper := JyI
instance : Reg Jxo JyI 3 := ⟨rfl, rfl⟩
@[simp] def Jz3 : List COper := [
  oq 5 (.faddr 0 99 true) [.t 2], oq 6 (.load true 99) [.t 5], oq 7 (.faddr 0 99 true) [.t 3], oq 8 (.load true 99) [.t 7], oq 9 (.call JjO) [.t 6, .t 8], om 10 9,
  ⟨(some 11), .faddr 99 2 true, [.t 2], (some (10, true))⟩,
  ⟨(some 12), .load true 2, [.t 11], (some (10, true))⟩,
  ⟨(some 13), .faddr 99 2 true, [.t 3], (some (10, true))⟩,
  ⟨(some 14), .load true 2, [.t 13], (some (10, true))⟩,
  ⟨(some 15), .call Jvg, [.t 12, .t 14], (some (10, true))⟩, oq 16 .pick [.t 10, .t 15, .c (.bool false)], om 17 16,
  ⟨(some 18), .faddr 101 2 true, [.t 2], (some (17, true))⟩,
  ⟨(some 19), .load true 2, [.t 18], (some (17, true))⟩,
  ⟨(some 20), .faddr 101 2 true, [.t 3], (some (17, true))⟩,
  ⟨(some 21), .load true 2, [.t 20], (some (17, true))⟩,
  ⟨(some 22), .call JvG, [.t 19, .t 21], (some (17, true))⟩, oq 23 .pick [.t 17, .t 22, .c (.bool false)], om 4 23]
def JzI : List COper := Jz3
instance : Reg JzI Jz3 20 := ⟨rfl, rfl⟩
@[simp] def JKM : CCode :=
  .seq (.region Jxo none [2, 3]) (.seq (.region JzI none [4]) (.ret))
@[simp] def JLS : List CRes := [.tmp 4]
theorem JLX : chkFn Tryd.prog JgA JKM JLS 2 = true := by kernel_rfl
@[simp] def Jnx : List COper := [
  ⟨(some 2), .alloc (.node [.node [.v (.int .i64 0), .v (.int .i64 0), .arr 1 (rep 32 (.v (.int .u8 0))), .arr 1 (rep 32 (.v (.int .u8 0))), .arr 1 (rep 32 (.v (.int .u8 0))), .v (.slice none 0 0)], .node [.v (.int .i64 0), .v (.slice none 0 0)], .node [.v (.int .i64 0), .v (.slice none 0 0)]]), [], none⟩]
def JmT : List COper := Jnx
instance : Reg JmT Jnx 1 := ⟨rfl, rfl⟩
@[simp] def Jo8 : List COper := [
  om 4 0, oq 5 (.call Jgt) [.t 4], om 6 0, oq 7 (.call JpV) [.t 6], om 8 0, oq 9 (.call Jix) [.t 8], oq 10 (.build [.node [.v (.int .i64 0), .v (.int .i64 0), .arr 1 (rep 32 (.v (.int .u8 0))), .arr 1 (rep 32 (.v (.int .u8 0))), .arr 1 (rep 32 (.v (.int .u8 0))), .v (.slice none 0 0)], .node [.v (.int .i64 0), .v (.slice none 0 0)], .node [.v (.int .i64 0), .v (.slice none 0 0)]] [0, 1, 2]) [.t 5, .t 7, .t 9], oq 3 (.alloc (.node [.node [.v (.int .i64 0), .v (.int .i64 0), .arr 1 (rep 32 (.v (.int .u8 0))), .arr 1 (rep 32 (.v (.int .u8 0))), .arr 1 (rep 32 (.v (.int .u8 0))), .v (.slice none 0 0)], .node [.v (.int .i64 0), .v (.slice none 0 0)], .node [.v (.int .i64 0), .v (.slice none 0 0)]])) [],
  ⟨none, .store true 103, [.t 3, .t 10], none⟩]
def Jpk : List COper := Jo8
instance : Reg Jpk Jo8 9 := ⟨rfl, rfl⟩
@[simp] def Jn4 : List COper := [
  om 11 0, oq 12 (.call Jk) [.t 11],
  ⟨(some 13), .not, [.t 12], none⟩]
def Jne : List COper := Jn4
instance : Reg Jne Jn4 3 := ⟨rfl, rfl⟩
@[simp] def Jqi : List COper := [
  oq 14 (.build [.node [.v (.int .i64 0), .v (.int .i64 0), .arr 1 (rep 32 (.v (.int .u8 0))), .arr 1 (rep 32 (.v (.int .u8 0))), .arr 1 (rep 32 (.v (.int .u8 0))), .v (.slice none 0 0)], .node [.v (.int .i64 0), .v (.slice none 0 0)], .node [.v (.int .i64 0), .v (.slice none 0 0)]] []) [],
  ⟨none, .store true 103, [.t 2, .t 14], none⟩]
def Jo2 : List COper := Jqi
instance : Reg Jo2 Jqi 2 := ⟨rfl, rfl⟩
@[simp] def JoS : List COper := [
  oq 15 (.load true 103) [.t 3],
  ⟨none, .store true 103, [.t 2, .t 15], none⟩]
def Jnb : List COper := JoS
instance : Reg Jnb JoS 2 := ⟨rfl, rfl⟩
@[simp] def JGt : CCode :=
  .seq (.region JmT none [0, 2]) (.seq (.region Jpk none [0, 2, 3]) (.seq (.seq (.region Jne none [2, 3, 13]) (.cond (.t 13) (.seq (.region Jo2 none [2]) (.ret)) (.skip))) (.seq (.region Jnb none [2]) (.ret))))
@[simp] def JGD : List CRes := [.cell 2 true 103]
theorem JHr : chkFn Tryd.prog Jgn JGt JGD 1 = true := by kernel_rfl
@[simp] def JvP : List COper := [
  ⟨(some 2), .alloc (.node [.node [.v (.int .i64 0), .v (.int .i64 0), .arr 1 (rep 32 (.v (.int .u8 0))), .arr 1 (rep 32 (.v (.int .u8 0))), .arr 1 (rep 32 (.v (.int .u8 0))), .v (.slice none 0 0)], .node [.v (.int .i64 0), .v (.slice none 0 0)], .node [.v (.int .i64 0), .v (.slice none 0 0)]]), [], none⟩]
def Jzn : List COper := JvP
instance : Reg Jzn JvP 1 := ⟨rfl, rfl⟩
@[simp] def JAa : List COper := [
  ⟨(some 3), .alloc (.node [.node [.v (.int .i64 0), .v (.int .i64 0), .arr 1 (rep 32 (.v (.int .u8 0))), .arr 1 (rep 32 (.v (.int .u8 0))), .arr 1 (rep 32 (.v (.int .u8 0))), .v (.slice none 0 0)], .node [.v (.int .i64 0), .v (.slice none 0 0)], .node [.v (.int .i64 0), .v (.slice none 0 0)]]), [], none⟩]
def Jzl : List COper := JAa
instance : Reg Jzl JAa 1 := ⟨rfl, rfl⟩
@[simp] def JyS : List COper := [
  om 4 0, oq 5 (.call Jj0) [.t 4], oq 6 (.faddr 0 99 true) [.t 3],
  ⟨none, .store true 99, [.t 6, .t 5], none⟩]
def JyN : List COper := JyS
instance : Reg JyN JyS 4 := ⟨rfl, rfl⟩
@[simp] def Jx2 : List COper := [
  om 7 0, oq 8 (.call Jvd) [.t 7], oq 9 (.faddr 99 2 true) [.t 3],
  ⟨none, .store true 2, [.t 9, .t 8], none⟩]
def Jwm : List COper := Jx2
instance : Reg Jwm Jx2 4 := ⟨rfl, rfl⟩
@[simp] def JyZ : List COper := [
  om 10 0, oq 11 (.call Jvo) [.t 10], oq 12 (.faddr 101 2 true) [.t 3],
  ⟨none, .store true 2, [.t 12, .t 11], none⟩]
def Jyw : List COper := JyZ
instance : Reg Jyw JyZ 4 := ⟨rfl, rfl⟩
@[simp] def Jwr : List COper := [
  om 13 0, oq 14 (.call Jj) [.t 13],
  ⟨(some 15), .not, [.t 14], none⟩]
def Jxf : List COper := Jwr
instance : Reg Jxf Jwr 3 := ⟨rfl, rfl⟩
@[simp] def JxI : List COper := [
  oq 16 (.build [.node [.v (.int .i64 0), .v (.int .i64 0), .arr 1 (rep 32 (.v (.int .u8 0))), .arr 1 (rep 32 (.v (.int .u8 0))), .arr 1 (rep 32 (.v (.int .u8 0))), .v (.slice none 0 0)], .node [.v (.int .i64 0), .v (.slice none 0 0)], .node [.v (.int .i64 0), .v (.slice none 0 0)]] []) [],
  ⟨none, .store true 103, [.t 2, .t 16], none⟩]
def Jv5 : List COper := JxI
instance : Reg Jv5 JxI 2 := ⟨rfl, rfl⟩
@[simp] def JAn : List COper := [
  oq 17 (.load true 103) [.t 3],
  ⟨none, .store true 103, [.t 2, .t 17], none⟩]
def Jxu : List COper := JAn
instance : Reg Jxu JAn 2 := ⟨rfl, rfl⟩
@[simp] def JLK : CCode :=
  .seq (.region Jzn none [0, 2]) (.seq (.region Jzl none [0, 2, 3]) (.seq (.region JyN none [0, 2, 3]) (.seq (.region Jwm none [0, 2, 3]) (.seq (.region Jyw none [0, 2, 3]) (.seq (.seq (.region Jxf none [2, 3, 15]) (.cond (.t 15) (.seq (.region Jv5 none [2]) (.ret)) (.skip))) (.seq (.region Jxu none [2]) (.ret)))))))
@[simp] def JKR : List CRes := [.cell 2 true 103]
theorem JKL : chkFn Tryd.prog Jvi JLK JKR 1 = true := by kernel_rfl
@[simp] def JuJ : List COper := [
  oq 2 .box [.t 0],
  ⟨(some 4), .mov, [.c (.bool false)], none⟩]
def JuL : List COper := JuJ
instance : Reg JuL JuJ 2 := ⟨rfl, rfl⟩
@[simp] def JtR : List COper := [
  ⟨(some 5), .mov, [.c (.int .i64 0)], none⟩]
def JrQ : List COper := JtR
instance : Reg JrQ JtR 1 := ⟨rfl, rfl⟩
@[simp] def JrR : List COper := [
  oq 10 (.faddr 98 1 false) [.t 2], oq 11 (.load false 1) [.t 10], oq 12 .len [.t 11],
  ⟨(some 13), .bin .gtr, [.t 12, .c (.int .i64 40)], none⟩]
def JrC : List COper := JrR
instance : Reg JrC JrR 4 := ⟨rfl, rfl⟩
@[simp] def Jtv : List COper := [
  ⟨(some 4), .mov, [.c (.bool true)], none⟩]
def Jtg : List COper := Jtv
instance : Reg Jtg Jtv 1 := ⟨rfl, rfl⟩
@[simp] def Jr6 : List COper := [
  oq 14 (.faddr 98 1 false) [.t 2], oq 15 (.load false 1) [.t 14], oq 16 .len [.t 15],
  ⟨(some 17), .mov, [.c (.int .i64 0)], none⟩]
def Jrk : List COper := Jr6
instance : Reg Jrk Jr6 4 := ⟨rfl, rfl⟩
@[simp] def JsR : List COper := [
  ⟨(some 18), .bin .lss, [.t 17, .t 16], none⟩]
def JuT : List COper := JsR
instance : Reg JuT JsR 1 := ⟨rfl, rfl⟩
@[simp] def JrI : List COper := [
  oq 19 (.iaddr 42) [.t 15, .t 17], oq 20 (.load true 42) [.t 19], oq 7 (.alloc (.node [.v (.int .i64 0), .v (.int .i64 0), .node [.v (.int .i64 0), .v (.string (mkS [])), .v (.string (mkS [])), .v (.string (mkS [])), .node [.v (.int .i64 0), .v (.int .i64 0), .v (.int .i64 0), .node [.arr 1 (rep 32 (.v (.int .u8 0))), .v (.int .i64 0)]]]])) [],
  ⟨none, .store true 42, [.t 7, .t 20], none⟩]
def JtV : List COper := JrI
instance : Reg JtV JrI 4 := ⟨rfl, rfl⟩
@[simp] def JrM : List COper := [
  om 21 5, oq 22 (.bin .add) [.t 21, .c (.int .i64 100)], om 5 22]
def Jue : List COper := JrM
instance : Reg Jue JrM 3 := ⟨rfl, rfl⟩
@[simp] def JuM : List COper := [
  oq 23 (.faddr 2 40 true) [.t 7], oq 24 (.faddr 1 1 false) [.t 23], oq 25 (.load false 1) [.t 24], oq 26 (.faddr 2 40 true) [.t 7], oq 27 (.faddr 2 1 false) [.t 26], oq 28 (.load false 1) [.t 27], oq 29 (.faddr 2 40 true) [.t 7], oq 30 (.faddr 3 1 false) [.t 29], oq 31 (.load false 1) [.t 30], oq 32 (.buildA 1 (rep 3 (.v (.string (mkS [])))) (upTo 3)) [.t 25, .t 28, .t 31],
  ⟨(some 33), .mov, [.c (.int .i64 0)], none⟩]
def Jub : List COper := JuM
instance : Reg Jub JuM 11 := ⟨rfl, rfl⟩
@[simp] def Jsq : List COper := [
  ⟨(some 34), .bin .lss, [.t 33, .c (.int .i64 3)], none⟩]
def JqY : List COper := Jsq
instance : Reg JqY Jsq 1 := ⟨rfl, rfl⟩
@[simp] def Jpi : List COper := [
  oq 35 (.idx false 3 1) [.t 32, .t 33], om 9 35]
def Jp2 : List COper := Jpi
instance : Reg Jp2 Jpi 2 := ⟨rfl, rfl⟩
@[simp] def Jms : List COper := [
  om 36 5, om 37 9, oq 38 .lenS [.t 37], oq 39 (.bin .add) [.t 36, .t 38], om 5 39]
def Joe : List COper := Jms
instance : Reg Joe Jms 5 := ⟨rfl, rfl⟩
@[simp] def Jnn : List COper := [
  om 40 5, om 41 1,
  ⟨(some 42), .bin .gtr, [.t 40, .t 41], none⟩]
def Jnp : List COper := Jnn
instance : Reg Jnp Jnn 3 := ⟨rfl, rfl⟩
@[simp] def JoH : List COper := [
  ⟨(some 4), .mov, [.c (.bool true)], none⟩]
def Jom : List COper := JoH
instance : Reg Jom JoH 1 := ⟨rfl, rfl⟩
@[simp] def Jow : List COper := [
  oq 43 (.bin .add) [.t 33, .c (.int .i64 1)], om 33 43]
def Jpd : List COper := Jow
instance : Reg Jpd Jow 2 := ⟨rfl, rfl⟩
@[simp] def JpL : List COper := [
  oq 44 (.bin .add) [.t 17, .c (.int .i64 1)], om 17 44]
def Jmi : List COper := JpL
instance : Reg Jmi JpL 2 := ⟨rfl, rfl⟩
@[simp] def JnX : List COper := [
  om 45 5, om 46 1, oq 47 (.bin .gtr) [.t 45, .t 46], om 4 47]
def JmW : List COper := JnX
instance : Reg JmW JnX 4 := ⟨rfl, rfl⟩
@[simp] def JJf : CCode :=
  .seq (.region JuL none [1, 2]) (.seq (.region JrQ none [1, 2, 5]) (.seq (.seq (.region JrC none [1, 2, 5, 13]) (.cond (.t 13) (.seq (.region Jtg none [4]) (.ret)) (.skip))) (.seq (.seq (.region Jrk none [1, 5, 15, 16, 17]) (.block 0 (.loop (.seq (.region JuT none [1, 5, 15, 16, 17, 18]) (.seq (.cond (.t 18) (.skip) (.exit 0)) (.seq (.block 1 (.seq (.region JtV none [1, 5, 7, 15, 16, 17]) (.seq (.region Jue none [1, 5, 7, 15, 16, 17]) (.seq (.region Jub none [1, 5, 15, 16, 17, 32, 33]) (.block 2 (.loop (.seq (.region JqY none [1, 5, 15, 16, 17, 32, 33, 34]) (.seq (.cond (.t 34) (.skip) (.exit 2)) (.seq (.block 3 (.seq (.region Jp2 none [1, 5, 9, 15, 16, 17, 32, 33]) (.seq (.region Joe none [1, 5, 15, 16, 17, 32, 33]) (.seq (.region Jnp none [1, 5, 15, 16, 17, 32, 33, 42]) (.cond (.t 42) (.seq (.region Jom none [4]) (.ret)) (.skip)))))) (.region Jpd none [1, 5, 15, 16, 17, 32, 33])))))))))) (.region Jmi none [1, 5, 15, 16, 17]))))))) (.seq (.region JmW none [4]) (.ret)))))
@[simp] def JIm : List CRes := [.tmp 4]
theorem JIa : chkFn Tryd.prog Jol JJf JIm 2 = true := by kernel_rfl
@[simp] def Jlv : List COper := [
  oq 1 .box [.t 0],
  ⟨(some 2), .mov, [.c (.bool false)], none⟩]
def Jkf : List COper := Jlv
instance : Reg Jkf Jlv 2 := ⟨rfl, rfl⟩
@[simp] def Jlt : List COper := [
  oq 5 (.faddr 0 1 false) [.t 1], oq 6 (.load false 1) [.t 5], oq 7 (.bin .lss) [.t 6, .c (.int .i64 0)], om 8 7,
  ⟨(some 9), .faddr 0 1 false, [.t 1], (some (8, false))⟩,
  ⟨(some 10), .load false 1, [.t 9], (some (8, false))⟩,
  ⟨(some 11), .bin .gtr, [.t 10, .c (.int .i64 1073741824)], (some (8, false))⟩, oq 12 .pick [.t 8, .c (.bool true), .t 11], om 13 12,
  ⟨(some 14), .faddr 1 1 false, [.t 1], (some (13, false))⟩,
  ⟨(some 15), .load false 1, [.t 14], (some (13, false))⟩,
  ⟨(some 16), .len, [.t 15], (some (13, false))⟩,
  ⟨(some 17), .bin .eql, [.t 16, .c (.int .i64 0)], (some (13, false))⟩, oq 18 .pick [.t 13, .c (.bool true), .t 17], om 19 18,
  ⟨(some 20), .faddr 1 1 false, [.t 1], (some (19, false))⟩,
  ⟨(some 21), .load false 1, [.t 20], (some (19, false))⟩,
  ⟨(some 22), .len, [.t 21], (some (19, false))⟩,
  ⟨(some 23), .bin .gtr, [.t 22, .c (.int .i64 10)], (some (19, false))⟩,
  ⟨(some 24), .pick, [.t 19, .c (.bool true), .t 23], none⟩]
def JlI : List COper := Jlt
instance : Reg JlI Jlt 20 := ⟨rfl, rfl⟩
@[simp] def JlX : List COper := [
  ⟨(some 2), .mov, [.c (.bool false)], none⟩]
def JkR : List COper := JlX
instance : Reg JkR JlX 1 := ⟨rfl, rfl⟩
@[simp] def Jkt : List COper := [
  oq 25 (.faddr 1 1 false) [.t 1], oq 26 (.load false 1) [.t 25], oq 27 .len [.t 26],
  ⟨(some 28), .mov, [.c (.int .i64 0)], none⟩]
def Jlf : List COper := Jkt
instance : Reg Jlf Jkt 4 := ⟨rfl, rfl⟩
@[simp] def Jkb : List COper := [
  ⟨(some 29), .bin .lss, [.t 28, .t 27], none⟩]
def Jle : List COper := Jkb
instance : Reg Jle Jkb 1 := ⟨rfl, rfl⟩
@[simp] def Jkd : List COper := [
  om 30 28, oq 31 (.iaddr 34) [.t 26, .t 28], oq 32 (.load true 34) [.t 31], oq 4 (.alloc (.node [.v (.int .i64 0), .node [.arr 1 (rep 32 (.v (.int .u8 0))), .v (.int .i64 0)]])) [], om 3 30,
  ⟨none, .store true 34, [.t 4, .t 32], none⟩]
def JlC : List COper := Jkd
instance : Reg JlC Jkd 6 := ⟨rfl, rfl⟩
@[simp] def Jll : List COper := [
  oq 33 (.load true 34) [.t 4], oq 34 (.call Jg1) [.t 33], oq 35 .not [.t 34], om 36 35,
  ⟨(some 37), .mov, [.t 3], (some (36, false))⟩,
  ⟨(some 38), .bin .gtr, [.t 37, .c (.int .i64 0)], (some (36, false))⟩,
  ⟨(some 39), .mov, [.t 38], (some (36, false))⟩,
  ⟨(some 40), .faddr 1 1 false, [.t 1], (some (39, true))⟩,
  ⟨(some 41), .load false 1, [.t 40], (some (39, true))⟩,
  ⟨(some 42), .mov, [.t 3], (some (39, true))⟩,
  ⟨(some 43), .bin .sub, [.t 42, .c (.int .i64 1)], (some (39, true))⟩,
  ⟨(some 44), .iaddr 34, [.t 41, .t 43], (some (39, true))⟩,
  ⟨(some 45), .faddr 0 1 false, [.t 44], (some (39, true))⟩,
  ⟨(some 46), .load false 1, [.t 45], (some (39, true))⟩,
  ⟨(some 47), .faddr 0 1 false, [.t 4], (some (39, true))⟩,
  ⟨(some 48), .load false 1, [.t 47], (some (39, true))⟩,
  ⟨(some 49), .bin .geq, [.t 46, .t 48], (some (39, true))⟩,
  ⟨(some 50), .pick, [.t 39, .t 49, .c (.bool false)], (some (36, false))⟩,
  ⟨(some 51), .pick, [.t 36, .c (.bool true), .t 50], none⟩]
def Jkq : List COper := Jll
instance : Reg Jkq Jll 19 := ⟨rfl, rfl⟩
@[simp] def Jkc : List COper := [
  ⟨(some 2), .mov, [.c (.bool false)], none⟩]
def Jk2 : List COper := Jkc
instance : Reg Jk2 Jkc 1 := ⟨rfl, rfl⟩
@[simp] def Jlw : List COper := [
  oq 52 (.bin .add) [.t 28, .c (.int .i64 1)], om 28 52]
def Jkj : List COper := Jlw
instance : Reg Jkj Jlw 2 := ⟨rfl, rfl⟩
@[simp] def Jks : List COper := [
  ⟨(some 2), .mov, [.c (.bool true)], none⟩]
def Jki : List COper := Jks
instance : Reg Jki Jks 1 := ⟨rfl, rfl⟩
@[simp] def JFM : CCode :=
  .seq (.region Jkf none [1]) (.seq (.seq (.region JlI none [1, 24]) (.cond (.t 24) (.seq (.region JkR none [2]) (.ret)) (.skip))) (.seq (.seq (.region Jlf none [1, 26, 27, 28]) (.block 0 (.loop (.seq (.region Jle none [1, 26, 27, 28, 29]) (.seq (.cond (.t 29) (.skip) (.exit 0)) (.seq (.block 1 (.seq (.region JlC none [1, 3, 4, 26, 27, 28]) (.seq (.region Jkq (some ([0, 1, 3, 7, 15, 31, 63, 127, 255, 127, 639, 2047, 4095, 8191, 127, 16511, 65535, 131071, 262143], [])) [1, 26, 27, 28, 51]) (.cond (.t 51) (.seq (.region Jk2 none [2]) (.ret)) (.skip))))) (.region Jkj none [1, 26, 27, 28]))))))) (.seq (.region Jki none [2]) (.ret))))
@[simp] def JF4 : List CRes := [.tmp 2]
theorem JFF : chkFn Tryd.prog Jbn JFM JF4 1 = true := by kernel_rfl
@[simp] def Jhz : List COper := [
  oq 1 .box [.t 0],
  ⟨(some 2), .alloc (.arr 1 (rep 32 (.v (.int .u8 0)))), [], none⟩]
def JhZ : List COper := Jhz
instance : Reg JhZ Jhz 2 := ⟨rfl, rfl⟩
@[simp] def Jho : List COper := [
  oq 4 (.build [.v (.slice none 0 0)] []) [], oq 5 .box [.t 4], om 3 5]
def Jhq : List COper := Jho
instance : Reg Jhq Jho 3 := ⟨rfl, rfl⟩
@[simp] def JhN : List COper := [
  om 6 3, oq 7 (.load true 2) [.t 1],
  ⟨(some 8), .call JbC, [.t 6, .t 7], none⟩]
def Jii : List COper := JhN
instance : Reg Jii JhN 3 := ⟨rfl, rfl⟩
@[simp] def JhL : List COper := [
  oq 9 (.bslice 1 6 (.v (.int .u8 0)) [0, 1, 2, 3, 4, 5]) [.c (.int .u8 99), .c (.int .u8 111), .c (.int .u8 110), .c (.int .u8 102), .c (.int .u8 105), .c (.int .u8 103)], oq 10 .convM [.t 9], om 11 3, oq 12 (.call Jt) [.t 11], oq 13 (.bslice 1 2 (.v (.slice none 0 0)) [0, 1]) [.t 10, .t 12], oq 14 (.call JbG) [.t 13],
  ⟨none, .store true 32, [.t 2, .t 14], none⟩]
def Jih : List COper := JhL
instance : Reg Jih JhL 7 := ⟨rfl, rfl⟩
@[simp] def JDp : CCode :=
  .seq (.region JhZ none [1, 2]) (.seq (.region Jhq none [1, 2, 3]) (.seq (.region Jii none [2, 3]) (.seq (.region Jih none [2]) (.ret))))
@[simp] def JEa : List CRes := [.cell 2 true 32]
theorem JDR : chkFn Tryd.prog Jeq JDp JEa 1 = true := by kernel_rfl
@[simp] def JiU : List COper := [
  oq 1 .box [.t 0],
  ⟨(some 2), .alloc (.arr 1 (rep 32 (.v (.int .u8 0)))), [], none⟩]
def JiO : List COper := JiU
instance : Reg JiO JiU 2 := ⟨rfl, rfl⟩
@[simp] def Ji0 : List COper := [
  oq 4 (.build [.v (.slice none 0 0)] []) [], oq 5 .box [.t 4], om 3 5]
def JiW : List COper := Ji0
instance : Reg JiW Ji0 3 := ⟨rfl, rfl⟩
@[simp] def Jjh : List COper := [
  om 6 3, oq 7 (.load true 99) [.t 1],
  ⟨(some 8), .call Jcu, [.t 6, .t 7], none⟩]
def JiR : List COper := Jjh
instance : Reg JiR Jjh 3 := ⟨rfl, rfl⟩
@[simp] def JiC : List COper := [
  oq 9 (.bslice 1 5 (.v (.int .u8 0)) [0, 1, 2, 3, 4]) [.c (.int .u8 98), .c (.int .u8 108), .c (.int .u8 111), .c (.int .u8 99), .c (.int .u8 107)], oq 10 .convM [.t 9], om 11 3, oq 12 (.call Jt) [.t 11], oq 13 (.bslice 1 2 (.v (.slice none 0 0)) [0, 1]) [.t 10, .t 12], oq 14 (.call JbG) [.t 13],
  ⟨none, .store true 32, [.t 2, .t 14], none⟩]
def Jju : List COper := JiC
instance : Reg Jju JiC 7 := ⟨rfl, rfl⟩
@[simp] def JEK : CCode :=
  .seq (.region JiO none [1, 2]) (.seq (.region JiW none [1, 2, 3]) (.seq (.region JiR none [2, 3]) (.seq (.region Jju none [2]) (.ret))))
@[simp] def JEH : List CRes := [.cell 2 true 32]
theorem JEC : chkFn Tryd.prog JgY JEK JEH 1 = true := by kernel_rfl
@[simp] def JoW : List COper := [
  oq 1 .box [.t 0],
  ⟨(some 2), .alloc (.arr 1 (rep 32 (.v (.int .u8 0)))), [], none⟩]
def Jog : List COper := JoW
instance : Reg Jog JoW 2 := ⟨rfl, rfl⟩
@[simp] def JoE : List COper := [
  oq 4 (.build [.v (.slice none 0 0)] []) [], oq 5 .box [.t 4], om 3 5]
def Jnl : List COper := JoE
instance : Reg Jnl JoE 3 := ⟨rfl, rfl⟩
@[simp] def Jqs : List COper := [
  om 6 3, oq 7 (.load true 41) [.t 1],
  ⟨(some 8), .call JhU, [.t 6, .t 7], none⟩]
def Jnc : List COper := Jqs
instance : Reg Jnc Jqs 3 := ⟨rfl, rfl⟩
@[simp] def JpO : List COper := [
  oq 9 (.bslice 1 4 (.v (.int .u8 0)) [0, 1, 2, 3]) [.c (.int .u8 118), .c (.int .u8 111), .c (.int .u8 116), .c (.int .u8 101)], oq 10 .convM [.t 9], om 11 3, oq 12 (.call Jt) [.t 11], oq 13 (.bslice 1 2 (.v (.slice none 0 0)) [0, 1]) [.t 10, .t 12], oq 14 (.call JbG) [.t 13],
  ⟨none, .store true 32, [.t 2, .t 14], none⟩]
def Jqe : List COper := JpO
instance : Reg Jqe JpO 7 := ⟨rfl, rfl⟩
@[simp] def JHG : CCode :=
  .seq (.region Jog none [1, 2]) (.seq (.region Jnl none [1, 2, 3]) (.seq (.region Jnc none [2, 3]) (.seq (.region Jqe none [2]) (.ret))))
@[simp] def JGs : List CRes := [.cell 2 true 32]
theorem JHT : chkFn Tryd.prog JjN JHG JGs 1 = true := by kernel_rfl
@[simp] def Jpc : List COper := [
  oq 1 .box [.t 0],
  ⟨(some 2), .mov, [.c (.bool false)], none⟩]
def Jn0 : List COper := Jpc
instance : Reg Jn0 Jpc 2 := ⟨rfl, rfl⟩
@[simp] def JoY : List COper := [
  oq 5 (.faddr 0 1 false) [.t 1], oq 6 (.load false 1) [.t 5], oq 7 (.bin .lss) [.t 6, .c (.int .i64 0)], om 8 7,
  ⟨(some 9), .faddr 0 1 false, [.t 1], (some (8, false))⟩,
  ⟨(some 10), .load false 1, [.t 9], (some (8, false))⟩,
  ⟨(some 11), .bin .gtr, [.t 10, .c (.int .i64 1073741824)], (some (8, false))⟩, oq 12 .pick [.t 8, .c (.bool true), .t 11], om 13 12,
  ⟨(some 14), .faddr 1 1 false, [.t 1], (some (13, false))⟩,
  ⟨(some 15), .load false 1, [.t 14], (some (13, false))⟩,
  ⟨(some 16), .bin .lss, [.t 15, .c (.int .i64 1)], (some (13, false))⟩, oq 17 .pick [.t 13, .c (.bool true), .t 16], om 18 17,
  ⟨(some 19), .faddr 1 1 false, [.t 1], (some (18, false))⟩,
  ⟨(some 20), .load false 1, [.t 19], (some (18, false))⟩,
  ⟨(some 21), .bin .gtr, [.t 20, .c (.int .i64 1024)], (some (18, false))⟩, oq 22 .pick [.t 18, .c (.bool true), .t 21], om 23 22,
  ⟨(some 24), .faddr 98 1 false, [.t 1], (some (23, false))⟩,
  ⟨(some 25), .load false 1, [.t 24], (some (23, false))⟩,
  ⟨(some 26), .len, [.t 25], (some (23, false))⟩,
  ⟨(some 27), .bin .gtr, [.t 26, .c (.int .i64 8)], (some (23, false))⟩,
  ⟨(some 28), .pick, [.t 23, .c (.bool true), .t 27], none⟩]
def JpH : List COper := JoY
instance : Reg JpH JoY 24 := ⟨rfl, rfl⟩
@[simp] def Jnr : List COper := [
  ⟨(some 2), .mov, [.c (.bool false)], none⟩]
def Jmb : List COper := Jnr
instance : Reg Jmb Jnr 1 := ⟨rfl, rfl⟩
@[simp] def JoP : List COper := [
  oq 29 (.faddr 98 1 false) [.t 1], oq 30 (.load false 1) [.t 29], oq 31 .len [.t 30],
  ⟨(some 32), .mov, [.c (.int .i64 0)], none⟩]
def JpG : List COper := JoP
instance : Reg JpG JoP 4 := ⟨rfl, rfl⟩
@[simp] def Joy : List COper := [
  ⟨(some 33), .bin .lss, [.t 32, .t 31], none⟩]
def Jpa : List COper := Joy
instance : Reg Jpa Joy 1 := ⟨rfl, rfl⟩
@[simp] def Jml : List COper := [
  oq 34 (.iaddr 42) [.t 30, .t 32], oq 35 (.load true 42) [.t 34], oq 4 (.alloc (.node [.v (.int .i64 0), .v (.int .i64 0), .node [.v (.int .i64 0), .v (.string (mkS [])), .v (.string (mkS [])), .v (.string (mkS [])), .node [.v (.int .i64 0), .v (.int .i64 0), .v (.int .i64 0), .node [.arr 1 (rep 32 (.v (.int .u8 0))), .v (.int .i64 0)]]]])) [],
  ⟨none, .store true 42, [.t 4, .t 35], none⟩]
def JpQ : List COper := Jml
instance : Reg JpQ Jml 4 := ⟨rfl, rfl⟩
@[simp] def Jn8 : List COper := [
  oq 36 (.load true 42) [.t 4], oq 37 (.call Jg9) [.t 36],
  ⟨(some 38), .not, [.t 37], none⟩]
def Jqu : List COper := Jn8
instance : Reg Jqu Jn8 3 := ⟨rfl, rfl⟩
@[simp] def JpY : List COper := [
  ⟨(some 2), .mov, [.c (.bool false)], none⟩]
def JoX : List COper := JpY
instance : Reg JoX JpY 1 := ⟨rfl, rfl⟩
@[simp] def JmQ : List COper := [
  oq 39 (.bin .add) [.t 32, .c (.int .i64 1)], om 32 39]
def Joi : List COper := JmQ
instance : Reg Joi JmQ 2 := ⟨rfl, rfl⟩
@[simp] def Jmo : List COper := [
  ⟨(some 2), .mov, [.c (.bool true)], none⟩]
def JoK : List COper := Jmo
instance : Reg JoK Jmo 1 := ⟨rfl, rfl⟩
@[simp] def JHZ : CCode :=
  .seq (.region Jn0 none [1]) (.seq (.seq (.region JpH none [1, 28]) (.cond (.t 28) (.seq (.region Jmb none [2]) (.ret)) (.skip))) (.seq (.seq (.region JpG none [30, 31, 32]) (.block 0 (.loop (.seq (.region Jpa none [30, 31, 32, 33]) (.seq (.cond (.t 33) (.skip) (.exit 0)) (.seq (.block 1 (.seq (.region JpQ none [4, 30, 31, 32]) (.seq (.region Jqu none [30, 31, 32, 38]) (.cond (.t 38) (.seq (.region JoX none [2]) (.ret)) (.skip))))) (.region Joi none [30, 31, 32]))))))) (.seq (.region JoK none [2]) (.ret))))
@[simp] def JGM : List CRes := [.tmp 2]
theorem JGY : chkFn Tryd.prog Jj7 JHZ JGM 1 = true := by kernel_rfl
@[simp] def JhB : List COper := [
  oq 1 .box [.t 0],
  ⟨(some 2), .mov, [.c (.int .i64 0)], none⟩]
def Jhs : List COper := JhB
instance : Reg Jhs JhB 2 := ⟨rfl, rfl⟩
@[simp] def Jia : List COper := [
  oq 3 (.faddr 1 1 false) [.t 1], oq 4 (.load false 1) [.t 3], oq 5 .len [.t 4], oq 6 (.load true 2) [.t 1], oq 7 (.call Jeo) [.t 6], oq 8 (.bin .add) [.t 5, .t 7], oq 9 (.bin .quo) [.t 8, .c (.int .i64 2)], oq 10 (.bin .add) [.t 9, .c (.int .i64 1)], om 2 10]
def Jh9 : List COper := Jia
instance : Reg Jh9 Jia 9 := ⟨rfl, rfl⟩
@[simp] def JEc : CCode :=
  .seq (.region Jhs none [1]) (.seq (.region Jh9 (some ([0, 1, 3, 0, 8, 31, 63, 127, 255], [(1, 4)])) [2]) (.ret))
@[simp] def JDY : List CRes := [.tmp 2]
theorem JDG : chkFn Tryd.prog Jer JEc JDY 1 = true := by kernel_rfl
@[simp] def Jmt : List COper := [
  oq 2 .box [.t 0], oq 3 .box [.t 1],
  ⟨(some 4), .mov, [.c (.bool false)], none⟩]
def JpS : List COper := Jmt
instance : Reg JpS Jmt 3 := ⟨rfl, rfl⟩
@[simp] def Jpw : List COper := [
  oq 9 (.load true 2) [.t 2], oq 10 (.faddr 36 1 false) [.t 3], oq 11 (.load false 1) [.t 10], oq 12 (.call JEQ) [.t 9, .t 11], om 8 12, oq 13 (.ext 0) [.t 8], oq 14 (.ext 1) [.t 8], oq 15 (.ext 2) [.t 8], oq 5 (.alloc (.node [.v (.int .i64 0), .node [.arr 1 (rep 32 (.v (.int .u8 0))), .v (.int .i64 0)]])) [],
  ⟨none, .store true 34, [.t 5, .t 13], none⟩, om 6 14, om 7 15]
def Jot : List COper := Jpw
instance : Reg Jot Jpw 12 := ⟨rfl, rfl⟩
@[simp] def Jmq : List COper := [
  om 16 7, om 17 16,
  ⟨(some 18), .load true 41, [.t 3], (some (17, true))⟩,
  ⟨(some 19), .call Jqh, [.t 18], (some (17, true))⟩, oq 20 .pick [.t 17, .t 19, .c (.bool false)], om 21 20,
  ⟨(some 22), .faddr 1 1 false, [.t 3], (some (21, true))⟩,
  ⟨(some 23), .load false 1, [.t 22], (some (21, true))⟩,
  ⟨(some 24), .faddr 0 1 false, [.t 2], (some (21, true))⟩,
  ⟨(some 25), .load false 1, [.t 24], (some (21, true))⟩,
  ⟨(some 26), .bin .eql, [.t 23, .t 25], (some (21, true))⟩, oq 27 .pick [.t 21, .t 26, .c (.bool false)], om 28 27,
  ⟨(some 29), .faddr 1 33 true, [.t 5], (some (28, true))⟩,
  ⟨(some 30), .load true 33, [.t 29], (some (28, true))⟩,
  ⟨(some 31), .load true 41, [.t 3], (some (28, true))⟩,
  ⟨(some 32), .call JjN, [.t 31], (some (28, true))⟩,
  ⟨(some 33), .faddr 37 4 true, [.t 3], (some (28, true))⟩,
  ⟨(some 34), .load true 4, [.t 33], (some (28, true))⟩,
  ⟨(some 35), .call JjZ, [.t 30, .t 32, .t 34], (some (28, true))⟩, oq 36 .pick [.t 28, .t 35, .c (.bool false)], om 4 36]
def Jm2 : List COper := Jmq
instance : Reg Jm2 Jmq 22 := ⟨rfl, rfl⟩
@[simp] def JH5 : CCode :=
  .seq (.region JpS none [2, 3]) (.seq (.region Jot none [2, 3, 5, 7]) (.seq (.region Jm2 (some ([0, 1, 3, 7, 15, 31, 63, 127, 63, 319, 1023, 2047, 4095, 8191, 16383, 8191, 40959, 8191, 139263, 524287, 1048575, 2097151], [(14, 16), (16, 18)])) [4]) (.ret)))
@[simp] def JG8 : List CRes := [.tmp 4]
theorem JHJ : chkFn Tryd.prog Jgp JH5 JG8 2 = true := by kernel_rfl
@[simp] def Jyl : List COper := [
  oq 2 .box [.t 0], oq 3 .box [.t 1],
  ⟨(some 4), .mov, [.c (.bool false)], none⟩]
def JxQ : List COper := Jyl
instance : Reg JxQ Jyl 3 := ⟨rfl, rfl⟩
@[simp] def Jy8 : List COper := [
  oq 5 (.faddr 0 1 false) [.t 2], oq 6 (.load false 1) [.t 5], oq 7 (.faddr 0 1 false) [.t 3], oq 8 (.load false 1) [.t 7], oq 9 (.bin .eql) [.t 6, .t 8], om 10 9,
  ⟨(some 11), .faddr 1 1 false, [.t 2], (some (10, true))⟩,
  ⟨(some 12), .load false 1, [.t 11], (some (10, true))⟩,
  ⟨(some 13), .faddr 1 1 false, [.t 3], (some (10, true))⟩,
  ⟨(some 14), .load false 1, [.t 13], (some (10, true))⟩,
  ⟨(some 15), .bin .eql, [.t 12, .t 14], (some (10, true))⟩, oq 16 .pick [.t 10, .t 15, .c (.bool false)], om 17 16,
  ⟨(some 18), .faddr 2 1 false, [.t 2], (some (17, true))⟩,
  ⟨(some 19), .load false 1, [.t 18], (some (17, true))⟩,
  ⟨(some 20), .faddr 2 1 false, [.t 3], (some (17, true))⟩,
  ⟨(some 21), .load false 1, [.t 20], (some (17, true))⟩,
  ⟨(some 22), .bin .eql, [.t 19, .t 21], (some (17, true))⟩, oq 23 .pick [.t 17, .t 22, .c (.bool false)], om 24 23,
  ⟨(some 25), .faddr 3 1 false, [.t 2], (some (24, true))⟩,
  ⟨(some 26), .load false 1, [.t 25], (some (24, true))⟩,
  ⟨(some 27), .faddr 3 1 false, [.t 3], (some (24, true))⟩,
  ⟨(some 28), .load false 1, [.t 27], (some (24, true))⟩,
  ⟨(some 29), .bin .eql, [.t 26, .t 28], (some (24, true))⟩, oq 30 .pick [.t 24, .t 29, .c (.bool false)], om 31 30,
  ⟨(some 32), .faddr 4 32 true, [.t 2], (some (31, true))⟩,
  ⟨(some 33), .load true 32, [.t 32], (some (31, true))⟩,
  ⟨(some 34), .faddr 4 32 true, [.t 3], (some (31, true))⟩,
  ⟨(some 35), .load true 32, [.t 34], (some (31, true))⟩,
  ⟨(some 36), .eqa false .u8 32, [.t 33, .t 35], (some (31, true))⟩, oq 37 .pick [.t 31, .t 36, .c (.bool false)], om 38 37,
  ⟨(some 39), .faddr 36 1 false, [.t 2], (some (38, true))⟩,
  ⟨(some 40), .load false 1, [.t 39], (some (38, true))⟩,
  ⟨(some 41), .faddr 36 1 false, [.t 3], (some (38, true))⟩,
  ⟨(some 42), .load false 1, [.t 41], (some (38, true))⟩,
  ⟨(some 43), .bin .eql, [.t 40, .t 42], (some (38, true))⟩, oq 44 .pick [.t 38, .t 43, .c (.bool false)], om 45 44,
  ⟨(some 46), .faddr 37 4 true, [.t 2], (some (45, true))⟩,
  ⟨(some 47), .load true 4, [.t 46], (some (45, true))⟩,
  ⟨(some 48), .faddr 37 4 true, [.t 3], (some (45, true))⟩,
  ⟨(some 49), .load true 4, [.t 48], (some (45, true))⟩,
  ⟨(some 50), .call JjQ, [.t 47, .t 49], (some (45, true))⟩, oq 51 .pick [.t 45, .t 50, .c (.bool false)], om 4 51]
def Jwc : List COper := Jy8
instance : Reg Jwc Jy8 48 := ⟨rfl, rfl⟩
@[simp] def JKy : CCode :=
  .seq (.region JxQ none [2, 3]) (.seq (.region Jwc none [4]) (.ret))
@[simp] def JL4 : List CRes := [.tmp 4]
theorem JLB : chkFn Tryd.prog Jvq JKy JL4 2 = true := by kernel_rfl
@[simp] def Jhl : List COper := [
  oq 1 .box [.t 0],
  ⟨(some 2), .mov, [.c (.int .i64 0)], none⟩]
def Jhr : List COper := Jhl
instance : Reg Jhr Jhl 2 := ⟨rfl, rfl⟩
@[simp] def Jh0 : List COper := [
  oq 3 (.faddr 1 1 false) [.t 1], oq 4 (.load false 1) [.t 3], oq 5 .len [.t 4], oq 6 (.bin .sub) [.t 5, .c (.int .i64 1)], oq 7 .mx [.t 6, .c (.int .i64 0)], oq 8 (.bin .quo) [.t 7, .c (.int .i64 3)], om 2 8]
def Jik : List COper := Jh0
instance : Reg Jik Jh0 7 := ⟨rfl, rfl⟩
@[simp] def JDu : CCode :=
  .seq (.region Jhr none [1]) (.seq (.region Jik none [2]) (.ret))
@[simp] def JDI : List CRes := [.tmp 2]
theorem JDZ : chkFn Tryd.prog Jeo JDu JDI 1 = true := by kernel_rfl
@[simp] def Je9 : List COper := [
  om 7 0,
  ⟨(some 8), .eqp false, [.t 7, .c (.pointer none)], none⟩]
def Je8 : List COper := Je9
instance : Reg Je8 Je9 2 := ⟨rfl, rfl⟩
@[simp] def JfN : List COper := [
  om 9 1, oq 10 .len [.t 9],
  ⟨(some 11), .mov, [.c (.int .i64 0)], none⟩]
def Jf9 : List COper := JfN
instance : Reg Jf9 JfN 3 := ⟨rfl, rfl⟩
@[simp] def Je1 : List COper := [
  ⟨(some 12), .bin .lss, [.t 11, .t 10], none⟩]
def Je7 : List COper := Je1
instance : Reg Je7 Je1 1 := ⟨rfl, rfl⟩
@[simp] def JeQ : List COper := [
  oq 13 (.iaddr 1) [.t 9, .t 11], oq 14 (.load false 1) [.t 13], om 5 14]
def Jgi : List COper := JeQ
instance : Reg Jgi JeQ 3 := ⟨rfl, rfl⟩
@[simp] def Je3 : List COper := [
  ⟨(some 6), .mov, [.c (.int .i64 56)], none⟩]
def JeN : List COper := Je3
instance : Reg JeN Je3 1 := ⟨rfl, rfl⟩
@[simp] def Jfp : List COper := [
  om 15 6,
  ⟨(some 16), .bin .geq, [.t 15, .c (.int .i64 0)], none⟩]
def JeP : List COper := Jfp
instance : Reg JeP Jfp 2 := ⟨rfl, rfl⟩
@[simp] def Jgm : List COper := [
  om 19 0, om 20 0, oq 21 .nilc [.t 20], oq 22 (.faddr 0 1 false) [.t 21], oq 23 (.load false 1) [.t 22], om 24 5, oq 25 (.convI .u64) [.t 24], om 26 6, oq 27 (.bin .shr) [.t 25, .t 26], oq 28 (.convI .u8) [.t 27], oq 29 (.bslice 1 1 (.v (.int .u8 0)) [0]) [.t 28], oq 30 (.app 1 1) [.t 23, .t 29], oq 31 .nilc [.t 19], oq 32 (.faddr 0 1 false) [.t 31],
  ⟨none, .store false 1, [.t 32, .t 30], none⟩]
def Jfh : List COper := Jgm
instance : Reg Jfh Jgm 15 := ⟨rfl, rfl⟩
@[simp] def Je4 : List COper := [
  om 17 6, oq 18 (.bin .sub) [.t 17, .c (.int .i64 8)], om 6 18]
def JfO : List COper := Je4
instance : Reg JfO Je4 3 := ⟨rfl, rfl⟩
@[simp] def Jfl : List COper := [
  oq 33 (.bin .add) [.t 11, .c (.int .i64 1)], om 11 33]
def Jfz : List COper := Jfl
instance : Reg Jfz Jfl 2 := ⟨rfl, rfl⟩
@[simp] def JBl : CCode :=
  .seq (.seq (.region Je8 none [0, 1, 8]) (.cond (.t 8) (.ret) (.skip))) (.seq (.region Jf9 none [0, 9, 10, 11]) (.block 0 (.loop (.seq (.region Je7 none [0, 9, 10, 11, 12]) (.seq (.cond (.t 12) (.skip) (.exit 0)) (.seq (.block 1 (.seq (.region Jgi none [0, 5, 9, 10, 11]) (.seq (.region JeN none [0, 5, 6, 9, 10, 11]) (.block 2 (.loop (.seq (.seq (.region JeP none [0, 5, 6, 9, 10, 11, 16]) (.cond (.t 16) (.skip) (.exit 2))) (.seq (.block 3 (.region Jfh (some ([0, 0, 2, 6, 14, 0, 32, 0, 224, 480, 992, 2046, 4095, 8191, 16383], [(4, 10)])) [0, 5, 6, 9, 10, 11])) (.region JfO none [0, 5, 6, 9, 10, 11])))))))) (.region Jfz none [0, 9, 10, 11])))))))
@[simp] def JBf : List CRes := []
theorem JBt : chkFn Tryd.prog Jm JBl JBf 2 = true := by kernel_rfl
@[simp] def Jnd : List COper := [
  oq 3 .box [.t 1],
  ⟨(some 4), .mov, [.c (.bool false)], none⟩]
def JmX : List COper := Jnd
instance : Reg JmX Jnd 2 := ⟨rfl, rfl⟩
@[simp] def Jp3 : List COper := [
  oq 6 (.build [.v (.slice none 0 0)] []) [], oq 7 .box [.t 6], om 5 7]
def Jqo : List COper := Jp3
instance : Reg Jqo Jp3 3 := ⟨rfl, rfl⟩
@[simp] def Jop : List COper := [
  om 8 5, oq 9 (.faddr 37 4 true) [.t 3], oq 10 (.load true 4) [.t 9], oq 11 (.call JbK) [.t 8, .t 10],
  ⟨(some 12), .not, [.t 11], none⟩]
def JmD : List COper := Jop
instance : Reg JmD Jop 5 := ⟨rfl, rfl⟩
@[simp] def Jpf : List COper := [
  ⟨(some 4), .mov, [.c (.bool false)], none⟩]
def Jor : List COper := Jpf
instance : Reg Jor Jpf 1 := ⟨rfl, rfl⟩
@[simp] def Jmv : List COper := [
  om 13 0, oq 14 (.load true 41) [.t 3],
  ⟨(some 15), .call JhU, [.t 13, .t 14], none⟩]
def Jpt : List COper := Jmv
instance : Reg Jpt Jmv 3 := ⟨rfl, rfl⟩
@[simp] def JoJ : List COper := [
  om 16 0, oq 17 (.faddr 37 4 true) [.t 3], oq 18 (.load true 4) [.t 17], oq 19 (.call JbK) [.t 16, .t 18], om 4 19]
def Jo1 : List COper := JoJ
instance : Reg Jo1 JoJ 5 := ⟨rfl, rfl⟩
@[simp] def JGP : CCode :=
  .seq (.region JmX none [0, 3]) (.seq (.region Jqo none [0, 3, 5]) (.seq (.seq (.region JmD none [0, 3, 12]) (.cond (.t 12) (.seq (.region Jor none [4]) (.ret)) (.skip))) (.seq (.region Jpt none [0, 3]) (.seq (.region Jo1 none [4]) (.ret)))))
@[simp] def JHU : List CRes := [.tmp 4]
theorem JBS : chkFn Tryd.prog JbA JGP JHU 2 = true := by kernel_rfl
@[simp] def JCz : List COper := [
  ⟨(some 2), .mov, [.c (.string (mkS []))], none⟩]
def JB6 : List COper := JCz
instance : Reg JB6 JCz 1 := ⟨rfl, rfl⟩
@[simp] def JCr : List COper := [
  ⟨(some 3), .alloc (.arr 1 (rep 8 (.v (.int .u8 0)))), [], none⟩]
def JB8 : List COper := JCr
instance : Reg JB8 JCr 1 := ⟨rfl, rfl⟩
@[simp] def JBD : List COper := [
  ⟨(some 4), .mov, [.c (.int .i64 0)], none⟩]
def JCN : List COper := JBD
instance : Reg JCN JBD 1 := ⟨rfl, rfl⟩
@[simp] def JCB : List COper := [
  om 5 4,
  ⟨(some 6), .bin .lss, [.t 5, .c (.int .i64 8)], none⟩]
def JBz : List COper := JCB
instance : Reg JBz JCB 2 := ⟨rfl, rfl⟩
@[simp] def JCK : List COper := [
  om 9 4, oq 10 (.bin .sub) [.c (.int .i64 7), .t 9], om 11 0, om 12 4, oq 13 (.bin .mul) [.c (.int .i64 8), .t 12], oq 14 (.convI .u64) [.t 13], oq 15 (.bin .shr) [.t 11, .t 14], oq 16 (.convI .u8) [.t 15], oq 17 (.iaddrArr 8 1 false) [.t 3, .t 10],
  ⟨none, .store false 1, [.t 17, .t 16], none⟩]
def JBT : List COper := JCK
instance : Reg JBT JCK 10 := ⟨rfl, rfl⟩
@[simp] def JCM : List COper := [
  om 7 4, oq 8 (.bin .add) [.t 7, .c (.int .i64 1)], om 4 8]
def JBB : List COper := JCM
instance : Reg JBB JCM 3 := ⟨rfl, rfl⟩
@[simp] def JB9 : List COper := [
  oq 18 (.sliceArr 8 1 false false) [.t 3], oq 19 .convS [.t 18], om 2 19]
def JCY : List COper := JB9
instance : Reg JCY JB9 3 := ⟨rfl, rfl⟩
@[simp] def JOr : CCode :=
  .seq (.region JB6 none [0]) (.seq (.region JB8 none [0, 3]) (.seq (.seq (.region JCN none [0, 3, 4]) (.block 0 (.loop (.seq (.seq (.region JBz none [0, 3, 4, 6]) (.cond (.t 6) (.skip) (.exit 0))) (.seq (.block 1 (.region JBT none [0, 3, 4])) (.region JBB none [0, 3, 4])))))) (.seq (.region JCY none [2]) (.ret))))
@[simp] def JM3 : List CRes := [.tmp 2]
theorem JNz : chkFn Tryd.prog JC JOr JM3 1 = true := by kernel_rfl
@[simp] def Juc : List COper := [
  oq 1 .box [.t 0],
  ⟨(some 2), .mov, [.c (.string (mkS []))], none⟩,
  ⟨(some 3), .mov, [.c (.bool false)], none⟩]
def Ju5 : List COper := Juc
instance : Reg Ju5 Juc 3 := ⟨rfl, rfl⟩
@[simp] def Js6 : List COper := [
  oq 7 (.faddr 37 4 true) [.t 1], oq 8 (.load true 4) [.t 7], oq 9 (.call Jin) [.t 8], om 6 9, oq 10 (.ext 0) [.t 6], oq 11 (.ext 1) [.t 6], om 4 10, om 5 11]
def JtJ : List COper := Js6
instance : Reg JtJ Js6 8 := ⟨rfl, rfl⟩
@[simp] def Jq3 : List COper := [
  om 12 5,
  ⟨(some 13), .not, [.t 12], none⟩]
def Jvc : List COper := Jq3
instance : Reg Jvc Jq3 2 := ⟨rfl, rfl⟩
@[simp] def Js9 : List COper := [
  ⟨(some 2), .mov, [.c (.string (mkS []))], none⟩,
  ⟨(some 3), .mov, [.c (.bool false)], none⟩]
def Jq9 : List COper := Js9
instance : Reg Jq9 Js9 2 := ⟨rfl, rfl⟩
@[simp] def Jtd : List COper := [
  oq 14 (.load true 41) [.t 1], oq 15 (.call JvC) [.t 14], om 16 4, oq 17 (.bin .add) [.t 15, .t 16], om 2 17,
  ⟨(some 3), .mov, [.c (.bool true)], none⟩]
def Jsj : List COper := Jtd
instance : Reg Jsj Jtd 6 := ⟨rfl, rfl⟩
@[simp] def JH9 : CCode :=
  .seq (.region Ju5 none [1]) (.seq (.region JtJ none [1, 4, 5]) (.seq (.seq (.region Jvc none [1, 4, 13]) (.cond (.t 13) (.seq (.region Jq9 none [2, 3]) (.ret)) (.skip))) (.seq (.region Jsj none [2, 3]) (.ret))))
@[simp] def JIw : List CRes := [.tmp 2, .tmp 3]
theorem JDU : chkFn Tryd.prog JhX JH9 JIw 1 = true := by kernel_rfl
@[simp] def JgS : List COper := [
  ⟨(some 6), .mov, [.c (.int .i64 0)], none⟩]
def JgD : List COper := JgS
instance : Reg JgD JgS 1 := ⟨rfl, rfl⟩
@[simp] def JgO : List COper := [
  om 8 0, oq 9 (.call Jx) [.t 8], om 7 9]
def JgJ : List COper := JgO
instance : Reg JgJ JgO 3 := ⟨rfl, rfl⟩
@[simp] def Jg5 : List COper := [
  om 10 0, oq 11 (.eqp false) [.t 10, .c (.pointer none)], om 12 11,
  ⟨(some 13), .mov, [.t 7], (some (12, false))⟩,
  ⟨(some 14), .mov, [.t 1], (some (12, false))⟩,
  ⟨(some 15), .bin .geq, [.t 13, .t 14], (some (12, false))⟩,
  ⟨(some 16), .mov, [.t 15], (some (12, false))⟩,
  ⟨(some 17), .mov, [.t 7], (some (16, true))⟩,
  ⟨(some 18), .mov, [.t 2], (some (16, true))⟩,
  ⟨(some 19), .bin .leq, [.t 17, .t 18], (some (16, true))⟩,
  ⟨(some 20), .pick, [.t 16, .t 19, .c (.bool false)], (some (12, false))⟩,
  ⟨(some 21), .mov, [.t 20], (some (12, false))⟩,
  ⟨(some 22), .mov, [.t 0], (some (21, true))⟩,
  ⟨(some 23), .nilc, [.t 22], (some (21, true))⟩,
  ⟨(some 24), .faddr 1 1 false, [.t 23], (some (21, true))⟩,
  ⟨(some 25), .load false 1, [.t 24], (some (21, true))⟩,
  ⟨(some 26), .not, [.t 25], (some (21, true))⟩,
  ⟨(some 27), .pick, [.t 21, .t 26, .c (.bool false)], (some (12, false))⟩,
  ⟨(some 28), .pick, [.t 12, .c (.bool true), .t 27], none⟩]
def JgE : List COper := Jg5
instance : Reg JgE Jg5 19 := ⟨rfl, rfl⟩
@[simp] def JgM : List COper := [
  om 29 7, om 6 29]
def Jgz : List COper := JgM
instance : Reg Jgz JgM 2 := ⟨rfl, rfl⟩
@[simp] def JgW : List COper := [
  om 30 0, om 31 0, oq 32 .nilc [.t 30], oq 33 (.faddr 1 1 false) [.t 32],
  ⟨none, .store false 1, [.t 33, .c (.bool true)], none⟩, oq 34 .nilc [.t 31], oq 35 (.faddr 0 1 false) [.t 34],
  ⟨none, .store false 1, [.t 35, .c (.slice none 0 0)], none⟩]
def Jg0 : List COper := JgW
instance : Reg Jg0 JgW 8 := ⟨rfl, rfl⟩
@[simp] def JgP : List COper := [
  ⟨(some 6), .mov, [.c (.int .i64 0)], none⟩]
def JgK : List COper := JgP
instance : Reg JgK JgP 1 := ⟨rfl, rfl⟩
@[simp] def JC1 : CCode :=
  .seq (.region JgD none [0, 1, 2]) (.seq (.region JgJ none [0, 1, 2, 7]) (.seq (.seq (.region JgE none [0, 7, 28]) (.cond (.t 28) (.seq (.region Jgz none [6]) (.ret)) (.skip))) (.seq (.region Jg0 none []) (.seq (.region JgK none [6]) (.ret)))))
@[simp] def JC8 : List CRes := [.tmp 6]
theorem JDa : chkFn Tryd.prog Jd JC1 JC8 3 = true := by kernel_rfl
@[simp] def JrH : List COper := [
  ⟨(some 2), .alloc (.node [.v (.int .i64 0), .v (.int .i64 0), .v (.int .i64 0), .v (.int .i64 0), .arr 1 (rep 32 (.v (.int .u8 0))), .v (.int .i64 0), .node [.v (.int .i64 0), .node [.v (.slice none 0 0), .v (.slice none 0 0)], .v (.slice none 0 0)]]), [], none⟩]
def Jth : List COper := JrH
instance : Reg Jth JrH 1 := ⟨rfl, rfl⟩
@[simp] def Ju9 : List COper := [
  om 4 0, oq 5 (.call Jd) [.t 4, .c (.int .i64 1), .c (.int .i64 2)], om 6 0, oq 7 (.call Jd) [.t 6, .c (.int .i64 0), .c (.int .i64 1073741824)], om 8 0, oq 9 (.call Jd) [.t 8, .c (.int .i64 1), .c (.int .i64 1024)], om 10 0, oq 11 (.call Jd) [.t 10, .c (.int .i64 0), .c (.int .i64 1024)], om 12 0, oq 13 (.call Jd) [.t 12, .c (.int .i64 1), .c (.int .i64 63)], om 14 0, oq 15 (.call Ji) [.t 14], oq 16 (.build [.v (.int .i64 0), .v (.int .i64 0), .v (.int .i64 0), .v (.int .i64 0), .arr 1 (rep 32 (.v (.int .u8 0))), .v (.int .i64 0), .node [.v (.int .i64 0), .node [.v (.slice none 0 0), .v (.slice none 0 0)], .v (.slice none 0 0)]] [0, 1, 2, 3, 5, 4]) [.t 5, .t 7, .t 9, .t 11, .t 13, .t 15], oq 3 (.alloc (.node [.v (.int .i64 0), .v (.int .i64 0), .v (.int .i64 0), .v (.int .i64 0), .arr 1 (rep 32 (.v (.int .u8 0))), .v (.int .i64 0), .node [.v (.int .i64 0), .node [.v (.slice none 0 0), .v (.slice none 0 0)], .v (.slice none 0 0)]])) [],
  ⟨none, .store true 41, [.t 3, .t 16], none⟩]
def Jry : List COper := Ju9
instance : Reg Jry Ju9 15 := ⟨rfl, rfl⟩
@[simp] def Jst : List COper := [
  om 17 0, oq 18 (.call Jib) [.t 17], oq 19 (.faddr 37 4 true) [.t 3],
  ⟨none, .store true 4, [.t 19, .t 18], none⟩]
def JtQ : List COper := Jst
instance : Reg JtQ Jst 4 := ⟨rfl, rfl⟩
@[simp] def JtU : List COper := [
  om 20 0, oq 21 (.call Jk) [.t 20],
  ⟨(some 22), .not, [.t 21], none⟩]
def Jsl : List COper := JtU
instance : Reg Jsl JtU 3 := ⟨rfl, rfl⟩
@[simp] def JqX : List COper := [
  oq 23 (.build [.v (.int .i64 0), .v (.int .i64 0), .v (.int .i64 0), .v (.int .i64 0), .arr 1 (rep 32 (.v (.int .u8 0))), .v (.int .i64 0), .node [.v (.int .i64 0), .node [.v (.slice none 0 0), .v (.slice none 0 0)], .v (.slice none 0 0)]] []) [],
  ⟨none, .store true 41, [.t 2, .t 23], none⟩]
def JuV : List COper := JqX
instance : Reg JuV JqX 2 := ⟨rfl, rfl⟩
@[simp] def JsU : List COper := [
  oq 24 (.load true 41) [.t 3],
  ⟨none, .store true 41, [.t 2, .t 24], none⟩]
def JrT : List COper := JsU
instance : Reg JrT JsU 2 := ⟨rfl, rfl⟩
@[simp] def JJa : CCode :=
  .seq (.region Jth none [0, 2]) (.seq (.region Jry none [0, 2, 3]) (.seq (.region JtQ none [0, 2, 3]) (.seq (.seq (.region Jsl none [2, 3, 22]) (.cond (.t 22) (.seq (.region JuV none [2]) (.ret)) (.skip))) (.seq (.region JrT none [2]) (.ret)))))
@[simp] def JJq : List CRes := [.cell 2 true 41]
theorem JJA : chkFn Tryd.prog JoN JJa JJq 1 = true := by kernel_rfl
@[simp] def JhQ : List COper := [
  ⟨(some 6), .mov, [.c (.int .i64 0)], none⟩]
def Jhk : List COper := JhQ
instance : Reg Jhk JhQ 1 := ⟨rfl, rfl⟩
@[simp] def Jid : List COper := [
  om 8 0, oq 9 (.call JB) [.t 8], om 7 9]
def Jhw : List COper := Jid
instance : Reg Jhw Jid 3 := ⟨rfl, rfl⟩
@[simp] def JhR : List COper := [
  om 10 0, oq 11 .nilc [.t 10], oq 12 (.faddr 1 1 false) [.t 11], oq 13 (.load false 1) [.t 12], om 14 13,
  ⟨(some 15), .mov, [.t 7], (some (14, false))⟩,
  ⟨(some 16), .mov, [.t 1], (some (14, false))⟩,
  ⟨(some 17), .bin .lss, [.t 15, .t 16], (some (14, false))⟩, oq 18 .pick [.t 14, .c (.bool true), .t 17], om 19 18,
  ⟨(some 20), .mov, [.t 7], (some (19, false))⟩,
  ⟨(some 21), .mov, [.t 2], (some (19, false))⟩,
  ⟨(some 22), .bin .gtr, [.t 20, .t 21], (some (19, false))⟩,
  ⟨(some 23), .pick, [.t 19, .c (.bool true), .t 22], none⟩]
def JhK : List COper := JhR
instance : Reg JhK JhR 14 := ⟨rfl, rfl⟩
@[simp] def JhY : List COper := [
  om 24 0,
  ⟨(some 25), .call Jy, [.t 24, .c (.int .i64 (-1))], none⟩]
def Jh3 : List COper := JhY
instance : Reg Jh3 JhY 2 := ⟨rfl, rfl⟩
@[simp] def Jij : List COper := [
  ⟨(some 6), .mov, [.c (.int .i64 0)], none⟩]
def Jh7 : List COper := Jij
instance : Reg Jh7 Jij 1 := ⟨rfl, rfl⟩
@[simp] def JhS : List COper := [
  om 26 7, om 6 26]
def Jh8 : List COper := JhS
instance : Reg Jh8 JhS 2 := ⟨rfl, rfl⟩
@[simp] def JDA : CCode :=
  .seq (.region Jhk none [0, 1, 2]) (.seq (.region Jhw none [0, 1, 2, 7]) (.seq (.seq (.region JhK none [0, 7, 23]) (.cond (.t 23) (.seq (.region Jh3 none []) (.seq (.region Jh7 none [6]) (.ret))) (.skip))) (.seq (.region Jh8 none [6]) (.ret))))
@[simp] def JEy : List CRes := [.tmp 6]
theorem JDV : chkFn Tryd.prog Jf JDA JEy 3 = true := by kernel_rfl
@[simp] def JzA : List COper := [
  ⟨(some 2), .alloc (.node [.v (.int .i64 0), .v (.int .i64 0), .v (.int .i64 0), .v (.int .i64 0), .arr 1 (rep 32 (.v (.int .u8 0))), .v (.int .i64 0), .node [.v (.int .i64 0), .node [.v (.slice none 0 0), .v (.slice none 0 0)], .v (.slice none 0 0)]]), [], none⟩]
def Jyi : List COper := JzA
instance : Reg Jyi JzA 1 := ⟨rfl, rfl⟩
@[simp] def JyQ : List COper := [
  ⟨(some 3), .alloc (.node [.v (.int .i64 0), .v (.int .i64 0), .v (.int .i64 0), .v (.int .i64 0), .arr 1 (rep 32 (.v (.int .u8 0))), .v (.int .i64 0), .node [.v (.int .i64 0), .node [.v (.slice none 0 0), .v (.slice none 0 0)], .v (.slice none 0 0)]]), [], none⟩]
def JAo : List COper := JyQ
instance : Reg JAo JyQ 1 := ⟨rfl, rfl⟩
@[simp] def JzX : List COper := [
  om 4 0, oq 5 (.call Jf) [.t 4, .c (.int .i64 1), .c (.int .i64 2)], oq 6 (.faddr 0 1 false) [.t 3],
  ⟨none, .store false 1, [.t 6, .t 5], none⟩]
def JzE : List COper := JzX
instance : Reg JzE JzX 4 := ⟨rfl, rfl⟩
@[simp] def Jy4 : List COper := [
  om 7 0, oq 8 (.call Jf) [.t 7, .c (.int .i64 0), .c (.int .i64 1073741824)], oq 9 (.faddr 1 1 false) [.t 3],
  ⟨none, .store false 1, [.t 9, .t 8], none⟩]
def Jyq : List COper := Jy4
instance : Reg Jyq Jy4 4 := ⟨rfl, rfl⟩
@[simp] def JyB : List COper := [
  om 10 0, oq 11 (.call Jf) [.t 10, .c (.int .i64 1), .c (.int .i64 1024)], oq 12 (.faddr 2 1 false) [.t 3],
  ⟨none, .store false 1, [.t 12, .t 11], none⟩]
def Jyx : List COper := JyB
instance : Reg Jyx JyB 4 := ⟨rfl, rfl⟩
@[simp] def JwW : List COper := [
  om 13 0, oq 14 (.call Jf) [.t 13, .c (.int .i64 0), .c (.int .i64 1024)], oq 15 (.faddr 3 1 false) [.t 3],
  ⟨none, .store false 1, [.t 15, .t 14], none⟩]
def JAp : List COper := JwW
instance : Reg JAp JwW 4 := ⟨rfl, rfl⟩
@[simp] def JAE : List COper := [
  om 16 0, oq 17 (.call Jf) [.t 16, .c (.int .i64 1), .c (.int .i64 63)], oq 18 (.faddr 36 1 false) [.t 3],
  ⟨none, .store false 1, [.t 18, .t 17], none⟩]
def Jww : List COper := JAE
instance : Reg Jww JAE 4 := ⟨rfl, rfl⟩
@[simp] def JwI : List COper := [
  om 19 0, oq 20 (.call Jn) [.t 19], oq 21 (.faddr 4 32 true) [.t 3],
  ⟨none, .store true 32, [.t 21, .t 20], none⟩]
def JwD : List COper := JwI
instance : Reg JwD JwI 4 := ⟨rfl, rfl⟩
@[simp] def JzZ : List COper := [
  om 22 0, oq 23 (.call JjW) [.t 22], oq 24 (.faddr 37 4 true) [.t 3],
  ⟨none, .store true 4, [.t 24, .t 23], none⟩]
def Jyr : List COper := JzZ
instance : Reg Jyr JzZ 4 := ⟨rfl, rfl⟩
@[simp] def Jxp : List COper := [
  om 25 0, oq 26 (.call Jj) [.t 25],
  ⟨(some 27), .not, [.t 26], none⟩]
def JxB : List COper := Jxp
instance : Reg JxB Jxp 3 := ⟨rfl, rfl⟩
@[simp] def Jsy : List COper := [
  oq 28 (.build [.v (.int .i64 0), .v (.int .i64 0), .v (.int .i64 0), .v (.int .i64 0), .arr 1 (rep 32 (.v (.int .u8 0))), .v (.int .i64 0), .node [.v (.int .i64 0), .node [.v (.slice none 0 0), .v (.slice none 0 0)], .v (.slice none 0 0)]] []) [],
  ⟨none, .store true 41, [.t 2, .t 28], none⟩]
def Jsw : List COper := Jsy
instance : Reg Jsw Jsy 2 := ⟨rfl, rfl⟩
@[simp] def JuY : List COper := [
  oq 29 (.load true 41) [.t 3],
  ⟨none, .store true 41, [.t 2, .t 29], none⟩]
def Jux : List COper := JuY
instance : Reg Jux JuY 2 := ⟨rfl, rfl⟩
@[simp] def JLy : CCode :=
  .seq (.region Jyi none [0, 2]) (.seq (.region JAo none [0, 2, 3]) (.seq (.region JzE none [0, 2, 3]) (.seq (.region Jyq none [0, 2, 3]) (.seq (.region Jyx none [0, 2, 3]) (.seq (.region JAp none [0, 2, 3]) (.seq (.region Jww none [0, 2, 3]) (.seq (.region JwD none [0, 2, 3]) (.seq (.region Jyr none [0, 2, 3]) (.seq (.seq (.region JxB none [2, 3, 27]) (.cond (.t 27) (.seq (.region Jsw none [2]) (.ret)) (.skip))) (.seq (.region Jux none [2]) (.ret)))))))))))
@[simp] def JK0 : List CRes := [.cell 2 true 41]
theorem JKz : chkFn Tryd.prog Jvf JLy JK0 1 = true := by kernel_rfl
@[simp] def Jlm : List COper := [
  ⟨(some 3), .box, [.t 1], none⟩]
def JkI : List COper := Jlm
instance : Reg JkI Jlm 1 := ⟨rfl, rfl⟩
@[simp] def JkY : List COper := [
  om 6 0, oq 7 (.faddr 0 1 false) [.t 3], oq 8 (.load false 1) [.t 7], oq 9 (.faddr 1 1 false) [.t 3], oq 10 (.load false 1) [.t 9], oq 11 (.bslice 1 2 (.v (.int .i64 0)) [0, 1]) [.t 8, .t 10],
  ⟨(some 12), .call Jm, [.t 6, .t 11], none⟩]
def JkL : List COper := JkY
instance : Reg JkL JkY 7 := ⟨rfl, rfl⟩
@[simp] def JlT : List COper := [
  om 13 0, oq 14 (.faddr 2 32 true) [.t 3], oq 15 (.load true 32) [.t 14], oq 16 (.faddr 34 32 true) [.t 3], oq 17 (.load true 32) [.t 16], oq 18 (.faddr 66 32 true) [.t 3], oq 19 (.load true 32) [.t 18], oq 20 (.bslice 32 3 (.arr 1 (rep 32 (.v (.int .u8 0)))) [0, 1, 2]) [.t 15, .t 17, .t 19],
  ⟨(some 21), .call Jl, [.t 13, .t 20], none⟩]
def Jk8 : List COper := JlT
instance : Reg Jk8 JlT 9 := ⟨rfl, rfl⟩
@[simp] def Jlp : List COper := [
  om 22 0, oq 23 (.faddr 98 1 false) [.t 3], oq 24 (.load false 1) [.t 23], oq 25 .len [.t 24], oq 26 (.bslice 1 1 (.v (.int .i64 0)) [0]) [.t 25],
  ⟨(some 27), .call Jm, [.t 22, .t 26], none⟩]
def JlU : List COper := Jlp
instance : Reg JlU Jlp 6 := ⟨rfl, rfl⟩
@[simp] def JlL : List COper := [
  oq 28 (.faddr 98 1 false) [.t 3], oq 29 (.load false 1) [.t 28], oq 30 .len [.t 29],
  ⟨(some 31), .mov, [.c (.int .i64 0)], none⟩]
def JlK : List COper := JlL
instance : Reg JlK JlL 4 := ⟨rfl, rfl⟩
@[simp] def Jk3 : List COper := [
  ⟨(some 32), .bin .lss, [.t 31, .t 30], none⟩]
def Jly : List COper := Jk3
instance : Reg Jly Jk3 1 := ⟨rfl, rfl⟩
@[simp] def Jke : List COper := [
  oq 33 (.iaddr 42) [.t 29, .t 31], oq 34 (.load true 42) [.t 33], oq 5 (.alloc (.node [.v (.int .i64 0), .v (.int .i64 0), .node [.v (.int .i64 0), .v (.string (mkS [])), .v (.string (mkS [])), .v (.string (mkS [])), .node [.v (.int .i64 0), .v (.int .i64 0), .v (.int .i64 0), .node [.arr 1 (rep 32 (.v (.int .u8 0))), .v (.int .i64 0)]]]])) [],
  ⟨none, .store true 42, [.t 5, .t 34], none⟩]
def Jkp : List COper := Jke
instance : Reg Jkp Jke 4 := ⟨rfl, rfl⟩
@[simp] def JlQ : List COper := [
  om 35 0, oq 36 (.load true 42) [.t 5],
  ⟨(some 37), .call Jep, [.t 35, .t 36], none⟩]
def Jkw : List COper := JlQ
instance : Reg Jkw JlQ 3 := ⟨rfl, rfl⟩
@[simp] def Jl0 : List COper := [
  oq 38 (.bin .add) [.t 31, .c (.int .i64 1)], om 31 38]
def Jkx : List COper := Jl0
instance : Reg Jkx Jl0 2 := ⟨rfl, rfl⟩
@[simp] def JFo : CCode :=
  .seq (.region JkI none [0, 3]) (.seq (.region JkL none [0, 3]) (.seq (.region Jk8 none [0, 3]) (.seq (.region JlU none [0, 3]) (.seq (.region JlK none [0, 29, 30, 31]) (.block 0 (.loop (.seq (.region Jly none [0, 29, 30, 31, 32]) (.seq (.cond (.t 32) (.skip) (.exit 0)) (.seq (.block 1 (.seq (.region Jkp none [0, 5, 29, 30, 31]) (.region Jkw none [0, 29, 30, 31]))) (.region Jkx none [0, 29, 30, 31]))))))))))
@[simp] def JFX : List CRes := []
theorem JF2 : chkFn Tryd.prog Jcu JFo JFX 2 = true := by kernel_rfl
@[simp] def Ji7 : List COper := [
  ⟨(some 3), .box, [.t 1], none⟩]
def Ji2 : List COper := Ji7
instance : Reg Ji2 Ji7 1 := ⟨rfl, rfl⟩
@[simp] def JiM : List COper := [
  om 6 0, oq 7 (.faddr 0 1 false) [.t 3], oq 8 (.load false 1) [.t 7], oq 9 (.faddr 1 1 false) [.t 3], oq 10 (.load false 1) [.t 9], oq 11 .len [.t 10], oq 12 (.bslice 1 2 (.v (.int .i64 0)) [0, 1]) [.t 8, .t 11],
  ⟨(some 13), .call Jm, [.t 6, .t 12], none⟩]
def Jjz : List COper := JiM
instance : Reg Jjz JiM 8 := ⟨rfl, rfl⟩
@[simp] def JiV : List COper := [
  oq 14 (.faddr 1 1 false) [.t 3], oq 15 (.load false 1) [.t 14], oq 16 .len [.t 15],
  ⟨(some 17), .mov, [.c (.int .i64 0)], none⟩]
def Jjy : List COper := JiV
instance : Reg Jjy JiV 4 := ⟨rfl, rfl⟩
@[simp] def Jja : List COper := [
  ⟨(some 18), .bin .lss, [.t 17, .t 16], none⟩]
def JjJ : List COper := Jja
instance : Reg JjJ Jja 1 := ⟨rfl, rfl⟩
@[simp] def JiI : List COper := [
  oq 19 (.iaddr 34) [.t 15, .t 17], oq 20 (.load true 34) [.t 19], oq 5 (.alloc (.node [.v (.int .i64 0), .node [.arr 1 (rep 32 (.v (.int .u8 0))), .v (.int .i64 0)]])) [],
  ⟨none, .store true 34, [.t 5, .t 20], none⟩]
def Ji6 : List COper := JiI
instance : Reg Ji6 JiI 4 := ⟨rfl, rfl⟩
@[simp] def Jjj : List COper := [
  om 21 0, oq 22 (.faddr 0 1 false) [.t 5], oq 23 (.load false 1) [.t 22], oq 24 (.faddr 1 33 true) [.t 5], oq 25 (.faddr 32 1 false) [.t 24], oq 26 (.load false 1) [.t 25], oq 27 (.bslice 1 2 (.v (.int .i64 0)) [0, 1]) [.t 23, .t 26],
  ⟨(some 28), .call Jm, [.t 21, .t 27], none⟩]
def Jjo : List COper := Jjj
instance : Reg Jjo Jjj 8 := ⟨rfl, rfl⟩
@[simp] def Jjg : List COper := [
  om 29 0, oq 30 (.faddr 1 33 true) [.t 5], oq 31 (.faddr 0 32 true) [.t 30], oq 32 (.load true 32) [.t 31], oq 33 (.bslice 32 1 (.arr 1 (rep 32 (.v (.int .u8 0)))) [0]) [.t 32],
  ⟨(some 34), .call Jl, [.t 29, .t 33], none⟩]
def JjI : List COper := Jjg
instance : Reg JjI Jjg 6 := ⟨rfl, rfl⟩
@[simp] def Jiy : List COper := [
  oq 35 (.bin .add) [.t 17, .c (.int .i64 1)], om 17 35]
def JiJ : List COper := Jiy
instance : Reg JiJ Jiy 2 := ⟨rfl, rfl⟩
@[simp] def JEL : CCode :=
  .seq (.region Ji2 none [0, 3]) (.seq (.region Jjz none [0, 3]) (.seq (.region Jjy none [0, 15, 16, 17]) (.block 0 (.loop (.seq (.region JjJ none [0, 15, 16, 17, 18]) (.seq (.cond (.t 18) (.skip) (.exit 0)) (.seq (.block 1 (.seq (.region Ji6 none [0, 5, 15, 16, 17]) (.seq (.region Jjo none [0, 5, 15, 16, 17]) (.region JjI none [0, 15, 16, 17])))) (.region JiJ none [0, 15, 16, 17]))))))))
@[simp] def JED : List CRes := []
theorem JER : chkFn Tryd.prog JbC JEL JED 2 = true := by kernel_rfl
@[simp] def JuB : List COper := [
  oq 1 .box [.t 0],
  ⟨(some 2), .mov, [.c (.string (mkS []))], none⟩]
def Jsb : List COper := JuB
instance : Reg Jsb JuB 2 := ⟨rfl, rfl⟩
@[simp] def JuU : List COper := [
  oq 6 (.faddr 0 1 false) [.t 1], oq 7 (.load false 1) [.t 6], oq 8 (.call JC) [.t 7], oq 9 (.faddr 1 1 false) [.t 1], oq 10 (.load false 1) [.t 9], oq 11 (.call JC) [.t 10], oq 12 (.bin .add) [.t 8, .t 11], oq 13 (.faddr 2 32 true) [.t 1], oq 14 (.load true 32) [.t 13], oq 15 (.call JP) [.t 14], oq 16 (.bin .add) [.t 12, .t 15], oq 17 (.faddr 34 32 true) [.t 1], oq 18 (.load true 32) [.t 17], oq 19 (.call JP) [.t 18], oq 20 (.bin .add) [.t 16, .t 19], oq 21 (.faddr 66 32 true) [.t 1], oq 22 (.load true 32) [.t 21], oq 23 (.call JP) [.t 22], oq 24 (.bin .add) [.t 20, .t 23], oq 25 (.faddr 98 1 false) [.t 1], oq 26 (.load false 1) [.t 25], oq 27 .len [.t 26], oq 28 (.call JC) [.t 27], oq 29 (.bin .add) [.t 24, .t 28], om 3 29]
def Jtu : List COper := JuU
instance : Reg Jtu JuU 25 := ⟨rfl, rfl⟩
@[simp] def Jq7 : List COper := [
  oq 30 (.faddr 98 1 false) [.t 1], oq 31 (.load false 1) [.t 30], oq 32 .len [.t 31],
  ⟨(some 33), .mov, [.c (.int .i64 0)], none⟩]
def JrX : List COper := Jq7
instance : Reg JrX Jq7 4 := ⟨rfl, rfl⟩
@[simp] def Jut : List COper := [
  ⟨(some 34), .bin .lss, [.t 33, .t 32], none⟩]
def Js8 : List COper := Jut
instance : Reg Js8 Jut 1 := ⟨rfl, rfl⟩
@[simp] def JuE : List COper := [
  oq 35 (.iaddr 42) [.t 31, .t 33], oq 36 (.load true 42) [.t 35], oq 5 (.alloc (.node [.v (.int .i64 0), .v (.int .i64 0), .node [.v (.int .i64 0), .v (.string (mkS [])), .v (.string (mkS [])), .v (.string (mkS [])), .node [.v (.int .i64 0), .v (.int .i64 0), .v (.int .i64 0), .node [.arr 1 (rep 32 (.v (.int .u8 0))), .v (.int .i64 0)]]]])) [],
  ⟨none, .store true 42, [.t 5, .t 36], none⟩]
def Jtf : List COper := JuE
instance : Reg Jtf JuE 4 := ⟨rfl, rfl⟩
@[simp] def JrF : List COper := [
  om 37 3, oq 38 (.load true 42) [.t 5], oq 39 (.call Jpx) [.t 38], oq 40 (.bin .add) [.t 37, .t 39], om 3 40]
def Jsp : List COper := JrF
instance : Reg Jsp JrF 5 := ⟨rfl, rfl⟩
@[simp] def Ju7 : List COper := [
  oq 41 (.bin .add) [.t 33, .c (.int .i64 1)], om 33 41]
def JuO : List COper := Ju7
instance : Reg JuO Ju7 2 := ⟨rfl, rfl⟩
@[simp] def JuG : List COper := [
  om 42 3, om 2 42]
def JsV : List COper := JuG
instance : Reg JsV JuG 2 := ⟨rfl, rfl⟩
@[simp] def JJr : CCode :=
  .seq (.region Jsb none [1]) (.seq (.region Jtu (some ([0, 1, 3, 0, 8, 31, 63, 0, 128, 447, 1023, 0, 2048, 7103, 16383, 0, 32768, 113599, 262143, 0, 524288, 1572864, 3914687, 8388607, 16777215], [(2, 4), (2, 8), (5, 8), (2, 12), (5, 12), (9, 12), (2, 16), (5, 16), (9, 16), (13, 16), (2, 20), (5, 20), (9, 20), (13, 20), (17, 20)])) [1, 3]) (.seq (.seq (.region JrX none [3, 31, 32, 33]) (.block 0 (.loop (.seq (.region Js8 none [3, 31, 32, 33, 34]) (.seq (.cond (.t 34) (.skip) (.exit 0)) (.seq (.block 1 (.seq (.region Jtf none [3, 5, 31, 32, 33]) (.region Jsp none [3, 31, 32, 33]))) (.region JuO none [3, 31, 32, 33]))))))) (.seq (.region JsV none [2]) (.ret))))
@[simp] def JIG : List CRes := [.tmp 2]
theorem JJD : chkFn Tryd.prog Jp0 JJr JIG 1 = true := by kernel_rfl
@[simp] def Jsx : List COper := [
  oq 1 .box [.t 0],
  ⟨(some 2), .mov, [.c (.string (mkS []))], none⟩]
def JrU : List COper := Jsx
instance : Reg JrU Jsx 2 := ⟨rfl, rfl⟩
@[simp] def Jq0 : List COper := [
  oq 6 (.faddr 0 1 false) [.t 1], oq 7 (.load false 1) [.t 6], oq 8 (.call JC) [.t 7], oq 9 (.faddr 1 1 false) [.t 1], oq 10 (.load false 1) [.t 9], oq 11 .len [.t 10], oq 12 (.call JC) [.t 11], oq 13 (.bin .add) [.t 8, .t 12], om 3 13]
def JtF : List COper := Jq0
instance : Reg JtF Jq0 9 := ⟨rfl, rfl⟩
@[simp] def Ju3 : List COper := [
  oq 14 (.faddr 1 1 false) [.t 1], oq 15 (.load false 1) [.t 14], oq 16 .len [.t 15],
  ⟨(some 17), .mov, [.c (.int .i64 0)], none⟩]
def JtE : List COper := Ju3
instance : Reg JtE Ju3 4 := ⟨rfl, rfl⟩
@[simp] def Juk : List COper := [
  ⟨(some 18), .bin .lss, [.t 17, .t 16], none⟩]
def JtZ : List COper := Juk
instance : Reg JtZ Juk 1 := ⟨rfl, rfl⟩
@[simp] def Jti : List COper := [
  oq 19 (.iaddr 34) [.t 15, .t 17], oq 20 (.load true 34) [.t 19], oq 5 (.alloc (.node [.v (.int .i64 0), .node [.arr 1 (rep 32 (.v (.int .u8 0))), .v (.int .i64 0)]])) [],
  ⟨none, .store true 34, [.t 5, .t 20], none⟩]
def Jsh : List COper := Jti
instance : Reg Jsh Jti 4 := ⟨rfl, rfl⟩
@[simp] def JsW : List COper := [
  om 21 3, oq 22 (.faddr 0 1 false) [.t 5], oq 23 (.load false 1) [.t 22], oq 24 (.call JC) [.t 23], oq 25 (.bin .add) [.t 21, .t 24], oq 26 (.faddr 1 33 true) [.t 5], oq 27 (.faddr 32 1 false) [.t 26], oq 28 (.load false 1) [.t 27], oq 29 (.call JC) [.t 28], oq 30 (.bin .add) [.t 25, .t 29], oq 31 (.faddr 1 33 true) [.t 5], oq 32 (.faddr 0 32 true) [.t 31], oq 33 (.load true 32) [.t 32], oq 34 (.call JP) [.t 33], oq 35 (.bin .add) [.t 30, .t 34], om 3 35]
def Jto : List COper := JsW
instance : Reg Jto JsW 16 := ⟨rfl, rfl⟩
@[simp] def Ju8 : List COper := [
  oq 36 (.bin .add) [.t 17, .c (.int .i64 1)], om 17 36]
def JuK : List COper := Ju8
instance : Reg JuK Ju8 2 := ⟨rfl, rfl⟩
@[simp] def JsP : List COper := [
  om 37 3, om 2 37]
def Jrg : List COper := JsP
instance : Reg Jrg JsP 2 := ⟨rfl, rfl⟩
@[simp] def JIi : CCode :=
  .seq (.region JrU none [1]) (.seq (.region JtF (some ([0, 1, 3, 0, 8, 24, 63, 127, 255], [(2, 4)])) [1, 3]) (.seq (.seq (.region JtE none [3, 15, 16, 17]) (.block 0 (.loop (.seq (.region JtZ none [3, 15, 16, 17, 18]) (.seq (.cond (.t 18) (.skip) (.exit 0)) (.seq (.block 1 (.seq (.region Jsh none [3, 5, 15, 16, 17]) (.region Jto (some ([0, 0, 2, 6, 15, 0, 32, 96, 238, 511, 0, 1024, 3072, 7662, 16383, 32767], [(3, 7), (3, 12), (8, 12)])) [3, 15, 16, 17]))) (.region JuK none [3, 15, 16, 17]))))))) (.seq (.region Jrg none [2]) (.ret))))
@[simp] def JJx : List CRes := [.tmp 2]
theorem JIn : chkFn Tryd.prog JmH JIi JJx 1 = true := by kernel_rfl
@[simp] def Jxb : List COper := [
  oq 2 .box [.t 0], oq 3 .box [.t 1],
  ⟨(some 4), .mov, [.c (.bool false)], none⟩]
def Jyc : List COper := Jxb
instance : Reg Jyc Jxb 3 := ⟨rfl, rfl⟩
@[simp] def JxF : List COper := [
  oq 6 (.faddr 0 1 false) [.t 2], oq 7 (.load false 1) [.t 6], oq 8 (.faddr 0 1 false) [.t 3], oq 9 (.load false 1) [.t 8], oq 10 (.bin .neq) [.t 7, .t 9], om 11 10,
  ⟨(some 12), .faddr 1 1 false, [.t 2], (some (11, false))⟩,
  ⟨(some 13), .load false 1, [.t 12], (some (11, false))⟩,
  ⟨(some 14), .faddr 1 1 false, [.t 3], (some (11, false))⟩,
  ⟨(some 15), .load false 1, [.t 14], (some (11, false))⟩,
  ⟨(some 16), .bin .neq, [.t 13, .t 15], (some (11, false))⟩, oq 17 .pick [.t 11, .c (.bool true), .t 16], om 18 17,
  ⟨(some 19), .faddr 2 32 true, [.t 2], (some (18, false))⟩,
  ⟨(some 20), .load true 32, [.t 19], (some (18, false))⟩,
  ⟨(some 21), .faddr 2 32 true, [.t 3], (some (18, false))⟩,
  ⟨(some 22), .load true 32, [.t 21], (some (18, false))⟩,
  ⟨(some 23), .eqa true .u8 32, [.t 20, .t 22], (some (18, false))⟩, oq 24 .pick [.t 18, .c (.bool true), .t 23], om 25 24,
  ⟨(some 26), .faddr 34 32 true, [.t 2], (some (25, false))⟩,
  ⟨(some 27), .load true 32, [.t 26], (some (25, false))⟩,
  ⟨(some 28), .faddr 34 32 true, [.t 3], (some (25, false))⟩,
  ⟨(some 29), .load true 32, [.t 28], (some (25, false))⟩,
  ⟨(some 30), .eqa true .u8 32, [.t 27, .t 29], (some (25, false))⟩, oq 31 .pick [.t 25, .c (.bool true), .t 30], om 32 31,
  ⟨(some 33), .faddr 66 32 true, [.t 2], (some (32, false))⟩,
  ⟨(some 34), .load true 32, [.t 33], (some (32, false))⟩,
  ⟨(some 35), .faddr 66 32 true, [.t 3], (some (32, false))⟩,
  ⟨(some 36), .load true 32, [.t 35], (some (32, false))⟩,
  ⟨(some 37), .eqa true .u8 32, [.t 34, .t 36], (some (32, false))⟩, oq 38 .pick [.t 32, .c (.bool true), .t 37], om 39 38,
  ⟨(some 40), .faddr 98 1 false, [.t 2], (some (39, false))⟩,
  ⟨(some 41), .load false 1, [.t 40], (some (39, false))⟩,
  ⟨(some 42), .len, [.t 41], (some (39, false))⟩,
  ⟨(some 43), .faddr 98 1 false, [.t 3], (some (39, false))⟩,
  ⟨(some 44), .load false 1, [.t 43], (some (39, false))⟩,
  ⟨(some 45), .len, [.t 44], (some (39, false))⟩,
  ⟨(some 46), .bin .neq, [.t 42, .t 45], (some (39, false))⟩,
  ⟨(some 47), .pick, [.t 39, .c (.bool true), .t 46], none⟩]
def JAq : List COper := JxF
instance : Reg JAq JxF 42 := ⟨rfl, rfl⟩
@[simp] def JwJ : List COper := [
  ⟨(some 4), .mov, [.c (.bool false)], none⟩]
def Jzg : List COper := JwJ
instance : Reg Jzg JwJ 1 := ⟨rfl, rfl⟩
@[simp] def Jx7 : List COper := [
  oq 48 (.faddr 98 1 false) [.t 2], oq 49 (.load false 1) [.t 48], oq 50 .len [.t 49],
  ⟨(some 51), .mov, [.c (.int .i64 0)], none⟩]
def JvV : List COper := Jx7
instance : Reg JvV Jx7 4 := ⟨rfl, rfl⟩
@[simp] def Jye : List COper := [
  ⟨(some 52), .bin .lss, [.t 51, .t 50], none⟩]
def Jym : List COper := Jye
instance : Reg Jym Jye 1 := ⟨rfl, rfl⟩
@[simp] def JwV : List COper := [
  om 53 51, om 5 53]
def Jv4 : List COper := JwV
instance : Reg Jv4 JwV 2 := ⟨rfl, rfl⟩
@[simp] def Jwi : List COper := [
  oq 54 (.faddr 98 1 false) [.t 2], oq 55 (.load false 1) [.t 54], om 56 5, oq 57 (.iaddr 42) [.t 55, .t 56], oq 58 (.load true 42) [.t 57], oq 59 (.faddr 98 1 false) [.t 3], oq 60 (.load false 1) [.t 59], om 61 5, oq 62 (.iaddr 42) [.t 60, .t 61], oq 63 (.load true 42) [.t 62],
  ⟨(some 64), .eqs true (.st [.int .i64, .int .i64, .st [.int .i64, .str, .str, .str, .st [.int .i64, .int .i64, .int .i64, .st [.ints .u8 32, .int .i64]]]]), [.t 58, .t 63], none⟩]
def Jw1 : List COper := Jwi
instance : Reg Jw1 Jwi 11 := ⟨rfl, rfl⟩
@[simp] def Jwf : List COper := [
  ⟨(some 4), .mov, [.c (.bool false)], none⟩]
def Jzr : List COper := Jwf
instance : Reg Jzr Jwf 1 := ⟨rfl, rfl⟩
@[simp] def JwA : List COper := [
  oq 65 (.bin .add) [.t 51, .c (.int .i64 1)], om 51 65]
def JAF : List COper := JwA
instance : Reg JAF JwA 2 := ⟨rfl, rfl⟩
@[simp] def Jzo : List COper := [
  ⟨(some 4), .mov, [.c (.bool true)], none⟩]
def Jz5 : List COper := Jzo
instance : Reg Jz5 Jzo 1 := ⟨rfl, rfl⟩
@[simp] def JKF : CCode :=
  .seq (.region Jyc none [2, 3]) (.seq (.seq (.region JAq none [2, 3, 47]) (.cond (.t 47) (.seq (.region Jzg none [4]) (.ret)) (.skip))) (.seq (.seq (.region JvV none [2, 3, 50, 51]) (.block 0 (.loop (.seq (.region Jym none [2, 3, 50, 51, 52]) (.seq (.cond (.t 52) (.skip) (.exit 0)) (.seq (.block 1 (.seq (.region Jv4 none [2, 3, 5, 50, 51]) (.seq (.region Jw1 (some ([0, 1, 0, 7, 15, 0, 32, 0, 224, 480, 1023], [])) [2, 3, 50, 51, 64]) (.cond (.t 64) (.seq (.region Jzr none [4]) (.ret)) (.skip))))) (.region JAF none [2, 3, 50, 51]))))))) (.seq (.region Jz5 none [4]) (.ret))))
@[simp] def JK4 : List CRes := [.tmp 4]
theorem JLu : chkFn Tryd.prog JjO JKF JK4 2 = true := by kernel_rfl
@[simp] def JnV : List COper := [
  ⟨(some 2), .alloc (.node [.v (.int .i64 0), .v (.int .i64 0), .arr 1 (rep 32 (.v (.int .u8 0))), .arr 1 (rep 32 (.v (.int .u8 0))), .arr 1 (rep 32 (.v (.int .u8 0))), .v (.slice none 0 0)]), [], none⟩]
def JnO : List COper := JnV
instance : Reg JnO JnV 1 := ⟨rfl, rfl⟩
@[simp] def JmI : List COper := [
  om 4 0, oq 5 (.call Jd) [.t 4, .c (.int .i64 0), .c (.int .i64 1073741824)], om 6 0, oq 7 (.call Jd) [.t 6, .c (.int .i64 1), .c (.int .i64 1024)], om 8 0, oq 9 (.call Ji) [.t 8], om 10 0, oq 11 (.call Ji) [.t 10], om 12 0, oq 13 (.call Ji) [.t 12], oq 14 (.build [.v (.int .i64 0), .v (.int .i64 0), .arr 1 (rep 32 (.v (.int .u8 0))), .arr 1 (rep 32 (.v (.int .u8 0))), .arr 1 (rep 32 (.v (.int .u8 0))), .v (.slice none 0 0)] [0, 1, 2, 3, 4]) [.t 5, .t 7, .t 9, .t 11, .t 13], oq 3 (.alloc (.node [.v (.int .i64 0), .v (.int .i64 0), .arr 1 (rep 32 (.v (.int .u8 0))), .arr 1 (rep 32 (.v (.int .u8 0))), .arr 1 (rep 32 (.v (.int .u8 0))), .v (.slice none 0 0)])) [],
  ⟨none, .store true 99, [.t 3, .t 14], none⟩]
def JmM : List COper := JmI
instance : Reg JmM JmI 13 := ⟨rfl, rfl⟩
@[simp] def Joo : List COper := [
  om 15 0, oq 16 (.call Jd) [.t 15, .c (.int .i64 0), .c (.int .i64 8)],
  ⟨(some 17), .mov, [.c (.int .i64 0)], none⟩]
def Jmy : List COper := Joo
instance : Reg Jmy Joo 3 := ⟨rfl, rfl⟩
@[simp] def Jng : List COper := [
  ⟨(some 18), .bin .lss, [.t 17, .t 16], none⟩]
def Jqt : List COper := Jng
instance : Reg Jqt Jng 1 := ⟨rfl, rfl⟩
@[simp] def Jmm : List COper := [
  oq 19 (.faddr 98 1 false) [.t 3], oq 20 (.load false 1) [.t 19], om 21 0, oq 22 (.call JgQ) [.t 21], oq 23 (.bslice 42 1 (.node [.v (.int .i64 0), .v (.int .i64 0), .node [.v (.int .i64 0), .v (.string (mkS [])), .v (.string (mkS [])), .v (.string (mkS [])), .node [.v (.int .i64 0), .v (.int .i64 0), .v (.int .i64 0), .node [.arr 1 (rep 32 (.v (.int .u8 0))), .v (.int .i64 0)]]]]) [0]) [.t 22], oq 24 (.app 42 136) [.t 20, .t 23], oq 25 (.faddr 98 1 false) [.t 3],
  ⟨none, .store false 1, [.t 25, .t 24], none⟩]
def Jm1 : List COper := Jmm
instance : Reg Jm1 Jmm 8 := ⟨rfl, rfl⟩
@[simp] def JoA : List COper := [
  oq 26 (.bin .add) [.t 17, .c (.int .i64 1)], om 17 26]
def JpC : List COper := JoA
instance : Reg JpC JoA 2 := ⟨rfl, rfl⟩
@[simp] def JmO : List COper := [
  om 27 0, oq 28 (.call Jk) [.t 27],
  ⟨(some 29), .not, [.t 28], none⟩]
def Jqa : List COper := JmO
instance : Reg Jqa JmO 3 := ⟨rfl, rfl⟩
@[simp] def JpR : List COper := [
  oq 30 (.build [.v (.int .i64 0), .v (.int .i64 0), .arr 1 (rep 32 (.v (.int .u8 0))), .arr 1 (rep 32 (.v (.int .u8 0))), .arr 1 (rep 32 (.v (.int .u8 0))), .v (.slice none 0 0)] []) [],
  ⟨none, .store true 99, [.t 2, .t 30], none⟩]
def Jp7 : List COper := JpR
instance : Reg Jp7 JpR 2 := ⟨rfl, rfl⟩
@[simp] def Jpb : List COper := [
  oq 31 (.load true 99) [.t 3],
  ⟨none, .store true 99, [.t 2, .t 31], none⟩]
def Jpq : List COper := Jpb
instance : Reg Jpq Jpb 2 := ⟨rfl, rfl⟩
@[simp] def JHR : CCode :=
  .seq (.region JnO none [0, 2]) (.seq (.region JmM none [0, 2, 3]) (.seq (.seq (.region Jmy none [0, 2, 3, 16, 17]) (.block 0 (.loop (.seq (.region Jqt none [0, 2, 3, 16, 17, 18]) (.seq (.cond (.t 18) (.skip) (.exit 0)) (.seq (.block 1 (.region Jm1 (some ([0, 1, 0, 4, 12, 31, 63, 127], [(1, 3), (1, 4)])) [0, 2, 3, 16, 17])) (.region JpC none [0, 2, 3, 16, 17]))))))) (.seq (.seq (.region Jqa none [2, 3, 29]) (.cond (.t 29) (.seq (.region Jp7 none [2]) (.ret)) (.skip))) (.seq (.region Jpq none [2]) (.ret)))))
@[simp] def JHB : List CRes := [.cell 2 true 99]
theorem JHo : chkFn Tryd.prog Jgt JHR JHB 1 = true := by kernel_rfl
@[simp] def JkM : List COper := [
  ⟨(some 2), .alloc (.node [.v (.int .i64 0), .v (.slice none 0 0)]), [], none⟩]
def JlR : List COper := JkM
instance : Reg JlR JkM 1 := ⟨rfl, rfl⟩
@[simp] def JlD : List COper := [
  om 6 0, oq 7 (.call Jd) [.t 6, .c (.int .i64 0), .c (.int .i64 1073741824)], oq 8 (.build [.v (.int .i64 0), .v (.slice none 0 0)] [0]) [.t 7], oq 3 (.alloc (.node [.v (.int .i64 0), .v (.slice none 0 0)])) [],
  ⟨none, .store true 2, [.t 3, .t 8], none⟩]
def JkU : List COper := JlD
instance : Reg JkU JlD 5 := ⟨rfl, rfl⟩
@[simp] def JkT : List COper := [
  ⟨(some 4), .mov, [.c (.int .i64 0)], none⟩]
def Jk0 : List COper := JkT
instance : Reg Jk0 JkT 1 := ⟨rfl, rfl⟩
@[simp] def Jku : List COper := [
  om 9 0, oq 10 (.call Jd) [.t 9, .c (.int .i64 1), .c (.int .i64 10)],
  ⟨(some 11), .mov, [.c (.int .i64 0)], none⟩]
def Jl3 : List COper := Jku
instance : Reg Jl3 Jku 3 := ⟨rfl, rfl⟩
@[simp] def JlG : List COper := [
  ⟨(some 12), .bin .lss, [.t 11, .t 10], none⟩]
def JkN : List COper := JlG
instance : Reg JkN JlG 1 := ⟨rfl, rfl⟩
@[simp] def Jkl : List COper := [
  om 13 0, om 14 4, oq 15 (.bin .add) [.t 14, .c (.int .i64 1)], oq 16 (.call Jd) [.t 13, .t 15, .c (.int .i64 63)], om 4 16]
def JlS : List COper := Jkl
instance : Reg JlS Jkl 5 := ⟨rfl, rfl⟩
@[simp] def Jky : List COper := [
  om 17 0, oq 18 (.call Jd) [.t 17, .c (.int .i64 0), .c (.int .i64 6)], om 5 18]
def Jlh : List COper := Jky
instance : Reg Jlh Jky 3 := ⟨rfl, rfl⟩
@[simp] def Jl1 : List COper := [
  oq 19 (.faddr 1 1 false) [.t 3], oq 20 (.load false 1) [.t 19], om 21 4, om 22 0, oq 23 (.call Ji) [.t 22], om 24 5, oq 25 (.build [.arr 1 (rep 32 (.v (.int .u8 0))), .v (.int .i64 0)] [0, 1]) [.t 23, .t 24], oq 26 (.build [.v (.int .i64 0), .node [.arr 1 (rep 32 (.v (.int .u8 0))), .v (.int .i64 0)]] [0, 1]) [.t 21, .t 25], oq 27 (.bslice 34 1 (.node [.v (.int .i64 0), .node [.arr 1 (rep 32 (.v (.int .u8 0))), .v (.int .i64 0)]]) [0]) [.t 26], oq 28 (.app 34 48) [.t 20, .t 27], oq 29 (.faddr 1 1 false) [.t 3],
  ⟨none, .store false 1, [.t 29, .t 28], none⟩]
def Jk4 : List COper := Jl1
instance : Reg Jk4 Jl1 12 := ⟨rfl, rfl⟩
@[simp] def JkB : List COper := [
  oq 30 (.bin .add) [.t 11, .c (.int .i64 1)], om 11 30]
def JkG : List COper := JkB
instance : Reg JkG JkB 2 := ⟨rfl, rfl⟩
@[simp] def JlF : List COper := [
  om 31 0, oq 32 (.call Jk) [.t 31],
  ⟨(some 33), .not, [.t 32], none⟩]
def Jkm : List COper := JlF
instance : Reg Jkm JlF 3 := ⟨rfl, rfl⟩
@[simp] def JjH : List COper := [
  oq 34 (.build [.v (.int .i64 0), .v (.slice none 0 0)] []) [],
  ⟨none, .store true 2, [.t 2, .t 34], none⟩]
def Jjc : List COper := JjH
instance : Reg Jjc JjH 2 := ⟨rfl, rfl⟩
@[simp] def JiN : List COper := [
  oq 35 (.load true 2) [.t 3],
  ⟨none, .store true 2, [.t 2, .t 35], none⟩]
def Ji9 : List COper := JiN
instance : Reg Ji9 JiN 2 := ⟨rfl, rfl⟩
@[simp] def JFP : CCode :=
  .seq (.region JlR none [0, 2]) (.seq (.region JkU none [0, 2, 3]) (.seq (.region Jk0 none [0, 2, 3, 4]) (.seq (.seq (.region Jl3 none [0, 2, 3, 4, 10, 11]) (.block 0 (.loop (.seq (.region JkN none [0, 2, 3, 4, 10, 11, 12]) (.seq (.cond (.t 12) (.skip) (.exit 0)) (.seq (.block 1 (.seq (.region JlS none [0, 2, 3, 4, 10, 11]) (.seq (.region Jlh none [0, 2, 3, 4, 5, 10, 11]) (.region Jk4 (some ([0, 1, 0, 0, 8, 0, 56, 124, 252, 511, 1023, 2047], [(1, 4), (1, 8)])) [0, 2, 3, 4, 10, 11])))) (.region JkG none [0, 2, 3, 4, 10, 11]))))))) (.seq (.seq (.region Jkm none [2, 3, 33]) (.cond (.t 33) (.seq (.region Jjc none [2]) (.ret)) (.skip))) (.seq (.region Ji9 none [2]) (.ret))))))
@[simp] def JF1 : List CRes := [.cell 2 true 2]
theorem JFZ : chkFn Tryd.prog Jix JFP JF1 1 = true := by kernel_rfl
@[simp] def Jzs : List COper := [
  ⟨(some 2), .alloc (.node [.v (.int .i64 0), .v (.int .i64 0), .arr 1 (rep 32 (.v (.int .u8 0))), .arr 1 (rep 32 (.v (.int .u8 0))), .arr 1 (rep 32 (.v (.int .u8 0))), .v (.slice none 0 0)]), [], none⟩]
def Jzd : List COper := Jzs
instance : Reg Jzd Jzs 1 := ⟨rfl, rfl⟩
@[simp] def Jwn : List COper := [
  ⟨(some 3), .alloc (.node [.v (.int .i64 0), .v (.int .i64 0), .arr 1 (rep 32 (.v (.int .u8 0))), .arr 1 (rep 32 (.v (.int .u8 0))), .arr 1 (rep 32 (.v (.int .u8 0))), .v (.slice none 0 0)]), [], none⟩]
def JzM : List COper := Jwn
instance : Reg JzM Jwn 1 := ⟨rfl, rfl⟩
@[simp] def JwX : List COper := [
  om 6 0, oq 7 (.call Jf) [.t 6, .c (.int .i64 0), .c (.int .i64 1073741824)], oq 8 (.faddr 0 1 false) [.t 3],
  ⟨none, .store false 1, [.t 8, .t 7], none⟩]
def JzH : List COper := JwX
instance : Reg JzH JwX 4 := ⟨rfl, rfl⟩
@[simp] def JvX : List COper := [
  om 9 0, oq 10 (.call Jf) [.t 9, .c (.int .i64 1), .c (.int .i64 1024)], oq 11 (.faddr 1 1 false) [.t 3],
  ⟨none, .store false 1, [.t 11, .t 10], none⟩]
def JAb : List COper := JvX
instance : Reg JAb JvX 4 := ⟨rfl, rfl⟩
@[simp] def Jzp : List COper := [
  om 12 0, oq 13 (.call Jn) [.t 12], oq 14 (.faddr 2 32 true) [.t 3],
  ⟨none, .store true 32, [.t 14, .t 13], none⟩]
def Jw5 : List COper := Jzp
instance : Reg Jw5 Jzp 4 := ⟨rfl, rfl⟩
@[simp] def JAu : List COper := [
  om 15 0, oq 16 (.call Jn) [.t 15], oq 17 (.faddr 34 32 true) [.t 3],
  ⟨none, .store true 32, [.t 17, .t 16], none⟩]
def JyE : List COper := JAu
instance : Reg JyE JAu 4 := ⟨rfl, rfl⟩
@[simp] def JvZ : List COper := [
  om 18 0, oq 19 (.call Jn) [.t 18], oq 20 (.faddr 66 32 true) [.t 3],
  ⟨none, .store true 32, [.t 20, .t 19], none⟩]
def JAH : List COper := JvZ
instance : Reg JAH JvZ 4 := ⟨rfl, rfl⟩
@[simp] def Jwg : List COper := [
  om 21 0, oq 22 (.call Jf) [.t 21, .c (.int .i64 0), .c (.int .i64 8)], om 4 22]
def JAL : List COper := Jwg
instance : Reg JAL Jwg 3 := ⟨rfl, rfl⟩
@[simp] def JzL : List COper := [
  ⟨(some 5), .mov, [.c (.int .i64 0)], none⟩]
def JxT : List COper := JzL
instance : Reg JxT JzL 1 := ⟨rfl, rfl⟩
@[simp] def JAD : List COper := [
  om 23 5, om 24 4, oq 25 (.bin .lss) [.t 23, .t 24], om 26 25,
  ⟨(some 27), .mov, [.t 0], (some (26, true))⟩,
  ⟨(some 28), .call Jj, [.t 27], (some (26, true))⟩,
  ⟨(some 29), .pick, [.t 26, .t 28, .c (.bool false)], none⟩]
def Jwt : List COper := JAD
instance : Reg Jwt JAD 7 := ⟨rfl, rfl⟩
@[simp] def Jtc : List COper := [
  oq 32 (.faddr 98 1 false) [.t 3], oq 33 (.load false 1) [.t 32], om 34 0, oq 35 (.call Jvn) [.t 34], oq 36 (.bslice 42 1 (.node [.v (.int .i64 0), .v (.int .i64 0), .node [.v (.int .i64 0), .v (.string (mkS [])), .v (.string (mkS [])), .v (.string (mkS [])), .node [.v (.int .i64 0), .v (.int .i64 0), .v (.int .i64 0), .node [.arr 1 (rep 32 (.v (.int .u8 0))), .v (.int .i64 0)]]]]) [0]) [.t 35], oq 37 (.app 42 136) [.t 33, .t 36], oq 38 (.faddr 98 1 false) [.t 3],
  ⟨none, .store false 1, [.t 38, .t 37], none⟩]
def Jud : List COper := Jtc
instance : Reg Jud Jtc 8 := ⟨rfl, rfl⟩
@[simp] def Jts : List COper := [
  om 30 5, oq 31 (.bin .add) [.t 30, .c (.int .i64 1)], om 5 31]
def JuX : List COper := Jts
instance : Reg JuX Jts 3 := ⟨rfl, rfl⟩
@[simp] def JsF : List COper := [
  om 39 0, oq 40 (.call Jj) [.t 39],
  ⟨(some 41), .not, [.t 40], none⟩]
def Juy : List COper := JsF
instance : Reg Juy JsF 3 := ⟨rfl, rfl⟩
@[simp] def Jtq : List COper := [
  oq 42 (.build [.v (.int .i64 0), .v (.int .i64 0), .arr 1 (rep 32 (.v (.int .u8 0))), .arr 1 (rep 32 (.v (.int .u8 0))), .arr 1 (rep 32 (.v (.int .u8 0))), .v (.slice none 0 0)] []) [],
  ⟨none, .store true 99, [.t 2, .t 42], none⟩]
def Jus : List COper := Jtq
instance : Reg Jus Jtq 2 := ⟨rfl, rfl⟩
@[simp] def Jq6 : List COper := [
  oq 43 (.load true 99) [.t 3],
  ⟨none, .store true 99, [.t 2, .t 43], none⟩]
def Jta : List COper := Jq6
instance : Reg Jta Jq6 2 := ⟨rfl, rfl⟩
@[simp] def JKY : CCode :=
  .seq (.region Jzd none [0, 2]) (.seq (.region JzM none [0, 2, 3]) (.seq (.region JzH none [0, 2, 3]) (.seq (.region JAb none [0, 2, 3]) (.seq (.region Jw5 none [0, 2, 3]) (.seq (.region JyE none [0, 2, 3]) (.seq (.region JAH none [0, 2, 3]) (.seq (.region JAL none [0, 2, 3, 4]) (.seq (.seq (.region JxT none [0, 2, 3, 4, 5]) (.block 0 (.loop (.seq (.seq (.region Jwt none [0, 2, 3, 4, 5, 29]) (.cond (.t 29) (.skip) (.exit 0))) (.seq (.block 1 (.region Jud (some ([0, 1, 0, 4, 12, 31, 63, 127], [(1, 3), (1, 4)])) [0, 2, 3, 4, 5])) (.region JuX none [0, 2, 3, 4, 5])))))) (.seq (.seq (.region Juy none [2, 3, 41]) (.cond (.t 41) (.seq (.region Jus none [2]) (.ret)) (.skip))) (.seq (.region Jta none [2]) (.ret)))))))))))
@[simp] def JLa : List CRes := [.cell 2 true 99]
theorem JLY : chkFn Tryd.prog Jj0 JKY JLa 1 = true := by kernel_rfl
@[simp] def JxM : List COper := [
  ⟨(some 2), .alloc (.node [.v (.int .i64 0), .v (.slice none 0 0)]), [], none⟩]
def Jyk : List COper := JxM
instance : Reg Jyk JxM 1 := ⟨rfl, rfl⟩
@[simp] def JvQ : List COper := [
  om 8 0, oq 9 (.call Jf) [.t 8, .c (.int .i64 0), .c (.int .i64 1073741824)], oq 10 (.build [.v (.int .i64 0), .v (.slice none 0 0)] [0]) [.t 9], oq 3 (.alloc (.node [.v (.int .i64 0), .v (.slice none 0 0)])) [],
  ⟨none, .store true 2, [.t 3, .t 10], none⟩]
def JAz : List COper := JvQ
instance : Reg JAz JvQ 5 := ⟨rfl, rfl⟩
@[simp] def Jya : List COper := [
  om 11 0, oq 12 (.call Jf) [.t 11, .c (.int .i64 1), .c (.int .i64 10)], om 4 12]
def Jy1 : List COper := Jya
instance : Reg Jy1 Jya 3 := ⟨rfl, rfl⟩
@[simp] def JyY : List COper := [
  ⟨(some 5), .mov, [.c (.int .i64 0)], none⟩]
def Jv3 : List COper := JyY
instance : Reg Jv3 JyY 1 := ⟨rfl, rfl⟩
@[simp] def Jzt : List COper := [
  ⟨(some 6), .mov, [.c (.int .i64 0)], none⟩]
def JzP : List COper := Jzt
instance : Reg JzP Jzt 1 := ⟨rfl, rfl⟩
@[simp] def JAw : List COper := [
  om 13 6, om 14 4,
  ⟨(some 15), .bin .lss, [.t 13, .t 14], none⟩]
def JwG : List COper := JAw
instance : Reg JwG JAw 3 := ⟨rfl, rfl⟩
@[simp] def JvT : List COper := [
  ⟨(some 7), .alloc (.node [.v (.int .i64 0), .node [.arr 1 (rep 32 (.v (.int .u8 0))), .v (.int .i64 0)]]), [], none⟩]
def JyJ : List COper := JvT
instance : Reg JyJ JvT 1 := ⟨rfl, rfl⟩
@[simp] def Jy6 : List COper := [
  om 18 0, om 19 5, oq 20 (.bin .add) [.t 19, .c (.int .i64 1)], oq 21 (.call Jf) [.t 18, .t 20, .c (.int .i64 63)], oq 22 (.faddr 0 1 false) [.t 7],
  ⟨none, .store false 1, [.t 22, .t 21], none⟩]
def JwM : List COper := Jy6
instance : Reg JwM Jy6 6 := ⟨rfl, rfl⟩
@[simp] def Jw8 : List COper := [
  oq 23 (.faddr 0 1 false) [.t 7], oq 24 (.load false 1) [.t 23], om 5 24]
def Jzu : List COper := Jw8
instance : Reg Jzu Jw8 3 := ⟨rfl, rfl⟩
@[simp] def Jrs : List COper := [
  om 25 0, oq 26 (.call Jf) [.t 25, .c (.int .i64 0), .c (.int .i64 6)], oq 27 (.faddr 1 33 true) [.t 7], oq 28 (.faddr 32 1 false) [.t 27],
  ⟨none, .store false 1, [.t 28, .t 26], none⟩]
def Js4 : List COper := Jrs
instance : Reg Js4 Jrs 5 := ⟨rfl, rfl⟩
@[simp] def Js5 : List COper := [
  om 29 0, oq 30 (.call Jn) [.t 29], oq 31 (.faddr 1 33 true) [.t 7], oq 32 (.faddr 0 32 true) [.t 31],
  ⟨none, .store true 32, [.t 32, .t 30], none⟩]
def Js1 : List COper := Js5
instance : Reg Js1 Js5 5 := ⟨rfl, rfl⟩
@[simp] def Jrx : List COper := [
  oq 33 (.faddr 1 1 false) [.t 3], oq 34 (.load false 1) [.t 33], oq 35 (.load true 34) [.t 7], oq 36 (.bslice 34 1 (.node [.v (.int .i64 0), .node [.arr 1 (rep 32 (.v (.int .u8 0))), .v (.int .i64 0)]]) [0]) [.t 35], oq 37 (.app 34 48) [.t 34, .t 36], oq 38 (.faddr 1 1 false) [.t 3],
  ⟨none, .store false 1, [.t 38, .t 37], none⟩]
def JuD : List COper := Jrx
instance : Reg JuD Jrx 7 := ⟨rfl, rfl⟩
@[simp] def Jxd : List COper := [
  om 16 6, oq 17 (.bin .add) [.t 16, .c (.int .i64 1)], om 6 17]
def Jz7 : List COper := Jxd
instance : Reg Jz7 Jxd 3 := ⟨rfl, rfl⟩
@[simp] def Js2 : List COper := [
  om 39 0, oq 40 (.call Jj) [.t 39],
  ⟨(some 41), .not, [.t 40], none⟩]
def JrO : List COper := Js2
instance : Reg JrO Js2 3 := ⟨rfl, rfl⟩
@[simp] def JrA : List COper := [
  oq 42 (.build [.v (.int .i64 0), .v (.slice none 0 0)] []) [],
  ⟨none, .store true 2, [.t 2, .t 42], none⟩]
def JuN : List COper := JrA
instance : Reg JuN JrA 2 := ⟨rfl, rfl⟩
@[simp] def JsQ : List COper := [
  oq 43 (.load true 2) [.t 3],
  ⟨none, .store true 2, [.t 2, .t 43], none⟩]
def Jt5 : List COper := JsQ
instance : Reg Jt5 JsQ 2 := ⟨rfl, rfl⟩
@[simp] def JL5 : CCode :=
  .seq (.region Jyk none [0, 2]) (.seq (.region JAz none [0, 2, 3]) (.seq (.region Jy1 none [0, 2, 3, 4]) (.seq (.region Jv3 none [0, 2, 3, 4, 5]) (.seq (.seq (.region JzP none [0, 2, 3, 4, 5, 6]) (.block 0 (.loop (.seq (.seq (.region JwG none [0, 2, 3, 4, 5, 6, 15]) (.cond (.t 15) (.skip) (.exit 0))) (.seq (.block 1 (.seq (.region JyJ none [0, 2, 3, 4, 5, 6, 7]) (.seq (.region JwM none [0, 2, 3, 4, 6, 7]) (.seq (.region Jzu none [0, 2, 3, 4, 5, 6, 7]) (.seq (.region Js4 none [0, 2, 3, 4, 5, 6, 7]) (.seq (.region Js1 none [0, 2, 3, 4, 5, 6, 7]) (.region JuD none [0, 2, 3, 4, 5, 6]))))))) (.region Jz7 none [0, 2, 3, 4, 5, 6])))))) (.seq (.seq (.region JrO none [2, 3, 41]) (.cond (.t 41) (.seq (.region JuN none [2]) (.ret)) (.skip))) (.seq (.region Jt5 none [2]) (.ret)))))))
@[simp] def JKD : List CRes := [.cell 2 true 2]
theorem JLV : chkFn Tryd.prog Jvo JL5 JKD 1 = true := by kernel_rfl
@[simp] def JiH : List COper := [
  oq 1 .box [.t 0],
  ⟨(some 2), .mov, [.c (.bool false)], none⟩]
def Ji5 : List COper := JiH
instance : Reg Ji5 JiH 2 := ⟨rfl, rfl⟩
@[simp] def JiF : List COper := [
  oq 3 (.faddr 0 1 false) [.t 1], oq 4 (.load false 1) [.t 3], oq 5 (.bin .geq) [.t 4, .c (.int .i64 1)], om 6 5,
  ⟨(some 7), .faddr 0 1 false, [.t 1], (some (6, true))⟩,
  ⟨(some 8), .load false 1, [.t 7], (some (6, true))⟩,
  ⟨(some 9), .bin .leq, [.t 8, .c (.int .i64 63)], (some (6, true))⟩, oq 10 .pick [.t 6, .t 9, .c (.bool false)], om 11 10,
  ⟨(some 12), .faddr 1 33 true, [.t 1], (some (11, true))⟩,
  ⟨(some 13), .faddr 32 1 false, [.t 12], (some (11, true))⟩,
  ⟨(some 14), .load false 1, [.t 13], (some (11, true))⟩,
  ⟨(some 15), .bin .geq, [.t 14, .c (.int .i64 0)], (some (11, true))⟩, oq 16 .pick [.t 11, .t 15, .c (.bool false)], om 17 16,
  ⟨(some 18), .faddr 1 33 true, [.t 1], (some (17, true))⟩,
  ⟨(some 19), .faddr 32 1 false, [.t 18], (some (17, true))⟩,
  ⟨(some 20), .load false 1, [.t 19], (some (17, true))⟩,
  ⟨(some 21), .bin .leq, [.t 20, .c (.int .i64 6)], (some (17, true))⟩, oq 22 .pick [.t 17, .t 21, .c (.bool false)], om 2 22]
def Jjt : List COper := JiF
instance : Reg Jjt JiF 21 := ⟨rfl, rfl⟩
@[simp] def JEO : CCode :=
  .seq (.region Ji5 none [1]) (.seq (.region Jjt none [2]) (.ret))
@[simp] def JEN : List CRes := [.tmp 2]
theorem JEG : chkFn Tryd.prog Jg1 JEO JEN 1 = true := by kernel_rfl
@[simp] def JDw : List COper := [
  ⟨(some 2), .alloc (.arr 1 (rep 32 (.v (.int .u8 0)))), [], none⟩]
def JEs : List COper := JDw
instance : Reg JEs JDw 1 := ⟨rfl, rfl⟩
@[simp] def JEq : List COper := [
  oq 13 (.buildA 1 (rep 8 (.v (.int .u32 0))) (upTo 8)) [.c (.int .u32 1779033703), .c (.int .u32 3144134277), .c (.int .u32 1013904242), .c (.int .u32 2773480762), .c (.int .u32 1359893119), .c (.int .u32 2600822924), .c (.int .u32 528734635), .c (.int .u32 1541459225)], oq 3 (.alloc (.arr 1 (rep 8 (.v (.int .u32 0))))) [],
  ⟨none, .store true 8, [.t 3, .t 13], none⟩]
def JEf : List COper := JEq
instance : Reg JEf JEq 3 := ⟨rfl, rfl⟩
@[simp] def JDH : List COper := [
  ⟨(some 4), .alloc (.arr 1 (rep 64 (.v (.int .u8 0)))), [], none⟩]
def JDK : List COper := JDH
instance : Reg JDK JDH 1 := ⟨rfl, rfl⟩
@[simp] def JDD : List COper := [
  oq 5 .mov [.c (.int .i64 0)],
  ⟨(some 6), .mov, [.c (.int .i64 0)], none⟩]
def JDy : List COper := JDD
instance : Reg JDy JDD 2 := ⟨rfl, rfl⟩
@[simp] def JEu : List COper := [
  om 14 0, oq 15 .len [.t 14],
  ⟨(some 16), .mov, [.c (.int .i64 0)], none⟩]
def JDS : List COper := JEu
instance : Reg JDS JEu 3 := ⟨rfl, rfl⟩
@[simp] def JDC : List COper := [
  ⟨(some 17), .bin .lss, [.t 16, .t 15], none⟩]
def JDQ : List COper := JDC
instance : Reg JDQ JDC 1 := ⟨rfl, rfl⟩
@[simp] def JDE : List COper := [
  oq 18 (.iaddr 1) [.t 14, .t 16], oq 19 (.load false 1) [.t 18], om 8 19]
def JDv : List COper := JDE
instance : Reg JDv JDE 3 := ⟨rfl, rfl⟩
@[simp] def JDP : List COper := [
  om 20 5, om 21 8, oq 22 .len [.t 21], oq 23 (.bin .add) [.t 20, .t 22], om 5 23]
def JDN : List COper := JDP
instance : Reg JDN JDP 5 := ⟨rfl, rfl⟩
@[simp] def JDn : List COper := [
  om 24 8, oq 25 .len [.t 24],
  ⟨(some 26), .bin .gtr, [.t 25, .c (.int .i64 0)], none⟩]
def JD7 : List COper := JDn
instance : Reg JD7 JDn 3 := ⟨rfl, rfl⟩
@[simp] def JDq : List COper := [
  om 27 6, oq 28 (.sliceArr 64 1 true false) [.t 4, .t 27], om 29 8, oq 30 (.copy 1) [.t 28, .t 29], om 9 30]
def JD0 : List COper := JDq
instance : Reg JD0 JDq 5 := ⟨rfl, rfl⟩
@[simp] def JBx : List COper := [
  om 31 6, om 32 9, oq 33 (.bin .add) [.t 31, .t 32], om 34 8, om 35 9, oq 36 (.slice 1 true false) [.t 34, .t 35], om 6 33, om 8 36]
def JBH : List COper := JBx
instance : Reg JBH JBx 8 := ⟨rfl, rfl⟩
@[simp] def JBU : List COper := [
  om 37 6,
  ⟨(some 38), .bin .eql, [.t 37, .c (.int .i64 64)], none⟩]
def JCT : List COper := JBU
instance : Reg JCT JBU 2 := ⟨rfl, rfl⟩
@[simp] def JBK : List COper := [
  oq 39 (.sliceArr 64 1 false false) [.t 4],
  ⟨(some 40), .call JY, [.t 3, .t 39], none⟩]
def JCp : List COper := JBK
instance : Reg JCp JBK 2 := ⟨rfl, rfl⟩
@[simp] def JCg : List COper := [
  ⟨(some 6), .mov, [.c (.int .i64 0)], none⟩]
def JBO : List COper := JCg
instance : Reg JBO JCg 1 := ⟨rfl, rfl⟩
@[simp] def JB5 : List COper := [
  oq 41 (.bin .add) [.t 16, .c (.int .i64 1)], om 16 41]
def JCt : List COper := JB5
instance : Reg JCt JB5 2 := ⟨rfl, rfl⟩
@[simp] def JB1 : List COper := [
  om 42 6, oq 43 (.iaddrArr 64 1 false) [.t 4, .t 42],
  ⟨none, .store false 1, [.t 43, .c (.int .u8 128)], none⟩]
def JBv : List COper := JB1
instance : Reg JBv JB1 3 := ⟨rfl, rfl⟩
@[simp] def JCS : List COper := [
  om 44 6, oq 45 (.bin .add) [.t 44, .c (.int .i64 1)], oq 46 (.sliceArr 64 1 true false) [.t 4, .t 45],
  ⟨none, .clear 1 (.v (.int .u8 0)), [.t 46], none⟩]
def JCi : List COper := JCS
instance : Reg JCi JCS 4 := ⟨rfl, rfl⟩
@[simp] def JCW : List COper := [
  om 47 6,
  ⟨(some 48), .bin .geq, [.t 47, .c (.int .i64 56)], none⟩]
def JBE : List COper := JCW
instance : Reg JBE JCW 2 := ⟨rfl, rfl⟩
@[simp] def JBA : List COper := [
  oq 49 (.sliceArr 64 1 false false) [.t 4],
  ⟨(some 50), .call JY, [.t 3, .t 49], none⟩]
def JCG : List COper := JBA
instance : Reg JCG JBA 2 := ⟨rfl, rfl⟩
@[simp] def JCm : List COper := [
  oq 51 (.sliceArr 64 1 false false) [.t 4],
  ⟨none, .clear 1 (.v (.int .u8 0)), [.t 51], none⟩]
def JCO : List COper := JCm
instance : Reg JCO JCm 2 := ⟨rfl, rfl⟩
@[simp] def JCs : List COper := [
  ⟨(some 52), .mov, [.c (.int .i64 0)], none⟩]
def JBI : List COper := JCs
instance : Reg JBI JCs 1 := ⟨rfl, rfl⟩
@[simp] def JCl : List COper := [
  ⟨(some 53), .bin .lss, [.t 52, .c (.int .i64 8)], none⟩]
def JCa : List COper := JCl
instance : Reg JCa JCl 1 := ⟨rfl, rfl⟩
@[simp] def JCH : List COper := [
  om 54 52, om 10 54]
def JCL : List COper := JCH
instance : Reg JCL JCH 2 := ⟨rfl, rfl⟩
@[simp] def JB7 : List COper := [
  om 55 10, oq 56 (.bin .add) [.c (.int .i64 56), .t 55], om 57 5, oq 58 (.convI .u64) [.t 57], oq 59 (.bin .shl) [.t 58, .c (.int .u64 3)], om 60 10, oq 61 (.bin .mul) [.c (.int .i64 8), .t 60], oq 62 (.bin .sub) [.c (.int .i64 56), .t 61], oq 63 (.bin .shr) [.t 59, .t 62], oq 64 (.convI .u8) [.t 63], oq 65 (.iaddrArr 64 1 false) [.t 4, .t 56],
  ⟨none, .store false 1, [.t 65, .t 64], none⟩]
def JCZ : List COper := JB7
instance : Reg JCZ JB7 12 := ⟨rfl, rfl⟩
@[simp] def JCc : List COper := [
  oq 66 (.bin .add) [.t 52, .c (.int .i64 1)], om 52 66]
def JCx : List COper := JCc
instance : Reg JCx JCc 2 := ⟨rfl, rfl⟩
@[simp] def JCy : List COper := [
  oq 67 (.sliceArr 64 1 false false) [.t 4],
  ⟨(some 68), .call JY, [.t 3, .t 67], none⟩]
def JCk : List COper := JCy
instance : Reg JCk JCy 2 := ⟨rfl, rfl⟩
@[simp] def JBX : List COper := [
  ⟨(some 11), .alloc (.arr 1 (rep 32 (.v (.int .u8 0)))), [], none⟩]
def JCV : List COper := JBX
instance : Reg JCV JBX 1 := ⟨rfl, rfl⟩
@[simp] def JBC : List COper := [
  ⟨(some 69), .mov, [.c (.int .i64 0)], none⟩]
def JCE : List COper := JBC
instance : Reg JCE JBC 1 := ⟨rfl, rfl⟩
@[simp] def JCh : List COper := [
  ⟨(some 70), .bin .lss, [.t 69, .c (.int .i64 32)], none⟩]
def JBJ : List COper := JCh
instance : Reg JBJ JCh 1 := ⟨rfl, rfl⟩
@[simp] def JCu : List COper := [
  om 71 69, om 12 71]
def JCn : List COper := JCu
instance : Reg JCn JCu 2 := ⟨rfl, rfl⟩
@[simp] def JB0 : List COper := [
  om 72 12, om 73 12, oq 74 (.bin .quo) [.t 73, .c (.int .i64 4)], oq 75 (.iaddrArr 8 1 false) [.t 3, .t 74], oq 76 (.load false 1) [.t 75], om 77 12, oq 78 (.bin .rem) [.t 77, .c (.int .i64 4)], oq 79 (.bin .mul) [.c (.int .i64 8), .t 78], oq 80 (.bin .sub) [.c (.int .i64 24), .t 79], oq 81 (.bin .shr) [.t 76, .t 80], oq 82 (.convI .u8) [.t 81], oq 83 (.iaddrArr 32 1 false) [.t 11, .t 72],
  ⟨none, .store false 1, [.t 83, .t 82], none⟩]
def JBy : List COper := JB0
instance : Reg JBy JB0 13 := ⟨rfl, rfl⟩
@[simp] def JBG : List COper := [
  oq 84 (.bin .add) [.t 69, .c (.int .i64 1)], om 69 84]
def JBL : List COper := JBG
instance : Reg JBL JBG 2 := ⟨rfl, rfl⟩
@[simp] def JCF : List COper := [
  oq 85 (.load true 32) [.t 11],
  ⟨none, .store true 32, [.t 2, .t 85], none⟩]
def JCv : List COper := JCF
instance : Reg JCv JCF 2 := ⟨rfl, rfl⟩
@[simp] def JPR : CCode :=
  .seq (.region JEs none [0, 2]) (.seq (.region JEf none [0, 2, 3]) (.seq (.region JDK none [0, 2, 3, 4]) (.seq (.region JDy none [0, 2, 3, 4, 5, 6]) (.seq (.seq (.region JDS none [2, 3, 4, 5, 6, 14, 15, 16]) (.block 0 (.loop (.seq (.region JDQ none [2, 3, 4, 5, 6, 14, 15, 16, 17]) (.seq (.cond (.t 17) (.skip) (.exit 0)) (.seq (.block 1 (.seq (.region JDv none [2, 3, 4, 5, 6, 8, 14, 15, 16]) (.seq (.region JDN none [2, 3, 4, 5, 6, 8, 14, 15, 16]) (.block 2 (.loop (.seq (.seq (.region JD7 none [2, 3, 4, 5, 6, 8, 14, 15, 16, 26]) (.cond (.t 26) (.skip) (.exit 2))) (.block 3 (.seq (.region JD0 none [2, 3, 4, 5, 6, 8, 9, 14, 15, 16]) (.seq (.region JBH (some ([0, 0, 3, 0, 0, 24, 7, 127], [])) [2, 3, 4, 5, 6, 8, 14, 15, 16]) (.seq (.region JCT none [2, 3, 4, 5, 6, 8, 14, 15, 16, 38]) (.cond (.t 38) (.seq (.region JCp none [2, 3, 4, 5, 8, 14, 15, 16]) (.region JBO none [2, 3, 4, 5, 6, 8, 14, 15, 16])) (.skip)))))))))))) (.region JCt none [2, 3, 4, 5, 6, 14, 15, 16]))))))) (.seq (.region JBv none [2, 3, 4, 5, 6]) (.seq (.region JCi none [2, 3, 4, 5, 6]) (.seq (.seq (.region JBE none [2, 3, 4, 5, 48]) (.cond (.t 48) (.seq (.region JCG none [2, 3, 4, 5]) (.region JCO none [2, 3, 4, 5])) (.skip))) (.seq (.seq (.region JBI none [2, 3, 4, 5, 52]) (.block 4 (.loop (.seq (.region JCa none [2, 3, 4, 5, 52, 53]) (.seq (.cond (.t 53) (.skip) (.exit 4)) (.seq (.block 5 (.seq (.region JCL none [2, 3, 4, 5, 10, 52]) (.region JCZ none [2, 3, 4, 5, 52]))) (.region JCx none [2, 3, 4, 5, 52]))))))) (.seq (.region JCk none [2, 3]) (.seq (.region JCV none [2, 3, 11]) (.seq (.seq (.region JCE none [2, 3, 11, 69]) (.block 6 (.loop (.seq (.region JBJ none [2, 3, 11, 69, 70]) (.seq (.cond (.t 70) (.skip) (.exit 6)) (.seq (.block 7 (.seq (.region JCn none [2, 3, 11, 12, 69]) (.region JBy none [2, 3, 11, 69]))) (.region JBL none [2, 3, 11, 69]))))))) (.seq (.region JCv none [2]) (.ret)))))))))))))
@[simp] def JPr : List CRes := [.cell 2 true 32]
theorem JPX : chkFn Tryd.prog JbG JPR JPr 1 = true := by kernel_rfl
@[simp] def Jr8 : List COper := [
  oq 1 .box [.t 0],
  ⟨(some 2), .alloc (.arr 1 (rep 32 (.v (.int .u8 0)))), [], none⟩]
def JsD : List COper := Jr8
instance : Reg JsD Jr8 2 := ⟨rfl, rfl⟩
@[simp] def Jva : List COper := [
  oq 3 (.sliceArr 32 1 false false) [.t 1], oq 4 (.call Jpz) [.t 3],
  ⟨none, .store true 32, [.t 2, .t 4], none⟩]
def JuA : List COper := Jva
instance : Reg JuA Jva 3 := ⟨rfl, rfl⟩
@[simp] def JIs : CCode :=
  .seq (.region JsD none [1, 2]) (.seq (.region JuA none [2]) (.ret))
@[simp] def JI5 : List CRes := [.cell 2 true 32]
theorem JJn : chkFn Tryd.prog Jmf JIs JI5 1 = true := by kernel_rfl
@[simp] def Jso : List COper := [
  ⟨(some 3), .box, [.t 1], none⟩]
def Jsg : List COper := Jso
instance : Reg Jsg Jso 1 := ⟨rfl, rfl⟩
@[simp] def Jr1 : List COper := [
  om 4 0, oq 5 (.faddr 0 1 false) [.t 3], oq 6 (.load false 1) [.t 5], oq 7 (.faddr 1 1 false) [.t 3], oq 8 (.load false 1) [.t 7], oq 9 (.faddr 2 1 false) [.t 3], oq 10 (.load false 1) [.t 9], oq 11 (.faddr 3 1 false) [.t 3], oq 12 (.load false 1) [.t 11], oq 13 (.faddr 36 1 false) [.t 3], oq 14 (.load false 1) [.t 13], oq 15 (.bslice 1 5 (.v (.int .i64 0)) [0, 1, 2, 3, 4]) [.t 6, .t 8, .t 10, .t 12, .t 14],
  ⟨(some 16), .call Jm, [.t 4, .t 15], none⟩]
def Juz : List COper := Jr1
instance : Reg Juz Jr1 13 := ⟨rfl, rfl⟩
@[simp] def Jur : List COper := [
  om 17 0, oq 18 (.faddr 4 32 true) [.t 3], oq 19 (.load true 32) [.t 18], oq 20 (.bslice 32 1 (.arr 1 (rep 32 (.v (.int .u8 0)))) [0]) [.t 19],
  ⟨(some 21), .call Jl, [.t 17, .t 20], none⟩]
def Jrh : List COper := Jur
instance : Reg Jrh Jur 5 := ⟨rfl, rfl⟩
@[simp] def JIX : CCode :=
  .seq (.region Jsg none [0, 3]) (.seq (.region Juz none [0, 3]) (.region Jrh none []))
@[simp] def JJL : List CRes := []
theorem JJu : chkFn Tryd.prog JhU JIX JJL 2 = true := by kernel_rfl
@[simp] def JjL : List COper := [
  oq 1 .box [.t 0],
  ⟨(some 2), .mov, [.c (.bool false)], none⟩]
def Jjl : List COper := JjL
instance : Reg Jjl JjL 2 := ⟨rfl, rfl⟩
@[simp] def Jjf : List COper := [
  oq 4 (.faddr 2 40 true) [.t 1], oq 5 (.load true 40) [.t 4], oq 3 (.alloc (.node [.v (.int .i64 0), .v (.string (mkS [])), .v (.string (mkS [])), .v (.string (mkS [])), .node [.v (.int .i64 0), .v (.int .i64 0), .v (.int .i64 0), .node [.arr 1 (rep 32 (.v (.int .u8 0))), .v (.int .i64 0)]]])) [],
  ⟨none, .store true 40, [.t 3, .t 5], none⟩]
def JiB : List COper := Jjf
instance : Reg JiB Jjf 4 := ⟨rfl, rfl⟩
@[simp] def Ji8 : List COper := [
  oq 6 (.faddr 0 1 false) [.t 1], oq 7 (.load false 1) [.t 6], oq 8 (.bin .geq) [.t 7, .c (.int .i64 1)], om 9 8,
  ⟨(some 10), .faddr 0 1 false, [.t 1], (some (9, true))⟩,
  ⟨(some 11), .load false 1, [.t 10], (some (9, true))⟩,
  ⟨(some 12), .bin .leq, [.t 11, .c (.int .i64 64)], (some (9, true))⟩, oq 13 .pick [.t 9, .t 12, .c (.bool false)], om 14 13,
  ⟨(some 15), .faddr 1 1 false, [.t 1], (some (14, true))⟩,
  ⟨(some 16), .load false 1, [.t 15], (some (14, true))⟩,
  ⟨(some 17), .bin .geq, [.t 16, .c (.int .i64 1)], (some (14, true))⟩, oq 18 .pick [.t 14, .t 17, .c (.bool false)], om 19 18,
  ⟨(some 20), .faddr 1 1 false, [.t 1], (some (19, true))⟩,
  ⟨(some 21), .load false 1, [.t 20], (some (19, true))⟩,
  ⟨(some 22), .bin .leq, [.t 21, .c (.int .i64 1099511627776)], (some (19, true))⟩, oq 23 .pick [.t 19, .t 22, .c (.bool false)], om 24 23,
  ⟨(some 25), .faddr 0 1 false, [.t 3], (some (24, true))⟩,
  ⟨(some 26), .load false 1, [.t 25], (some (24, true))⟩,
  ⟨(some 27), .bin .geq, [.t 26, .c (.int .i64 1)], (some (24, true))⟩, oq 28 .pick [.t 24, .t 27, .c (.bool false)], om 29 28,
  ⟨(some 30), .faddr 0 1 false, [.t 3], (some (29, true))⟩,
  ⟨(some 31), .load false 1, [.t 30], (some (29, true))⟩,
  ⟨(some 32), .bin .leq, [.t 31, .c (.int .i64 7)], (some (29, true))⟩, oq 33 .pick [.t 29, .t 32, .c (.bool false)], om 34 33,
  ⟨(some 35), .faddr 1 1 false, [.t 3], (some (34, true))⟩,
  ⟨(some 36), .load false 1, [.t 35], (some (34, true))⟩,
  ⟨(some 37), .faddr 2 1 false, [.t 3], (some (34, true))⟩,
  ⟨(some 38), .load false 1, [.t 37], (some (34, true))⟩,
  ⟨(some 39), .faddr 3 1 false, [.t 3], (some (34, true))⟩,
  ⟨(some 40), .load false 1, [.t 39], (some (34, true))⟩,
  ⟨(some 41), .bslice 1 3 (.v (.string (mkS []))) [0, 1, 2], [.t 36, .t 38, .t 40], (some (34, true))⟩,
  ⟨(some 42), .call Jen, [.t 41], (some (34, true))⟩, oq 43 .pick [.t 34, .t 42, .c (.bool false)], om 2 43]
def Jji : List COper := Ji8
instance : Reg Jji Ji8 39 := ⟨rfl, rfl⟩
@[simp] def JEE : CCode :=
  .seq (.region Jjl none [1]) (.seq (.region JiB none [1, 3]) (.seq (.region Jji none [2]) (.ret)))
@[simp] def JEJ : List CRes := [.tmp 2]
theorem JET : chkFn Tryd.prog Jg9 JEE JEJ 1 = true := by kernel_rfl
@[simp] def Jsi : List COper := [
  oq 1 .box [.t 0],
  ⟨(some 2), .mov, [.c (.bool false)], none⟩]
def Jrc : List COper := Jsi
instance : Reg Jrc Jsi 2 := ⟨rfl, rfl⟩
@[simp] def Juw : List COper := [
  oq 3 (.faddr 0 1 false) [.t 1], oq 4 (.load false 1) [.t 3], oq 5 (.bin .geq) [.t 4, .c (.int .i64 1)], om 6 5,
  ⟨(some 7), .faddr 0 1 false, [.t 1], (some (6, true))⟩,
  ⟨(some 8), .load false 1, [.t 7], (some (6, true))⟩,
  ⟨(some 9), .bin .leq, [.t 8, .c (.int .i64 2)], (some (6, true))⟩, oq 10 .pick [.t 6, .t 9, .c (.bool false)], om 11 10,
  ⟨(some 12), .faddr 1 1 false, [.t 1], (some (11, true))⟩,
  ⟨(some 13), .load false 1, [.t 12], (some (11, true))⟩,
  ⟨(some 14), .bin .geq, [.t 13, .c (.int .i64 0)], (some (11, true))⟩, oq 15 .pick [.t 11, .t 14, .c (.bool false)], om 16 15,
  ⟨(some 17), .faddr 1 1 false, [.t 1], (some (16, true))⟩,
  ⟨(some 18), .load false 1, [.t 17], (some (16, true))⟩,
  ⟨(some 19), .bin .leq, [.t 18, .c (.int .i64 1073741824)], (some (16, true))⟩, oq 20 .pick [.t 16, .t 19, .c (.bool false)], om 21 20,
  ⟨(some 22), .faddr 2 1 false, [.t 1], (some (21, true))⟩,
  ⟨(some 23), .load false 1, [.t 22], (some (21, true))⟩,
  ⟨(some 24), .bin .geq, [.t 23, .c (.int .i64 1)], (some (21, true))⟩, oq 25 .pick [.t 21, .t 24, .c (.bool false)], om 26 25,
  ⟨(some 27), .faddr 2 1 false, [.t 1], (some (26, true))⟩,
  ⟨(some 28), .load false 1, [.t 27], (some (26, true))⟩,
  ⟨(some 29), .bin .leq, [.t 28, .c (.int .i64 1024)], (some (26, true))⟩, oq 30 .pick [.t 26, .t 29, .c (.bool false)], om 31 30,
  ⟨(some 32), .faddr 3 1 false, [.t 1], (some (31, true))⟩,
  ⟨(some 33), .load false 1, [.t 32], (some (31, true))⟩,
  ⟨(some 34), .bin .geq, [.t 33, .c (.int .i64 0)], (some (31, true))⟩, oq 35 .pick [.t 31, .t 34, .c (.bool false)], om 36 35,
  ⟨(some 37), .faddr 3 1 false, [.t 1], (some (36, true))⟩,
  ⟨(some 38), .load false 1, [.t 37], (some (36, true))⟩,
  ⟨(some 39), .bin .leq, [.t 38, .c (.int .i64 1024)], (some (36, true))⟩, oq 40 .pick [.t 36, .t 39, .c (.bool false)], om 41 40,
  ⟨(some 42), .faddr 36 1 false, [.t 1], (some (41, true))⟩,
  ⟨(some 43), .load false 1, [.t 42], (some (41, true))⟩,
  ⟨(some 44), .bin .geq, [.t 43, .c (.int .i64 1)], (some (41, true))⟩, oq 45 .pick [.t 41, .t 44, .c (.bool false)], om 46 45,
  ⟨(some 47), .faddr 36 1 false, [.t 1], (some (46, true))⟩,
  ⟨(some 48), .load false 1, [.t 47], (some (46, true))⟩,
  ⟨(some 49), .bin .leq, [.t 48, .c (.int .i64 63)], (some (46, true))⟩, oq 50 .pick [.t 46, .t 49, .c (.bool false)], om 2 50]
def JsK : List COper := Juw
instance : Reg JsK Juw 49 := ⟨rfl, rfl⟩
@[simp] def JJo : CCode :=
  .seq (.region Jrc none [1]) (.seq (.region JsK none [2]) (.ret))
@[simp] def JII : List CRes := [.tmp 2]
theorem JJm : chkFn Tryd.prog Jqh JJo JII 1 = true := by kernel_rfl
@[simp] def Jmx : List COper := [
  oq 3 .box [.t 0], oq 4 .box [.t 1], oq 5 .box [.t 2],
  ⟨(some 6), .mov, [.c (.bool false)], none⟩]
def Jpv : List COper := Jmx
instance : Reg Jpv Jmx 4 := ⟨rfl, rfl⟩
@[simp] def Jqq : List COper := [
  oq 10 (.load true 32) [.t 4], oq 11 (.faddr 1 2 true) [.t 5], oq 12 (.load true 2) [.t 11], oq 13 (.call JqB) [.t 10, .t 12], om 9 13, oq 14 (.ext 0) [.t 9], oq 15 (.ext 1) [.t 9], oq 7 (.alloc (.arr 1 (rep 32 (.v (.int .u8 0))))) [],
  ⟨none, .store true 32, [.t 7, .t 14], none⟩, om 8 15]
def Joq : List COper := Jqq
instance : Reg Joq Jqq 10 := ⟨rfl, rfl⟩
@[simp] def Jpn : List COper := [
  om 16 8, om 17 16,
  ⟨(some 18), .faddr 32 1 false, [.t 3], (some (17, true))⟩,
  ⟨(some 19), .load false 1, [.t 18], (some (17, true))⟩,
  ⟨(some 20), .bin .geq, [.t 19, .c (.int .i64 0)], (some (17, true))⟩, oq 21 .pick [.t 17, .t 20, .c (.bool false)], om 22 21,
  ⟨(some 23), .faddr 32 1 false, [.t 3], (some (22, true))⟩,
  ⟨(some 24), .load false 1, [.t 23], (some (22, true))⟩,
  ⟨(some 25), .bin .leq, [.t 24, .c (.int .i64 6)], (some (22, true))⟩, oq 26 .pick [.t 22, .t 25, .c (.bool false)], om 27 26,
  ⟨(some 28), .faddr 0 32 true, [.t 3], (some (27, true))⟩,
  ⟨(some 29), .load true 32, [.t 28], (some (27, true))⟩,
  ⟨(some 30), .load true 32, [.t 7], (some (27, true))⟩,
  ⟨(some 31), .call Jmf, [.t 30], (some (27, true))⟩,
  ⟨(some 32), .faddr 0 1 false, [.t 5], (some (27, true))⟩,
  ⟨(some 33), .load false 1, [.t 32], (some (27, true))⟩,
  ⟨(some 34), .faddr 32 1 false, [.t 3], (some (27, true))⟩,
  ⟨(some 35), .load false 1, [.t 34], (some (27, true))⟩,
  ⟨(some 36), .bin .shl, [.c (.int .i64 1), .t 35], (some (27, true))⟩,
  ⟨(some 37), .faddr 3 1 false, [.t 5], (some (27, true))⟩,
  ⟨(some 38), .load false 1, [.t 37], (some (27, true))⟩,
  ⟨(some 39), .call Jgv, [.t 29, .t 31, .t 33, .t 36, .t 38], (some (27, true))⟩, oq 40 .pick [.t 27, .t 39, .c (.bool false)], om 6 40]
def JmR : List COper := Jpn
instance : Reg JmR Jpn 26 := ⟨rfl, rfl⟩
@[simp] def JGR : CCode :=
  .seq (.region Jpv none [3, 4, 5]) (.seq (.region Joq none [3, 5, 7, 8]) (.seq (.region JmR (some ([0, 1, 3, 7, 15, 31, 63, 127, 255, 511, 1023, 2047, 4095, 8191, 4095, 20479, 4095, 69631, 4095, 266239, 790527, 4095, 2101247, 8388607, 16777215, 33554431], [(13, 15), (15, 17), (15, 19), (15, 22)])) [6]) (.ret)))
@[simp] def JG4 : List CRes := [.tmp 6]
theorem JHx : chkFn Tryd.prog JjZ JGR JG4 3 = true := by kernel_rfl
@[simp] def JwR : List COper := [
  oq 2 .box [.t 0], oq 3 .box [.t 1],
  ⟨(some 4), .mov, [.c (.bool false)], none⟩]
def Jw7 : List COper := JwR
instance : Reg Jw7 JwR 3 := ⟨rfl, rfl⟩
@[simp] def JAx : List COper := [
  oq 5 (.faddr 0 1 false) [.t 2], oq 6 (.load false 1) [.t 5], oq 7 (.faddr 0 1 false) [.t 3], oq 8 (.load false 1) [.t 7], oq 9 (.bin .eql) [.t 6, .t 8], om 10 9,
  ⟨(some 11), .faddr 1 2 true, [.t 2], (some (10, true))⟩,
  ⟨(some 12), .load true 2, [.t 11], (some (10, true))⟩,
  ⟨(some 13), .faddr 1 2 true, [.t 3], (some (10, true))⟩,
  ⟨(some 14), .load true 2, [.t 13], (some (10, true))⟩,
  ⟨(some 15), .call Jvh, [.t 12, .t 14], (some (10, true))⟩, oq 16 .pick [.t 10, .t 15, .c (.bool false)], om 17 16,
  ⟨(some 18), .faddr 3 1 false, [.t 2], (some (17, true))⟩,
  ⟨(some 19), .load false 1, [.t 18], (some (17, true))⟩,
  ⟨(some 20), .faddr 3 1 false, [.t 3], (some (17, true))⟩,
  ⟨(some 21), .load false 1, [.t 20], (some (17, true))⟩,
  ⟨(some 22), .call Jg8, [.t 19, .t 21], (some (17, true))⟩, oq 23 .pick [.t 17, .t 22, .c (.bool false)], om 4 23]
def Jy7 : List COper := JAx
instance : Reg Jy7 JAx 20 := ⟨rfl, rfl⟩
@[simp] def JKo : CCode :=
  .seq (.region Jw7 none [2, 3]) (.seq (.region Jy7 none [4]) (.ret))
@[simp] def JL0 : List CRes := [.tmp 4]
theorem JL6 : chkFn Tryd.prog JjQ JKo JL0 2 = true := by kernel_rfl
@[simp] def Jpy : List COper := [
  oq 3 .box [.t 1],
  ⟨(some 4), .mov, [.c (.bool false)], none⟩]
def Jo6 : List COper := Jpy
instance : Reg Jo6 Jpy 2 := ⟨rfl, rfl⟩
@[simp] def Jp9 : List COper := [
  oq 5 (.faddr 1 2 true) [.t 3], oq 6 (.faddr 0 1 false) [.t 5], oq 7 (.load false 1) [.t 6], oq 8 .len [.t 7], oq 9 (.bin .neq) [.t 8, .c (.int .i64 32)], om 10 9,
  ⟨(some 11), .faddr 1 2 true, [.t 3], (some (10, false))⟩,
  ⟨(some 12), .faddr 1 1 false, [.t 11], (some (10, false))⟩,
  ⟨(some 13), .load false 1, [.t 12], (some (10, false))⟩,
  ⟨(some 14), .len, [.t 13], (some (10, false))⟩,
  ⟨(some 15), .bin .neq, [.t 14, .c (.int .i64 32)], (some (10, false))⟩, oq 16 .pick [.t 10, .c (.bool true), .t 15], om 17 16,
  ⟨(some 18), .faddr 3 1 false, [.t 3], (some (17, false))⟩,
  ⟨(some 19), .load false 1, [.t 18], (some (17, false))⟩,
  ⟨(some 20), .len, [.t 19], (some (17, false))⟩,
  ⟨(some 21), .bin .gtr, [.t 20, .c (.int .i64 6)], (some (17, false))⟩,
  ⟨(some 22), .pick, [.t 17, .c (.bool true), .t 21], none⟩]
def JoD : List COper := Jp9
instance : Reg JoD Jp9 18 := ⟨rfl, rfl⟩
@[simp] def Jpr : List COper := [
  ⟨(some 4), .mov, [.c (.bool false)], none⟩]
def JnG : List COper := Jpr
instance : Reg JnG Jpr 1 := ⟨rfl, rfl⟩
@[simp] def JnN : List COper := [
  om 23 0, oq 24 (.faddr 0 1 false) [.t 3], oq 25 (.load false 1) [.t 24], oq 26 (.faddr 3 1 false) [.t 3], oq 27 (.load false 1) [.t 26], oq 28 .len [.t 27], oq 29 (.bslice 1 2 (.v (.int .i64 0)) [0, 1]) [.t 25, .t 28],
  ⟨(some 30), .call Jm, [.t 23, .t 29], none⟩]
def Jmk : List COper := JnN
instance : Reg Jmk JnN 8 := ⟨rfl, rfl⟩
@[simp] def JmK : List COper := [
  om 31 0, oq 32 (.faddr 1 2 true) [.t 3], oq 33 (.faddr 0 1 false) [.t 32], oq 34 (.load false 1) [.t 33],
  ⟨(some 35), .call Jl, [.t 31, .t 34], none⟩]
def JnT : List COper := JmK
instance : Reg JnT JmK 5 := ⟨rfl, rfl⟩
@[simp] def JoO : List COper := [
  om 36 0, oq 37 (.faddr 1 2 true) [.t 3], oq 38 (.faddr 1 1 false) [.t 37], oq 39 (.load false 1) [.t 38],
  ⟨(some 40), .call Jl, [.t 36, .t 39], none⟩]
def JmN : List COper := JoO
instance : Reg JmN JoO 5 := ⟨rfl, rfl⟩
@[simp] def Jnf : List COper := [
  om 41 0, oq 42 (.faddr 3 1 false) [.t 3], oq 43 (.load false 1) [.t 42],
  ⟨(some 44), .call Jl, [.t 41, .t 43], none⟩]
def Jn3 : List COper := Jnf
instance : Reg Jn3 Jnf 4 := ⟨rfl, rfl⟩
@[simp] def Jnu : List COper := [
  ⟨(some 4), .mov, [.c (.bool true)], none⟩]
def Jnv : List COper := Jnu
instance : Reg Jnv Jnu 1 := ⟨rfl, rfl⟩
@[simp] def JGO : CCode :=
  .seq (.region Jo6 none [0, 3]) (.seq (.seq (.region JoD none [0, 3, 22]) (.cond (.t 22) (.seq (.region JnG none [4]) (.ret)) (.skip))) (.seq (.region Jmk none [0, 3]) (.seq (.region JnT none [0, 3]) (.seq (.region JmN none [0, 3]) (.seq (.region Jn3 none []) (.seq (.region Jnv none [4]) (.ret)))))))
@[simp] def JHa : List CRes := [.tmp 4]
theorem JC0 : chkFn Tryd.prog JbK JGO JHa 2 = true := by kernel_rfl
end Go.Proofs.YtjlmpdbagmdbiaaDoor.WL
