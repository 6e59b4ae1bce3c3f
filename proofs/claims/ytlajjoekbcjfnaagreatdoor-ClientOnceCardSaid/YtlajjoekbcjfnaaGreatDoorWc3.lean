
import Derived.Test.YtlajjoekbcjfnaaGreatDoorWc2
namespace Go.Proofs.YtlajjoekbcjfnaaGreatDoor.WL
set_option linter.all false
open Go
@[simp] def JvO : Yo := [Yg 5 .box [.t 0], Yg 6 .box [.t 1], Yb 10 (.bool false)]
def Jyi := JvO
instance : Reg Jyi JvO 3 := ⟨rfl, rfl⟩
@[simp] def Jxx : Yo := [Ya 12 2, Yg 13 (.bin .lss) [.t 12, Yz 0], Ya 14 13, Yk 15 2 14 false, Yk 16 3 14 false, Yn 17 (.bin .geq) [.t 15, .t 16] 14 false, Yg 18 .pick [.t 14, .c (.bool true), .t 17]]
def Ju2 := Jxx
instance : Reg Ju2 Jxx 7 := ⟨rfl, rfl⟩
@[simp] def Jx8 : Yo := [Yb 10 (.bool false)]
def JwJ := Jx8
instance : Reg JwJ Jx8 1 := ⟨rfl, rfl⟩
@[simp] def JvK : Yo := [Ya 19 3, Yg 20 (.bin .gtr) [.t 19, Yz 1]]
def JyG := JvK
instance : Reg JyG JvK 2 := ⟨rfl, rfl⟩
@[simp] def JvF : Yo := [Ya 27 2, Yg 28 (.bin .xor) [.t 27, Yz 1], Ya 11 28]
def JuM := JvF
instance : Reg JuM JvF 3 := ⟨rfl, rfl⟩
@[simp] def JtR : Yo := [Ya 29 11, Ya 30 3, Yg 31 (.bin .geq) [.t 29, .t 30]]
def Juw := JtR
instance : Reg Juw JtR 3 := ⟨rfl, rfl⟩
@[simp] def JyJ : Yo := [Ya 32 4, Yg 33 .len [.t 32], Yg 34 (.bin .eql) [.t 33, Yz 0]]
def Jzq := JyJ
instance : Reg Jzq JyJ 3 := ⟨rfl, rfl⟩
@[simp] def Jzo : Yo := [Yb 10 (.bool false)]
def JtZ := Jzo
instance : Reg JtZ Jzo 1 := ⟨rfl, rfl⟩
@[simp] def JtW : Yo := [Ya 35 11, Ya 36 2, Yg 37 (.bin .lss) [.t 35, .t 36]]
def Jwj := JtW
instance : Reg Jwj JtW 3 := ⟨rfl, rfl⟩
@[simp] def JsE : Yo := [Ya 38 4, Yg 39 (.iaddr 32) [.t 38, Yz 0], Yc 40 32 39, Yc 41 32 6, Yg 42 (.call Jkw) [.c (.int .u8 1), .t 40, .t 41], Yh 32 [.t 6, .t 42]]
def JpR := JsE
instance : Reg JpR JsE 6 := ⟨rfl, rfl⟩
@[simp] def JpM : Yo := [Yc 43 32 6, Ya 44 4, Yg 45 (.iaddr 32) [.t 44, Yz 0], Yc 46 32 45, Yg 47 (.call Jkw) [.c (.int .u8 1), .t 43, .t 46], Yh 32 [.t 6, .t 47]]
def JsY := JpM
instance : Reg JsY JpM 6 := ⟨rfl, rfl⟩
@[simp] def JrJ : Yo := [Ya 48 4, Yg 49 (.slice 32 true false) [.t 48, Yz 1], Ya 4 49]
def Jqh := JrJ
instance : Reg Jqh JrJ 3 := ⟨rfl, rfl⟩
@[simp] def Jvp : Yo := [Ya 21 2, Yg 22 (.bin .quo) [.t 21, Yz 2], Ya 23 3, Yg 24 (.bin .sub) [.t 23, Yz 1], Yg 25 (.bin .quo) [.t 24, Yz 2], Yg 26 (.bin .add) [.t 25, Yz 1], Ya 2 22, Ya 3 26]
def Jyc := Jvp
instance : Reg Jyc Jvp 8 := ⟨rfl, rfl⟩
@[simp] def Jss : Yo := [Ya 50 4, Yg 51 .len [.t 50], Yg 52 (.bin .eql) [.t 51, Yz 0], Ya 53 52, Yn 54 (.load true 32) [.t 6] 53 true, Yn 55 (.load true 32) [.t 5] 53 true, Yn 56 (.eqa false .u8 32) [.t 54, .t 55] 53 true, Yg 57 .pick [.t 53, .t 56, .c (.bool false)], Ya 10 57]
def JqY := Jss
instance : Reg JqY Jss 9 := ⟨rfl, rfl⟩
@[simp] def JRO : CCode :=
  .seq (Yr Jyi [2, 3, 4, 5, 6]) (.seq (.seq (Yr Ju2 [2, 3, 4, 5, 6, 18]) (.cond (.t 18) (.seq (Yr JwJ [10]) .ret) .skip)) (.seq (.block 0 (.loop (.seq (.seq (Yr JyG [2, 3, 4, 5, 6, 20]) (.cond (.t 20) .skip (.exit 0))) (.seq (.block 1 (.seq (Yr JuM [2, 3, 4, 5, 6, 11]) (.seq (.seq (Yr Juw [2, 3, 4, 5, 6, 11, 31]) (.cond (.t 31) (.exit 1) .skip)) (.seq (.seq (Yr Jzq [2, 3, 4, 5, 6, 11, 34]) (.cond (.t 34) (.seq (Yr JtZ [10]) .ret) .skip)) (.seq (.seq (Yr Jwj [2, 3, 4, 5, 6, 37]) (.cond (.t 37) (.region JpR (some ([0, 1, 3, 0, 15, 31], [])) [2, 3, 4, 5, 6]) (.region JsY (some ([0, 0, 2, 6, 15, 31], [])) [2, 3, 4, 5, 6]))) (Yr Jqh [2, 3, 4, 5, 6])))))) (Yr Jyc [2, 3, 4, 5, 6]))))) (.seq (Yr JqY [10]) .ret)))
@[simp] def JQc : List CRes := [.tmp 10]
theorem JLf : chkFn Tryz.prog JiY JRO JQc 5 = true := by kernel_rfl
@[simp] def JCy : Yo := [Yg 1 .box [.t 0], Yg 2 (.alloc Yw) []]
def JAX := JCy
instance : Reg JAX JCy 2 := ⟨rfl, rfl⟩
@[simp] def JB9 : Yo := [Yg 3 (.sliceArr 32 1 false false) [.t 1], Yg 4 (.call Jws) [.t 3], Yh 32 [.t 2, .t 4]]
def JBX := JB9
instance : Reg JBX JB9 3 := ⟨rfl, rfl⟩
@[simp] def JSo : CCode :=
  .seq (Yr JAX [1, 2]) (.seq (Yr JBX [2]) .ret)
@[simp] def JS3 : List CRes := [.cell 2 true 32]
theorem JTh : chkFn Tryz.prog Jyv JSo JS3 1 = true := by kernel_rfl
@[simp] def JIB : Yo := [Yb 2 (.int .u32 0)]
def JFR := JIB
instance : Reg JFR JIB 1 := ⟨rfl, rfl⟩
@[simp] def JIW : Yo := [Ya 3 0, Yg 4 (.iaddr 1) [.t 3, Yz 0], Yd 5 1 4, Yg 6 (.convI .u32) [.t 5], Yg 7 (.bin .shl) [.t 6, .c (.int .u64 24)], Ya 8 0, Yg 9 (.iaddr 1) [.t 8, Yz 1], Yd 10 1 9, Yg 11 (.convI .u32) [.t 10], Yg 12 (.bin .shl) [.t 11, .c (.int .u64 16)], Yg 13 (.bin .or) [.t 7, .t 12], Ya 14 0, Yg 15 (.iaddr 1) [.t 14, Yz 2], Yd 16 1 15, Yg 17 (.convI .u32) [.t 16], Yg 18 (.bin .shl) [.t 17, .c (.int .u64 8)], Yg 19 (.bin .or) [.t 13, .t 18], Ya 20 0, Yg 21 (.iaddr 1) [.t 20, Yz 3], Yd 22 1 21, Yg 23 (.convI .u32) [.t 22], Yg 24 (.bin .or) [.t 19, .t 23], Ya 2 24]
def JGZ := JIW
instance : Reg JGZ JIW 23 := ⟨rfl, rfl⟩
@[simp] def JVa : CCode :=
  .seq (Yr JFR [0]) (.seq (.region JGZ (some ([0, 1, 3, 7, 15, 0, 32, 96, 224, 480, 1023, 0, 2048, 6144, 14336, 30720, 65535, 0, 131072, 393216, 917504, 2097151, 4194303], [])) [2]) .ret)
@[simp] def JVU : List CRes := [.tmp 2]
theorem JVX : chkFn Tryz.prog JFg JVa JVU 1 = true := by kernel_rfl
@[simp] def JeO : Yo := [Yb 4 (.int .u32 0)]
def JdD := JeO
instance : Reg JdD JeO 1 := ⟨rfl, rfl⟩
@[simp] def JeF : Yo := [Ya 6 1, Yg 7 (.convI .u64) [.t 6], Yg 8 (.bin .and) [.t 7, .c (.int .u64 31)], Ya 5 8]
def Jeb := JeF
instance : Reg Jeb JeF 4 := ⟨rfl, rfl⟩
@[simp] def JeK : Yo := [Ya 9 0, Ya 10 5, Yg 11 (.bin .shl) [.t 9, .t 10], Ya 12 0, Ya 13 5, Yg 14 (.bin .sub) [.c (.int .u64 32), .t 13], Yg 15 (.bin .shr) [.t 12, .t 14], Yg 16 (.bin .or) [.t 11, .t 15], Ya 4 16]
def Jer := JeK
instance : Reg Jer JeK 9 := ⟨rfl, rfl⟩
@[simp] def JFe : CCode :=
  .seq (Yr JdD [0, 1]) (.seq (Yr Jeb [0, 5]) (.seq (Yr Jer [4]) .ret))
@[simp] def JFp : List CRes := [.tmp 4]
theorem JE2 : chkFn Tryz.prog Jl JFe JFp 2 = true := by kernel_rfl
@[simp] def JBx : Yo := [Yg 1 .box [.t 0], Yg 2 (.alloc Yw) []]
def JBm := JBx
instance : Reg JBm JBx 2 := ⟨rfl, rfl⟩
@[simp] def JAy : Yo := [Yg 3 (.sliceArr 32 1 false false) [.t 1], Yg 4 (.bslice 1 1 Yv [0]) [.t 3], Yg 5 (.call Jdx) [.t 4], Yh 32 [.t 2, .t 5]]
def JA6 := JAy
instance : Reg JA6 JAy 4 := ⟨rfl, rfl⟩
@[simp] def JTR : CCode :=
  .seq (Yr JBm [1, 2]) (.seq (Yr JA6 [2]) .ret)
@[simp] def JTH : List CRes := [.cell 2 true 32]
theorem JSR : chkFn Tryz.prog JzB JTR JTH 1 = true := by kernel_rfl
@[simp] def JGQ : Yo := [Yg 2 .box [.t 0], Yb 4 (.int .i64 0)]
def JGD := JGQ
instance : Reg JGD JGQ 2 := ⟨rfl, rfl⟩
@[simp] def JGf : Yo := [Ya 5 1, Yg 6 (.bin .quo) [.t 5, Yz 8], Yg 7 (.iaddrArr 32 1 false) [.t 2, .t 6], Yd 8 1 7, Ya 9 1, Yg 10 (.bin .rem) [.t 9, Yz 8], Yg 11 (.bin .sub) [Yz 7, .t 10], Yg 12 (.bin .shr) [.t 8, .t 11], Yg 13 (.convI .i64) [.t 12], Yg 14 (.bin .and) [.t 13, Yz 1], Ya 4 14]
def JIo := JGf
instance : Reg JIo JGf 11 := ⟨rfl, rfl⟩
@[simp] def JU9 : CCode :=
  .seq (Yr JGD [1, 2]) (.seq (Yr JIo [4]) .ret)
@[simp] def JU5 : List CRes := [.tmp 4]
theorem JVS : chkFn Tryz.prog JFk JU9 JU5 2 = true := by kernel_rfl
@[simp] def JwU : Yo := [Yg 2 (.alloc Yw) []]
def JwN := JwU
instance : Reg JwN JwU 1 := ⟨rfl, rfl⟩
@[simp] def Jzn : Yo := [Yg 4 (.build [Yv] []) [], Yg 5 .box [.t 4], Ya 3 5]
def Jy4 := Jzn
instance : Reg Jy4 Jzn 3 := ⟨rfl, rfl⟩
@[simp] def JvR : Yo := [Ya 6 3, Ya 7 0, Yg 8 (.call Jn) [.t 6, .t 7]]
def Jw9 := JvR
instance : Reg Jw9 JvR 3 := ⟨rfl, rfl⟩
@[simp] def Jzf : Yo := [Ya 9 3, Yg 10 (.call Jq) [.t 9], Yg 11 (.bslice 1 1 Yv [0]) [.t 10], Yg 12 (.call Jdx) [.t 11], Yh 32 [.t 2, .t 12]]
def Jv5 := Jzf
instance : Reg Jv5 Jzf 5 := ⟨rfl, rfl⟩
@[simp] def JSg : CCode :=
  .seq (Yr JwN [0, 2]) (.seq (Yr Jy4 [0, 2, 3]) (.seq (Yr Jw9 [2, 3]) (.seq (Yr Jv5 [2]) .ret)))
@[simp] def JQn : List CRes := [.cell 2 true 32]
theorem JQ2 : chkFn Tryz.prog Jph JSg JQn 1 = true := by kernel_rfl
@[simp] def JGU : Yo := [Yg 4 .box [.t 1], Yg 5 .box [.t 2], Yg 6 (.alloc Yw) []]
def JFz := JGU
instance : Reg JFz JGU 3 := ⟨rfl, rfl⟩
@[simp] def JJb : Yo := [Ya 7 0, Yg 8 (.bslice 1 1 (.v (.int .u8 0)) [0]) [.t 7], Yg 9 (.sliceArr 32 1 false false) [.t 4], Yg 10 (.sliceArr 32 1 false false) [.t 5], Yg 11 (.bslice 1 3 Yv [0, 1, 2]) [.t 8, .t 9, .t 10], Yg 12 (.call Jdx) [.t 11], Yh 32 [.t 6, .t 12]]
def JII := JJb
instance : Reg JII JJb 7 := ⟨rfl, rfl⟩
@[simp] def JVV : CCode :=
  .seq (Yr JFz [0, 4, 5, 6]) (.seq (.region JII (some ([0, 1, 0, 0, 15, 31, 63], [])) [6]) .ret)
@[simp] def JUL : List CRes := [.cell 6 true 32]
theorem JVx : chkFn Tryz.prog Jkw JVV JUL 3 = true := by kernel_rfl
@[simp] def JC8 : Yo := [Yg 2 (.alloc Yw) []]
def JCl := JC8
instance : Reg JCl JC8 1 := ⟨rfl, rfl⟩
@[simp] def JBg : Yo := [Yg 3 (.bslice 1 1 (.v (.int .u8 0)) [0]) [.c (.int .u8 0)], Ya 4 0, Yg 5 (.bslice 1 2 Yv [0, 1]) [.t 3, .t 4], Yg 6 (.call Jdx) [.t 5], Yh 32 [.t 2, .t 6]]
def Jz8 := JBg
instance : Reg Jz8 JBg 5 := ⟨rfl, rfl⟩
@[simp] def JSG : CCode :=
  .seq (Yr JCl [0, 2]) (.seq (Yr Jz8 [2]) .ret)
@[simp] def JSm : List CRes := [.cell 2 true 32]
theorem JTi : chkFn Tryz.prog Jws JSG JSm 1 = true := by kernel_rfl
end Go.Proofs.YtlajjoekbcjfnaaGreatDoor.WL
