import Derived.Test.YtlajjoekbcjfnaaGreatDoorWc2
namespace Go.Proofs.YtlajjoekbcjfnaaGreatDoor.WL
set_option linter.all false
open Go
@[simp] def JwE : Yo := [Yg 3 .box [.t 1],Yb 4 (.bool false)]
def JvB := JwE
instance : Reg JvB JwE 2 := ⟨rfl,rfl⟩
@[simp] def Jya : Yo := [Ye 5 1 2 3,Yf 6 0 1 5,Yd 7 1 6,Yg 8 .len [.t 7],Yg 9 (.bin .neq) [.t 8,Yz 32],Ya 10 9,Yn 11 (.faddr 1 2 true) [.t 3] 10 false,Yl 12 1 1 11 10 false,Ym 13 1 12 10 false,Yn 14 .len [.t 13] 10 false,Yn 15 (.bin .neq) [.t 14,Yz 32] 10 false,Yg 16 .pick [.t 10,.c (.bool true),.t 15],Ya 17 16,Yl 18 3 1 3 17 false,Ym 19 1 18 17 false,Yn 20 .len [.t 19] 17 false,Yn 21 (.bin .gtr) [.t 20,Yz 6] 17 false,Yg 22 .pick [.t 17,.c (.bool true),.t 21]]
def JyQ := Jya
instance : Reg JyQ Jya 18 := ⟨rfl,rfl⟩
@[simp] def JyD : Yo := [Yb 4 (.bool false)]
def Juh := JyD
instance : Reg Juh JyD 1 := ⟨rfl,rfl⟩
@[simp] def Jwp : Yo := [Ya 23 0,Yf 24 0 1 3,Yd 25 1 24,Yf 26 3 1 3,Yd 27 1 26,Yg 28 .len [.t 27],Yg 29 (.bslice 1 2 Yu [0,1]) [.t 25,.t 28],Yg 30 (.call Jg) [.t 23,.t 29]]
def JzD := Jwp
instance : Reg JzD Jwp 8 := ⟨rfl,rfl⟩
@[simp] def Juq : Yo := [Ya 31 0,Ye 32 1 2 3,Yf 33 0 1 32,Yd 34 1 33,Yg 35 (.call Jn) [.t 31,.t 34]]
def Jw7 := Juq
instance : Reg Jw7 Juq 5 := ⟨rfl,rfl⟩
@[simp] def JxN : Yo := [Ya 36 0,Ye 37 1 2 3,Yf 38 1 1 37,Yd 39 1 38,Yg 40 (.call Jn) [.t 36,.t 39]]
def JxH := JxN
instance : Reg JxH JxN 5 := ⟨rfl,rfl⟩
@[simp] def Ju5 : Yo := [Ya 41 0,Yf 42 3 1 3,Yd 43 1 42,Yg 44 (.call Jn) [.t 41,.t 43]]
def JxL := Ju5
instance : Reg JxL Ju5 4 := ⟨rfl,rfl⟩
@[simp] def JvG : Yo := [Yb 4 (.bool true)]
def JyL := JvG
instance : Reg JyL JvG 1 := ⟨rfl,rfl⟩
@[simp] def JSf : CCode :=
 .seq (Yr JvB [0,3]) (.seq (.seq (Yr JyQ [0,3,22]) (.cond (.t 22) (.seq (Yr Juh [4]) .ret) .skip)) (.seq (Yr JzD [0,3]) (.seq (Yr Jw7 [0,3]) (.seq (Yr JxH [0,3]) (.seq (Yr JxL []) (.seq (Yr JyL [4]) .ret))))))
@[simp] def JTc : List CRes := [.tmp 4]
theorem JMZ : chkFn Tryz.prog Jbk JSf JTc 2 = true := by kernel_rfl
@[simp] def JA6 : Yo := [Yg 3 .box [.t 1]]
def JDW := JA6
instance : Reg JDW JA6 1 := ⟨rfl,rfl⟩
@[simp] def JCA : Yo := [Ya 4 0,Yf 5 0 1 3,Yd 6 1 5,Yf 7 1 1 3,Yd 8 1 7,Yf 9 2 1 3,Yd 10 1 9,Yf 11 3 1 3,Yd 12 1 11,Yf 13 103 1 3,Yd 14 1 13,Yg 15 (.bslice 1 5 Yu [0,1,2,3,4]) [.t 6,.t 8,.t 10,.t 12,.t 14],Yg 16 (.call Jg) [.t 4,.t 15]]
def JEn := JCA
instance : Reg JEn JCA 13 := ⟨rfl,rfl⟩
@[simp] def JFV : Yo := [Ya 17 0,Ye 18 4 99 3,Yc 19 99 18,Yg 20 (.call J8) [.t 17,.t 19]]
def JC9 := JFV
instance : Reg JC9 JFV 4 := ⟨rfl,rfl⟩
@[simp] def JT6 : CCode :=
 .seq (Yr JDW [0,3]) (.seq (Yr JEn [0,3]) (Yr JC9 []))
@[simp] def JVt : List CRes := []
theorem JUp : chkFn Tryz.prog Jxp JT6 JVt 2 = true := by kernel_rfl
@[simp] def JEr : Yo := [Yg 3 .box [.t 1]]
def JFn := JEr
instance : Reg JFn JEr 1 := ⟨rfl,rfl⟩
@[simp] def JFe : Yo := [Ya 4 0,Yf 5 0 1 3,Yd 6 1 5,Yf 7 1 1 3,Yd 8 1 7,Yf 9 2 1 3,Yd 10 1 9,Yf 11 3 1 3,Yd 12 1 11,Yf 13 36 1 3,Yd 14 1 13,Yg 15 (.bslice 1 5 Yu [0,1,2,3,4]) [.t 6,.t 8,.t 10,.t 12,.t 14],Yg 16 (.call Jg) [.t 4,.t 15]]
def JA5 := JFe
instance : Reg JA5 JFe 13 := ⟨rfl,rfl⟩
@[simp] def JDU : Yo := [Ya 17 0,Ye 18 4 32 3,Yc 19 32 18,Yg 20 (.bslice 32 1 Yw [0]) [.t 19],Yg 21 (.call Jn) [.t 17,.t 20]]
def JE2 := JDU
instance : Reg JE2 JDU 5 := ⟨rfl,rfl⟩
@[simp] def JT2 : CCode :=
 .seq (Yr JFn [0,3]) (.seq (Yr JA5 [0,3]) (Yr JE2 []))
@[simp] def JUO : List CRes := []
theorem JVb : chkFn Tryz.prog JmF JT2 JUO 2 = true := by kernel_rfl
@[simp] def JqL : Yo := [Yg 3 .box [.t 1],Yb 4 (.bool false)]
def JqS := JqL
instance : Reg JqS JqL 2 := ⟨rfl,rfl⟩
@[simp] def JqE : Yo := [Yg 6 (.build [Yv] []) [],Yg 7 .box [.t 6],Ya 5 7]
def Jtv := JqE
instance : Reg Jtv JqE 3 := ⟨rfl,rfl⟩
@[simp] def Jsd : Yo := [Ya 8 5,Ye 9 99 2 3,Yc 10 2 9,Yg 11 (.call Jbf) [.t 8,.t 10],Yg 12 .not [.t 11]]
def JsN := Jsd
instance : Reg JsN Jsd 5 := ⟨rfl,rfl⟩
@[simp] def JrG : Yo := [Yb 4 (.bool false)]
def Jqn := JrG
instance : Reg Jqn JrG 1 := ⟨rfl,rfl⟩
@[simp] def JtM : Yo := [Ya 13 0,Ye 14 0 99 3,Yc 15 99 14,Yg 16 (.call J8) [.t 13,.t 15]]
def Jtz := JtM
instance : Reg Jtz JtM 4 := ⟨rfl,rfl⟩
@[simp] def Jtx : Yo := [Ya 17 0,Ye 18 99 2 3,Yc 19 2 18,Yg 20 (.call Jbf) [.t 17,.t 19]]
def JrH := Jtx
instance : Reg JrH Jtx 4 := ⟨rfl,rfl⟩
@[simp] def Jsf : Yo := [Ya 21 0,Ye 22 101 2 3,Yc 23 2 22,Yg 24 (.call Je1) [.t 21,.t 23]]
def Jrn := Jsf
instance : Reg Jrn Jsf 4 := ⟨rfl,rfl⟩
@[simp] def Js6 : Yo := [Yb 4 (.bool true)]
def Jsw := Js6
instance : Reg Jsw Js6 1 := ⟨rfl,rfl⟩
@[simp] def JQS : CCode :=
 .seq (Yr JqS [0,3]) (.seq (Yr Jtv [0,3,5]) (.seq (.seq (Yr JsN [0,3,12]) (.cond (.t 12) (.seq (Yr Jqn [4]) .ret) .skip)) (.seq (Yr Jtz [0,3]) (.seq (Yr JrH [0,3]) (.seq (Yr Jrn []) (.seq (Yr Jsw [4]) .ret))))))
@[simp] def JQj : List CRes := [.tmp 4]
theorem JJ2 : chkFn Tryz.prog JbK JQS JQj 2 = true := by kernel_rfl
@[simp] def JMj : Yo := [Yg 2 .box [.t 0],Yg 3 .box [.t 1],Yg 4 (.alloc Yw) [],Yb 5 (.bool false)]
def JMe := JMj
instance : Reg JMe JMj 4 := ⟨rfl,rfl⟩
@[simp] def JM8 : Yo := [Yf 10 0 1 3,Yd 11 1 10,Yg 12 .len [.t 11],Yg 13 (.bin .neq) [.t 12,Yz 32],Ya 14 13,Yl 15 1 1 3 14 false,Ym 16 1 15 14 false,Yn 17 .len [.t 16] 14 false,Yn 18 (.bin .neq) [.t 17,Yz 32] 14 false,Yg 19 .pick [.t 14,.c (.bool true),.t 18]]
def JMy := JM8
instance : Reg JMy JM8 10 := ⟨rfl,rfl⟩
@[simp] def JMR : Yo := [Yg 20 (.buildA 1 (rep 32 (.v (.int .u8 0))) []) [],Yh 32 [.t 4,.t 20],Yb 5 (.bool false)]
def JLD := JMR
instance : Reg JLD JMR 3 := ⟨rfl,rfl⟩
@[simp] def JMt : Yo := [Yb 6 (.slice none 0 0)]
def JMl := JMt
instance : Reg JMl JMt 1 := ⟨rfl,rfl⟩
@[simp] def JMH : Yo := [Yb 21 (.int .i64 0)]
def JMB := JMH
instance : Reg JMB JMH 1 := ⟨rfl,rfl⟩
@[simp] def JMo : Yo := [Yg 22 (.bin .lss) [.t 21,Yz 32]]
def JL1 := JMo
instance : Reg JL1 JMo 1 := ⟨rfl,rfl⟩
@[simp] def JMs : Yo := [Ya 23 21,Ya 7 23]
def JMm := JMs
instance : Reg JMm JMs 2 := ⟨rfl,rfl⟩
@[simp] def JLA : Yo := [Yf 24 0 1 3,Yd 25 1 24,Ya 26 7,Yg 27 (.iaddr 32) [.t 25,.t 26],Yc 28 32 27,Yg 29 (.call JwZ) [.t 28],Yf 30 1 1 3,Yd 31 1 30,Ya 32 7,Yg 33 (.iaddr 32) [.t 31,.t 32],Yc 34 32 33,Yg 35 (.buildA 32 (rep 2 Yw) [0,1]) [.t 29,.t 34],Yg 8 (.alloc (.arr 32 (rep 2 Yw))) [],Yh 64 [.t 8,.t 35]]
def JMw := JLA
instance : Reg JMw JLA 14 := ⟨rfl,rfl⟩
@[simp] def JLU : Yo := [Yc 36 32 2,Ya 37 7,Yg 38 (.call JGq) [.t 36,.t 37],Ya 9 38]
def JLI := JLU
instance : Reg JLI JLU 4 := ⟨rfl,rfl⟩
@[simp] def JMT : Yo := [Ya 39 6,Ya 40 9,Yg 41 (.iaddrArr 2 32 true) [.t 8,.t 40],Yc 42 32 41,Ya 43 9,Yg 44 (.bin .sub) [Yz 1,.t 43],Yg 45 (.iaddrArr 2 32 true) [.t 8,.t 44],Yc 46 32 45,Yg 47 (.bslice 32 2 Yw [0,1]) [.t 42,.t 46],Yg 48 (.app 32 32) [.t 39,.t 47],Ya 6 48]
def JL6 := JMT
instance : Reg JL6 JMT 11 := ⟨rfl,rfl⟩
@[simp] def JJ7 : Yo := [Yg 49 (.bin .add) [.t 21,Yz 1],Ya 21 49]
def JI2 := JJ7
instance : Reg JI2 JJ7 2 := ⟨rfl,rfl⟩
@[simp] def JIr : Yo := [Ya 50 6,Yg 51 (.call JpP) [.t 50],Yh 32 [.t 4,.t 51],Yb 5 (.bool true)]
def JGU := JIr
instance : Reg JGU JIr 4 := ⟨rfl,rfl⟩
@[simp] def JZo : CCode :=
 .seq (Yr JMe [2,3,4]) (.seq (.seq (Yr JMy [2,3,4,19]) (.cond (.t 19) (.seq (Yr JLD [4,5]) .ret) .skip)) (.seq (Yr JMl [2,3,4,6]) (.seq (.seq (Yr JMB [2,3,4,6,21]) (.block 0 (.loop (.seq (Yr JL1 [2,3,4,6,21,22]) (.seq (.cond (.t 22) .skip (.exit 0)) (.seq (.block 1 (.seq (Yr JMm [2,3,4,6,7,21]) (.seq (.region JMw (some ([0,1,0,7,15,31,0,64,0,448,960,2047,0,8191],[(5,7),(5,10),(1,12),(4,12),(5,12),(7,12),(10,12)])) [2,3,4,6,7,8,21]) (.seq (Yr JLI [2,3,4,6,8,9,21]) (.region JL6 (some ([0,0,2,6,0,16,48,112,254,511,1023],[])) [2,3,4,6,21]))))) (Yr JI2 [2,3,4,6,21]))))))) (.seq (Yr JGU [4,5]) .ret))))
@[simp] def JZH : List CRes := [.cell 4 true 32,.tmp 5]
theorem JRx : chkFn Tryz.prog JAq JZo JZH 2 = true := by kernel_rfl
@[simp] def Jz1 : Yo := [Yg 5 .box [.t 0],Yg 6 .box [.t 1],Yb 10 (.bool false)]
def JuW := Jz1
instance : Reg JuW Jz1 3 := ⟨rfl,rfl⟩
@[simp] def Jt9 : Yo := [Ya 12 2,Yg 13 (.bin .lss) [.t 12,Yz 0],Ya 14 13,Yk 15 2 14 false,Yk 16 3 14 false,Yn 17 (.bin .geq) [.t 15,.t 16] 14 false,Yg 18 .pick [.t 14,.c (.bool true),.t 17]]
def JvC := Jt9
instance : Reg JvC Jt9 7 := ⟨rfl,rfl⟩
@[simp] def Jvr : Yo := [Yb 10 (.bool false)]
def JwY := Jvr
instance : Reg JwY Jvr 1 := ⟨rfl,rfl⟩
@[simp] def Jx1 : Yo := [Ya 19 3,Yg 20 (.bin .gtr) [.t 19,Yz 1]]
def Jyf := Jx1
instance : Reg Jyf Jx1 2 := ⟨rfl,rfl⟩
@[simp] def JuI : Yo := [Ya 27 2,Yg 28 (.bin .xor) [.t 27,Yz 1],Ya 11 28]
def Jyp := JuI
instance : Reg Jyp JuI 3 := ⟨rfl,rfl⟩
@[simp] def Jzh : Yo := [Ya 29 11,Ya 30 3,Yg 31 (.bin .geq) [.t 29,.t 30]]
def Jyc := Jzh
instance : Reg Jyc Jzh 3 := ⟨rfl,rfl⟩
@[simp] def Jxa : Yo := [Ya 32 4,Yg 33 .len [.t 32],Yg 34 (.bin .eql) [.t 33,Yz 0]]
def JxT := Jxa
instance : Reg JxT Jxa 3 := ⟨rfl,rfl⟩
@[simp] def JzG : Yo := [Yb 10 (.bool false)]
def Jwf := JzG
instance : Reg Jwf JzG 1 := ⟨rfl,rfl⟩
@[simp] def Jzg : Yo := [Ya 35 11,Ya 36 2,Yg 37 (.bin .lss) [.t 35,.t 36]]
def JzL := Jzg
instance : Reg JzL Jzg 3 := ⟨rfl,rfl⟩
@[simp] def Jr5 : Yo := [Ya 38 4,Yg 39 (.iaddr 32) [.t 38,Yz 0],Yc 40 32 39,Yc 41 32 6,Yg 42 (.call Jj5) [.c (.int .u8 1),.t 40,.t 41],Yh 32 [.t 6,.t 42]]
def JqK := Jr5
instance : Reg JqK Jr5 6 := ⟨rfl,rfl⟩
@[simp] def Jsr : Yo := [Yc 43 32 6,Ya 44 4,Yg 45 (.iaddr 32) [.t 44,Yz 0],Yc 46 32 45,Yg 47 (.call Jj5) [.c (.int .u8 1),.t 43,.t 46],Yh 32 [.t 6,.t 47]]
def Jsz := Jsr
instance : Reg Jsz Jsr 6 := ⟨rfl,rfl⟩
@[simp] def JrC : Yo := [Ya 48 4,Yg 49 (.slice 32 true false) [.t 48,Yz 1],Ya 4 49]
def Jqu := JrC
instance : Reg Jqu JrC 3 := ⟨rfl,rfl⟩
@[simp] def JxZ : Yo := [Ya 21 2,Yg 22 (.bin .quo) [.t 21,Yz 2],Ya 23 3,Yg 24 (.bin .sub) [.t 23,Yz 1],Yg 25 (.bin .quo) [.t 24,Yz 2],Yg 26 (.bin .add) [.t 25,Yz 1],Ya 2 22,Ya 3 26]
def Ju6 := JxZ
instance : Reg Ju6 JxZ 8 := ⟨rfl,rfl⟩
@[simp] def JsI : Yo := [Ya 50 4,Yg 51 .len [.t 50],Yg 52 (.bin .eql) [.t 51,Yz 0],Ya 53 52,Yn 54 (.load true 32) [.t 6] 53 true,Yn 55 (.load true 32) [.t 5] 53 true,Yn 56 (.eqa false .u8 32) [.t 54,.t 55] 53 true,Yg 57 .pick [.t 53,.t 56,.c (.bool false)],Ya 10 57]
def Jtr := JsI
instance : Reg Jtr JsI 9 := ⟨rfl,rfl⟩
@[simp] def JSm : CCode :=
 .seq (Yr JuW [2,3,4,5,6]) (.seq (.seq (Yr JvC [2,3,4,5,6,18]) (.cond (.t 18) (.seq (Yr JwY [10]) .ret) .skip)) (.seq (.block 0 (.loop (.seq (.seq (Yr Jyf [2,3,4,5,6,20]) (.cond (.t 20) .skip (.exit 0))) (.seq (.block 1 (.seq (Yr Jyp [2,3,4,5,6,11]) (.seq (.seq (Yr Jyc [2,3,4,5,6,11,31]) (.cond (.t 31) (.exit 1) .skip)) (.seq (.seq (Yr JxT [2,3,4,5,6,11,34]) (.cond (.t 34) (.seq (Yr Jwf [10]) .ret) .skip)) (.seq (.seq (Yr JzL [2,3,4,5,6,37]) (.cond (.t 37) (.region JqK (some ([0,1,3,0,15,31],[])) [2,3,4,5,6]) (.region Jsz (some ([0,0,2,6,15,31],[])) [2,3,4,5,6]))) (Yr Jqu [2,3,4,5,6])))))) (Yr Ju6 [2,3,4,5,6]))))) (.seq (Yr Jtr [10]) .ret)))
@[simp] def JSg : List CRes := [.tmp 10]
theorem JMU : chkFn Tryz.prog JjL JSm JSg 5 = true := by kernel_rfl
@[simp] def JCa : Yo := [Yg 1 .box [.t 0],Yg 2 (.alloc Yw) []]
def JFi := JCa
instance : Reg JFi JCa 2 := ⟨rfl,rfl⟩
@[simp] def JA0 : Yo := [Yg 3 (.sliceArr 32 1 false false) [.t 1],Yg 4 (.call Jup) [.t 3],Yh 32 [.t 2,.t 4]]
def JDm := JA0
instance : Reg JDm JA0 3 := ⟨rfl,rfl⟩
@[simp] def JUx : CCode :=
 .seq (Yr JFi [1,2]) (.seq (Yr JDm [2]) .ret)
@[simp] def JUo : List CRes := [.cell 2 true 32]
theorem JUH : chkFn Tryz.prog Jxz JUx JUo 1 = true := by kernel_rfl
@[simp] def JIb : Yo := [Yb 2 (.int .u32 0)]
def JIa := JIb
instance : Reg JIa JIb 1 := ⟨rfl,rfl⟩
@[simp] def JJ0 : Yo := [Ya 3 0,Yg 4 (.iaddr 1) [.t 3,Yz 0],Yd 5 1 4,Yg 6 (.convI .u32) [.t 5],Yg 7 (.bin .shl) [.t 6,.c (.int .u64 24)],Ya 8 0,Yg 9 (.iaddr 1) [.t 8,Yz 1],Yd 10 1 9,Yg 11 (.convI .u32) [.t 10],Yg 12 (.bin .shl) [.t 11,.c (.int .u64 16)],Yg 13 (.bin .or) [.t 7,.t 12],Ya 14 0,Yg 15 (.iaddr 1) [.t 14,Yz 2],Yd 16 1 15,Yg 17 (.convI .u32) [.t 16],Yg 18 (.bin .shl) [.t 17,.c (.int .u64 8)],Yg 19 (.bin .or) [.t 13,.t 18],Ya 20 0,Yg 21 (.iaddr 1) [.t 20,Yz 3],Yd 22 1 21,Yg 23 (.convI .u32) [.t 22],Yg 24 (.bin .or) [.t 19,.t 23],Ya 2 24]
def JIL := JJ0
instance : Reg JIL JJ0 23 := ⟨rfl,rfl⟩
@[simp] def JXi : CCode :=
 .seq (Yr JIa [0]) (.seq (.region JIL (some ([0,1,3,7,15,0,32,96,224,480,1023,0,2048,6144,14336,30720,65535,0,131072,393216,917504,2097151,4194303],[])) [2]) .ret)
@[simp] def JWQ : List CRes := [.tmp 2]
theorem JXp : chkFn Tryz.prog JGa JXi JWQ 1 = true := by kernel_rfl
@[simp] def Jf2 : Yo := [Yb 4 (.int .u32 0)]
def Jfp := Jf2
instance : Reg Jfp Jf2 1 := ⟨rfl,rfl⟩
@[simp] def JfU : Yo := [Ya 6 1,Yg 7 (.convI .u64) [.t 6],Yg 8 (.bin .and) [.t 7,.c (.int .u64 31)],Ya 5 8]
def Jgd := JfU
instance : Reg Jgd JfU 4 := ⟨rfl,rfl⟩
@[simp] def Jfq : Yo := [Ya 9 0,Ya 10 5,Yg 11 (.bin .shl) [.t 9,.t 10],Ya 12 0,Ya 13 5,Yg 14 (.bin .sub) [.c (.int .u64 32),.t 13],Yg 15 (.bin .shr) [.t 12,.t 14],Yg 16 (.bin .or) [.t 11,.t 15],Ya 4 16]
def JfK := Jfq
instance : Reg JfK Jfq 9 := ⟨rfl,rfl⟩
@[simp] def JGv : CCode :=
 .seq (Yr Jfp [0,1]) (.seq (Yr Jgd [0,5]) (.seq (Yr JfK [4]) .ret))
@[simp] def JGr : List CRes := [.tmp 4]
theorem JGc : chkFn Tryz.prog Jl JGv JGr 2 = true := by kernel_rfl
@[simp] def JFW : Yo := [Yg 1 .box [.t 0],Yg 2 (.alloc Yw) []]
def JAP := JFW
instance : Reg JAP JFW 2 := ⟨rfl,rfl⟩
@[simp] def JCN : Yo := [Yg 3 (.sliceArr 32 1 false false) [.t 1],Yg 4 (.bslice 1 1 Yv [0]) [.t 3],Yg 5 (.call Jex) [.t 4],Yh 32 [.t 2,.t 5]]
def JC0 := JCN
instance : Reg JC0 JCN 4 := ⟨rfl,rfl⟩
@[simp] def JVk : CCode :=
 .seq (Yr JAP [1,2]) (.seq (Yr JC0 [2]) .ret)
@[simp] def JT4 : List CRes := [.cell 2 true 32]
theorem JU6 : chkFn Tryz.prog JwZ JVk JT4 1 = true := by kernel_rfl
@[simp] def JJL : Yo := [Yg 2 .box [.t 0],Yb 4 (.int .i64 0)]
def JG6 := JJL
instance : Reg JG6 JJL 2 := ⟨rfl,rfl⟩
@[simp] def JKt : Yo := [Ya 5 1,Yg 6 (.bin .quo) [.t 5,Yz 8],Yg 7 (.iaddrArr 32 1 false) [.t 2,.t 6],Yd 8 1 7,Ya 9 1,Yg 10 (.bin .rem) [.t 9,Yz 8],Yg 11 (.bin .sub) [Yz 7,.t 10],Yg 12 (.bin .shr) [.t 8,.t 11],Yg 13 (.convI .i64) [.t 12],Yg 14 (.bin .and) [.t 13,Yz 1],Ya 4 14]
def JIg := JKt
instance : Reg JIg JKt 11 := ⟨rfl,rfl⟩
@[simp] def JX4 : CCode :=
 .seq (Yr JG6 [1,2]) (.seq (Yr JIg [4]) .ret)
@[simp] def JX8 : List CRes := [.tmp 4]
theorem JXz : chkFn Tryz.prog JGq JX4 JX8 2 = true := by kernel_rfl
@[simp] def Jue : Yo := [Yg 2 (.alloc Yw) []]
def JyG := Jue
instance : Reg JyG Jue 1 := ⟨rfl,rfl⟩
@[simp] def Jxl : Yo := [Yg 4 (.build [Yv] []) [],Yg 5 .box [.t 4],Ya 3 5]
def Jxw := Jxl
instance : Reg Jxw Jxl 3 := ⟨rfl,rfl⟩
@[simp] def Jxm : Yo := [Ya 6 3,Ya 7 0,Yg 8 (.call Jn) [.t 6,.t 7]]
def Ju2 := Jxm
instance : Reg Ju2 Jxm 3 := ⟨rfl,rfl⟩
@[simp] def Jvz : Yo := [Ya 9 3,Yg 10 (.call Jr) [.t 9],Yg 11 (.bslice 1 1 Yv [0]) [.t 10],Yg 12 (.call Jex) [.t 11],Yh 32 [.t 2,.t 12]]
def JuD := Jvz
instance : Reg JuD Jvz 5 := ⟨rfl,rfl⟩
@[simp] def JSj : CCode :=
 .seq (Yr JyG [0,2]) (.seq (Yr Jxw [0,2,3]) (.seq (Yr Ju2 [2,3]) (.seq (Yr JuD [2]) .ret)))
@[simp] def JS5 : List CRes := [.cell 2 true 32]
theorem JTm : chkFn Tryz.prog JpP JSj JS5 1 = true := by kernel_rfl
@[simp] def JIF : Yo := [Yg 4 .box [.t 1],Yg 5 .box [.t 2],Yg 6 (.alloc Yw) []]
def JIK := JIF
instance : Reg JIK JIF 3 := ⟨rfl,rfl⟩
@[simp] def JGM : Yo := [Ya 7 0,Yg 8 (.bslice 1 1 (.v (.int .u8 0)) [0]) [.t 7],Yg 9 (.sliceArr 32 1 false false) [.t 4],Yg 10 (.sliceArr 32 1 false false) [.t 5],Yg 11 (.bslice 1 3 Yv [0,1,2]) [.t 8,.t 9,.t 10],Yg 12 (.call Jex) [.t 11],Yh 32 [.t 6,.t 12]]
def JJb := JGM
instance : Reg JJb JGM 7 := ⟨rfl,rfl⟩
@[simp] def JW2 : CCode :=
 .seq (Yr JIK [0,4,5,6]) (.seq (.region JJb (some ([0,1,0,0,15,31,63],[])) [6]) .ret)
@[simp] def JYf : List CRes := [.cell 6 true 32]
theorem JXE : chkFn Tryz.prog Jj5 JW2 JYf 3 = true := by kernel_rfl
@[simp] def JCw : Yo := [Yg 2 (.alloc Yw) []]
def JEs := JCw
instance : Reg JEs JCw 1 := ⟨rfl,rfl⟩
@[simp] def JCt : Yo := [Yg 3 (.bslice 1 1 (.v (.int .u8 0)) [0]) [.c (.int .u8 0)],Ya 4 0,Yg 5 (.bslice 1 2 Yv [0,1]) [.t 3,.t 4],Yg 6 (.call Jex) [.t 5],Yh 32 [.t 2,.t 6]]
def JB3 := JCt
instance : Reg JB3 JCt 5 := ⟨rfl,rfl⟩
@[simp] def JVu : CCode :=
 .seq (Yr JEs [0,2]) (.seq (Yr JB3 [2]) .ret)
@[simp] def JUV : List CRes := [.cell 2 true 32]
theorem JUn : chkFn Tryz.prog Jup JVu JUV 1 = true := by kernel_rfl
end Go.Proofs.YtlajjoekbcjfnaaGreatDoor.WL
