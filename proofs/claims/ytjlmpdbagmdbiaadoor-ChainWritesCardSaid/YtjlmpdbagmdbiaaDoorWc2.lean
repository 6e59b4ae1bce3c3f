
import Derived.Test.YtjlmpdbagmdbiaaDoorWc1
namespace Go.Proofs.YtjlmpdbagmdbiaaDoor.WL
open Go
@[simp] def JtS : List COper := [
  oq 1 .box [.t 0],
  ⟨(some 2), .mov, [.c (.string (mkS []))], none⟩,
  ⟨(some 3), .mov, [.c (.bool false)], none⟩]
def Jrn : List COper := JtS
instance : Reg Jrn JtS 3 := ⟨rfl, rfl⟩
@[simp] def Jt7 : List COper := [
  oq 9 (.faddr 1 2 true) [.t 1], oq 10 (.faddr 0 1 false) [.t 9], oq 11 (.load false 1) [.t 10], oq 12 .len [.t 11], oq 13 (.bin .neq) [.t 12, .c (.int .i64 32)], om 14 13,
  ⟨(some 15), .faddr 1 2 true, [.t 1], (some (14, false))⟩,
  ⟨(some 16), .faddr 1 1 false, [.t 15], (some (14, false))⟩,
  ⟨(some 17), .load false 1, [.t 16], (some (14, false))⟩,
  ⟨(some 18), .len, [.t 17], (some (14, false))⟩,
  ⟨(some 19), .bin .neq, [.t 18, .c (.int .i64 32)], (some (14, false))⟩, oq 20 .pick [.t 14, .c (.bool true), .t 19], om 21 20,
  ⟨(some 22), .faddr 3 1 false, [.t 1], (some (21, false))⟩,
  ⟨(some 23), .load false 1, [.t 22], (some (21, false))⟩,
  ⟨(some 24), .len, [.t 23], (some (21, false))⟩,
  ⟨(some 25), .bin .gtr, [.t 24, .c (.int .i64 6)], (some (21, false))⟩,
  ⟨(some 26), .pick, [.t 21, .c (.bool true), .t 25], none⟩]
def JrW : List COper := Jt7
instance : Reg JrW Jt7 18 := ⟨rfl, rfl⟩
@[simp] def JtO : List COper := [
  ⟨(some 2), .mov, [.c (.string (mkS []))], none⟩,
  ⟨(some 3), .mov, [.c (.bool false)], none⟩]
def Jt9 : List COper := JtO
instance : Reg Jt9 JtO 2 := ⟨rfl, rfl⟩
@[simp] def Jtk : List COper := [
  oq 27 (.faddr 0 1 false) [.t 1], oq 28 (.load false 1) [.t 27], oq 29 (.call JC) [.t 28], oq 30 (.faddr 3 1 false) [.t 1], oq 31 (.load false 1) [.t 30], oq 32 .len [.t 31], oq 33 (.call JC) [.t 32], oq 34 (.bin .add) [.t 29, .t 33], om 4 34]
def Jr9 : List COper := Jtk
instance : Reg Jr9 Jtk 9 := ⟨rfl, rfl⟩
@[simp] def Ju6 : List COper := [
  oq 35 (.faddr 1 2 true) [.t 1], oq 36 (.faddr 0 1 false) [.t 35], oq 37 (.load false 1) [.t 36], oq 38 (.faddr 1 2 true) [.t 1], oq 39 (.faddr 1 1 false) [.t 38], oq 40 (.load false 1) [.t 39], oq 41 (.faddr 3 1 false) [.t 1], oq 42 (.load false 1) [.t 41], oq 43 (.bslice 1 3 (.v (.slice none 0 0)) [0, 1, 2]) [.t 37, .t 40, .t 42], oq 44 .len [.t 43],
  ⟨(some 45), .mov, [.c (.int .i64 0)], none⟩]
def Jrq : List COper := Ju6
instance : Reg Jrq Ju6 11 := ⟨rfl, rfl⟩
@[simp] def JtL : List COper := [
  ⟨(some 46), .bin .lss, [.t 45, .t 44], none⟩]
def Ju0 : List COper := JtL
instance : Reg Ju0 JtL 1 := ⟨rfl, rfl⟩
@[simp] def Jri : List COper := [
  oq 47 (.iaddr 1) [.t 43, .t 45], oq 48 (.load false 1) [.t 47], om 6 48]
def JtA : List COper := Jri
instance : Reg JtA Jri 3 := ⟨rfl, rfl⟩
@[simp] def JrV : List COper := [
  om 49 6, oq 50 .len [.t 49],
  ⟨(some 51), .mov, [.c (.int .i64 0)], none⟩]
def Jsk : List COper := JrV
instance : Reg Jsk JrV 3 := ⟨rfl, rfl⟩
@[simp] def JrE : List COper := [
  ⟨(some 52), .bin .lss, [.t 51, .t 50], none⟩]
def Juf : List COper := JrE
instance : Reg Juf JrE 1 := ⟨rfl, rfl⟩
@[simp] def JtY : List COper := [
  oq 53 (.iaddr 32) [.t 49, .t 51], oq 54 (.load true 32) [.t 53], oq 8 (.alloc (.arr 1 (rep 32 (.v (.int .u8 0))))) [],
  ⟨none, .store true 32, [.t 8, .t 54], none⟩]
def Jtx : List COper := JtY
instance : Reg Jtx JtY 4 := ⟨rfl, rfl⟩
@[simp] def Jpp : List COper := [
  om 55 4, oq 56 (.load true 32) [.t 8], oq 57 (.call JP) [.t 56], oq 58 (.bin .add) [.t 55, .t 57], om 4 58]
def JpP : List COper := Jpp
instance : Reg JpP Jpp 5 := ⟨rfl, rfl⟩
@[simp] def Job : List COper := [
  oq 59 (.bin .add) [.t 51, .c (.int .i64 1)], om 51 59]
def Jnj : List COper := Job
instance : Reg Jnj Job 2 := ⟨rfl, rfl⟩
@[simp] def JpF : List COper := [
  oq 60 (.bin .add) [.t 45, .c (.int .i64 1)], om 45 60]
def Jni : List COper := JpF
instance : Reg Jni JpF 2 := ⟨rfl, rfl⟩
@[simp] def JoC : List COper := [
  om 61 4, om 2 61,
  ⟨(some 3), .mov, [.c (.bool true)], none⟩]
def JpD : List COper := JoC
instance : Reg JpD JoC 3 := ⟨rfl, rfl⟩
@[simp] def JJc : CCode :=
  .seq (.region Jrn none [1]) (.seq (.seq (.region JrW none [1, 26]) (.cond (.t 26) (.seq (.region Jt9 none [2, 3]) (.ret)) (.skip))) (.seq (.region Jr9 (some ([0, 1, 3, 0, 8, 24, 63, 127, 255], [(2, 4)])) [1, 4]) (.seq (.seq (.region Jrq none [4, 43, 44, 45]) (.block 0 (.loop (.seq (.region Ju0 none [4, 43, 44, 45, 46]) (.seq (.cond (.t 46) (.skip) (.exit 0)) (.seq (.block 1 (.seq (.region JtA none [4, 6, 43, 44, 45]) (.seq (.region Jsk none [4, 43, 44, 45, 49, 50, 51]) (.block 2 (.loop (.seq (.region Juf none [4, 43, 44, 45, 49, 50, 51, 52]) (.seq (.cond (.t 52) (.skip) (.exit 2)) (.seq (.block 3 (.seq (.region Jtx none [4, 8, 43, 44, 45, 49, 50, 51]) (.region JpP none [4, 43, 44, 45, 49, 50, 51]))) (.region Jnj none [4, 43, 44, 45, 49, 50, 51]))))))))) (.region Jni none [4, 43, 44, 45]))))))) (.seq (.region JpD none [2, 3]) (.ret)))))
@[simp] def JIJ : List CRes := [.tmp 2, .tmp 3]
theorem JD1 : chkFn Tryd.prog Jin JJc JIJ 1 = true := by kernel_rfl
@[simp] def Jxc : List COper := [
  oq 1 .box [.t 0],
  ⟨(some 2), .mov, [.c (.string (mkS []))], none⟩]
def JyH : List COper := Jxc
instance : Reg JyH Jxc 2 := ⟨rfl, rfl⟩
@[simp] def JxO : List COper := [
  ⟨(some 3), .mov, [.c (.string (mkS []))], none⟩]
def Jx1 : List COper := JxO
instance : Reg Jx1 JxO 1 := ⟨rfl, rfl⟩
@[simp] def Jyt : List COper := [
  oq 6 (.faddr 0 1 false) [.t 1], oq 7 (.load false 1) [.t 6], oq 8 (.faddr 1 1 false) [.t 1], oq 9 (.load false 1) [.t 8], oq 10 (.faddr 2 1 false) [.t 1], oq 11 (.load false 1) [.t 10], oq 12 (.faddr 3 1 false) [.t 1], oq 13 (.load false 1) [.t 12], oq 14 (.faddr 36 1 false) [.t 1], oq 15 (.load false 1) [.t 14], oq 16 (.buildA 1 (rep 5 (.v (.int .i64 0))) (upTo 5)) [.t 7, .t 9, .t 11, .t 13, .t 15],
  ⟨(some 17), .mov, [.c (.int .i64 0)], none⟩]
def JxW : List COper := Jyt
instance : Reg JxW Jyt 12 := ⟨rfl, rfl⟩
@[simp] def Jyp : List COper := [
  ⟨(some 18), .bin .lss, [.t 17, .c (.int .i64 5)], none⟩]
def Jyv : List COper := Jyp
instance : Reg Jyv Jyp 1 := ⟨rfl, rfl⟩
@[simp] def JzU : List COper := [
  oq 19 (.idx false 5 1) [.t 16, .t 17], om 5 19]
def Jwu : List COper := JzU
instance : Reg Jwu JzU 2 := ⟨rfl, rfl⟩
@[simp] def Jv6 : List COper := [
  om 20 3, om 21 5, oq 22 (.call JC) [.t 21], oq 23 (.bin .add) [.t 20, .t 22], om 3 23]
def JwN : List COper := Jv6
instance : Reg JwN Jv6 5 := ⟨rfl, rfl⟩
@[simp] def Jxv : List COper := [
  oq 24 (.bin .add) [.t 17, .c (.int .i64 1)], om 17 24]
def JwK : List COper := Jxv
instance : Reg JwK Jxv 2 := ⟨rfl, rfl⟩
@[simp] def JzR : List COper := [
  om 25 3, oq 26 (.faddr 4 32 true) [.t 1], oq 27 (.load true 32) [.t 26], oq 28 (.call JP) [.t 27], oq 29 (.bin .add) [.t 25, .t 28], om 2 29]
def JwF : List COper := JzR
instance : Reg JwF JzR 6 := ⟨rfl, rfl⟩
@[simp] def JKO : CCode :=
  .seq (.region JyH none [1]) (.seq (.region Jx1 none [1, 3]) (.seq (.seq (.region JxW none [1, 3, 16, 17]) (.block 0 (.loop (.seq (.region Jyv none [1, 3, 16, 17, 18]) (.seq (.cond (.t 18) (.skip) (.exit 0)) (.seq (.block 1 (.seq (.region Jwu none [1, 3, 5, 16, 17]) (.region JwN none [1, 3, 16, 17]))) (.region JwK none [1, 3, 16, 17]))))))) (.seq (.region JwF none [2]) (.ret))))
@[simp] def JLw : List CRes := [.tmp 2]
theorem JKv : chkFn Tryd.prog JvC JKO JLw 1 = true := by kernel_rfl
@[simp] def Jfa : List COper := [
  ⟨(some 2), .mov, [.c (.int .i64 0)], none⟩]
def Jgb : List COper := Jfa
instance : Reg Jgb Jfa 1 := ⟨rfl, rfl⟩
@[simp] def JeG : List COper := [
  ⟨(some 3), .mov, [.c (.int .u64 0)], none⟩]
def JfB : List COper := JeG
instance : Reg JfB JeG 1 := ⟨rfl, rfl⟩
@[simp] def Jfu : List COper := [
  om 6 0, oq 7 (.call JJ) [.t 6, .c (.int .i64 8)], oq 8 .len [.t 7],
  ⟨(some 9), .mov, [.c (.int .i64 0)], none⟩]
def JeH : List COper := Jfu
instance : Reg JeH Jfu 4 := ⟨rfl, rfl⟩
@[simp] def JeX : List COper := [
  ⟨(some 10), .bin .lss, [.t 9, .t 8], none⟩]
def Jfd : List COper := JeX
instance : Reg Jfd JeX 1 := ⟨rfl, rfl⟩
@[simp] def Jge : List COper := [
  oq 11 (.iaddr 1) [.t 7, .t 9], oq 12 (.load false 1) [.t 11], om 5 12]
def Jgd : List COper := Jge
instance : Reg Jgd Jge 3 := ⟨rfl, rfl⟩
@[simp] def Jfy : List COper := [
  om 13 3, oq 14 (.bin .shl) [.t 13, .c (.int .u64 8)], om 15 5, oq 16 (.convI .u64) [.t 15], oq 17 (.bin .or) [.t 14, .t 16], om 3 17]
def Jgc : List COper := Jfy
instance : Reg Jgc Jfy 6 := ⟨rfl, rfl⟩
@[simp] def JfW : List COper := [
  oq 18 (.bin .add) [.t 9, .c (.int .i64 1)], om 9 18]
def JfI : List COper := JfW
instance : Reg JfI JfW 2 := ⟨rfl, rfl⟩
@[simp] def JeI : List COper := [
  om 19 3, oq 20 (.convI .i64) [.t 19], om 2 20]
def JfC : List COper := JeI
instance : Reg JfC JeI 3 := ⟨rfl, rfl⟩
@[simp] def JBa : CCode :=
  .seq (.region Jgb none [0]) (.seq (.region JfB none [0, 3]) (.seq (.seq (.region JeH none [3, 7, 8, 9]) (.block 0 (.loop (.seq (.region Jfd none [3, 7, 8, 9, 10]) (.seq (.cond (.t 10) (.skip) (.exit 0)) (.seq (.block 1 (.seq (.region Jgd none [3, 5, 7, 8, 9]) (.region Jgc none [3, 7, 8, 9]))) (.region JfI none [3, 7, 8, 9]))))))) (.seq (.region JfC none [2]) (.ret))))
@[simp] def JAP : List CRes := [.tmp 2]
theorem JBb : chkFn Tryd.prog Jx JBa JAP 1 = true := by kernel_rfl
@[simp] def JbV : List COper := [
  ⟨(some 2), .alloc (.arr 1 (rep 32 (.v (.int .u8 0)))), [], none⟩]
def JbT : List COper := JbV
instance : Reg JbT JbV 1 := ⟨rfl, rfl⟩
@[simp] def Jbw : List COper := [
  ⟨(some 3), .alloc (.arr 1 (rep 32 (.v (.int .u8 0)))), [], none⟩]
def Jbs : List COper := Jbw
instance : Reg Jbs Jbw 1 := ⟨rfl, rfl⟩
@[simp] def JbQ : List COper := [
  oq 4 (.sliceArr 32 1 false false) [.t 3], om 5 0, oq 6 (.call JJ) [.t 5, .c (.int .i64 32)],
  ⟨(some 7), .copy 1, [.t 4, .t 6], none⟩]
def JbM : List COper := JbQ
instance : Reg JbM JbQ 4 := ⟨rfl, rfl⟩
@[simp] def JbD : List COper := [
  oq 8 (.load true 32) [.t 3],
  ⟨none, .store true 32, [.t 2, .t 8], none⟩]
def JbU : List COper := JbD
instance : Reg JbU JbD 2 := ⟨rfl, rfl⟩
@[simp] def JqK : CCode :=
  .seq (.region JbT none [0, 2]) (.seq (.region Jbs none [0, 2, 3]) (.seq (.region JbM (some ([0, 0, 2, 7], [])) [2, 3]) (.seq (.region JbU none [2]) (.ret))))
@[simp] def JqN : List CRes := [.cell 2 true 32]
theorem JqO : chkFn Tryd.prog Ji JqK JqN 1 = true := by kernel_rfl
@[simp] def Js0 : List COper := [
  ⟨(some 2), .alloc (.node [.v (.int .i64 0), .node [.v (.slice none 0 0), .v (.slice none 0 0)], .v (.slice none 0 0)]), [], none⟩]
def Jsr : List COper := Js0
instance : Reg Jsr Js0 1 := ⟨rfl, rfl⟩
@[simp] def Jte : List COper := [
  om 5 0, oq 6 (.call Jx) [.t 5], oq 7 (.build [.v (.int .i64 0), .node [.v (.slice none 0 0), .v (.slice none 0 0)], .v (.slice none 0 0)] [0]) [.t 6], oq 3 (.alloc (.node [.v (.int .i64 0), .node [.v (.slice none 0 0), .v (.slice none 0 0)], .v (.slice none 0 0)])) [],
  ⟨none, .store true 4, [.t 3, .t 7], none⟩]
def Jsm : List COper := Jte
instance : Reg Jsm Jte 5 := ⟨rfl, rfl⟩
@[simp] def Jr5 : List COper := [
  om 8 0, oq 9 (.call Jd) [.t 8, .c (.int .i64 0), .c (.int .i64 6)], om 4 9]
def Jt3 : List COper := Jr5
instance : Reg Jt3 Jr5 3 := ⟨rfl, rfl⟩
@[simp] def JuS : List COper := [
  om 10 0, oq 11 (.call Jk) [.t 10],
  ⟨(some 12), .not, [.t 11], none⟩]
def JsN : List COper := JuS
instance : Reg JsN JuS 3 := ⟨rfl, rfl⟩
@[simp] def JrZ : List COper := [
  oq 13 (.build [.v (.int .i64 0), .node [.v (.slice none 0 0), .v (.slice none 0 0)], .v (.slice none 0 0)] []) [],
  ⟨none, .store true 4, [.t 2, .t 13], none⟩]
def JqW : List COper := JrZ
instance : Reg JqW JrZ 2 := ⟨rfl, rfl⟩
@[simp] def JrL : List COper := [
  ⟨(some 14), .mov, [.c (.int .i64 0)], none⟩]
def JuF : List COper := JrL
instance : Reg JuF JrL 1 := ⟨rfl, rfl⟩
@[simp] def JsH : List COper := [
  ⟨(some 15), .bin .lss, [.t 14, .c (.int .i64 32)], none⟩]
def Jrb : List COper := JsH
instance : Reg Jrb JsH 1 := ⟨rfl, rfl⟩
@[simp] def JtD : List COper := [
  oq 16 (.faddr 1 2 true) [.t 3], oq 17 (.faddr 0 1 false) [.t 16], oq 18 (.load false 1) [.t 17], om 19 0, oq 20 (.call Ji) [.t 19], oq 21 (.bslice 32 1 (.arr 1 (rep 32 (.v (.int .u8 0)))) [0]) [.t 20], oq 22 (.app 32 32) [.t 18, .t 21], oq 23 (.faddr 1 2 true) [.t 3], oq 24 (.faddr 0 1 false) [.t 23],
  ⟨none, .store false 1, [.t 24, .t 22], none⟩]
def Jrt : List COper := JtD
instance : Reg Jrt JtD 10 := ⟨rfl, rfl⟩
@[simp] def Jrd : List COper := [
  oq 25 (.bin .add) [.t 14, .c (.int .i64 1)], om 14 25]
def Jtl : List COper := Jrd
instance : Reg Jtl Jrd 2 := ⟨rfl, rfl⟩
@[simp] def Jvb : List COper := [
  ⟨(some 26), .mov, [.c (.int .i64 0)], none⟩]
def Jsa : List COper := Jvb
instance : Reg Jsa Jvb 1 := ⟨rfl, rfl⟩
@[simp] def JnS : List COper := [
  ⟨(some 27), .bin .lss, [.t 26, .c (.int .i64 32)], none⟩]
def Jqk : List COper := JnS
instance : Reg Jqk JnS 1 := ⟨rfl, rfl⟩
@[simp] def Jqg : List COper := [
  oq 28 (.faddr 1 2 true) [.t 3], oq 29 (.faddr 1 1 false) [.t 28], oq 30 (.load false 1) [.t 29], om 31 0, oq 32 (.call Ji) [.t 31], oq 33 (.bslice 32 1 (.arr 1 (rep 32 (.v (.int .u8 0)))) [0]) [.t 32], oq 34 (.app 32 32) [.t 30, .t 33], oq 35 (.faddr 1 2 true) [.t 3], oq 36 (.faddr 1 1 false) [.t 35],
  ⟨none, .store false 1, [.t 36, .t 34], none⟩]
def Jqv : List COper := Jqg
instance : Reg Jqv Jqg 10 := ⟨rfl, rfl⟩
@[simp] def JoU : List COper := [
  oq 37 (.bin .add) [.t 26, .c (.int .i64 1)], om 26 37]
def JmG : List COper := JoU
instance : Reg JmG JoU 2 := ⟨rfl, rfl⟩
@[simp] def JpW : List COper := [
  om 38 4,
  ⟨(some 39), .mov, [.c (.int .i64 0)], none⟩]
def Jm7 : List COper := JpW
instance : Reg Jm7 JpW 2 := ⟨rfl, rfl⟩
@[simp] def Jo5 : List COper := [
  ⟨(some 40), .bin .lss, [.t 39, .t 38], none⟩]
def Jme : List COper := Jo5
instance : Reg Jme Jo5 1 := ⟨rfl, rfl⟩
@[simp] def Jm9 : List COper := [
  oq 41 (.faddr 3 1 false) [.t 3], oq 42 (.load false 1) [.t 41], om 43 0, oq 44 (.call Ji) [.t 43], oq 45 (.bslice 32 1 (.arr 1 (rep 32 (.v (.int .u8 0)))) [0]) [.t 44], oq 46 (.app 32 32) [.t 42, .t 45], oq 47 (.faddr 3 1 false) [.t 3],
  ⟨none, .store false 1, [.t 47, .t 46], none⟩]
def Jpu : List COper := Jm9
instance : Reg Jpu Jm9 8 := ⟨rfl, rfl⟩
@[simp] def Jpg : List COper := [
  oq 48 (.bin .add) [.t 39, .c (.int .i64 1)], om 39 48]
def JoR : List COper := Jpg
instance : Reg JoR Jpg 2 := ⟨rfl, rfl⟩
@[simp] def Jqn : List COper := [
  om 49 0, oq 50 (.call Jk) [.t 49],
  ⟨(some 51), .not, [.t 50], none⟩]
def Jof : List COper := Jqn
instance : Reg Jof Jqn 3 := ⟨rfl, rfl⟩
@[simp] def Jns : List COper := [
  oq 52 (.build [.v (.int .i64 0), .node [.v (.slice none 0 0), .v (.slice none 0 0)], .v (.slice none 0 0)] []) [],
  ⟨none, .store true 4, [.t 2, .t 52], none⟩]
def JoV : List COper := Jns
instance : Reg JoV Jns 2 := ⟨rfl, rfl⟩
@[simp] def JoT : List COper := [
  oq 53 (.load true 4) [.t 3],
  ⟨none, .store true 4, [.t 2, .t 53], none⟩]
def Jm8 : List COper := JoT
instance : Reg Jm8 JoT 2 := ⟨rfl, rfl⟩
@[simp] def JIH : CCode :=
  .seq (.region Jsr none [0, 2]) (.seq (.region Jsm none [0, 2, 3]) (.seq (.region Jt3 none [0, 2, 3, 4]) (.seq (.seq (.region JsN none [0, 2, 3, 4, 12]) (.cond (.t 12) (.seq (.region JqW none [2]) (.ret)) (.skip))) (.seq (.seq (.region JuF none [0, 2, 3, 4, 14]) (.block 0 (.loop (.seq (.region Jrb none [0, 2, 3, 4, 14, 15]) (.seq (.cond (.t 15) (.skip) (.exit 0)) (.seq (.block 1 (.region Jrt (some ([0, 1, 3, 0, 8, 24, 63, 127, 255, 511], [(2, 4), (2, 5)])) [0, 2, 3, 4, 14])) (.region Jtl none [0, 2, 3, 4, 14]))))))) (.seq (.seq (.region Jsa none [0, 2, 3, 4, 26]) (.block 2 (.loop (.seq (.region Jqk none [0, 2, 3, 4, 26, 27]) (.seq (.cond (.t 27) (.skip) (.exit 2)) (.seq (.block 3 (.region Jqv (some ([0, 1, 3, 0, 8, 24, 63, 127, 255, 511], [(2, 4), (2, 5)])) [0, 2, 3, 4, 26])) (.region JmG none [0, 2, 3, 4, 26]))))))) (.seq (.seq (.region Jm7 none [0, 2, 3, 38, 39]) (.block 4 (.loop (.seq (.region Jme none [0, 2, 3, 38, 39, 40]) (.seq (.cond (.t 40) (.skip) (.exit 4)) (.seq (.block 5 (.region Jpu (some ([0, 1, 0, 4, 12, 31, 63, 127], [(1, 3), (1, 4)])) [0, 2, 3, 38, 39])) (.region JoR none [0, 2, 3, 38, 39]))))))) (.seq (.seq (.region Jof none [2, 3, 51]) (.cond (.t 51) (.seq (.region JoV none [2]) (.ret)) (.skip))) (.seq (.region Jm8 none [2]) (.ret)))))))))
@[simp] def JIq : List CRes := [.cell 2 true 4]
theorem JIu : chkFn Tryd.prog Jib JIH JIq 1 = true := by kernel_rfl
@[simp] def JgT : List COper := [
  ⟨(some 2), .mov, [.c (.int .i64 0)], none⟩]
def JgZ : List COper := JgT
instance : Reg JgZ JgT 1 := ⟨rfl, rfl⟩
@[simp] def JgL : List COper := [
  om 6 0, oq 7 (.call Jy) [.t 6, .c (.int .i64 8)], om 3 7]
def JgV : List COper := JgL
instance : Reg JgV JgL 3 := ⟨rfl, rfl⟩
@[simp] def Jg6 : List COper := [
  ⟨(some 4), .mov, [.c (.int .i64 0)], none⟩]
def Jg3 : List COper := Jg6
instance : Reg Jg3 Jg6 1 := ⟨rfl, rfl⟩
@[simp] def Jhh : List COper := [
  ⟨(some 5), .mov, [.c (.int .i64 0)], none⟩]
def JgF : List COper := Jhh
instance : Reg JgF Jhh 1 := ⟨rfl, rfl⟩
@[simp] def Jg7 : List COper := [
  om 8 5, om 9 3, oq 10 .lenS [.t 9],
  ⟨(some 11), .bin .lss, [.t 8, .t 10], none⟩]
def JgR : List COper := Jg7
instance : Reg JgR Jg7 4 := ⟨rfl, rfl⟩
@[simp] def JgH : List COper := [
  om 14 4, oq 15 (.bin .shl) [.t 14, .c (.int .u64 8)], om 16 3, om 17 5, oq 18 .idxS [.t 16, .t 17], oq 19 (.convI .i64) [.t 18], oq 20 (.bin .or) [.t 15, .t 19], om 4 20]
def Jhd : List COper := JgH
instance : Reg Jhd JgH 8 := ⟨rfl, rfl⟩
@[simp] def JgC : List COper := [
  om 12 5, oq 13 (.bin .add) [.t 12, .c (.int .i64 1)], om 5 13]
def Jg4 : List COper := JgC
instance : Reg Jg4 JgC 3 := ⟨rfl, rfl⟩
@[simp] def JgU : List COper := [
  om 21 4, om 2 21]
def JgB : List COper := JgU
instance : Reg JgB JgU 2 := ⟨rfl, rfl⟩
@[simp] def JC4 : CCode :=
  .seq (.region JgZ none [0]) (.seq (.region JgV none [3]) (.seq (.region Jg3 none [3, 4]) (.seq (.seq (.region JgF none [3, 4, 5]) (.block 0 (.loop (.seq (.seq (.region JgR none [3, 4, 5, 11]) (.cond (.t 11) (.skip) (.exit 0))) (.seq (.block 1 (.region Jhd none [3, 4, 5])) (.region Jg4 none [3, 4, 5])))))) (.seq (.region JgB none [2]) (.ret)))))
@[simp] def JC6 : List CRes := [.tmp 2]
theorem JC9 : chkFn Tryd.prog JB JC4 JC6 1 = true := by kernel_rfl
@[simp] def JfR : List COper := [
  ⟨(some 4), .mov, [.c (.string (mkS []))], none⟩]
def Jfg : List COper := JfR
instance : Reg Jfg JfR 1 := ⟨rfl, rfl⟩
@[simp] def JfL : List COper := [
  om 6 0, oq 7 .nilc [.t 6], oq 8 (.faddr 1 1 false) [.t 7], oq 9 (.load false 1) [.t 8], om 10 9,
  ⟨(some 11), .mov, [.t 1], (some (10, false))⟩,
  ⟨(some 12), .bin .lss, [.t 11, .c (.int .i64 0)], (some (10, false))⟩, oq 13 .pick [.t 10, .c (.bool true), .t 12], om 14 13,
  ⟨(some 15), .mov, [.t 1], (some (14, false))⟩,
  ⟨(some 16), .mov, [.t 0], (some (14, false))⟩,
  ⟨(some 17), .nilc, [.t 16], (some (14, false))⟩,
  ⟨(some 18), .faddr 0 1 false, [.t 17], (some (14, false))⟩,
  ⟨(some 19), .load false 1, [.t 18], (some (14, false))⟩,
  ⟨(some 20), .lenS, [.t 19], (some (14, false))⟩,
  ⟨(some 21), .bin .gtr, [.t 15, .t 20], (some (14, false))⟩,
  ⟨(some 22), .pick, [.t 14, .c (.bool true), .t 21], none⟩]
def JeE : List COper := JfL
instance : Reg JeE JfL 17 := ⟨rfl, rfl⟩
@[simp] def Jft : List COper := [
  om 23 0, oq 24 .nilc [.t 23], oq 25 (.faddr 1 1 false) [.t 24],
  ⟨none, .store false 1, [.t 25, .c (.bool true)], none⟩]
def JfK : List COper := Jft
instance : Reg JfK Jft 4 := ⟨rfl, rfl⟩
@[simp] def JfQ : List COper := [
  om 26 0, oq 27 .nilc [.t 26], oq 28 (.faddr 0 1 false) [.t 27],
  ⟨none, .store false 1, [.t 28, .c (.string (mkS []))], none⟩]
def Jfx : List COper := JfQ
instance : Reg Jfx JfQ 4 := ⟨rfl, rfl⟩
@[simp] def JfA : List COper := [
  ⟨(some 4), .mov, [.c (.string (mkS []))], none⟩]
def Jfv : List COper := JfA
instance : Reg Jfv JfA 1 := ⟨rfl, rfl⟩
@[simp] def Je0 : List COper := [
  om 29 0, oq 30 .nilc [.t 29], oq 31 (.faddr 0 1 false) [.t 30], oq 32 (.load false 1) [.t 31], om 33 1, oq 34 (.sliceStr false true) [.t 32, .t 33], om 5 34]
def JeS : List COper := Je0
instance : Reg JeS Je0 7 := ⟨rfl, rfl⟩
@[simp] def JeA : List COper := [
  om 35 0, om 36 0, oq 37 .nilc [.t 36], oq 38 (.faddr 0 1 false) [.t 37], oq 39 (.load false 1) [.t 38], om 40 1, oq 41 (.sliceStr true false) [.t 39, .t 40], oq 42 .nilc [.t 35], oq 43 (.faddr 0 1 false) [.t 42],
  ⟨none, .store false 1, [.t 43, .t 41], none⟩]
def Jga : List COper := JeA
instance : Reg Jga JeA 10 := ⟨rfl, rfl⟩
@[simp] def Jew : List COper := [
  om 44 5, om 4 44]
def Jf6 : List COper := Jew
instance : Reg Jf6 Jew 2 := ⟨rfl, rfl⟩
@[simp] def JAT : CCode :=
  .seq (.region Jfg none [0, 1]) (.seq (.seq (.region JeE none [0, 1, 22]) (.cond (.t 22) (.seq (.region JfK none [0]) (.seq (.region Jfx none []) (.seq (.region Jfv none [4]) (.ret)))) (.skip))) (.seq (.region JeS none [0, 1, 5]) (.seq (.region Jga none [5]) (.seq (.region Jf6 none [4]) (.ret)))))
@[simp] def JAU : List CRes := [.tmp 4]
theorem JAV : chkFn Tryd.prog Jy JAT JAU 2 = true := by kernel_rfl
@[simp] def Jb5 : List COper := [
  ⟨(some 2), .alloc (.arr 1 (rep 32 (.v (.int .u8 0)))), [], none⟩]
def Jb2 : List COper := Jb5
instance : Reg Jb2 Jb5 1 := ⟨rfl, rfl⟩
@[simp] def Jb6 : List COper := [
  ⟨(some 3), .alloc (.arr 1 (rep 32 (.v (.int .u8 0)))), [], none⟩]
def Jb0 : List COper := Jb6
instance : Reg Jb0 Jb6 1 := ⟨rfl, rfl⟩
@[simp] def Jb9 : List COper := [
  om 6 0, oq 7 (.call Jy) [.t 6, .c (.int .i64 32)], om 4 7]
def Jcp : List COper := Jb9
instance : Reg Jcp Jb9 3 := ⟨rfl, rfl⟩
@[simp] def Jb4 : List COper := [
  ⟨(some 5), .mov, [.c (.int .i64 0)], none⟩]
def Jce : List COper := Jb4
instance : Reg Jce Jb4 1 := ⟨rfl, rfl⟩
@[simp] def JbZ : List COper := [
  om 8 5, om 9 4, oq 10 .lenS [.t 9],
  ⟨(some 11), .bin .lss, [.t 8, .t 10], none⟩]
def Jb8 : List COper := JbZ
instance : Reg Jb8 JbZ 4 := ⟨rfl, rfl⟩
@[simp] def Jcf : List COper := [
  om 14 5, om 15 4, om 16 5, oq 17 .idxS [.t 15, .t 16], oq 18 (.iaddrArr 32 1 false) [.t 3, .t 14],
  ⟨none, .store false 1, [.t 18, .t 17], none⟩]
def Jcl : List COper := Jcf
instance : Reg Jcl Jcf 6 := ⟨rfl, rfl⟩
@[simp] def Jcm : List COper := [
  om 12 5, oq 13 (.bin .add) [.t 12, .c (.int .i64 1)], om 5 13]
def Jca : List COper := Jcm
instance : Reg Jca Jcm 3 := ⟨rfl, rfl⟩
@[simp] def Jci : List COper := [
  oq 19 (.load true 32) [.t 3],
  ⟨none, .store true 32, [.t 2, .t 19], none⟩]
def JbX : List COper := Jci
instance : Reg JbX Jci 2 := ⟨rfl, rfl⟩
@[simp] def Jvj : CCode :=
  .seq (.region Jb2 none [0, 2]) (.seq (.region Jb0 none [0, 2, 3]) (.seq (.region Jcp none [2, 3, 4]) (.seq (.seq (.region Jce none [2, 3, 4, 5]) (.block 0 (.loop (.seq (.seq (.region Jb8 none [2, 3, 4, 5, 11]) (.cond (.t 11) (.skip) (.exit 0))) (.seq (.block 1 (.region Jcl none [2, 3, 4, 5])) (.region Jca none [2, 3, 4, 5])))))) (.seq (.region JbX none [2]) (.ret)))))
@[simp] def Jvs : List CRes := [.cell 2 true 32]
theorem Jve : chkFn Tryd.prog Jn Jvj Jvs 1 = true := by kernel_rfl
@[simp] def Jxn : List COper := [
  ⟨(some 2), .alloc (.node [.v (.int .i64 0), .node [.v (.slice none 0 0), .v (.slice none 0 0)], .v (.slice none 0 0)]), [], none⟩]
def Jza : List COper := Jxn
instance : Reg Jza Jxn 1 := ⟨rfl, rfl⟩
@[simp] def JyF : List COper := [
  om 7 0, oq 8 (.call JB) [.t 7], oq 9 (.build [.v (.int .i64 0), .node [.v (.slice none 0 0), .v (.slice none 0 0)], .v (.slice none 0 0)] [0]) [.t 8], oq 3 (.alloc (.node [.v (.int .i64 0), .node [.v (.slice none 0 0), .v (.slice none 0 0)], .v (.slice none 0 0)])) [],
  ⟨none, .store true 4, [.t 3, .t 9], none⟩]
def JvO : List COper := JyF
instance : Reg JvO JyF 5 := ⟨rfl, rfl⟩
@[simp] def Jw0 : List COper := [
  om 10 0, oq 11 (.call Jf) [.t 10, .c (.int .i64 0), .c (.int .i64 6)], om 4 11]
def Jxa : List COper := Jw0
instance : Reg Jxa Jw0 3 := ⟨rfl, rfl⟩
@[simp] def JwE : List COper := [
  ⟨(some 5), .mov, [.c (.int .i64 0)], none⟩]
def JwO : List COper := JwE
instance : Reg JwO JwE 1 := ⟨rfl, rfl⟩
@[simp] def JyC : List COper := [
  om 12 5, om 13 4, oq 14 (.bin .add) [.c (.int .i64 64), .t 13], oq 15 (.bin .lss) [.t 12, .t 14], om 16 15,
  ⟨(some 17), .mov, [.t 0], (some (16, true))⟩,
  ⟨(some 18), .call Jj, [.t 17], (some (16, true))⟩,
  ⟨(some 19), .pick, [.t 16, .t 18, .c (.bool false)], none⟩]
def Jyf : List COper := JyC
instance : Reg Jyf JyC 8 := ⟨rfl, rfl⟩
@[simp] def Jw3 : List COper := [
  om 22 0, oq 23 (.call Jn) [.t 22], oq 6 (.alloc (.arr 1 (rep 32 (.v (.int .u8 0))))) [],
  ⟨none, .store true 32, [.t 6, .t 23], none⟩]
def JAm : List COper := Jw3
instance : Reg JAm Jw3 4 := ⟨rfl, rfl⟩
@[simp] def Jzi : List COper := [
  om 24 5,
  ⟨(some 25), .bin .lss, [.t 24, .c (.int .i64 32)], none⟩]
def JxY : List COper := Jzi
instance : Reg JxY Jzi 2 := ⟨rfl, rfl⟩
@[simp] def Jwd : List COper := [
  oq 26 (.faddr 1 2 true) [.t 3], oq 27 (.faddr 0 1 false) [.t 26], oq 28 (.load false 1) [.t 27], oq 29 (.load true 32) [.t 6], oq 30 (.bslice 32 1 (.arr 1 (rep 32 (.v (.int .u8 0)))) [0]) [.t 29], oq 31 (.app 32 32) [.t 28, .t 30], oq 32 (.faddr 1 2 true) [.t 3], oq 33 (.faddr 0 1 false) [.t 32],
  ⟨none, .store false 1, [.t 33, .t 31], none⟩]
def JwT : List COper := Jwd
instance : Reg JwT Jwd 9 := ⟨rfl, rfl⟩
@[simp] def JAO : List COper := [
  om 34 5,
  ⟨(some 35), .bin .lss, [.t 34, .c (.int .i64 64)], none⟩]
def JyM : List COper := JAO
instance : Reg JyM JAO 2 := ⟨rfl, rfl⟩
@[simp] def Jtm : List COper := [
  oq 36 (.faddr 1 2 true) [.t 3], oq 37 (.faddr 1 1 false) [.t 36], oq 38 (.load false 1) [.t 37], oq 39 (.load true 32) [.t 6], oq 40 (.bslice 32 1 (.arr 1 (rep 32 (.v (.int .u8 0)))) [0]) [.t 39], oq 41 (.app 32 32) [.t 38, .t 40], oq 42 (.faddr 1 2 true) [.t 3], oq 43 (.faddr 1 1 false) [.t 42],
  ⟨none, .store false 1, [.t 43, .t 41], none⟩]
def Jsv : List COper := Jtm
instance : Reg Jsv Jtm 9 := ⟨rfl, rfl⟩
@[simp] def Jtn : List COper := [
  oq 44 (.faddr 3 1 false) [.t 3], oq 45 (.load false 1) [.t 44], oq 46 (.load true 32) [.t 6], oq 47 (.bslice 32 1 (.arr 1 (rep 32 (.v (.int .u8 0)))) [0]) [.t 46], oq 48 (.app 32 32) [.t 45, .t 47], oq 49 (.faddr 3 1 false) [.t 3],
  ⟨none, .store false 1, [.t 49, .t 48], none⟩]
def Ju4 : List COper := Jtn
instance : Reg Ju4 Jtn 7 := ⟨rfl, rfl⟩
@[simp] def Jwy : List COper := [
  om 20 5, oq 21 (.bin .add) [.t 20, .c (.int .i64 1)], om 5 21]
def JxJ : List COper := Jwy
instance : Reg JxJ Jwy 3 := ⟨rfl, rfl⟩
@[simp] def JuP : List COper := [
  om 50 0, oq 51 (.call Jj) [.t 50],
  ⟨(some 52), .not, [.t 51], none⟩]
def JsT : List COper := JuP
instance : Reg JsT JuP 3 := ⟨rfl, rfl⟩
@[simp] def Juh : List COper := [
  oq 53 (.build [.v (.int .i64 0), .node [.v (.slice none 0 0), .v (.slice none 0 0)], .v (.slice none 0 0)] []) [],
  ⟨none, .store true 4, [.t 2, .t 53], none⟩]
def Jty : List COper := Juh
instance : Reg Jty Juh 2 := ⟨rfl, rfl⟩
@[simp] def JsG : List COper := [
  oq 54 (.load true 4) [.t 3],
  ⟨none, .store true 4, [.t 2, .t 54], none⟩]
def Jtb : List COper := JsG
instance : Reg Jtb JsG 2 := ⟨rfl, rfl⟩
@[simp] def JKU : CCode :=
  .seq (.region Jza none [0, 2]) (.seq (.region JvO none [0, 2, 3]) (.seq (.region Jxa none [0, 2, 3, 4]) (.seq (.seq (.region JwO none [0, 2, 3, 4, 5]) (.block 0 (.loop (.seq (.seq (.region Jyf none [0, 2, 3, 4, 5, 19]) (.cond (.t 19) (.skip) (.exit 0))) (.seq (.block 1 (.seq (.region JAm none [0, 2, 3, 4, 5, 6]) (.seq (.region JxY none [0, 2, 3, 4, 5, 6, 25]) (.cond (.t 25) (.region JwT none [0, 2, 3, 4, 5]) (.seq (.region JyM none [0, 2, 3, 4, 5, 6, 35]) (.cond (.t 35) (.region Jsv none [0, 2, 3, 4, 5]) (.region Ju4 none [0, 2, 3, 4, 5]))))))) (.region JxJ none [0, 2, 3, 4, 5])))))) (.seq (.seq (.region JsT none [2, 3, 52]) (.cond (.t 52) (.seq (.region Jty none [2]) (.ret)) (.skip))) (.seq (.region Jtb none [2]) (.ret))))))
@[simp] def JLt : List CRes := [.cell 2 true 4]
theorem JLh : chkFn Tryd.prog JjW JKU JLt 1 = true := by kernel_rfl
@[simp] def JbR : List COper := [
  om 6 0,
  ⟨(some 7), .eqp false, [.t 6, .c (.pointer none)], none⟩]
def JbN : List COper := JbR
instance : Reg JbN JbR 2 := ⟨rfl, rfl⟩
@[simp] def JbP : List COper := [
  om 8 1, oq 9 .len [.t 8],
  ⟨(some 10), .mov, [.c (.int .i64 0)], none⟩]
def Jbz : List COper := JbP
instance : Reg Jbz JbP 3 := ⟨rfl, rfl⟩
@[simp] def Jbt : List COper := [
  ⟨(some 11), .bin .lss, [.t 10, .t 9], none⟩]
def Jbu : List COper := Jbt
instance : Reg Jbu Jbt 1 := ⟨rfl, rfl⟩
@[simp] def Jby : List COper := [
  oq 12 (.iaddr 32) [.t 8, .t 10], oq 13 (.load true 32) [.t 12], oq 5 (.alloc (.arr 1 (rep 32 (.v (.int .u8 0))))) [],
  ⟨none, .store true 32, [.t 5, .t 13], none⟩]
def JbF : List COper := Jby
instance : Reg JbF Jby 4 := ⟨rfl, rfl⟩
@[simp] def Jbv : List COper := [
  om 14 0, om 15 0, oq 16 .nilc [.t 15], oq 17 (.faddr 0 1 false) [.t 16], oq 18 (.load false 1) [.t 17], oq 19 (.sliceArr 32 1 false false) [.t 5], oq 20 (.app 1 1) [.t 18, .t 19], oq 21 .nilc [.t 14], oq 22 (.faddr 0 1 false) [.t 21],
  ⟨none, .store false 1, [.t 22, .t 20], none⟩]
def JbB : List COper := Jbv
instance : Reg JbB Jbv 10 := ⟨rfl, rfl⟩
@[simp] def JbO : List COper := [
  oq 23 (.bin .add) [.t 10, .c (.int .i64 1)], om 10 23]
def JbI : List COper := JbO
instance : Reg JbI JbO 2 := ⟨rfl, rfl⟩
@[simp] def JqM : CCode :=
  .seq (.seq (.region JbN none [0, 1, 7]) (.cond (.t 7) (.ret) (.skip))) (.seq (.region Jbz none [0, 8, 9, 10]) (.block 0 (.loop (.seq (.region Jbu none [0, 8, 9, 10, 11]) (.seq (.cond (.t 11) (.skip) (.exit 0)) (.seq (.block 1 (.seq (.region JbF none [0, 5, 8, 9, 10]) (.region JbB (some ([0, 0, 2, 6, 14, 0, 62, 127, 255, 511], [])) [0, 8, 9, 10]))) (.region JbI none [0, 8, 9, 10])))))))
@[simp] def JqP : List CRes := []
theorem JqL : chkFn Tryd.prog Jl JqM JqP 2 = true := by kernel_rfl
@[simp] def Jh5 : List COper := [
  ⟨(some 3), .box, [.t 1], none⟩]
def Jh2 : List COper := Jh5
instance : Reg Jh2 Jh5 1 := ⟨rfl, rfl⟩
@[simp] def JhJ : List COper := [
  oq 5 (.faddr 2 40 true) [.t 3], oq 6 (.faddr 4 36 true) [.t 5], oq 7 (.load true 36) [.t 6], oq 4 (.alloc (.node [.v (.int .i64 0), .v (.int .i64 0), .v (.int .i64 0), .node [.arr 1 (rep 32 (.v (.int .u8 0))), .v (.int .i64 0)]])) [],
  ⟨none, .store true 36, [.t 4, .t 7], none⟩]
def Jh6 : List COper := JhJ
instance : Reg Jh6 JhJ 5 := ⟨rfl, rfl⟩
@[simp] def Jhx : List COper := [
  om 8 0, oq 9 (.faddr 0 1 false) [.t 3], oq 10 (.load false 1) [.t 9], oq 11 (.faddr 1 1 false) [.t 3], oq 12 (.load false 1) [.t 11], oq 13 (.faddr 2 40 true) [.t 3], oq 14 (.faddr 0 1 false) [.t 13], oq 15 (.load false 1) [.t 14], oq 16 (.bslice 1 3 (.v (.int .i64 0)) [0, 1, 2]) [.t 10, .t 12, .t 15],
  ⟨(some 17), .call Jm, [.t 8, .t 16], none⟩]
def Jhp : List COper := Jhx
instance : Reg Jhp Jhx 10 := ⟨rfl, rfl⟩
@[simp] def Jil : List COper := [
  om 18 0, oq 19 (.faddr 2 40 true) [.t 3], oq 20 (.faddr 1 1 false) [.t 19], oq 21 (.load false 1) [.t 20], oq 22 (.faddr 2 40 true) [.t 3], oq 23 (.faddr 2 1 false) [.t 22], oq 24 (.load false 1) [.t 23], oq 25 (.faddr 2 40 true) [.t 3], oq 26 (.faddr 3 1 false) [.t 25], oq 27 (.load false 1) [.t 26], oq 28 (.bslice 1 3 (.v (.string (mkS []))) [0, 1, 2]) [.t 21, .t 24, .t 27],
  ⟨(some 29), .call Jbr, [.t 18, .t 28], none⟩]
def JhH : List COper := Jil
instance : Reg JhH Jil 12 := ⟨rfl, rfl⟩
@[simp] def Jic : List COper := [
  om 30 0, oq 31 (.faddr 0 1 false) [.t 4], oq 32 (.load false 1) [.t 31], oq 33 (.faddr 1 1 false) [.t 4], oq 34 (.load false 1) [.t 33], oq 35 (.faddr 2 1 false) [.t 4], oq 36 (.load false 1) [.t 35], oq 37 (.faddr 3 33 true) [.t 4], oq 38 (.faddr 32 1 false) [.t 37], oq 39 (.load false 1) [.t 38], oq 40 (.bslice 1 4 (.v (.int .i64 0)) [0, 1, 2, 3]) [.t 32, .t 34, .t 36, .t 39],
  ⟨(some 41), .call Jm, [.t 30, .t 40], none⟩]
def JhD : List COper := Jic
instance : Reg JhD Jic 12 := ⟨rfl, rfl⟩
@[simp] def JhW : List COper := [
  om 42 0, oq 43 (.faddr 3 33 true) [.t 4], oq 44 (.faddr 0 32 true) [.t 43], oq 45 (.load true 32) [.t 44], oq 46 (.bslice 32 1 (.arr 1 (rep 32 (.v (.int .u8 0)))) [0]) [.t 45],
  ⟨(some 47), .call Jl, [.t 42, .t 46], none⟩]
def JhO : List COper := JhW
instance : Reg JhO JhW 6 := ⟨rfl, rfl⟩
@[simp] def JDr : CCode :=
  .seq (.region Jh2 none [0, 3]) (.seq (.region Jh6 none [0, 3, 4]) (.seq (.region Jhp none [0, 3, 4]) (.seq (.region JhH none [0, 4]) (.seq (.region JhD none [0, 4]) (.region JhO none [])))))
@[simp] def JEx : List CRes := []
theorem JD3 : chkFn Tryd.prog Jep JDr JEx 2 = true := by kernel_rfl
@[simp] def JmA : List COper := [
  oq 1 .box [.t 0],
  ⟨(some 2), .mov, [.c (.string (mkS []))], none⟩]
def JnC : List COper := JmA
instance : Reg JnC JmA 2 := ⟨rfl, rfl⟩
@[simp] def Jn5 : List COper := [
  oq 3 (.sliceArr 32 1 false false) [.t 1], oq 4 .convS [.t 3], om 2 4]
def Jl7 : List COper := Jn5
instance : Reg Jl7 Jn5 3 := ⟨rfl, rfl⟩
@[simp] def JGS : CCode :=
  .seq (.region JnC none [1]) (.seq (.region Jl7 none [2]) (.ret))
@[simp] def JGU : List CRes := [.tmp 2]
theorem JGj : chkFn Tryd.prog JP JGS JGU 1 = true := by kernel_rfl
@[simp] def Ju1 : List COper := [
  oq 1 .box [.t 0],
  ⟨(some 2), .mov, [.c (.string (mkS []))], none⟩]
def JsL : List COper := Ju1
instance : Reg JsL Ju1 2 := ⟨rfl, rfl⟩
@[simp] def JrB : List COper := [
  oq 5 (.faddr 2 40 true) [.t 1], oq 6 (.load true 40) [.t 5], oq 3 (.alloc (.node [.v (.int .i64 0), .v (.string (mkS [])), .v (.string (mkS [])), .v (.string (mkS [])), .node [.v (.int .i64 0), .v (.int .i64 0), .v (.int .i64 0), .node [.arr 1 (rep 32 (.v (.int .u8 0))), .v (.int .i64 0)]]])) [],
  ⟨none, .store true 40, [.t 3, .t 6], none⟩]
def Jui : List COper := JrB
instance : Reg Jui JrB 4 := ⟨rfl, rfl⟩
@[simp] def Juv : List COper := [
  oq 7 (.faddr 0 1 false) [.t 1], oq 8 (.load false 1) [.t 7], oq 9 (.faddr 1 1 false) [.t 1], oq 10 (.load false 1) [.t 9], oq 11 (.faddr 0 1 false) [.t 3], oq 12 (.load false 1) [.t 11], oq 13 (.bslice 1 3 (.v (.int .i64 0)) [0, 1, 2]) [.t 8, .t 10, .t 12], oq 14 (.call JjX) [.t 13], oq 15 (.faddr 1 1 false) [.t 3], oq 16 (.load false 1) [.t 15], oq 17 (.call Jg2) [.t 16], oq 18 (.bin .add) [.t 14, .t 17], oq 19 (.faddr 2 1 false) [.t 3], oq 20 (.load false 1) [.t 19], oq 21 (.call Jg2) [.t 20], oq 22 (.bin .add) [.t 18, .t 21], oq 23 (.faddr 3 1 false) [.t 3], oq 24 (.load false 1) [.t 23], oq 25 (.call Jg2) [.t 24], oq 26 (.bin .add) [.t 22, .t 25], om 4 26]
def Jtp : List COper := Juv
instance : Reg Jtp Juv 21 := ⟨rfl, rfl⟩
@[simp] def Jq8 : List COper := [
  om 27 4, oq 28 (.faddr 4 36 true) [.t 3], oq 29 (.faddr 0 1 false) [.t 28], oq 30 (.load false 1) [.t 29], oq 31 (.faddr 4 36 true) [.t 3], oq 32 (.faddr 1 1 false) [.t 31], oq 33 (.load false 1) [.t 32], oq 34 (.faddr 4 36 true) [.t 3], oq 35 (.faddr 2 1 false) [.t 34], oq 36 (.load false 1) [.t 35], oq 37 (.faddr 4 36 true) [.t 3], oq 38 (.faddr 3 33 true) [.t 37], oq 39 (.faddr 32 1 false) [.t 38], oq 40 (.load false 1) [.t 39], oq 41 (.bslice 1 4 (.v (.int .i64 0)) [0, 1, 2, 3]) [.t 30, .t 33, .t 36, .t 40], oq 42 (.call JjX) [.t 41], oq 43 (.bin .add) [.t 27, .t 42], oq 44 (.faddr 4 36 true) [.t 3], oq 45 (.faddr 3 33 true) [.t 44], oq 46 (.faddr 0 32 true) [.t 45], oq 47 (.load true 32) [.t 46], oq 48 (.call JP) [.t 47], oq 49 (.bin .add) [.t 43, .t 48], om 2 49]
def Jq1 : List COper := Jq8
instance : Reg Jq1 Jq8 24 := ⟨rfl, rfl⟩
@[simp] def JJg : CCode :=
  .seq (.region JsL none [1]) (.seq (.region Jui none [1, 3]) (.seq (.region Jtp (some ([0, 1, 0, 4, 0, 16, 63, 127, 0, 256, 1023, 2047, 0, 4096, 14335, 32767, 0, 65536, 227327, 524287, 1048575], [(6, 9), (7, 9), (6, 13), (7, 13), (10, 13), (6, 17), (7, 17), (10, 17), (14, 17)])) [3, 4]) (.seq (.region Jq1 (some ([0, 0, 2, 6, 0, 16, 48, 0, 128, 384, 0, 1024, 3072, 7168, 16382, 32766, 65535, 0, 131072, 393216, 917504, 2031614, 4194303, 8388607], [(14, 20), (15, 20)])) [2]) (.ret))))
@[simp] def JIB : List CRes := [.tmp 2]
theorem JIz : chkFn Tryd.prog Jpx JJg JIB 1 = true := by kernel_rfl
@[simp] def JiQ : List COper := [
  ⟨(some 2), .alloc (.node [.v (.int .i64 0), .v (.int .i64 0), .node [.v (.int .i64 0), .v (.string (mkS [])), .v (.string (mkS [])), .v (.string (mkS [])), .node [.v (.int .i64 0), .v (.int .i64 0), .v (.int .i64 0), .node [.arr 1 (rep 32 (.v (.int .u8 0))), .v (.int .i64 0)]]]]), [], none⟩]
def Jjv : List COper := JiQ
instance : Reg Jjv JiQ 1 := ⟨rfl, rfl⟩
@[simp] def JjB : List COper := [
  om 4 0, oq 5 (.call Jd) [.t 4, .c (.int .i64 1), .c (.int .i64 64)], om 6 0, oq 7 (.call Jd) [.t 6, .c (.int .i64 1), .c (.int .i64 1099511627776)], oq 8 (.build [.v (.int .i64 0), .v (.int .i64 0), .node [.v (.int .i64 0), .v (.string (mkS [])), .v (.string (mkS [])), .v (.string (mkS [])), .node [.v (.int .i64 0), .v (.int .i64 0), .v (.int .i64 0), .node [.arr 1 (rep 32 (.v (.int .u8 0))), .v (.int .i64 0)]]]] [0, 1]) [.t 5, .t 7], oq 3 (.alloc (.node [.v (.int .i64 0), .v (.int .i64 0), .node [.v (.int .i64 0), .v (.string (mkS [])), .v (.string (mkS [])), .v (.string (mkS [])), .node [.v (.int .i64 0), .v (.int .i64 0), .v (.int .i64 0), .node [.arr 1 (rep 32 (.v (.int .u8 0))), .v (.int .i64 0)]]]])) [],
  ⟨none, .store true 42, [.t 3, .t 8], none⟩]
def Jjq : List COper := JjB
instance : Reg Jjq JjB 7 := ⟨rfl, rfl⟩
@[simp] def JiG : List COper := [
  om 9 0, oq 10 (.call Jd) [.t 9, .c (.int .i64 1), .c (.int .i64 7)], oq 11 (.faddr 2 40 true) [.t 3], oq 12 (.faddr 0 1 false) [.t 11],
  ⟨none, .store false 1, [.t 12, .t 10], none⟩]
def Ji4 : List COper := JiG
instance : Reg Ji4 JiG 5 := ⟨rfl, rfl⟩
@[simp] def Ji1 : List COper := [
  om 13 0, oq 14 (.call JS) [.t 13, .c (.int .i64 1024)], om 15 0, oq 16 (.call JS) [.t 15, .c (.int .i64 1024)], om 17 0, oq 18 (.call JS) [.t 17, .c (.int .i64 1024)], oq 19 (.faddr 2 40 true) [.t 3], oq 20 (.faddr 1 1 false) [.t 19],
  ⟨none, .store false 1, [.t 20, .t 14], none⟩, oq 21 (.faddr 2 40 true) [.t 3], oq 22 (.faddr 2 1 false) [.t 21],
  ⟨none, .store false 1, [.t 22, .t 16], none⟩, oq 23 (.faddr 2 40 true) [.t 3], oq 24 (.faddr 3 1 false) [.t 23],
  ⟨none, .store false 1, [.t 24, .t 18], none⟩]
def Jjx : List COper := Ji1
instance : Reg Jjx Ji1 15 := ⟨rfl, rfl⟩
@[simp] def JiT : List COper := [
  om 25 0, oq 26 (.call Jx) [.t 25], om 27 0, oq 28 (.call Jx) [.t 27], om 29 0, oq 30 (.call Jx) [.t 29], om 31 0, oq 32 (.call Jx) [.t 31], oq 33 (.build [.arr 1 (rep 32 (.v (.int .u8 0))), .v (.int .i64 0)] [1]) [.t 32], oq 34 (.build [.v (.int .i64 0), .v (.int .i64 0), .v (.int .i64 0), .node [.arr 1 (rep 32 (.v (.int .u8 0))), .v (.int .i64 0)]] [0, 1, 2, 3]) [.t 26, .t 28, .t 30, .t 33], oq 35 (.faddr 2 40 true) [.t 3], oq 36 (.faddr 4 36 true) [.t 35],
  ⟨none, .store true 36, [.t 36, .t 34], none⟩]
def Jjr : List COper := JiT
instance : Reg Jjr JiT 13 := ⟨rfl, rfl⟩
@[simp] def JiZ : List COper := [
  om 37 0, oq 38 (.call Ji) [.t 37], oq 39 (.faddr 2 40 true) [.t 3], oq 40 (.faddr 4 36 true) [.t 39], oq 41 (.faddr 3 33 true) [.t 40], oq 42 (.faddr 0 32 true) [.t 41],
  ⟨none, .store true 32, [.t 42, .t 38], none⟩]
def Ji3 : List COper := JiZ
instance : Reg Ji3 JiZ 7 := ⟨rfl, rfl⟩
@[simp] def Jjm : List COper := [
  om 43 0, oq 44 (.call Jk) [.t 43],
  ⟨(some 45), .not, [.t 44], none⟩]
def JiE : List COper := Jjm
instance : Reg JiE Jjm 3 := ⟨rfl, rfl⟩
@[simp] def JiK : List COper := [
  oq 46 (.build [.v (.int .i64 0), .v (.int .i64 0), .node [.v (.int .i64 0), .v (.string (mkS [])), .v (.string (mkS [])), .v (.string (mkS [])), .node [.v (.int .i64 0), .v (.int .i64 0), .v (.int .i64 0), .node [.arr 1 (rep 32 (.v (.int .u8 0))), .v (.int .i64 0)]]]] []) [],
  ⟨none, .store true 42, [.t 2, .t 46], none⟩]
def JjC : List COper := JiK
instance : Reg JjC JiK 2 := ⟨rfl, rfl⟩
@[simp] def JjD : List COper := [
  oq 47 (.load true 42) [.t 3],
  ⟨none, .store true 42, [.t 2, .t 47], none⟩]
def JjK : List COper := JjD
instance : Reg JjK JjD 2 := ⟨rfl, rfl⟩
@[simp] def JEP : CCode :=
  .seq (.region Jjv none [0, 2]) (.seq (.region Jjq none [0, 2, 3]) (.seq (.region Ji4 none [0, 2, 3]) (.seq (.region Jjx none [0, 2, 3]) (.seq (.region Jjr none [0, 2, 3]) (.seq (.region Ji3 none [0, 2, 3]) (.seq (.seq (.region JiE none [2, 3, 45]) (.cond (.t 45) (.seq (.region JjC none [2]) (.ret)) (.skip))) (.seq (.region JjK none [2]) (.ret))))))))
@[simp] def JES : List CRes := [.cell 2 true 42]
theorem JEF : chkFn Tryd.prog JgQ JEP JES 1 = true := by kernel_rfl
@[simp] def Jw6 : List COper := [
  ⟨(some 2), .alloc (.node [.v (.int .i64 0), .v (.int .i64 0), .node [.v (.int .i64 0), .v (.string (mkS [])), .v (.string (mkS [])), .v (.string (mkS [])), .node [.v (.int .i64 0), .v (.int .i64 0), .v (.int .i64 0), .node [.arr 1 (rep 32 (.v (.int .u8 0))), .v (.int .i64 0)]]]]), [], none⟩]
def JAt : List COper := Jw6
instance : Reg JAt Jw6 1 := ⟨rfl, rfl⟩
@[simp] def Jz9 : List COper := [
  ⟨(some 3), .alloc (.node [.v (.int .i64 0), .v (.int .i64 0), .node [.v (.int .i64 0), .v (.string (mkS [])), .v (.string (mkS [])), .v (.string (mkS [])), .node [.v (.int .i64 0), .v (.int .i64 0), .v (.int .i64 0), .node [.arr 1 (rep 32 (.v (.int .u8 0))), .v (.int .i64 0)]]]]), [], none⟩]
def JAg : List COper := Jz9
instance : Reg JAg Jz9 1 := ⟨rfl, rfl⟩
@[simp] def Jwv : List COper := [
  om 4 0, oq 5 (.call Jf) [.t 4, .c (.int .i64 1), .c (.int .i64 64)], oq 6 (.faddr 0 1 false) [.t 3],
  ⟨none, .store false 1, [.t 6, .t 5], none⟩]
def JwP : List COper := Jwv
instance : Reg JwP Jwv 4 := ⟨rfl, rfl⟩
@[simp] def JAC : List COper := [
  om 7 0, oq 8 (.call Jf) [.t 7, .c (.int .i64 1), .c (.int .i64 1099511627776)], oq 9 (.faddr 1 1 false) [.t 3],
  ⟨none, .store false 1, [.t 9, .t 8], none⟩]
def Jw9 : List COper := JAC
instance : Reg Jw9 JAC 4 := ⟨rfl, rfl⟩
@[simp] def Jwp : List COper := [
  om 10 0, oq 11 (.call Jf) [.t 10, .c (.int .i64 1), .c (.int .i64 7)], oq 12 (.faddr 2 40 true) [.t 3], oq 13 (.faddr 0 1 false) [.t 12],
  ⟨none, .store false 1, [.t 13, .t 11], none⟩]
def JxR : List COper := Jwp
instance : Reg JxR Jwp 5 := ⟨rfl, rfl⟩
@[simp] def JxZ : List COper := [
  om 14 0, oq 15 (.call JW) [.t 14, .c (.int .i64 1024)], oq 16 (.faddr 2 40 true) [.t 3], oq 17 (.faddr 1 1 false) [.t 16],
  ⟨none, .store false 1, [.t 17, .t 15], none⟩]
def JvN : List COper := JxZ
instance : Reg JvN JxZ 5 := ⟨rfl, rfl⟩
@[simp] def JxS : List COper := [
  om 18 0, oq 19 (.call JW) [.t 18, .c (.int .i64 1024)], oq 20 (.faddr 2 40 true) [.t 3], oq 21 (.faddr 2 1 false) [.t 20],
  ⟨none, .store false 1, [.t 21, .t 19], none⟩]
def JAj : List COper := JxS
instance : Reg JAj JxS 5 := ⟨rfl, rfl⟩
@[simp] def JxL : List COper := [
  om 22 0, oq 23 (.call JW) [.t 22, .c (.int .i64 1024)], oq 24 (.faddr 2 40 true) [.t 3], oq 25 (.faddr 3 1 false) [.t 24],
  ⟨none, .store false 1, [.t 25, .t 23], none⟩]
def Jzv : List COper := JxL
instance : Reg Jzv JxL 5 := ⟨rfl, rfl⟩
@[simp] def JzG : List COper := [
  om 26 0, oq 27 (.call JB) [.t 26], oq 28 (.faddr 2 40 true) [.t 3], oq 29 (.faddr 4 36 true) [.t 28], oq 30 (.faddr 0 1 false) [.t 29],
  ⟨none, .store false 1, [.t 30, .t 27], none⟩]
def Jxz : List COper := JzG
instance : Reg Jxz JzG 6 := ⟨rfl, rfl⟩
@[simp] def JzW : List COper := [
  om 31 0, oq 32 (.call JB) [.t 31], oq 33 (.faddr 2 40 true) [.t 3], oq 34 (.faddr 4 36 true) [.t 33], oq 35 (.faddr 1 1 false) [.t 34],
  ⟨none, .store false 1, [.t 35, .t 32], none⟩]
def Jyu : List COper := JzW
instance : Reg Jyu JzW 6 := ⟨rfl, rfl⟩
@[simp] def Juq : List COper := [
  om 36 0, oq 37 (.call JB) [.t 36], oq 38 (.faddr 2 40 true) [.t 3], oq 39 (.faddr 4 36 true) [.t 38], oq 40 (.faddr 2 1 false) [.t 39],
  ⟨none, .store false 1, [.t 40, .t 37], none⟩]
def Jt8 : List COper := Juq
instance : Reg Jt8 Juq 6 := ⟨rfl, rfl⟩
@[simp] def JsB : List COper := [
  om 41 0, oq 42 (.call JB) [.t 41], oq 43 (.faddr 2 40 true) [.t 3], oq 44 (.faddr 4 36 true) [.t 43], oq 45 (.faddr 3 33 true) [.t 44], oq 46 (.faddr 32 1 false) [.t 45],
  ⟨none, .store false 1, [.t 46, .t 42], none⟩]
def Jsc : List COper := JsB
instance : Reg Jsc JsB 7 := ⟨rfl, rfl⟩
@[simp] def JtM : List COper := [
  om 47 0, oq 48 (.call Jn) [.t 47], oq 49 (.faddr 2 40 true) [.t 3], oq 50 (.faddr 4 36 true) [.t 49], oq 51 (.faddr 3 33 true) [.t 50], oq 52 (.faddr 0 32 true) [.t 51],
  ⟨none, .store true 32, [.t 52, .t 48], none⟩]
def Jsf : List COper := JtM
instance : Reg Jsf JtM 7 := ⟨rfl, rfl⟩
@[simp] def Jsu : List COper := [
  om 53 0, oq 54 (.call Jj) [.t 53],
  ⟨(some 55), .not, [.t 54], none⟩]
def JuH : List COper := Jsu
instance : Reg JuH Jsu 3 := ⟨rfl, rfl⟩
@[simp] def Jtt : List COper := [
  oq 56 (.build [.v (.int .i64 0), .v (.int .i64 0), .node [.v (.int .i64 0), .v (.string (mkS [])), .v (.string (mkS [])), .v (.string (mkS [])), .node [.v (.int .i64 0), .v (.int .i64 0), .v (.int .i64 0), .node [.arr 1 (rep 32 (.v (.int .u8 0))), .v (.int .i64 0)]]]] []) [],
  ⟨none, .store true 42, [.t 2, .t 56], none⟩]
def JrD : List COper := Jtt
instance : Reg JrD Jtt 2 := ⟨rfl, rfl⟩
@[simp] def Jua : List COper := [
  oq 57 (.load true 42) [.t 3],
  ⟨none, .store true 42, [.t 2, .t 57], none⟩]
def JsE : List COper := Jua
instance : Reg JsE Jua 2 := ⟨rfl, rfl⟩
@[simp] def JKX : CCode :=
  .seq (.region JAt none [0, 2]) (.seq (.region JAg none [0, 2, 3]) (.seq (.region JwP none [0, 2, 3]) (.seq (.region Jw9 none [0, 2, 3]) (.seq (.region JxR none [0, 2, 3]) (.seq (.region JvN none [0, 2, 3]) (.seq (.region JAj none [0, 2, 3]) (.seq (.region Jzv none [0, 2, 3]) (.seq (.region Jxz none [0, 2, 3]) (.seq (.region Jyu none [0, 2, 3]) (.seq (.region Jt8 none [0, 2, 3]) (.seq (.region Jsc none [0, 2, 3]) (.seq (.region Jsf none [0, 2, 3]) (.seq (.seq (.region JuH none [2, 3, 55]) (.cond (.t 55) (.seq (.region JrD none [2]) (.ret)) (.skip))) (.seq (.region JsE none [2]) (.ret)))))))))))))))
@[simp] def JL7 : List CRes := [.cell 2 true 42]
theorem JLe : chkFn Tryd.prog Jvn JKX JL7 1 = true := by kernel_rfl
@[simp] def Jfe : List COper := [
  ⟨(some 4), .alloc (.arr 1 (rep 64 (.v (.int .u32 0)))), [], none⟩]
def JfE : List COper := Jfe
instance : Reg JfE Jfe 1 := ⟨rfl, rfl⟩
@[simp] def Jfk : List COper := [
  ⟨(some 26), .mov, [.c (.int .i64 0)], none⟩]
def Jf7 : List COper := Jfk
instance : Reg Jf7 Jfk 1 := ⟨rfl, rfl⟩
@[simp] def Jfw : List COper := [
  ⟨(some 27), .bin .lss, [.t 26, .c (.int .i64 16)], none⟩]
def Jfo : List COper := Jfw
instance : Reg Jfo Jfw 1 := ⟨rfl, rfl⟩
@[simp] def JeR : List COper := [
  om 28 26, om 5 28]
def Jet : List COper := JeR
instance : Reg Jet JeR 2 := ⟨rfl, rfl⟩
@[simp] def JfS : List COper := [
  om 29 5, om 30 1, om 31 5, oq 32 (.bin .mul) [.c (.int .i64 4), .t 31], oq 33 (.slice 1 true false) [.t 30, .t 32], oq 34 (.call Jvw) [.t 33], oq 35 (.iaddrArr 64 1 false) [.t 4, .t 29],
  ⟨none, .store false 1, [.t 35, .t 34], none⟩]
def Jgh : List COper := JfS
instance : Reg Jgh JfS 8 := ⟨rfl, rfl⟩
@[simp] def Jeu : List COper := [
  oq 36 (.bin .add) [.t 26, .c (.int .i64 1)], om 26 36]
def JfJ : List COper := Jeu
instance : Reg JfJ Jeu 2 := ⟨rfl, rfl⟩
@[simp] def JeZ : List COper := [
  ⟨(some 6), .mov, [.c (.int .i64 16)], none⟩]
def JeL : List COper := JeZ
instance : Reg JeL JeZ 1 := ⟨rfl, rfl⟩
@[simp] def JfZ : List COper := [
  om 37 6,
  ⟨(some 38), .bin .lss, [.t 37, .c (.int .i64 64)], none⟩]
def JfV : List COper := JfZ
instance : Reg JfV JfZ 2 := ⟨rfl, rfl⟩
@[simp] def Jfn : List COper := [
  om 41 6, oq 42 (.bin .sub) [.t 41, .c (.int .i64 15)], oq 43 (.iaddrArr 64 1 false) [.t 4, .t 42], oq 44 (.load false 1) [.t 43], om 45 6, oq 46 (.bin .sub) [.t 45, .c (.int .i64 2)], oq 47 (.iaddrArr 64 1 false) [.t 4, .t 46], oq 48 (.load false 1) [.t 47], om 7 44, om 8 48]
def Jgk : List COper := Jfn
instance : Reg Jgk Jfn 10 := ⟨rfl, rfl⟩
@[simp] def Jdg : List COper := [
  om 49 7, oq 50 (.call Jh) [.t 49, .c (.int .i64 (-7))], om 51 7, oq 52 (.call Jh) [.t 51, .c (.int .i64 (-18))], oq 53 (.bin .xor) [.t 50, .t 52], om 54 7, oq 55 (.bin .shr) [.t 54, .c (.int .u64 3)], oq 56 (.bin .xor) [.t 53, .t 55], om 9 56]
def JdK : List COper := Jdg
instance : Reg JdK Jdg 9 := ⟨rfl, rfl⟩
@[simp] def JdN : List COper := [
  om 57 8, oq 58 (.call Jh) [.t 57, .c (.int .i64 (-17))], om 59 8, oq 60 (.call Jh) [.t 59, .c (.int .i64 (-19))], oq 61 (.bin .xor) [.t 58, .t 60], om 62 8, oq 63 (.bin .shr) [.t 62, .c (.int .u64 10)], oq 64 (.bin .xor) [.t 61, .t 63], om 10 64]
def Jc4 : List COper := JdN
instance : Reg Jc4 JdN 9 := ⟨rfl, rfl⟩
@[simp] def Jel : List COper := [
  om 65 6, om 66 6, oq 67 (.bin .sub) [.t 66, .c (.int .i64 16)], oq 68 (.iaddrArr 64 1 false) [.t 4, .t 67], oq 69 (.load false 1) [.t 68], om 70 9, oq 71 (.bin .add) [.t 69, .t 70], om 72 6, oq 73 (.bin .sub) [.t 72, .c (.int .i64 7)], oq 74 (.iaddrArr 64 1 false) [.t 4, .t 73], oq 75 (.load false 1) [.t 74], oq 76 (.bin .add) [.t 71, .t 75], om 77 10, oq 78 (.bin .add) [.t 76, .t 77], oq 79 (.iaddrArr 64 1 false) [.t 4, .t 65],
  ⟨none, .store false 1, [.t 79, .t 78], none⟩]
def Jec : List COper := Jel
instance : Reg Jec Jel 16 := ⟨rfl, rfl⟩
@[simp] def Jfc : List COper := [
  om 39 6, oq 40 (.bin .add) [.t 39, .c (.int .i64 1)], om 6 40]
def JfF : List COper := Jfc
instance : Reg JfF Jfc 3 := ⟨rfl, rfl⟩
@[simp] def Jd9 : List COper := [
  om 80 0, oq 81 .nilc [.t 80], oq 82 (.iaddrArr 8 1 false) [.t 81, .c (.int .i64 0)], oq 83 (.load false 1) [.t 82], om 84 0, oq 85 .nilc [.t 84], oq 86 (.iaddrArr 8 1 false) [.t 85, .c (.int .i64 1)], oq 87 (.load false 1) [.t 86], om 88 0, oq 89 .nilc [.t 88], oq 90 (.iaddrArr 8 1 false) [.t 89, .c (.int .i64 2)], oq 91 (.load false 1) [.t 90], om 92 0, oq 93 .nilc [.t 92], oq 94 (.iaddrArr 8 1 false) [.t 93, .c (.int .i64 3)], oq 95 (.load false 1) [.t 94], om 96 0, oq 97 .nilc [.t 96], oq 98 (.iaddrArr 8 1 false) [.t 97, .c (.int .i64 4)], oq 99 (.load false 1) [.t 98], om 100 0, oq 101 .nilc [.t 100], oq 102 (.iaddrArr 8 1 false) [.t 101, .c (.int .i64 5)], oq 103 (.load false 1) [.t 102], om 104 0, oq 105 .nilc [.t 104], oq 106 (.iaddrArr 8 1 false) [.t 105, .c (.int .i64 6)], oq 107 (.load false 1) [.t 106], om 108 0, oq 109 .nilc [.t 108], oq 110 (.iaddrArr 8 1 false) [.t 109, .c (.int .i64 7)], oq 111 (.load false 1) [.t 110], om 11 83, om 12 87, om 13 91, om 14 95, om 15 99, om 16 103, om 17 107, om 18 111]
def Jdy : List COper := Jd9
instance : Reg Jdy Jd9 40 := ⟨rfl, rfl⟩
@[simp] def Jcy : List COper := [
  oq 112 (.load true 64) [.t 4],
  ⟨(some 113), .mov, [.c (.int .i64 0)], none⟩]
def JcD : List COper := Jcy
instance : Reg JcD Jcy 2 := ⟨rfl, rfl⟩
@[simp] def Jc5 : List COper := [
  ⟨(some 114), .bin .lss, [.t 113, .c (.int .i64 64)], none⟩]
def JcF : List COper := Jc5
instance : Reg JcF Jc5 1 := ⟨rfl, rfl⟩
@[simp] def Jeg : List COper := [
  om 115 113, oq 116 (.idx false 64 1) [.t 112, .t 113], om 19 115, om 20 116]
def Jd4 : List COper := Jeg
instance : Reg Jd4 Jeg 4 := ⟨rfl, rfl⟩
@[simp] def Jdf : List COper := [
  om 117 15, oq 118 (.call Jh) [.t 117, .c (.int .i64 (-6))], om 119 15, oq 120 (.call Jh) [.t 119, .c (.int .i64 (-11))], oq 121 (.bin .xor) [.t 118, .t 120], om 122 15, oq 123 (.call Jh) [.t 122, .c (.int .i64 (-25))], oq 124 (.bin .xor) [.t 121, .t 123], om 21 124]
def JcB : List COper := Jdf
instance : Reg JcB Jdf 9 := ⟨rfl, rfl⟩
@[simp] def JdB : List COper := [
  om 125 18, om 126 21, oq 127 (.bin .add) [.t 125, .t 126], om 128 15, om 129 16, oq 130 (.bin .and) [.t 128, .t 129], om 131 15, oq 132 (.un .xor) [.t 131], om 133 17, oq 134 (.bin .and) [.t 132, .t 133], oq 135 (.bin .xor) [.t 130, .t 134], oq 136 (.bin .add) [.t 127, .t 135], om 137 19, oq 138 (.iaddrArr 64 1 false) [.g 0, .t 137], oq 139 (.load false 1) [.t 138], oq 140 (.bin .add) [.t 136, .t 139], om 141 20, oq 142 (.bin .add) [.t 140, .t 141], om 22 142]
def Jd5 : List COper := JdB
instance : Reg Jd5 JdB 19 := ⟨rfl, rfl⟩
@[simp] def Jdh : List COper := [
  om 143 11, oq 144 (.call Jh) [.t 143, .c (.int .i64 (-2))], om 145 11, oq 146 (.call Jh) [.t 145, .c (.int .i64 (-13))], oq 147 (.bin .xor) [.t 144, .t 146], om 148 11, oq 149 (.call Jh) [.t 148, .c (.int .i64 (-22))], oq 150 (.bin .xor) [.t 147, .t 149], om 23 150]
def JcT : List COper := Jdh
instance : Reg JcT Jdh 9 := ⟨rfl, rfl⟩
@[simp] def JcX : List COper := [
  om 151 23, om 152 11, om 153 12, oq 154 (.bin .and) [.t 152, .t 153], om 155 11, om 156 13, oq 157 (.bin .and) [.t 155, .t 156], oq 158 (.bin .xor) [.t 154, .t 157], om 159 12, om 160 13, oq 161 (.bin .and) [.t 159, .t 160], oq 162 (.bin .xor) [.t 158, .t 161], oq 163 (.bin .add) [.t 151, .t 162], om 23 163]
def Jdv : List COper := JcX
instance : Reg Jdv JcX 14 := ⟨rfl, rfl⟩
@[simp] def Jeb : List COper := [
  om 164 22, om 165 23, oq 166 (.bin .add) [.t 164, .t 165], om 167 11, om 168 12, om 169 13, om 170 14, om 171 22, oq 172 (.bin .add) [.t 170, .t 171], om 173 15, om 174 16, om 175 17, om 11 166, om 12 167, om 13 168, om 14 169, om 15 172, om 16 173, om 17 174, om 18 175]
def JcQ : List COper := Jeb
instance : Reg JcQ Jeb 20 := ⟨rfl, rfl⟩
@[simp] def Jdk : List COper := [
  oq 176 (.bin .add) [.t 113, .c (.int .i64 1)], om 113 176]
def Jc1 : List COper := Jdk
instance : Reg Jc1 Jdk 2 := ⟨rfl, rfl⟩
@[simp] def Jdo : List COper := [
  om 177 11, om 178 12, om 179 13, om 180 14, om 181 15, om 182 16, om 183 17, om 184 18, oq 185 (.buildA 1 (rep 8 (.v (.int .u32 0))) (upTo 8)) [.t 177, .t 178, .t 179, .t 180, .t 181, .t 182, .t 183, .t 184],
  ⟨(some 186), .mov, [.c (.int .i64 0)], none⟩]
def JcG : List COper := Jdo
instance : Reg JcG Jdo 10 := ⟨rfl, rfl⟩
@[simp] def Jd1 : List COper := [
  ⟨(some 187), .bin .lss, [.t 186, .c (.int .i64 8)], none⟩]
def JcY : List COper := Jd1
instance : Reg JcY Jd1 1 := ⟨rfl, rfl⟩
@[simp] def Jd8 : List COper := [
  om 188 186, oq 189 (.idx false 8 1) [.t 185, .t 186], om 24 188, om 25 189]
def JdD : List COper := Jd8
instance : Reg JdD Jd8 4 := ⟨rfl, rfl⟩
@[simp] def Jdn : List COper := [
  om 190 0, om 191 24, oq 192 .nilc [.t 190], oq 193 (.iaddrArr 8 1 false) [.t 192, .t 191], oq 194 (.load false 1) [.t 193], om 195 25, oq 196 (.bin .add) [.t 194, .t 195], oq 197 .nilc [.t 190], oq 198 (.iaddrArr 8 1 false) [.t 197, .t 191],
  ⟨none, .store false 1, [.t 198, .t 196], none⟩]
def Jde : List COper := Jdn
instance : Reg Jde Jdn 10 := ⟨rfl, rfl⟩
@[simp] def JdI : List COper := [
  oq 199 (.bin .add) [.t 186, .c (.int .i64 1)], om 186 199]
def JdF : List COper := JdI
instance : Reg JdF JdI 2 := ⟨rfl, rfl⟩
@[simp] def JBq : CCode :=
  .seq (.region JfE none [0, 1, 4]) (.seq (.seq (.region Jf7 none [0, 1, 4, 26]) (.block 0 (.loop (.seq (.region Jfo none [0, 1, 4, 26, 27]) (.seq (.cond (.t 27) (.skip) (.exit 0)) (.seq (.block 1 (.seq (.region Jet none [0, 1, 4, 5, 26]) (.region Jgh none [0, 1, 4, 26]))) (.region JfJ none [0, 1, 4, 26]))))))) (.seq (.seq (.region JeL none [0, 4, 6]) (.block 2 (.loop (.seq (.seq (.region JfV none [0, 4, 6, 38]) (.cond (.t 38) (.skip) (.exit 2))) (.seq (.block 3 (.seq (.region Jgk (some ([0, 1, 3, 7, 0, 16, 48, 112, 15, 511], [])) [0, 4, 6, 7, 8]) (.seq (.region JdK none [0, 4, 6, 8, 9]) (.seq (.region Jc4 none [0, 4, 6, 9, 10]) (.region Jec (some ([0, 0, 2, 6, 14, 0, 62, 0, 128, 384, 896, 2046, 0, 8190, 16383, 32767], [])) [0, 4, 6]))))) (.region JfF none [0, 4, 6])))))) (.seq (.region Jdy (some ([0, 1, 3, 7, 0, 16, 48, 112, 0, 256, 768, 1792, 0, 4096, 12288, 28672, 0, 65536, 196608, 458752, 0, 1048576, 3145728, 7340032, 0, 16777216, 50331648, 117440512, 0, 268435456, 805306368, 1879048192, 15, 4294967551, 12884905983, 30064836607, 64425558015, 133160763391, 270851375103, 549755813887], [])) [0, 4, 11, 12, 13, 14, 15, 16, 17, 18]) (.seq (.seq (.region JcD none [0, 11, 12, 13, 14, 15, 16, 17, 18, 112, 113]) (.block 4 (.loop (.seq (.region JcF none [0, 11, 12, 13, 14, 15, 16, 17, 18, 112, 113, 114]) (.seq (.cond (.t 114) (.skip) (.exit 4)) (.seq (.block 5 (.seq (.region Jd4 none [0, 11, 12, 13, 14, 15, 16, 17, 18, 19, 20, 112, 113]) (.seq (.region JcB none [0, 11, 12, 13, 14, 15, 16, 17, 18, 19, 20, 21, 112, 113]) (.seq (.region Jd5 none [0, 11, 12, 13, 14, 15, 16, 17, 22, 112, 113]) (.seq (.region JcT none [0, 11, 12, 13, 14, 15, 16, 17, 22, 23, 112, 113]) (.seq (.region Jdv none [0, 11, 12, 13, 14, 15, 16, 17, 22, 23, 112, 113]) (.region JcQ none [0, 11, 12, 13, 14, 15, 16, 17, 18, 112, 113]))))))) (.region Jc1 none [0, 11, 12, 13, 14, 15, 16, 17, 18, 112, 113]))))))) (.seq (.region JcG none [0, 185, 186]) (.block 6 (.loop (.seq (.region JcY none [0, 185, 186, 187]) (.seq (.cond (.t 187) (.skip) (.exit 6)) (.seq (.block 7 (.seq (.region JdD none [0, 24, 25, 185, 186]) (.region Jde (some ([0, 0, 1, 7, 15, 0, 63, 1, 255, 511], [])) [0, 185, 186]))) (.region JdF none [0, 185, 186])))))))))))
@[simp] def JBs : List CRes := []
theorem JA8 : chkFn Tryd.prog JY JBq JBs 2 = true := by kernel_rfl
@[simp] def JqV : List COper := [
  ⟨(some 2), .alloc (.arr 1 (rep 32 (.v (.int .u8 0)))), [], none⟩]
def Jug : List COper := JqV
instance : Reg Jug JqV 1 := ⟨rfl, rfl⟩
@[simp] def Jr4 : List COper := [
  oq 3 (.bslice 1 1 (.v (.int .u8 0)) [0]) [.c (.int .u8 0)], om 4 0, oq 5 (.bslice 1 2 (.v (.slice none 0 0)) [0, 1]) [.t 3, .t 4], oq 6 (.call JbG) [.t 5],
  ⟨none, .store true 32, [.t 2, .t 6], none⟩]
def JuZ : List COper := Jr4
instance : Reg JuZ Jr4 5 := ⟨rfl, rfl⟩
@[simp] def JJz : CCode :=
  .seq (.region Jug none [0, 2]) (.seq (.region JuZ none [2]) (.ret))
@[simp] def JIb : List CRes := [.cell 2 true 32]
theorem JH6 : chkFn Tryd.prog Jpz JJz JIb 1 = true := by kernel_rfl
@[simp] def JrG : List COper := [
  oq 1 .box [.t 0],
  ⟨(some 2), .alloc (.arr 1 (rep 32 (.v (.int .u8 0)))), [], none⟩]
def JsS : List COper := JrG
instance : Reg JsS JrG 2 := ⟨rfl, rfl⟩
@[simp] def JtX : List COper := [
  oq 3 (.sliceArr 32 1 false false) [.t 1], oq 4 (.bslice 1 1 (.v (.slice none 0 0)) [0]) [.t 3], oq 5 (.call JbG) [.t 4],
  ⟨none, .store true 32, [.t 2, .t 5], none⟩]
def Jrj : List COper := JtX
instance : Reg Jrj JtX 4 := ⟨rfl, rfl⟩
@[simp] def JJw : CCode :=
  .seq (.region JsS none [1, 2]) (.seq (.region Jrj none [2]) (.ret))
@[simp] def JJF : List CRes := [.cell 2 true 32]
theorem JI2 : chkFn Tryd.prog Jmg JJw JJF 1 = true := by kernel_rfl
@[simp] def JpT : List COper := [
  ⟨(some 2), .alloc (.arr 1 (rep 32 (.v (.int .u8 0)))), [], none⟩]
def Jod : List COper := JpT
instance : Reg Jod JpT 1 := ⟨rfl, rfl⟩
@[simp] def JmC : List COper := [
  oq 4 (.build [.v (.slice none 0 0)] []) [], oq 5 .box [.t 4], om 3 5]
def Jnk : List COper := JmC
instance : Reg Jnk JmC 3 := ⟨rfl, rfl⟩
@[simp] def JpZ : List COper := [
  om 6 3, om 7 0,
  ⟨(some 8), .call Jl, [.t 6, .t 7], none⟩]
def Jno : List COper := JpZ
instance : Reg Jno JpZ 3 := ⟨rfl, rfl⟩
@[simp] def JpI : List COper := [
  om 9 3, oq 10 (.call Jt) [.t 9], oq 11 (.bslice 1 1 (.v (.slice none 0 0)) [0]) [.t 10], oq 12 (.call JbG) [.t 11],
  ⟨none, .store true 32, [.t 2, .t 12], none⟩]
def Jon : List COper := JpI
instance : Reg Jon JpI 5 := ⟨rfl, rfl⟩
@[simp] def JHs : CCode :=
  .seq (.region Jod none [0, 2]) (.seq (.region Jnk none [0, 2, 3]) (.seq (.region Jno none [2, 3]) (.seq (.region Jon none [2]) (.ret))))
@[simp] def JGZ : List CRes := [.cell 2 true 32]
theorem JGX : chkFn Tryd.prog Jj3 JHs JGZ 1 = true := by kernel_rfl
@[simp] def Jyd : List COper := [
  oq 2 .box [.t 0],
  ⟨(some 4), .mov, [.c (.int .i64 0)], none⟩]
def JxA : List COper := Jyd
instance : Reg JxA Jyd 2 := ⟨rfl, rfl⟩
@[simp] def Jy0 : List COper := [
  om 5 1, oq 6 (.bin .quo) [.t 5, .c (.int .i64 8)], oq 7 (.iaddrArr 32 1 false) [.t 2, .t 6], oq 8 (.load false 1) [.t 7], om 9 1, oq 10 (.bin .rem) [.t 9, .c (.int .i64 8)], oq 11 (.bin .sub) [.c (.int .i64 7), .t 10], oq 12 (.bin .shr) [.t 8, .t 11], oq 13 (.convI .i64) [.t 12], oq 14 (.bin .and) [.t 13, .c (.int .i64 1)], om 4 14]
def JzK : List COper := Jy0
instance : Reg JzK Jy0 11 := ⟨rfl, rfl⟩
@[simp] def JMc : CCode :=
  .seq (.region JxA none [1, 2]) (.seq (.region JzK none [4]) (.ret))
@[simp] def JKi : List CRes := [.tmp 4]
theorem JLQ : chkFn Tryd.prog JvH JMc JKi 2 = true := by kernel_rfl
@[simp] def JhM : List COper := [
  ⟨(some 2), .mov, [.c (.bool false)], none⟩]
def JhE : List COper := JhM
instance : Reg JhE JhM 1 := ⟨rfl, rfl⟩
@[simp] def Jig : List COper := [
  om 5 0, oq 6 .len [.t 5],
  ⟨(some 7), .mov, [.c (.int .i64 0)], none⟩]
def JhA : List COper := Jig
instance : Reg JhA Jig 3 := ⟨rfl, rfl⟩
@[simp] def Jio : List COper := [
  ⟨(some 8), .bin .lss, [.t 7, .t 6], none⟩]
def Jh1 : List COper := Jio
instance : Reg Jh1 Jio 1 := ⟨rfl, rfl⟩
@[simp] def JhF : List COper := [
  oq 9 (.iaddr 1) [.t 5, .t 7], oq 10 (.load false 1) [.t 9], om 4 10]
def JhP : List COper := JhF
instance : Reg JhP JhF 3 := ⟨rfl, rfl⟩
@[simp] def Jhv : List COper := [
  om 11 4, oq 12 .lenS [.t 11],
  ⟨(some 13), .bin .gtr, [.t 12, .c (.int .i64 1024)], none⟩]
def Jim : List COper := Jhv
instance : Reg Jim Jhv 3 := ⟨rfl, rfl⟩
@[simp] def Jhm : List COper := [
  ⟨(some 2), .mov, [.c (.bool false)], none⟩]
def Jht : List COper := Jhm
instance : Reg Jht Jhm 1 := ⟨rfl, rfl⟩
@[simp] def JhC : List COper := [
  oq 14 (.bin .add) [.t 7, .c (.int .i64 1)], om 7 14]
def JhV : List COper := JhC
instance : Reg JhV JhC 2 := ⟨rfl, rfl⟩
@[simp] def Jh4 : List COper := [
  ⟨(some 2), .mov, [.c (.bool true)], none⟩]
def Jhn : List COper := Jh4
instance : Reg Jhn Jh4 1 := ⟨rfl, rfl⟩
@[simp] def JD6 : CCode :=
  .seq (.region JhE none [0]) (.seq (.seq (.region JhA none [5, 6, 7]) (.block 0 (.loop (.seq (.region Jh1 none [5, 6, 7, 8]) (.seq (.cond (.t 8) (.skip) (.exit 0)) (.seq (.block 1 (.seq (.region JhP none [4, 5, 6, 7]) (.seq (.region Jim none [5, 6, 7, 13]) (.cond (.t 13) (.seq (.region Jht none [2]) (.ret)) (.skip))))) (.region JhV none [5, 6, 7]))))))) (.seq (.region Jhn none [2]) (.ret)))
@[simp] def JEb : List CRes := [.tmp 2]
theorem JDX : chkFn Tryd.prog Jen JD6 JEb 1 = true := by kernel_rfl
@[simp] def JCe : List COper := [
  oq 2 .box [.t 0], oq 3 .box [.t 1], oq 4 (.alloc (.arr 1 (rep 32 (.v (.int .u8 0))))) [],
  ⟨(some 5), .mov, [.c (.bool false)], none⟩]
def JB3 : List COper := JCe
instance : Reg JB3 JCe 4 := ⟨rfl, rfl⟩
@[simp] def JCR : List COper := [
  oq 10 (.faddr 0 1 false) [.t 3], oq 11 (.load false 1) [.t 10], oq 12 .len [.t 11], oq 13 (.bin .neq) [.t 12, .c (.int .i64 32)], om 14 13,
  ⟨(some 15), .faddr 1 1 false, [.t 3], (some (14, false))⟩,
  ⟨(some 16), .load false 1, [.t 15], (some (14, false))⟩,
  ⟨(some 17), .len, [.t 16], (some (14, false))⟩,
  ⟨(some 18), .bin .neq, [.t 17, .c (.int .i64 32)], (some (14, false))⟩,
  ⟨(some 19), .pick, [.t 14, .c (.bool true), .t 18], none⟩]
def JBW : List COper := JCR
instance : Reg JBW JCR 10 := ⟨rfl, rfl⟩
@[simp] def JCd : List COper := [
  oq 20 (.buildA 1 (rep 32 (.v (.int .u8 0))) []) [],
  ⟨none, .store true 32, [.t 4, .t 20], none⟩,
  ⟨(some 5), .mov, [.c (.bool false)], none⟩]
def JBP : List COper := JCd
instance : Reg JBP JCd 3 := ⟨rfl, rfl⟩
@[simp] def JB2 : List COper := [
  ⟨(some 6), .mov, [.c (.slice none 0 0)], none⟩]
def JBM : List COper := JB2
instance : Reg JBM JB2 1 := ⟨rfl, rfl⟩
@[simp] def JCJ : List COper := [
  ⟨(some 21), .mov, [.c (.int .i64 0)], none⟩]
def JCA : List COper := JCJ
instance : Reg JCA JCJ 1 := ⟨rfl, rfl⟩
@[simp] def JB4 : List COper := [
  ⟨(some 22), .bin .lss, [.t 21, .c (.int .i64 32)], none⟩]
def JCD : List COper := JB4
instance : Reg JCD JB4 1 := ⟨rfl, rfl⟩
@[simp] def JCo : List COper := [
  om 23 21, om 7 23]
def JBN : List COper := JCo
instance : Reg JBN JCo 2 := ⟨rfl, rfl⟩
@[simp] def JBZ : List COper := [
  oq 24 (.faddr 0 1 false) [.t 3], oq 25 (.load false 1) [.t 24], om 26 7, oq 27 (.iaddr 32) [.t 25, .t 26], oq 28 (.load true 32) [.t 27], oq 29 (.call Jmg) [.t 28], oq 30 (.faddr 1 1 false) [.t 3], oq 31 (.load false 1) [.t 30], om 32 7, oq 33 (.iaddr 32) [.t 31, .t 32], oq 34 (.load true 32) [.t 33], oq 35 (.buildA 32 (rep 2 (.arr 1 (rep 32 (.v (.int .u8 0))))) [0, 1]) [.t 29, .t 34], oq 8 (.alloc (.arr 32 (rep 2 (.arr 1 (rep 32 (.v (.int .u8 0))))))) [],
  ⟨none, .store true 64, [.t 8, .t 35], none⟩]
def JBw : List COper := JBZ
instance : Reg JBw JBZ 14 := ⟨rfl, rfl⟩
@[simp] def JBF : List COper := [
  oq 36 (.load true 32) [.t 2], om 37 7, oq 38 (.call JvH) [.t 36, .t 37], om 9 38]
def JCX : List COper := JBF
instance : Reg JCX JBF 4 := ⟨rfl, rfl⟩
@[simp] def JBY : List COper := [
  om 39 6, om 40 9, oq 41 (.iaddrArr 2 32 true) [.t 8, .t 40], oq 42 (.load true 32) [.t 41], om 43 9, oq 44 (.bin .sub) [.c (.int .i64 1), .t 43], oq 45 (.iaddrArr 2 32 true) [.t 8, .t 44], oq 46 (.load true 32) [.t 45], oq 47 (.bslice 32 2 (.arr 1 (rep 32 (.v (.int .u8 0)))) [0, 1]) [.t 42, .t 46], oq 48 (.app 32 32) [.t 39, .t 47], om 6 48]
def JCq : List COper := JBY
instance : Reg JCq JBY 11 := ⟨rfl, rfl⟩
@[simp] def Jwb : List COper := [
  oq 49 (.bin .add) [.t 21, .c (.int .i64 1)], om 21 49]
def Jzy : List COper := Jwb
instance : Reg Jzy Jwb 2 := ⟨rfl, rfl⟩
@[simp] def Jz6 : List COper := [
  om 50 6, oq 51 (.call Jj3) [.t 50],
  ⟨none, .store true 32, [.t 4, .t 51], none⟩,
  ⟨(some 5), .mov, [.c (.bool true)], none⟩]
def JxH : List COper := Jz6
instance : Reg JxH Jz6 4 := ⟨rfl, rfl⟩
@[simp] def JNy : CCode :=
  .seq (.region JB3 none [2, 3, 4]) (.seq (.seq (.region JBW none [2, 3, 4, 19]) (.cond (.t 19) (.seq (.region JBP none [4, 5]) (.ret)) (.skip))) (.seq (.region JBM none [2, 3, 4, 6]) (.seq (.seq (.region JCA none [2, 3, 4, 6, 21]) (.block 0 (.loop (.seq (.region JCD none [2, 3, 4, 6, 21, 22]) (.seq (.cond (.t 22) (.skip) (.exit 0)) (.seq (.block 1 (.seq (.region JBN none [2, 3, 4, 6, 7, 21]) (.seq (.region JBw (some ([0, 1, 0, 7, 15, 31, 0, 64, 0, 448, 960, 2047, 0, 8191], [(5, 7), (5, 10), (1, 12), (4, 12), (5, 12), (7, 12), (10, 12)])) [2, 3, 4, 6, 7, 8, 21]) (.seq (.region JCX none [2, 3, 4, 6, 8, 9, 21]) (.region JCq (some ([0, 0, 2, 6, 0, 16, 48, 112, 254, 511, 1023], [])) [2, 3, 4, 6, 21]))))) (.region Jzy none [2, 3, 4, 6, 21]))))))) (.seq (.region JxH none [4, 5]) (.ret)))))
@[simp] def JMY : List CRes := [.cell 4 true 32, .tmp 5]
theorem JGl : chkFn Tryd.prog JqB JNy JMY 2 = true := by kernel_rfl
@[simp] def Jn6 : List COper := [
  oq 5 .box [.t 0], oq 6 .box [.t 1],
  ⟨(some 10), .mov, [.c (.bool false)], none⟩]
def Jqd : List COper := Jn6
instance : Reg Jqd Jn6 3 := ⟨rfl, rfl⟩
@[simp] def Jpl : List COper := [
  om 12 2, oq 13 (.bin .lss) [.t 12, .c (.int .i64 0)], om 14 13,
  ⟨(some 15), .mov, [.t 2], (some (14, false))⟩,
  ⟨(some 16), .mov, [.t 3], (some (14, false))⟩,
  ⟨(some 17), .bin .geq, [.t 15, .t 16], (some (14, false))⟩,
  ⟨(some 18), .pick, [.t 14, .c (.bool true), .t 17], none⟩]
def Jmn : List COper := Jpl
instance : Reg Jmn Jpl 7 := ⟨rfl, rfl⟩
@[simp] def JnW : List COper := [
  ⟨(some 10), .mov, [.c (.bool false)], none⟩]
def JoQ : List COper := JnW
instance : Reg JoQ JnW 1 := ⟨rfl, rfl⟩
@[simp] def Jp5 : List COper := [
  om 19 3,
  ⟨(some 20), .bin .gtr, [.t 19, .c (.int .i64 1)], none⟩]
def Jm5 : List COper := Jp5
instance : Reg Jm5 Jp5 2 := ⟨rfl, rfl⟩
@[simp] def JnI : List COper := [
  om 27 2, oq 28 (.bin .xor) [.t 27, .c (.int .i64 1)], om 11 28]
def JnL : List COper := JnI
instance : Reg JnL JnI 3 := ⟨rfl, rfl⟩
@[simp] def Jpe : List COper := [
  om 29 11, om 30 3,
  ⟨(some 31), .bin .geq, [.t 29, .t 30], none⟩]
def Jo3 : List COper := Jpe
instance : Reg Jo3 Jpe 3 := ⟨rfl, rfl⟩
@[simp] def JpB : List COper := [
  om 32 4, oq 33 .len [.t 32],
  ⟨(some 34), .bin .eql, [.t 33, .c (.int .i64 0)], none⟩]
def Jnt : List COper := JpB
instance : Reg Jnt JpB 3 := ⟨rfl, rfl⟩
@[simp] def Jm6 : List COper := [
  ⟨(some 10), .mov, [.c (.bool false)], none⟩]
def Jo4 : List COper := Jm6
instance : Reg Jo4 Jm6 1 := ⟨rfl, rfl⟩
@[simp] def Jqr : List COper := [
  om 35 11, om 36 2,
  ⟨(some 37), .bin .lss, [.t 35, .t 36], none⟩]
def Jnq : List COper := Jqr
instance : Reg Jnq Jqr 3 := ⟨rfl, rfl⟩
@[simp] def Jln : List COper := [
  om 38 4, oq 39 (.iaddr 32) [.t 38, .c (.int .i64 0)], oq 40 (.load true 32) [.t 39], oq 41 (.load true 32) [.t 6], oq 42 (.call Jhe) [.c (.int .u8 1), .t 40, .t 41],
  ⟨none, .store true 32, [.t 6, .t 42], none⟩]
def JkZ : List COper := Jln
instance : Reg JkZ Jln 6 := ⟨rfl, rfl⟩
@[simp] def JkA : List COper := [
  oq 43 (.load true 32) [.t 6], om 44 4, oq 45 (.iaddr 32) [.t 44, .c (.int .i64 0)], oq 46 (.load true 32) [.t 45], oq 47 (.call Jhe) [.c (.int .u8 1), .t 43, .t 46],
  ⟨none, .store true 32, [.t 6, .t 47], none⟩]
def JkD : List COper := JkA
instance : Reg JkD JkA 6 := ⟨rfl, rfl⟩
@[simp] def Jlu : List COper := [
  om 48 4, oq 49 (.slice 32 true false) [.t 48, .c (.int .i64 1)], om 4 49]
def JlZ : List COper := Jlu
instance : Reg JlZ Jlu 3 := ⟨rfl, rfl⟩
@[simp] def Joh : List COper := [
  om 21 2, oq 22 (.bin .quo) [.t 21, .c (.int .i64 2)], om 23 3, oq 24 (.bin .sub) [.t 23, .c (.int .i64 1)], oq 25 (.bin .quo) [.t 24, .c (.int .i64 2)], oq 26 (.bin .add) [.t 25, .c (.int .i64 1)], om 2 22, om 3 26]
def Jo9 : List COper := Joh
instance : Reg Jo9 Joh 8 := ⟨rfl, rfl⟩
@[simp] def Jlc : List COper := [
  om 50 4, oq 51 .len [.t 50], oq 52 (.bin .eql) [.t 51, .c (.int .i64 0)], om 53 52,
  ⟨(some 54), .load true 32, [.t 6], (some (53, true))⟩,
  ⟨(some 55), .load true 32, [.t 5], (some (53, true))⟩,
  ⟨(some 56), .eqa false .u8 32, [.t 54, .t 55], (some (53, true))⟩, oq 57 .pick [.t 53, .t 56, .c (.bool false)], om 10 57]
def JkC : List COper := Jlc
instance : Reg JkC Jlc 9 := ⟨rfl, rfl⟩
@[simp] def JGW : CCode :=
  .seq (.region Jqd none [2, 3, 4, 5, 6]) (.seq (.seq (.region Jmn none [2, 3, 4, 5, 6, 18]) (.cond (.t 18) (.seq (.region JoQ none [10]) (.ret)) (.skip))) (.seq (.block 0 (.loop (.seq (.seq (.region Jm5 none [2, 3, 4, 5, 6, 20]) (.cond (.t 20) (.skip) (.exit 0))) (.seq (.block 1 (.seq (.region JnL none [2, 3, 4, 5, 6, 11]) (.seq (.seq (.region Jo3 none [2, 3, 4, 5, 6, 11, 31]) (.cond (.t 31) (.exit 1) (.skip))) (.seq (.seq (.region Jnt none [2, 3, 4, 5, 6, 11, 34]) (.cond (.t 34) (.seq (.region Jo4 none [10]) (.ret)) (.skip))) (.seq (.seq (.region Jnq none [2, 3, 4, 5, 6, 37]) (.cond (.t 37) (.region JkZ (some ([0, 1, 3, 0, 15, 31], [])) [2, 3, 4, 5, 6]) (.region JkD (some ([0, 0, 2, 6, 15, 31], [])) [2, 3, 4, 5, 6]))) (.region JlZ none [2, 3, 4, 5, 6])))))) (.region Jo9 none [2, 3, 4, 5, 6]))))) (.seq (.region JkC none [10]) (.ret))))
@[simp] def JHL : List CRes := [.tmp 10]
theorem JBR : chkFn Tryd.prog Jgv JGW JHL 5 = true := by kernel_rfl
@[simp] def Jwe : List COper := [
  oq 2 .box [.t 0], oq 3 .box [.t 1],
  ⟨(some 4), .mov, [.c (.bool false)], none⟩]
def Jzx : List COper := Jwe
instance : Reg Jzx Jwe 3 := ⟨rfl, rfl⟩
@[simp] def JxE : List COper := [
  oq 5 (.faddr 0 1 false) [.t 2], oq 6 (.load false 1) [.t 5], oq 7 (.faddr 0 1 false) [.t 3], oq 8 (.load false 1) [.t 7], oq 9 (.call Jg8) [.t 6, .t 8], om 10 9,
  ⟨(some 11), .faddr 1 1 false, [.t 2], (some (10, true))⟩,
  ⟨(some 12), .load false 1, [.t 11], (some (10, true))⟩,
  ⟨(some 13), .faddr 1 1 false, [.t 3], (some (10, true))⟩,
  ⟨(some 14), .load false 1, [.t 13], (some (10, true))⟩,
  ⟨(some 15), .call Jg8, [.t 12, .t 14], (some (10, true))⟩, oq 16 .pick [.t 10, .t 15, .c (.bool false)], om 4 16]
def JAf : List COper := JxE
instance : Reg JAf JxE 13 := ⟨rfl, rfl⟩
@[simp] def JK9 : CCode :=
  .seq (.region Jzx none [2, 3]) (.seq (.region JAf none [4]) (.ret))
@[simp] def JKt : List CRes := [.tmp 4]
theorem JKV : chkFn Tryd.prog Jvh JK9 JKt 2 = true := by kernel_rfl
@[simp] def JxX : List COper := [
  ⟨(some 4), .mov, [.c (.bool false)], none⟩]
def JzV : List COper := JxX
instance : Reg JzV JxX 1 := ⟨rfl, rfl⟩
@[simp] def Jy9 : List COper := [
  om 6 0, oq 7 .len [.t 6], om 8 1, oq 9 .len [.t 8],
  ⟨(some 10), .bin .neq, [.t 7, .t 9], none⟩]
def Jz0 : List COper := Jy9
instance : Reg Jz0 Jy9 5 := ⟨rfl, rfl⟩
@[simp] def JyK : List COper := [
  ⟨(some 4), .mov, [.c (.bool false)], none⟩]
def Jyb : List COper := JyK
instance : Reg Jyb JyK 1 := ⟨rfl, rfl⟩
@[simp] def Jx5 : List COper := [
  om 11 0, oq 12 .len [.t 11],
  ⟨(some 13), .mov, [.c (.int .i64 0)], none⟩]
def JwC : List COper := Jx5
instance : Reg JwC Jx5 3 := ⟨rfl, rfl⟩
@[simp] def Jy2 : List COper := [
  ⟨(some 14), .bin .lss, [.t 13, .t 12], none⟩]
def JzO : List COper := Jy2
instance : Reg JzO Jy2 1 := ⟨rfl, rfl⟩
@[simp] def JyA : List COper := [
  om 15 13, om 5 15]
def Jy3 : List COper := JyA
instance : Reg Jy3 JyA 2 := ⟨rfl, rfl⟩
@[simp] def JAs : List COper := [
  om 16 0, om 17 5, oq 18 (.iaddr 32) [.t 16, .t 17], oq 19 (.load true 32) [.t 18], om 20 1, om 21 5, oq 22 (.iaddr 32) [.t 20, .t 21], oq 23 (.load true 32) [.t 22],
  ⟨(some 24), .eqa true .u8 32, [.t 19, .t 23], none⟩]
def Jv1 : List COper := JAs
instance : Reg Jv1 JAs 9 := ⟨rfl, rfl⟩
@[simp] def Jxk : List COper := [
  ⟨(some 4), .mov, [.c (.bool false)], none⟩]
def Jzh : List COper := Jxk
instance : Reg Jzh Jxk 1 := ⟨rfl, rfl⟩
@[simp] def JAk : List COper := [
  oq 25 (.bin .add) [.t 13, .c (.int .i64 1)], om 13 25]
def JxN : List COper := JAk
instance : Reg JxN JAk 2 := ⟨rfl, rfl⟩
@[simp] def Jwh : List COper := [
  ⟨(some 4), .mov, [.c (.bool true)], none⟩]
def Jxw : List COper := Jwh
instance : Reg Jxw Jwh 1 := ⟨rfl, rfl⟩
@[simp] def JKK : CCode :=
  .seq (.region JzV none [0, 1]) (.seq (.seq (.region Jz0 none [0, 1, 10]) (.cond (.t 10) (.seq (.region Jyb none [4]) (.ret)) (.skip))) (.seq (.seq (.region JwC none [0, 1, 12, 13]) (.block 0 (.loop (.seq (.region JzO none [0, 1, 12, 13, 14]) (.seq (.cond (.t 14) (.skip) (.exit 0)) (.seq (.block 1 (.seq (.region Jy3 none [0, 1, 5, 12, 13]) (.seq (.region Jv1 (some ([0, 0, 3, 7, 0, 0, 48, 112, 255], [])) [0, 1, 12, 13, 24]) (.cond (.t 24) (.seq (.region Jzh none [4]) (.ret)) (.skip))))) (.region JxN none [0, 1, 12, 13]))))))) (.seq (.region Jxw none [4]) (.ret))))
@[simp] def JLz : List CRes := [.tmp 4]
theorem JLn : chkFn Tryd.prog Jg8 JKK JLz 2 = true := by kernel_rfl
@[simp] def JdW : List COper := [
  ⟨(some 4), .mov, [.c (.slice none 0 0)], none⟩]
def Jdl : List COper := JdW
instance : Reg Jdl JdW 1 := ⟨rfl, rfl⟩
@[simp] def Jd3 : List COper := [
  om 6 0,
  ⟨(some 7), .eqp false, [.t 6, .c (.pointer none)], none⟩]
def Jc8 : List COper := Jd3
instance : Reg Jc8 Jd3 2 := ⟨rfl, rfl⟩
@[simp] def Jd7 : List COper := [
  ⟨(some 4), .mov, [.c (.slice none 0 0)], none⟩]
def JcO : List COper := Jd7
instance : Reg JcO Jd7 1 := ⟨rfl, rfl⟩
@[simp] def JdO : List COper := [
  om 8 0, oq 9 .nilc [.t 8], oq 10 (.faddr 1 1 false) [.t 9], oq 11 (.load false 1) [.t 10], om 12 11,
  ⟨(some 13), .mov, [.t 1], (some (12, false))⟩,
  ⟨(some 14), .bin .lss, [.t 13, .c (.int .i64 0)], (some (12, false))⟩, oq 15 .pick [.t 12, .c (.bool true), .t 14], om 16 15,
  ⟨(some 17), .mov, [.t 1], (some (16, false))⟩,
  ⟨(some 18), .mov, [.t 0], (some (16, false))⟩,
  ⟨(some 19), .nilc, [.t 18], (some (16, false))⟩,
  ⟨(some 20), .faddr 0 1 false, [.t 19], (some (16, false))⟩,
  ⟨(some 21), .load false 1, [.t 20], (some (16, false))⟩,
  ⟨(some 22), .len, [.t 21], (some (16, false))⟩,
  ⟨(some 23), .bin .gtr, [.t 17, .t 22], (some (16, false))⟩,
  ⟨(some 24), .pick, [.t 16, .c (.bool true), .t 23], none⟩]
def JcW : List COper := JdO
instance : Reg JcW JdO 17 := ⟨rfl, rfl⟩
@[simp] def Jds : List COper := [
  om 25 0, oq 26 .nilc [.t 25], oq 27 (.faddr 0 1 false) [.t 26], oq 28 (.load false 1) [.t 27], om 29 1, oq 30 (.slice 1 false true) [.t 28, .t 29], om 5 30]
def Jed : List COper := Jds
instance : Reg Jed Jds 7 := ⟨rfl, rfl⟩
@[simp] def Jcx : List COper := [
  om 31 0, om 32 0, oq 33 .nilc [.t 32], oq 34 (.faddr 0 1 false) [.t 33], oq 35 (.load false 1) [.t 34], om 36 1, oq 37 (.slice 1 true false) [.t 35, .t 36], oq 38 .nilc [.t 31], oq 39 (.faddr 0 1 false) [.t 38],
  ⟨none, .store false 1, [.t 39, .t 37], none⟩]
def JdG : List COper := Jcx
instance : Reg JdG Jcx 10 := ⟨rfl, rfl⟩
@[simp] def JcK : List COper := [
  om 40 5, om 4 40]
def JdM : List COper := JcK
instance : Reg JdM JcK 2 := ⟨rfl, rfl⟩
@[simp] def JdQ : List COper := [
  om 41 0, om 42 0, oq 43 .nilc [.t 41], oq 44 (.faddr 1 1 false) [.t 43],
  ⟨none, .store false 1, [.t 44, .c (.bool true)], none⟩, oq 45 .nilc [.t 42], oq 46 (.faddr 0 1 false) [.t 45],
  ⟨none, .store false 1, [.t 46, .c (.slice none 0 0)], none⟩]
def Jbb : List COper := JdQ
instance : Reg Jbb JdQ 8 := ⟨rfl, rfl⟩
@[simp] def Jdm : List COper := [
  ⟨(some 4), .mov, [.c (.slice none 0 0)], none⟩]
def Jbf : List COper := Jdm
instance : Reg Jbf Jdm 1 := ⟨rfl, rfl⟩
@[simp] def Jxj : CCode :=
  .seq (.region Jdl none [0, 1]) (.scope 0 (.seq (.seq (.region Jc8 none [0, 1, 7]) (.cond (.t 7) (.seq (.region JcO none [4]) (.ret)) (.skip))) (.seq (.seq (.region JcW none [0, 1, 24]) (.cond (.t 24) (.goto 0) (.skip))) (.seq (.seq (.region Jed none [0, 1, 5]) (.seq (.region JdG none [5]) (.seq (.region JdM none [4]) (.ret)))) (.seq (.label 0) (.seq (.region Jbb none []) (.seq (.region Jbf none [4]) (.ret))))))) (.seq (.skip) (.seq (.region Jbb none []) (.seq (.region Jbf none [4]) (.ret)))))
@[simp] def Jz4 : List CRes := [.tmp 4]
theorem Jx4 : chkFn Tryd.prog JJ Jxj Jz4 2 = true := by kernel_rfl
@[simp] def JcR : List COper := [
  om 7 0,
  ⟨(some 8), .eqp false, [.t 7, .c (.pointer none)], none⟩]
def JcP : List COper := JcR
instance : Reg JcP JcR 2 := ⟨rfl, rfl⟩
@[simp] def JdT : List COper := [
  om 9 1, oq 10 .len [.t 9],
  ⟨(some 11), .mov, [.c (.int .i64 0)], none⟩]
def JdX : List COper := JdT
instance : Reg JdX JdT 3 := ⟨rfl, rfl⟩
@[simp] def JdH : List COper := [
  ⟨(some 12), .bin .lss, [.t 11, .t 10], none⟩]
def Jdq : List COper := JdH
instance : Reg Jdq JdH 1 := ⟨rfl, rfl⟩
@[simp] def Jdi : List COper := [
  oq 13 (.iaddr 1) [.t 9, .t 11], oq 14 (.load false 1) [.t 13], om 5 14]
def JdP : List COper := Jdi
instance : Reg JdP Jdi 3 := ⟨rfl, rfl⟩
@[simp] def JdR : List COper := [
  om 15 5, oq 16 .lenS [.t 15], om 6 16]
def Jcz : List COper := JdR
instance : Reg Jcz JdR 3 := ⟨rfl, rfl⟩
@[simp] def Jeh : List COper := [
  om 17 0, om 18 0, oq 19 .nilc [.t 18], oq 20 (.faddr 0 1 false) [.t 19], oq 21 (.load false 1) [.t 20], om 22 6, oq 23 (.bin .shr) [.t 22, .c (.int .u64 24)], oq 24 (.convI .u8) [.t 23], om 25 6, oq 26 (.bin .shr) [.t 25, .c (.int .u64 16)], oq 27 (.convI .u8) [.t 26], om 28 6, oq 29 (.bin .shr) [.t 28, .c (.int .u64 8)], oq 30 (.convI .u8) [.t 29], om 31 6, oq 32 (.convI .u8) [.t 31], oq 33 (.bslice 1 4 (.v (.int .u8 0)) [0, 1, 2, 3]) [.t 24, .t 27, .t 30, .t 32], oq 34 (.app 1 1) [.t 21, .t 33], oq 35 .nilc [.t 17], oq 36 (.faddr 0 1 false) [.t 35],
  ⟨none, .store false 1, [.t 36, .t 34], none⟩]
def JcC : List COper := Jeh
instance : Reg JcC Jeh 21 := ⟨rfl, rfl⟩
@[simp] def Jdb : List COper := [
  om 37 0, om 38 0, oq 39 .nilc [.t 38], oq 40 (.faddr 0 1 false) [.t 39], oq 41 (.load false 1) [.t 40], om 42 5, oq 43 (.appS 1) [.t 41, .t 42], oq 44 .nilc [.t 37], oq 45 (.faddr 0 1 false) [.t 44],
  ⟨none, .store false 1, [.t 45, .t 43], none⟩]
def Jc6 : List COper := Jdb
instance : Reg Jc6 Jdb 10 := ⟨rfl, rfl⟩
@[simp] def Jdu : List COper := [
  oq 46 (.bin .add) [.t 11, .c (.int .i64 1)], om 11 46]
def Jek : List COper := Jdu
instance : Reg Jek Jdu 2 := ⟨rfl, rfl⟩
@[simp] def Jxi : CCode :=
  .seq (.seq (.region JcP none [0, 1, 8]) (.cond (.t 8) (.ret) (.skip))) (.seq (.region JdX none [0, 9, 10, 11]) (.block 0 (.loop (.seq (.region Jdq none [0, 9, 10, 11, 12]) (.seq (.cond (.t 12) (.skip) (.exit 0)) (.seq (.block 1 (.seq (.region JdP none [0, 5, 9, 10, 11]) (.seq (.region Jcz none [0, 5, 6, 9, 10, 11]) (.seq (.region JcC none [0, 5, 9, 10, 11]) (.region Jc6 none [0, 9, 10, 11]))))) (.region Jek none [0, 9, 10, 11])))))))
@[simp] def Jz2 : List CRes := []
theorem JAJ : chkFn Tryd.prog Jbr Jxi Jz2 2 = true := by kernel_rfl
@[simp] def JyT : List COper := [
  ⟨(some 2), .mov, [.c (.string (mkS []))], none⟩]
def Jy5 : List COper := JyT
instance : Reg Jy5 JyT 1 := ⟨rfl, rfl⟩
@[simp] def JAh : List COper := [
  ⟨(some 3), .mov, [.c (.string (mkS []))], none⟩]
def JxV : List COper := JAh
instance : Reg JxV JAh 1 := ⟨rfl, rfl⟩
@[simp] def JvY : List COper := [
  om 6 0, oq 7 .len [.t 6],
  ⟨(some 8), .mov, [.c (.int .i64 0)], none⟩]
def Jzz : List COper := JvY
instance : Reg Jzz JvY 3 := ⟨rfl, rfl⟩
@[simp] def JvM : List COper := [
  ⟨(some 9), .bin .lss, [.t 8, .t 7], none⟩]
def JzC : List COper := JvM
instance : Reg JzC JvM 1 := ⟨rfl, rfl⟩
@[simp] def JwZ : List COper := [
  oq 10 (.iaddr 1) [.t 6, .t 8], oq 11 (.load false 1) [.t 10], om 5 11]
def JxK : List COper := JwZ
instance : Reg JxK JwZ 3 := ⟨rfl, rfl⟩
@[simp] def Jzj : List COper := [
  om 12 3, om 13 5, oq 14 (.call JC) [.t 13], oq 15 (.bin .add) [.t 12, .t 14], om 3 15]
def JyV : List COper := Jzj
instance : Reg JyV Jzj 5 := ⟨rfl, rfl⟩
@[simp] def JxP : List COper := [
  oq 16 (.bin .add) [.t 8, .c (.int .i64 1)], om 8 16]
def JxC : List COper := JxP
instance : Reg JxC JxP 2 := ⟨rfl, rfl⟩
@[simp] def JyX : List COper := [
  om 17 3, om 2 17]
def Jzb : List COper := JyX
instance : Reg Jzb JyX 2 := ⟨rfl, rfl⟩
@[simp] def JKJ : CCode :=
  .seq (.region Jy5 none [0]) (.seq (.region JxV none [0, 3]) (.seq (.seq (.region Jzz none [3, 6, 7, 8]) (.block 0 (.loop (.seq (.region JzC none [3, 6, 7, 8, 9]) (.seq (.cond (.t 9) (.skip) (.exit 0)) (.seq (.block 1 (.seq (.region JxK none [3, 5, 6, 7, 8]) (.region JyV none [3, 6, 7, 8]))) (.region JxC none [3, 6, 7, 8]))))))) (.seq (.region Jzb none [2]) (.ret))))
@[simp] def JLG : List CRes := [.tmp 2]
theorem JLg : chkFn Tryd.prog JjX JKJ JLG 1 = true := by kernel_rfl
@[simp] def JwL : List COper := [
  ⟨(some 2), .mov, [.c (.string (mkS []))], none⟩]
def JyW : List COper := JwL
instance : Reg JyW JwL 1 := ⟨rfl, rfl⟩
@[simp] def JzD : List COper := [
  om 3 0, oq 4 .lenS [.t 3], oq 5 (.call JC) [.t 4], oq 6 (.sliceStr true false) [.t 5, .c (.int .i64 4)], om 7 0, oq 8 (.bin .add) [.t 6, .t 7], om 2 8]
def Jz8 : List COper := JzD
instance : Reg Jz8 JzD 7 := ⟨rfl, rfl⟩
@[simp] def JKG : CCode :=
  .seq (.region JyW none [0]) (.seq (.region Jz8 none [2]) (.ret))
@[simp] def JLH : List CRes := [.tmp 2]
theorem JKw : chkFn Tryd.prog Jg2 JKG JLH 1 = true := by kernel_rfl
@[simp] def Jdt : List COper := [
  ⟨(some 4), .mov, [.c (.string (mkS []))], none⟩]
def JcV : List COper := Jdt
instance : Reg JcV Jdt 1 := ⟨rfl, rfl⟩
@[simp] def Jdd : List COper := [
  ⟨(some 5), .mov, [.c (.int .i64 0)], none⟩]
def JcS : List COper := Jdd
instance : Reg JcS Jdd 1 := ⟨rfl, rfl⟩
@[simp] def JdE : List COper := [
  om 8 0, oq 9 (.call JJ) [.t 8, .c (.int .i64 4)], oq 10 .len [.t 9],
  ⟨(some 11), .mov, [.c (.int .i64 0)], none⟩]
def Jee : List COper := JdE
instance : Reg Jee JdE 4 := ⟨rfl, rfl⟩
@[simp] def Jc3 : List COper := [
  ⟨(some 12), .bin .lss, [.t 11, .t 10], none⟩]
def Jei : List COper := Jc3
instance : Reg Jei Jc3 1 := ⟨rfl, rfl⟩
@[simp] def JcU : List COper := [
  oq 13 (.iaddr 1) [.t 9, .t 11], oq 14 (.load false 1) [.t 13], om 7 14]
def JcH : List COper := JcU
instance : Reg JcH JcU 3 := ⟨rfl, rfl⟩
@[simp] def JdJ : List COper := [
  om 15 5, oq 16 (.bin .shl) [.t 15, .c (.int .u64 8)], om 17 7, oq 18 (.convI .i64) [.t 17], oq 19 (.bin .or) [.t 16, .t 18], om 5 19]
def JdY : List COper := JdJ
instance : Reg JdY JdJ 6 := ⟨rfl, rfl⟩
@[simp] def Jc9 : List COper := [
  oq 20 (.bin .add) [.t 11, .c (.int .i64 1)], om 11 20]
def Jdc : List COper := Jc9
instance : Reg Jdc Jc9 2 := ⟨rfl, rfl⟩
@[simp] def Jdj : List COper := [
  om 21 5, om 22 1,
  ⟨(some 23), .bin .gtr, [.t 21, .t 22], none⟩]
def JcZ : List COper := Jdj
instance : Reg JcZ Jdj 3 := ⟨rfl, rfl⟩
@[simp] def Jdw : List COper := [
  ⟨(some 5), .mov, [.c (.int .i64 (-1))], none⟩]
def JcE : List COper := Jdw
instance : Reg JcE Jdw 1 := ⟨rfl, rfl⟩
@[simp] def Jc2 : List COper := [
  om 24 0, om 25 5, oq 26 (.call JJ) [.t 24, .t 25], oq 27 .convS [.t 26], om 4 27]
def Jda : List COper := Jc2
instance : Reg Jda Jc2 5 := ⟨rfl, rfl⟩
@[simp] def Jxe : CCode :=
  .seq (.region JcV none [0, 1]) (.seq (.region JcS none [0, 1, 5]) (.seq (.seq (.region Jee none [0, 1, 5, 9, 10, 11]) (.block 0 (.loop (.seq (.region Jei none [0, 1, 5, 9, 10, 11, 12]) (.seq (.cond (.t 12) (.skip) (.exit 0)) (.seq (.block 1 (.seq (.region JcH none [0, 1, 5, 7, 9, 10, 11]) (.region JdY none [0, 1, 5, 9, 10, 11]))) (.region Jdc none [0, 1, 5, 9, 10, 11]))))))) (.seq (.seq (.region JcZ none [0, 5, 23]) (.cond (.t 23) (.region JcE none [0, 5]) (.skip))) (.seq (.region Jda none [4]) (.ret)))))
@[simp] def JvW : List CRes := [.tmp 4]
theorem Jzk : chkFn Tryd.prog JS Jxe JvW 2 = true := by kernel_rfl
@[simp] def Jgj : List COper := [
  ⟨(some 4), .mov, [.c (.string (mkS []))], none⟩]
def Jf3 : List COper := Jgj
instance : Reg Jf3 Jgj 1 := ⟨rfl, rfl⟩
@[simp] def Jfi : List COper := [
  om 8 0, oq 9 (.call Jy) [.t 8, .c (.int .i64 4)], om 5 9]
def JfY : List COper := Jfi
instance : Reg JfY Jfi 3 := ⟨rfl, rfl⟩
@[simp] def JeW : List COper := [
  ⟨(some 6), .mov, [.c (.int .i64 0)], none⟩]
def JeT : List COper := JeW
instance : Reg JeT JeW 1 := ⟨rfl, rfl⟩
@[simp] def Jf5 : List COper := [
  ⟨(some 7), .mov, [.c (.int .i64 0)], none⟩]
def Jfm : List COper := Jf5
instance : Reg Jfm Jf5 1 := ⟨rfl, rfl⟩
@[simp] def Jf4 : List COper := [
  om 10 7, om 11 5, oq 12 .lenS [.t 11],
  ⟨(some 13), .bin .lss, [.t 10, .t 12], none⟩]
def Jff : List COper := Jf4
instance : Reg Jff Jf4 4 := ⟨rfl, rfl⟩
@[simp] def JeK : List COper := [
  om 16 6, oq 17 (.bin .mul) [.t 16, .c (.int .i64 256)], om 18 5, om 19 7, oq 20 .idxS [.t 18, .t 19], oq 21 (.convI .i64) [.t 20], oq 22 (.bin .add) [.t 17, .t 21], om 6 22]
def Jex : List COper := JeK
instance : Reg Jex JeK 8 := ⟨rfl, rfl⟩
@[simp] def Jgl : List COper := [
  om 14 7, oq 15 (.bin .add) [.t 14, .c (.int .i64 1)], om 7 15]
def Jfj : List COper := Jgl
instance : Reg Jfj Jgl 3 := ⟨rfl, rfl⟩
@[simp] def JeV : List COper := [
  om 23 6, om 24 1,
  ⟨(some 25), .bin .gtr, [.t 23, .t 24], none⟩]
def JeO : List COper := JeV
instance : Reg JeO JeV 3 := ⟨rfl, rfl⟩
@[simp] def Jfr : List COper := [
  om 26 0, oq 27 (.call Jy) [.t 26, .c (.int .i64 (-1))], om 4 27]
def JfU : List COper := Jfr
instance : Reg JfU Jfr 3 := ⟨rfl, rfl⟩
@[simp] def JeJ : List COper := [
  om 28 0, om 29 6, oq 30 (.call Jy) [.t 28, .t 29], om 4 30]
def Jev : List COper := JeJ
instance : Reg Jev JeJ 4 := ⟨rfl, rfl⟩
@[simp] def JA3 : CCode :=
  .seq (.region Jf3 none [0, 1]) (.seq (.region JfY none [0, 1, 5]) (.seq (.region JeT none [0, 1, 5, 6]) (.seq (.seq (.region Jfm none [0, 1, 5, 6, 7]) (.block 0 (.loop (.seq (.seq (.region Jff none [0, 1, 5, 6, 7, 13]) (.cond (.t 13) (.skip) (.exit 0))) (.seq (.block 1 (.region Jex none [0, 1, 5, 6, 7])) (.region Jfj none [0, 1, 5, 6, 7])))))) (.seq (.seq (.region JeO none [0, 6, 25]) (.cond (.t 25) (.seq (.region JfU none [4]) (.ret)) (.skip))) (.seq (.region Jev none [4]) (.ret))))))
@[simp] def JBo : List CRes := [.tmp 4]
theorem JAX : chkFn Tryd.prog JW JA3 JBo 2 = true := by kernel_rfl
@[simp] def Jzw : List COper := [
  ⟨(some 2), .mov, [.c (.int .u32 0)], none⟩]
def Jys : List COper := Jzw
instance : Reg Jys Jzw 1 := ⟨rfl, rfl⟩
@[simp] def JvU : List COper := [
  om 3 0, oq 4 (.iaddr 1) [.t 3, .c (.int .i64 0)], oq 5 (.load false 1) [.t 4], oq 6 (.convI .u32) [.t 5], oq 7 (.bin .shl) [.t 6, .c (.int .u64 24)], om 8 0, oq 9 (.iaddr 1) [.t 8, .c (.int .i64 1)], oq 10 (.load false 1) [.t 9], oq 11 (.convI .u32) [.t 10], oq 12 (.bin .shl) [.t 11, .c (.int .u64 16)], oq 13 (.bin .or) [.t 7, .t 12], om 14 0, oq 15 (.iaddr 1) [.t 14, .c (.int .i64 2)], oq 16 (.load false 1) [.t 15], oq 17 (.convI .u32) [.t 16], oq 18 (.bin .shl) [.t 17, .c (.int .u64 8)], oq 19 (.bin .or) [.t 13, .t 18], om 20 0, oq 21 (.iaddr 1) [.t 20, .c (.int .i64 3)], oq 22 (.load false 1) [.t 21], oq 23 (.convI .u32) [.t 22], oq 24 (.bin .or) [.t 19, .t 23], om 2 24]
def JzJ : List COper := JvU
instance : Reg JzJ JvU 23 := ⟨rfl, rfl⟩
@[simp] def JLJ : CCode :=
  .seq (.region Jys none [0]) (.seq (.region JzJ (some ([0, 1, 3, 7, 15, 0, 32, 96, 224, 480, 1023, 0, 2048, 6144, 14336, 30720, 65535, 0, 131072, 393216, 917504, 2097151, 4194303], [])) [2]) (.ret))
@[simp] def JLi : List CRes := [.tmp 2]
theorem JLj : chkFn Tryd.prog Jvw JLJ JLi 1 = true := by kernel_rfl
@[simp] def Jcg : List COper := [
  ⟨(some 4), .mov, [.c (.int .u32 0)], none⟩]
def Jcc : List COper := Jcg
instance : Reg Jcc Jcg 1 := ⟨rfl, rfl⟩
@[simp] def Jb3 : List COper := [
  om 6 1, oq 7 (.convI .u64) [.t 6], oq 8 (.bin .and) [.t 7, .c (.int .u64 31)], om 5 8]
def JbY : List COper := Jb3
instance : Reg JbY Jb3 4 := ⟨rfl, rfl⟩
@[simp] def Jb1 : List COper := [
  om 9 0, om 10 5, oq 11 (.bin .shl) [.t 9, .t 10], om 12 0, om 13 5, oq 14 (.bin .sub) [.c (.int .u64 32), .t 13], oq 15 (.bin .shr) [.t 12, .t 14], oq 16 (.bin .or) [.t 11, .t 15], om 4 16]
def Jcb : List COper := Jb1
instance : Reg Jcb Jb1 9 := ⟨rfl, rfl⟩
@[simp] def JvF : CCode :=
  .seq (.region Jcc none [0, 1]) (.seq (.region JbY none [0, 5]) (.seq (.region Jcb none [4]) (.ret)))
@[simp] def JvD : List CRes := [.tmp 4]
theorem Jvr : chkFn Tryd.prog Jh JvF JvD 2 = true := by kernel_rfl
@[simp] def JyO : List COper := [
  oq 4 .box [.t 1], oq 5 .box [.t 2],
  ⟨(some 6), .alloc (.arr 1 (rep 32 (.v (.int .u8 0)))), [], none⟩]
def JzY : List COper := JyO
instance : Reg JzY JyO 3 := ⟨rfl, rfl⟩
@[simp] def Jxh : List COper := [
  om 7 0, oq 8 (.bslice 1 1 (.v (.int .u8 0)) [0]) [.t 7], oq 9 (.sliceArr 32 1 false false) [.t 4], oq 10 (.sliceArr 32 1 false false) [.t 5], oq 11 (.bslice 1 3 (.v (.slice none 0 0)) [0, 1, 2]) [.t 8, .t 9, .t 10], oq 12 (.call JbG) [.t 11],
  ⟨none, .store true 32, [.t 6, .t 12], none⟩]
def Jyy : List COper := Jxh
instance : Reg Jyy Jxh 7 := ⟨rfl, rfl⟩
@[simp] def JLl : CCode :=
  .seq (.region JzY none [0, 4, 5, 6]) (.seq (.region Jyy (some ([0, 1, 0, 0, 15, 31, 63], [])) [6]) (.ret))
@[simp] def JKA : List CRes := [.cell 6 true 32]
theorem JMi : chkFn Tryd.prog Jhe JLl JKA 3 = true := by kernel_rfl
end Go.Proofs.YtjlmpdbagmdbiaaDoor.WL
