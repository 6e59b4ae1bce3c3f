import Derived.Test.YtlajjoekbcjfnaaGreatDoorWx4
import Derived.Laws.BitsLemmas
import Derived.Laws.Strings
namespace Go.Proofs.YtlajjoekbcjfnaaGreatDoor.WL
set_option linter.all false
section
open Go
theorem Jc {P:Program} {G:Nat → Option AV} {f:Nat} {x:CCode} {rs:List CRes} {args:List AV} {M:List (Nat × Loc)} {keep:Bool} {res:AV} {M':List (Nat × Loc)} (hmix:P.follows .mixedOrders = true) (hc:chkFn P f x rs args.length = true)
 (hg:goodM keep M' M' = true ∧ goodA keep M' res = true ∧ (M'.map (·.1)).Nodup) (h:go P G (postA rs res M') x [] ⟨argsL 0 args,M,2⟩):Meets P G f args M keep res M':=JSM hmix hc hg h
attribute [simp] IntKind.bits Nat.mod_one
theorem Jp {n:Int} (h:-9223372036854775808 ≤ n ∧ n < 9223372036854775808) : IntKind.i64.wrap n = n := by rw [IntKind.wrap_i64]; omega
theorem Jf {j:Nat} (h:j < 4611686018427387904) : IntKind.i64.wrap ((j:Int) + 1) = ((j + 1:Nat):Int) := by rw [IntKind.wrap_i64]; omega
theorem JZ0 (n:Int) : -9223372036854775808 ≤ IntKind.i64.wrap n ∧ IntKind.i64.wrap n < 9223372036854775808 := by rw [IntKind.wrap_i64]; omega
theorem JJG {n:Int} (h:0 ≤ n ∧ n < 18446744073709551616) : IntKind.u64.wrap n = n := by simp [IntKind.wrap,IntKind.bits,IntKind.signed]; omega
theorem J3z (n:Int) : IntKind.u64.wrap n = n % 18446744073709551616 := by simp [IntKind.wrap,IntKind.bits,IntKind.signed]
theorem JQI (n:Int) : IntKind.u32.wrap n = n % 4294967296 := by simp [IntKind.wrap,IntKind.bits,IntKind.signed]
theorem J2X (n:Int) : IntKind.u8.wrap n = n % 256 := by simp [IntKind.wrap,IntKind.bits,IntKind.signed]
theorem J64 {n:Int} (h:(Lit.int .i64 n).wf = true) : -9223372036854775808 ≤ n ∧ n < 9223372036854775808 := by
 simp only [Lit.wf,Bool.and_eq_true,decide_eq_true_eq] at h
 have h1:IntKind.min .i64 = -9223372036854775808:=by decide
 have h2:IntKind.max .i64 = 9223372036854775807:=by decide
 omega
theorem u8_wf {n:Int} (h:(Lit.int .u8 n).wf = true) : 0 ≤ n ∧ n < 256 := by
 simp only [Lit.wf,Bool.and_eq_true,decide_eq_true_eq] at h
 have h1:IntKind.min .u8 = 0:=by decide
 have h2:IntKind.max .u8 = 255:=by decide
 omega
@[simp] theorem J8L (a:Int) (n:Nat) : a.fdiv (no_index (OfNat.ofNat n)) = a / (OfNat.ofNat n) := Int.fdiv_eq_ediv_of_nonneg _ (Int.natCast_nonneg n)
@[simp] theorem J9g : 8 ≤ maxLen := by decide
@[simp] theorem J7U : 32 ≤ maxLen := by decide
@[simp] theorem J8g : 64 ≤ maxLen := by decide
@[simp] theorem J5s (m:Nat → Option Loc) (g d l g' n:Nat) : step .convM [.row l 1 g' 0 n] m g d = (match m l with
 | some (.rows g'' 1 xs)=>if g'' = g' ∧ n = xs.length ∧ 0 < n then some (.sl 1 xs,[(l,none)]) else none
 | _=>none):=(rfl)
abbrev Bytes := List UInt8
abbrev bv (b:UInt8) : AV := .v (.int .u8 (b.toNat:Int))
def u8 (n:Int) : UInt8 := UInt8.ofNat (n % 256).toNat
theorem bv_u8 (n:Int) : AV.v (.int .u8 (IntKind.u8.wrap n)) = bv (u8 n) := by
 unfold bv u8
 rw [J2X]
 have h:((UInt8.ofNat (n % 256).toNat).toNat:Int) = n % 256:=by
  rw [UInt8.toNat_ofNat']
  omega
 rw [h]
theorem J0b (n:Int) (h:0 ≤ n ∧ n < 256) : AV.v (.int .u8 n) = bv (u8 n) := by
 rw [← bv_u8,J2X,Int.emod_eq_of_lt h.1 h.2]
theorem Jbx (n:Int) : ((u8 n).toNat:Int) = n % 256 := by
 unfold u8
 rw [UInt8.toNat_ofNat']
 omega
@[simp] theorem J6Z (b:UInt8) : closed (bv b) = true := rfl
@[simp] theorem J8n (b:UInt8) : plain (bv b) = true := rfl
@[simp] theorem J71 (b:UInt8) : (bv b).solid = true := rfl
@[simp] theorem J85 (b:UInt8) : (bv b).size = 1 := rfl
@[simp] theorem J9z (b:UInt8) : (bv b).isAgg = false := rfl
def B (bs:Bytes) : List AV := bs.map bv
@[simp] theorem J8U (bs:Bytes) : (B bs).length = bs.length := by simp [B]
@[simp] theorem J8S (bs:Bytes) : closeds (B bs) = true := by simp [B,closeds_all]
@[simp] theorem J81 (bs:Bytes) : plains (B bs) = true := by simp [B,plains_all]
@[simp] theorem J8e (a b:Bytes) : B a ++ B b = B (a ++ b) := by simp [B]
@[simp] theorem J9x (b:UInt8) (s:Bytes) : bv b :: B s = B (b :: s) := (rfl)
theorem J66 (a:Bytes) (b:UInt8) : B a ++ [bv b] = B (a ++ [b]) := by simp [B]
@[simp] theorem J9A (n:Nat) (a:Bytes) : (B a).drop n = B (a.drop n) := by simp [B]
@[simp] theorem J9w (n:Nat) (a:Bytes) : (B a).take n = B (a.take n) := by simp [B]
@[simp] theorem B_get (n:Nat) (a:Bytes) : (B a)[n]? = (a[n]?).map bv := by simp [B]
@[simp] theorem J7v (n:Nat) (a:Bytes) (h:n < (B a).length) : (B a)[n] = bv (a[n]'(by simpa using h)) := by simp [B]
@[simp] theorem B_nil : B [] = [] := rfl
theorem B_set (L:Bytes) (j:Nat) (x:UInt8) : (B L).set j (bv x) = B (L.set j x) := by simp [B,List.map_set]
theorem JSN : ∀ bs : Bytes,intsOf .u8 (B bs) = some (bs.map fun b=>(b.toNat:Int))
 | []=>rfl
 | b :: bs=>by
   have:=JSN bs
   simp only [B,List.map_cons,bv,intsOf] at *
   rw [if_pos trivial,this]
   rfl
def natsOf (bs:Bytes) : List Int := bs.map fun b => (b.toNat:Int)
@[simp] theorem J6I (bs:Bytes) : intsOf .u8 (B bs) = some (natsOf bs) := JSN bs
def zeros (n:Nat) : Bytes := List.replicate n 0
@[simp] theorem JyO (n:Nat) : (zeros n).length = n := by simp [zeros]
@[simp] theorem J77 (n:Nat) : rep n (.v (.int .u8 0)) = B (zeros n) := by simp [rep,B,zeros]
@[simp] theorem JWP (n k:Nat) : (zeros n).drop k = zeros (n - k) := by simp [zeros]
@[simp] theorem JYg (n k:Nat) : (zeros n).take k = zeros (min k n) := by simp [zeros]
theorem Jn6 (g:Bytes) (n j:Nat) (hj:j < g.length) (h:g.length ≤ n) : (g.take j ++ zeros (n - j)).set j g[j] = g.take (j + 1) ++ zeros (n - (j + 1)) := by
 have e:n - j = (n - (j + 1)) + 1:=by omega
 have e2:j - (g.take j).length = 0:=by rw [List.length_take]; omega
 have e3:g.take (j + 1) = g.take j ++ [g[j]]:=by rw [List.take_add_one,List.getElem?_eq_getElem hj]; rfl
 rw [e,List.set_append_right _ _ (by rw [List.length_take]; omega),e2,e3,List.append_assoc]
 rfl
theorem JVG {α:Type} [DecidableEq α] (l:List α) : l.isEmpty = decide (l = []) := by cases l <;> simp
theorem JRK (n:Nat) (x:Bytes) : splice (B (zeros n)) 0 (B x) = B (x ++ zeros (n - x.length)) := by simp [splice]
theorem JXt {a b:Bytes} : (a.map fun b=>(b.toNat:Int)) = b.map (fun b=>(b.toNat:Int)) ↔ a = b := by
 constructor
 ·revert b
  induction a with
  | nil=>intro b h; cases b with
    | nil=>rfl
    | cons y b=>simp at h
  | cons x a ih=>intro b h; cases b with
    | nil=>simp at h
    | cons y b =>
      simp only [List.map_cons,List.cons.injEq] at h
      rw [UInt8.toNat_inj.1 (show x.toNat = y.toNat by omega),ih h.2]
 ·rintro rfl; rfl
@[simp] theorem J7g {m:Nat → Option Loc} {g d:Nat} (neg:Bool) (n:Nat) (a b:Bytes) (ha:a.length = n) (hb:b.length = n) : step (.eqa neg .u8 n) [.arr 1 (B a),.arr 1 (B b)] m g d = some (.v (.bool (if neg = true then !(a == b) else a == b)),[]) := by
 have e:(natsOf a == natsOf b) = (a == b):=by
  rw [Bool.eq_iff_iff,beq_iff_eq,beq_iff_eq]
  exact JXt
 have la:(natsOf a).length = n:=by simp [natsOf,ha]
 have lb:(natsOf b).length = n:=by simp [natsOf,hb]
 simp only [step,J6I,la,lb,and_self,if_true,e]
def mkS (bs:Bytes) : ByteArray := ⟨bs.toArray⟩
@[simp] theorem JNq (bs:Bytes) : (mkS bs).size = bs.length := by simp [mkS,ByteArray.size]
theorem J7z (s:ByteArray) : s = mkS s.data.toList := by simp [mkS]
@[simp] theorem JNw (bs:Bytes) : (mkS bs).data.toList = bs := by simp [mkS]
@[simp] theorem JW5 (a b:Bytes) : mkS a ++ mkS b = mkS (a ++ b) := by
 apply ByteArray.ext
 simp [mkS,ByteArray.data_append]
@[simp] theorem J5A (a:Bytes) : (mkS a).toList = a := by rw [ByteArray.toList_eq,JNw]
@[simp] theorem J58 (bs:Bytes) : bytesAV (mkS bs) = B bs := by
 simp only [bytesAV,B,JNw]
@[simp] theorem J8m (bs:Bytes) : strOfNums (natsOf bs) = mkS bs := by
 have h:∀ b:UInt8,UInt8.ofNat (b.toNat:Int).toNat = b:=fun b=>by simp
 unfold strOfNums mkS natsOf
 rw [List.map_map]
 congr 2
 conv=>rhs; rw [← List.map_id bs]
 exact List.map_congr_left fun b _=>h b
@[simp] theorem J5g (k:IntKind) : intsOf k [] = some [] := (rfl)
@[simp] theorem J1Q : strOfNums [] = mkS [] := (rfl)
@[simp] theorem J4M (bs:Bytes) (i j:Nat) : (mkS bs).extract i j = mkS ((bs.take j).drop i) := by
 apply ByteArray.ext
 simp [mkS,ByteArray.data_extract,List.drop_take]
@[simp] theorem J9b (bs:Bytes) (i:Nat) : (mkS bs).data.toList[i]? = bs[i]? := by rw [JNw]
def fitsS (n:Nat) : Prop := n ≤ 9223372036854775807
instance (n:Nat) : Decidable (fitsS n) := inferInstanceAs (Decidable (_ ≤ _))
theorem fitS {n:Nat} (h:n ≤ 100000000000) : fitsS n := by unfold fitsS; omega
section
variable {m:Nat → Option Loc} {g d:Nat}
@[simp] theorem J5O (a b:Bytes) : step (.bin .add) [.v (.string (mkS a)),.v (.string (mkS b))] m g d = if fitsS (a.length + b.length) then some (.v (.string (mkS (a ++ b))),[]) else none := by
 by_cases h:fitsS (a.length + b.length)
 ·rw [if_pos h,JYT _ _ (by rw [JNq,JNq]; exact h),JW5]
 ·rw [if_neg h]
  have h2:¬ ((mkS a).size + (mkS b).size ≤ 9223372036854775807):=by rw [JNq,JNq]; exact h
  simp only [step,binV,h2,if_false]
  rfl
@[simp] theorem J5V (s:Bytes) (k:IntKind) (i:Int) (h:0 ≤ i) : step .idxS [.v (.string (mkS s)),.v (.int k i)] m g d = (s[i.toNat]?).map fun b => (bv b,[]) := by
 rw [JYJ _ _ _ h,JNw]
end
def I64 (ns:List Int) : List AV := ns.map fun n => .v (.int .i64 n)
@[simp] theorem J5y (ns:List Int) : (I64 ns).length = ns.length := by simp [I64]
@[simp] theorem J50 (ns:List Int) : closeds (I64 ns) = true := by simp [I64,closeds_all]
@[simp] theorem J6A (ns:List Int) : plains (I64 ns) = true := by simp [I64,plains_all]
@[simp] theorem J9u (n:Nat) (a:List Int) : (I64 a)[n]? = (a[n]?).map fun n => .v (.int .i64 n) := by simp [I64]
@[simp] theorem J3y (n:Nat) (a:List Int) (h:n < (I64 a).length) : (I64 a)[n] = .v (.int .i64 (a[n]'(by simpa using h))) := by simp [I64]
@[simp] theorem J5C (a b:List Int) : I64 a ++ I64 b = I64 (a ++ b) := by simp [I64]
def Strs (ss:List Bytes) : List AV := ss.map fun s => .v (.string (mkS s))
@[simp] theorem J4r (ss:List Bytes) : (Strs ss).length = ss.length := by simp [Strs]
@[simp] theorem J3Y (ss:List Bytes) : closeds (Strs ss) = true := by simp [Strs,closeds_all]
@[simp] theorem J5r (ss:List Bytes) : plains (Strs ss) = true := by simp [Strs,plains_all]
@[simp] theorem J8I (n:Nat) (a:List Bytes) : (Strs a)[n]? = (a[n]?).map fun s => .v (.string (mkS s)) := by simp [Strs]
@[simp] theorem J2q (n:Nat) (a:List Bytes) (h:n < (Strs a).length) : (Strs a)[n] = .v (.string (mkS (a[n]'(by simpa using h)))) := by simp [Strs]
@[simp] theorem J3D (a b:List Bytes) : Strs a ++ Strs b = Strs (a ++ b) := by simp [Strs]
@[simp] theorem J7r (n:Nat) (a:List Bytes) : (Strs a).drop n = Strs (a.drop n) := by simp [Strs]
@[simp] theorem J6v (n:Nat) (a:List Bytes) : (Strs a).take n = Strs (a.take n) := by simp [Strs]
@[simp] theorem J7R (n:Nat) (a:List Int) : (I64 a).drop n = I64 (a.drop n) := by simp [I64]
@[simp] theorem J8D (n:Nat) (a:List Int) : (I64 a).take n = I64 (a.take n) := by simp [I64]
@[simp] theorem J8H : Strs [] = [] := (rfl)
@[simp] theorem J9a : I64 [] = [] := (rfl)
structure Dg where
 bs:Bytes
 len:bs.length = 32
@[simp] theorem Dg.length (d:Dg) : d.bs.length = 32 := d.len
theorem Dg.ext' {a b:Dg} (h:a.bs = b.bs) : a = b := by
 cases a
 cases b
 simp only at h
 subst h
 rfl
instance : DecidableEq Dg := fun a b => if h : a.bs = b.bs then isTrue (Dg.ext' h) else isFalse fun e => h (congrArg Dg.bs e)
@[simp] theorem Dg.beq (a b:Dg) : (a.bs == b.bs) = decide (a = b) := by
 rw [Bool.eq_iff_iff,beq_iff_eq,decide_eq_true_eq]
 exact ⟨Dg.ext',fun h=>by rw [h]⟩
@[simp] theorem Dg.take32 (d:Dg) : List.take 32 d.bs = d.bs := List.take_of_length_le (by simp)
def Dg.zero : Dg := ⟨zeros 32,by simp⟩
@[simp] theorem Dg.zero_bs : Dg.zero.bs = zeros 32 := rfl
abbrev dv (d:Dg) : AV := .arr 1 (B d.bs)
def Dgs (ds:List Dg) : List AV := ds.map dv
@[simp] theorem J5t (ss:List Dg) : (Dgs ss).length = ss.length := by simp [Dgs]
@[simp] theorem J5Y (ss:List Dg) : closeds (Dgs ss) = true := by simp [Dgs,closeds_all]
@[simp] theorem J7F (ss:List Dg) : plains (Dgs ss) = true := by simp [Dgs,plains_all]
@[simp] theorem J9r (n:Nat) (a:List Dg) : (Dgs a)[n]? = (a[n]?).map dv := by simp [Dgs]
@[simp] theorem J33 (n:Nat) (a:List Dg) (h:n < (Dgs a).length) : (Dgs a)[n] = dv (a[n]'(by simpa using h)) := by simp [Dgs]
@[simp] theorem J5F (a b:List Dg) : Dgs a ++ Dgs b = Dgs (a ++ b) := by simp [Dgs]
@[simp] theorem J9m : Dgs [] = [] := rfl
theorem Jlh (a:List Dg) (d:Dg) : Dgs a ++ [dv d] = Dgs (a ++ [d]) := by simp [Dgs]
@[simp] theorem J8o (n:Nat) (a:List Dg) : (Dgs a).drop n = Dgs (a.drop n) := by simp [Dgs]
@[simp] theorem J7Q (n:Nat) (a:List Dg) : (Dgs a).take n = Dgs (a.take n) := by simp [Dgs]
theorem JV {t:Ty} {ts:List Ty} {as:List AV} (h:TysOk (t :: ts) as) : ∃ a r,as = a :: r ∧ TyOk t a ∧ TysOk ts r := by
 cases as with
 | nil=>simp [TysOk] at h
 | cons a r=>simp only [TysOk] at h; exact ⟨a,r,rfl,h.1,h.2⟩
theorem JOL {as:List AV} (h:TysOk [] as) : as = [] := by
 cases as with
 | nil=>rfl
 | cons a r=>simp [TysOk] at h
theorem ty_st {fs:List Ty} {a:AV} (h:TyOk (.st fs) a) : ∃ as,a = .node as ∧ TysOk fs as := by simpa only [TyOk] using h
theorem JVK {t1 t2:Ty} {a:AV} (h:TyOk (.st [t1,t2]) a) : ∃ a1 a2,a = .node [a1,a2] ∧ TyOk t1 a1 ∧ TyOk t2 a2 := by
 obtain ⟨as,e,k0⟩:=ty_st h
 obtain ⟨a1,r1,e1,h1,k1⟩:=JV k0
 obtain ⟨a2,r2,e2,h2,k2⟩:=JV k1
 have e9:=JOL k2
 subst e9
 subst e2
 subst e1
 subst e
 exact ⟨a1,a2,rfl,h1,h2⟩
theorem J2G {t1 t2 t3 t4:Ty} {a:AV} (h:TyOk (.st [t1,t2,t3,t4]) a) : ∃ a1 a2 a3 a4,a = .node [a1,a2,a3,a4] ∧ TyOk t1 a1 ∧ TyOk t2 a2 ∧ TyOk t3 a3 ∧ TyOk t4 a4 := by
 obtain ⟨as,e,k0⟩:=ty_st h
 obtain ⟨a1,r1,e1,h1,k1⟩:=JV k0
 obtain ⟨a2,r2,e2,h2,k2⟩:=JV k1
 obtain ⟨a3,r3,e3,h3,k3⟩:=JV k2
 obtain ⟨a4,r4,e4,h4,k4⟩:=JV k3
 have e9:=JOL k4
 subst e9
 subst e4
 subst e3
 subst e2
 subst e1
 subst e
 exact ⟨a1,a2,a3,a4,rfl,h1,h2,h3,h4⟩
theorem J57 {t1 t2 t3 t4 t5:Ty} {a:AV} (h:TyOk (.st [t1,t2,t3,t4,t5]) a) : ∃ a1 a2 a3 a4 a5,a = .node [a1,a2,a3,a4,a5] ∧ TyOk t1 a1 ∧ TyOk t2 a2 ∧ TyOk t3 a3 ∧ TyOk t4 a4 ∧ TyOk t5 a5 := by
 obtain ⟨as,e,k0⟩:=ty_st h
 obtain ⟨a1,r1,e1,h1,k1⟩:=JV k0
 obtain ⟨a2,r2,e2,h2,k2⟩:=JV k1
 obtain ⟨a3,r3,e3,h3,k3⟩:=JV k2
 obtain ⟨a4,r4,e4,h4,k4⟩:=JV k3
 obtain ⟨a5,r5,e5,h5,k5⟩:=JV k4
 have e9:=JOL k5
 subst e9
 subst e5
 subst e4
 subst e3
 subst e2
 subst e1
 subst e
 exact ⟨a1,a2,a3,a4,a5,rfl,h1,h2,h3,h4,h5⟩
theorem J6S {t1 t2 t3 t4 t5 t6:Ty} {a:AV} (h:TyOk (.st [t1,t2,t3,t4,t5,t6]) a) : ∃ a1 a2 a3 a4 a5 a6,a = .node [a1,a2,a3,a4,a5,a6] ∧ TyOk t1 a1 ∧ TyOk t2 a2 ∧ TyOk t3 a3 ∧ TyOk t4 a4 ∧ TyOk t5 a5 ∧ TyOk t6 a6 := by
 obtain ⟨as,e,k0⟩:=ty_st h
 obtain ⟨a1,r1,e1,h1,k1⟩:=JV k0
 obtain ⟨a2,r2,e2,h2,k2⟩:=JV k1
 obtain ⟨a3,r3,e3,h3,k3⟩:=JV k2
 obtain ⟨a4,r4,e4,h4,k4⟩:=JV k3
 obtain ⟨a5,r5,e5,h5,k5⟩:=JV k4
 obtain ⟨a6,r6,e6,h6,k6⟩:=JV k5
 have e9:=JOL k6
 subst e9
 subst e6
 subst e5
 subst e4
 subst e3
 subst e2
 subst e1
 subst e
 exact ⟨a1,a2,a3,a4,a5,a6,rfl,h1,h2,h3,h4,h5,h6⟩
theorem ty_sl {sz bytes:Nat} {e:Ty} {a:AV} (h:TyOk (.sl sz bytes e) a) : ∃ xs,a = .sl sz xs ∧ (xs.length ≤ maxLen ∧ xs.length * bytes ≤ reachBytes) ∧ ∀ x ∈ xs,TyOk e x := by simpa only [TyOk] using h
abbrev Ty.bytes : Ty := .sl 1 1 (.int .u8)
abbrev Ty.dg : Ty := .arr 32 1 (.int .u8)
theorem Jll {a:AV} (h:TyOk (.int .i64) a) : ∃ n : Int,a = .v (.int .i64 n) ∧ -9223372036854775808 ≤ n ∧ n < 9223372036854775808 := by
 obtain ⟨n,rfl,h⟩:=h
 exact ⟨n,rfl,J64 h⟩
theorem ty_u8 {a:AV} (h:TyOk (.int .u8) a) : ∃ b : UInt8,a = bv b := by
 obtain ⟨n,rfl,h⟩:=h
 exact ⟨u8 n,J0b n (u8_wf h)⟩
theorem JTP {a:AV} (h:TyOk .str a) : ∃ s : Bytes,a = .v (.string (mkS s)) ∧ s.length ≤ reachBytes := by
 obtain ⟨s,rfl,h⟩:=h
 exact ⟨s.data.toList,by rw [← J7z],by rw [Array.length_toList]; exact h⟩
theorem ty_dg {a:AV} (h:TyOk Ty.dg a) : ∃ d : Dg,a = dv d := by
 obtain ⟨xs,rfl,h1,h2⟩:=h
 obtain ⟨bs,rfl,_⟩:=map_of_all (f:=bv) (p:=fun _=>True) fun x hx=>by
  obtain ⟨b,e⟩:=ty_u8 (h2 x hx)
  exact ⟨b,e,trivial⟩
 exact ⟨⟨bs,by simpa using h1⟩,rfl⟩
theorem J3J {a:AV} (h:TyOk (.sl 1 16 .str) a) : ∃ ss : List Bytes,a = .sl 1 (Strs ss) ∧ ss.length * 16 ≤ reachBytes ∧ ∀ s ∈ ss,s.length ≤ reachBytes := by
 obtain ⟨xs,rfl,⟨_,h1⟩,h2⟩:=h
 obtain ⟨ns,rfl,h3⟩:=map_of_all (f:=fun s:Bytes=>AV.v (.string (mkS s))) (p:=fun s=>s.length ≤ reachBytes) fun x hx=>JTP (h2 x hx)
 exact ⟨ns,rfl,by simpa using h1,h3⟩
end
section
open Go
def beVal (bs:Bytes) : Nat := bs.foldl (fun v b=>v * 256 + b.toNat) 0
theorem JWM (bs:Bytes) (b:UInt8) : beVal (bs ++ [b]) = beVal bs * 256 + b.toNat := by simp [beVal]
theorem JPS : ∀ (bs:Bytes) (v:Nat),bs.foldl (fun v b=>v * 256 + b.toNat) v < (v + 1) * 256 ^ bs.length
 | [],v=>by simp
 | b :: bs,v=>by
   have hb:=b.toNat_lt
   have h:=JPS bs (v * 256 + b.toNat)
   have h2:(v * 256 + b.toNat + 1) * 256 ^ bs.length ≤ (v + 1) * 256 * 256 ^ bs.length:=Nat.mul_le_mul_right _ (by omega)
   rw [List.foldl_cons,List.length_cons,Nat.pow_succ,Nat.mul_comm (256 ^ bs.length) 256,← Nat.mul_assoc]
   omega
theorem JjP (bs:Bytes) : beVal bs < 256 ^ bs.length := by
 have:=JPS bs 0
 simpa [beVal] using this
theorem Jfb (l:Bytes) (j:Nat) (h:j < l.length) : beVal (l.take (j + 1)) = beVal (l.take j) * 256 + l[j].toNat := by
 rw [List.take_add_one,List.getElem?_eq_getElem h]
 exact JWM _ _
structure Rd where
 pre:Bytes
 s:Bytes
 bad:Bool
def Rd.fault : Rd := ⟨[],[],true⟩
def Rd.of (bs:Bytes) : Rd := ⟨[],bs,false⟩
def Rd.ok (r:Rd) (k:Int) : Bool := !r.bad && decide (0 ≤ k) && decide (k ≤ r.s.length)
def Rd.got (r:Rd) (k:Int) : Bytes := if r.ok k = true then r.s.take k.toNat else []
def Rd.skip (r:Rd) (k:Int) : Rd := if r.ok k = true then ⟨r.pre ++ r.s.take k.toNat,r.s.drop k.toNat,false⟩ else Rd.fault
def Rd.num (r:Rd) : Int := IntKind.i64.wrap (beVal (r.got 8):Nat)
def Rd.num' (r:Rd) : Rd := r.skip 8
def Rd.inOk (r:Rd) (lo hi:Int) : Bool := !r.num'.bad && decide (lo ≤ r.num) && decide (r.num ≤ hi)
def Rd.inn (r:Rd) (lo hi:Int) : Int := if r.inOk lo hi = true then r.num else 0
def Rd.inn' (r:Rd) (lo hi:Int) : Rd := if r.inOk lo hi = true then r.num' else Rd.fault
def Rd.len (r:Rd) (most:Int) : Int := if most < (beVal (r.got 4):Int) then -1 else (beVal (r.got 4):Int)
def Rd.text (r:Rd) (most:Int) : Bytes := (r.skip 4).got (r.len most)
def Rd.text' (r:Rd) (most:Int) : Rd := (r.skip 4).skip (r.len most)
def Rd.dg' (r:Rd) : Rd := r.skip 32
def Rd.done (r:Rd) : Bool := !r.bad && decide (r.s = [])
theorem Rd.got_len (r:Rd) (k:Nat) : (r.got k).length = 0 ∨ (r.got k).length = k := by
 unfold Rd.got Rd.ok
 split
 ·rename_i h
  simp only [Bool.and_eq_true,decide_eq_true_eq] at h
  right
  rw [List.length_take]
  omega
 ·left; rfl
theorem Rd.got_le (r:Rd) (k:Nat) : (r.got k).length ≤ k := by
 rcases r.got_len k with h | h <;> omega
def Rd.dg (r:Rd) : Dg := ⟨r.got 32 ++ zeros (32 - (r.got 32).length),by
 have h:=r.got_le 32
 have e:((32:Nat):Int) = 32:=rfl
 rw [e] at h
 simp only [List.length_append,JyO]
 omega⟩
theorem Rd.dg_bs (r:Rd) : r.dg.bs = r.got 32 ++ zeros (32 - (r.got 32).length) := rfl
theorem Rd.num_range (r:Rd) : -9223372036854775808 ≤ r.num ∧ r.num < 9223372036854775808 := JZ0 _
theorem J2N {v c:Nat} (h:c < 256) : v * 256 ||| c = v * 256 + c := by
 have:v * 256 = v * 2 ^ 8:=rfl
 rw [this,← Nat.shiftLeft_eq,← Nat.shiftLeft_add_eq_or_of_lt (by omega)]
theorem JS3 (k:IntKind) (a b:Nat) (ha:a < 2 ^ k.bits) (hb:b < 2 ^ k.bits) : bitsOp .or k (a:Int) (b:Int) = k.wrap ((a ||| b:Nat):Int) := by
 simp only [bitsOp,BitVec.toNat_or,BitVec.toNat_ofInt]
 congr 3
 ·have:((a:Int) % ((2 ^ k.bits:Nat):Int)).toNat = a:=by
   rw [← Int.natCast_emod,Int.toNat_natCast,Nat.mod_eq_of_lt ha]
  exact this
 ·have:((b:Int) % ((2 ^ k.bits:Nat):Int)).toNat = b:=by
   rw [← Int.natCast_emod,Int.toNat_natCast,Nat.mod_eq_of_lt hb]
  exact this
theorem J1t (v:Nat) (b:UInt8) (h:v < 2 ^ 56) : bitsOp .or .u64 (IntKind.u64.wrap ((v:Int) * 256)) (IntKind.u64.wrap (b.toNat:Int)) = ((v * 256 + b.toNat:Nat):Int) := by
 have hb:=b.toNat_lt
 rw [JJG (by omega),JJG (by omega)]
 have:=JS3 .u64 (v * 256) b.toNat (by simp only [IntKind.bits]; omega) (by simp only [IntKind.bits]; omega)
 rw [Int.natCast_mul] at this
 simp only [Int.cast_ofNat_Int] at this
 rw [this,J2N (by omega),JJG (by omega)]
theorem JWn (v:Nat) (b:UInt8) (h:v < 2 ^ 56) : bitsOp .or .i64 (IntKind.i64.wrap ((v:Int) * 256)) (IntKind.i64.wrap (b.toNat:Int)) = IntKind.i64.wrap ((v * 256 + b.toNat:Nat):Int) := by
 have hb:=b.toNat_lt
 have e:∀ n:Int,BitVec.ofInt 64 (IntKind.i64.wrap n) = BitVec.ofInt 64 n:=by
  intro n
  apply BitVec.eq_of_toNat_eq
  rw [BitVec.toNat_ofInt,BitVec.toNat_ofInt,IntKind.wrap_i64]
  omega
 have k:bitsOp .or .i64 (IntKind.i64.wrap ((v:Int) * 256)) (IntKind.i64.wrap (b.toNat:Int)) = bitsOp .or .i64 ((v:Int) * 256) (b.toNat:Int):=by
  simp only [bitsOp,IntKind.bits,e]
 rw [k]
 have:=JS3 .i64 (v * 256) b.toNat (by simp only [IntKind.bits]; omega) (by simp only [IntKind.bits]; omega)
 rw [Int.natCast_mul] at this
 simp only [Int.cast_ofNat_Int] at this
 rw [this,J2N (by omega)]
def be8 (n:Int) : Bytes := [u8 (n / 72057594037927936),u8 (n / 281474976710656),u8 (n / 1099511627776),u8 (n / 4294967296),u8 (n / 16777216),u8 (n / 65536),u8 (n / 256),u8 n]
def be4 (n:Int) : Bytes := [u8 (n / 16777216),u8 (n / 65536),u8 (n / 256),u8 n]
def txt (s:Bytes) : Bytes := be4 s.length ++ s
@[simp] theorem J3 (n:Int) : (be8 n).length = 8 := rfl
@[simp] theorem JX2 (n:Int) : (be4 n).length = 4 := rfl
@[simp] theorem Jo3 (s:Bytes) : (txt s).length = 4 + s.length := by simp [txt]
theorem J1v (n:Int) : (be8 n).drop 4 = be4 n := rfl
theorem J1Z {a b:Int} (h:a % 256 = b % 256) : u8 a = u8 b := by unfold u8; rw [h]
theorem JUU (n:Int) (t:Nat) (h:t < 8) : (be8 n)[t]? = some (u8 (n / 2 ^ (56 - 8 * t))) := by
 match t,h with
 | 0,_=>simp [be8]
 | 1,_=>simp [be8]
 | 2,_=>simp [be8]
 | 3,_=>simp [be8]
 | 4,_=>simp [be8]
 | 5,_=>simp [be8]
 | 6,_=>simp [be8]
 | 7,_=>simp [be8]
theorem J0O (n:Int) (t:Nat) (h:t < 8) : (be8 n).take (t + 1) = (be8 n).take t ++ [u8 (n / 2 ^ (56 - 8 * t))] := by
 rw [List.take_add_one,JUU n t h]; rfl
theorem Jki {α:Type} (l:List α) (j:Nat) (h:j < l.length) : l.take (j + 1) = l.take j ++ [l[j]] := by
 rw [List.take_add_one,List.getElem?_eq_getElem h]; rfl
theorem J3a (n:Int) (t:Nat) (h:t < 8) : u8 ((IntKind.u64.wrap n).fdiv (2 ^ (56 - 8 * t))) = u8 (n / 2 ^ (56 - 8 * t)) := by
 rw [J3z,Int.fdiv_eq_ediv_of_nonneg _ (Int.le_of_lt (Int.pow_pos (by decide)))]
 apply J1Z
 match t,h with
 | 0,_=>simp; omega
 | 1,_=>simp; omega
 | 2,_=>simp; omega
 | 3,_=>simp; omega
 | 4,_=>simp; omega
 | 5,_=>simp; omega
 | 6,_=>simp; omega
 | 7,_=>simp
theorem JAs (b:UInt8) (bs:Bytes) : beVal (b :: bs) = b.toNat * 256 ^ bs.length + beVal bs := by
 have key:∀ (bs:Bytes) (v:Nat),bs.foldl (fun v b=>v * 256 + b.toNat) v = v * 256 ^ bs.length + beVal bs:=by
  intro bs
  induction bs with
  | nil=>intro v; simp [beVal]
  | cons c bs ih =>
    intro v
    simp only [List.foldl_cons,beVal,List.length_cons]
    rw [ih,ih (0 * 256 + c.toNat),Nat.pow_succ]
    simp only [Nat.zero_mul,Nat.zero_add,Nat.add_mul,Nat.mul_assoc,Nat.add_assoc,Nat.mul_comm (256 ^ bs.length) 256]
 show (b :: bs).foldl _ 0 = _
 rw [List.foldl_cons,key]
 simp
theorem JSu (n:Int) : (beVal (be8 n):Int) = n % 18446744073709551616 := by
 simp only [be8,JAs,List.length_cons,List.length_nil]
 simp only [beVal,List.foldl_nil]
 have h0:=Jbx (n / 72057594037927936)
 have h1:=Jbx (n / 281474976710656)
 have h2:=Jbx (n / 1099511627776)
 have h3:=Jbx (n / 4294967296)
 have h4:=Jbx (n / 16777216)
 have h5:=Jbx (n / 65536)
 have h6:=Jbx (n / 256)
 have h7:=Jbx n
 omega
theorem JHJ (n:Int) : (beVal (be4 n):Int) = n % 4294967296 := by
 simp only [be4,JAs,List.length_cons,List.length_nil]
 simp only [beVal,List.foldl_nil]
 have h4:=Jbx (n / 16777216)
 have h5:=Jbx (n / 65536)
 have h6:=Jbx (n / 256)
 have h7:=Jbx n
 omega
def nums (ns:List Int) : Bytes := ns.flatMap be8
def txts (ss:List Bytes) : Bytes := ss.flatMap txt
theorem Jh (ns:List Int) : (nums ns).length = 8 * ns.length := by
 induction ns with
 | nil=>rfl
 | cons n ns ih=>simp only [nums,List.flatMap_cons,List.length_append,J3,List.length_cons] at *; omega
theorem JTF (ns:List Int) (j:Nat) (h:j < ns.length) : nums (ns.take (j + 1)) = nums (ns.take j) ++ be8 ns[j] := by
 simp only [nums,Jki _ _ h,List.flatMap_append,List.flatMap_cons,List.flatMap_nil,List.append_nil]
theorem JNS (ns:List Bytes) (j:Nat) (h:j < ns.length) : txts (ns.take (j + 1)) = txts (ns.take j) ++ txt ns[j] := by
 simp only [txts,Jki _ _ h,List.flatMap_append,List.flatMap_cons,List.flatMap_nil,List.append_nil]
def flatD (ds:List Dg) : Bytes := ds.flatMap Dg.bs
theorem JWR (ns:List Dg) (j:Nat) (h:j < ns.length) : flatD (ns.take (j + 1)) = flatD (ns.take j) ++ ns[j].bs := by
 simp only [flatD,Jki _ _ h,List.flatMap_append,List.flatMap_cons,List.flatMap_nil,List.append_nil]
theorem Jbq (ds:List Dg) : (flatD ds).length = 32 * ds.length := by
 induction ds with
 | nil=>rfl
 | cons n ns ih=>simp only [flatD,List.flatMap_cons,List.length_append,Dg.length,List.length_cons] at *; omega
theorem J0j (ns:List Bytes) (j:Nat) (h:j < ns.length) : (ns.take (j + 1)).flatten = (ns.take j).flatten ++ ns[j] := by
 simp only [Jki _ _ h,List.flatten_append,List.flatten_cons,List.flatten_nil,List.append_nil]
theorem JMX (ss:List Bytes) (j:Nat) : (txts (ss.take j)).length ≤ (txts ss).length := by
 conv=>rhs; rw [← List.take_append_drop j ss]
 simp only [txts,List.flatMap_append,List.length_append]
 omega
theorem JSR (ss:List Bytes) (j:Nat) : ((ss.take j).flatten).length ≤ (ss.flatten).length := by
 conv=>rhs; rw [← List.take_append_drop j ss]
 simp only [List.flatten_append,List.length_append]
 omega
theorem I64_2 (a b:Int) : [AV.v (.int .i64 a),.v (.int .i64 b)] = I64 [a,b] := (rfl)
end
section
open Go
structure Chg where
 kind:Int
 id:Int
 new:Int
 root:Dg
 height:Int
structure Req where
 client:Int
 num:Int
 kind:Int
 key:Bytes
 val:Bytes
 old:Bytes
 ch:Chg
def Chg.av (c:Chg) : AV := .node [.v (.int .i64 c.kind),.v (.int .i64 c.id),.v (.int .i64 c.new),.node [dv c.root,.v (.int .i64 c.height)]]
def Req.av (q:Req) : AV := .node [.v (.int .i64 q.client),.v (.int .i64 q.num),.node [.v (.int .i64 q.kind),.v (.string (mkS q.key)),.v (.string (mkS q.val)),.v (.string (mkS q.old)),q.ch.av]]
def Chg.zero : Chg := ⟨0,0,0,Dg.zero,0⟩
def Req.zero : Req := ⟨0,0,0,[],[],[],Chg.zero⟩
@[simp] theorem Req.av_closed (q:Req) : closed q.av = true := by simp [Req.av,Chg.av]
@[simp] theorem Req.av_plain (q:Req) : plain q.av = true := by simp [Req.av,Chg.av]
@[simp] theorem Req.av_solid (q:Req) : q.av.solid = true := (rfl)
@[simp] theorem Req.av_agg (q:Req) : q.av.isAgg = true := (rfl)
@[simp] theorem Req.av_size (q:Req) : q.av.size = 42 := by simp [Req.av,Chg.av]
def Req.bytes (q:Req) : Bytes := nums [q.client,q.num,q.kind] ++ (txts [q.key,q.val,q.old] ++ (nums [q.ch.kind,q.ch.id,q.ch.new,q.ch.height] ++ q.ch.root.bs))
theorem Req.bytes_len (q:Req) : q.bytes.length = 100 + (q.key.length + q.val.length + q.old.length) := by
 simp [Req.bytes,Jh,txts]
 omega
def Req.good (q:Req) : Bool := decide (1 ≤ q.client) && decide (q.client ≤ 64) && decide (1 ≤ q.num) && decide (q.num ≤ 1099511627776) && decide (1 ≤ q.kind) && decide (q.kind ≤ 7) &&
 (decide (q.key.length ≤ 1024) && decide (q.val.length ≤ 1024) && decide (q.old.length ≤ 1024))
def Rd.q1 (r:Rd) : Rd := r.inn' 1 64
def Rd.q2 (r:Rd) : Rd := r.q1.inn' 1 1099511627776
def Rd.q3 (r:Rd) : Rd := r.q2.inn' 1 7
def Rd.q4 (r:Rd) : Rd := r.q3.text' 1024
def Rd.q5 (r:Rd) : Rd := r.q4.text' 1024
def Rd.q6 (r:Rd) : Rd := r.q5.text' 1024
def Rd.q7 (r:Rd) : Rd := r.q6.num'
def Rd.q8 (r:Rd) : Rd := r.q7.num'
def Rd.q9 (r:Rd) : Rd := r.q8.num'
def Rd.q10 (r:Rd) : Rd := r.q9.num'
def Rd.req' (r:Rd) : Rd := r.q10.dg'
def Rd.req0 (r:Rd) : Req := ⟨r.inn 1 64,r.q1.inn 1 1099511627776,r.q2.inn 1 7,r.q3.text 1024,r.q4.text 1024,r.q5.text 1024,⟨r.q6.num,r.q7.num,r.q8.num,r.q10.dg,r.q9.num⟩⟩
def Rd.req (r:Rd) : Req := if r.req'.bad = true then Req.zero else r.req0
def Rd.sane (r:Rd) : Prop := r.bad = true → r.s = []
theorem Rd.skip_sane (r:Rd) (k:Int) : (r.skip k).sane := by
 unfold Rd.skip Rd.sane
 split <;> simp [Rd.fault]
theorem Rd.num_sane (r:Rd) : r.num'.sane := r.skip_sane 8
theorem Rd.inn_sane (r:Rd) (lo hi:Int) : (r.inn' lo hi).sane := by
 unfold Rd.inn'
 split
 ·exact r.num_sane
 ·simp [Rd.sane,Rd.fault]
theorem Rd.text_sane (r:Rd) (k:Int) : (r.text' k).sane := Rd.skip_sane _ _
theorem Rd.dg_sane (r:Rd) : r.dg'.sane := r.skip_sane 32
theorem Rd.req_sane (r:Rd) : r.req'.sane := Rd.dg_sane _
theorem Rd.skip_bad (r:Rd) (k:Int) (h:r.bad = true) : r.skip k = Rd.fault := by simp [Rd.skip,Rd.ok,h]
theorem Rd.num_bad (r:Rd) (h:r.bad = true) : r.num' = Rd.fault := r.skip_bad 8 h
theorem Rd.inn_bad (r:Rd) (lo hi:Int) (h:r.bad = true) : r.inn' lo hi = Rd.fault := by
 unfold Rd.inn' Rd.inOk
 rw [r.num_bad h]
 rfl
theorem Rd.text_bad (r:Rd) (k:Int) (h:r.bad = true) : r.text' k = Rd.fault := by
 unfold Rd.text'
 rw [r.skip_bad 4 h]
 exact Rd.skip_bad _ _ rfl
theorem Rd.dg_bad (r:Rd) (h:r.bad = true) : r.dg' = Rd.fault := r.skip_bad 32 h
theorem Rd.req_bad (r:Rd) (h:r.bad = true) : r.req' = Rd.fault := by
 have e1:r.q1 = Rd.fault:=r.inn_bad _ _ h
 have e2:r.q2 = Rd.fault:=by unfold Rd.q2; rw [e1]; exact Rd.inn_bad _ _ _ rfl
 have e3:r.q3 = Rd.fault:=by unfold Rd.q3; rw [e2]; exact Rd.inn_bad _ _ _ rfl
 have e4:r.q4 = Rd.fault:=by unfold Rd.q4; rw [e3]; exact Rd.text_bad _ _ rfl
 have e5:r.q5 = Rd.fault:=by unfold Rd.q5; rw [e4]; exact Rd.text_bad _ _ rfl
 have e6:r.q6 = Rd.fault:=by unfold Rd.q6; rw [e5]; exact Rd.text_bad _ _ rfl
 have e7:r.q7 = Rd.fault:=by unfold Rd.q7; rw [e6]; exact Rd.num_bad _ rfl
 have e8:r.q8 = Rd.fault:=by unfold Rd.q8; rw [e7]; exact Rd.num_bad _ rfl
 have e9:r.q9 = Rd.fault:=by unfold Rd.q9; rw [e8]; exact Rd.num_bad _ rfl
 have e10:r.q10 = Rd.fault:=by unfold Rd.q10; rw [e9]; exact Rd.num_bad _ rfl
 unfold Rd.req'
 rw [e10]
 exact Rd.dg_bad _ rfl
theorem Rd.inn_range (r:Rd) (lo hi:Int) (h:lo ≤ 0 ∧ 0 ≤ hi) : lo ≤ r.inn lo hi ∧ r.inn lo hi ≤ hi := by
 unfold Rd.inn Rd.inOk
 split
 ·rename_i k
  simp only [Bool.and_eq_true,decide_eq_true_eq] at k
  exact ⟨k.1.2,k.2⟩
 ·exact h
structure Rep where
 client:Int
 num:Int
 code:Int
 vals:List Bytes
def Rep.zero : Rep := ⟨0,0,0,[]⟩
def Rep.avS (a:Rep) : AV := .node [.v (.int .i64 a.client),.v (.int .i64 a.num),.v (.int .i64 a.code),.sl 1 (Strs a.vals)]
def Rep.avR (l g:Nat) (a:Rep) : AV := .node [.v (.int .i64 a.client),.v (.int .i64 a.num),.v (.int .i64 a.code),.row l 1 g 0 a.vals.length]
def Rep.bytes (a:Rep) : Bytes := nums [a.client,a.num,a.code,(a.vals.length:Int)] ++ txts a.vals
def Rd.tx' (r:Rd) : Nat → Rd
 | 0=>r
 | n + 1=>(r.tx' n).text' 1024
def Rd.tx (r:Rd) : Nat → List Bytes
 | 0=>[]
 | n + 1=>r.tx n ++ [(r.tx' n).text 1024]
@[simp] theorem Rd.tx_length (r:Rd) (n:Nat) : (r.tx n).length = n := by
 induction n with
 | zero=>rfl
 | succ n ih=>simp only [Rd.tx,List.length_append,ih,List.length_cons,List.length_nil]
theorem Rd.tx_sane (r:Rd) (h:r.sane) (n:Nat) : (r.tx' n).sane := by
 cases n with
 | zero=>exact h
 | succ n=>exact Rd.text_sane _ _
theorem Rd.tx_bad (r:Rd) (k:Nat) (h:(r.tx' k).bad = true) : ∀ n,k ≤ n → (r.tx' n).bad = true := by
 intro n
 induction n with
 | zero=>intro hk; rw [show k = 0 by omega] at h; exact h
 | succ n ih =>
   intro hk
   rcases (show k = n + 1 ∨ k ≤ n by omega) with rfl | h1
   ·exact h
   ·show ((r.tx' n).text' 1024).bad = true
    rw [Rd.text_bad _ _ (ih h1)]
    rfl
def Rd.p1 (r:Rd) : Rd := r.inn' 1 64
def Rd.p2 (r:Rd) : Rd := r.p1.inn' 1 1099511627776
def Rd.p3 (r:Rd) : Rd := r.p2.inn' 0 1024
def Rd.p4 (r:Rd) : Rd := r.p3.inn' 0 256
def Rd.repN (r:Rd) : Nat := (r.p3.inn 0 256).toNat
theorem Rd.repN_eq (r:Rd) : ((r.repN:Nat):Int) = r.p3.inn 0 256 ∧ r.repN ≤ 256 := by
 have:=r.p3.inn_range 0 256 (by omega)
 unfold Rd.repN
 omega
def Rd.rep' (r:Rd) : Rd := r.p4.tx' r.repN
def Rd.rep0 (r:Rd) : Rep := ⟨r.inn 1 64,r.p1.inn 1 1099511627776,r.p2.inn 0 1024,r.p4.tx r.repN⟩
def Rd.rep (r:Rd) : Rep := if r.rep'.bad = true then Rep.zero else r.rep0
end
section
open Go
theorem JGG {P:Program} {G:Nat → Option AV} {f:Nat} {fn:Func} {code:Code} {rs:List CRes} {args:List AV} {M:List (Nat × Loc)} {keep:Bool} {res:AV} {M':List (Nat × Loc)} (hf:P.funcs[f]? = some fn) (hb:fn.body = some code) (hres:chkRes P fn.results.toList rs = true) (hn:args.length ≤ fn.ntmps)
 (hg:goodM keep M' M' = true ∧ goodA keep M' res = true ∧ (M'.map (·.1)).Nodup) (h:∀ (w0:World) (Ws I0:Nat → Prop) (C0:Ctx) (a:Act) (w:World),Rel w0 Ws I0 G C0 fn.ntmps ⟨argsL 0 args,M,2⟩ a w → code.wp P (fun e a w=>∃ S',postA rs res M' e S' ∧ Rel w0 Ws I0 G C0 fn.ntmps S' a w) a w):Meets P G f args M keep res M':=by
 refine ⟨hg,fun C Ws ys hw hm hu hG hv=>?_⟩
 have hlen:=JK6 hv
 refine calls_of_wp hf hb ?_
 have hrel:Rel C.w Ws C.I G C fn.ntmps ⟨argsL 0 args,M,2⟩ { tmps:=ys.toArray ++ Array.replicate (fn.ntmps - ys.toArray.size) undef,defers:=[] } C.w:=by
  refine ⟨Nat.le_refl _,C,rfl,hw,hm,fun t z hz=>?_,hG,Ctx.Le.refl C,by simp; omega,rfl,(fun i hi=>by cases hi),fun k hk=>by have:=(hu k).1 hk; simp only; omega,fun h1=>by have:=(hu 1).1 h1; omega⟩
  obtain ⟨_,h1⟩:=JLg hz
  rw [Nat.sub_zero] at h1
  obtain ⟨y,h2,h3⟩:=JU5 hv h1
  refine ⟨y,?_,h3⟩
  have hlt:=(List.getElem?_eq_some_iff.1 h2).1
  rw [Array.getElem?_append_left (by simpa using hlt)]
  simpa using h2
 refine wp_mono (h _ _ _ _ _ _ hrel) ?_
 rintro e a w ⟨S,⟨he,xs,L,T,hraw,hend⟩,hk,C1,rfl,hmid⟩
 have hm1:C1.m = look S.m:=hmid.m
 rw [← hm1] at hraw hend
 obtain ⟨y,hrun,hval⟩:=JO4 hmid.wr hmid.fr hres hraw
 have hdef:=hmid.defers
 suffices hR:∃ y' C',y = y' ∧ C'.w = C1.w ∧ C.Le C' ∧ WR C.w Ws C.I C' ∧ C'.m = look M' ∧ SV C' res y' by
  obtain ⟨y',C',rfl,h1,h2,h3,h4,h5⟩:=hR
  rcases he with rfl | rfl <;> exact ⟨hdef,y,hrun,y,C',rfl,h1,h2,h3,h4,h5⟩
 let U:Nat → Prop:=fun g=>C1.used g ∨ g = 0 ∨ g = 1
 have hst':∀ (a:AV),Stamped (fun g=>g = 0 ∨ g = 1) a → Stamped U a:=by
  have key:(∀ (a:AV),Stamped (fun g=>g = 0 ∨ g = 1) a → Stamped U a):=fun a=>Jbd (fun g h=>.inr h) a
  exact key
 have hnamed:Named C1.m L M' T U:=⟨hend.named.nd,hend.named.fit,hend.named.lent,hend.named.ns,hend.named.apart,fun e he=>by
  have:=hend.named.st e he
  cases hq:e.2 with
  | var g w=>rw [hq] at this; exact ⟨.inr this.1,hst' w this.2⟩
  | rows g sz ws=>rw [hq] at this; exact ⟨.inr this.1,J1 (fun g h=>.inr h) ws this.2⟩
  | ob g q w=>rw [hq] at this; exact ⟨.inr this.1,hst' w this.2⟩⟩
 have hle:C1.Le (reCtx C1 L M' T U):=by
  refine ⟨fun g hg=>.inl hg,fun k hk=>.inl hk,fun _ _=>rfl,fun l c' hc' hu'=>?_⟩
  have hmem:=Jbh hc'
  have hgE:=Jvu hg.1 hmem
  have hgen:c'.gen = 0:=by
   cases c' with
   | var g w =>
     simp only [goodE,Bool.and_eq_true,Bool.or_eq_true,beq_iff_eq] at hgE
     rcases hgE.1 with h | h
     ·exact h
     ·subst h; exact absurd hu' hmid.one
   | rows g sz ws =>
     simp only [goodE,Bool.and_eq_true,beq_iff_eq] at hgE
     obtain ⟨rfl,_⟩:=hgE
     exact absurd hu' hmid.one
   | ob g q w =>
     simp only [goodE,Bool.and_eq_true,Bool.or_eq_true,beq_iff_eq] at hgE
     rcases hgE.1 with h | h
     ·exact h
     ·subst h; exact absurd hu' hmid.one
  have hold:=hend.old _ hmem hgen
  simp only at hold
  have hfit:=hnamed.fit _ hmem
  cases c' with
  | rows g sz ws =>
    simp only [Loc.gen] at hgen
    subst hgen
    simp [goodE] at hgE
  | var g w =>
    simp only [Loc.gen] at hgen
    subst hgen
    obtain ⟨l2,g2,raw,h1,h2,_⟩:=hfit
    simp only at h1
    rw [hold] at h1
    obtain ⟨rfl,rfl⟩:=(by simpa using h1:l = l2 ∧ 0 = g2)
    refine ⟨_,h2,rfl,by simp [reCtx,src,hold],fun b _ cur _ hcur=>⟨cur,hcur,rfl⟩⟩
  | ob g q w =>
    simp only [Loc.gen] at hgen
    subst hgen
    obtain ⟨l2,g2,raw,h1,h2,_⟩:=hfit
    simp only at h1
    rw [hold] at h1
    obtain ⟨rfl,rfl⟩:=(by simpa using h1:l = l2 ∧ 0 = g2)
    refine ⟨_,h2,⟨rfl,rfl⟩,by simp [reCtx,src,hold],fun b _ cur _ hcur=>⟨cur,hcur,rfl⟩⟩
 have hwr:WR C.w Ws C.I (reCtx C1 L M' T U):=by
  refine hnamed.wr hmid.wr (fun k hk=>.inl (hmid.wr.imm0 k hk)) (fun l c b _ h2 h3=>(hmid.wr.own l c b h2 h3).2.2) (fun k hk=>?_) hmid.wr.os hmid.wr.tape hmid.wr.output hmid.wr.size hmid.wr.block
  rcases hk with hk | ⟨t,_,ct,hct,hbt⟩
  ·exact (hmid.wr.imm k hk).2
  ·exact .inr ((hmid.wr.own t ct k hct hbt).2.2)
 exact ⟨y,reCtx C1 L M' T U,rfl,rfl,hmid.le.trans hle,hwr,rfl,JVc hmid.wr hnamed.seen hend.fit hend.lent (hst' res hend.st) hval⟩
end
section
open Go
structure Part where
 kind:Int
 num:Int
 text:Bytes
 dg:Dg
 lo:Int
 hi:Int
structure Part.Fits (p:Part) : Prop where
 num:-9223372036854775808 ≤ p.num ∧ p.num < 9223372036854775808
 text:p.text.length ≤ reachBytes
def Part.av (p:Part) : AV := .node [.v (.int .i64 p.kind),.v (.int .i64 p.num),.v (.string (mkS p.text)),dv p.dg,.v (.int .i64 p.lo),.v (.int .i64 p.hi)]
abbrev Ty.parts : Ty := .sl 37 80 (.st [.int .i64,.int .i64,.str,Ty.dg,.int .i64,.int .i64])
def Part.out (p:Part) : Bytes := if p.kind = 1 then txt p.text else if p.kind = 2 then p.dg.bs else be8 p.num
def Part.back (p:Part) (r:Rd) : Rd := if p.kind = 1 then r.text' p.text.length else if p.kind = 2 then r.dg' else r.inn' p.num p.num
def Part.same (p:Part) (r:Rd) : Bool := if p.kind = 1 then r.text p.text.length == p.text else if p.kind = 2 then decide (r.dg = p.dg) else decide (r.inn p.num p.num = p.num)
theorem Rd.got_app (pre x y:Bytes) (k:Nat) (h:x.length = k) : (⟨pre,x ++ y,false⟩:Rd).got k = x := by
 subst h
 simp [Rd.got,Rd.ok]
 omega
theorem Rd.skip_app (pre x y:Bytes) (k:Nat) (h:x.length = k) : (⟨pre,x ++ y,false⟩:Rd).skip k = ⟨pre ++ x,y,false⟩ := by
 subst h
 have:(x.length:Int) ≤ (x.length:Int) + y.length:=by omega
 simp [Rd.skip,Rd.ok,this]
theorem JUm (n:Int) (h:-9223372036854775808 ≤ n ∧ n < 9223372036854775808) : IntKind.i64.wrap (beVal (be8 n):Nat) = n := by
 rw [JSu,IntKind.wrap_i64]
 omega
theorem JOc : ∀ {a b:Bytes},a.length = b.length → beVal a = beVal b → a = b
 | [],[],_,_=>rfl
 | x :: a,y :: b,hl,h=>by
   simp only [List.length_cons,Nat.add_right_cancel_iff] at hl
   rw [JAs,JAs,hl] at h
   have h1:=JjP a
   have h2:=JjP b
   rw [hl] at h1
   have hq:x.toNat = y.toNat:=by
    have e1:(x.toNat * 256 ^ b.length + beVal a) / 256 ^ b.length = x.toNat:=by
     rw [Nat.mul_comm,Nat.mul_add_div (by omega),Nat.div_eq_of_lt h1]; rfl
    have e2:(y.toNat * 256 ^ b.length + beVal b) / 256 ^ b.length = y.toNat:=by
     rw [Nat.mul_comm,Nat.mul_add_div (by omega),Nat.div_eq_of_lt h2]; rfl
    rw [← e1,← e2,h]
   rw [hq] at h
   rw [UInt8.toNat_inj.1 hq,JOc hl (by omega)]
 | [],_ :: _,hl,_=>by simp at hl
 | _ :: _,[],hl,_=>by simp at hl
theorem JYY (x:Bytes) (h:x.length = 8) : be8 (IntKind.i64.wrap (beVal x:Nat)) = x := by
 apply JOc (by rw [J3,h])
 have h1:=JjP x
 rw [h] at h1
 have h2:=JSu (IntKind.i64.wrap (beVal x:Nat))
 have h3:IntKind.i64.wrap (beVal x:Nat) % 18446744073709551616 = (beVal x:Nat):=by rw [IntKind.wrap_i64]; omega
 rw [h3] at h2
 omega
theorem JZ8 (x:Bytes) (h:x.length = 4) : be4 (beVal x:Nat) = x := by
 apply JOc (by rw [JX2,h])
 have h1:=JjP x
 rw [h] at h1
 have h2:=JHJ (beVal x:Nat)
 omega
def Part.put (p:Part) (r:Rd) : Bytes := if p.kind = 1 then txt (r.text p.num) else if p.kind = 2 then r.dg.bs else if p.kind = 3 then be8 (r.inn p.lo p.hi) else be8 r.num
def Part.next (p:Part) (r:Rd) : Rd := if p.kind = 1 then r.text' p.num else if p.kind = 2 then r.dg' else if p.kind = 3 then r.inn' p.lo p.hi else r.num'
theorem Rd.skip_good {r:Rd} {k:Int} (h:(r.skip k).bad = false) : r.bad = false ∧ 0 ≤ k ∧ ((r.got k).length:Int) = k ∧ (r.skip k).pre = r.pre ++ r.got k ∧ (r.skip k).pre ++ (r.skip k).s = r.pre ++ r.s := by
 unfold Rd.skip Rd.got at *
 split at h
 ·rename_i hk
  rw [if_pos hk,if_pos hk]
  simp only [Rd.ok,Bool.and_eq_true,Bool.not_eq_true',decide_eq_true_eq] at hk
  refine ⟨hk.1.1,hk.1.2,by rw [List.length_take]; omega,rfl,by simp⟩
 ·simp [Rd.fault] at h
theorem Rd.num_put {r:Rd} (h:r.num'.bad = false) : r.bad = false ∧ r.num'.pre = r.pre ++ be8 r.num ∧ r.num'.pre ++ r.num'.s = r.pre ++ r.s := by
 obtain ⟨h1,_,h2,h3,h4⟩:=Rd.skip_good h
 refine ⟨h1,?_,h4⟩
 rw [Rd.num,JYY _ (by omega)]
 exact h3
end
section
open Go
abbrev W64 (n:Int) : Prop := -9223372036854775808 ≤ n ∧ n < 9223372036854775808
theorem JYi (pre y:Bytes) (n:Int) (h:W64 n) : (⟨pre,be8 n ++ y,false⟩:Rd).num = n ∧ (⟨pre,be8 n ++ y,false⟩:Rd).num' = ⟨pre ++ be8 n,y,false⟩ := by
 unfold Rd.num Rd.num'
 exact ⟨by have:=Rd.got_app pre (be8 n) y 8 rfl; simp only [Int.cast_ofNat_Int] at this; rw [this,JUm n h],Rd.skip_app pre (be8 n) y 8 rfl⟩
theorem rd_in (pre y:Bytes) (n lo hi:Int) (h:W64 n) (hr:lo ≤ n ∧ n ≤ hi) : (⟨pre,be8 n ++ y,false⟩:Rd).inn lo hi = n ∧ (⟨pre,be8 n ++ y,false⟩:Rd).inn' lo hi = ⟨pre ++ be8 n,y,false⟩ := by
 have hk:(⟨pre,be8 n ++ y,false⟩:Rd).inOk lo hi = true:=by simp [Rd.inOk,JYi pre y n h,hr]
 simp [Rd.inn,Rd.inn',hk,JYi pre y n h]
theorem J3d (pre y s:Bytes) (mx:Int) (h:s.length < 4294967296) (hm:(s.length:Int) ≤ mx) : (⟨pre,txt s ++ y,false⟩:Rd).text mx = s ∧ (⟨pre,txt s ++ y,false⟩:Rd).text' mx = ⟨pre ++ txt s,y,false⟩ := by
 have h4:=Rd.got_app pre (be4 s.length) (s ++ y) 4 rfl
 have k4:=Rd.skip_app pre (be4 s.length) (s ++ y) 4 rfl
 simp only [Int.cast_ofNat_Int] at h4 k4
 have hv:(beVal (be4 (s.length:Int)):Int) = s.length:=by rw [JHJ]; omega
 have hl:(⟨pre,txt s ++ y,false⟩:Rd).len mx = (s.length:Nat):=by
  unfold Rd.len txt
  rw [List.append_assoc,h4,hv,if_neg (by omega)]
 unfold Rd.text Rd.text'
 rw [hl]
 unfold txt
 rw [List.append_assoc,k4]
 exact ⟨Rd.got_app _ s y s.length rfl,by have:=Rd.skip_app (pre ++ be4 s.length) s y s.length rfl; rw [this,List.append_assoc]⟩
theorem rd_dg (pre y:Bytes) (d:Dg) : (⟨pre,d.bs ++ y,false⟩:Rd).dg = d ∧ (⟨pre,d.bs ++ y,false⟩:Rd).dg' = ⟨pre ++ d.bs,y,false⟩ := by
 have h:=Rd.got_app pre d.bs y 32 (by simp)
 have k:=Rd.skip_app pre d.bs y 32 (by simp)
 simp only [Int.cast_ofNat_Int] at h k
 refine ⟨Dg.ext' ?_,k⟩
 rw [Rd.dg_bs,h]
 simp [zeros]
def Rd.ext (r:Rd) (t:Bytes) : Rd := ⟨r.pre,r.s ++ t,r.bad⟩
@[simp] theorem Rd.ext_bad (r:Rd) (t:Bytes) : (r.ext t).bad = r.bad := rfl
theorem Jbt {n m:Int} {x y:Bytes} (hn:W64 n) (hm:W64 m) (h:be8 n ++ x = be8 m ++ y) : n = m ∧ x = y := by
 obtain ⟨h1,h2⟩:=List.append_inj h (by simp)
 refine ⟨?_,h2⟩
 have:=JUm n hn
 rw [h1,JUm m hm] at this
 exact this.symm
theorem JOk {a b x y:Bytes} (ha:a.length < 4294967296) (hb:b.length < 4294967296) (h:txt a ++ x = txt b ++ y) : a = b ∧ x = y := by
 unfold txt at h
 rw [List.append_assoc,List.append_assoc] at h
 obtain ⟨h1,h2⟩:=List.append_inj h (by simp)
 have hl:a.length = b.length:=by
  have e1:=JHJ (a.length:Int)
  have e2:=JHJ (b.length:Int)
  rw [h1] at e1
  omega
 exact List.append_inj h2 hl
theorem JR1 {a b:Dg} {x y:Bytes} (h:a.bs ++ x = b.bs ++ y) : a = b ∧ x = y := by
 obtain ⟨h1,h2⟩:=List.append_inj h (by simp)
 exact ⟨Dg.ext' h1,h2⟩
theorem JWc : ∀ {as bs:List Bytes} {x y:Bytes},(∀ a ∈ as,a.length < 4294967296) → (∀ b ∈ bs,b.length < 4294967296) → as.length = bs.length → txts as ++ x = txts bs ++ y → as = bs ∧ x = y
 | [],[],x,y,_,_,_,h=>⟨rfl,by simpa [txts] using h⟩
 | a :: as,b :: bs,x,y,ha,hb,hl,h=>by
   have e:∀ (c:Bytes) (cs:List Bytes),txts (c :: cs) = txt c ++ txts cs:=fun _ _=>by simp [txts]
   rw [e,e,List.append_assoc,List.append_assoc] at h
   obtain ⟨rfl,h2⟩:=JOk (ha a (by simp)) (hb b (by simp)) h
   obtain ⟨rfl,h3⟩:=JWc (fun c hc=>ha c (by simp [hc])) (fun c hc=>hb c (by simp [hc])) (by simpa using hl) h2
   exact ⟨rfl,h3⟩
 | [],_ :: _,_,_,_,_,hl,_=>by simp at hl
 | _ :: _,[],_,_,_,_,hl,_=>by simp at hl
end
section
open Go
structure Fmt (α:Type) where
 rd:Rd → α
 rd':Rd → Rd
 wr:α → Bytes
 good:α → Prop
 fits:α → Prop
def Rd.flt (r:Rd) : Prop := r.bad = true → r = Rd.fault
theorem Rd.flt_fault : Rd.fault.flt := fun _ => rfl
theorem Rd.flt_skip (r:Rd) (k:Int) : (r.skip k).flt := by
 unfold Rd.skip Rd.flt
 split
 ·intro h; cases h
 ·intro _; rfl
structure Fmt.Law {α:Type} (F:Fmt α) : Prop where
 fault:F.rd' Rd.fault = Rd.fault
 flt:∀ r,r.flt → (F.rd' r).flt
 back:∀ pre y a,F.good a → F.rd ⟨pre,F.wr a ++ y,false⟩ = a ∧ F.rd' ⟨pre,F.wr a ++ y,false⟩ = ⟨pre ++ F.wr a,y,false⟩
 one:∀ r,(F.rd' r).bad = false → r.bad = false ∧ (F.rd' r).pre = r.pre ++ F.wr (F.rd r) ∧ r.s = F.wr (F.rd r) ++ (F.rd' r).s ∧ F.good (F.rd r)
 fit:∀ a,F.good a → F.fits a
 inj:∀ a b x y,F.fits a → F.fits b → F.wr a ++ x = F.wr b ++ y → a = b ∧ x = y
theorem JQD {r:Rd} {k:Int} (h:(r.skip k).bad = false) : r.bad = false ∧ (r.skip k).pre = r.pre ++ r.got k ∧ r.s = r.got k ++ (r.skip k).s ∧ ((r.got k).length:Int) = k := by
 obtain ⟨h1,_,h3,h4,h5⟩:=Rd.skip_good h
 refine ⟨h1,h4,?_,h3⟩
 rw [h4,List.append_assoc] at h5
 exact (List.append_cancel_left h5).symm
def numF : Fmt Int := ⟨Rd.num,Rd.num',be8,W64,W64⟩
theorem J0q {r:Rd} (h:r.num'.bad = false) : r.bad = false ∧ r.num'.pre = r.pre ++ be8 r.num ∧ r.s = be8 r.num ++ r.num'.s := by
 obtain ⟨h1,h2,h3⟩:=Rd.num_put h
 refine ⟨h1,h2,?_⟩
 rw [h2,List.append_assoc] at h3
 exact (List.append_cancel_left h3).symm
theorem JIw : numF.Law where
 fault:=rfl
 flt r _:=r.flt_skip 8
 back pre y a h:=JYi pre y a h
 one r h:=by
  obtain ⟨h1,h2,h3⟩:=J0q h
  exact ⟨h1,h2,h3,r.num_range⟩
 fit a h:=h
 inj a b x y ha hb h:=Jbt ha hb h
def inF (lo hi:Int) : Fmt Int := ⟨fun r=>r.inn lo hi,fun r=>r.inn' lo hi,be8,fun n=>W64 n ∧ lo ≤ n ∧ n ≤ hi,W64⟩
theorem JA (lo hi:Int) : (inF lo hi).Law where
 fault:=Rd.inn_bad Rd.fault lo hi rfl
 flt r _:=by
  show (r.inn' lo hi).flt
  unfold Rd.inn'
  split
  ·exact r.flt_skip 8
  ·exact Rd.flt_fault
 back pre y a h:=rd_in pre y a lo hi h.1 h.2
 one r h:=by
  change (r.inn' lo hi).bad = false at h
  show r.bad = false ∧ (r.inn' lo hi).pre = r.pre ++ be8 (r.inn lo hi) ∧ r.s = be8 (r.inn lo hi) ++ (r.inn' lo hi).s ∧ (W64 (r.inn lo hi) ∧ _)
  unfold Rd.inn' Rd.inn at *
  split at h
  ·rename_i hk
   simp only [Rd.inOk,Bool.and_eq_true,decide_eq_true_eq] at hk
   simp only [Rd.inOk,hk,decide_true,Bool.and_self,if_true]
   obtain ⟨h1,h2,h3⟩:=J0q h
   refine ⟨h1,h2,h3,r.num_range,?_⟩
   show lo ≤ (if r.inOk lo hi = true then r.num else 0) ∧ (if r.inOk lo hi = true then r.num else 0) ≤ hi
   rw [if_pos (by simp [Rd.inOk,hk])]
   exact ⟨hk.1.2,hk.2⟩
  ·cases h
 fit a h:=h.1
 inj a b x y ha hb h:=Jbt ha hb h
def textF (mx:Int) : Fmt Bytes := ⟨fun r=>r.text mx,fun r=>r.text' mx,txt,fun s=>s.length < 4294967296 ∧ (s.length:Int) ≤ mx,fun s=>s.length < 4294967296⟩
theorem JuU (mx:Int) : (textF mx).Law where
 fault:=Rd.text_bad Rd.fault mx rfl
 flt r _:=Rd.flt_skip _ _
 back pre y a h:=J3d pre y a mx h.1 h.2
 one r h:=by
  change ((r.skip 4).skip (r.len mx)).bad = false at h
  show r.bad = false ∧ ((r.skip 4).skip (r.len mx)).pre = r.pre ++ txt (r.text mx) ∧ r.s = txt (r.text mx) ++ ((r.skip 4).skip (r.len mx)).s ∧ ((r.text mx).length < 4294967296 ∧ ((r.text mx).length:Int) ≤ mx)
  obtain ⟨h1,h2,h3,h4⟩:=JQD h
  obtain ⟨k1,k2,k3,k4⟩:=JQD h1
  have hg:(r.got 4).length = 4:=by omega
  have hlen:r.len mx = (beVal (r.got 4):Nat) ∧ ¬ mx < (beVal (r.got 4):Int):=by
   unfold Rd.len at h4 ⊢
   split at h4
   ·omega
   ·rename_i hk; rw [if_neg hk]; exact ⟨rfl,hk⟩
  have hlt:=JjP (r.got 4)
  rw [hg] at hlt
  have ht:(r.skip 4).got (r.len mx) = r.text mx:=rfl
  rw [ht] at h2 h3 h4
  have hl:(r.text mx).length = beVal (r.got 4):=by omega
  have hw:txt (r.text mx) = r.got 4 ++ r.text mx:=by
   unfold txt
   rw [hl,JZ8 _ hg]
  rw [hw]
  refine ⟨k1,?_,?_,?_,?_⟩
  ·rw [h2,k2,List.append_assoc]
  ·rw [List.append_assoc,← h3]; exact k3
  ·rw [hl]; exact hlt
  ·omega
 fit a h:=h.1
 inj a b x y ha hb h:=JOk ha hb h
def dgF : Fmt Dg := ⟨Rd.dg,Rd.dg',Dg.bs,fun _=>True,fun _=>True⟩
theorem Jxe : dgF.Law where
 fault:=Rd.dg_bad Rd.fault rfl
 flt r _:=r.flt_skip 32
 back pre y a _:=rd_dg pre y a
 one r h:=by
  obtain ⟨h1,h2,h3,h4⟩:=JQD h
  have e:r.dg.bs = r.got 32:=by
   rw [Rd.dg_bs,show 32 - (r.got 32).length = 0 by omega]
   simp [zeros]
  refine ⟨h1,?_,?_,trivial⟩
  ·show (r.skip 32).pre = r.pre ++ r.dg.bs
   rw [e]; exact h2
  ·show r.s = r.dg.bs ++ (r.skip 32).s
   rw [e]; exact h3
 fit _ _:=trivial
 inj a b x y _ _ h:=JR1 h
def seqF {α β:Type} (F:Fmt α) (K:α → Fmt β) : Fmt (α × β) :=
 ⟨fun r=>(F.rd r,(K (F.rd r)).rd (F.rd' r)),fun r=>(K (F.rd r)).rd' (F.rd' r),fun p=>F.wr p.1 ++ (K p.1).wr p.2,fun p=>F.good p.1 ∧ (K p.1).good p.2,fun p=>F.fits p.1 ∧ (K p.1).fits p.2⟩
theorem Jm {α β:Type} {F:Fmt α} {K:α → Fmt β} (hF:F.Law) (hK:∀ a,(K a).Law) : (seqF F K).Law where
 fault:=by
  show (K _).rd' (F.rd' Rd.fault) = Rd.fault
  rw [hF.fault]; exact (hK _).fault
 flt r h:=(hK _).flt _ (hF.flt r h)
 back pre y p h:=by
  obtain ⟨a,b⟩:=p
  obtain ⟨h1,h2⟩:=hF.back pre ((K a).wr b ++ y) a h.1
  obtain ⟨k1,k2⟩:=(hK a).back (pre ++ F.wr a) y b h.2
  simp only [seqF,List.append_assoc] at *
  simp only [h1,h2,k1,k2,and_self]
 one r h:=by
  change ((K (F.rd r)).rd' (F.rd' r)).bad = false at h
  obtain ⟨k1,k2,k3,k4⟩:=(hK _).one _ h
  obtain ⟨h1,h2,h3,h4⟩:=hF.one r k1
  refine ⟨h1,?_,?_,h4,k4⟩
  ·show ((K (F.rd r)).rd' (F.rd' r)).pre = _
   rw [k2,h2]; simp [seqF]
  ·show r.s = (F.wr (F.rd r) ++ (K (F.rd r)).wr ((K (F.rd r)).rd (F.rd' r))) ++ ((K (F.rd r)).rd' (F.rd' r)).s
   rw [List.append_assoc,← k3]; exact h3
 fit p h:=⟨hF.fit _ h.1,(hK _).fit _ h.2⟩
 inj a b x y ha hb h:=by
  obtain ⟨a1,a2⟩:=a
  obtain ⟨b1,b2⟩:=b
  simp only [seqF,List.append_assoc] at *
  obtain ⟨rfl,h2⟩:=hF.inj a1 b1 _ _ ha.1 hb.1 h
  obtain ⟨rfl,h3⟩:=(hK a1).inj a2 b2 x y ha.2 hb.2 h2
  exact ⟨rfl,h3⟩
def mapF {α β:Type} (F:Fmt α) (f:α → β) (g:β → α) : Fmt β := ⟨fun r=>f (F.rd r),F.rd',fun b=>F.wr (g b),fun b=>F.good (g b),fun b=>F.fits (g b)⟩
theorem JbN {α β:Type} {F:Fmt α} {f:α → β} {g:β → α} (hF:F.Law) (fg:∀ b,f (g b) = b) (gf:∀ a,F.good a → g (f a) = a) : (mapF F f g).Law where
 fault:=hF.fault
 flt:=hF.flt
 back pre y b h:=by
  obtain ⟨h1,h2⟩:=hF.back pre y (g b) h
  exact ⟨by show f _ = b; simp only [mapF]; rw [h1,fg],h2⟩
 one r h:=by
  obtain ⟨h1,h2,h3,h4⟩:=hF.one r h
  have e:=gf _ h4
  simp only [mapF,e]
  exact ⟨h1,h2,h3,h4⟩
 fit b h:=hF.fit _ h
 inj a b x y ha hb h:=by
  obtain ⟨h1,h2⟩:=hF.inj (g a) (g b) x y ha hb h
  exact ⟨by rw [← fg a,← fg b,h1],h2⟩
def zeroF {α:Type} (F:Fmt α) (z:α) : Fmt α := ⟨fun r=>if (F.rd' r).bad = true then z else F.rd r,F.rd',F.wr,F.good,F.fits⟩
theorem Jeu {α:Type} {F:Fmt α} (z:α) (hF:F.Law) : (zeroF F z).Law where
 fault:=hF.fault
 flt:=hF.flt
 back pre y a h:=by
  obtain ⟨h1,h2⟩:=hF.back pre y a h
  simp only [zeroF,h1,h2]
  exact ⟨rfl,trivial⟩
 one r h:=by
  change (F.rd' r).bad = false at h
  have:=hF.one r h
  simp only [zeroF,h]
  exact this
 fit:=hF.fit
 inj:=hF.inj
def repR {α:Type} (K:List α → Fmt α) (r:Rd) : Nat → List α × Rd
 | 0=>([],r)
 | n + 1=>((repR K r n).1 ++ [(K (repR K r n).1).rd (repR K r n).2],(K (repR K r n).1).rd' (repR K r n).2)
def repW {α:Type} (K:List α → Fmt α) : List α → List α → Bytes
 | _,[]=>[]
 | p,a :: l=>(K p).wr a ++ repW K (p ++ [a]) l
def repG {α:Type} (K:List α → Fmt α) : List α → List α → Prop
 | _,[]=>True
 | p,a :: l=>(K p).good a ∧ repG K (p ++ [a]) l
def repT {α:Type} (K:List α → Fmt α) : List α → List α → Prop
 | _,[]=>True
 | p,a :: l=>(K p).fits a ∧ repT K (p ++ [a]) l
def repF {α:Type} (K:List α → Fmt α) (n:Nat) : Fmt (List α) := ⟨fun r=>(repR K r n).1,fun r=>(repR K r n).2,repW K [],fun l=>l.length = n ∧ repG K [] l,fun l=>l.length = n ∧ repT K [] l⟩
@[simp] theorem JQ {α:Type} (K:List α → Fmt α) (r:Rd) (n:Nat) : (repR K r n).1.length = n := by
 induction n with
 | zero=>rfl
 | succ n ih=>simp [repR,ih]
theorem JOQ {α:Type} (K:List α → Fmt α) (a:α) : ∀ (l p:List α),repW K p (l ++ [a]) = repW K p l ++ (K (p ++ l)).wr a
 | [],p=>by simp [repW]
 | b :: l,p=>by
   simp only [List.cons_append,repW]
   rw [JOQ K a l (p ++ [b])]
   simp
theorem JRY {α:Type} (K:List α → Fmt α) (a:α) : ∀ (l p:List α),repG K p (l ++ [a]) ↔ repG K p l ∧ (K (p ++ l)).good a
 | [],p=>by simp [repG]
 | b :: l,p=>by
   simp only [List.cons_append,repG]
   rw [JRY K a l (p ++ [b])]
   simp [and_assoc]
theorem J0l {α:Type} {K:List α → Fmt α} (hK:∀ p,(K p).Law) : ∀ (l p:List α),repG K p l → repT K p l
 | [],_,_=>trivial
 | _ :: l,_,h=>⟨(hK _).fit _ h.1,J0l hK l _ h.2⟩
theorem JWs {α:Type} {K:List α → Fmt α} (hK:∀ p,(K p).Law) : ∀ (l m p:List α) (x y:Bytes),l.length = m.length → repT K p l → repT K p m → repW K p l ++ x = repW K p m ++ y → l = m ∧ x = y
 | [],[],_,_,_,_,_,_,h=>⟨rfl,by simpa [repW] using h⟩
 | [],_ :: _,_,_,_,h,_,_,_=>by simp at h
 | _ :: _,[],_,_,_,h,_,_,_=>by simp at h
 | a :: l,b :: m,p,x,y,hl,h1,h2,h=>by
   simp only [repW,List.append_assoc] at h
   obtain ⟨rfl,h3⟩:=(hK p).inj a b _ _ h1.1 h2.1 h
   obtain ⟨rfl,h4⟩:=JWs hK l m (p ++ [a]) x y (by simpa using hl) h1.2 h2.2 h3
   exact ⟨rfl,h4⟩
theorem JPN {α:Type} {K:List α → Fmt α} (hK:∀ p,(K p).Law) : ∀ n,(repR K Rd.fault n).2 = Rd.fault
 | 0=>rfl
 | n + 1=>by simp only [repR]; rw [JPN hK n]; exact (hK _).fault
theorem JjN {α:Type} {K:List α → Fmt α} (hK:∀ p,(K p).Law) (r:Rd) (h:r.flt) : ∀ n,(repR K r n).2.flt
 | 0=>h
 | n + 1=>(hK _).flt _ (JjN hK r h n)
theorem JoJ {α:Type} {K:List α → Fmt α} (hK:∀ p,(K p).Law) (r:Rd) (h:r.flt) (j:Nat) (hb:(repR K r j).2.bad = true) : ∀ n,j ≤ n → (repR K r n).2 = Rd.fault
 | 0,hj=>by
   have:j = 0:=by omega
   subst this
   exact JjN hK r h 0 hb
 | n + 1,hj=>by
   rcases (show j = n + 1 ∨ j ≤ n by omega) with rfl | h1
   ·exact JjN hK r h _ hb
   ·simp only [repR]; rw [JoJ hK r h j hb n h1]; exact (hK _).fault
theorem JV8 {α:Type} {K:List α → Fmt α} : ∀ (l p:List α),repG K p l → ∀ n (h:n < l.length),(K (p ++ l.take n)).good l[n]
 | [],_,_,n,h=>by simp at h
 | a :: l,p,hg,0,_=>by simpa using hg.1
 | a :: l,p,hg,n + 1,h=>by
   have:=JV8 l (p ++ [a]) hg.2 n (by simpa using h)
   simpa using this
theorem JR3 {α:Type} {K:List α → Fmt α} (hK:∀ p,(K p).Law) (pre y:Bytes) (l:List α) (hg:repG K [] l) : ∀ n,n ≤ l.length →
 repR K ⟨pre,repW K [] l ++ y,false⟩ n = (l.take n,⟨pre ++ repW K [] (l.take n),repW K (l.take n) (l.drop n) ++ y,false⟩)
 | 0,_=>by simp [repR,repW]
 | n + 1,h=>by
   have hn:n < l.length:=by omega
   have ht:l.take (n + 1) = l.take n ++ [l[n]]:=List.take_succ_eq_append_getElem hn
   have hd:l.drop n = l[n] :: l.drop (n + 1):=List.drop_eq_getElem_cons hn
   have h1:=JV8 l [] hg n hn
   have i:=JR3 hK pre y l hg n (by omega)
   rw [hd] at i
   simp only [repW,List.nil_append,List.append_assoc] at i h1
   obtain ⟨b1,b2⟩:=(hK (l.take n)).back (pre ++ repW K [] (l.take n)) (repW K (l.take n ++ [l[n]]) (l.drop (n + 1)) ++ y) l[n] h1
   simp only [repR,i,b1,b2,ht,JOQ,List.nil_append,List.append_assoc]
theorem JVV {α:Type} {K:List α → Fmt α} (hK:∀ p,(K p).Law) (r:Rd) : ∀ n,(repR K r n).2.bad = false →
 r.bad = false ∧ (repR K r n).2.pre = r.pre ++ repW K [] (repR K r n).1 ∧ r.s = repW K [] (repR K r n).1 ++ (repR K r n).2.s ∧ repG K [] (repR K r n).1
 | 0,h=>⟨h,by simp [repR,repW],by simp [repR,repW],trivial⟩
 | n + 1,h=>by
   simp only [repR] at h ⊢
   obtain ⟨k1,k2,k3,k4⟩:=(hK _).one _ h
   obtain ⟨h1,h2,h3,h4⟩:=JVV hK r n k1
   rw [JOQ,JRY]
   refine ⟨h1,?_,?_,h4,k4⟩
   ·rw [k2,h2]; simp
   ·rw [List.append_assoc]
    simp only [List.nil_append]
    rw [← k3]; exact h3
theorem JWq {α:Type} {K:List α → Fmt α} (hK:∀ p,(K p).Law) (n:Nat) : (repF K n).Law where
 fault:=JPN hK n
 flt r h:=JjN hK r h n
 back pre y l h:=by
  obtain ⟨rfl,h⟩:=h
  have:=JR3 hK pre y l h l.length (Nat.le_refl _)
  rw [List.take_length,List.drop_length] at this
  simp only [repW,List.nil_append] at this
  simp only [repF,this,and_self]
 one r h:=by
  obtain ⟨h1,h2,h3,h4⟩:=JVV hK r n h
  exact ⟨h1,h2,h3,JQ K r n,h4⟩
 fit l h:=⟨h.1,J0l hK l [] h.2⟩
 inj a b x y ha hb h:=JWs hK a b [] x y (by rw [ha.1,hb.1]) ha.2 hb.2 h
def cntF {α:Type} (lo hi:Int) (K:List α → Fmt α) : Fmt (List α) := mapF (seqF (inF lo hi) fun n=>repF K n.toNat) (·.2) (fun l=>((l.length:Int),l))
theorem JAr {α:Type} {lo hi:Int} {K:List α → Fmt α} (h0:0 ≤ lo) (hK:∀ p,(K p).Law) : (cntF lo hi K).Law :=
 JbN (Jm (JA lo hi) fun n=>JWq hK n.toNat) (fun _=>rfl) (by
  rintro ⟨n,l⟩ ⟨⟨_,h1⟩,h2,_⟩
  have h3:lo ≤ n:=h1.1
  have h4:l.length = n.toNat:=h2
  have:(l.length:Int) = n:=by omega
  show ((l.length:Int),l) = (n,l)
  rw [this])
theorem Fmt.Law.congr {α:Type} {F G:Fmt α} (h:F.Law) (h1:∀ r,G.rd r = F.rd r) (h2:∀ r,G.rd' r = F.rd' r) (h3:∀ a,G.wr a = F.wr a) (h4:∀ a,G.good a ↔ F.good a) (h5:∀ a,G.fits a ↔ F.fits a) : G.Law where
 fault:=by rw [h2]; exact h.fault
 flt r hr:=by rw [h2]; exact h.flt r hr
 back pre y a hg:=by rw [h3,h1,h2]; exact h.back pre y a ((h4 a).1 hg)
 one r hb:=by rw [h2] at hb ⊢; rw [h1,h3,h4]; exact h.one r hb
 fit a hg:=(h5 a).2 (h.fit a ((h4 a).1 hg))
 inj a b x y ha hb hx:=by rw [h3,h3] at hx; exact h.inj a b x y ((h5 a).1 ha) ((h5 b).1 hb) hx
end
section
open Go
structure Req.Fits (q:Req) : Prop where
 client:W64 q.client
 num:W64 q.num
 kind:W64 q.kind
 ckind:W64 q.ch.kind
 cid:W64 q.ch.id
 cnew:W64 q.ch.new
 cheight:W64 q.ch.height
 key:q.key.length < 4294967296
 val:q.val.length < 4294967296
 old:q.old.length < 4294967296
theorem Req.bytes_eq (q:Req) (y:Bytes) : q.bytes ++ y = be8 q.client ++ (be8 q.num ++ (be8 q.kind ++ (txt q.key ++ (txt q.val ++ (txt q.old ++ (be8 q.ch.kind ++ (be8 q.ch.id ++ (be8 q.ch.new ++ (be8 q.ch.height ++ (q.ch.root.bs ++ y)))))))))) := by
 simp [Req.bytes,nums,txts]
theorem Req.bytes_app {a b:Req} {x y:Bytes} (ha:a.Fits) (hb:b.Fits) (h:a.bytes ++ x = b.bytes ++ y) : a = b ∧ x = y := by
 rw [Req.bytes_eq,Req.bytes_eq] at h
 obtain ⟨c,n,k,ke,v,o,⟨ck,ci,cn,cr,chh⟩⟩:=a
 obtain ⟨c',n',k',ke',v',o',⟨ck',ci',cn',cr',chh'⟩⟩:=b
 obtain ⟨e1,h1⟩:=Jbt ha.client hb.client h
 obtain ⟨e2,h2⟩:=Jbt ha.num hb.num h1
 obtain ⟨e3,h3⟩:=Jbt ha.kind hb.kind h2
 obtain ⟨e4,h4⟩:=JOk ha.key hb.key h3
 obtain ⟨e5,h5⟩:=JOk ha.val hb.val h4
 obtain ⟨e6,h6⟩:=JOk ha.old hb.old h5
 obtain ⟨e7,h7⟩:=Jbt ha.ckind hb.ckind h6
 obtain ⟨e8,h8⟩:=Jbt ha.cid hb.cid h7
 obtain ⟨e9,h9⟩:=Jbt ha.cnew hb.cnew h8
 obtain ⟨e10,h10⟩:=Jbt ha.cheight hb.cheight h9
 obtain ⟨e11,h11⟩:=JR1 h10
 simp only at e1 e2 e3 e4 e5 e6 e7 e8 e9 e10 e11
 subst e1 e2 e3 e4 e5 e6 e7 e8 e9 e10 e11
 exact ⟨rfl,h11⟩
theorem Req.bytes_inj {a b:Req} (ha:a.Fits) (hb:b.Fits) : a.bytes = b.bytes ↔ a = b := by
 constructor
 ·intro h
  exact (Req.bytes_app (x:=[]) (y:=[]) ha hb (by rw [h])).1
 ·rintro rfl; rfl
structure Rep.Fits (a:Rep) : Prop where
 client:W64 a.client
 num:W64 a.num
 code:W64 a.code
 len:a.vals.length < 4611686018427387904
 vals:∀ v ∈ a.vals,v.length < 4294967296
theorem Rep.bytes_inj {a b:Rep} (ha:a.Fits) (hb:b.Fits) : a.bytes = b.bytes ↔ a = b := by
 constructor
 ·intro h
  obtain ⟨c,n,k,vs⟩:=a
  obtain ⟨c',n',k',vs'⟩:=b
  have e:∀ (c n k:Int) (vs:List Bytes),Rep.bytes ⟨c,n,k,vs⟩ = be8 c ++ (be8 n ++ (be8 k ++ (be8 (vs.length:Int) ++ (txts vs ++ [])))):=fun c n k vs=>by simp [Rep.bytes,nums]
  rw [e,e] at h
  obtain ⟨e1,h1⟩:=Jbt ha.client hb.client h
  obtain ⟨e2,h2⟩:=Jbt ha.num hb.num h1
  obtain ⟨e3,h3⟩:=Jbt ha.code hb.code h2
  have l1:=ha.len
  have l2:=hb.len
  simp only at l1 l2
  obtain ⟨hl,h4⟩:=Jbt (by unfold W64; omega) (by unfold W64; omega) h3
  obtain ⟨e5,_⟩:=JWc ha.vals hb.vals (by dsimp only; omega) h4
  simp only at e1 e2 e3 e5
  subst e1 e2 e3 e5
  rfl
 ·rintro rfl; rfl
end
section
open Go
def Reqs (qs:List Req) : List AV := qs.map Req.av
@[simp] theorem J3U (qs:List Req) : (Reqs qs).length = qs.length := by simp [Reqs]
@[simp] theorem J4C (qs:List Req) : closeds (Reqs qs) = true := by simp [Reqs,closeds_all]
@[simp] theorem J5k (qs:List Req) : plains (Reqs qs) = true := by simp [Reqs,plains_all]
@[simp] theorem J8j (n:Nat) (qs:List Req) : (Reqs qs)[n]? = (qs[n]?).map Req.av := by simp [Reqs]
@[simp] theorem J2W (n:Nat) (qs:List Req) (h:n < (Reqs qs).length) : (Reqs qs)[n] = (qs[n]'(by simpa using h)).av := by simp [Reqs]
@[simp] theorem J31 (a b:List Req) : Reqs a ++ Reqs b = Reqs (a ++ b) := by simp [Reqs]
@[simp] theorem J8Q : Reqs [] = [] := (rfl)
@[simp] theorem J6m (n:Nat) (a:List Req) : (Reqs a).drop n = Reqs (a.drop n) := by simp [Reqs]
@[simp] theorem J6K (n:Nat) (a:List Req) : (Reqs a).take n = Reqs (a.take n) := by simp [Reqs]
@[simp] theorem Req.av_sub (q:Req) : sub true 42 q.av 0 = some q.av := by simp [Req.av,Chg.av]
theorem JSy (qs:List Req) (q:Req) : Reqs qs ++ [q.av] = Reqs (qs ++ [q]) := by simp [Reqs]
structure Blk where
 epoch:Int
 height:Int
 prev:Dg
 state:Dg
 next:Dg
 qs:List Req
def Blk.zero : Blk := ⟨0,0,Dg.zero,Dg.zero,Dg.zero,[]⟩
def Blk.avS (b:Blk) : AV := .node [.v (.int .i64 b.epoch),.v (.int .i64 b.height),dv b.prev,dv b.state,dv b.next,.sl 42 (Reqs b.qs)]
def Blk.avR (l g:Nat) (b:Blk) : AV := .node [.v (.int .i64 b.epoch),.v (.int .i64 b.height),dv b.prev,dv b.state,dv b.next,.row l 42 g 0 b.qs.length]
def reqsB (qs:List Req) : Bytes := qs.flatMap Req.bytes
def Blk.head (b:Blk) : Bytes := nums [b.epoch,b.height] ++ (flatD [b.prev,b.state,b.next] ++ nums [(b.qs.length:Int)])
def Blk.bytes (b:Blk) : Bytes := b.head ++ reqsB b.qs
theorem Blk.head_len (b:Blk) : b.head.length = 120 := by
 simp [Blk.head,Jh,flatD]
theorem Blk.bytes_len (b:Blk) : b.bytes.length = 120 + (reqsB b.qs).length := by
 rw [Blk.bytes,List.length_append,Blk.head_len]
theorem JXy (qs:List Req) (q:Req) : reqsB (qs ++ [q]) = reqsB qs ++ q.bytes := by simp [reqsB]
theorem JPU (qs:List Req) (i:Nat) (h:i < qs.length) : reqsB (qs.take (i + 1)) = reqsB (qs.take i) ++ qs[i].bytes := by
 rw [List.take_succ_eq_append_getElem h,JXy]
theorem JQT (qs:List Req) (i:Nat) : (reqsB (qs.take i)).length ≤ (reqsB qs).length := by
 conv=>rhs; rw [← List.take_append_drop i qs]
 simp only [reqsB,List.flatMap_append,List.length_append]
 omega
def Blk.good (b:Blk) : Bool := decide (0 ≤ b.epoch) && decide (b.epoch ≤ 1073741824) && decide (1 ≤ b.height) && decide (b.height ≤ 1024) && decide (b.qs.length ≤ 8) && b.qs.all Req.good
def Rd.b1 (r:Rd) : Rd := r.inn' 0 1073741824
def Rd.b2 (r:Rd) : Rd := r.b1.inn' 1 1024
def Rd.b3 (r:Rd) : Rd := r.b2.dg'
def Rd.b4 (r:Rd) : Rd := r.b3.dg'
def Rd.b5 (r:Rd) : Rd := r.b4.dg'
def Rd.b6 (r:Rd) : Rd := r.b5.inn' 0 8
def Rd.rq' (r:Rd) : Nat → Rd
 | 0=>r
 | n + 1=>(r.rq' n).req'
def Rd.rq (r:Rd) : Nat → List Req
 | 0=>[]
 | n + 1=>r.rq n ++ [(r.rq' n).req]
@[simp] theorem Rd.rq_length (r:Rd) (n:Nat) : (r.rq n).length = n := by
 induction n with
 | zero=>rfl
 | succ n ih=>simp only [Rd.rq,List.length_append,ih,List.length_cons,List.length_nil]
theorem Rd.rq_sane (r:Rd) (h:r.sane) (n:Nat) : (r.rq' n).sane := by
 cases n with
 | zero=>exact h
 | succ n=>exact Rd.req_sane _
theorem Rd.rq_bad (r:Rd) (k:Nat) (h:(r.rq' k).bad = true) : ∀ n,k ≤ n → (r.rq' n).bad = true := by
 intro n
 induction n with
 | zero=>intro hk; rw [show k = 0 by omega] at h; exact h
 | succ n ih =>
   intro hk
   rcases (show k = n + 1 ∨ k ≤ n by omega) with rfl | h1
   ·exact h
   ·show ((r.rq' n).req').bad = true
    rw [Rd.req_bad _ (ih h1)]
    rfl
def Rd.blkN (r:Rd) : Nat := (r.b5.inn 0 8).toNat
theorem Rd.blkN_eq (r:Rd) : ((r.blkN:Nat):Int) = r.b5.inn 0 8 ∧ r.blkN ≤ 8 := by
 have:=r.b5.inn_range 0 8 (by omega)
 unfold Rd.blkN
 omega
def Rd.blk' (r:Rd) : Rd := r.b6.rq' r.blkN
def Rd.blk0 (r:Rd) : Blk := ⟨r.inn 0 1073741824,r.b1.inn 1 1024,r.b2.dg,r.b3.dg,r.b4.dg,r.b6.rq r.blkN⟩
def Rd.blk (r:Rd) : Blk := if r.blk'.bad = true then Blk.zero else r.blk0
end
section
open Go
structure Blk.Fits (b:Blk) : Prop where
 epoch:W64 b.epoch
 height:W64 b.height
 len:b.qs.length < 4611686018427387904
 qs:∀ q ∈ b.qs,q.Fits
theorem JSW : ∀ {as bs:List Req} {x y:Bytes},(∀ a ∈ as,a.Fits) → (∀ b ∈ bs,b.Fits) → as.length = bs.length → reqsB as ++ x = reqsB bs ++ y → as = bs ∧ x = y
 | [],[],x,y,_,_,_,h=>⟨rfl,by simpa [reqsB] using h⟩
 | a :: as,b :: bs,x,y,ha,hb,hl,h=>by
   have e:∀ (c:Req) (cs:List Req),reqsB (c :: cs) = c.bytes ++ reqsB cs:=fun _ _=>by simp [reqsB]
   rw [e,e,List.append_assoc,List.append_assoc] at h
   obtain ⟨e1,h1⟩:=Req.bytes_app (ha a (by simp)) (hb b (by simp)) h
   obtain ⟨e2,h2⟩:=JSW (fun c hc=>ha c (by simp [hc])) (fun c hc=>hb c (by simp [hc])) (by simpa using hl) h1
   exact ⟨by rw [e1,e2],h2⟩
theorem Blk.bytes_eq (b:Blk) (y:Bytes) : b.bytes ++ y = be8 b.epoch ++ (be8 b.height ++ (b.prev.bs ++ (b.state.bs ++ (b.next.bs ++ (be8 (b.qs.length:Int) ++ (reqsB b.qs ++ y)))))) := by
 simp [Blk.bytes,Blk.head,nums,flatD]
theorem JOb {n:Nat} (h:n < 4611686018427387904) : W64 (n:Int) := by
 unfold W64; omega
theorem Blk.bytes_app {a b:Blk} {x y:Bytes} (ha:a.Fits) (hb:b.Fits) (h:a.bytes ++ x = b.bytes ++ y) : a = b ∧ x = y := by
 rw [Blk.bytes_eq,Blk.bytes_eq] at h
 obtain ⟨e1,h1⟩:=Jbt ha.epoch hb.epoch h
 obtain ⟨e2,h2⟩:=Jbt ha.height hb.height h1
 obtain ⟨e3,h3⟩:=JR1 h2
 obtain ⟨e4,h4⟩:=JR1 h3
 obtain ⟨e5,h5⟩:=JR1 h4
 obtain ⟨e6,h6⟩:=Jbt (JOb ha.len) (JOb hb.len) h5
 obtain ⟨e7,h7⟩:=JSW ha.qs hb.qs (by omega) h6
 cases a; cases b
 simp only at e1 e2 e3 e4 e5 e7
 subst e1 e2 e3 e4 e5 e7
 exact ⟨rfl,h7⟩
theorem Blk.bytes_inj {a b:Blk} (ha:a.Fits) (hb:b.Fits) : a.bytes = b.bytes ↔ a = b := by
 constructor
 ·intro h
  exact (Blk.bytes_app (x:=[]) (y:=[]) ha hb (by rw [h])).1
 ·rintro rfl; rfl
end
section
open Go
def w32 (w:UInt32) : Int := w.toNat
abbrev wv (w:UInt32) : AV := .v (.int .u32 (w32 w))
def U (ws:List UInt32) : List AV := ws.map wv
@[simp] theorem J7V (ws:List UInt32) : (U ws).length = ws.length := by simp [U]
@[simp] theorem J8y (ws:List UInt32) : closeds (U ws) = true := by simp [U,closeds_all]
@[simp] theorem J9h (ws:List UInt32) : plains (U ws) = true := by simp [U,plains_all]
@[simp] theorem U_get (n:Nat) (a:List UInt32) : (U a)[n]? = (a[n]?).map wv := by simp [U]
@[simp] theorem J7p (n:Nat) (a:List UInt32) (h:n < (U a).length) : (U a)[n] = wv (a[n]'(by simpa using h)) := by simp [U]
theorem U_set (L:List UInt32) (j:Nat) (x:UInt32) : (U L).set j (wv x) = U (L.set j x) := by simp [U,List.map_set]
@[simp] theorem U_nil : U [] = [] := rfl
def zeros32 (n:Nat) : List UInt32 := List.replicate n 0
@[simp] theorem J0s (n:Nat) : (zeros32 n).length = n := by simp [zeros32]
@[simp] theorem J8t (n:Nat) : rep n (.v (.int .u32 0)) = U (zeros32 n) := by simp [rep,U,zeros32]; exact .inr rfl
theorem JTo (g:List UInt32) (n j:Nat) (hj:j < g.length) (h:g.length ≤ n) : (g.take j ++ zeros32 (n - j)).set j g[j] = g.take (j + 1) ++ zeros32 (n - (j + 1)) := by
 have e:n - j = (n - (j + 1)) + 1:=by omega
 have e2:j - (g.take j).length = 0:=by rw [List.length_take]; omega
 have e3:g.take (j + 1) = g.take j ++ [g[j]]:=by rw [List.take_add_one,List.getElem?_eq_getElem hj]; rfl
 rw [e,List.set_append_right _ _ (by rw [List.length_take]; omega),e2,e3,List.append_assoc]
 rfl
theorem J27 (a:UInt32) : a.toNat < 4294967296 := a.toNat_lt
theorem JQQ (a b:UInt32) : IntKind.u32.wrap (w32 a + w32 b) = w32 (a + b) := by
 unfold w32
 rw [JQI,UInt32.toNat_add]
 omega
theorem JYF (a:UInt32) : IntKind.u32.wrap (w32 a) = w32 a := by
 unfold w32
 have:=J27 a
 rw [JQI]
 omega
theorem JPa (a:UInt32) : BitVec.ofInt 32 (w32 a) = a.toBitVec := by
 unfold w32
 apply BitVec.eq_of_toNat_eq
 have:=J27 a
 rw [BitVec.toNat_ofInt]
 show ((a.toNat:Int) % ((2 ^ 32:Nat):Int)).toNat = a.toNat
 omega
theorem JGF (a b:UInt32) : bitsOp .xor .u32 (w32 a) (w32 b) = w32 (a ^^^ b) := by
 simp only [bitsOp,IntKind.bits,JPa]
 exact JYF (a ^^^ b)
theorem JZN (a b:UInt32) : bitsOp .and .u32 (w32 a) (w32 b) = w32 (a &&& b) := by
 simp only [bitsOp,IntKind.bits,JPa]
 exact JYF (a &&& b)
theorem J18 (a b:UInt32) : bitsOp .or .u32 (w32 a) (w32 b) = w32 (a ||| b) := by
 simp only [bitsOp,IntKind.bits,JPa]
 exact JYF (a ||| b)
theorem J34 (a:UInt32) : bitsOp .xor .u32 4294967295 (w32 a) = w32 (~~~a) := by
 have e:(4294967295:Int) = w32 4294967295:=rfl
 rw [e,JGF]
 congr 2
@[simp] theorem J9B (a:UInt32) : unV .xor (.int .u32 (w32 a)) = some (.int .u32 (w32 (~~~a))) := by
 have e:IntKind.max .u32 = 4294967295:=by decide
 simp only [unV,IntKind.signed,e,Bool.false_eq_true,if_false,J34]
theorem JRa (a:UInt32) (n:Nat) (h:n < 32) : IntKind.u32.wrap (w32 a * 2 ^ n) = w32 (a <<< UInt32.ofNat n) := by
 unfold w32
 rw [JQI,UInt32.toNat_shiftLeft,Nat.shiftLeft_eq]
 have e:(UInt32.ofNat n).toNat % 32 = n:=by
  rw [UInt32.toNat_ofNat']
  omega
 rw [e]
 have e2:((a.toNat:Int) * 2 ^ n) = ((a.toNat * 2 ^ n:Nat):Int):=by simp
 rw [e2]
 omega
theorem JNY (a:UInt32) (n:Nat) (h:n < 32) : (w32 a).fdiv (2 ^ n) = w32 (a >>> UInt32.ofNat n) := by
 unfold w32
 rw [Int.fdiv_eq_ediv_of_nonneg _ (Int.le_of_lt (Int.pow_pos (by decide))),UInt32.toNat_shiftRight,Nat.shiftRight_eq_div_pow]
 have e:(UInt32.ofNat n).toNat % 32 = n:=by
  rw [UInt32.toNat_ofNat']
  omega
 rw [e]
 simp
theorem J00 (b:UInt8) : IntKind.u32.wrap (b.toNat:Int) = w32 b.toUInt32 := by
 unfold w32
 have:=b.toNat_lt
 rw [JQI]
 show _ = ((b.toNat:Nat):Int)
 omega
theorem J0k (w:UInt32) : u8 (w32 w) = w.toUInt8 := by
 unfold w32
 apply UInt8.toNat_inj.1
 have:=Jbx (w.toNat:Int)
 have h2:w.toUInt8.toNat = w.toNat % 256:=UInt32.toNat_toUInt8 w
 omega
end
section
open Go
def rotr (x:UInt32) (n:Nat) : UInt32 := (x >>> UInt32.ofNat n) ||| (x <<< UInt32.ofNat (32 - n))
def word4 (a b c d:UInt8) : UInt32 := (a.toUInt32 <<< 24) ||| (b.toUInt32 <<< 16) ||| (c.toUInt32 <<< 8) ||| d.toUInt32
def s0 (x:UInt32) : UInt32 := rotr x 7 ^^^ rotr x 18 ^^^ (x >>> 3)
def s1 (x:UInt32) : UInt32 := rotr x 17 ^^^ rotr x 19 ^^^ (x >>> 10)
def words (b:Bytes) : List UInt32 := (List.range 16).map fun i => word4 (b.getD (4 * i) 0) (b.getD (4 * i + 1) 0) (b.getD (4 * i + 2) 0) (b.getD (4 * i + 3) 0)
def next (w:List UInt32) : UInt32 := w.getD (w.length - 16) 0 + s0 (w.getD (w.length - 15) 0) + w.getD (w.length - 7) 0 + s1 (w.getD (w.length - 2) 0)
def grow : Nat → List UInt32 → List UInt32
 | 0,w=>w
 | n + 1,w=>grow n w ++ [next (grow n w)]
@[simp] theorem J2C (b:Bytes) : (words b).length = 16 := by simp [words]
@[simp] theorem J40 (n:Nat) (w:List UInt32) : (grow n w).length = w.length + n := by
 induction n with
 | zero=>rfl
 | succ n ih=>simp [grow,ih,Nat.add_assoc]
def table : List UInt32 := [
 0x428a2f98,0x71374491,0xb5c0fbcf,0xe9b5dba5,0x3956c25b,0x59f111f1,0x923f82a4,0xab1c5ed5,
 0xd807aa98,0x12835b01,0x243185be,0x550c7dc3,0x72be5d74,0x80deb1fe,0x9bdc06a7,0xc19bf174,
 0xe49b69c1,0xefbe4786,0x0fc19dc6,0x240ca1cc,0x2de92c6f,0x4a7484aa,0x5cb0a9dc,0x76f988da,
 0x983e5152,0xa831c66d,0xb00327c8,0xbf597fc7,0xc6e00bf3,0xd5a79147,0x06ca6351,0x14292967,
 0x27b70a85,0x2e1b2138,0x4d2c6dfc,0x53380d13,0x650a7354,0x766a0abb,0x81c2c92e,0x92722c85,
 0xa2bfe8a1,0xa81a664b,0xc24b8b70,0xc76c51a3,0xd192e819,0xd6990624,0xf40e3585,0x106aa070,
 0x19a4c116,0x1e376c08,0x2748774c,0x34b0bcb5,0x391c0cb3,0x4ed8aa4a,0x5b9cca4f,0x682e6ff3,
 0x748f82ee,0x78a5636f,0x84c87814,0x8cc70208,0x90befffa,0xa4506ceb,0xbef9a3f7,0xc67178f2]
@[simp] theorem JSQ : table.length = 64 := rfl
structure St where
 a:UInt32
 b:UInt32
 c:UInt32
 d:UInt32
 e:UInt32
 f:UInt32
 g:UInt32
 h:UInt32
def St.list (s:St) : List UInt32 := [s.a,s.b,s.c,s.d,s.e,s.f,s.g,s.h]
def St.p (s:St) (k w:UInt32) : UInt32 := s.h + (rotr s.e 6 ^^^ rotr s.e 11 ^^^ rotr s.e 25) + ((s.e &&& s.f) ^^^ (~~~s.e &&& s.g)) + k + w
def St.q (s:St) : UInt32 := (rotr s.a 2 ^^^ rotr s.a 13 ^^^ rotr s.a 22) + ((s.a &&& s.b) ^^^ (s.a &&& s.c) ^^^ (s.b &&& s.c))
def St.round (s:St) (k w:UInt32) : St := ⟨s.p k w + s.q,s.a,s.b,s.c,s.d + s.p k w,s.e,s.f,s.g⟩
def rounds (w:List UInt32) : Nat → St → St
 | 0,s=>s
 | n + 1,s=>(rounds w n s).round (table.getD n 0) (w.getD n 0)
theorem JVw (w:List UInt32) (s:St) : rounds w 0 s = s := rfl
theorem JVl (w:List UInt32) (n:Nat) (s:St) : rounds w (n + 1) s = (rounds w n s).round (table.getD n 0) (w.getD n 0) := rfl
theorem JZu (w:List UInt32) : grow 0 w = w := rfl
theorem JZj (n:Nat) (w:List UInt32) : grow (n + 1) w = grow n w ++ [next (grow n w)] := rfl
def St.plus (s t:St) : St := ⟨s.a + t.a,s.b + t.b,s.c + t.c,s.d + t.d,s.e + t.e,s.f + t.f,s.g + t.g,s.h + t.h⟩
def comp (s:St) (b:Bytes) : St := s.plus (rounds (grow 48 (words b)) 64 s)
def iv : St := ⟨0x6a09e667,0xbb67ae85,0x3c6ef372,0xa54ff53a,0x510e527f,0x9b05688c,0x1f83d9ab,0x5be0cd19⟩
def hb : Nat → Bytes → St
 | 0,_=>iv
 | n + 1,b=>comp (hb n b) ((b.drop (64 * n)).take 64)
def fillN (n:Nat) : Nat := (119 - n % 64) % 64
def pad (b:Bytes) : Bytes := b ++ (128 :: (zeros (fillN b.length) ++ be8 (8 * b.length:Nat)))
def wbytes (x:UInt32) : Bytes := [(x >>> 24).toUInt8,(x >>> 16).toUInt8,(x >>> 8).toUInt8,x.toUInt8]
def St.bytes (s:St) : Bytes := s.list.flatMap wbytes
@[simp] theorem St.bytes_length (s:St) : s.bytes.length = 32 := rfl
def sha (b:Bytes) : Dg := ⟨(hb ((pad b).length / 64) (pad b)).bytes,rfl⟩
theorem JRP (n:Nat) (b c:Bytes) (h:64 * n ≤ b.length) : hb n (b ++ c) = hb n b := by
 induction n with
 | zero=>rfl
 | succ n ih =>
   simp only [hb]
   rw [ih (by omega),List.drop_append_of_le_length (by omega),List.take_append_of_le_length (by rw [List.length_drop]; omega)]
end
section
open Go
attribute [local irreducible] sha
def leafD (b:Bytes) : Dg := sha (0 :: b)
def pairD (a b:Dg) : Dg := sha (1 :: (a.bs ++ b.bs))
attribute [local irreducible] leafD pairD
def sib (at_:Nat) : Nat := if at_ % 2 = 1 then at_ - 1 else at_ + 1
def checkD (root leaf:Dg) (at_ count:Nat) (path:List Dg) : Bool :=
 if h:1 < count then
  if count ≤ sib at_ then checkD root leaf (at_ / 2) ((count + 1) / 2) path
  else match path with
   | []=>false
   | p :: ps=>checkD root (if at_ % 2 = 1 then pairD p leaf else pairD leaf p) (at_ / 2) ((count + 1) / 2) ps
 else decide (path = []) && decide (leaf = root)
termination_by count
theorem JWJ (root leaf:Dg) (at_ count:Nat) (path:List Dg) (h:count ≤ 1) : checkD root leaf at_ count path = (decide (path = []) && decide (leaf = root)) := by
 rw [checkD.eq_def,dif_neg (by omega)]
theorem JYk (root leaf:Dg) (at_ count:Nat) (path:List Dg) (h:1 < count) (hs:count ≤ sib at_) : checkD root leaf at_ count path = checkD root leaf (at_ / 2) ((count + 1) / 2) path := by
 rw [checkD.eq_def,dif_pos h,if_pos hs]
theorem JVD (root leaf:Dg) (at_ count:Nat) (h:1 < count) (hs:¬ count ≤ sib at_) : checkD root leaf at_ count [] = false := by
 rw [checkD.eq_def,dif_pos h,if_neg hs]
theorem JTW (root leaf:Dg) (at_ count:Nat) (p:Dg) (ps:List Dg) (h:1 < count) (hs:¬ count ≤ sib at_) :
 checkD root leaf at_ count (p :: ps) = checkD root (if at_ % 2 = 1 then pairD p leaf else pairD leaf p) (at_ / 2) ((count + 1) / 2) ps:=by
 rw [checkD.eq_def,dif_pos h,if_neg hs]
theorem J3b (at_:Nat) (h:at_ < 9223372036854775807) : bitsOp .xor .i64 (at_:Int) 1 = (sib at_:Int) := by
 simp only [bitsOp,BitVec.toNat_xor,BitVec.toNat_ofInt]
 have e1:((at_:Int) % ((2 ^ IntKind.i64.bits:Nat):Int)).toNat = at_:=by
  rw [← Int.natCast_emod,Int.toNat_natCast,Nat.mod_eq_of_lt (by simp only [IntKind.bits]; omega)]
 have e2:((1:Int) % ((2 ^ IntKind.i64.bits:Nat):Int)).toNat = 1:=by decide
 rw [e1,e2]
 have e3:at_ ^^^ 1 = sib at_:=by
  unfold sib
  split
  ·rename_i ho
   obtain ⟨k,rfl⟩:∃ k,at_ = 2 * k + 1:=⟨at_ / 2,by omega⟩
   apply Nat.eq_of_testBit_eq
   intro i
   cases i with
   | zero=>rw [Nat.testBit_xor]; simp [Nat.testBit_zero]; try omega
   | succ i=>rw [Nat.testBit_xor,Nat.testBit_succ,Nat.testBit_succ,Nat.testBit_succ]; simp; try (congr 1; omega)
  ·rename_i ho
   obtain ⟨k,rfl⟩:∃ k,at_ = 2 * k:=⟨at_ / 2,by omega⟩
   apply Nat.eq_of_testBit_eq
   intro i
   cases i with
   | zero=>rw [Nat.testBit_xor]; simp [Nat.testBit_zero]; try omega
   | succ i=>rw [Nat.testBit_xor,Nat.testBit_succ,Nat.testBit_succ,Nat.testBit_succ]; simp; try (congr 1; omega)
 rw [e3,IntKind.wrap_i64]
 unfold sib
 split <;> omega
end
section
open Go
attribute [local irreducible] sha leafD pairD
def secB (seed:Dg) (leaf:Int) (n:Nat) : Bytes := 2 :: (seed.bs ++ (be8 leaf ++ be8 (n:Int)))
def secD (seed:Dg) (leaf:Int) (bit is:Nat) : Dg := sha (secB seed leaf (2 * bit + is))
def shutD (s:Dg) : Dg := sha s.bs
def bitD (d:Dg) (i:Nat) : Nat := (d.bs.getD (i / 8) 0).toNat / 2 ^ (7 - i % 8) % 2
theorem J4P (d:Dg) (i:Nat) : bitD d i = 0 ∨ bitD d i = 1 := by
 unfold bitD
 omega
attribute [local irreducible] secD shutD bitD
def pubL (seed:Dg) (leaf:Int) : Nat → List Dg
 | 0=>[]
 | n + 1=>pubL seed leaf n ++ [shutD (secD seed leaf n 0),shutD (secD seed leaf n 1)]
def wholeD (l:List Dg) : Dg := sha (flatD l)
def pubD (seed:Dg) (leaf:Int) (N:Nat) : Dg := wholeD (pubL seed leaf N)
def two (b:Nat) (x y:Dg) : List Dg := if b = 0 then [x,y] else [y,x]
def ofL (d:Dg) (o s:List Dg) : Nat → List Dg
 | 0=>[]
 | n + 1=>ofL d o s n ++ two (bitD d n) (shutD (o.getD n Dg.zero)) (s.getD n Dg.zero)
theorem JYc (b:Nat) (x y:Dg) : (two b x y).length = 2 := by unfold two; split <;> rfl
theorem JPP (d:Dg) (o s:List Dg) (n:Nat) : (ofL d o s n).length = 2 * n := by
 induction n with
 | zero=>rfl
 | succ n ih=>simp only [ofL,List.length_append,ih,JYc]; omega
def ofD (d:Dg) (o s:List Dg) (N:Nat) : Dg := wholeD (ofL d o s N)
end
section
open Go
attribute [local irreducible] sha leafD pairD secD shutD wholeD pubD ofD
structure Sig where
 leaf:Int
 op:List Dg
 sh:List Dg
 path:List Dg
def Sig.zero : Sig := ⟨0,[],[],[]⟩
def Sig.avS (s:Sig) : AV := .node [.v (.int .i64 s.leaf),.node [.sl 32 (Dgs s.op),.sl 32 (Dgs s.sh)],.sl 32 (Dgs s.path)]
def Sig.avR (a b c g:Nat) (s:Sig) : AV := .node [.v (.int .i64 s.leaf),.node [.row a 32 g 0 s.op.length,.row b 32 g 0 s.sh.length],.row c 32 g 0 s.path.length]
def Sig.rows (a b c g:Nat) (s:Sig) : List (Nat × Loc) := [(a,.rows g 32 (Dgs s.op)),(b,.rows g 32 (Dgs s.sh)),(c,.rows g 32 (Dgs s.path))]
def leafK (p:Dg) : Dg := leafD p.bs
def checkK (root:Dg) (h:Int) (d:Dg) (s:Sig) : Bool :=
 decide (s.op.length = 32 ∧ s.sh.length = 32) && (decide (0 ≤ h ∧ h ≤ 6) && (decide (0 ≤ s.leaf ∧ s.leaf < ((2 ^ h.toNat:Nat):Int)) && checkD root (leafK (ofD d s.op s.sh 32)) s.leaf.toNat (2 ^ h.toNat) s.path))
def Sig.ok (s:Sig) : Bool := decide (s.op.length = 32 ∧ s.sh.length = 32 ∧ s.path.length ≤ 6)
def Sig.bytes (s:Sig) : Bytes := nums [s.leaf,(s.path.length:Int)] ++ (flatD s.op ++ (flatD s.sh ++ flatD s.path))
theorem Sig.bytes_len (s:Sig) : s.bytes.length = 16 + 32 * (s.op.length + s.sh.length + s.path.length) := by
 simp only [Sig.bytes,List.length_append,Jh,Jbq,List.length_cons,List.length_nil]
 omega
def Rd.ds' (r:Rd) : Nat → Rd
 | 0=>r
 | n + 1=>(r.ds' n).dg'
def Rd.ds (r:Rd) : Nat → List Dg
 | 0=>[]
 | n + 1=>r.ds n ++ [(r.ds' n).dg]
@[simp] theorem Rd.ds_length (r:Rd) (n:Nat) : (r.ds n).length = n := by
 induction n with
 | zero=>rfl
 | succ n ih=>simp only [Rd.ds,List.length_append,ih,List.length_cons,List.length_nil]
theorem Rd.ds_sane (r:Rd) (h:r.sane) (n:Nat) : (r.ds' n).sane := by
 cases n with
 | zero=>exact h
 | succ n=>exact Rd.dg_sane _
theorem Rd.ds_fault (n:Nat) : Rd.fault.ds' n = Rd.fault := by
 induction n with
 | zero=>rfl
 | succ n ih=>simp only [Rd.ds',ih]; exact Rd.dg_bad _ rfl
theorem Rd.ds_bad (r:Rd) (k:Nat) (h:(r.ds' k).bad = true) : ∀ n,k ≤ n → (r.ds' n).bad = true := by
 intro n
 induction n with
 | zero=>intro hk; rw [show k = 0 by omega] at h; exact h
 | succ n ih =>
   intro hk
   rcases (show k = n + 1 ∨ k ≤ n by omega) with rfl | h1
   ·exact h
   ·show ((r.ds' n).dg').bad = true
    rw [Rd.dg_bad _ (ih h1)]
    rfl
theorem Rd.inn_fault (r:Rd) (lo hi:Int) (h:(r.inn' lo hi).bad = true) : r.inn' lo hi = Rd.fault := by
 unfold Rd.inn' at h ⊢
 split
 ·rename_i k
  rw [if_pos k] at h
  simp only [Rd.inOk,Bool.and_eq_true,Bool.not_eq_true'] at k
  rw [k.1.1] at h
  cases h
 ·rfl
def Rd.s2 (r:Rd) : Rd := r.num'.inn' 0 6
def Rd.sN (r:Rd) : Nat := (r.num'.inn 0 6).toNat
theorem Rd.sN_eq (r:Rd) : ((r.sN:Nat):Int) = r.num'.inn 0 6 ∧ r.sN ≤ 6 := by
 have:=r.num'.inn_range 0 6 (by omega)
 unfold Rd.sN
 omega
def Rd.sig' (r:Rd) : Rd := ((r.s2.ds' 32).ds' 32).ds' r.sN
def Rd.sig0 (r:Rd) : Sig := ⟨r.num,r.s2.ds 32,(r.s2.ds' 32).ds 32,((r.s2.ds' 32).ds' 32).ds r.sN⟩
def Rd.sig (r:Rd) : Sig := if r.sig'.bad = true then Sig.zero else r.sig0
theorem Rd.sig_fault (r:Rd) (h:r.s2.bad = true) : r.s2 = Rd.fault ∧ r.sig' = Rd.fault := by
 have e:r.s2 = Rd.fault:=Rd.inn_fault _ _ _ h
 refine ⟨e,?_⟩
 unfold Rd.sig'
 rw [e,Rd.ds_fault,Rd.ds_fault,Rd.ds_fault]
theorem Rd.ds_add' (r:Rd) (n:Nat) : ∀ m,r.ds' (n + m) = (r.ds' n).ds' m
 | 0=>rfl
 | m + 1=>by
   show (r.ds' (n + m)).dg' = ((r.ds' n).ds' m).dg'
   rw [Rd.ds_add' r n m]
end
section
open Go
def newE (L:Names) : List (Nat × Loc) → Prop
 | []=>True
 | e :: r=>look L e.1 = some (some (e.1,e.2.gen)) ∧ newE L r
theorem JVY {L:Names} : ∀ {M:List (Nat × Loc)} {e:Nat × Loc},newE L M → e ∈ M → look L e.1 = some (some (e.1,e.2.gen))
 | [],_,_,h=>by cases h
 | _ :: _,_,h,hm=>by
   rcases List.mem_cons.1 hm with rfl | hm
   ·exact h.1
   ·exact JVY h.2 hm
def sameNames : List (Nat × Loc) → Names
 | []=>[]
 | (k,c) :: r=>(k,some (k,c.gen)) :: sameNames r
theorem Meets.freezeL {P:Program} {G:Nat → Option AV} {f:Nat} {args:List AV} {M:List (Nat × Loc)} {keep:Bool} {res:AV} {M':List (Nat × Loc)} (h:Meets P G f args M keep res M') {res2:AV} {M2:List (Nat × Loc)} (L:Names)
 (hg:goodM false M2 M2 = true ∧ goodA false M2 res2 = true ∧ (M2.map (·.1)).Nodup)
 (he:FitR (look M') L res res2 ∧ Stamped (fun g=>g = 0 ∨ g = 1) res2 ∧ FitM (look M') L M2 ∧ StampedM (fun g=>g = 0 ∨ g = 1) M2 ∧ (srcs L M2).Nodup ∧ (∀ t ∈ touchR (look M') res res2 ++ touchM (look M') L M2,t ∉ srcs L M2) ∧ newE L M2) :
 Meets P G f args M false res2 M2:=by
 refine ⟨hg,fun C Ws ys hw hm hu hG hv=>?_⟩
 refine Calls.mono (h.2 C Ws ys hw hm hu hG hv) ?_
 rintro e w'' ⟨y,C1,rfl,rfl,hle1,hw1,hm1,hv1⟩
 obtain ⟨h1,h2,h3,h4,h6,h7,h8⟩:=he
 rw [← hm1] at h1 h3 h7
 obtain ⟨T,hT⟩:∃ T,T = touchR C1.m res res2 ++ touchM C1.m L M2:=⟨_,rfl⟩
 let U:Nat → Prop:=fun g=>C1.used g ∨ g = 0 ∨ g = 1
 have hst':∀ (a:AV),Stamped (fun g=>g = 0 ∨ g = 1) a → Stamped U a:=fun a=>Jbd (fun g h=>.inr h) a
 have hnamed:Named C1.m L M2 T U:=⟨hg.2.2,fun e he=>JAm h3 he,fun e he t ht=>by rw [hT]; exact List.mem_append_right _ (JjQ he ht),h6,by rw [hT]; exact h7,fun e he=>by
  have:=Jbc h4 he
  cases hq:e.2 with
  | var g w=>rw [hq] at this; exact ⟨.inr this.1,hst' w this.2⟩
  | rows g sz ws=>rw [hq] at this; exact ⟨.inr this.1,J1 (fun g h=>.inr h) ws this.2⟩
  | ob g q w=>rw [hq] at this; exact ⟨.inr this.1,hst' w this.2⟩⟩
 have hle:C1.Le (reCtx C1 L M2 T U):=by
  refine ⟨fun g hg=>.inl hg,fun k hk=>.inl hk,fun _ _=>rfl,fun l c' hc' hu'=>?_⟩
  have hmem:=Jbh hc'
  have hold:=JVY h8 hmem
  simp only at hold
  have hfit:=hnamed.fit _ hmem
  cases c' with
  | ob g q w =>
    simp only [Loc.gen] at hold
    obtain ⟨l2,g2,raw,k1,k2,_⟩:=hfit
    simp only at k1
    rw [hold] at k1
    obtain ⟨rfl,rfl⟩:=(by simpa using k1:l = l2 ∧ g = g2)
    exact ⟨_,k2,⟨rfl,rfl⟩,by simp [reCtx,src,hold],fun b _ cur _ hcur=>⟨cur,hcur,rfl⟩⟩
  | rows g sz ws =>
    simp only [Loc.gen] at hold
    rcases hfit with ⟨l2,g2,xs,k1,k2,_⟩ | ⟨k1,_⟩
    ·simp only at k1
     rw [hold] at k1
     obtain ⟨rfl,rfl⟩:=(by simpa using k1:l = l2 ∧ g = g2)
     exact ⟨_,k2,⟨rfl,rfl⟩,by simp [reCtx,src,hold],fun b _ cur _ hcur=>⟨cur,hcur,rfl⟩⟩
    ·simp only at k1
     rw [hold] at k1
     simp at k1
  | var g w =>
    simp only [Loc.gen] at hold
    obtain ⟨l2,g2,raw,k1,k2,_⟩:=hfit
    simp only at k1
    rw [hold] at k1
    obtain ⟨rfl,rfl⟩:=(by simpa using k1:l = l2 ∧ g = g2)
    exact ⟨_,k2,rfl,by simp [reCtx,src,hold],fun b _ cur _ hcur=>⟨cur,hcur,rfl⟩⟩
 have hwr:WR C.w Ws C.I (reCtx C1 L M2 T U):=by
  refine hnamed.wr hw1 (fun k hk=>.inl (hw1.imm0 k hk)) (fun l c b _ h2 h3=>(hw1.own l c b h2 h3).2.2) (fun k hk=>?_) hw1.os hw1.tape hw1.output hw1.size hw1.block
  rcases hk with hk | ⟨t,_,ct,hct,hbt⟩
  ·exact (hw1.imm k hk).2
  ·exact .inr ((hw1.own t ct k hct hbt).2.2)
 exact ⟨y,reCtx C1 L M2 T U,rfl,rfl,hle1.trans hle,hwr,rfl,JVc hw1 hnamed.seen h1 (fun t ht=>by rw [hT]; exact List.mem_append_left _ ht) (hst' res2 h2) hv1⟩
theorem Meets.freeze {P:Program} {G:Nat → Option AV} {f:Nat} {args:List AV} {M:List (Nat × Loc)} {keep:Bool} {res:AV} {M':List (Nat × Loc)} (h:Meets P G f args M keep res M') {res2:AV} {M2:List (Nat × Loc)}
 (hg:goodM false M2 M2 = true ∧ goodA false M2 res2 = true ∧ (M2.map (·.1)).Nodup)
 (he:FitR (look M') (sameNames M2) res res2 ∧ Stamped (fun g=>g = 0 ∨ g = 1) res2 ∧ FitM (look M') (sameNames M2) M2 ∧ StampedM (fun g=>g = 0 ∨ g = 1) M2 ∧ (srcs (sameNames M2) M2).Nodup ∧ (∀ t ∈ touchR (look M') res res2 ++ touchM (look M') (sameNames M2) M2,t ∉ srcs (sameNames M2) M2) ∧ newE (sameNames M2) M2) :
 Meets P G f args M false res2 M2:=h.freezeL (sameNames M2) hg he
attribute [simp] newE sameNames
mutual
theorem JpY {M:List (Nat × Loc)} {L:Names} {nb gn:Nat} : ∀ (a:AV),closed a = true → goodA false M a = true ∧ pairsA a a = [] ∧ renA L nb gn a = a
 | .top,_=>by simp [goodA,pairsA,renA]
 | .v x,_=>by
   refine ⟨by simp [goodA],?_,rfl⟩
   unfold pairsA
   split <;> simp_all
 | .node cs,h=>by
   simp only [closed] at h
   obtain ⟨h1,h2,h3⟩:=Jgt (M:=M) (L:=L) (nb:=nb) (gn:=gn) cs h
   simp only [goodA,pairsA,renA,h1,h2,h3,and_self]
 | .arr _ _,h=>by simp only [closed] at h; simp [goodA,pairsA,renA,h]
 | .sl _ _,h=>by simp only [closed] at h; simp [goodA,pairsA,renA,h]
 | .iptr _,h=>by simp only [closed] at h; simp [goodA,pairsA,renA,h]
 | .ptr ..,h=>by simp [closed] at h
 | .row ..,h=>by simp [closed] at h
 | .vrow ..,h=>by simp [closed] at h
 | .rptr ..,h=>by simp [closed] at h
 | .tup _,h=>by simp [closed] at h
theorem Jgt {M:List (Nat × Loc)} {L:Names} {nb gn:Nat} : ∀ (as:List AV),closeds as = true → goods false M as = true ∧ pairsL as as = [] ∧ rens L nb gn as = as
 | [],_=>by simp [goods,pairsL,rens]
 | a :: as,h=>by
   simp only [closeds,Bool.and_eq_true] at h
   obtain ⟨h1,h2,h3⟩:=JpY (M:=M) (L:=L) (nb:=nb) (gn:=gn) a h.1
   obtain ⟨k1,k2,k3⟩:=Jgt (M:=M) (L:=L) (nb:=nb) (gn:=gn) as h.2
   simp only [goods,pairsL,rens,h1,h2,h3,k1,k2,k3,List.append_nil,Bool.and_self,and_self]
end
theorem JG {M:List (Nat × Loc)} {a:AV} (h:closed a = true) : goodA false M a = true := (JpY (L:=[]) (nb:=0) (gn:=0) a h).1
theorem Jv {a:AV} (h:closed a = true) : pairsA a a = [] := (JpY (M:=[]) (L:=[]) (nb:=0) (gn:=0) a h).2.1
theorem JN {L:Names} {nb gn:Nat} {a:AV} (h:closed a = true) : renA L nb gn a = a := (JpY (M:=[]) a h).2.2
theorem JY {m:Nat → Option Loc} {L:Names} {a:AV} (h:closed a = true) : Fit m L a a = True := eq_true (JKb a h).1
theorem JM {m:Nat → Option Loc} {L:Names} {a:AV} (h:closed a = true) : FitR m L a a = True := by
 have:=(JKb (m:=m) (L:=L) a h).1
 cases a <;> first | exact eq_true this | (simp [closed] at h)
theorem JE {m:Nat → Option Loc} {a:AV} (h:closed a = true) : touch m a a = [] := (JKb (L:=[]) a h).2
theorem Jy {m:Nat → Option Loc} {a:AV} (h:closed a = true) : touchR m a a = [] := by
 have:=(JKb (m:=m) (L:=[]) a h).2
 cases a <;> first | exact this | (simp [closed] at h)
theorem Jt {U:Nat → Prop} {a:AV} (h:closed a = true) : Stamped U a = True := eq_true (Jm2 a h)
theorem JC {a:AV} (h:closed a = true) : a.isTup = false := by cases a <;> first | rfl | (simp [closed] at h)
theorem JB {a:AV} (h:closed a = true) : refOf a = none := by cases a <;> first | rfl | (simp [closed] at h)
@[simp] theorem J1o {M:List (Nat × Loc)} {as:List AV} (h:closeds as = true) : goods false M as = true := (Jgt (L:=[]) (nb:=0) (gn:=0) as h).1
@[simp] theorem J0t {as:List AV} (h:closeds as = true) : pairsL as as = [] := (Jgt (M:=[]) (L:=[]) (nb:=0) (gn:=0) as h).2.1
@[simp] theorem J2k {L:Names} {nb gn:Nat} {as:List AV} (h:closeds as = true) : rens L nb gn as = as := (Jgt (M:=[]) as h).2.2
end
end Go.Proofs.YtlajjoekbcjfnaaGreatDoor.WL
