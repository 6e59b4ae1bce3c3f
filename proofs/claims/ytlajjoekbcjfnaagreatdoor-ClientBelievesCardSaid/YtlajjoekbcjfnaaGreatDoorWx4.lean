import Derived.Test.YtlajjoekbcjfnaaGreatDoorWx3
import Derived.Deep.Slices
import GoSem.ClaimJoined
import Derived.OpenShut
import Derived.ChangeArms
import Derived.ProofKit
import Derived.Carry
import Derived.ChangeOld
import Derived.SizedLaws
namespace Go.Proofs.YtlajjoekbcjfnaaGreatDoor.WL
set_option linter.all false
section
open Go
attribute [simp] sub subs putAt putsAt deref loadA storeA faddrA fieldA indexA iaddrA iaddrArr lenA sliceA sliceArr srcA destA overA elemsAt bnd bounds
attribute [simp] AV.size AV.sizes AV.isRef refs reads quiet fresh Option.getD
@[simp] theorem J5a  : AV.top.isAgg = false := (rfl)
@[simp] theorem J6R (x:Value) : (AV.v x).isAgg = false := (rfl)
@[simp] theorem J22 (cs:List AV) : (AV.node cs).isAgg = true := (rfl)
@[simp] theorem J3v (sz:Nat) (xs:List AV) : (AV.arr sz xs).isAgg = true := (rfl)
@[simp] theorem J5l (sz:Nat) (xs:List AV) : (AV.sl sz xs).isAgg = false := (rfl)
@[simp] theorem J4K (l g off:Nat) : (AV.ptr l g off).isAgg = false := (rfl)
@[simp] theorem J3V (l sz g off n:Nat) : (AV.row l sz g off n).isAgg = false := (rfl)
@[simp] theorem J2x (l g off sz n cap:Nat) : (AV.vrow l g off sz n cap).isAgg = false := (rfl)
@[simp] theorem J2M (x:AV) : (AV.iptr x).isAgg = false := (rfl)
@[simp] theorem J2w (l sz g i off:Nat) : (AV.rptr l sz g i off).isAgg = false := (rfl)
@[simp] theorem J2z (l g:Nat) (mp:Bool) : (AV.oref l g mp).isAgg = false := (rfl)
@[simp] theorem J3s (vs:List AV) : (AV.tup vs).isAgg = false := (rfl)
@[simp] theorem J4u  : AV.top.solid = false := (rfl)
@[simp] theorem J6G (x:Value) : (AV.v x).solid = true := (rfl)
@[simp] theorem J2d (cs:List AV) : (AV.node cs).solid = true := (rfl)
@[simp] theorem J49 (sz:Nat) (xs:List AV) : (AV.arr sz xs).solid = true := (rfl)
@[simp] theorem J5x (sz:Nat) (xs:List AV) : (AV.sl sz xs).solid = true := (rfl)
@[simp] theorem J4n (l g off:Nat) : (AV.ptr l g off).solid = true := (rfl)
@[simp] theorem J4J (l sz g off n:Nat) : (AV.row l sz g off n).solid = true := (rfl)
@[simp] theorem J2F (l g off sz n cap:Nat) : (AV.vrow l g off sz n cap).solid = true := (rfl)
@[simp] theorem J2Y (x:AV) : (AV.iptr x).solid = true := (rfl)
@[simp] theorem J2U (l sz g i off:Nat) : (AV.rptr l sz g i off).solid = true := (rfl)
@[simp] theorem J2o (l g:Nat) (mp:Bool) : (AV.oref l g mp).solid = true := (rfl)
@[simp] theorem J3j (vs:List AV) : (AV.tup vs).solid = false := (rfl)
@[simp] theorem J4V  : AV.top.isTup = false := (rfl)
@[simp] theorem J7f (x:Value) : (AV.v x).isTup = false := (rfl)
@[simp] theorem J29 (cs:List AV) : (AV.node cs).isTup = false := (rfl)
@[simp] theorem J4N (sz:Nat) (xs:List AV) : (AV.arr sz xs).isTup = false := (rfl)
@[simp] theorem J5Z (sz:Nat) (xs:List AV) : (AV.sl sz xs).isTup = false := (rfl)
@[simp] theorem J4x (l g off:Nat) : (AV.ptr l g off).isTup = false := (rfl)
@[simp] theorem J4a (l sz g off n:Nat) : (AV.row l sz g off n).isTup = false := (rfl)
@[simp] theorem J2n (l g off sz n cap:Nat) : (AV.vrow l g off sz n cap).isTup = false := (rfl)
@[simp] theorem J2Q (x:AV) : (AV.iptr x).isTup = false := (rfl)
@[simp] theorem J19 (l sz g i off:Nat) : (AV.rptr l sz g i off).isTup = false := (rfl)
@[simp] theorem J2H (l g:Nat) (mp:Bool) : (AV.oref l g mp).isTup = false := (rfl)
@[simp] theorem J48 (vs:List AV) : (AV.tup vs).isTup = true := (rfl)
@[simp] theorem J3I  : refOf AV.top = none := (rfl)
@[simp] theorem J6l (x:Value) : refOf (AV.v x) = none := (rfl)
@[simp] theorem J21 (cs:List AV) : refOf (AV.node cs) = none := (rfl)
@[simp] theorem J45 (sz:Nat) (xs:List AV) : refOf (AV.arr sz xs) = none := (rfl)
@[simp] theorem J5S (sz:Nat) (xs:List AV) : refOf (AV.sl sz xs) = none := (rfl)
@[simp] theorem J4T (l g off:Nat) : refOf (AV.ptr l g off) = some l := (rfl)
@[simp] theorem J5c (l sz g off n:Nat) : refOf (AV.row l sz g off n) = some l := (rfl)
@[simp] theorem J2u (l g off sz n cap:Nat) : refOf (AV.vrow l g off sz n cap) = some l := (rfl)
@[simp] theorem J2J (x:AV) : refOf (AV.iptr x) = none := (rfl)
@[simp] theorem J2K (l sz g i off:Nat) : refOf (AV.rptr l sz g i off) = some l := (rfl)
@[simp] theorem J2c (l g:Nat) (mp:Bool) : refOf (AV.oref l g mp) = some l := (rfl)
@[simp] theorem J4h (vs:List AV) : refOf (AV.tup vs) = none := (rfl)
@[simp] theorem J86 (G fr:Nat → Option AV) : evs G fr [] = some [] := (rfl)
@[simp] theorem evs_t (G fr:Nat → Option AV) (n:Nat) (cs:List COpd) : evs G fr (.t n :: cs) = (fr n).bind fun x => (evs G fr cs).map (x :: ·) := (rfl)
@[simp] theorem evs_c (G fr:Nat → Option AV) (x:Value) (cs:List COpd) : evs G fr (.c x :: cs) = (evs G fr cs).map (AV.v x :: ·) := (rfl)
@[simp] theorem evs_g (G fr:Nat → Option AV) (n:Nat) (cs:List COpd) : evs G fr (.g n :: cs) = ((G n).map AV.iptr).bind fun x => (evs G fr cs).map (x :: ·) := (rfl)
@[simp] theorem ev_t (G fr:Nat → Option AV) (n:Nat) : ev G fr (.t n) = fr n := (rfl)
@[simp] theorem ev_c (G fr:Nat → Option AV) (x:Value) : ev G fr (.c x) = some (.v x) := (rfl)
@[simp] theorem ev_g (G fr:Nat → Option AV) (n:Nat) : ev G fr (.g n) = (G n).map AV.iptr := (rfl)
@[simp] theorem J7W {α:Type} (k:Nat) (v:α) : insL [] k v = [(k,v)] := (rfl)
@[simp] theorem J6n {α:Type} (j:Nat) (u:α) (r:List (Nat × α)) (k:Nat) (v:α) : insL ((j,u) :: r) k v = if k < j then (k,v) :: (j,u) :: r else if k = j then (k,v) :: r else (j,u) :: insL r k v := (rfl)
@[simp] theorem J8w {α:Type} (k:Nat) : delL ([]:List (Nat × α)) k = [] := (rfl)
@[simp] theorem J7l {α:Type} (j:Nat) (u:α) (r:List (Nat × α)) (k:Nat) : delL ((j,u) :: r) k = if j = k then delL r k else (j,u) :: delL r k := (rfl)
@[simp] theorem J7e (fr:List (Nat × AV)) (av:AV) : setL fr none av = fr := (rfl)
@[simp] theorem J6y (fr:List (Nat × AV)) (d:Nat) (av:AV) : setL fr (some d) av = insL fr d av := (rfl)
@[simp] theorem J72 (m:List (Nat × Loc)) : upsL m [] = m := (rfl)
@[simp] theorem J8C (m:List (Nat × Loc)) (k:Nat) (c:Loc) (us:List (Nat × Option Loc)) : upsL m ((k,some c) :: us) = upsL (insL m k c) us := (rfl)
@[simp] theorem J8b (m:List (Nat × Loc)) (k:Nat) (us:List (Nat × Option Loc)) : upsL m ((k,none) :: us) = upsL (delL m k) us := (rfl)
@[simp] theorem J73 {α:Type} (j:Nat) : look ([]:List (Nat × α)) j = none := (rfl)
@[simp] theorem J6g {α:Type} (k:Nat) (v:α) (r:List (Nat × α)) : look ((k,v) :: r) k = some v := by simp [look]
@[simp] theorem J6X {α:Type} (k j:Nat) (v:α) (r:List (Nat × α)) (h:k ≠ j) : look ((k,v) :: r) j = look r j := by simp [look,h]
@[simp] theorem J7i {α:Type} (ks:List Nat) : keepL ks ([]:List (Nat × α)) = [] := (rfl)
@[simp] theorem J5E {α:Type} (ks:List Nat) (j:Nat) (u:α) (r:List (Nat × α)) : keepL ks ((j,u) :: r) = if j ∈ ks then (j,u) :: keepL ks r else keepL ks r := (rfl)
def rep (n:Nat) (x:AV) : List AV := List.replicate n x
@[simp] theorem J5u (n:Nat) (x:AV) : (rep n x).length = n := by simp [rep]
@[simp] theorem J7O (x:AV) : rep 0 x = [] := (rfl)
def upTo (n:Nat) : List Nat := List.range n
@[simp] theorem J4A (n:Nat) : (upTo n).length = n := by simp [upTo]
def allSz (sz:Nat) : List AV → Bool
 | []=>true
 | x :: r=>x.solid && x.size == sz && allSz sz r
def fitsB (n bytes:Nat) : Prop := n ≤ maxLen ∧ n * bytes ≤ 140737488355328
instance (n bytes:Nat) : Decidable (fitsB n bytes) := inferInstanceAs (Decidable (_ ∧ _))
theorem fits {n bytes:Nat} (h:n * bytes ≤ 100000000000) (h1:n ≤ 100000000000) : fitsB n bytes := ⟨by unfold maxLen; omega,by omega⟩
section
variable {P:Program} {G:Nat → Option AV} {m:Nat → Option Loc} {g d:Nat}
@[simp] theorem J7D (b x y:Bool) : (if b = true then AV.v (.bool x) else AV.v (.bool y)) = .v (.bool (if b = true then x else y)) := by cases b <;> rfl
@[simp] theorem J8F (x:AV) : step .mov [x] m g d = some (x,[]) := (rfl)
@[simp] theorem J6o (b:Bool) (x y:AV) : step .pick [.v (.bool b),x,y] m g d = some (if b = true then x else y,[]) := (rfl)
@[simp] theorem J8s (b:Bool) : step .not [.v (.bool b)] m g d = some (.v (.bool !b),[]) := (rfl)
@[simp] theorem J8O (k:IntKind) (a b:Int) : step (.bin .add) [.v (.int k a),.v (.int k b)] m g d = some (.v (.int k (k.wrap (a + b))),[]) := by simp [step,binV]
@[simp] theorem J7M (k:IntKind) (a b:Int) : step (.bin .sub) [.v (.int k a),.v (.int k b)] m g d = some (.v (.int k (k.wrap (a - b))),[]) := by simp [step,binV]
@[simp] theorem J8X (k:IntKind) (a b:Int) : step (.bin .mul) [.v (.int k a),.v (.int k b)] m g d = some (.v (.int k (k.wrap (a * b))),[]) := by simp [step,binV]
@[simp] theorem J7Y (k:IntKind) (a b:Int) : step (.bin .and) [.v (.int k a),.v (.int k b)] m g d = some (.v (.int k (bitsOp .and k a b)),[]) := by simp [step,binV]
@[simp] theorem J9v (k:IntKind) (a b:Int) : step (.bin .or) [.v (.int k a),.v (.int k b)] m g d = some (.v (.int k (bitsOp .or k a b)),[]) := by simp [step,binV]
@[simp] theorem J8i (k:IntKind) (a b:Int) : step (.bin .xor) [.v (.int k a),.v (.int k b)] m g d = some (.v (.int k (bitsOp .xor k a b)),[]) := by simp [step,binV]
@[simp] theorem J4q (k:IntKind) (a b:Int) : step (.bin .andNot) [.v (.int k a),.v (.int k b)] m g d = some (.v (.int k (bitsOp .andNot k a b)),[]) := by simp [step,binV]
@[simp] theorem J8l (k:IntKind) (a b:Int) : step (.bin .lss) [.v (.int k a),.v (.int k b)] m g d = some (.v (.bool (decide (a < b))),[]) := by simp [step,binV]
@[simp] theorem J74 (k:IntKind) (a b:Int) : step (.bin .leq) [.v (.int k a),.v (.int k b)] m g d = some (.v (.bool (decide (a ≤ b))),[]) := by simp [step,binV]
@[simp] theorem J8A (k:IntKind) (a b:Int) : step (.bin .gtr) [.v (.int k a),.v (.int k b)] m g d = some (.v (.bool (decide (b < a))),[]) := by simp [step,binV]
@[simp] theorem J8P (k:IntKind) (a b:Int) : step (.bin .geq) [.v (.int k a),.v (.int k b)] m g d = some (.v (.bool (decide (b ≤ a))),[]) := by simp [step,binV]
@[simp] theorem J8h (k:IntKind) (a b:Int) : step (.bin .eql) [.v (.int k a),.v (.int k b)] m g d = some (.v (.bool (decide (a = b))),[]) := by simp [step,binV]; rfl
@[simp] theorem J8z (k:IntKind) (a b:Int) : step (.bin .neq) [.v (.int k a),.v (.int k b)] m g d = some (.v (.bool (!decide (a = b))),[]) := by simp [step,binV]; rfl
@[simp] theorem J75 (k k':IntKind) (a b:Int) (h:0 ≤ b) : step (.bin .shl) [.v (.int k a),.v (.int k' b)] m g d = some (.v (.int k (k.wrap (a * 2 ^ min b.toNat k.bits))),[]) := by simp [step,binV,h]
@[simp] theorem J7J (k k':IntKind) (a b:Int) (h:0 ≤ b) : step (.bin .shr) [.v (.int k a),.v (.int k' b)] m g d = some (.v (.int k (a.fdiv (2 ^ min b.toNat k.bits))),[]) := by simp [step,binV,h]
@[simp] theorem J7T (k:IntKind) (a b:Int) (h:b ≠ 0) : step (.bin .quo) [.v (.int k a),.v (.int k b)] m g d = some (.v (.int k (k.wrap (a.tdiv b))),[]) := by simp [step,binV,h]
@[simp] theorem J8r (k:IntKind) (a b:Int) (h:b ≠ 0) : step (.bin .rem) [.v (.int k a),.v (.int k b)] m g d = some (.v (.int k (a.tmod b)),[]) := by simp [step,binV,h]
@[simp] theorem JYT (a b:ByteArray) (h:a.size + b.size ≤ 9223372036854775807) : step (.bin .add) [.v (.string a),.v (.string b)] m g d = some (.v (.string (a ++ b)),[]) := by simp [step,binV,h]
@[simp] theorem J6J (a b:ByteArray) : step (.bin .eql) [.v (.string a),.v (.string b)] m g d = some (.v (.bool (a.toList == b.toList)),[]) := (rfl)
@[simp] theorem J7E (a b:ByteArray) : step (.bin .neq) [.v (.string a),.v (.string b)] m g d = some (.v (.bool !(a.toList == b.toList)),[]) := (rfl)
@[simp] theorem J7X (a b:Bool) : step (.eqb false) [.v (.bool a),.v (.bool b)] m g d = some (.v (.bool (a == b)),[]) := (rfl)
@[simp] theorem J7L (a b:Bool) : step (.eqb true) [.v (.bool a),.v (.bool b)] m g d = some (.v (.bool !(a == b)),[]) := (rfl)
@[simp] theorem J7x (neg:Bool) : step (.eqp neg) [.v (.pointer none),.v (.pointer none)] m g d = some (.v (.bool !neg),[]) := (rfl)
@[simp] theorem J6V (neg:Bool) (l g' off:Nat) : step (.eqp neg) [.ptr l g' off,.v (.pointer none)] m g d = some (.v (.bool neg),[]) := (rfl)
@[simp] theorem J7H (neg:Bool) (x:AV) : step (.eqp neg) [.iptr x,.v (.pointer none)] m g d = some (.v (.bool neg),[]) := (rfl)
@[simp] theorem J7s (neg:Bool) (l s g' i off:Nat) : step (.eqp neg) [.rptr l s g' i off,.v (.pointer none)] m g d = some (.v (.bool neg),[]) := (rfl)
@[simp] theorem J9s (op:UnOp) (x:Value) : step (.un op) [.v x] m g d = (unV op x).map fun r => (.v r,[]) := (rfl)
@[simp] theorem J5q (k k':IntKind) (n:Int) : step (.convI k) [.v (.int k' n)] m g d = some (.v (.int k (k.wrap n)),[]) := (rfl)
@[simp] theorem J4y (s:ByteArray) : step .convId [.v (.string s)] m g d = some (.v (.string s),[]) := (rfl)
@[simp] theorem J5G (x:AV) : step .convS [x] m g d = (srcA m 1 x).bind fun xs => (intsOf .u8 xs).map fun ns => (.v (.string (strOfNums ns)),[]) := (rfl)
@[simp] theorem J5p (s:ByteArray) (h:s.size ≤ maxLen) : step .convB [.v (.string s)] m g d = some (.sl 1 (bytesAV s),[]) := by simp [step,h]
@[simp] theorem J52 (z:AV) : step (.alloc z) [] m g d = some (.ptr d g 0,[(d,some (.var g z))]) := (rfl)
@[simp] theorem J8p (x:AV) : step .box [x] m g d = if x.solid = true then some (.ptr d g 0,[(d,some (.var g x))]) else none := (rfl)
@[simp] theorem J51 (zs:List AV) (is:List Nat) (vals:List AV) : step (.build zs is) vals m g d = if is.length = vals.length then (buildA zs (is.zip vals)).map fun r => (.node r,[]) else none := (rfl)
@[simp low] theorem J4w (sz:Nat) (zs:List AV) (is:List Nat) (vals:List AV) : step (.buildA sz zs is) vals m g d = if is.length = vals.length then (buildE sz zs (is.zip vals)).map fun r => (.arr sz r,[]) else none := rfl
@[simp] theorem J3B (sz n:Nat) (z:AV) (is:List Nat) (vals:List AV) : step (.bslice sz n z is) vals m g d = if is.length = vals.length then (buildE sz (List.replicate n z) (is.zip vals)).map fun r => (.row d sz g 0 n,[(d,some (.rows g sz r))]) else none := (rfl)
@[simp] theorem J6k (agg:Bool) (sz:Nat) (p:AV) : step (.load agg sz) [p] m g d = (loadA m agg sz p).map fun r => (r,[]) := (rfl)
@[simp] theorem J5T (agg:Bool) (sz:Nat) (p x:AV) : step (.store agg sz) [p,x] m g d = (storeA m agg sz p x).map fun q => (.top,[(q.1,some q.2)]) := (rfl)
@[simp] theorem J6F (p:AV) : step .nilc [p] m g d = if p.isRef = true then some (p,[]) else none := (rfl)
@[simp] theorem J5z (fo sz:Nat) (agg:Bool) (p:AV) : step (.faddr fo sz agg) [p] m g d = (faddrA fo sz agg p).map fun r => (r,[]) := (rfl)
@[simp] theorem J5P (agg:Bool) (sz off:Nat) (p:AV) : step (.field agg sz off) [p] m g d = (fieldA agg sz off p).map fun r => (r,[]) := (rfl)
@[simp] theorem J5m (sz:Nat) (x:AV) (k:IntKind) (i:Int) : step (.iaddr sz) [x,.v (.int k i)] m g d = (iaddrA sz x i).map fun r => (r,[]) := (rfl)
@[simp] theorem J1q (N sz:Nat) (agg:Bool) (x:AV) (k:IntKind) (i:Int) : step (.iaddrArr N sz agg) [x,.v (.int k i)] m g d = (iaddrArr N sz agg x i).map fun r => (r,[]) := (rfl)
@[simp] theorem J8u (agg:Bool) (n sz:Nat) (x:AV) (k:IntKind) (i:Int) : step (.idx agg n sz) [x,.v (.int k i)] m g d = (indexA agg n sz x i).map fun r => (r,[]) := (rfl)
@[simp] theorem JYJ (s:ByteArray) (k:IntKind) (i:Int) (h:0 ≤ i) : step .idxS [.v (.string s),.v (.int k i)] m g d = (s.data.toList[i.toNat]?).map fun b => (.v (.int .u8 b.toNat),[]) := by simp [step,h]
@[simp] theorem J5K (sz:Nat) (l h:Bool) (x:AV) (r:List AV) : step (.slice sz l h) (x :: r) m g d = (bounds l h r).bind fun q => (sliceA sz x q.1 q.2).map fun y => (y,[]) := (rfl)
@[simp] theorem J0D (N sz:Nat) (l h:Bool) (x:AV) (r:List AV) : step (.sliceArr N sz l h) (x :: r) m g d = (bounds l h r).bind fun q => (sliceArr N sz x q.1 q.2).map fun y => (y,[]) := (rfl)
@[simp] theorem J0N (l h:Bool) (s:ByteArray) (r:List AV) : step (.sliceStr l h) (.v (.string s) :: r) m g d = (bounds l h r).bind fun q => (bnd s.size s.size q.1 q.2).map fun b => (.v (.string (s.extract b.1 b.2)),[]) := (rfl)
@[simp] theorem J3W (sz:Nat) (x:AV) : step (.slice0 sz) [x] m g d = (lenA x).map fun _ => (.row d sz g 0 0,[(d,some (.rows g sz []))]) := by
 simp only [step]; cases lenA x <;> rfl
@[simp] theorem J7N (x:AV) : step .len [x] m g d = (lenA x).map fun (n:Nat) => (.v (.int .i64 (n:Int)),[]) := (rfl)
@[simp] theorem J6d (s:ByteArray) : step .lenS [.v (.string s)] m g d = some (.v (.int .i64 (s.size:Nat)),[]) := (rfl)
@[simp] theorem J6s (sz:Nat) (ys:List AV) (l s0 g off n:Nat) : destV m d sz (.row l s0 g off n) ys = destA m d sz (.row l s0 g off n) := (rfl)
@[simp] theorem J9f (sz:Nat) (ys:List AV) (v:Value) : destV m d sz (.v v) ys = destA m d sz (.v v) := (rfl)
@[simp] theorem J5I (sz:Nat) (ys:List AV) (l g off s n cap:Nat) (h:n = cap ∧ 0 < n ∧ ys ≠ []) : destV m d sz (.vrow l g off s n cap) ys = (srcA m sz (.vrow l g off s n cap)).map fun xs => (d,xs) := by exact if_pos h
@[simp] theorem J8v (sz bytes:Nat) (a b:AV) : step (.app sz bytes) [a,b] m g d = ((srcA m sz b).bind fun ys=>(destV m d sz a ys).bind fun q =>
 if fitsB (q.2.length + ys.length) bytes then some (.row q.1 sz g 0 (q.2.length + ys.length),[(q.1,some (.rows g sz (q.2 ++ ys)))]) else none):=rfl
@[simp] theorem J7A (bytes:Nat) (a:AV) (s:ByteArray) : step (.appS bytes) [a,.v (.string s)] m g d = ((destA m d 1 a).bind fun q =>
 if fitsB (q.2.length + (bytesAV s).length) bytes then some (.row q.1 1 g 0 (q.2.length + (bytesAV s).length),[(q.1,some (.rows g 1 (q.2 ++ bytesAV s)))]) else none):=rfl
@[simp] theorem J6T (sz bytes:Nat) (z a:AV) (kk:IntKind) (k:Int) (h:0 ≤ k ∧ fitsB k.toNat bytes) : step (.appM sz bytes z) [a,.v (.int kk k)] m g d = ((destA m d sz a).bind fun q =>
 if fitsB (q.2.length + k.toNat) bytes then some (.row q.1 sz g 0 (q.2.length + k.toNat),[(q.1,some (.rows g sz (q.2 ++ rep k.toNat z)))]) else none):=by
 simp only [step]
 rw [if_pos ⟨h.1,h.2.1,h.2.2⟩]
 rfl
@[simp] theorem J7K (neg:Bool) (sh:Sh) (a b:AV) : step (.eqs neg sh) [a,b] m g d = (cmpA sh a b).map fun r => (.v (.bool (if neg = true then !r else r)),[]) := by
 simp only [step]
@[simp] theorem J6j (sz:Nat) (a b:AV) : step (.copy sz) [a,b] m g d = (srcA m sz b).bind fun ys => (overA m sz a (ys.take (copyN a ys))).map fun q => (.v (.int .i64 (copyN a ys)),[(q.1,some q.2)]) := (rfl)
@[simp] theorem J53 (sz:Nat) (z a:AV) : step (.clear sz z) [a] m g d = (overA m sz a (rep (clearN a) z)).map fun q => (.top,[(q.1,some q.2)]) := (rfl)
@[simp] theorem J3S (sz bytes:Nat) (z:AV) (k k':IntKind) (n:Int) (h:0 ≤ n ∧ bytes * n.toNat ≤ 281474976710656 ∧ n.toNat ≤ maxLen) : step (.mk sz bytes z) [.v (.int k n),.v (.int k' n)] m g d = some (.row d sz g 0 n.toNat,[(d,some (.rows g sz (rep n.toNat z)))]) := by simp [step,h,rep]
@[simp] theorem J8k (k:Nat) (as:List AV) : step (.ext k) [.tup as] m g d = (as[k]?).map fun x => (x,[]) := (rfl)
@[simp] theorem J9d (k k':IntKind) (a b:Int) : step .mx [.v (.int k a),.v (.int k' b)] m g d = some (.v (.int k (if b > a then b else a)),[]) := (rfl)
@[simp] theorem J9p (k k':IntKind) (a b:Int) : step .mn [.v (.int k a),.v (.int k' b)] m g d = some (.v (.int k (if b < a then b else a)),[]) := (rfl)
@[simp] theorem J5i (ka va:Bool) (ks vs:Nat) : step (.mkmap ka ks va vs) [] m g d = some (.oref d g true,[(d,some (.ob g (.map ka ks va vs) (.node [.node [],.v (.int .i64 0)])))]) := (rfl)
@[simp] theorem J5h (sh:Sh) (z:AV) (ok:Bool) (l g':Nat) (k:AV) : step (.mlook sh z ok) [.oref l g' true,k] m g d = (lookA m sh l g' k).map fun r => (if ok = true then .tup [r.getD z,.v (.bool r.isSome)] else r.getD z,[]) := (rfl)
@[simp] theorem J6t (sh:Sh) (l g':Nat) (k v:AV) : step (.mput sh) [.oref l g' true,k,v] m g d = (putM m sh l g' k v).map fun q => (.top,[(q.1,some q.2)]) := (rfl)
@[simp] theorem J6E (sh:Sh) (l g':Nat) (k:AV) : step (.mdel sh) [.oref l g' true,k] m g d = (delM m sh l g' k).map fun q => (.top,[(q.1,some q.2)]) := (rfl)
@[simp] theorem J67 (l g':Nat) : step .mlen [.oref l g' true] m g d = (lenM m l g').map fun (n:Nat) => (.v (.int .i64 (n:Int)),[]) := (rfl)
@[simp] theorem J47 (l g':Nat) : step .mclear [.oref l g' true] m g d = (clearM m l g').map fun q => (.top,[(q.1,some q.2)]) := (rfl)
@[simp] theorem J3k (l g':Nat) : step .mrange [.oref l g' true] m g d = (rangeM m l g').map fun a => (.oref d g false,[(d,some (.ob g .iter a))]) := (rfl)
attribute [simp] lookA putM delM lenM clearM rangeM Sh.agg Sh.sz Sh.szs aggOk
@[simp] theorem J5v (ks vs:Nat) : allEnt ks vs [] = true := (rfl)
@[simp] theorem J4U (ks vs:Nat) (k v:AV) (n:Int) (es:List AV) : allEnt ks vs (entA k v n :: es) = (k.size == ks && v.size == vs && allEnt ks vs es) := by simp [allEnt,isEnt,entA]
@[simp] theorem J7I (sh:Sh) (k:AV) : findA sh k [] = some none := (rfl)
@[simp] theorem JXb (sh:Sh) (k e:AV) (es:List AV) : findA sh k (e :: es) = (cmpA sh k (entK e)).bind fun r => if r = true then some (some 0) else (findA sh k es).map (Option.map (· + 1)) := (rfl)
attribute [simp] JZ9
@[simp] theorem J5B (k v:AV) (n:Int) : (entA k v n).isAgg = true := (rfl)
@[simp] theorem J5X (k v:AV) (n:Int) : (entA k v n).solid = true := (rfl)
@[simp] theorem J5J (k v:AV) (n:Int) : (entA k v n).isTup = false := (rfl)
@[simp] theorem J5o (k v:AV) (n:Int) : refOf (entA k v n) = none := (rfl)
@[simp] theorem J6Q (k v:AV) (n:Int) : (entA k v n).size = k.size + (v.size + 1) := by simp [entA]
@[simp] theorem J6h (b:Int) : findB b [] = none := (rfl)
@[simp] theorem JPV (b:Int) (k v:AV) (n:Int) (es:List AV) : findB b (entA k v n :: es) = if n = b then some (entA k v n) else findB b es := by simp [findB]
attribute [simp] buildA buildE copyN clearN dynOk lgAt memApart
end
end
section
open Go
mutual
def pairsA : AV → AV → Names
 | .ptr l g _,.ptr k _ _=>[(k,some (l,g))]
 | .row l _ g _ _,.row k _ _ _ _=>[(k,some (l,g))]
 | .v (.slice none 0 0),.row k _ _ _ _=>[(k,none)]
 | .oref l g _,.oref k _ _=>[(k,some (l,g))]
 | .node rs,.node ws=>pairsL rs ws
 | .tup rs,.tup ws=>pairsL rs ws
 | _,_=>[]
def pairsL : List AV → List AV → Names
 | r :: rs,w :: ws=>pairsA r w ++ pairsL rs ws
 | _,_=>[]
end
def inner (m:Nat → Option Loc) (L:Names) : List (Nat × Loc) → Names
 | []=>L
 | (k,.var _ w) :: r=>inner m (match look L k with
  | some (some (l,_))=>match m l with
    | some (.var _ raw)=>L ++ pairsA raw w
    | _=>L
  | _=>L) r
 | (k,.ob _ _ w) :: r=>inner m (match look L k with
  | some (some (l,_))=>match m l with
    | some (.ob _ _ raw)=>L ++ pairsA raw w
    | _=>L
  | _=>L) r
 | _ :: r=>inner m L r
def oldNames : List (Nat × Loc) → Names
 | []=>[]
 | (k,c) :: r=>if c.gen = 0 then (k,some (k,0)) :: oldNames r else oldNames r
def FitEc (m:Nat → Option Loc) (L:Names) (k:Nat) : Loc → Prop
 | .var _ w=>match look L k with
   | some (some (l,g))=>match m l with
     | some (.var g' raw)=>g' = g ∧ Fit m L raw w
     | _=>False
   | _=>False
 | .rows _ sz ws=>match look L k with
   | some (some (l,g))=>match m l with
     | some (.rows g' sz' xs)=>g' = g ∧ sz' = sz ∧ FitL m L xs ws
     | _=>False
   | some none=>ws = []
   | none=>False
 | .ob _ q w=>match look L k with
   | some (some (l,g))=>match m l with
     | some (.ob g' q' raw)=>g' = g ∧ q' = q ∧ Fit m L raw w
     | _=>False
   | _=>False
theorem J0x {m:Nat → Option Loc} {L:Names} {k:Nat} {c:Loc} (h:FitEc m L k c) : FitE m L k c := by
 cases c with
 | var g w =>
   simp only [FitEc] at h
   split at h <;> first | (cases h; done) | skip
   rename_i l g1 hL
   split at h <;> first | (cases h; done) | skip
   rename_i g2 raw hm
   obtain ⟨rfl,h⟩:=h
   exact ⟨l,_,raw,hL,hm,h⟩
 | rows g sz ws =>
   simp only [FitEc] at h
   split at h <;> first | (cases h; done) | skip
   ·rename_i l g1 hL
    split at h <;> first | (cases h; done) | skip
    rename_i g2 sz2 xs hm
    obtain ⟨rfl,rfl,h⟩:=h
    exact .inl ⟨l,_,xs,hL,hm,h⟩
   ·rename_i hL
    exact .inr ⟨hL,h⟩
 | ob g q w =>
   simp only [FitEc] at h
   split at h <;> first | (cases h; done) | skip
   rename_i l g1 hL
   split at h <;> first | (cases h; done) | skip
   rename_i g2 q2 raw hm
   obtain ⟨rfl,rfl,h⟩:=h
   exact ⟨l,_,raw,hL,hm,h⟩
def FitM (m:Nat → Option Loc) (L:Names) : List (Nat × Loc) → Prop
 | []=>True
 | e :: r=>FitEc m L e.1 e.2 ∧ FitM m L r
def touchM (m:Nat → Option Loc) (L:Names) : List (Nat × Loc) → List Nat
 | []=>[]
 | e :: r=>touchE m L e.1 e.2 ++ touchM m L r
def StampedM (U:Nat → Prop) : List (Nat × Loc) → Prop
 | []=>True
 | e :: r=>StampedLoc U e.2 ∧ StampedM U r
def oldE (L:Names) : List (Nat × Loc) → Prop
 | []=>True
 | e :: r=>(e.2.gen = 0 → look L e.1 = some (some (e.1,0))) ∧ oldE L r
def isVar0 : Option Loc → Bool
 | some (.var 0 _)=>true
 | some (.ob 0 _ _)=>true
 | _=>false
def isName : Option (Option (Nat × Nat)) → Bool
 | some (some _)=>true
 | _=>false
def oldC (M:List (Nat × Loc)) (L:Names) : List (Nat × Loc) → Prop
 | []=>True
 | e :: r=>(e.2.gen = 0 → isVar0 (look M e.1) = true ∧ isName (look L e.1) = true) ∧ oldC M L r
section
variable {m:Nat → Option Loc} {L:Names} {U:Nat → Prop}
theorem JAm : ∀ {M:List (Nat × Loc)} {e:Nat × Loc},FitM m L M → e ∈ M → FitE m L e.1 e.2
 | [],_,_,h=>by cases h
 | _ :: _,_,h,hm=>by
   rcases List.mem_cons.1 hm with rfl | hm
   ·exact J0x h.1
   ·exact JAm h.2 hm
theorem JjQ : ∀ {M:List (Nat × Loc)} {e:Nat × Loc} {t:Nat},e ∈ M → t ∈ touchE m L e.1 e.2 → t ∈ touchM m L M
 | [],_,_,h,_=>by cases h
 | _ :: _,_,_,hm,h=>by
   rcases List.mem_cons.1 hm with rfl | hm
   ·exact List.mem_append_left _ h
   ·exact List.mem_append_right _ (JjQ hm h)
theorem Jbc : ∀ {M:List (Nat × Loc)} {e:Nat × Loc},StampedM U M → e ∈ M → StampedLoc U e.2
 | [],_,_,h=>by cases h
 | _ :: _,_,h,hm=>by
   rcases List.mem_cons.1 hm with rfl | hm
   ·exact h.1
   ·exact Jbc h.2 hm
theorem JQs : ∀ {M:List (Nat × Loc)} {e:Nat × Loc},oldE L M → e ∈ M → e.2.gen = 0 → look L e.1 = some (some (e.1,0))
 | [],_,_,h=>by cases h
 | _ :: _,_,h,hm=>by
   rcases List.mem_cons.1 hm with rfl | hm
   ·exact h.1
   ·exact JQs h.2 hm
theorem JV7 {M0:List (Nat × Loc)} : ∀ {M:List (Nat × Loc)} {e:Nat × Loc},oldC M0 L M → e ∈ M → e.2.gen = 0 → isVar0 (look M0 e.1) = true ∧ isName (look L e.1) = true
 | [],_,_,h=>by cases h
 | _ :: _,_,h,hm=>by
   rcases List.mem_cons.1 hm with rfl | hm
   ·exact h.1
   ·exact JV7 h.2 hm
end
def EndsC (m:Nat → Option Loc) (raw res:AV) (M':List (Nat × Loc)) (L:Names) : Prop :=
 FitR m L raw res ∧ Stamped (fun g=>g = 0 ∨ g = 1) res ∧ FitM m L M' ∧ StampedM (fun g=>g = 0 ∨ g = 1) M' ∧ (M'.map (·.1)).Nodup ∧ (srcs L M').Nodup ∧ (∀ t ∈ touchR m raw res ++ touchM m L M',t ∉ srcs L M') ∧ oldE L M'
def endC (o:Option (List AV)) (m:List (Nat × Loc)) (res:AV) (M':List (Nat × Loc)) : Prop :=
 match o with
 | some xs=>EndsC (look m) (raw1 xs) res M' (inner (look m) (oldNames M' ++ pairsA (raw1 xs) res) M')
 | none=>False
theorem Jb {rs:List CRes} {res:AV} {M':List (Nat × Loc)} {e:Exit} {S:SA} (he:e = .normal ∨ e = .ret)
 (h:endC (rawRes (look S.fr) (look S.m) rs) S.m res M'):postA rs res M' e S:=by
 refine ⟨he,?_⟩
 cases hq:rawRes (look S.fr) (look S.m) rs with
 | none=>rw [hq] at h; exact h.elim
 | some xs =>
   rw [hq] at h
   obtain ⟨h1,h2,h3,h4,h5,h6,h7,h8⟩:=h
   refine ⟨xs,_,_,rfl,h1,fun t ht=>List.mem_append_left _ ht,h2,⟨h5,fun e he=>JAm h3 he,fun e he t ht=>List.mem_append_right _ (JjQ he ht),h6,h7,fun e he=>Jbc h4 he⟩,fun e he=>JQs h8 he⟩
def CallC (m:Nat → Option Loc) (g nb:Nat) (vals args:List AV) (M M':List (Nat × Loc)) (L:Names) : Prop :=
 FitL m L vals args ∧ StampedL (· = 0) args ∧ FitM m L M ∧ StampedM (· = 0) M ∧ (M.map (·.1)).Nodup ∧ (srcs L M).Nodup ∧ (∀ t ∈ touchL m vals args ++ touchM m L M,t ∉ srcs L M) ∧ ((renM L nb g M').map (·.1)).Nodup ∧ oldC M L M'
theorem Ja {P:Program} {G:Nat → Option AV} {Q:Exit → SA → Prop} {f clk i n:Nat} {d:Option Nat} {vals args:List AV} {r:List COper} {fr:List (Nat × AV)} {m M M':List (Nat × Loc)} {lg:Log} {dr:Option (List Nat × List (Nat × Nat))} {keepS:List Nat} {k:List Kont}
 {keep:Bool} {res:AV} (hm:Meets P G f args M keep res M') (hc:CallC (look m) (clk + i) (nbOf (d.getD 0)) vals args M M' (inner (look m) (pairsL vals args) M))
 (hk:goS P G Q (some (renA (inner (look m) (pairsL vals args) M) (nbOf (d.getD 0)) (clk + i) res,callUs (nbOf (d.getD 0)) (clk + i) (inner (look m) (pairsL vals args) M) M keep M' (touchL (look m) vals args ++ touchM (look m) (inner (look m) (pairsL vals args) M) M)))
  ((touchL (look m) vals args ++ touchM (look m) (inner (look m) (pairsL vals args) M) M) ++ nameSrcs (inner (look m) (pairsL vals args) M)) d clk r i fr m lg dr keepS n k):goV P G Q (some vals) (.call f) d clk r i fr m lg dr keepS n k:=by
 obtain ⟨h1,h2,h3,h4,h5,h6,h7,h8,h9⟩:=hc
 refine ⟨_,args,M,keep,res,M',_,⟨hm,h1,fun t ht=>List.mem_append_left _ ht,h2,⟨h5,fun e he=>JAm h3 he,fun e he t ht=>List.mem_append_right _ (JjQ he ht),h6,h7,fun e he=>Jbc h4 he⟩,h8,fun e he hg=>?_⟩,hk⟩
 obtain ⟨k1,k2⟩:=JV7 h9 he hg
 unfold isName at k2
 split at k2 <;> first | (cases k2; done) | skip
 rename_i q hq
 exact ⟨q,hq⟩
@[simp] theorem J7q (xs:List AV) (m:List (Nat × Loc)) (res:AV) (M':List (Nat × Loc)) : endC (some xs) m res M' = EndsC (look m) (raw1 xs) res M' (inner (look m) (oldNames M' ++ pairsA (raw1 xs) res) M') := (rfl)
attribute [simp] pairsA pairsL inner oldNames FitM touchM StampedM oldE isVar0 isName oldC EndsC CallC FitEc touchE StampedLoc src srcs Fit touch touchL FitR touchR Stamped StampedL rawRes raw1 Loc.gen kap renA rens renLoc renM callUs nbOf nameSrcs
attribute [simp] goodM goodE goodA goods closed closeds plain plains argsL
@[simp] theorem J8a {m:Nat → Option Loc} {L:Names} : FitL m L [] [] = True := by simp [FitL]
@[simp] theorem J6r {m:Nat → Option Loc} {L:Names} {r w:AV} {rs ws:List AV} : FitL m L (r :: rs) (w :: ws) = (Fit m L r w ∧ FitL m L rs ws) := by
 simp only [FitL]
 apply propext
 constructor
 ·rintro ⟨r',rs',e,h1,h2⟩
  obtain ⟨rfl,rfl⟩:=(by simpa using e:r = r' ∧ rs = rs')
  exact ⟨h1,h2⟩
 ·rintro ⟨h1,h2⟩
  exact ⟨r,rs,rfl,h1,h2⟩
@[simp] theorem J63 {m:Nat → Option Loc} {L:Names} {w:AV} {ws:List AV} : FitL m L [] (w :: ws) = False := by simp [FitL]
@[simp] theorem J6c {m:Nat → Option Loc} {L:Names} {as:List AV} (h:closeds as = true) : FitL m L as as = True := eq_true (JxY as h).1
@[simp] theorem J3K {m:Nat → Option Loc} {as:List AV} (h:closeds as = true) : touchL m as as = [] := (JxY (L:=[]) as h).2
@[simp] theorem JYI {U:Nat → Prop} {as:List AV} (h:closeds as = true) : StampedL U as = True := eq_true (Jbs as h)
@[simp] theorem J3E (k v:AV) (n:Int) : closed (entA k v n) = (closed k && closed v) := by simp [entA]
@[simp] theorem J5W (k v:AV) (n:Int) : plain (entA k v n) = (plain k && plain v) := by simp [entA]
@[simp] theorem J5w (keep:Bool) (M:List (Nat × Loc)) (k v:AV) (n:Int) : goodA keep M (entA k v n) = (goodA keep M k && goodA keep M v) := by cases keep <;> simp [entA]
@[simp] theorem J6q (L:Names) (nb gn:Nat) (k v:AV) (n:Int) : renA L nb gn (entA k v n) = entA (renA L nb gn k) (renA L nb gn v) n := by simp [entA]
@[simp] theorem J79 {m:Nat → Option Loc} {L:Names} (k v k' v':AV) (n n':Int) : Fit m L (entA k v n) (entA k' v' n') = (Fit m L k k' ∧ Fit m L v v' ∧ n = n') := by simp [entA]
@[simp] theorem J5n {m:Nat → Option Loc} (k v k' v':AV) (n n':Int) : touch m (entA k v n) (entA k' v' n') = touch m k k' ++ touch m v v' := by simp [entA]
@[simp] theorem J4o (k v k' v':AV) (n n':Int) : pairsA (entA k v n) (entA k' v' n') = pairsA k k' ++ pairsA v v' := by simp [entA]
@[simp] theorem J2m {U:Nat → Prop} (k v:AV) (n:Int) : Stamped U (entA k v n) = (Stamped U k ∧ Stamped U v) := by simp [entA]
@[simp] theorem J0v (ns:List Int) : closeds (stampsA ns) = true := by simp [stampsA,closeds_all]
@[simp] theorem J13 (ns:List Int) : plains (stampsA ns) = true := by simp [stampsA,plains_all]
@[simp] theorem JQ0 : ∀ (a b:List Int),pairsL (stampsA a) (stampsA b) = []
 | [],_=>by simp [stampsA]
 | _ :: _,[]=>by simp [stampsA]
 | x :: a,y :: b=>by
   show pairsL (.v (.int .i64 x) :: stampsA a) (.v (.int .i64 y) :: stampsA b) = []
   simp [JQ0 a b]
end
section
open Go
def fieldsOk (P:Program) : Nat → List Field → Nat → Bool
 | off,[],total=>off == total
 | off,f :: fs,total=>f.offset == off && fieldsOk P (off + P.cellsOf f.type) fs total
def simpleT (P:Program) : Nat → TypeId → Bool
 | 0,_=>false
 | n + 1,t=>match P.underlying t with
   | some .bool=>true
   | some (.int _)=>true
   | some .string=>true
   | some (.slice e)=>decide (0 < P.cellsOf e) && simpleT P n e
   | some (.struct fs)=>fieldsOk P 0 fs.toList (P.cellsOf t) && fs.toList.all fun f=>simpleT P n f.type
   | some (.array k e)=>decide (P.cellsOf t = k * P.cellsOf e) && simpleT P n e
   | _=>false
def All2 {α β:Type} (R:α → β → Prop) : List α → List β → Prop
 | [],[]=>True
 | a :: as,b :: bs=>R a b ∧ All2 R as bs
 | _,_=>False
def Typed (P:Program) : Nat → TypeId → AV → Prop
 | 0,_,_=>False
 | n + 1,t,av=>match P.underlying t with
   | some .bool=>∃ b,av = .v (.bool b)
   | some (.int k)=>∃ i,av = .v (.int k i) ∧ (Lit.int k i).wf = true
   | some .string=>∃ s,av = .v (.string s) ∧ s.size ≤ reachBytes
   | some (.slice e)=>∃ xs,av = .sl (P.cellsOf e) xs ∧ (xs.length ≤ maxLen ∧ xs.length * P.bytesOf e ≤ reachBytes) ∧ ∀ x ∈ xs,Typed P n e x
   | some (.struct fs)=>∃ as,av = .node as ∧ All2 (fun (f:Field) a=>Typed P n f.type a) fs.toList as
   | some (.array k e)=>∃ xs,av = .arr (P.cellsOf e) xs ∧ xs.length = k ∧ ∀ x ∈ xs,Typed P n e x
   | _=>False
section
variable {H:Type} {enc:TypeId × Value → H} {P:Program} {base:Nat} {spare:Nat → Bool} {held:Bool} {C:Ctx}
theorem JTg {sz:Nat} {Q:AV → Prop} : ∀ (n:Nat) (cs:List Value),cs.length = n * sz → (∀ i,i < n → ∃ av,Q av ∧ V C av ((cs.drop (i * sz)).take sz)) →
 ∃ xs,xs.length = n ∧ (∀ x ∈ xs,Q x) ∧ Es C sz xs cs
 | 0,cs,hl,_=>⟨[],rfl,(fun x hx=>by cases hx),by simp only [Es]; exact List.eq_nil_of_length_eq_zero (by simpa using hl)⟩
 | n + 1,cs,hl,h=>by
   rw [Nat.succ_mul] at hl
   obtain ⟨a,ha,hv⟩:=h 0 (by omega)
   rw [Nat.zero_mul,List.drop_zero] at hv
   obtain ⟨xs,h1,h2,h3⟩:=JTg (sz:=sz) (Q:=Q) n (cs.drop sz) (by rw [List.length_drop]; omega) (fun i hi=>by
    obtain ⟨b,hb,hv⟩:=h (i + 1) (by omega)
    refine ⟨b,hb,?_⟩
    rw [List.drop_drop,show sz + i * sz = (i + 1) * sz by rw [Nat.succ_mul]; omega]
    exact hv)
   refine ⟨a :: xs,by simp [h1],fun x hx=>?_,?_⟩
   ·rcases List.mem_cons.1 hx with rfl | hx
    ·exact ha
    ·exact h2 x hx
   ·simp only [Es]
    exact ⟨cs.take sz,cs.drop sz,(List.take_append_drop sz cs).symm,by rw [List.length_take]; omega,hv,h3⟩
theorem JSZ {R:Field → AV → Prop} : ∀ (fs:List Field) (off total:Nat) (cs:List Value),fieldsOk P off fs total = true → cs.length = total → (∀ f ∈ fs,∃ av,R f av ∧ V C av ((cs.drop f.offset).take (P.cellsOf f.type)) ) →
 ∃ as,All2 R fs as ∧ Vs C as (cs.drop off)
 | [],off,total,cs,hf,hl,_=>by
   simp only [fieldsOk,beq_iff_eq] at hf
   subst hf
   refine ⟨[],trivial,?_⟩
   simp only [Vs]
   exact List.drop_of_length_le (by omega)
 | f :: fs,off,total,cs,hf,hl,h=>by
   simp only [fieldsOk,Bool.and_eq_true,beq_iff_eq] at hf
   obtain ⟨rfl,hf⟩:=hf
   obtain ⟨a,ha,hv⟩:=h f List.mem_cons_self
   obtain ⟨as,h1,h2⟩:=JSZ fs _ total cs hf hl (fun g hg=>h g (List.mem_cons_of_mem _ hg))
   refine ⟨a :: as,⟨ha,h1⟩,?_⟩
   simp only [Vs]
   refine ⟨_,cs.drop (f.offset + P.cellsOf f.type),?_,hv,h2⟩
   rw [← List.drop_drop,List.take_append_drop]
theorem JTx (a:Addr) (i j:Nat) : (a.add i).add j = a.add (i + j) := by
 unfold Addr.add
 by_cases hi:i = 0 <;> by_cases hj:j = 0 <;> simp [hi,hj,Nat.add_assoc]
theorem JVU {sz:Nat} {a:Addr} {Q:AV → Prop} : ∀ (n k:Nat),(∀ i,k ≤ i → i < k + n → ∃ cs av,C.w.cells? base (a.add (i * sz)) sz = some cs ∧ Q av ∧ V C av cs) →
 ∃ xs body,xs.length = n ∧ (∀ x ∈ xs,Q x) ∧ Es C sz xs body ∧ ∀ j u,body[j]? = some u → C.w.cell? (a.add (k * sz + j)) = some u
 | 0,k,_=>⟨[],[],rfl,(fun x hx=>by cases hx),by simp [Es],fun j u h=>by simp at h⟩
 | n + 1,k,h=>by
   obtain ⟨cs,av,h1,h2,h3⟩:=h k (Nat.le_refl _) (by omega)
   obtain ⟨xs,body,k1,k2,k3,k4⟩:=JVU (sz:=sz) (a:=a) (Q:=Q) n (k + 1) (fun i hi hj=>h i (by omega) (by omega))
   obtain ⟨_,hl,hc⟩:=World.cells?_some h1
   refine ⟨av :: xs,cs ++ body,by simp [k1],fun x hx=>?_,?_,fun j u hj=>?_⟩
   ·rcases List.mem_cons.1 hx with rfl | hx
    ·exact h2
    ·exact k2 x hx
   ·simp only [Es]
    exact ⟨cs,body,rfl,hl,h3,k3⟩
   ·by_cases hlt:j < sz
    ·rw [List.getElem?_append_left (by omega)] at hj
     have:=hc j hlt
     rw [JTx] at this
     rw [this,hj]
    ·rw [List.getElem?_append_right (by omega),hl] at hj
     have:=k4 (j - sz) u hj
     rw [Nat.succ_mul] at this
     rw [show k * sz + j = k * sz + sz + (j - sz) by omega]
     exact this
theorem Jm3 {e:TypeId} {d:DataW H} {n:Nat} : ∀ {l:List (DataW H)},d ∈ l → n ∈ d.weights P e → n ∈ DataW.weightsAll P e l
 | [],h,_=>by cases h
 | c :: l,h,hn=>by
   simp only [DataW.weightsAll]
   rcases List.mem_cons.1 h with rfl | h
   ·exact List.mem_append_left _ hn
   ·exact List.mem_append_right _ (Jm3 h hn)
theorem Jwe {d:DataW H} {t:TypeId} {n:Nat} : ∀ {ts:List TypeId} {l:List (DataW H)} {i:Nat},ts[i]? = some t → l[i]? = some d → n ∈ d.weights P t → n ∈ DataW.weightsEach P ts l
 | [],_,_,h,_,_=>by simp at h
 | _ :: _,[],_,_,h,_=>by simp at h
 | t' :: ts,c :: l,0,h1,h2,hn=>by
   simp only [List.getElem?_cons_zero,Option.some.injEq] at h1 h2
   subst h1 h2
   simp only [DataW.weightsEach]
   exact List.mem_append_left _ hn
 | t' :: ts,c :: l,i + 1,h1,h2,hn=>by
   simp only [DataW.weightsEach]
   exact List.mem_append_right _ (Jwe (i:=i) (by simpa using h1) (by simpa using h2) hn)
theorem J3M (hI:∀ k,k < C.w.heap.size → C.I k) : ∀ (n:Nat) (t:TypeId) (fuel:Nat) (cs:List Value) (x:DataW H × List MemPlace),simpleT P n t = true → DataW.trod enc P C.w base spare held fuel t cs = some x → (∀ k ∈ x.1.weights P t,k ≤ reachBytes) →
 ∃ av,Typed P n t av ∧ V C av cs:=by
 intro n
 induction n with
 | zero=>intro t fuel cs x h; simp [simpleT] at h
 | succ n ih =>
   intro t fuel cs x hs h hwt
   simp only [simpleT] at hs
   simp only [Typed]
   split at hs
   ·rename_i hu
    obtain ⟨b,rfl,_⟩:=DataW.trod_bool hu h
    exact ⟨_,⟨b,rfl⟩,by simp [V,Value.oneCell']⟩
   ·rename_i k hu
    obtain ⟨i,rfl,_,hw⟩:=DataW.trod_int hu h
    exact ⟨_,⟨i,rfl,hw⟩,by simp [V,Value.oneCell']⟩
   ·rename_i hu
    obtain ⟨s,rfl,rfl,hw⟩:=DataW.trod_string hu h
    have hr:s.size ≤ reachBytes:=hwt s.size (by simp [DataW.weights])
    exact ⟨_,⟨s,rfl,hr⟩,by simp [V,Value.oneCell']⟩
   ·rename_i e hu
    simp only [Bool.and_eq_true,decide_eq_true_eq] at hs
    rcases Deep.open_slice hu h with ⟨rfl,_⟩ | ⟨a,len,cap,m,m',D,Pl,rfl,hb,hl,hm,hmm,rfl,hx⟩
    ·refine ⟨_,⟨[],rfl,⟨by simp,by simp⟩,(fun x hx=>by cases hx)⟩,?_⟩
     simp only [V]
     exact ⟨none,0,[],rfl,by simp,by simp [maxLen],by simp [Es],.inl trivial⟩
    ·have hle:len ≤ m:=by rw [hmm]; split <;> omega
     obtain ⟨xs,body,k1,k2,k3,k4⟩:=JVU (C:=C) (base:=base) (a:=a) (sz:=P.cellsOf e) (Q:=Typed P n e) len 0 (fun i _ hi=>by
      obtain ⟨cs',h1,h2⟩:=hx i (by omega)
      obtain ⟨av,h3,h4⟩:=ih e _ cs' _ hs.2 h2 (fun k hk=>hwt k (by
       simp only [DataW.weights,hu]
       refine List.mem_cons_of_mem _ (List.mem_append_left _ (Jm3 (d:=D i) ?_ hk))
       exact List.mem_map.2 ⟨i,List.mem_range.2 (by omega),rfl⟩))
      exact ⟨cs',av,h1,h3,h4⟩)
     have hwl:xs.length * P.bytesOf e ≤ reachBytes:=by
      have h0:=hwt ((((List.range len).map D).length + ((List.range (m - len)).map fun j=>D (len + j)).length) * P.bytesOf e) (by simp only [DataW.weights,hu]; exact List.mem_cons_self)
      refine Nat.le_trans ?_ h0
      refine Nat.mul_le_mul_right _ ?_
      simp only [List.length_map,List.length_range]
      omega
     refine ⟨_,⟨xs,rfl,⟨by omega,hwl⟩,k2⟩,?_⟩
     simp only [V]
     refine ⟨some a,cap,body,by rw [k1],by omega,hm,k3,?_⟩
     by_cases h0:len = 0
     ·left; exact List.eq_nil_of_length_eq_zero (by omega)
     ·right
      have hbl:=Jw k3
      have hpos:0 < body.length:=by rw [hbl,k1]; exact Nat.mul_pos (by omega) hs.1
      have hc0:=k4 0 body[0] (List.getElem?_eq_getElem hpos)
      simp only [Nat.zero_mul,Nat.zero_add] at hc0
      obtain ⟨b,o,sp⟩:=a
      have hsp:sp = none:=by
       cases sp with
       | none=>rfl
       | some q=>simp [World.cell?,Addr.add] at hc0; split at hc0 <;> simp at hc0
      subst hsp
      have hlt:b < C.w.heap.size:=by
       rcases Nat.lt_or_ge b C.w.heap.size with h | h
       ·exact h
       ·simp [World.cell?,Addr.add,Array.getElem?_eq_none h] at hc0
      refine ⟨b,o,rfl,hI b hlt,fun j u hj=>?_⟩
      have:=k4 j u hj
      rwa [Nat.zero_mul,Nat.zero_add,JbM] at this
   ·rename_i fs hu
    simp only [Bool.and_eq_true,List.all_eq_true] at hs
    obtain ⟨xs,m,_,rfl,hl,hxl,hx⟩:=DataW.trod_struct hu h
    have key:=JSZ (P:=P) (C:=C) (R:=fun f a=>Typed P n f.type a) fs.toList 0 (P.cellsOf t) cs hs.1 hl (fun f hf=>by
     obtain ⟨i,hi,rfl⟩:=List.getElem_of_mem hf
     have hi':i < fs.size:=by simpa using hi
     have h1:=hx i fs[i] (Array.getElem?_eq_getElem hi')
     rw [List.getElem?_eq_getElem (by omega)] at h1
     obtain ⟨av,h2,h3⟩:=ih _ _ _ _ (hs.2 _ hf) h1 (fun k hk=>hwt k (by
      simp only [DataW.weights,hu]
      refine Jwe (i:=i) (d:=(xs[i]'(by omega)).1) (t:=fs[i].type) ?_ ?_ (by simpa using hk)
      ·simp [hi']
      ·simp [List.getElem?_eq_getElem (show i < xs.length by omega)]))
     exact ⟨av,by simpa using h2,by simpa using h3⟩)
    obtain ⟨as,h1,h2⟩:=key
    rw [List.drop_zero] at h2
    exact ⟨_,⟨as,rfl,h1⟩,by simp only [V]; exact h2⟩
   ·rename_i k e hu
    simp only [Bool.and_eq_true,decide_eq_true_eq] at hs
    obtain ⟨xs,m,_,rfl,hl,hxl,hx⟩:=DataW.trod_array hu h
    obtain ⟨ys,h1,h2,h3⟩:=JTg (C:=C) (sz:=P.cellsOf e) (Q:=Typed P n e) k cs (by rw [hl,hs.1]) (fun i hi=>by
     have h1:=hx i hi
     rw [List.getElem?_eq_getElem (by omega)] at h1
     obtain ⟨av,h2,h3⟩:=ih _ _ _ _ hs.2 h1 (fun k hk=>hwt k (by
      simp only [DataW.weights,hu]
      refine Jm3 (d:=(xs[i]'(by omega)).1) ?_ (by simpa using hk)
      exact List.mem_map.2 ⟨_,List.getElem_mem (by omega),rfl⟩))
     exact ⟨av,h2,h3⟩)
    exact ⟨_,⟨ys,rfl,h1,h2⟩,by simp only [V]; exact h3⟩
   ·cases hs
end
end
section
open Go Go.ChangeShapes Go.WideShapes Go.ChangeAt Go.RowKit
section
variable {H:Type} {enc:TypeId × Value → H} {P:Program} {W W':World}
theorem JIC (hl:laidOutB P = true) (hb:Below W.heap.size W W') : ∀ {ts:List TypeId} {vs:List Value} {ds:List (DataW H)} {ps:List MemPlace},(∀ t ∈ ts,P.readableRec t = true ∧ t < P.types.size) →
 DataW.TrodAll enc P W 0 (fun _=>true) true ts vs ds ps → (∀ p ∈ ps,p.block < W.heap.size) → DataW.TrodAll enc P W' 0 (fun b=>decide (b < W.heap.size)) true ts vs ds ps
 | [],[],[],_,_,h,_=>h
 | t :: ts,v :: vs,d :: ds,ps,ht,h,hp=>by
   obtain ⟨p,q,h1,h2,rfl⟩:=h
   exact ⟨p,q,Below.trod hl (ht t List.mem_cons_self).1 (ht t List.mem_cons_self).2 h1 hb (fun x hx=>hp x (List.mem_append_left _ hx)),
    JIC hl hb (fun t' h'=>ht t' (List.mem_cons_of_mem _ h')) h2 (fun x hx=>hp x (List.mem_append_right _ hx)),rfl⟩
 | [],[],_ :: _,_,_,h,_=>h.elim
 | [],_ :: _,_,_,_,h,_=>by cases ‹List (DataW H)› <;> exact h.elim
 | _ :: _,[],_,_,_,h,_=>by cases ‹List (DataW H)› <;> exact h.elim
 | _ :: _,_ :: _,[],_,_,h,_=>h.elim
theorem JMQ (hb:Below W.heap.size W W') : ∀ {ts:List TypeId} {vs:List Value} {ds:List (DataW H)} {ps:List MemPlace},
 DataW.TrodAll enc P W 0 (fun _=>true) true ts vs ds ps → (∀ p ∈ ps,p.block < W.heap.size) → DataW.TrodAll enc P W' 0 (fun _=>true) true ts vs ds ps
 | [],[],[],_,h,_=>h
 | t :: ts,v :: vs,d :: ds,ps,h,hp=>by
   obtain ⟨p,q,⟨fuel,h1⟩,h2,rfl⟩:=h
   exact ⟨p,q,⟨fuel,DataW.trod_carry _ _ _ _ h1 (fun x hx=>hb.same (hp x (List.mem_append_left _ hx)))⟩,JMQ hb h2 (fun x hx=>hp x (List.mem_append_right _ hx)),rfl⟩
 | [],[],_ :: _,_,h,_=>h.elim
 | [],_ :: _,_,_,h,_=>by cases ‹List (DataW H)› <;> exact h.elim
 | _ :: _,[],_,_,h,_=>by cases ‹List (DataW H)› <;> exact h.elim
 | _ :: _,_ :: _,[],_,h,_=>h.elim
theorem J4k {C:Ctx} {n base:Nat} {t:TypeId} {v:Value} {av:AV} (hs:simpleT P n t = true) (hok:Value.okWide P C.w .any base t v) (hT:Typed P n t av) (hv:V C av v.cells.toList) : SV C av v := by
 cases n with
 | zero=>simp [simpleT] at hs
 | succ n =>
   have one:av.isAgg = false → (∀ cs,v ≠ .agg cs) → SV C av v:=fun ha hne=>by
    have e:v.cells.toList = [v]:=by
     cases v <;> first | rfl | exact absurd rfl (hne _)
    rw [e] at hv
    exact JYZ hv ha
   simp only [Typed] at hT
   unfold Value.okWide at hok
   split at hT
   ·rename_i hu
    obtain ⟨b,rfl⟩:=hT
    rw [hu] at hok
    refine one rfl fun cs e=>?_
    subst e
    simp [Cell.okWide,Cell.ok,hu] at hok
   ·rename_i k hu
    obtain ⟨b,rfl,_⟩:=hT
    rw [hu] at hok
    refine one rfl fun cs e=>?_
    subst e
    simp [Cell.okWide,Cell.ok,hu] at hok
   ·rename_i hu
    obtain ⟨b,rfl,_⟩:=hT
    rw [hu] at hok
    refine one rfl fun cs e=>?_
    subst e
    simp [Cell.okWide,Cell.ok,hu] at hok
   ·rename_i e hu
    obtain ⟨b,rfl,_⟩:=hT
    rw [hu] at hok
    refine one rfl fun cs e=>?_
    subst e
    simp [Cell.okWide,Cell.ok,hu] at hok
   ·rename_i fs hu
    obtain ⟨as,rfl,_⟩:=hT
    rw [hu] at hok
    obtain ⟨cs,rfl,_⟩:=hok
    exact JYW hv rfl
   ·rename_i k e hu
    obtain ⟨as,rfl,_⟩:=hT
    rw [hu] at hok
    obtain ⟨cs,rfl,_⟩:=hok
    exact JYW hv rfl
   ·exact hT.elim
theorem open_all {C:Ctx} (hI:∀ k,k < C.w.heap.size → C.I k) {n base:Nat} : ∀ {ts:List TypeId} {vs:List Value} {ds:List (DataW H)} {ps:List MemPlace},(∀ t ∈ ts,simpleT P n t = true) →
 (∀ (j:Nat) t v,ts[j]? = some t → vs[j]? = some v → Value.okWide P C.w .any base t v) → DataW.TrodAll enc P C.w 0 (fun _=>true) true ts vs ds ps → (∀ k ∈ DataW.weightsEach P ts ds,k ≤ reachBytes) →
 ∃ avs,All2 (fun t a=>Typed P n t a) ts avs ∧ SVl C avs vs
 | [],[],[],_,_,_,_,_=>⟨[],trivial,rfl⟩
 | t :: ts,v :: vs,d :: ds,ps,ht,hv,h,hwt=>by
   obtain ⟨p,q,⟨fuel,h1⟩,h2,rfl⟩:=h
   simp only [DataW.weightsEach,List.mem_append] at hwt
   obtain ⟨av,k1,k2⟩:=J3M hI n t fuel _ _ (ht t List.mem_cons_self) h1 (fun k hk=>hwt k (.inl hk))
   obtain ⟨avs,k3,k4⟩:=open_all hI (fun t' h'=>ht t' (List.mem_cons_of_mem _ h')) (fun j t' v' a b=>hv (j + 1) t' v' (by simpa using a) (by simpa using b)) h2 (fun k hk=>hwt k (.inr hk))
   exact ⟨av :: avs,⟨k1,k3⟩,v,vs,rfl,J4k (ht t List.mem_cons_self) (hv 0 t v rfl rfl) k1 k2,k4⟩
 | [],[],_ :: _,_,_,_,h,_=>h.elim
 | [],_ :: _,_,_,_,_,h,_=>by cases ‹List (DataW H)› <;> exact h.elim
 | _ :: _,[],_,_,_,_,h,_=>by cases ‹List (DataW H)› <;> exact h.elim
 | _ :: _,_ :: _,[],_,_,_,h,_=>h.elim
theorem Jmj {k:Nat} {us:List TypeId} {es:List (DataW H)} : ∀ {ts:List TypeId} {ds:List (DataW H)},k ∈ DataW.weightsEach P ts ds → ts.length = ds.length ∨ True → k ∈ DataW.weightsEach P (ts ++ us) (ds ++ es)
 | [],_,h,_=>by simp [DataW.weightsEach] at h
 | _ :: _,[],h,_=>by simp [DataW.weightsEach] at h
 | t :: ts,d :: ds,h,_=>by
   simp only [DataW.weightsEach,List.cons_append,List.mem_append] at *
   exact h.imp id fun h=>Jmj h (.inr trivial)
theorem JWX {f:FuncId} {fn:Func} {s:ChangeSpec} {apart fresh handsOn again keep:Bool} {n base:Nat} {args:Array Value} {ds gs:List (DataW H)} {before:List MemPlace}
 (hlaid:laidOutB P = true) (hp:fn.params.toList.all (fun t=>simpleT P n t && P.readableRec t && decide (t < P.types.size)) = true) {tb:TypeId} (hrt:fn.resultTypes = #[tb]) (htb:P.underlying tb = some .bool)
 (hvars:s.vars = []) (hspec:∀ ds:List (DataW H),ds.length = fn.params.size → s.fn H ds = { results:=[.lit (.bool true)],args:=ds })
 {G:Nat → Option AV} (hG:GR ⟨W,fun k=>k < W.heap.size,fun _=>none,fun _=>none,fun g=>g = 0⟩ G)
 (hM:∀ avs,All2 (fun t a=>Typed P n t a) fn.params.toList avs → Meets P G f avs [] keep (.v (.bool true)) [])
 (hval:∀ (j:Nat) t v,fn.params[j]? = some t → args[j]? = some v → Value.okWide P W .any base t v) (hwt:(DataW.weightsEach P (fn.params.toList ++ s.plain.varTypes P) (ds ++ gs)).all (· ≤ reachBytes) = true) (hW:DataW.Whole enc P fn.params.toList s.vars apart W args.toList ds gs before) :
 Calls P f args W fun e W'=>∃ v,e = .returned v ∧ s.post enc P fn apart fresh handsOn again W args v W':=by
 have hW0:=hW
 obtain ⟨p,q,hA,hV,rfl,hfz,hnd⟩:=hW
 rw [hvars] at hV
 obtain ⟨rfl,rfl⟩:=trodVars_none hV
 have hpt:∀ t ∈ fn.params.toList,simpleT P n t = true ∧ P.readableRec t = true ∧ t < P.types.size:=fun t ht=>by
  have:=(List.all_eq_true.1 hp) t ht
  simpa [Bool.and_eq_true,and_assoc] using this
 let C:Ctx:=⟨W,fun k=>k < W.heap.size,fun _=>none,fun _=>none,fun g=>g = 0⟩
 obtain ⟨avs,h1,h2⟩:=open_all (C:=C) (fun k hk=>hk) (fun t ht=>(hpt t ht).1) (fun j t v a b=>hval j t v (by simpa using a) (by simpa using b)) hA (fun k hk=>by
  have:=(List.all_eq_true.1 hwt) k (Jmj hk (.inr trivial))
  simpa using this)
 have hwr:WR W (fun _=>False) C.I C:=⟨(fun l c h=>by cases h),(fun l l' c c' b h=>by cases h),(fun l c b h=>by cases h),fun k hk=>⟨hk,.inl hk⟩,fun _ h=>h,(fun l c h=>by cases h),rfl,rfl,rfl,Nat.le_refl _,fun _ _ _=>rfl⟩
 have hcall:=(hM avs h1).2 C (fun _=>False) args.toList hwr rfl (fun _=>Iff.rfl) hG h2
 have ha:args.toList.toArray = args:=by simp
 rw [ha] at hcall
 refine Calls.mono hcall ?_
 rintro e W' ⟨y,C',rfl,rfl,hle,hw',_,hy⟩
 obtain rfl:=SV_v hy
 have hb:Below W.heap.size W C'.w:=⟨hw'.os,hw'.tape,hw'.output,hw'.size,fun k hk=>hw'.block k hk (fun h=>h)⟩
 have hlt:∀ x ∈ p,x.block < W.heap.size:=fun x hx=>hW0.lt x (by simpa using hx)
 have hlen:(ds ++ []).length = fn.params.size:=by
  have:∀ {ts:List TypeId} {vs:List Value} {ds:List (DataW H)} {ps:List MemPlace},DataW.TrodAll enc P W 0 (fun _=>true) true ts vs ds ps → ds.length = ts.length:=by
   intro ts
   induction ts with
   | nil=>intro vs ds ps h; cases vs <;> cases ds <;> first | rfl | exact h.elim
   | cons t ts ih =>
     intro vs ds ps h
     cases vs <;> cases ds <;> first | exact h.elim | skip
     obtain ⟨_,_,_,h2,_⟩:=h
     simp [ih h2]
  simpa using this hA
 have hsp:=hspec (ds ++ []) hlen
 have hres:∀ (b:Nat) (sp:Nat → Bool) (hd:Bool),DataW.TrodAll enc P C'.w b sp hd fn.resultTypes.toList ((Value.bool true).resultList fn.resultTypes.size) [.lit (.bool true)] []:=by
  intro b sp hd
  rw [hrt]
  exact ⟨[],[],⟨1,by simp [DataW.trod,Value.cells,htb]⟩,rfl,rfl⟩
 refine ⟨_,rfl,ds,[],p,[],p,[],by simpa using hW0,?_,?_,?_,?_,fun _=>?_⟩
 ·rw [hsp]
  exact hres _ _ _
 ·rw [hsp]
  have:=JIC hlaid hb (fun t ht=>(hpt t ht).2) hA hlt
  simpa using this
 ·rw [hsp,hvars]
  exact rfl
 ·exact hb.frame _
 ·refine ⟨ok_one hrt rfl ?_,_,[],([] ++ p) ++ [],⟨[] ++ p,[],trodAll_append (JMQ hb hA hlt) (hres _ _ _),?_,rfl,?_,?_⟩,?_⟩
  ·unfold Value.okWide
   rw [htb]
   simp [Cell.okWide,Cell.ok,htb]
  ·rw [hvars]; exact rfl
  ·intro b off hpp
   have hp':(.cell b off:MemPlace) ∈ p:=by simpa using hpp
   rw [hb.frozen (hlt _ hp')]
   exact hfz b off (by simpa using hp')
  ·intro ha'
   simpa using hnd ha'
  ·intro x hx _
   simpa using hx
end
end
section
open Go
mutual
def frzA (l g sz:Nat) (xs:List AV) : AV → AV
 | .row l' sz' g' off n=>if l' = l ∧ sz' = sz ∧ g' = g ∧ off + n ≤ xs.length then .sl sz ((xs.drop off).take n) else .row l' sz' g' off n
 | .node cs=>.node (frzs l g sz xs cs)
 | .arr s cs=>.arr s (frzs l g sz xs cs)
 | a=>a
def frzs (l g sz:Nat) (xs:List AV) : List AV → List AV
 | []=>[]
 | a :: as=>frzA l g sz xs a :: frzs l g sz xs as
end
def frzLoc (l g sz:Nat) (xs:List AV) : Loc → Loc
 | .var g' c=>.var g' (frzA l g sz xs c)
 | .rows g' s cs=>.rows g' s (frzs l g sz xs cs)
 | .ob g' q c=>.ob g' q (frzA l g sz xs c)
def frzM (l g sz:Nat) (xs:List AV) : List (Nat × Loc) → List (Nat × Loc)
 | []=>[]
 | (k,c) :: r=>if k = l then frzM l g sz xs r else (k,frzLoc l g sz xs c) :: frzM l g sz xs r
def frzF (l g sz:Nat) (xs:List AV) : List (Nat × AV) → List (Nat × AV)
 | []=>[]
 | (k,a) :: r=>(k,frzA l g sz xs a) :: frzF l g sz xs r
section
variable {w0:World} {Ws I0:Nat → Prop} {C C':Ctx} {l g sz:Nat} {xs:List AV}
end
def FitF (m:Nat → Option Loc) (L:Names) (fr:List (Nat × AV)) : List (Nat × AV) → Prop
 | []=>True
 | e :: r=>(match look fr e.1 with | some raw=>Fit m L raw e.2 | none=>False) ∧ FitF m L fr r
def touchF (m:Nat → Option Loc) (fr:List (Nat × AV)) : List (Nat × AV) → List Nat
 | []=>[]
 | e :: r=>(match look fr e.1 with | some raw=>touch m raw e.2 | none=>[]) ++ touchF m fr r
def pairsF (fr:List (Nat × AV)) : List (Nat × AV) → Names
 | []=>[]
 | e :: r=>(match look fr e.1 with | some raw=>pairsA raw e.2 | none=>[]) ++ pairsF fr r
def StampedF (U:Nat → Prop) : List (Nat × AV) → Prop
 | []=>True
 | e :: r=>Stamped U e.2 ∧ StampedF U r
def RecastC (m:Nat → Option Loc) (c:Nat) (fr fr':List (Nat × AV)) (M:List (Nat × Loc)) (L:Names) : Prop :=
 FitF m L fr fr' ∧ StampedF (· = c) fr' ∧ FitM m L M ∧ StampedM (· = c) M ∧ (M.map (·.1)).Nodup ∧ (srcs L M).Nodup ∧ ∀ t ∈ touchF m fr fr' ++ touchM m L M,t ∉ srcs L M
theorem JQO {m:Nat → Option Loc} {L:Names} {fr:List (Nat × AV)} : ∀ {fr':List (Nat × AV)} {t:Nat} {x:AV},FitF m L fr fr' → look fr' t = some x → ∃ raw,look fr t = some raw ∧ Fit m L raw x ∧ ∀ l ∈ touch m raw x,l ∈ touchF m fr fr'
 | [],_,_,_,h=>by cases h
 | e :: r,t,x,hf,h=>by
   obtain ⟨k,w⟩:=e
   simp only [look] at h
   split at h
   ·rename_i e
    subst e
    obtain rfl:=Option.some.inj h
    obtain ⟨h1,_⟩:=hf
    simp only at h1
    split at h1
    ·rename_i raw hr
     refine ⟨raw,hr,h1,fun l hl=>?_⟩
     simp only [touchF,hr]
     exact List.mem_append_left _ hl
    ·exact h1.elim
   ·obtain ⟨raw,h1,h2,h3⟩:=JQO hf.2 h
    exact ⟨raw,h1,h2,fun l hl=>List.mem_append_right _ (h3 l hl)⟩
theorem JyK {U:Nat → Prop} : ∀ {fr':List (Nat × AV)} {t:Nat} {x:AV},StampedF U fr' → look fr' t = some x → Stamped U x
 | [],_,_,_,h=>by cases h
 | e :: r,t,x,hf,h=>by
   obtain ⟨k,w⟩:=e
   simp only [look] at h
   split at h
   ·obtain rfl:=Option.some.inj h; exact hf.1
   ·exact JyK hf.2 h
theorem JzV {U U':Nat → Prop} (h:∀ g,U g → U' g) (c:Loc) (k:StampedLoc U c) : StampedLoc U' c := by
 cases c with
 | var g w=>exact ⟨h _ k.1,Jbd h _ k.2⟩
 | rows g sz ws=>exact ⟨h _ k.1,J1 h _ k.2⟩
 | ob g q w=>exact ⟨h _ k.1,Jbd h _ k.2⟩
theorem JPc {c:Nat} {x:Loc} (k:StampedLoc (· = c) x) : x.gen = c := by cases x <;> exact k.1
theorem Weak.recast {fr fr':List (Nat × AV)} {m M:List (Nat × Loc)} {c:Nat} {L:Names} (h:RecastC (look m) c fr fr' M L) : Weak ⟨fr,m,c⟩ ⟨fr',M,c + 1⟩ := by
 obtain ⟨h1,h2,h3,h4,h5,h6,h7⟩:=h
 intro w0 Ws I0 G C0 N a w hr
 obtain ⟨hc,C,rfl,hm⟩:=hr
 have hmm:C.m = look m:=hm.m
 have htop:∀ k,C.used k → k < c:=hm.top
 have hc2:2 ≤ c:=hc
 let T:=touchF (look m) fr fr' ++ touchM (look m) L M
 let U:Nat → Prop:=fun g=>C.used g ∨ g = c
 have hnamed:Named C.m L M T U:=by
  rw [hmm]
  exact ⟨h5,fun e he=>JAm h3 he,fun e he t ht=>List.mem_append_right _ (JjQ he ht),h6,h7,fun e he=>JzV (fun g hg=>.inr hg) _ (Jbc h4 he)⟩
 have hseen:=hnamed.seen
 have hwr:WR w0 Ws I0 (reCtx C L M T U) :=
  hnamed.wr hm.wr (fun k hk=>.inl (hm.wr.imm0 k hk)) (fun l cc b _ hcl hb=>(hm.wr.own l cc b hcl hb).2.2) (fun k hk=>by
   rcases hk with hk | ⟨t,_,ct,hct,hbt⟩
   ·exact (hm.wr.imm k hk).2
   ·exact .inr (hm.wr.own t ct k hct hbt).2.2) hm.wr.os hm.wr.tape hm.wr.output hm.wr.size hm.wr.block
 have hle:C.Le (reCtx C L M T U):=by
  refine ⟨fun g hg=>.inl hg,fun k hk=>.inl hk,fun _ _=>rfl,fun l c' hl hu=>?_⟩
  have hg:=JPc (Jbc h4 (Jbh hl))
  simp only at hg
  rw [hg] at hu
  have:=htop _ hu
  omega
 refine ⟨Nat.le_succ_of_le hc2,reCtx C L M T U,rfl,hwr,rfl,fun t x hx=>?_,hm.gr.mono hle,hm.le.trans hle,hm.size,hm.defers,(fun i hi=>by cases hi),fun k hk=>?_,fun hk=>?_⟩
 ·obtain ⟨raw,k1,k2,k3⟩:=JQO h1 hx
  obtain ⟨v,k4,k5⟩:=hm.fr t raw k1
  refine ⟨v,k4,JRp hm.wr hseen (by rw [hmm]; exact k2) (fun l hl=>List.mem_append_left _ (k3 l (by rw [← hmm]; exact hl))) (Jbd (fun g hg=>.inr hg) _ (JyK h2 hx)) k5⟩
 ·rcases hk with hk | rfl
  ·exact Nat.lt_succ_of_lt (htop k hk)
  ·exact Nat.lt_succ_self _
 ·rcases hk with hk | hk
  ·exact hm.one hk
  ·omega
theorem Weak.re {fr fr':List (Nat × AV)} {m M:List (Nat × Loc)} {c:Nat} (h:RecastC (look m) c fr fr' M (inner (look m) (pairsF fr fr') M)) : Weak ⟨fr,m,c⟩ ⟨fr',M,c + 1⟩ := Weak.recast h
theorem Nxt.re {α:Type} {inv:Nat → α → Prop} {st:Nat → α → Nat → SA} {j:Nat} {fr fr':List (Nat × AV)} {m M:List (Nat × Loc)} {c:Nat} (a:α) (hi:inv j a) (e:st j a c = ⟨fr',M,c + 1⟩) (h:RecastC (look m) c fr fr' M (inner (look m) (pairsF fr fr') M)) : Nxt inv st j ⟨fr,m,c⟩ :=
 ⟨a,c,e ▸ Weak.re h,hi⟩
def RecastC0 (m:List (Nat × Loc)) (c:Nat) (fr fr':List (Nat × AV)) (M:List (Nat × Loc)) (L:Names) : Prop :=
 FitF (look m) L fr fr' ∧ StampedF (fun g=>g = c ∨ g = 0) fr' ∧ FitM (look m) L M ∧ StampedM (fun g=>g = c ∨ g = 0) M ∧ (M.map (·.1)).Nodup ∧ (srcs L M).Nodup ∧ (∀ t ∈ touchF (look m) fr fr' ++ touchM (look m) L M,t ∉ srcs L M) ∧ oldE L M ∧ ∃ k,isVar0 (look m k) = true
theorem Weak.recast0 {fr fr':List (Nat × AV)} {m M:List (Nat × Loc)} {c:Nat} {L:Names} (h:RecastC0 m c fr fr' M L) : Weak ⟨fr,m,c⟩ ⟨fr',M,c + 1⟩ := by
 obtain ⟨h1,h2,h3,h4,h5,h6,h7,h8,k0,hk0⟩:=h
 intro w0 Ws I0 G C0 N a w hr
 obtain ⟨hc,C,rfl,hm⟩:=hr
 have hmm:C.m = look m:=hm.m
 have htop:∀ k,C.used k → k < c:=hm.top
 have hc2:2 ≤ c:=hc
 have hu0:C.used 0:=by
  unfold isVar0 at hk0
  split at hk0
  ·rename_i x hx
   have:=hm.wr.gens k0 _ (by rw [hmm]; exact hx)
   simpa [Loc.gen] using this
  ·rename_i x hx
   have:=hm.wr.gens k0 _ (by rw [hmm]; exact hx)
   simpa [Loc.gen] using this
  ·cases hk0
 let T:=touchF (look m) fr fr' ++ touchM (look m) L M
 let U:Nat → Prop:=fun g=>C.used g ∨ g = c
 have hU:∀ g,g = c ∨ g = 0 → U g:=fun g hg=>by
  rcases hg with rfl | rfl
  ·exact .inr rfl
  ·exact .inl hu0
 have hnamed:Named C.m L M T U:=by
  rw [hmm]
  exact ⟨h5,fun e he=>JAm h3 he,fun e he t ht=>List.mem_append_right _ (JjQ he ht),h6,h7,fun e he=>JzV hU _ (Jbc h4 he)⟩
 have hseen:=hnamed.seen
 have hwr:WR w0 Ws I0 (reCtx C L M T U) :=
  hnamed.wr hm.wr (fun k hk=>.inl (hm.wr.imm0 k hk)) (fun l cc b _ hcl hb=>(hm.wr.own l cc b hcl hb).2.2) (fun k hk=>by
   rcases hk with hk | ⟨t,_,ct,hct,hbt⟩
   ·exact (hm.wr.imm k hk).2
   ·exact .inr (hm.wr.own t ct k hct hbt).2.2) hm.wr.os hm.wr.tape hm.wr.output hm.wr.size hm.wr.block
 have hle:C.Le (reCtx C L M T U):=by
  refine ⟨fun g hg=>.inl hg,fun k hk=>.inl hk,fun _ _=>rfl,fun l c' hl hu=>?_⟩
  have hmem:=Jbh hl
  have hg:c'.gen = c ∨ c'.gen = 0:=by
   have:=Jbc h4 hmem
   cases c' <;> exact this.1
  rcases hg with hg | hg
  ·rw [hg] at hu
   have:=htop _ hu
   omega
  ·have ho:=JQs h8 hmem hg
   simp only at ho
   have hf:=hnamed.fit _ hmem
   have hsrc:src L l = some l:=by simp [src,ho]
   cases c' with
   | var g w =>
     obtain ⟨l2,g2,raw,e1,e2,_⟩:=hf
     simp only at e1
     rw [ho] at e1
     obtain ⟨rfl,rfl⟩:=(by simpa using e1:l = l2 ∧ 0 = g2)
     simp only [Loc.gen] at hg
     subst hg
     exact ⟨_,e2,rfl,by simp [reCtx,ho],fun b _ cur _ hcur=>⟨cur,hcur,rfl⟩⟩
   | rows g sz ws =>
     simp only [Loc.gen] at hg
     subst hg
     rcases hf with ⟨l2,g2,xs,e1,e2,_⟩ | ⟨e1,_⟩
     ·simp only at e1
      rw [ho] at e1
      obtain ⟨rfl,rfl⟩:=(by simpa using e1:l = l2 ∧ 0 = g2)
      exact ⟨_,e2,⟨rfl,rfl⟩,by simp [reCtx,ho],fun b _ cur _ hcur=>⟨cur,hcur,rfl⟩⟩
     ·simp only at e1
      rw [ho] at e1
      simp at e1
   | ob g q w =>
     obtain ⟨l2,g2,raw,e1,e2,_⟩:=hf
     simp only at e1
     rw [ho] at e1
     obtain ⟨rfl,rfl⟩:=(by simpa using e1:l = l2 ∧ 0 = g2)
     simp only [Loc.gen] at hg
     subst hg
     exact ⟨_,e2,⟨rfl,rfl⟩,by simp [reCtx,ho],fun b _ cur _ hcur=>⟨cur,hcur,rfl⟩⟩
 refine ⟨Nat.le_succ_of_le hc2,reCtx C L M T U,rfl,hwr,rfl,fun t x hx=>?_,hm.gr.mono hle,hm.le.trans hle,hm.size,hm.defers,(fun i hi=>by cases hi),fun k hk=>?_,fun hk=>?_⟩
 ·obtain ⟨raw,k1,k2,k3⟩:=JQO h1 hx
  obtain ⟨v,k4,k5⟩:=hm.fr t raw k1
  refine ⟨v,k4,JRp hm.wr hseen (by rw [hmm]; exact k2) (fun l hl=>List.mem_append_left _ (k3 l (by rw [← hmm]; exact hl))) (Jbd hU _ (JyK h2 hx)) k5⟩
 ·rcases hk with hk | rfl
  ·exact Nat.lt_succ_of_lt (htop k hk)
  ·exact Nat.lt_succ_self _
 ·rcases hk with hk | hk
  ·exact hm.one hk
  ·omega
theorem Weak.re0 (k:Nat) {fr fr':List (Nat × AV)} {m M:List (Nat × Loc)} {c:Nat}
 (h:(let L:=inner (look m) (pairsF fr fr') M; FitF (look m) L fr fr' ∧ StampedF (fun g=>g = c ∨ g = 0) fr' ∧ FitM (look m) L M ∧ StampedM (fun g=>g = c ∨ g = 0) M ∧ (M.map (·.1)).Nodup ∧ (srcs L M).Nodup ∧ (∀ t ∈ touchF (look m) fr fr' ++ touchM (look m) L M,t ∉ srcs L M) ∧ oldE L M ∧ isVar0 (look m k) = true)):Weak ⟨fr,m,c⟩ ⟨fr',M,c + 1⟩:=by
 obtain ⟨h1,h2,h3,h4,h5,h6,h7,h8,h9⟩:=h
 exact Weak.recast0 ⟨h1,h2,h3,h4,h5,h6,h7,h8,k,h9⟩
theorem Weak.re1 (k:Nat) {fr fr':List (Nat × AV)} {m M:List (Nat × Loc)} {c:Nat}
 (h:(let L:=inner (look m) (oldNames M ++ pairsF fr fr') M; FitF (look m) L fr fr' ∧ StampedF (fun g=>g = c ∨ g = 0) fr' ∧ FitM (look m) L M ∧ StampedM (fun g=>g = c ∨ g = 0) M ∧ (M.map (·.1)).Nodup ∧ (srcs L M).Nodup ∧ (∀ t ∈ touchF (look m) fr fr' ++ touchM (look m) L M,t ∉ srcs L M) ∧ oldE L M ∧ isVar0 (look m k) = true)):Weak ⟨fr,m,c⟩ ⟨fr',M,c + 1⟩:=by
 obtain ⟨h1,h2,h3,h4,h5,h6,h7,h8,h9⟩:=h
 exact Weak.recast0 ⟨h1,h2,h3,h4,h5,h6,h7,h8,k,h9⟩
attribute [simp] FitF touchF pairsF StampedF RecastC
def Dec {α:Type} (inv:Nat → α → Prop) (st:Nat → α → Nat → SA) (m:Nat) (S:SA) : Prop := ∃ m' a c,m' < m ∧ Weak S (st m' a c) ∧ inv m' a
theorem go_dec {P:Program} {G:Nat → Option AV} {Q:Exit → SA → Prop} {c:CCode} {k:List Kont} {S:SA} {α:Type} (m0:Nat) (inv:Nat → α → Prop) (st:Nat → α → Nat → SA) (a0:α) (c0:Nat) (hw:Weak S (st m0 a0 c0)) (h0:inv m0 a0)
 (h:∀ m a c',inv m a → go P G (thenA (Dec inv st m) (unK P G Q k)) c [] (st m a c')):go P G Q (.loop c) k S:=by
 refine ⟨fun n S=>∃ a c,inv n a ∧ S = st n a c,⟨m0,_,hw,a0,c0,h0,rfl⟩,?_⟩
 rintro n S' ⟨a,c',hi,rfl⟩
 refine JNt (h n a c' hi) ?_
 rintro e S'' h1
 cases e <;> first | exact h1 | skip
 obtain ⟨m',a1,c1,h2,h3,h4⟩:=h1
 exact ⟨m',_,h3,⟨a1,c1,h4,rfl⟩,h2⟩
attribute [simp] frzA frzs frzLoc frzM frzF
theorem JPJ {sz:Nat} : ∀ (vals pre post:List AV),post.length = vals.length → allSz sz vals = true → buildE sz (pre ++ post) ((List.range' pre.length vals.length).zip vals) = some (pre ++ vals)
 | [],pre,[],_,_=>by simp [buildE]
 | x :: r,pre,z :: post,hl,h=>by
   simp only [allSz,Bool.and_eq_true,beq_iff_eq] at h
   simp only [List.length_cons,Nat.add_right_cancel_iff] at hl
   simp only [List.length_cons,List.range'_succ,List.zip_cons_cons,buildE,List.length_append]
   rw [if_pos ⟨by omega,h.1.1,h.1.2⟩]
   have e:(pre ++ z :: post).set pre.length x = (pre ++ [x]) ++ post:=by
    rw [List.set_append_right _ _ (Nat.le_refl _)]
    simp
   rw [e]
   have:=JPJ r (pre ++ [x]) post hl h.2
   rw [List.length_append,List.length_singleton] at this
   rw [this]
   simp
 | [],_,_ :: _,hl,_=>by simp at hl
 | _ :: _,_,[],hl,_=>by simp at hl
@[simp] theorem J7m {sz n:Nat} {zs vals:List AV} (h1:zs.length = n) (h2:vals.length = n) (h3:allSz sz vals = true) : buildE sz zs ((upTo n).zip vals) = some vals := by
 subst h2
 have:=JPJ vals [] zs h1 h3
 simpa [upTo,List.range_eq_range'] using this
attribute [simp] allSz
inductive Ty where
 | bool
 | int (k:IntKind)
 | str
 | sl (sz bytes:Nat) (e:Ty)
 | st (fs:List Ty)
 | arr (n sz:Nat) (e:Ty)
mutual
def isTy (P:Program) : Ty → TypeId → Bool
 | .bool,t=>isBoolT P t
 | .int k,t=>isInt P t == some k
 | .str,t=>isStr P t
 | .sl sz bytes e,t=>match isSlice P t with
   | some e'=>P.cellsOf e' == sz && P.bytesOf e' == bytes && isTy P e e'
   | none=>false
 | .st fs,t=>match isStruct P t with
   | some fields=>isTys P fs (fields.toList.map (·.type))
   | none=>false
 | .arr n sz e,t=>match isArr P t with
   | some (n',e')=>n' == n && P.cellsOf e' == sz && isTy P e e'
   | none=>false
def isTys (P:Program) : List Ty → List TypeId → Bool
 | [],[]=>true
 | a :: as,t :: ts=>isTy P a t && isTys P as ts
 | _,_=>false
end
mutual
def TyOk : Ty → AV → Prop
 | .bool,a=>∃ b,a = .v (.bool b)
 | .int k,a=>∃ i,a = .v (.int k i) ∧ (Lit.int k i).wf = true
 | .str,a=>∃ s:ByteArray,a = .v (.string s) ∧ s.size ≤ reachBytes
 | .sl sz bytes e,a=>∃ xs,a = .sl sz xs ∧ (xs.length ≤ maxLen ∧ xs.length * bytes ≤ reachBytes) ∧ ∀ x ∈ xs,TyOk e x
 | .st fs,a=>∃ as,a = .node as ∧ TysOk fs as
 | .arr n sz e,a=>∃ xs,a = .arr sz xs ∧ xs.length = n ∧ ∀ x ∈ xs,TyOk e x
def TysOk : List Ty → List AV → Prop
 | [],[]=>True
 | t :: ts,a :: as=>TyOk t a ∧ TysOk ts as
 | _,_=>False
end
mutual
theorem ty_ok {P:Program} : ∀ (T:Ty) (n:Nat) (t:TypeId) (av:AV),isTy P T t = true → Typed P n t av → TyOk T av
 | T,0,_,_,_,h=>h.elim
 | .bool,n + 1,t,av,hT,h=>by
   simp only [isTy] at hT
   simp only [Typed,JPX hT] at h
   exact h
 | .int k,n + 1,t,av,hT,h=>by
   simp only [isTy,beq_iff_eq] at hT
   simp only [Typed,JpO hT] at h
   exact h
 | .str,n + 1,t,av,hT,h=>by
   simp only [isTy] at hT
   simp only [Typed,JpN hT] at h
   exact h
 | .sl sz bytes e,n + 1,t,av,hT,h=>by
   simp only [isTy] at hT
   split at hT
   ·rename_i e' he
    simp only [Bool.and_eq_true,beq_iff_eq] at hT
    obtain ⟨⟨rfl,rfl⟩,hT⟩:=hT
    simp only [Typed,JS he] at h
    obtain ⟨xs,rfl,h1,h2⟩:=h
    exact ⟨xs,rfl,h1,fun x hx=>ty_ok e n e' x hT (h2 x hx)⟩
   ·cases hT
 | .st fs,n + 1,t,av,hT,h=>by
   simp only [isTy] at hT
   split at hT
   ·rename_i fields he
    simp only [Typed,Jp5 he] at h
    obtain ⟨as,rfl,h1⟩:=h
    exact ⟨as,rfl,JZ7 fs n _ as hT (by
     revert h1
     generalize fields.toList = fl
     clear hT he
     induction fl generalizing as with
     | nil=>intro h1; cases as <;> exact h1
     | cons f fl ih=>intro h1; cases as with
       | nil=>exact h1
       | cons a as=>exact ⟨h1.1,ih as h1.2⟩)⟩
   ·cases hT
 | .arr k sz e,n + 1,t,av,hT,h=>by
   simp only [isTy] at hT
   split at hT
   ·rename_i n' e' he
    simp only [Bool.and_eq_true,beq_iff_eq] at hT
    obtain ⟨⟨rfl,rfl⟩,hT⟩:=hT
    simp only [Typed,JAj he] at h
    obtain ⟨xs,rfl,h1,h2⟩:=h
    exact ⟨xs,rfl,h1,fun x hx=>ty_ok e n e' x hT (h2 x hx)⟩
   ·cases hT
theorem JZ7 {P:Program} : ∀ (Ts:List Ty) (n:Nat) (ts:List TypeId) (avs:List AV),isTys P Ts ts = true → All2 (fun t a=>Typed P n t a) ts avs → TysOk Ts avs
 | [],_,[],[],_,_=>trivial
 | T :: Ts,n,t :: ts,a :: as,hT,h=>by
   simp only [isTys,Bool.and_eq_true] at hT
   exact ⟨ty_ok T n t a hT.1 h.1,JZ7 Ts n ts as hT.2 h.2⟩
 | [],_,[],_ :: _,_,h=>h.elim
 | [],_,_ :: _,_,hT,_=>by simp [isTys] at hT
 | _ :: _,_,[],_,hT,_=>by simp [isTys] at hT
 | _ :: _,_,_ :: _,[],_,h=>h.elim
end
theorem map_of_all {α:Type} {f:α → AV} {p:α → Prop} : ∀ {xs:List AV},(∀ x ∈ xs,∃ a,x = f a ∧ p a) → ∃ zs : List α,xs = zs.map f ∧ ∀ z ∈ zs,p z
 | [],_=>⟨[],rfl,fun _ h=>by cases h⟩
 | x :: xs,h=>by
   obtain ⟨a,rfl,ha⟩:=h x List.mem_cons_self
   obtain ⟨zs,rfl,hz⟩:=map_of_all (xs:=xs) fun y hy=>h y (List.mem_cons_of_mem _ hy)
   refine ⟨a :: zs,rfl,fun z hzz=>?_⟩
   rcases List.mem_cons.1 hzz with rfl | hzz
   ·exact ha
   ·exact hz z hzz
end
end Go.Proofs.YtlajjoekbcjfnaaGreatDoor.WL
