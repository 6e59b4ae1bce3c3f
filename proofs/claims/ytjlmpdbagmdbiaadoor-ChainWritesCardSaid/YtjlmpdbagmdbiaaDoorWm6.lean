
import Derived.Test.YtjlmpdbagmdbiaaDoorWm5
section
namespace Go.Proofs.YtjlmpdbagmdbiaaDoor.WL
open Go
attribute [local irreducible] sha
theorem Fmt.Law.same {α : Type} {F G : Fmt α} (h : F.Law) (h1 : ∀ r, G.rd r = F.rd r) (h2 : ∀ r, G.rd' r = F.rd' r) (h3 : ∀ a, G.fits a → G.wr a = F.wr a) (h4 : ∀ a, G.good a ↔ F.good a) (h5 : ∀ a, G.fits a → F.fits a) (h6 : ∀ a, G.good a → G.fits a) : G.Law where
  fault := by rw [h2]; exact h.fault
  flt r hr := by rw [h2]; exact h.flt r hr
  back pre y a hg := by rw [h3 a (h6 a hg), h1, h2]; exact h.back pre y a ((h4 a).1 hg)
  one r hb := by
    rw [h2] at hb ⊢
    have := h.one r hb
    rw [h1, h4, h3 _ (h6 _ ((h4 _).2 this.2.2.2))]
    exact this
  fit a hg := h6 a hg
  inj a b x y ha hb hx := by rw [h3 a ha, h3 b hb] at hx; exact h.inj a b x y (h5 a ha) (h5 b hb) hx
theorem JqG {α : Type} (F : Fmt α) : ∀ (l p : List α), repW (fun _ => F) p l = l.flatMap F.wr
  | [], _ => rfl
  | a :: l, p => by simp [repW, JqG F l]
theorem JiP {α : Type} (F : Fmt α) : ∀ (l p : List α), repG (fun _ => F) p l ↔ ∀ a ∈ l, F.good a
  | [], _ => by simp [repG]
  | a :: l, p => by simp [repG, JiP F l]
theorem JA1 {α : Type} (F : Fmt α) : ∀ (l p : List α), repT (fun _ => F) p l ↔ ∀ a ∈ l, F.fits a
  | [], _ => by simp [repT]
  | a :: l, p => by simp [repT, JA1 F l]
theorem JIr (r : Rd) : ∀ n, repR (fun _ => dgF) r n = (r.ds n, r.ds' n)
  | 0 => rfl
  | n + 1 => by simp only [repR, JIr r n]; rfl
theorem JIj (F : Fmt Req) (h1 : ∀ r, F.rd r = r.req) (h2 : ∀ r, F.rd' r = r.req') (r : Rd) : ∀ n, repR (fun _ => F) r n = (r.rq n, r.rq' n)
  | 0 => rfl
  | n + 1 => by simp only [repR, JIj F h1 h2 r n, h1, h2]; rfl
def Sig.Fits (s : Sig) : Prop := W64 s.leaf ∧ s.op.length = 32 ∧ s.sh.length = 32 ∧ s.path.length ≤ 6
def sigR : Fmt (Int × (Int × (List Dg × (List Dg × List Dg)))) :=
  seqF numF fun _ => seqF (inF 0 6) fun n => seqF (repF (fun _ => dgF) 32) fun _ => seqF (repF (fun _ => dgF) 32) fun _ => repF (fun _ => dgF) n.toNat
theorem JMp (n : Nat) : (repF (fun _ => dgF) n).Law := JJN (fun _ => Jvz) n
theorem JPv : sigR.Law := Jo Jxg fun _ => Jo (Jbj 0 6) fun n => Jo (JMp 32) fun _ => Jo (JMp 32) fun _ => JMp n.toNat
def sigM : Fmt Sig := zeroF (mapF sigR (fun x => ⟨x.1, x.2.2.1, x.2.2.2.1, x.2.2.2.2⟩) (fun s => (s.leaf, (s.path.length : Int), s.op, s.sh, s.path))) Sig.zero
theorem JPO : sigM.Law := Jhf _ (Jgs JPv (fun _ => rfl) (by
  rintro ⟨l, n, o, s, p⟩ ⟨_, ⟨_, h0, _⟩, _, _, h, _⟩
  have h1 : p.length = n.toNat := h
  have h2 : (0 : Int) ≤ n := h0
  have : (p.length : Int) = n := by omega
  show (l, (p.length : Int), o, s, p) = (l, n, o, s, p)
  rw [this]))
def sigF : Fmt Sig := ⟨Rd.sig, Rd.sig', Sig.bytes, Sig.Fits, Sig.Fits⟩
theorem JPq : sigF.Law := by
  have hrd' : ∀ r : Rd, r.sig' = sigM.rd' r := fun r => by
    unfold Rd.sig' Rd.s2 Rd.sN
    simp only [sigM, zeroF, mapF, sigR, seqF, repF, numF, inF, JIr]
  refine JPO.same (fun r => ?_) hrd' (fun s hs => ?_) (fun s => ?_) (fun s hs => ?_) (fun _ h => h)
  · have e : sigM.rd r = if (sigM.rd' r).bad = true then Sig.zero else r.sig0 := by
      unfold Rd.sig0 Rd.s2 Rd.sN
      simp only [sigM, zeroF, mapF, sigR, seqF, repF, numF, inF, JIr]
    rw [e, ← hrd']
    rfl
  · show s.bytes = be8 s.leaf ++ (be8 (s.path.length : Int) ++ (repW (fun _ => dgF) [] s.op ++ (repW (fun _ => dgF) [] s.sh ++ repW (fun _ => dgF) [] s.path)))
    simp only [JqG]
    simp [Sig.bytes, nums, flatD, dgF]
  · show s.Fits ↔ W64 s.leaf ∧ (W64 (s.path.length : Int) ∧ (0 : Int) ≤ s.path.length ∧ (s.path.length : Int) ≤ 6) ∧ (s.op.length = 32 ∧ repG (fun _ => dgF) [] s.op) ∧ (s.sh.length = 32 ∧ repG (fun _ => dgF) [] s.sh) ∧ (s.path.length = (s.path.length : Int).toNat ∧ repG (fun _ => dgF) [] s.path)
    simp only [JiP, Sig.Fits, W64]
    constructor
    · rintro ⟨h1, h2, h3, h4⟩
      exact ⟨h1, ⟨by omega, by omega, by omega⟩, ⟨h2, fun _ _ => trivial⟩, ⟨h3, fun _ _ => trivial⟩, by omega, fun _ _ => trivial⟩
    · rintro ⟨h1, ⟨_, _, h2⟩, ⟨h3, _⟩, ⟨h4, _⟩, _⟩
      exact ⟨h1, h3, h4, by omega⟩
  · obtain ⟨h1, h2, h3, h4⟩ := hs
    show W64 s.leaf ∧ W64 (s.path.length : Int) ∧ (s.op.length = 32 ∧ repT (fun _ => dgF) [] s.op) ∧ (s.sh.length = 32 ∧ repT (fun _ => dgF) [] s.sh) ∧ (s.path.length = (s.path.length : Int).toNat ∧ repT (fun _ => dgF) [] s.path)
    simp only [JA1]
    exact ⟨h1, by unfold W64; omega, ⟨h2, fun _ _ => trivial⟩, ⟨h3, fun _ _ => trivial⟩, by omega, fun _ _ => trivial⟩
def reqR : Fmt (Int × Int × Int × Bytes × Bytes × Bytes × Int × Int × Int × Int × Dg) :=
  seqF (inF 1 64) fun _ => seqF (inF 1 1099511627776) fun _ => seqF (inF 1 7) fun _ => seqF (textF 1024) fun _ => seqF (textF 1024) fun _ => seqF (textF 1024) fun _ => seqF numF fun _ => seqF numF fun _ => seqF numF fun _ => seqF numF fun _ => dgF
theorem JPm : reqR.Law := Jo (Jbj _ _) fun _ => Jo (Jbj _ _) fun _ => Jo (Jbj _ _) fun _ => Jo (JEe _) fun _ => Jo (JEe _) fun _ => Jo (JEe _) fun _ => Jo Jxg fun _ => Jo Jxg fun _ => Jo Jxg fun _ => Jo Jxg fun _ => Jvz
def reqM : Fmt Req := zeroF (mapF reqR (fun x => ⟨x.1, x.2.1, x.2.2.1, x.2.2.2.1, x.2.2.2.2.1, x.2.2.2.2.2.1, ⟨x.2.2.2.2.2.2.1, x.2.2.2.2.2.2.2.1, x.2.2.2.2.2.2.2.2.1, x.2.2.2.2.2.2.2.2.2.2, x.2.2.2.2.2.2.2.2.2.1⟩⟩)
  (fun q => (q.client, q.num, q.kind, q.key, q.val, q.old, q.ch.kind, q.ch.id, q.ch.new, q.ch.height, q.ch.root))) Req.zero
theorem JPp : reqM.Law := Jhf _ (Jgs JPm (fun _ => rfl) (fun _ _ => rfl))
def reqF : Fmt Req := ⟨Rd.req, Rd.req', Req.bytes, fun q => q.Fits ∧ q.good = true, Req.Fits⟩
theorem JPu : reqF.Law := by
  refine JPp.same (fun _ => rfl) (fun _ => rfl) (fun q hq => ?_) (fun q => ?_) (fun q hq => ?_) (fun _ h => h.1)
  · have := Req.bytes_eq q []
    rw [List.append_nil, List.append_nil] at this
    exact this
  · show (q.Fits ∧ q.good = true) ↔ (W64 q.client ∧ 1 ≤ q.client ∧ q.client ≤ 64) ∧ (W64 q.num ∧ 1 ≤ q.num ∧ q.num ≤ 1099511627776) ∧ (W64 q.kind ∧ 1 ≤ q.kind ∧ q.kind ≤ 7) ∧ (q.key.length < 4294967296 ∧ (q.key.length : Int) ≤ 1024) ∧ (q.val.length < 4294967296 ∧ (q.val.length : Int) ≤ 1024) ∧ (q.old.length < 4294967296 ∧ (q.old.length : Int) ≤ 1024) ∧
      W64 q.ch.kind ∧ W64 q.ch.id ∧ W64 q.ch.new ∧ W64 q.ch.height ∧ True
    simp only [Req.good, Bool.and_eq_true, decide_eq_true_eq]
    constructor
    · rintro ⟨hf, ⟨⟨⟨⟨⟨g1, g2⟩, g3⟩, g4⟩, g5⟩, g6⟩, ⟨g7, g8⟩, g9⟩
      exact ⟨⟨hf.client, g1, g2⟩, ⟨hf.num, g3, g4⟩, ⟨hf.kind, g5, g6⟩, ⟨hf.key, by omega⟩, ⟨hf.val, by omega⟩, ⟨hf.old, by omega⟩, hf.ckind, hf.cid, hf.cnew, hf.cheight, trivial⟩
    · rintro ⟨⟨f1, g1, g2⟩, ⟨f2, g3, g4⟩, ⟨f3, g5, g6⟩, ⟨f4, g7⟩, ⟨f5, g8⟩, ⟨f6, g9⟩, f7, f8, f9, f10, _⟩
      exact ⟨⟨f1, f2, f3, f7, f8, f9, f10, f4, f5, f6⟩, ⟨⟨⟨⟨⟨g1, g2⟩, g3⟩, g4⟩, g5⟩, g6⟩, ⟨by omega, by omega⟩, by omega⟩
  · exact ⟨hq.client, hq.num, hq.kind, hq.key, hq.val, hq.old, hq.ckind, hq.cid, hq.cnew, hq.cheight, trivial⟩
def blkR : Fmt (Int × Int × Dg × Dg × Dg × List Req) := seqF (inF 0 1073741824) fun _ => seqF (inF 1 1024) fun _ => seqF dgF fun _ => seqF dgF fun _ => seqF dgF fun _ => cntF 0 8 (fun _ => reqF)
theorem JOY : blkR.Law := Jo (Jbj _ _) fun _ => Jo (Jbj _ _) fun _ => Jo Jvz fun _ => Jo Jvz fun _ => Jo Jvz fun _ => JFV (by omega) (fun _ => JPu)
def blkM : Fmt Blk := zeroF (mapF blkR (fun x => ⟨x.1, x.2.1, x.2.2.1, x.2.2.2.1, x.2.2.2.2.1, x.2.2.2.2.2⟩) (fun b => (b.epoch, b.height, b.prev, b.state, b.next, b.qs))) Blk.zero
theorem JOT : blkM.Law := Jhf _ (Jgs JOY (fun _ => rfl) (fun _ _ => rfl))
def blkF : Fmt Blk := ⟨Rd.blk, Rd.blk', Blk.bytes, fun b => b.Fits ∧ b.good = true, Blk.Fits⟩
theorem JPK : blkF.Law := by
  have hrd' : ∀ r : Rd, r.blk' = blkM.rd' r := fun r => by
    show _ = (repR (fun _ => reqF) r.b6 r.blkN).2
    rw [JIj reqF (fun _ => rfl) (fun _ => rfl)]; rfl
  refine JOT.same (fun r => ?_) hrd' (fun b hb => ?_) (fun b => ?_) (fun b hb => ?_) (fun _ h => h.1)
  · show r.blk = if (blkM.rd' r).bad = true then Blk.zero else _
    rw [← hrd']
    unfold Rd.blk
    congr 1
    show r.blk0 = ⟨r.inn 0 1073741824, r.b1.inn 1 1024, r.b2.dg, r.b3.dg, r.b4.dg, (repR (fun _ => reqF) r.b6 r.blkN).1⟩
    rw [JIj reqF (fun _ => rfl) (fun _ => rfl)]; rfl
  · show b.bytes = be8 b.epoch ++ (be8 b.height ++ (b.prev.bs ++ (b.state.bs ++ (b.next.bs ++ (be8 (b.qs.length : Int) ++ repW (fun _ => reqF) [] b.qs)))))
    rw [JqG]
    have := Blk.bytes_eq b []
    simp only [List.append_nil] at this
    rw [this]
    rfl
  · show (b.Fits ∧ b.good = true) ↔ (W64 b.epoch ∧ 0 ≤ b.epoch ∧ b.epoch ≤ 1073741824) ∧ (W64 b.height ∧ 1 ≤ b.height ∧ b.height ≤ 1024) ∧ True ∧ True ∧ True ∧ (W64 (b.qs.length : Int) ∧ (0 : Int) ≤ b.qs.length ∧ (b.qs.length : Int) ≤ 8) ∧ (b.qs.length = (b.qs.length : Int).toNat ∧ repG (fun _ => reqF) [] b.qs)
    rw [JiP]
    simp only [Blk.good, Bool.and_eq_true, decide_eq_true_eq, List.all_eq_true]
    constructor
    · rintro ⟨hf, ⟨⟨⟨⟨g1, g2⟩, g3⟩, g4⟩, g5⟩, g6⟩
      exact ⟨⟨hf.epoch, g1, g2⟩, ⟨hf.height, g3, g4⟩, trivial, trivial, trivial, ⟨JNv hf.len, by omega, by omega⟩, by omega, fun q hq => ⟨hf.qs q hq, g6 q hq⟩⟩
    · rintro ⟨⟨f1, g1, g2⟩, ⟨f2, g3, g4⟩, _, _, _, ⟨_, _, g5⟩, _, g6⟩
      exact ⟨⟨f1, f2, by omega, fun q hq => (g6 q hq).1⟩, ⟨⟨⟨⟨g1, g2⟩, g3⟩, g4⟩, by omega⟩, fun q hq => (g6 q hq).2⟩
  · show W64 b.epoch ∧ W64 b.height ∧ True ∧ True ∧ True ∧ W64 (b.qs.length : Int) ∧ (b.qs.length = (b.qs.length : Int).toNat ∧ repT (fun _ => reqF) [] b.qs)
    rw [JA1]
    exact ⟨hb.epoch, hb.height, trivial, trivial, trivial, JNv hb.len, by omega, hb.qs⟩
section
attribute [local irreducible] Rd.sig Rd.sig' Rd.blk Rd.blk' Rd.inn Rd.inn' Rd.dg Rd.dg' repR
structure Vote where
  kind : Int
  epoch : Int
  height : Int
  round : Int
  dg : Dg
  src : Int
  sig : Sig
def Vote.zero : Vote := ⟨0, 0, 0, 0, Dg.zero, 0, Sig.zero⟩
def voteR : Fmt (Int × Int × Int × Int × Int × Dg × Sig) := seqF (inF 1 2) fun _ => seqF (inF 0 1073741824) fun _ => seqF (inF 1 1024) fun _ => seqF (inF 0 1024) fun _ => seqF (inF 1 63) fun _ => seqF dgF fun _ => sigF
theorem JNo : voteR.Law := Jo (Jbj _ _) fun _ => Jo (Jbj _ _) fun _ => Jo (Jbj _ _) fun _ => Jo (Jbj _ _) fun _ => Jo (Jbj _ _) fun _ => Jo Jvz fun _ => JPq
def voteF : Fmt Vote := zeroF (mapF voteR (fun x => ⟨x.1, x.2.1, x.2.2.1, x.2.2.2.1, x.2.2.2.2.2.1, x.2.2.2.2.1, x.2.2.2.2.2.2⟩) (fun v => (v.kind, v.epoch, v.height, v.round, v.src, v.dg, v.sig))) Vote.zero
theorem JDM : voteF.Law := Jhf _ (Jgs JNo (fun _ => rfl) (fun _ _ => rfl))
theorem JG9 (r : Rd) : voteF.rd' r = ((((((r.inn' 1 2).inn' 0 1073741824).inn' 1 1024).inn' 0 1024).inn' 1 63).dg').sig' := rfl
theorem JFr (r : Rd) : voteF.rd r = if (voteF.rd' r).bad = true then Vote.zero else
    ⟨r.inn 1 2, (r.inn' 1 2).inn 0 1073741824, ((r.inn' 1 2).inn' 0 1073741824).inn 1 1024, (((r.inn' 1 2).inn' 0 1073741824).inn' 1 1024).inn 0 1024, (((((r.inn' 1 2).inn' 0 1073741824).inn' 1 1024).inn' 0 1024).inn' 1 63).dg,
      ((((r.inn' 1 2).inn' 0 1073741824).inn' 1 1024).inn' 0 1024).inn 1 63, ((((((r.inn' 1 2).inn' 0 1073741824).inn' 1 1024).inn' 0 1024).inn' 1 63).dg').sig⟩ := rfl
def Vote.head (v : Vote) : Bytes := nums [v.kind, v.epoch, v.height, v.round, v.src] ++ v.dg.bs
theorem JDe (v : Vote) : voteF.wr v = v.head ++ v.sig.bytes := by
  show be8 v.kind ++ (be8 v.epoch ++ (be8 v.height ++ (be8 v.round ++ (be8 v.src ++ (v.dg.bs ++ v.sig.bytes))))) = _
  simp [Vote.head, nums]
def Vote.good (v : Vote) : Bool := decide (1 ≤ v.kind) && decide (v.kind ≤ 2) && decide (0 ≤ v.epoch) && decide (v.epoch ≤ 1073741824) && decide (1 ≤ v.height) && decide (v.height ≤ 1024) && decide (0 ≤ v.round) && decide (v.round ≤ 1024) && decide (1 ≤ v.src) && decide (v.src ≤ 63)
structure Plan where
  epoch : Int
  height : Int
  round : Int
  valid : Int
  blk : Blk
  src : Int
  sig : Sig
def Plan.zero : Plan := ⟨0, 0, 0, 0, Blk.zero, 0, Sig.zero⟩
def planR : Fmt (Int × Int × Int × Int × Int × Blk × Sig) := seqF (inF 0 1073741824) fun _ => seqF (inF 1 1024) fun _ => seqF (inF 0 1024) fun n => seqF (inF (-1) (n - 1)) fun _ => seqF (inF 1 63) fun _ => seqF blkF fun _ => sigF
def planF : Fmt Plan := zeroF (mapF planR (fun x => ⟨x.1, x.2.1, x.2.2.1, x.2.2.2.1, x.2.2.2.2.2.1, x.2.2.2.2.1, x.2.2.2.2.2.2⟩) (fun p => (p.epoch, p.height, p.round, p.valid, p.src, p.blk, p.sig))) Plan.zero
def Plan.head (p : Plan) : Bytes := nums [p.epoch, p.height, p.round, p.valid, p.src] ++ p.blk.bytes
structure Mem where
  id : Int
  root : Dg
  height : Int
structure Conf where
  epoch : Int
  ms : List Mem
def Conf.zero : Conf := ⟨0, []⟩
def lastId (l : List Mem) : Int := match l.getLast? with
  | some m => m.id
  | none => 0
@[simp] theorem JMb : lastId [] = 0 := (rfl)
@[simp] theorem JvA (l : List Mem) (m : Mem) : lastId (l ++ [m]) = m.id := by simp [lastId]
def memF (l : List Mem) : Fmt Mem := mapF (seqF (inF (lastId l + 1) 63) fun _ => seqF (inF 0 6) fun _ => dgF) (fun x => ⟨x.1, x.2.2, x.2.1⟩) (fun m => (m.id, m.height, m.root))
theorem JOX (l : List Mem) : (memF l).Law := Jgs (Jo (Jbj _ _) fun _ => Jo (Jbj _ _) fun _ => Jvz) (fun _ => rfl) (fun _ _ => rfl)
def confF : Fmt Conf := zeroF (mapF (seqF (inF 0 1073741824) fun _ => cntF 1 10 memF) (fun x => ⟨x.1, x.2⟩) (fun c => (c.epoch, c.ms))) Conf.zero
theorem JNU : confF.Law := Jhf _ (Jgs (Jo (Jbj _ _) fun _ => JFV (by omega) JOX) (fun _ => rfl) (fun _ _ => rfl))
def Rd.confN (r : Rd) : Nat := ((r.inn' 0 1073741824).inn 1 10).toNat
theorem JH1 (r : Rd) : confF.rd' r = (repR memF ((r.inn' 0 1073741824).inn' 1 10) r.confN).2 := rfl
theorem JFE (r : Rd) : confF.rd r = if (confF.rd' r).bad = true then Conf.zero else ⟨r.inn 0 1073741824, (repR memF ((r.inn' 0 1073741824).inn' 1 10) r.confN).1⟩ := rfl
def memB (m : Mem) : Bytes := nums [m.id, m.height] ++ m.root.bs
def memsB (ms : List Mem) : Bytes := ms.flatMap memB
theorem JJ5 : ∀ (ms l : List Mem), repW memF l ms = memsB ms
  | [], _ => rfl
  | m :: ms, l => by
    show (be8 m.id ++ (be8 m.height ++ m.root.bs)) ++ repW memF (l ++ [m]) ms = memsB (m :: ms)
    rw [JJ5 ms]
    simp [memsB, memB, nums]
def Conf.bytes (c : Conf) : Bytes := nums [c.epoch, (c.ms.length : Int)] ++ memsB c.ms
theorem JPi (c : Conf) : confF.wr c = c.bytes := by
  show be8 c.epoch ++ (be8 (c.ms.length : Int) ++ repW memF [] c.ms) = _
  rw [JJ5]
  simp [Conf.bytes, nums]
structure Cert where
  round : Int
  votes : List Vote
def Cert.zero : Cert := ⟨0, []⟩
def certF : Fmt Cert := zeroF (mapF (seqF (inF 0 1024) fun _ => cntF 1 10 (fun _ => voteF)) (fun x => ⟨x.1, x.2⟩) (fun c => (c.round, c.votes))) Cert.zero
theorem JMH : certF.Law := Jhf _ (Jgs (Jo (Jbj _ _) fun _ => JFV (by omega) (fun _ => JDM)) (fun _ => rfl) (fun _ _ => rfl))
def Rd.certN (r : Rd) : Nat := ((r.inn' 0 1024).inn 1 10).toNat
theorem JGg (r : Rd) : certF.rd' r = (repR (fun _ => voteF) ((r.inn' 0 1024).inn' 1 10) r.certN).2 := rfl
theorem JFH (r : Rd) : certF.rd r = if (certF.rd' r).bad = true then Cert.zero else ⟨r.inn 0 1024, (repR (fun _ => voteF) ((r.inn' 0 1024).inn' 1 10) r.certN).1⟩ := rfl
def votesB (vs : List Vote) : Bytes := vs.flatMap voteF.wr
theorem JEk (vs : List Vote) (v : Vote) : votesB (vs ++ [v]) = votesB vs ++ voteF.wr v := by simp [votesB]
def Cert.bytes (c : Cert) : Bytes := nums [c.round, (c.votes.length : Int)] ++ votesB c.votes
theorem JPC (c : Cert) : certF.wr c = c.bytes := by
  show be8 c.round ++ (be8 (c.votes.length : Int) ++ repW (fun _ => voteF) [] c.votes) = _
  rw [JqG]
  simp [Cert.bytes, nums, votesB]
def Cert.ok (c : Cert) : Bool := c.votes.all fun v => v.sig.ok
structure Lnk where
  blk : Blk
  cert : Cert
  conf : Conf
def Lnk.zero : Lnk := ⟨Blk.zero, Cert.zero, Conf.zero⟩
def linkF : Fmt Lnk := zeroF (mapF (seqF blkF fun _ => seqF certF fun _ => confF) (fun x => ⟨x.1, x.2.1, x.2.2⟩) (fun l => (l.blk, l.cert, l.conf))) Lnk.zero
theorem JM1 : linkF.Law := Jhf _ (Jgs (Jo JPK fun _ => Jo JMH fun _ => JNU) (fun _ => rfl) (fun _ _ => rfl))
theorem JG0 (r : Rd) : linkF.rd' r = confF.rd' (certF.rd' r.blk') := rfl
theorem JFw (r : Rd) : linkF.rd r = if (linkF.rd' r).bad = true then Lnk.zero else ⟨r.blk, certF.rd r.blk', confF.rd (certF.rd' r.blk')⟩ := rfl
theorem JFu (l : Lnk) : linkF.wr l = l.blk.bytes ++ (l.cert.bytes ++ l.conf.bytes) := by
  show l.blk.bytes ++ (certF.wr l.cert ++ confF.wr l.conf) = _
  rw [JPC, JPi]
end
@[simp] theorem Sig.avS_closed (q : Sig) : closed (Sig.avS q) = true := by simp [Sig.avS]
@[simp] theorem Sig.avS_solid (q : Sig) : (Sig.avS q).solid = true := by simp [Sig.avS]
@[simp] theorem Sig.avS_agg (q : Sig) : (Sig.avS q).isAgg = true := by simp [Sig.avS]
@[simp] theorem Sig.avS_size (q : Sig) : (Sig.avS q).size = 4 := by simp [Sig.avS]
@[simp] theorem Sig.avS_sub (q : Sig) : sub true 4 (Sig.avS q) 0 = some (Sig.avS q) := by simp [Sig.avS]
@[simp] theorem Sig.avS_good {M : List (Nat × Loc)} (q : Sig) : goodA false M (Sig.avS q) = true := JD (Sig.avS_closed q)
@[simp] theorem Sig.avS_pairs (q : Sig) : pairsA (Sig.avS q) (Sig.avS q) = [] := JA (Sig.avS_closed q)
@[simp] theorem Sig.avS_ren {L : Names} {nb gn : Nat} (q : Sig) : renA L nb gn (Sig.avS q) = Sig.avS q := JM (Sig.avS_closed q)
@[simp] theorem Sig.avS_fit {m : Nat → Option Loc} {L : Names} (q : Sig) : Fit m L (Sig.avS q) (Sig.avS q) = True := JU (Sig.avS_closed q)
@[simp] theorem Sig.avS_fitR {m : Nat → Option Loc} {L : Names} (q : Sig) : FitR m L (Sig.avS q) (Sig.avS q) = True := JN (Sig.avS_closed q)
@[simp] theorem Sig.avS_touch {m : Nat → Option Loc} (q : Sig) : touch m (Sig.avS q) (Sig.avS q) = [] := JF (Sig.avS_closed q)
@[simp] theorem Sig.avS_touchR {m : Nat → Option Loc} (q : Sig) : touchR m (Sig.avS q) (Sig.avS q) = [] := Jz (Sig.avS_closed q)
@[simp] theorem Sig.avS_stamped {U : Nat → Prop} (q : Sig) : Stamped U (Sig.avS q) = True := Jw (Sig.avS_closed q)
@[simp] theorem Sig.avS_tup (q : Sig) : (Sig.avS q).isTup = false := JE (Sig.avS_closed q)
@[simp] theorem Sig.avS_ref (q : Sig) : refOf (Sig.avS q) = none := JG (Sig.avS_closed q)
@[simp] theorem Sig.avS_put (q : Sig) (x : AV) : putAt true 4 x (Sig.avS q) 0 = some x := by simp [Sig.avS]
@[simp] theorem Blk.avS_closed (q : Blk) : closed (Blk.avS q) = true := by simp [Blk.avS]
@[simp] theorem Blk.avS_solid (q : Blk) : (Blk.avS q).solid = true := by simp [Blk.avS]
@[simp] theorem Blk.avS_agg (q : Blk) : (Blk.avS q).isAgg = true := by simp [Blk.avS]
@[simp] theorem Blk.avS_size (q : Blk) : (Blk.avS q).size = 99 := by simp [Blk.avS]
@[simp] theorem Blk.avS_sub (q : Blk) : sub true 99 (Blk.avS q) 0 = some (Blk.avS q) := by simp [Blk.avS]
@[simp] theorem Blk.avS_good {M : List (Nat × Loc)} (q : Blk) : goodA false M (Blk.avS q) = true := JD (Blk.avS_closed q)
@[simp] theorem Blk.avS_pairs (q : Blk) : pairsA (Blk.avS q) (Blk.avS q) = [] := JA (Blk.avS_closed q)
@[simp] theorem Blk.avS_ren {L : Names} {nb gn : Nat} (q : Blk) : renA L nb gn (Blk.avS q) = Blk.avS q := JM (Blk.avS_closed q)
@[simp] theorem Blk.avS_fit {m : Nat → Option Loc} {L : Names} (q : Blk) : Fit m L (Blk.avS q) (Blk.avS q) = True := JU (Blk.avS_closed q)
@[simp] theorem Blk.avS_fitR {m : Nat → Option Loc} {L : Names} (q : Blk) : FitR m L (Blk.avS q) (Blk.avS q) = True := JN (Blk.avS_closed q)
@[simp] theorem Blk.avS_touch {m : Nat → Option Loc} (q : Blk) : touch m (Blk.avS q) (Blk.avS q) = [] := JF (Blk.avS_closed q)
@[simp] theorem Blk.avS_touchR {m : Nat → Option Loc} (q : Blk) : touchR m (Blk.avS q) (Blk.avS q) = [] := Jz (Blk.avS_closed q)
@[simp] theorem Blk.avS_stamped {U : Nat → Prop} (q : Blk) : Stamped U (Blk.avS q) = True := Jw (Blk.avS_closed q)
@[simp] theorem Blk.avS_tup (q : Blk) : (Blk.avS q).isTup = false := JE (Blk.avS_closed q)
@[simp] theorem Blk.avS_ref (q : Blk) : refOf (Blk.avS q) = none := JG (Blk.avS_closed q)
@[simp] theorem Blk.avS_put (q : Blk) (x : AV) : putAt true 99 x (Blk.avS q) 0 = some x := by simp [Blk.avS]
@[simp] theorem Rep.avS_closed (q : Rep) : closed (Rep.avS q) = true := by simp [Rep.avS]
@[simp] theorem Rep.avS_solid (q : Rep) : (Rep.avS q).solid = true := by simp [Rep.avS]
@[simp] theorem Rep.avS_agg (q : Rep) : (Rep.avS q).isAgg = true := by simp [Rep.avS]
@[simp] theorem Rep.avS_size (q : Rep) : (Rep.avS q).size = 4 := by simp [Rep.avS]
@[simp] theorem Rep.avS_sub (q : Rep) : sub true 4 (Rep.avS q) 0 = some (Rep.avS q) := by simp [Rep.avS]
@[simp] theorem Rep.avS_good {M : List (Nat × Loc)} (q : Rep) : goodA false M (Rep.avS q) = true := JD (Rep.avS_closed q)
@[simp] theorem Rep.avS_pairs (q : Rep) : pairsA (Rep.avS q) (Rep.avS q) = [] := JA (Rep.avS_closed q)
@[simp] theorem Rep.avS_ren {L : Names} {nb gn : Nat} (q : Rep) : renA L nb gn (Rep.avS q) = Rep.avS q := JM (Rep.avS_closed q)
@[simp] theorem Rep.avS_fit {m : Nat → Option Loc} {L : Names} (q : Rep) : Fit m L (Rep.avS q) (Rep.avS q) = True := JU (Rep.avS_closed q)
@[simp] theorem Rep.avS_fitR {m : Nat → Option Loc} {L : Names} (q : Rep) : FitR m L (Rep.avS q) (Rep.avS q) = True := JN (Rep.avS_closed q)
@[simp] theorem Rep.avS_touch {m : Nat → Option Loc} (q : Rep) : touch m (Rep.avS q) (Rep.avS q) = [] := JF (Rep.avS_closed q)
@[simp] theorem Rep.avS_touchR {m : Nat → Option Loc} (q : Rep) : touchR m (Rep.avS q) (Rep.avS q) = [] := Jz (Rep.avS_closed q)
@[simp] theorem Rep.avS_stamped {U : Nat → Prop} (q : Rep) : Stamped U (Rep.avS q) = True := Jw (Rep.avS_closed q)
@[simp] theorem Rep.avS_tup (q : Rep) : (Rep.avS q).isTup = false := JE (Rep.avS_closed q)
@[simp] theorem Rep.avS_ref (q : Rep) : refOf (Rep.avS q) = none := JG (Rep.avS_closed q)
@[simp] theorem Rep.avS_put (q : Rep) (x : AV) : putAt true 4 x (Rep.avS q) 0 = some x := by simp [Rep.avS]
@[simp] theorem Req.av_good {M : List (Nat × Loc)} (q : Req) : goodA false M (Req.av q) = true := JD (Req.av_closed q)
@[simp] theorem Req.av_pairs (q : Req) : pairsA (Req.av q) (Req.av q) = [] := JA (Req.av_closed q)
@[simp] theorem Req.av_ren {L : Names} {nb gn : Nat} (q : Req) : renA L nb gn (Req.av q) = Req.av q := JM (Req.av_closed q)
@[simp] theorem Req.av_fit {m : Nat → Option Loc} {L : Names} (q : Req) : Fit m L (Req.av q) (Req.av q) = True := JU (Req.av_closed q)
@[simp] theorem Req.av_fitR {m : Nat → Option Loc} {L : Names} (q : Req) : FitR m L (Req.av q) (Req.av q) = True := JN (Req.av_closed q)
@[simp] theorem Req.av_touch {m : Nat → Option Loc} (q : Req) : touch m (Req.av q) (Req.av q) = [] := JF (Req.av_closed q)
@[simp] theorem Req.av_touchR {m : Nat → Option Loc} (q : Req) : touchR m (Req.av q) (Req.av q) = [] := Jz (Req.av_closed q)
@[simp] theorem Req.av_stamped {U : Nat → Prop} (q : Req) : Stamped U (Req.av q) = True := Jw (Req.av_closed q)
@[simp] theorem Req.av_tup (q : Req) : (Req.av q).isTup = false := JE (Req.av_closed q)
@[simp] theorem Req.av_ref (q : Req) : refOf (Req.av q) = none := JG (Req.av_closed q)
@[simp] theorem Req.av_put (q : Req) (x : AV) : putAt true 42 x (Req.av q) 0 = some x := by simp [Req.av, Chg.av]
def Vote.av (v : Vote) : AV := .node [.v (.int .i64 v.kind), .v (.int .i64 v.epoch), .v (.int .i64 v.height), .v (.int .i64 v.round), dv v.dg, .v (.int .i64 v.src), v.sig.avS]
@[simp] theorem Vote.av_closed (q : Vote) : closed (Vote.av q) = true := by simp [Vote.av]
@[simp] theorem Vote.av_solid (q : Vote) : (Vote.av q).solid = true := by simp [Vote.av]
@[simp] theorem Vote.av_agg (q : Vote) : (Vote.av q).isAgg = true := by simp [Vote.av]
@[simp] theorem Vote.av_size (q : Vote) : (Vote.av q).size = 41 := by simp [Vote.av]
@[simp] theorem Vote.av_sub (q : Vote) : sub true 41 (Vote.av q) 0 = some (Vote.av q) := by simp [Vote.av]
@[simp] theorem Vote.av_good {M : List (Nat × Loc)} (q : Vote) : goodA false M (Vote.av q) = true := JD (Vote.av_closed q)
@[simp] theorem Vote.av_pairs (q : Vote) : pairsA (Vote.av q) (Vote.av q) = [] := JA (Vote.av_closed q)
@[simp] theorem Vote.av_ren {L : Names} {nb gn : Nat} (q : Vote) : renA L nb gn (Vote.av q) = Vote.av q := JM (Vote.av_closed q)
@[simp] theorem Vote.av_fit {m : Nat → Option Loc} {L : Names} (q : Vote) : Fit m L (Vote.av q) (Vote.av q) = True := JU (Vote.av_closed q)
@[simp] theorem Vote.av_fitR {m : Nat → Option Loc} {L : Names} (q : Vote) : FitR m L (Vote.av q) (Vote.av q) = True := JN (Vote.av_closed q)
@[simp] theorem Vote.av_touch {m : Nat → Option Loc} (q : Vote) : touch m (Vote.av q) (Vote.av q) = [] := JF (Vote.av_closed q)
@[simp] theorem Vote.av_touchR {m : Nat → Option Loc} (q : Vote) : touchR m (Vote.av q) (Vote.av q) = [] := Jz (Vote.av_closed q)
@[simp] theorem Vote.av_stamped {U : Nat → Prop} (q : Vote) : Stamped U (Vote.av q) = True := Jw (Vote.av_closed q)
@[simp] theorem Vote.av_tup (q : Vote) : (Vote.av q).isTup = false := JE (Vote.av_closed q)
@[simp] theorem Vote.av_ref (q : Vote) : refOf (Vote.av q) = none := JG (Vote.av_closed q)
@[simp] theorem Vote.av_put (q : Vote) (x : AV) : putAt true 41 x (Vote.av q) 0 = some x := by simp [Vote.av]
def Votes (l : List Vote) : List AV := l.map Vote.av
@[simp] theorem JQu (l : List Vote) : (Votes l).length = l.length := by simp [Votes]
@[simp] theorem JQR (l : List Vote) : closeds (Votes l) = true := by simp [Votes, closeds_all]
@[simp] theorem JVe (n : Nat) (l : List Vote) : (Votes l)[n]? = (l[n]?).map Vote.av := by simp [Votes]
@[simp] theorem JPy (n : Nat) (l : List Vote) (h : n < (Votes l).length) : (Votes l)[n] = Vote.av (l[n]'(by simpa [Votes] using h)) := by simp [Votes]
@[simp] theorem JQL (a b : List Vote) : Votes a ++ Votes b = Votes (a ++ b) := by simp [Votes]
@[simp] theorem JTn (n : Nat) (a : List Vote) : (Votes a).drop n = Votes (a.drop n) := by simp [Votes]
@[simp] theorem JTm (n : Nat) (a : List Vote) : (Votes a).take n = Votes (a.take n) := by simp [Votes]
@[simp] theorem JVp : Votes [] = [] := (rfl)
theorem JE6 (l : List Vote) (a : Vote) : Votes l ++ [Vote.av a] = Votes (l ++ [a]) := by simp [Votes]
def Plan.av (p : Plan) : AV := .node [.v (.int .i64 p.epoch), .v (.int .i64 p.height), .v (.int .i64 p.round), .v (.int .i64 p.valid), p.blk.avS, .v (.int .i64 p.src), p.sig.avS]
@[simp] theorem Plan.av_closed (q : Plan) : closed (Plan.av q) = true := by simp [Plan.av]
@[simp] theorem Plan.av_solid (q : Plan) : (Plan.av q).solid = true := by simp [Plan.av]
@[simp] theorem Plan.av_agg (q : Plan) : (Plan.av q).isAgg = true := by simp [Plan.av]
@[simp] theorem Plan.av_size (q : Plan) : (Plan.av q).size = 108 := by simp [Plan.av]
@[simp] theorem Plan.av_sub (q : Plan) : sub true 108 (Plan.av q) 0 = some (Plan.av q) := by simp [Plan.av]
@[simp] theorem Plan.av_good {M : List (Nat × Loc)} (q : Plan) : goodA false M (Plan.av q) = true := JD (Plan.av_closed q)
@[simp] theorem Plan.av_pairs (q : Plan) : pairsA (Plan.av q) (Plan.av q) = [] := JA (Plan.av_closed q)
@[simp] theorem Plan.av_ren {L : Names} {nb gn : Nat} (q : Plan) : renA L nb gn (Plan.av q) = Plan.av q := JM (Plan.av_closed q)
@[simp] theorem Plan.av_fit {m : Nat → Option Loc} {L : Names} (q : Plan) : Fit m L (Plan.av q) (Plan.av q) = True := JU (Plan.av_closed q)
@[simp] theorem Plan.av_fitR {m : Nat → Option Loc} {L : Names} (q : Plan) : FitR m L (Plan.av q) (Plan.av q) = True := JN (Plan.av_closed q)
@[simp] theorem Plan.av_touch {m : Nat → Option Loc} (q : Plan) : touch m (Plan.av q) (Plan.av q) = [] := JF (Plan.av_closed q)
@[simp] theorem Plan.av_touchR {m : Nat → Option Loc} (q : Plan) : touchR m (Plan.av q) (Plan.av q) = [] := Jz (Plan.av_closed q)
@[simp] theorem Plan.av_stamped {U : Nat → Prop} (q : Plan) : Stamped U (Plan.av q) = True := Jw (Plan.av_closed q)
@[simp] theorem Plan.av_tup (q : Plan) : (Plan.av q).isTup = false := JE (Plan.av_closed q)
@[simp] theorem Plan.av_ref (q : Plan) : refOf (Plan.av q) = none := JG (Plan.av_closed q)
@[simp] theorem Plan.av_put (q : Plan) (x : AV) : putAt true 108 x (Plan.av q) 0 = some x := by simp [Plan.av]
def Mem.av (m : Mem) : AV := .node [.v (.int .i64 m.id), .node [dv m.root, .v (.int .i64 m.height)]]
@[simp] theorem Mem.av_closed (q : Mem) : closed (Mem.av q) = true := by simp [Mem.av]
@[simp] theorem Mem.av_solid (q : Mem) : (Mem.av q).solid = true := by simp [Mem.av]
@[simp] theorem Mem.av_agg (q : Mem) : (Mem.av q).isAgg = true := by simp [Mem.av]
@[simp] theorem Mem.av_size (q : Mem) : (Mem.av q).size = 34 := by simp [Mem.av]
@[simp] theorem Mem.av_sub (q : Mem) : sub true 34 (Mem.av q) 0 = some (Mem.av q) := by simp [Mem.av]
@[simp] theorem Mem.av_good {M : List (Nat × Loc)} (q : Mem) : goodA false M (Mem.av q) = true := JD (Mem.av_closed q)
@[simp] theorem Mem.av_pairs (q : Mem) : pairsA (Mem.av q) (Mem.av q) = [] := JA (Mem.av_closed q)
@[simp] theorem Mem.av_ren {L : Names} {nb gn : Nat} (q : Mem) : renA L nb gn (Mem.av q) = Mem.av q := JM (Mem.av_closed q)
@[simp] theorem Mem.av_fit {m : Nat → Option Loc} {L : Names} (q : Mem) : Fit m L (Mem.av q) (Mem.av q) = True := JU (Mem.av_closed q)
@[simp] theorem Mem.av_fitR {m : Nat → Option Loc} {L : Names} (q : Mem) : FitR m L (Mem.av q) (Mem.av q) = True := JN (Mem.av_closed q)
@[simp] theorem Mem.av_touch {m : Nat → Option Loc} (q : Mem) : touch m (Mem.av q) (Mem.av q) = [] := JF (Mem.av_closed q)
@[simp] theorem Mem.av_touchR {m : Nat → Option Loc} (q : Mem) : touchR m (Mem.av q) (Mem.av q) = [] := Jz (Mem.av_closed q)
@[simp] theorem Mem.av_stamped {U : Nat → Prop} (q : Mem) : Stamped U (Mem.av q) = True := Jw (Mem.av_closed q)
@[simp] theorem Mem.av_tup (q : Mem) : (Mem.av q).isTup = false := JE (Mem.av_closed q)
@[simp] theorem Mem.av_ref (q : Mem) : refOf (Mem.av q) = none := JG (Mem.av_closed q)
@[simp] theorem Mem.av_put (q : Mem) (x : AV) : putAt true 34 x (Mem.av q) 0 = some x := by simp [Mem.av]
def Mems (l : List Mem) : List AV := l.map Mem.av
@[simp] theorem JRW (l : List Mem) : (Mems l).length = l.length := by simp [Mems]
@[simp] theorem JRc (l : List Mem) : closeds (Mems l) = true := by simp [Mems, closeds_all]
@[simp] theorem JWo (n : Nat) (l : List Mem) : (Mems l)[n]? = (l[n]?).map Mem.av := by simp [Mems]
@[simp] theorem JQK (n : Nat) (l : List Mem) (h : n < (Mems l).length) : (Mems l)[n] = Mem.av (l[n]'(by simpa [Mems] using h)) := by simp [Mems]
@[simp] theorem JQ5 (a b : List Mem) : Mems a ++ Mems b = Mems (a ++ b) := by simp [Mems]
@[simp] theorem JUW (n : Nat) (a : List Mem) : (Mems a).drop n = Mems (a.drop n) := by simp [Mems]
@[simp] theorem JUz (n : Nat) (a : List Mem) : (Mems a).take n = Mems (a.take n) := by simp [Mems]
@[simp] theorem JVs : Mems [] = [] := (rfl)
theorem JGI (l : List Mem) (a : Mem) : Mems l ++ [Mem.av a] = Mems (l ++ [a]) := by simp [Mems]
def Conf.av (c : Conf) : AV := .node [.v (.int .i64 c.epoch), .sl 34 (Mems c.ms)]
@[simp] theorem Conf.av_closed (q : Conf) : closed (Conf.av q) = true := by simp [Conf.av]
@[simp] theorem Conf.av_solid (q : Conf) : (Conf.av q).solid = true := by simp [Conf.av]
@[simp] theorem Conf.av_agg (q : Conf) : (Conf.av q).isAgg = true := by simp [Conf.av]
@[simp] theorem Conf.av_size (q : Conf) : (Conf.av q).size = 2 := by simp [Conf.av]
@[simp] theorem Conf.av_sub (q : Conf) : sub true 2 (Conf.av q) 0 = some (Conf.av q) := by simp [Conf.av]
@[simp] theorem Conf.av_good {M : List (Nat × Loc)} (q : Conf) : goodA false M (Conf.av q) = true := JD (Conf.av_closed q)
@[simp] theorem Conf.av_pairs (q : Conf) : pairsA (Conf.av q) (Conf.av q) = [] := JA (Conf.av_closed q)
@[simp] theorem Conf.av_ren {L : Names} {nb gn : Nat} (q : Conf) : renA L nb gn (Conf.av q) = Conf.av q := JM (Conf.av_closed q)
@[simp] theorem Conf.av_fit {m : Nat → Option Loc} {L : Names} (q : Conf) : Fit m L (Conf.av q) (Conf.av q) = True := JU (Conf.av_closed q)
@[simp] theorem Conf.av_fitR {m : Nat → Option Loc} {L : Names} (q : Conf) : FitR m L (Conf.av q) (Conf.av q) = True := JN (Conf.av_closed q)
@[simp] theorem Conf.av_touch {m : Nat → Option Loc} (q : Conf) : touch m (Conf.av q) (Conf.av q) = [] := JF (Conf.av_closed q)
@[simp] theorem Conf.av_touchR {m : Nat → Option Loc} (q : Conf) : touchR m (Conf.av q) (Conf.av q) = [] := Jz (Conf.av_closed q)
@[simp] theorem Conf.av_stamped {U : Nat → Prop} (q : Conf) : Stamped U (Conf.av q) = True := Jw (Conf.av_closed q)
@[simp] theorem Conf.av_tup (q : Conf) : (Conf.av q).isTup = false := JE (Conf.av_closed q)
@[simp] theorem Conf.av_ref (q : Conf) : refOf (Conf.av q) = none := JG (Conf.av_closed q)
@[simp] theorem Conf.av_put (q : Conf) (x : AV) : putAt true 2 x (Conf.av q) 0 = some x := by simp [Conf.av]
def Cert.av (c : Cert) : AV := .node [.v (.int .i64 c.round), .sl 41 (Votes c.votes)]
@[simp] theorem Cert.av_closed (q : Cert) : closed (Cert.av q) = true := by simp [Cert.av]
@[simp] theorem Cert.av_solid (q : Cert) : (Cert.av q).solid = true := by simp [Cert.av]
@[simp] theorem Cert.av_agg (q : Cert) : (Cert.av q).isAgg = true := by simp [Cert.av]
@[simp] theorem Cert.av_size (q : Cert) : (Cert.av q).size = 2 := by simp [Cert.av]
@[simp] theorem Cert.av_sub (q : Cert) : sub true 2 (Cert.av q) 0 = some (Cert.av q) := by simp [Cert.av]
@[simp] theorem Cert.av_good {M : List (Nat × Loc)} (q : Cert) : goodA false M (Cert.av q) = true := JD (Cert.av_closed q)
@[simp] theorem Cert.av_pairs (q : Cert) : pairsA (Cert.av q) (Cert.av q) = [] := JA (Cert.av_closed q)
@[simp] theorem Cert.av_ren {L : Names} {nb gn : Nat} (q : Cert) : renA L nb gn (Cert.av q) = Cert.av q := JM (Cert.av_closed q)
@[simp] theorem Cert.av_fit {m : Nat → Option Loc} {L : Names} (q : Cert) : Fit m L (Cert.av q) (Cert.av q) = True := JU (Cert.av_closed q)
@[simp] theorem Cert.av_fitR {m : Nat → Option Loc} {L : Names} (q : Cert) : FitR m L (Cert.av q) (Cert.av q) = True := JN (Cert.av_closed q)
@[simp] theorem Cert.av_touch {m : Nat → Option Loc} (q : Cert) : touch m (Cert.av q) (Cert.av q) = [] := JF (Cert.av_closed q)
@[simp] theorem Cert.av_touchR {m : Nat → Option Loc} (q : Cert) : touchR m (Cert.av q) (Cert.av q) = [] := Jz (Cert.av_closed q)
@[simp] theorem Cert.av_stamped {U : Nat → Prop} (q : Cert) : Stamped U (Cert.av q) = True := Jw (Cert.av_closed q)
@[simp] theorem Cert.av_tup (q : Cert) : (Cert.av q).isTup = false := JE (Cert.av_closed q)
@[simp] theorem Cert.av_ref (q : Cert) : refOf (Cert.av q) = none := JG (Cert.av_closed q)
@[simp] theorem Cert.av_put (q : Cert) (x : AV) : putAt true 2 x (Cert.av q) 0 = some x := by simp [Cert.av]
def Lnk.av (l : Lnk) : AV := .node [l.blk.avS, l.cert.av, l.conf.av]
@[simp] theorem Lnk.av_closed (q : Lnk) : closed (Lnk.av q) = true := by simp [Lnk.av]
@[simp] theorem Lnk.av_solid (q : Lnk) : (Lnk.av q).solid = true := by simp [Lnk.av]
@[simp] theorem Lnk.av_agg (q : Lnk) : (Lnk.av q).isAgg = true := by simp [Lnk.av]
@[simp] theorem Lnk.av_size (q : Lnk) : (Lnk.av q).size = 103 := by simp [Lnk.av]
@[simp] theorem Lnk.av_sub (q : Lnk) : sub true 103 (Lnk.av q) 0 = some (Lnk.av q) := by simp [Lnk.av]
@[simp] theorem Lnk.av_good {M : List (Nat × Loc)} (q : Lnk) : goodA false M (Lnk.av q) = true := JD (Lnk.av_closed q)
@[simp] theorem Lnk.av_pairs (q : Lnk) : pairsA (Lnk.av q) (Lnk.av q) = [] := JA (Lnk.av_closed q)
@[simp] theorem Lnk.av_ren {L : Names} {nb gn : Nat} (q : Lnk) : renA L nb gn (Lnk.av q) = Lnk.av q := JM (Lnk.av_closed q)
@[simp] theorem Lnk.av_fit {m : Nat → Option Loc} {L : Names} (q : Lnk) : Fit m L (Lnk.av q) (Lnk.av q) = True := JU (Lnk.av_closed q)
@[simp] theorem Lnk.av_fitR {m : Nat → Option Loc} {L : Names} (q : Lnk) : FitR m L (Lnk.av q) (Lnk.av q) = True := JN (Lnk.av_closed q)
@[simp] theorem Lnk.av_touch {m : Nat → Option Loc} (q : Lnk) : touch m (Lnk.av q) (Lnk.av q) = [] := JF (Lnk.av_closed q)
@[simp] theorem Lnk.av_touchR {m : Nat → Option Loc} (q : Lnk) : touchR m (Lnk.av q) (Lnk.av q) = [] := Jz (Lnk.av_closed q)
@[simp] theorem Lnk.av_stamped {U : Nat → Prop} (q : Lnk) : Stamped U (Lnk.av q) = True := Jw (Lnk.av_closed q)
@[simp] theorem Lnk.av_tup (q : Lnk) : (Lnk.av q).isTup = false := JE (Lnk.av_closed q)
@[simp] theorem Lnk.av_ref (q : Lnk) : refOf (Lnk.av q) = none := JG (Lnk.av_closed q)
@[simp] theorem Lnk.av_put (q : Lnk) (x : AV) : putAt true 103 x (Lnk.av q) 0 = some x := by simp [Lnk.av]
def Lnks (l : List Lnk) : List AV := l.map Lnk.av
@[simp] theorem JSs (l : List Lnk) : (Lnks l).length = l.length := by simp [Lnks]
@[simp] theorem JR2 (l : List Lnk) : closeds (Lnks l) = true := by simp [Lnks, closeds_all]
@[simp] theorem JWu (n : Nat) (l : List Lnk) : (Lnks l)[n]? = (l[n]?).map Lnk.av := by simp [Lnks]
@[simp] theorem JQA (n : Nat) (l : List Lnk) (h : n < (Lnks l).length) : (Lnks l)[n] = Lnk.av (l[n]'(by simpa [Lnks] using h)) := by simp [Lnks]
@[simp] theorem JR9 (a b : List Lnk) : Lnks a ++ Lnks b = Lnks (a ++ b) := by simp [Lnks]
@[simp] theorem JU0 (n : Nat) (a : List Lnk) : (Lnks a).drop n = Lnks (a.drop n) := by simp [Lnks]
@[simp] theorem JUx (n : Nat) (a : List Lnk) : (Lnks a).take n = Lnks (a.take n) := by simp [Lnks]
@[simp] theorem JWq : Lnks [] = [] := (rfl)
end Go.Proofs.YtjlmpdbagmdbiaaDoor.WL
end
section
namespace Go.Proofs.YtjlmpdbagmdbiaaDoor.WL
open Go
theorem JI4 {P : Program} {G : Nat → Option AV} {f : Nat} {fn : Func} {code : Code} {rs : List CRes} {args : List AV} {M : List (Nat × Loc)} {keep : Bool} {res : AV} {M' : List (Nat × Loc)} (hf : P.funcs[f]? = some fn) (hb : fn.body = some code) (hres : chkRes P fn.results.toList rs = true) (hn : args.length ≤ fn.ntmps)
    (hg : goodM keep M' M' = true ∧ goodA keep M' res = true ∧ (M'.map (·.1)).Nodup) (h : ∀ (w0 : World) (Ws I0 : Nat → Prop) (C0 : Ctx) (a : Act) (w : World), Rel w0 Ws I0 G C0 fn.ntmps ⟨argsL 0 args, M, 2⟩ a w → code.wp P (fun e a w => ∃ S', postA rs res M' e S' ∧ Rel w0 Ws I0 G C0 fn.ntmps S' a w) a w) : Meets P G f args M keep res M' := by
  refine ⟨hg, fun C Ws ys hw hm hu hG hv => ?_⟩
  have hlen := JBc hv
  refine calls_of_wp hf hb ?_
  have hrel : Rel C.w Ws C.I G C fn.ntmps ⟨argsL 0 args, M, 2⟩ { tmps := ys.toArray ++ Array.replicate (fn.ntmps - ys.toArray.size) undef, defers := [] } C.w := by
    refine ⟨Nat.le_refl _, C, rfl, hw, hm, fun t z hz => ?_, hG, Ctx.Le.refl C, by simp; omega, rfl, (fun i hi => by cases hi), fun k hk => by have := (hu k).1 hk; simp only; omega, fun h1 => by have := (hu 1).1 h1; omega⟩
    obtain ⟨_, h1⟩ := JAY hz
    rw [Nat.sub_zero] at h1
    obtain ⟨y, h2, h3⟩ := JJM hv h1
    refine ⟨y, ?_, h3⟩
    have hlt := (List.getElem?_eq_some_iff.1 h2).1
    rw [Array.getElem?_append_left (by simpa using hlt)]
    simpa using h2
  refine wp_mono (h _ _ _ _ _ _ hrel) ?_
  rintro e a w ⟨S, ⟨he, xs, L, T, hraw, hend⟩, hk, C1, rfl, hmid⟩
  have hm1 : C1.m = look S.m := hmid.m
  rw [← hm1] at hraw hend
  obtain ⟨y, hrun, hval⟩ := JDL hmid.wr hmid.fr hres hraw
  have hdef := hmid.defers
  suffices hR : ∃ y' C', y = y' ∧ C'.w = C1.w ∧ C.Le C' ∧ WR C.w Ws C.I C' ∧ C'.m = look M' ∧ SV C' res y' by
    obtain ⟨y', C', rfl, h1, h2, h3, h4, h5⟩ := hR
    rcases he with rfl | rfl <;> exact ⟨hdef, y, hrun, y, C', rfl, h1, h2, h3, h4, h5⟩
  let U : Nat → Prop := fun g => C1.used g ∨ g = 0 ∨ g = 1
  have hst' : ∀ (a : AV), Stamped (fun g => g = 0 ∨ g = 1) a → Stamped U a := by
    have key : (∀ (a : AV), Stamped (fun g => g = 0 ∨ g = 1) a → Stamped U a) := fun a => J2 (fun g h => .inr h) a
    exact key
  have hnamed : Named C1.m L M' T U := ⟨hend.named.nd, hend.named.fit, hend.named.lent, hend.named.ns, hend.named.apart, fun e he => by
    have := hend.named.st e he
    cases hq : e.2 with
    | var g w => rw [hq] at this; exact ⟨.inr this.1, hst' w this.2⟩
    | rows g sz ws => rw [hq] at this; exact ⟨.inr this.1, JO (fun g h => .inr h) ws this.2⟩
    | ob g q w => rw [hq] at this; exact ⟨.inr this.1, hst' w this.2⟩⟩
  have hle : C1.Le (reCtx C1 L M' T U) := by
    refine ⟨fun g hg => .inl hg, fun k hk => .inl hk, fun _ _ => rfl, fun l c' hc' hu' => ?_⟩
    have hmem := J5 hc'
    have hgE := Jok hg.1 hmem
    have hgen : c'.gen = 0 := by
      cases c' with
      | var g w =>
        simp only [goodE, Bool.and_eq_true, Bool.or_eq_true, beq_iff_eq] at hgE
        rcases hgE.1 with h | h
        · exact h
        · subst h; exact absurd hu' hmid.one
      | rows g sz ws =>
        simp only [goodE, Bool.and_eq_true, beq_iff_eq] at hgE
        obtain ⟨rfl, _⟩ := hgE
        exact absurd hu' hmid.one
      | ob g q w =>
        simp only [goodE, Bool.and_eq_true, Bool.or_eq_true, beq_iff_eq] at hgE
        rcases hgE.1 with h | h
        · exact h
        · subst h; exact absurd hu' hmid.one
    have hold := hend.old _ hmem hgen
    simp only at hold
    have hfit := hnamed.fit _ hmem
    cases c' with
    | rows g sz ws =>
      simp only [Loc.gen] at hgen
      subst hgen
      simp [goodE] at hgE
    | var g w =>
      simp only [Loc.gen] at hgen
      subst hgen
      obtain ⟨l2, g2, raw, h1, h2, _⟩ := hfit
      simp only at h1
      rw [hold] at h1
      obtain ⟨rfl, rfl⟩ := (by simpa using h1 : l = l2 ∧ 0 = g2)
      refine ⟨_, h2, rfl, by simp [reCtx, src, hold], fun b _ cur _ hcur => ⟨cur, hcur, rfl⟩⟩
    | ob g q w =>
      simp only [Loc.gen] at hgen
      subst hgen
      obtain ⟨l2, g2, raw, h1, h2, _⟩ := hfit
      simp only at h1
      rw [hold] at h1
      obtain ⟨rfl, rfl⟩ := (by simpa using h1 : l = l2 ∧ 0 = g2)
      refine ⟨_, h2, ⟨rfl, rfl⟩, by simp [reCtx, src, hold], fun b _ cur _ hcur => ⟨cur, hcur, rfl⟩⟩
  have hwr : WR C.w Ws C.I (reCtx C1 L M' T U) := by
    refine hnamed.wr hmid.wr (fun k hk => .inl (hmid.wr.imm0 k hk)) (fun l c b _ h2 h3 => (hmid.wr.own l c b h2 h3).2.2) (fun k hk => ?_) hmid.wr.os hmid.wr.tape hmid.wr.output hmid.wr.size hmid.wr.block
    rcases hk with hk | ⟨t, _, ct, hct, hbt⟩
    · exact (hmid.wr.imm k hk).2
    · exact .inr ((hmid.wr.own t ct k hct hbt).2.2)
  exact ⟨y, reCtx C1 L M' T U, rfl, rfl, hmid.le.trans hle, hwr, rfl, JI1 hmid.wr hnamed.seen hend.fit hend.lent (hst' res hend.st) hval⟩
end Go.Proofs.YtjlmpdbagmdbiaaDoor.WL
end
section
namespace Go.Proofs.YtjlmpdbagmdbiaaDoor.WL
open Go
attribute [local irreducible] comp
def rem (d : Bytes) : Bytes := d.drop (64 * (d.length / 64))
theorem Jgw (d : Bytes) : (rem d).length = d.length % 64 := by
  simp only [rem, List.length_drop]
  omega
theorem JRQ (n : Nat) (b : Bytes) : hb (n + 1) b = comp (hb n b) ((b.drop (64 * n)).take 64) := rfl
theorem JQ9 (d x : Bytes) (h : (rem d).length + x.length < 64) : (d ++ x).length / 64 = d.length / 64 ∧ rem (d ++ x) = rem d ++ x ∧ hb ((d ++ x).length / 64) (d ++ x) = hb (d.length / 64) d := by
  rw [Jgw] at h
  have h1 : (d ++ x).length / 64 = d.length / 64 := by rw [List.length_append]; omega
  refine ⟨h1, ?_, ?_⟩
  · rw [rem, h1, List.drop_append_of_le_length (by omega)]
    rfl
  · rw [h1]
    exact JHz _ _ _ (by omega)
theorem JFR (d x : Bytes) (h : (rem d).length + x.length = 64) : (d ++ x).length / 64 = d.length / 64 + 1 ∧ rem (d ++ x) = [] ∧ hb ((d ++ x).length / 64) (d ++ x) = comp (hb (d.length / 64) d) (rem d ++ x) := by
  have h0 := h
  rw [Jgw] at h
  have hx : 0 < x.length := by omega
  have h1 : (d ++ x).length / 64 = d.length / 64 + 1 := by rw [List.length_append]; omega
  refine ⟨h1, ?_, ?_⟩
  · rw [rem, h1, List.drop_of_length_le (by rw [List.length_append]; omega)]
  · rw [h1, JRQ, JHz _ _ _ (by omega), List.drop_append_of_le_length (by omega)]
    congr 1
    show (rem d ++ x).take 64 = _
    exact List.take_of_length_le (by rw [List.length_append]; omega)
theorem JKj (n : Nat) (h : n % 64 < 56) : fillN n = 55 - n % 64 := by unfold fillN; omega
theorem JL8 (n : Nat) (h : 56 ≤ n % 64) : fillN n = 119 - n % 64 := by unfold fillN; omega
theorem JN0 (d : Bytes) (h : d.length % 64 < 56) : (sha d).bs = (comp (hb (d.length / 64) d) (rem d ++ 128 :: (zeros (55 - d.length % 64) ++ be8 (8 * d.length : Nat)))).bytes := by
  show (hb ((pad d).length / 64) (pad d)).bytes = _
  have hl := Jgw d
  have e : pad d = d ++ (128 :: (zeros (55 - d.length % 64) ++ be8 (8 * d.length : Nat))) := by rw [pad, JKj _ h]
  obtain ⟨_, _, h3⟩ := JFR d (128 :: (zeros (55 - d.length % 64) ++ be8 (8 * d.length : Nat))) (by simp only [List.length_cons, List.length_append, JnQ, Jcs]; omega)
  rw [e, h3]
theorem JMI (d : Bytes) (h : 56 ≤ d.length % 64) : (sha d).bs = (comp (comp (hb (d.length / 64) d) (rem d ++ 128 :: zeros (63 - d.length % 64))) (zeros 56 ++ be8 (8 * d.length : Nat))).bytes := by
  show (hb ((pad d).length / 64) (pad d)).bytes = _
  have hl := Jgw d
  have hlt : d.length % 64 < 64 := Nat.mod_lt _ (by decide)
  have e : pad d = (d ++ 128 :: zeros (63 - d.length % 64)) ++ (zeros 56 ++ be8 (8 * d.length : Nat)) := by
    rw [pad, JL8 _ h, show 119 - d.length % 64 = (63 - d.length % 64) + 56 by omega]
    simp only [zeros, ← List.replicate_append_replicate, List.append_assoc, List.cons_append]
  obtain ⟨h1, h2, h3⟩ := JFR d (128 :: zeros (63 - d.length % 64)) (by simp only [List.length_cons, JnQ]; omega)
  obtain ⟨_, _, k3⟩ := JFR (d ++ 128 :: zeros (63 - d.length % 64)) (zeros 56 ++ be8 (8 * d.length : Nat)) (by rw [h2]; simp)
  rw [e, k3, h2, h3, List.nil_append]
end Go.Proofs.YtjlmpdbagmdbiaaDoor.WL
end
section
namespace Go.Proofs.YtjlmpdbagmdbiaaDoor.WL
open Go
attribute [local irreducible] sha leafD pairD
def plen (at_ count : Nat) : Nat :=
  if h : 1 < count then (if count ≤ sib at_ then 0 else 1) + plen (at_ / 2) ((count + 1) / 2) else 0
termination_by count
theorem JN3 (at_ count : Nat) (h : 1 < count) : plen at_ count = (if count ≤ sib at_ then 0 else 1) + plen (at_ / 2) ((count + 1) / 2) := by rw [plen.eq_def, dif_pos h]
theorem JFY (at_ count : Nat) (h : count ≤ 1) : plen at_ count = 0 := by rw [plen.eq_def, dif_neg (by omega)]
theorem JA2 : ∀ (n : Nat) (root leaf : Dg) (at_ count : Nat) (p : List Dg), count ≤ n → checkD root leaf at_ count p = true → p.length = plen at_ count
  | n, root, leaf, at_, count, p, hn, h => by
    by_cases h1 : 1 < count
    · cases n with
      | zero => omega
      | succ n =>
        rw [JN3 at_ count h1]
        by_cases hs : count ≤ sib at_
        · rw [JGo _ _ _ _ _ h1 hs] at h
          rw [if_pos hs, JA2 n _ _ _ _ _ (by omega) h, Nat.zero_add]
        · rw [if_neg hs]
          cases p with
          | nil => rw [JD4 _ _ _ _ h1 hs] at h; cases h
          | cons q ps =>
            rw [JEg _ _ _ _ _ _ h1 hs] at h
            rw [List.length_cons, JA2 n _ _ _ _ _ (by omega) h, Nat.add_comm]
    · rw [JEW _ _ _ _ _ (by omega), Bool.and_eq_true, decide_eq_true_eq] at h
      rw [JFY at_ count (by omega), h.1]
      rfl
end Go.Proofs.YtjlmpdbagmdbiaaDoor.WL
end
section
namespace Go.Proofs.YtjlmpdbagmdbiaaDoor.WL
open Go
attribute [local irreducible] sha
attribute [local irreducible] Rd.sig Rd.sig' Rd.blk Rd.blk' Rd.inn Rd.inn' Rd.dg Rd.dg' Rd.rep Rd.rep' Rd.req Rd.req' repR
structure Piece where
  at_ : Int
  count : Int
  tree : Dg
  data : Bytes
  path : List Dg
def Piece.zero : Piece := ⟨0, 0, Dg.zero, [], []⟩
def pieceF : Fmt Piece := mapF (seqF (inF 0 1024) fun _ => seqF (inF 0 1024) fun _ => seqF (inF 0 16) fun n => seqF dgF fun _ => seqF (repF (fun _ => dgF) n.toNat) fun _ => textF 1024)
  (fun x => ⟨x.1, x.2.1, x.2.2.2.1, x.2.2.2.2.2, x.2.2.2.2.1⟩) (fun p => (p.at_, p.count, (p.path.length : Int), p.tree, p.path, p.data))
def Piece.bytes (p : Piece) : Bytes := nums [p.at_, p.count, (p.path.length : Int)] ++ (flatD (p.tree :: p.path) ++ txt p.data)
def Piece.av (p : Piece) : AV := .node [.v (.int .i64 p.at_), .v (.int .i64 p.count), dv p.tree, .v (.string (mkS p.data)), .sl 32 (Dgs p.path)]
@[simp] theorem Piece.av_closed (q : Piece) : closed (Piece.av q) = true := by simp [Piece.av]
@[simp] theorem Piece.av_solid (q : Piece) : (Piece.av q).solid = true := by simp [Piece.av]
@[simp] theorem Piece.av_agg (q : Piece) : (Piece.av q).isAgg = true := by simp [Piece.av]
@[simp] theorem Piece.av_size (q : Piece) : (Piece.av q).size = 36 := by simp [Piece.av]
@[simp] theorem Piece.av_sub (q : Piece) : sub true 36 (Piece.av q) 0 = some (Piece.av q) := by simp [Piece.av]
@[simp] theorem Piece.av_good {M : List (Nat × Loc)} (q : Piece) : goodA false M (Piece.av q) = true := JD (Piece.av_closed q)
@[simp] theorem Piece.av_pairs (q : Piece) : pairsA (Piece.av q) (Piece.av q) = [] := JA (Piece.av_closed q)
@[simp] theorem Piece.av_ren {L : Names} {nb gn : Nat} (q : Piece) : renA L nb gn (Piece.av q) = Piece.av q := JM (Piece.av_closed q)
@[simp] theorem Piece.av_fit {m : Nat → Option Loc} {L : Names} (q : Piece) : Fit m L (Piece.av q) (Piece.av q) = True := JU (Piece.av_closed q)
@[simp] theorem Piece.av_fitR {m : Nat → Option Loc} {L : Names} (q : Piece) : FitR m L (Piece.av q) (Piece.av q) = True := JN (Piece.av_closed q)
@[simp] theorem Piece.av_touch {m : Nat → Option Loc} (q : Piece) : touch m (Piece.av q) (Piece.av q) = [] := JF (Piece.av_closed q)
@[simp] theorem Piece.av_touchR {m : Nat → Option Loc} (q : Piece) : touchR m (Piece.av q) (Piece.av q) = [] := Jz (Piece.av_closed q)
@[simp] theorem Piece.av_stamped {U : Nat → Prop} (q : Piece) : Stamped U (Piece.av q) = True := Jw (Piece.av_closed q)
@[simp] theorem Piece.av_tup (q : Piece) : (Piece.av q).isTup = false := JE (Piece.av_closed q)
@[simp] theorem Piece.av_ref (q : Piece) : refOf (Piece.av q) = none := JG (Piece.av_closed q)
@[simp] theorem Piece.av_put (q : Piece) (x : AV) : putAt true 36 x (Piece.av q) 0 = some x := by simp [Piece.av]
def Pcs (l : List Piece) : List AV := l.map Piece.av
@[simp] theorem JTk (l : List Piece) : (Pcs l).length = l.length := by simp [Pcs]
@[simp] theorem JS1 (l : List Piece) : closeds (Pcs l) = true := by simp [Pcs, closeds_all]
@[simp] theorem JWN (n : Nat) (l : List Piece) : (Pcs l)[n]? = (l[n]?).map Piece.av := by simp [Pcs]
@[simp] theorem JR3 (n : Nat) (l : List Piece) (h : n < (Pcs l).length) : (Pcs l)[n] = Piece.av (l[n]'(by simpa [Pcs] using h)) := by simp [Pcs]
@[simp] theorem JTb (a b : List Piece) : Pcs a ++ Pcs b = Pcs (a ++ b) := by simp [Pcs]
@[simp] theorem JV1 (n : Nat) (a : List Piece) : (Pcs a).drop n = Pcs (a.drop n) := by simp [Pcs]
@[simp] theorem JVV (n : Nat) (a : List Piece) : (Pcs a).take n = Pcs (a.take n) := by simp [Pcs]
@[simp] theorem JWY : Pcs [] = [] := (rfl)
structure Mail where
  kind : Int
  plan : Plan
  vote : Vote
  req : Req
  rep : Rep
  height : Int
  blk : Blk
  cert : Cert
  links : List Lnk
  pieces : List Piece
def Mail.zero : Mail := ⟨0, Plan.zero, Vote.zero, Req.zero, Rep.zero, 0, Blk.zero, Cert.zero, [], []⟩
def Mail.av (m : Mail) : AV := .node [.v (.int .i64 m.kind), m.plan.av, m.vote.av, m.req.av, m.rep.avS, .v (.int .i64 m.height), m.blk.avS, m.cert.av, .sl 103 (Lnks m.links), .sl 36 (Pcs m.pieces)]
@[simp] theorem Mail.av_closed (q : Mail) : closed (Mail.av q) = true := by simp [Mail.av]
@[simp] theorem Mail.av_solid (q : Mail) : (Mail.av q).solid = true := by simp [Mail.av]
@[simp] theorem Mail.av_agg (q : Mail) : (Mail.av q).isAgg = true := by simp [Mail.av]
@[simp] theorem Mail.av_size (q : Mail) : (Mail.av q).size = 300 := by simp [Mail.av]
@[simp] theorem Mail.av_sub (q : Mail) : sub true 300 (Mail.av q) 0 = some (Mail.av q) := by simp [Mail.av]
@[simp] theorem Mail.av_good {M : List (Nat × Loc)} (q : Mail) : goodA false M (Mail.av q) = true := JD (Mail.av_closed q)
@[simp] theorem Mail.av_pairs (q : Mail) : pairsA (Mail.av q) (Mail.av q) = [] := JA (Mail.av_closed q)
@[simp] theorem Mail.av_ren {L : Names} {nb gn : Nat} (q : Mail) : renA L nb gn (Mail.av q) = Mail.av q := JM (Mail.av_closed q)
@[simp] theorem Mail.av_fit {m : Nat → Option Loc} {L : Names} (q : Mail) : Fit m L (Mail.av q) (Mail.av q) = True := JU (Mail.av_closed q)
@[simp] theorem Mail.av_fitR {m : Nat → Option Loc} {L : Names} (q : Mail) : FitR m L (Mail.av q) (Mail.av q) = True := JN (Mail.av_closed q)
@[simp] theorem Mail.av_touch {m : Nat → Option Loc} (q : Mail) : touch m (Mail.av q) (Mail.av q) = [] := JF (Mail.av_closed q)
@[simp] theorem Mail.av_touchR {m : Nat → Option Loc} (q : Mail) : touchR m (Mail.av q) (Mail.av q) = [] := Jz (Mail.av_closed q)
@[simp] theorem Mail.av_stamped {U : Nat → Prop} (q : Mail) : Stamped U (Mail.av q) = True := Jw (Mail.av_closed q)
@[simp] theorem Mail.av_tup (q : Mail) : (Mail.av q).isTup = false := JE (Mail.av_closed q)
@[simp] theorem Mail.av_ref (q : Mail) : refOf (Mail.av q) = none := JG (Mail.av_closed q)
@[simp] theorem Mail.av_put (q : Mail) (x : AV) : putAt true 300 x (Mail.av q) 0 = some x := by simp [Mail.av]
def linksF : Fmt (List Lnk) := cntF 0 1024 (fun _ => linkF)
def piecesF : Fmt (List Piece) := cntF 0 1024 (fun _ => pieceF)
def Mail.body (m : Mail) : Bytes :=
  if m.kind = 1 then planF.wr m.plan else if m.kind = 2 then voteF.wr m.vote else if m.kind = 3 then m.req.bytes else if m.kind = 4 then be8 m.height ++ m.rep.bytes else if m.kind = 5 then m.blk.bytes ++ m.cert.bytes
  else if m.kind = 6 then be8 m.height else if m.kind = 8 then linksF.wr m.links else if m.kind = 9 then m.blk.bytes ++ m.cert.bytes ++ piecesF.wr m.pieces else []
def Mail.ok (m : Mail) : Bool :=
  if m.kind = 1 then m.plan.sig.ok else if m.kind = 2 then m.vote.sig.ok else if m.kind = 5 then m.cert.ok else if m.kind = 8 then m.links.all (fun l => l.cert.ok) else if m.kind = 9 then m.cert.ok else true
def Mail.bytes (m : Mail) : Bytes := be8 m.kind ++ m.body
end Go.Proofs.YtjlmpdbagmdbiaaDoor.WL
end
section
namespace Go.Proofs.YtjlmpdbagmdbiaaDoor.WL
open Go
abbrev Ty.dgs : Ty := .sl 32 32 Ty.dg
abbrev Ty.sig : Ty := .st [.int .i64, .st [Ty.dgs, Ty.dgs], Ty.dgs]
theorem JUu {a : AV} (h : TyOk Ty.sig a) : ∃ s : Sig, a = s.avS ∧ W64 s.leaf := by
  obtain ⟨a1, a2, a3, rfl, h1, h2, h3⟩ := JNd h
  obtain ⟨n1, rfl, w1⟩ := Jbx h1
  obtain ⟨b1, b2, rfl, g1, g2⟩ := JEZ h2
  obtain ⟨o, rfl, _⟩ := JNr g1
  obtain ⟨s, rfl, _⟩ := JNr g2
  obtain ⟨p, rfl, _⟩ := JNr h3
  exact ⟨⟨n1, o, s, p⟩, rfl, w1⟩
structure KeyD where
  root : Dg
  height : Int
def KeyD.av (k : KeyD) : AV := .node [dv k.root, .v (.int .i64 k.height)]
abbrev Ty.key : Ty := .st [Ty.dg, .int .i64]
end Go.Proofs.YtjlmpdbagmdbiaaDoor.WL
end
section
namespace Go.Proofs.YtjlmpdbagmdbiaaDoor.WL
open Go
abbrev Ty.chg : Ty := .st [.int .i64, .int .i64, .int .i64, .st [Ty.dg, .int .i64]]
abbrev Ty.req : Ty := .st [.int .i64, .int .i64, .st [.int .i64, .str, .str, .str, Ty.chg]]
theorem JTX {a : AV} (h : TyOk Ty.chg a) : ∃ c : Chg, a = c.av ∧ W64 c.kind ∧ W64 c.id ∧ W64 c.new ∧ W64 c.height := by
  obtain ⟨a1, a2, a3, a4, rfl, h1, h2, h3, h4⟩ := JU6 h
  obtain ⟨n1, rfl, w1⟩ := Jbx h1
  obtain ⟨n2, rfl, w2⟩ := Jbx h2
  obtain ⟨n3, rfl, w3⟩ := Jbx h3
  obtain ⟨b1, b2, rfl, g1, g2⟩ := JEZ h4
  obtain ⟨d, rfl⟩ := ty_dg g1
  obtain ⟨n4, rfl, w4⟩ := Jbx g2
  exact ⟨⟨n1, n2, n3, d, n4⟩, rfl, w1, w2, w3, w4⟩
structure Req.In (q : Req) : Prop where
  client : W64 q.client
  num : W64 q.num
  kind : W64 q.kind
  ckind : W64 q.ch.kind
  cid : W64 q.ch.id
  cnew : W64 q.ch.new
  cheight : W64 q.ch.height
  key : q.key.length ≤ reachBytes
  val : q.val.length ≤ reachBytes
  old : q.old.length ≤ reachBytes
theorem JTP {a : AV} (h : TyOk Ty.req a) : ∃ q : Req, a = q.av ∧ q.In := by
  obtain ⟨a1, a2, a3, rfl, h1, h2, h3⟩ := JNd h
  obtain ⟨n1, rfl, w1⟩ := Jbx h1
  obtain ⟨n2, rfl, w2⟩ := Jbx h2
  obtain ⟨b1, b2, b3, b4, b5, rfl, g1, g2, g3, g4, g5⟩ := JT7 h3
  obtain ⟨n3, rfl, w3⟩ := Jbx g1
  obtain ⟨s1, rfl, l1⟩ := JMS g2
  obtain ⟨s2, rfl, l2⟩ := JMS g3
  obtain ⟨s3, rfl, l3⟩ := JMS g4
  obtain ⟨c, rfl, x1, x2, x3, x4⟩ := JTX g5
  exact ⟨⟨n1, n2, n3, s1, s2, s3, c⟩, rfl, w1, w2, w3, x1, x2, x3, x4, l1, l2, l3⟩
abbrev Ty.rep : Ty := .st [.int .i64, .int .i64, .int .i64, .sl 1 16 .str]
end Go.Proofs.YtjlmpdbagmdbiaaDoor.WL
end
section
namespace Go.Proofs.YtjlmpdbagmdbiaaDoor.WL
open Go
abbrev Ty.blk : Ty := .st [.int .i64, .int .i64, Ty.dg, Ty.dg, Ty.dg, .sl 42 136 Ty.req]
theorem JSL {a : AV} (h : TyOk (.sl 42 136 Ty.req) a) : ∃ qs : List Req, a = .sl 42 (Reqs qs) ∧ qs.length * 136 ≤ reachBytes ∧ ∀ q ∈ qs, q.In := by
  obtain ⟨xs, rfl, ⟨_, h1⟩, h2⟩ := h
  obtain ⟨ns, rfl, h3⟩ := map_of_all (f := Req.av) (p := fun q => q.In) fun x hx => JTP (h2 x hx)
  exact ⟨ns, rfl, by simpa using h1, h3⟩
structure Blk.In (b : Blk) : Prop where
  epoch : W64 b.epoch
  height : W64 b.height
  len : b.qs.length * 136 ≤ reachBytes
  qs : ∀ q ∈ b.qs, q.In
theorem JUl {a : AV} (h : TyOk Ty.blk a) : ∃ b : Blk, a = b.avS ∧ b.In := by
  obtain ⟨a1, a2, a3, a4, a5, a6, rfl, h1, h2, h3, h4, h5, h6⟩ := JUJ h
  obtain ⟨n1, rfl, w1⟩ := Jbx h1
  obtain ⟨n2, rfl, w2⟩ := Jbx h2
  obtain ⟨d1, rfl⟩ := ty_dg h3
  obtain ⟨d2, rfl⟩ := ty_dg h4
  obtain ⟨d3, rfl⟩ := ty_dg h5
  obtain ⟨qs, rfl, l, hq⟩ := JSL h6
  exact ⟨⟨n1, n2, d1, d2, d3, qs⟩, rfl, w1, w2, l, hq⟩
theorem Blk.In.texts {b : Blk} (h : b.In) : ∀ q ∈ b.qs, q.key.length ≤ reachBytes ∧ q.val.length ≤ reachBytes ∧ q.old.length ≤ reachBytes :=
  fun q hq => ⟨(h.qs q hq).key, (h.qs q hq).val, (h.qs q hq).old⟩
end Go.Proofs.YtjlmpdbagmdbiaaDoor.WL
end
section
namespace Go.Proofs.YtjlmpdbagmdbiaaDoor.WL
open Go
theorem JNV {α : Type} {e : Ty} {sz bytes : Nat} {f : α → AV} {p : α → Prop} (he : ∀ a, TyOk e a → ∃ x, a = f x ∧ p x) {a : AV} (h : TyOk (.sl sz bytes e) a) : ∃ xs : List α, a = .sl sz (xs.map f) ∧ xs.length * bytes ≤ reachBytes ∧ ∀ x ∈ xs, p x := by
  obtain ⟨xs, rfl, ⟨_, h1⟩, h2⟩ := ty_sl h
  obtain ⟨ns, rfl, h3⟩ := map_of_all (f := f) (p := p) fun x hx => he x (h2 x hx)
  exact ⟨ns, rfl, by simpa using h1, h3⟩
abbrev Ty.vote : Ty := .st [.int .i64, .int .i64, .int .i64, .int .i64, Ty.dg, .int .i64, Ty.sig]
structure Vote.In (v : Vote) : Prop where
  kind : W64 v.kind
  epoch : W64 v.epoch
  height : W64 v.height
  round : W64 v.round
  src : W64 v.src
  leaf : W64 v.sig.leaf
theorem JSg {a : AV} (h : TyOk Ty.vote a) : ∃ v : Vote, a = v.av ∧ v.In := by
  obtain ⟨a1, a2, a3, a4, a5, a6, a7, rfl, h1, h2, h3, h4, h5, h6, h7⟩ := JUK h
  obtain ⟨n1, rfl, w1⟩ := Jbx h1
  obtain ⟨n2, rfl, w2⟩ := Jbx h2
  obtain ⟨n3, rfl, w3⟩ := Jbx h3
  obtain ⟨n4, rfl, w4⟩ := Jbx h4
  obtain ⟨d, rfl⟩ := ty_dg h5
  obtain ⟨n6, rfl, w6⟩ := Jbx h6
  obtain ⟨s, rfl, w7⟩ := JUu h7
  exact ⟨⟨n1, n2, n3, n4, d, n6, s⟩, rfl, w1, w2, w3, w4, w6, w7⟩
abbrev Ty.plan : Ty := .st [.int .i64, .int .i64, .int .i64, .int .i64, Ty.blk, .int .i64, Ty.sig]
structure Plan.In (p : Plan) : Prop where
  epoch : W64 p.epoch
  height : W64 p.height
  round : W64 p.round
  valid : W64 p.valid
  blk : p.blk.In
  src : W64 p.src
  leaf : W64 p.sig.leaf
abbrev Ty.mem : Ty := .st [.int .i64, .st [Ty.dg, .int .i64]]
def Mem.In (m : Mem) : Prop := W64 m.id ∧ W64 m.height
theorem JUm {a : AV} (h : TyOk Ty.mem a) : ∃ m : Mem, a = m.av ∧ m.In := by
  obtain ⟨a1, a2, rfl, h1, h2⟩ := JEZ h
  obtain ⟨n, rfl, w1⟩ := Jbx h1
  obtain ⟨b1, b2, rfl, g1, g2⟩ := JEZ h2
  obtain ⟨d, rfl⟩ := ty_dg g1
  obtain ⟨k, rfl, w2⟩ := Jbx g2
  exact ⟨⟨n, d, k⟩, rfl, w1, w2⟩
abbrev Ty.conf : Ty := .st [.int .i64, .sl 34 48 Ty.mem]
structure Conf.In (c : Conf) : Prop where
  epoch : W64 c.epoch
  len : c.ms.length * 48 ≤ reachBytes
  ms : ∀ m ∈ c.ms, m.In
theorem JMG {a : AV} (h : TyOk Ty.conf a) : ∃ c : Conf, a = c.av ∧ c.In := by
  obtain ⟨a1, a2, rfl, h1, h2⟩ := JEZ h
  obtain ⟨n, rfl, w1⟩ := Jbx h1
  obtain ⟨ms, rfl, l, hm⟩ := JNV (fun _ => JUm) h2
  exact ⟨⟨n, ms⟩, rfl, w1, l, hm⟩
abbrev Ty.cert : Ty := .st [.int .i64, .sl 41 152 Ty.vote]
structure Cert.In (c : Cert) : Prop where
  round : W64 c.round
  len : c.votes.length * 152 ≤ reachBytes
  votes : ∀ v ∈ c.votes, v.In
theorem JRk {a : AV} (h : TyOk Ty.cert a) : ∃ c : Cert, a = c.av ∧ c.In := by
  obtain ⟨a1, a2, rfl, h1, h2⟩ := JEZ h
  obtain ⟨n, rfl, w1⟩ := Jbx h1
  obtain ⟨vs, rfl, l, hm⟩ := JNV (fun _ => JSg) h2
  exact ⟨⟨n, vs⟩, rfl, w1, l, hm⟩
abbrev Ty.link : Ty := .st [Ty.blk, Ty.cert, Ty.conf]
structure Lnk.In (l : Lnk) : Prop where
  blk : l.blk.In
  cert : l.cert.In
  conf : l.conf.In
theorem JSq {a : AV} (h : TyOk Ty.link a) : ∃ l : Lnk, a = l.av ∧ l.In := by
  obtain ⟨a1, a2, a3, rfl, h1, h2, h3⟩ := JNd h
  obtain ⟨b, rfl, w1⟩ := JUl h1
  obtain ⟨c, rfl, w2⟩ := JRk h2
  obtain ⟨d, rfl, w3⟩ := JMG h3
  exact ⟨⟨b, c, d⟩, rfl, w1, w2, w3⟩
abbrev Ty.piece : Ty := .st [.int .i64, .int .i64, Ty.dg, .str, Ty.dgs]
structure Piece.In (p : Piece) : Prop where
  at_ : W64 p.at_
  count : W64 p.count
  data : p.data.length ≤ reachBytes
  path : p.path.length ≤ reachBytes
structure Mail.In (m : Mail) : Prop where
  kind : W64 m.kind
  plan : m.plan.In
  vote : m.vote.In
  req : m.req.In
  rep : (W64 m.rep.client ∧ W64 m.rep.num ∧ W64 m.rep.code) ∧ ∀ v ∈ m.rep.vals, v.length ≤ reachBytes
  height : W64 m.height
  blk : m.blk.In
  cert : m.cert.In
  linksn : m.links.length * 200 ≤ reachBytes
  links : ∀ l ∈ m.links, l.In
  piecesn : m.pieces.length * 88 ≤ reachBytes
  pieces : ∀ p ∈ m.pieces, p.In
end Go.Proofs.YtjlmpdbagmdbiaaDoor.WL
end
