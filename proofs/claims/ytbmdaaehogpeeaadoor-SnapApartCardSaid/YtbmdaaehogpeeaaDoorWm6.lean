/- Texts put together: F18, P02, P18, P16, F20, T05, T09, T12, T13. -/
import Derived.Test.YtbmdaaehogpeeaaDoorWm5
section
/-
  CHAPTERS 10, 11, 18: states and snapshots: formats and values.
-/
namespace Go.Proofs.YtbmdaaehogpeeaaDoor.WL
open Go

structure Pr where
  key : Bytes
  val : Bytes
structure Sta where
  pairs : List Pr
  reps : List Rep
  conf : Conf
def Sta.zero : Sta := ⟨[], [], Conf.zero⟩
structure Snp where
  height : Int
  tip : Dg
  st : Sta
def Snp.zero : Snp := ⟨0, Dg.zero, Sta.zero⟩

def prA (p : Pr) : AV := .node [.v (.string (mkS p.key)), .v (.string (mkS p.val))]
@[simp] theorem prA_closed (q : Pr) : closed (prA q) = true := by simp [prA]
@[simp] theorem prA_solid (q : Pr) : (prA q).solid = true := by simp [prA]
@[simp] theorem prA_agg (q : Pr) : (prA q).isAgg = true := by simp [prA]
@[simp] theorem prA_size (q : Pr) : (prA q).size = 2 := by simp [prA]
@[simp] theorem prA_sub (q : Pr) : sub true 2 (prA q) 0 = some (prA q) := by simp [prA]
@[simp] theorem prA_good {M : List (Nat × Loc)} (q : Pr) : goodA false M (prA q) = true := goodA_closed (prA_closed q)
@[simp] theorem prA_pairs (q : Pr) : pairsA (prA q) (prA q) = [] := pairsA_closed (prA_closed q)
@[simp] theorem prA_ren {L : Names} {nb gn : Nat} (q : Pr) : renA L nb gn (prA q) = prA q := renA_closed (prA_closed q)
@[simp] theorem prA_fit {m : Nat → Option Loc} {L : Names} (q : Pr) : Fit m L (prA q) (prA q) = True := Fit_closed (prA_closed q)
@[simp] theorem prA_fitR {m : Nat → Option Loc} {L : Names} (q : Pr) : FitR m L (prA q) (prA q) = True := FitR_closed (prA_closed q)
@[simp] theorem prA_touch {m : Nat → Option Loc} (q : Pr) : touch m (prA q) (prA q) = [] := touch_closed (prA_closed q)
@[simp] theorem prA_touchR {m : Nat → Option Loc} (q : Pr) : touchR m (prA q) (prA q) = [] := touchR_closed (prA_closed q)
@[simp] theorem prA_stamped {U : Nat → Prop} (q : Pr) : Stamped U (prA q) = True := Stamped_closed (prA_closed q)
@[simp] theorem prA_tup (q : Pr) : (prA q).isTup = false := isTup_closed (prA_closed q)
@[simp] theorem prA_ref (q : Pr) : refOf (prA q) = none := refOf_closed (prA_closed q)
@[simp] theorem prA_put (q : Pr) (x : AV) : putAt true 2 x (prA q) 0 = some x := by simp [prA]
def Prs (l : List Pr) : List AV := l.map prA
@[simp] theorem Prs_length (l : List Pr) : (Prs l).length = l.length := by simp [Prs]
@[simp] theorem Prs_closed (l : List Pr) : closeds (Prs l) = true := by simp [Prs, closeds_all]
@[simp] theorem Prs_get (n : Nat) (l : List Pr) : (Prs l)[n]? = (l[n]?).map prA := by simp [Prs]
@[simp] theorem Prs_getElem (n : Nat) (l : List Pr) (h : n < (Prs l).length) : (Prs l)[n] = prA (l[n]'(by simpa [Prs] using h)) := by simp [Prs]
@[simp] theorem Prs_append (a b : List Pr) : Prs a ++ Prs b = Prs (a ++ b) := by simp [Prs]
@[simp] theorem Prs_drop (n : Nat) (a : List Pr) : (Prs a).drop n = Prs (a.drop n) := by simp [Prs]
@[simp] theorem Prs_take (n : Nat) (a : List Pr) : (Prs a).take n = Prs (a.take n) := by simp [Prs]
@[simp] theorem Prs_nil : Prs [] = [] := (rfl)
theorem Prs_snoc (l : List Pr) (a : Pr) : Prs l ++ [prA a] = Prs (l ++ [a]) := by simp [Prs]
def Rps (l : List Rep) : List AV := l.map Rep.avS
@[simp] theorem Rps_length (l : List Rep) : (Rps l).length = l.length := by simp [Rps]
@[simp] theorem Rps_closed (l : List Rep) : closeds (Rps l) = true := by simp [Rps, closeds_all]
@[simp] theorem Rps_get (n : Nat) (l : List Rep) : (Rps l)[n]? = (l[n]?).map Rep.avS := by simp [Rps]
@[simp] theorem Rps_getElem (n : Nat) (l : List Rep) (h : n < (Rps l).length) : (Rps l)[n] = Rep.avS (l[n]'(by simpa [Rps] using h)) := by simp [Rps]
@[simp] theorem Rps_append (a b : List Rep) : Rps a ++ Rps b = Rps (a ++ b) := by simp [Rps]
@[simp] theorem Rps_drop (n : Nat) (a : List Rep) : (Rps a).drop n = Rps (a.drop n) := by simp [Rps]
@[simp] theorem Rps_take (n : Nat) (a : List Rep) : (Rps a).take n = Rps (a.take n) := by simp [Rps]
@[simp] theorem Rps_nil : Rps [] = [] := (rfl)
theorem Rps_snoc (l : List Rep) (a : Rep) : Rps l ++ [Rep.avS a] = Rps (l ++ [a]) := by simp [Rps]
def Sta.av (s : Sta) : AV := .node [.sl 2 (Prs s.pairs), .sl 4 (Rps s.reps), s.conf.av]
@[simp] theorem Sta.av_closed (q : Sta) : closed (Sta.av q) = true := by simp [Sta.av]
@[simp] theorem Sta.av_solid (q : Sta) : (Sta.av q).solid = true := by simp [Sta.av]
@[simp] theorem Sta.av_agg (q : Sta) : (Sta.av q).isAgg = true := by simp [Sta.av]
@[simp] theorem Sta.av_size (q : Sta) : (Sta.av q).size = 4 := by simp [Sta.av]
@[simp] theorem Sta.av_sub (q : Sta) : sub true 4 (Sta.av q) 0 = some (Sta.av q) := by simp [Sta.av]
@[simp] theorem Sta.av_good {M : List (Nat × Loc)} (q : Sta) : goodA false M (Sta.av q) = true := goodA_closed (Sta.av_closed q)
@[simp] theorem Sta.av_pairs (q : Sta) : pairsA (Sta.av q) (Sta.av q) = [] := pairsA_closed (Sta.av_closed q)
@[simp] theorem Sta.av_ren {L : Names} {nb gn : Nat} (q : Sta) : renA L nb gn (Sta.av q) = Sta.av q := renA_closed (Sta.av_closed q)
@[simp] theorem Sta.av_fit {m : Nat → Option Loc} {L : Names} (q : Sta) : Fit m L (Sta.av q) (Sta.av q) = True := Fit_closed (Sta.av_closed q)
@[simp] theorem Sta.av_fitR {m : Nat → Option Loc} {L : Names} (q : Sta) : FitR m L (Sta.av q) (Sta.av q) = True := FitR_closed (Sta.av_closed q)
@[simp] theorem Sta.av_touch {m : Nat → Option Loc} (q : Sta) : touch m (Sta.av q) (Sta.av q) = [] := touch_closed (Sta.av_closed q)
@[simp] theorem Sta.av_touchR {m : Nat → Option Loc} (q : Sta) : touchR m (Sta.av q) (Sta.av q) = [] := touchR_closed (Sta.av_closed q)
@[simp] theorem Sta.av_stamped {U : Nat → Prop} (q : Sta) : Stamped U (Sta.av q) = True := Stamped_closed (Sta.av_closed q)
@[simp] theorem Sta.av_tup (q : Sta) : (Sta.av q).isTup = false := isTup_closed (Sta.av_closed q)
@[simp] theorem Sta.av_ref (q : Sta) : refOf (Sta.av q) = none := refOf_closed (Sta.av_closed q)
@[simp] theorem Sta.av_put (q : Sta) (x : AV) : putAt true 4 x (Sta.av q) 0 = some x := by simp [Sta.av]
def Snp.av (s : Snp) : AV := .node [.v (.int .i64 s.height), dv s.tip, s.st.av]
@[simp] theorem Snp.av_closed (q : Snp) : closed (Snp.av q) = true := by simp [Snp.av]
@[simp] theorem Snp.av_solid (q : Snp) : (Snp.av q).solid = true := by simp [Snp.av]
@[simp] theorem Snp.av_agg (q : Snp) : (Snp.av q).isAgg = true := by simp [Snp.av]
@[simp] theorem Snp.av_size (q : Snp) : (Snp.av q).size = 37 := by simp [Snp.av]
@[simp] theorem Snp.av_sub (q : Snp) : sub true 37 (Snp.av q) 0 = some (Snp.av q) := by simp [Snp.av]
@[simp] theorem Snp.av_good {M : List (Nat × Loc)} (q : Snp) : goodA false M (Snp.av q) = true := goodA_closed (Snp.av_closed q)
@[simp] theorem Snp.av_pairs (q : Snp) : pairsA (Snp.av q) (Snp.av q) = [] := pairsA_closed (Snp.av_closed q)
@[simp] theorem Snp.av_ren {L : Names} {nb gn : Nat} (q : Snp) : renA L nb gn (Snp.av q) = Snp.av q := renA_closed (Snp.av_closed q)
@[simp] theorem Snp.av_fit {m : Nat → Option Loc} {L : Names} (q : Snp) : Fit m L (Snp.av q) (Snp.av q) = True := Fit_closed (Snp.av_closed q)
@[simp] theorem Snp.av_fitR {m : Nat → Option Loc} {L : Names} (q : Snp) : FitR m L (Snp.av q) (Snp.av q) = True := FitR_closed (Snp.av_closed q)
@[simp] theorem Snp.av_touch {m : Nat → Option Loc} (q : Snp) : touch m (Snp.av q) (Snp.av q) = [] := touch_closed (Snp.av_closed q)
@[simp] theorem Snp.av_touchR {m : Nat → Option Loc} (q : Snp) : touchR m (Snp.av q) (Snp.av q) = [] := touchR_closed (Snp.av_closed q)
@[simp] theorem Snp.av_stamped {U : Nat → Prop} (q : Snp) : Stamped U (Snp.av q) = True := Stamped_closed (Snp.av_closed q)
@[simp] theorem Snp.av_tup (q : Snp) : (Snp.av q).isTup = false := isTup_closed (Snp.av_closed q)
@[simp] theorem Snp.av_ref (q : Snp) : refOf (Snp.av q) = none := refOf_closed (Snp.av_closed q)
@[simp] theorem Snp.av_put (q : Snp) (x : AV) : putAt true 37 x (Snp.av q) 0 = some x := by simp [Snp.av]

/-! Their bytes. -/
def prB (p : Pr) : Bytes := txt p.key ++ txt p.val
def prsB (ps : List Pr) : Bytes := ps.flatMap prB
def rpsB (rs : List Rep) : Bytes := rs.flatMap Rep.bytes
def Sta.bytes (s : Sta) : Bytes := s.conf.bytes ++ be8 (s.pairs.length : Int) ++ prsB s.pairs ++ be8 (s.reps.length : Int) ++ rpsB s.reps
theorem prsB_take (ps : List Pr) {j : Nat} (h : j < ps.length) : prsB (ps.take (j + 1)) = prsB (ps.take j) ++ (txt ps[j].key ++ txt ps[j].val) := by
  unfold prsB
  rw [← List.take_append_getElem h, List.flatMap_append]
  simp [prB]
theorem rpsB_take (rs : List Rep) {j : Nat} (h : j < rs.length) : rpsB (rs.take (j + 1)) = rpsB (rs.take j) ++ rs[j].bytes := by
  unfold rpsB
  rw [← List.take_append_getElem h, List.flatMap_append]
  simp

/-! The formats. -/
section
attribute [local irreducible] Rd.inn Rd.inn' Rd.dg Rd.dg' Rd.text Rd.text' Rd.rep Rd.rep' repR confF
def prF : Fmt Pr := mapF (seqF (textF 1024) fun _ => textF 1024) (fun x => ⟨x.1, x.2⟩) (fun p => (p.key, p.val))
theorem prF_law : prF.Law := mapF_law (seqF_law (textF_law _) fun _ => textF_law _) (fun _ => rfl) (fun _ _ => rfl)
def stF : Fmt Sta := mapF (seqF confF fun _ => seqF (cntF 0 256 fun _ => prF) fun _ => cntF 0 64 fun _ => replyF) (fun x => ⟨x.2.1, x.2.2, x.1⟩) (fun s => (s.conf, s.pairs, s.reps))
theorem stF_law : stF.Law := mapF_law (seqF_law confF_law fun _ => seqF_law (cntF_law (by omega) fun _ => prF_law) fun _ => cntF_law (by omega) fun _ => replyF_law) (fun _ => rfl) (fun _ _ => rfl)
def Rd.stN (r : Rd) : Nat := ((confF.rd' r).inn 0 256).toNat
def Rd.st1 (r : Rd) : Rd := (confF.rd' r).inn' 0 256
def Rd.st2 (r : Rd) : Rd := (repR (fun _ => prF) r.st1 r.stN).2
def Rd.stM (r : Rd) : Nat := (r.st2.inn 0 64).toNat
def Rd.st3 (r : Rd) : Rd := r.st2.inn' 0 64
theorem stF_rd (r : Rd) : stF.rd r = ⟨(repR (fun _ => prF) r.st1 r.stN).1, (repR (fun _ => replyF) r.st3 r.stM).1, confF.rd r⟩ := rfl
theorem stF_rd' (r : Rd) : stF.rd' r = (repR (fun _ => replyF) r.st3 r.stM).2 := rfl
theorem stF_wr (s : Sta) : stF.wr s = s.bytes := by
  show confF.wr s.conf ++ ((be8 (s.pairs.length : Int) ++ repW (fun _ => prF) [] s.pairs) ++ (be8 (s.reps.length : Int) ++ repW (fun _ => replyF) [] s.reps)) = _
  rw [confF_wr, repW_const, repW_const]
  simp only [Sta.bytes, prsB, rpsB, List.append_assoc]
  rfl

end
/-! Do pairs and replies stand in order? -/
def ltB (a b : Bytes) : Bool := Op.bytesLess (mkS a).toList (mkS b).toList
def rP (ps : List Pr) : Prop := ∀ i (h : i < ps.length), 0 < i → ltB (ps[i - 1]).key (ps[i]).key = true
def rR (rs : List Rep) : Prop := ∀ i (h : i < rs.length), 0 < i → (rs[i - 1]).client < (rs[i]).client
def Sta.rises (s : Sta) : Bool := decide (∀ i (h : i < s.pairs.length), 0 < i → ltB (s.pairs[i - 1]).key (s.pairs[i]).key = true) && decide (∀ i (h : i < s.reps.length), 0 < i → (s.reps[i - 1]).client < (s.reps[i]).client)
theorem Sta.rises_iff (s : Sta) : s.rises = true ↔ rP s.pairs ∧ rR s.reps := by
  simp only [Sta.rises, Bool.and_eq_true, decide_eq_true_eq]
  rfl
/-- A state that bytes hold. -/
def stOk (b : Bytes) : Bool := (stF.rd' (Rd.of b)).done && (stF.rd (Rd.of b)).rises
def stOf (b : Bytes) : Sta := stF.rd (Rd.of b)

/-! A snapshot's bytes. -/
def bSnap : Bytes := [115, 110, 97, 112]
def Snp.body (s : Snp) : Bytes := be8 s.height ++ s.tip.bs ++ txt s.st.bytes
def Snp.bytes (s : Snp) : Bytes := (sha (bSnap ++ s.body)).bs ++ s.body
def Rd.n1 (r : Rd) : Rd := r.dg'
def Rd.n2 (r : Rd) : Rd := r.n1.inn' 0 1024
def Rd.n3 (r : Rd) : Rd := r.n2.dg'
def Rd.n4 (r : Rd) : Rd := r.n3.text' 4194304
def snText (b : Bytes) : Bytes := (Rd.of b).n3.text 4194304
def snOk (b : Bytes) : Bool := (Rd.of b).n4.done && decide (sha (bSnap ++ b.drop 32) = (Rd.of b).dg) && stOk (snText b)
def snOf (b : Bytes) : Snp := ⟨(Rd.of b).n1.inn 0 1024, (Rd.of b).n2.dg, stOf (snText b)⟩
end Go.Proofs.YtbmdaaehogpeeaaDoor.WL

end
section
/-
  CHAPTER 02: how the digest is reckoned piece by piece.
-/
namespace Go.Proofs.YtbmdaaehogpeeaaDoor.WL
open Go
attribute [local irreducible] comp

/-- The bytes that wait for their block's end. -/
def rem (d : Bytes) : Bytes := d.drop (64 * (d.length / 64))
theorem rem_length (d : Bytes) : (rem d).length = d.length % 64 := by
  simp only [rem, List.length_drop]
  omega
theorem hb_succ (n : Nat) (b : Bytes) : hb (n + 1) b = comp (hb n b) ((b.drop (64 * n)).take 64) := rfl
/-- More bytes, not up to a block's end. -/
theorem hb_more (d x : Bytes) (h : (rem d).length + x.length < 64) : (d ++ x).length / 64 = d.length / 64 ∧ rem (d ++ x) = rem d ++ x ∧ hb ((d ++ x).length / 64) (d ++ x) = hb (d.length / 64) d := by
  rw [rem_length] at h
  have h1 : (d ++ x).length / 64 = d.length / 64 := by rw [List.length_append]; omega
  refine ⟨h1, ?_, ?_⟩
  · rw [rem, h1, List.drop_append_of_le_length (by omega)]
    rfl
  · rw [h1]
    exact hb_append _ _ _ (by omega)
/-- Just to a block's end. -/
theorem hb_full (d x : Bytes) (h : (rem d).length + x.length = 64) : (d ++ x).length / 64 = d.length / 64 + 1 ∧ rem (d ++ x) = [] ∧ hb ((d ++ x).length / 64) (d ++ x) = comp (hb (d.length / 64) d) (rem d ++ x) := by
  have h0 := h
  rw [rem_length] at h
  have hx : 0 < x.length := by omega
  have h1 : (d ++ x).length / 64 = d.length / 64 + 1 := by rw [List.length_append]; omega
  refine ⟨h1, ?_, ?_⟩
  · rw [rem, h1, List.drop_of_length_le (by rw [List.length_append]; omega)]
  · rw [h1, hb_succ, hb_append _ _ _ (by omega), List.drop_append_of_le_length (by omega)]
    congr 1
    show (rem d ++ x).take 64 = _
    exact List.take_of_length_le (by rw [List.length_append]; omega)
theorem fill_small (n : Nat) (h : n % 64 < 56) : fillN n = 55 - n % 64 := by unfold fillN; omega
theorem fill_great (n : Nat) (h : 56 ≤ n % 64) : fillN n = 119 - n % 64 := by unfold fillN; omega
/-- The end, in one block. -/
theorem sha_small (d : Bytes) (h : d.length % 64 < 56) : (sha d).bs = (comp (hb (d.length / 64) d) (rem d ++ 128 :: (zeros (55 - d.length % 64) ++ be8 (8 * d.length : Nat)))).bytes := by
  show (hb ((pad d).length / 64) (pad d)).bytes = _
  have hl := rem_length d
  have e : pad d = d ++ (128 :: (zeros (55 - d.length % 64) ++ be8 (8 * d.length : Nat))) := by rw [pad, fill_small _ h]
  obtain ⟨_, _, h3⟩ := hb_full d (128 :: (zeros (55 - d.length % 64) ++ be8 (8 * d.length : Nat))) (by simp only [List.length_cons, List.length_append, zeros_length, be8_length]; omega)
  rw [e, h3]
/-- The end, in two blocks. -/
theorem sha_great (d : Bytes) (h : 56 ≤ d.length % 64) : (sha d).bs = (comp (comp (hb (d.length / 64) d) (rem d ++ 128 :: zeros (63 - d.length % 64))) (zeros 56 ++ be8 (8 * d.length : Nat))).bytes := by
  show (hb ((pad d).length / 64) (pad d)).bytes = _
  have hl := rem_length d
  have hlt : d.length % 64 < 64 := Nat.mod_lt _ (by decide)
  have e : pad d = (d ++ 128 :: zeros (63 - d.length % 64)) ++ (zeros 56 ++ be8 (8 * d.length : Nat)) := by
    rw [pad, fill_great _ h, show 119 - d.length % 64 = (63 - d.length % 64) + 56 by omega]
    simp only [zeros, ← List.replicate_append_replicate, List.append_assoc, List.cons_append]
  obtain ⟨h1, h2, h3⟩ := hb_full d (128 :: zeros (63 - d.length % 64)) (by simp only [List.length_cons, zeros_length]; omega)
  obtain ⟨_, _, k3⟩ := hb_full (d ++ 128 :: zeros (63 - d.length % 64)) (zeros 56 ++ be8 (8 * d.length : Nat)) (by rw [h2]; simp)
  rw [e, k3, h2, h3, List.nil_append]
end Go.Proofs.YtbmdaaehogpeeaaDoor.WL

end
section
/-
  CHAPTER 18: what is written is read, without any program.
-/
namespace Go.Proofs.YtbmdaaehogpeeaaDoor.WL
open Go
attribute [local irreducible] sha stF

theorem sn_back (s : Snp) (h1 : 0 ≤ s.height ∧ s.height ≤ 1024) (h2 : s.st.bytes.length ≤ 4194304) (h3 : stF.good s.st) (h4 : s.st.rises = true) : snOk s.bytes = true ∧ snOf s.bytes = s := by
  obtain ⟨D, hD⟩ : ∃ D, sha (bSnap ++ s.body) = D := ⟨_, rfl⟩
  have hb : s.bytes = D.bs ++ s.body := by rw [← hD]; rfl
  have b1 := dgF_law.back [] s.body D trivial
  have b2 := (inF_law 0 1024).back ([] ++ D.bs) (s.tip.bs ++ txt s.st.bytes) s.height ⟨by unfold W64; omega, h1⟩
  have b3 := dgF_law.back ([] ++ D.bs ++ be8 s.height) (txt s.st.bytes) s.tip trivial
  have b4 := (textF_law 4194304).back ([] ++ D.bs ++ be8 s.height ++ s.tip.bs) [] s.st.bytes ⟨by omega, by omega⟩
  have b5 := stF_law.back [] [] s.st h3
  have hbd : be8 s.height ++ (s.tip.bs ++ txt s.st.bytes) = s.body := by simp [Snp.body]
  have e0 : Rd.of s.bytes = ⟨[], D.bs ++ s.body, false⟩ := by rw [hb]; rfl
  have e1 : (Rd.of s.bytes).n1 = ⟨[] ++ D.bs, s.body, false⟩ := by rw [e0]; exact b1.2
  have e2 : (Rd.of s.bytes).n2 = ⟨[] ++ D.bs ++ be8 s.height, s.tip.bs ++ txt s.st.bytes, false⟩ := by
    show (Rd.of s.bytes).n1.inn' 0 1024 = _
    rw [e1, ← hbd]
    exact b2.2
  have e3 : (Rd.of s.bytes).n3 = ⟨[] ++ D.bs ++ be8 s.height ++ s.tip.bs, txt s.st.bytes, false⟩ := by
    show (Rd.of s.bytes).n2.dg' = _
    rw [e2]
    exact b3.2
  have e4 : (Rd.of s.bytes).n4 = ⟨[] ++ D.bs ++ be8 s.height ++ s.tip.bs ++ txt s.st.bytes, [], false⟩ := by
    show (Rd.of s.bytes).n3.text' 4194304 = _
    rw [e3]
    have := b4.2
    rw [show (textF 4194304).wr s.st.bytes = txt s.st.bytes from rfl, List.append_nil] at this
    exact this
  have e5 : snText s.bytes = s.st.bytes := by
    show (Rd.of s.bytes).n3.text 4194304 = _
    rw [e3]
    have := b4.1
    rw [show (textF 4194304).wr s.st.bytes = txt s.st.bytes from rfl, List.append_nil] at this
    exact this
  have hw : stF.wr s.st = s.st.bytes := stF_wr s.st
  rw [hw, List.append_nil] at b5
  have e6 : stOf s.st.bytes = s.st := b5.1
  have e7 : stOk s.st.bytes = true := by
    show ((stF.rd' (Rd.of s.st.bytes)).done && (stF.rd (Rd.of s.st.bytes)).rises) = true
    have h5 : stF.rd (Rd.of s.st.bytes) = s.st := b5.1
    have h6 : stF.rd' (Rd.of s.st.bytes) = ⟨[] ++ s.st.bytes, [], false⟩ := b5.2
    rw [h5, h6, h4]
    rfl
  have e8 : (Rd.of s.bytes).dg = D := by rw [e0]; exact b1.1
  have e9 : s.bytes.drop 32 = s.body := by rw [hb, ← D.len]; exact List.drop_left
  constructor
  · unfold snOk
    rw [e4, e5, e7, e8, e9, hD]
    simp [Rd.done]
  · unfold snOf
    rw [e5, e6]
    have f1 : (Rd.of s.bytes).n1.inn 0 1024 = s.height := by rw [e1, ← hbd]; exact b2.1
    have f2 : (Rd.of s.bytes).n2.dg = s.tip := by rw [e2]; exact b3.1
    rw [f1, f2]
end Go.Proofs.YtbmdaaehogpeeaaDoor.WL

end
section
/-
  CHAPTER 16: what was visited, without any program.
-/
namespace Go.Proofs.YtbmdaaehogpeeaaDoor.WL
open Go

/-- What the things at these places sum up to. -/
def sumAt (s : Int → Nat) (vis : List Int) : Nat := (vis.map s).sum
theorem sumAt_snoc (s : Int → Nat) (vis : List Int) (i : Int) : sumAt s (vis ++ [i]) = sumAt s vis + s i := by simp [sumAt]
theorem sumAt_perm (s : Int → Nat) {a b : List Int} (h : a.Perm b) : sumAt s a = sumAt s b := by
  unfold sumAt
  exact (h.map s).sum_nat
/-- Some of these places, each once. -/
structure Vis (dom vis : List Int) : Prop where
  nd : vis.Nodup
  sub : ∀ i ∈ vis, i ∈ dom
theorem Vis.nil (dom : List Int) : Vis dom [] := ⟨List.nodup_nil, fun _ h => by cases h⟩
theorem Vis.snoc {dom vis : List Int} {i : Int} (h : Vis dom vis) (hi : i ∈ dom) (hn : i ∉ vis) : Vis dom (vis ++ [i]) := by
  refine ⟨List.nodup_append.2 ⟨h.nd, by simp, fun a ha b hb => ?_⟩, fun j hj => ?_⟩
  · rw [List.mem_singleton.1 hb]
    rintro rfl
    exact hn ha
  · rcases List.mem_append.1 hj with hj | hj
    · exact h.sub j hj
    · rw [List.mem_singleton.1 hj]; exact hi
theorem Vis.erase : ∀ {vis dom : List Int}, Vis dom vis → ∃ rest, dom.Perm (vis ++ rest)
  | [], dom, _ => ⟨dom, List.Perm.refl _⟩
  | a :: vis, dom, h => by
    have hnd := List.nodup_cons.1 h.nd
    have ha := h.sub a List.mem_cons_self
    have hv : Vis (dom.erase a) vis := ⟨hnd.2, fun i hi => by
      have hne : i ≠ a := fun e => hnd.1 (e ▸ hi)
      exact (List.mem_erase_of_ne hne).2 (h.sub i (List.mem_cons_of_mem _ hi))⟩
    obtain ⟨rest, hr⟩ := hv.erase
    exact ⟨rest, (List.perm_cons_erase ha).trans (List.Perm.cons a hr)⟩
theorem Vis.len {dom vis : List Int} (h : Vis dom vis) : vis.length ≤ dom.length := by
  obtain ⟨rest, hr⟩ := h.erase
  have := hr.length_eq
  rw [List.length_append] at this
  omega
theorem Vis.lt {dom vis : List Int} {i : Int} (h : Vis dom vis) (hi : i ∈ dom) (hn : i ∉ vis) : vis.length < dom.length := by
  have := (h.snoc hi hn).len
  rw [List.length_append] at this
  simp at this
  omega
theorem Vis.sum {dom vis : List Int} (h : Vis dom vis) (s : Int → Nat) : sumAt s vis ≤ sumAt s dom := by
  obtain ⟨rest, hr⟩ := h.erase
  rw [sumAt_perm s hr]
  unfold sumAt
  rw [List.map_append, List.sum_append]
  omega
theorem Vis.all {dom vis : List Int} (h : Vis dom vis) (hd : dom.Nodup) (ha : ∀ i ∈ dom, i ∈ vis) : vis.Perm dom := (List.perm_ext_iff_of_nodup h.nd hd).2 fun i => ⟨h.sub i, ha i⟩
end Go.Proofs.YtbmdaaehogpeeaaDoor.WL

end
section
/-
  CHAPTER 20: mails, without any program.
-/
namespace Go.Proofs.YtbmdaaehogpeeaaDoor.WL
open Go
attribute [local irreducible] sha
attribute [local irreducible] Rd.sig Rd.sig' Rd.blk Rd.blk' Rd.inn Rd.inn' Rd.dg Rd.dg' Rd.rep Rd.rep' Rd.req Rd.req' repR

structure Piece where
  at_ : Int
  count : Int
  tree : Dg
  data : Bytes
  path : List Dg
def Piece.zero : Piece := ⟨0, 0, Dg.zero, [], []⟩
def pieceF : Fmt Piece := mapF (seqF (inF 0 1024) fun _ => seqF (inF 0 1024) fun _ => seqF (inF 0 16) fun n => seqF dgF fun _ => seqF (repF (fun _ => dgF) n.toNat) fun _ => textF 1024)
  (fun x => ⟨x.1, x.2.1, x.2.2.2.1, x.2.2.2.2.2, x.2.2.2.2.1⟩) (fun p => (p.at_, p.count, (p.path.length : Int), p.tree, p.path, p.data))
def Piece.bytes (p : Piece) : Bytes := nums [p.at_, p.count, (p.path.length : Int)] ++ (flatD (p.tree :: p.path) ++ txt p.data)
def Piece.av (p : Piece) : AV := .node [.v (.int .i64 p.at_), .v (.int .i64 p.count), dv p.tree, .v (.string (mkS p.data)), .sl 32 (Dgs p.path)]
@[simp] theorem Piece.av_closed (q : Piece) : closed (Piece.av q) = true := by simp [Piece.av]
@[simp] theorem Piece.av_solid (q : Piece) : (Piece.av q).solid = true := by simp [Piece.av]
@[simp] theorem Piece.av_agg (q : Piece) : (Piece.av q).isAgg = true := by simp [Piece.av]
@[simp] theorem Piece.av_size (q : Piece) : (Piece.av q).size = 36 := by simp [Piece.av]
@[simp] theorem Piece.av_sub (q : Piece) : sub true 36 (Piece.av q) 0 = some (Piece.av q) := by simp [Piece.av]
@[simp] theorem Piece.av_good {M : List (Nat × Loc)} (q : Piece) : goodA false M (Piece.av q) = true := goodA_closed (Piece.av_closed q)
@[simp] theorem Piece.av_pairs (q : Piece) : pairsA (Piece.av q) (Piece.av q) = [] := pairsA_closed (Piece.av_closed q)
@[simp] theorem Piece.av_ren {L : Names} {nb gn : Nat} (q : Piece) : renA L nb gn (Piece.av q) = Piece.av q := renA_closed (Piece.av_closed q)
@[simp] theorem Piece.av_fit {m : Nat → Option Loc} {L : Names} (q : Piece) : Fit m L (Piece.av q) (Piece.av q) = True := Fit_closed (Piece.av_closed q)
@[simp] theorem Piece.av_fitR {m : Nat → Option Loc} {L : Names} (q : Piece) : FitR m L (Piece.av q) (Piece.av q) = True := FitR_closed (Piece.av_closed q)
@[simp] theorem Piece.av_touch {m : Nat → Option Loc} (q : Piece) : touch m (Piece.av q) (Piece.av q) = [] := touch_closed (Piece.av_closed q)
@[simp] theorem Piece.av_touchR {m : Nat → Option Loc} (q : Piece) : touchR m (Piece.av q) (Piece.av q) = [] := touchR_closed (Piece.av_closed q)
@[simp] theorem Piece.av_stamped {U : Nat → Prop} (q : Piece) : Stamped U (Piece.av q) = True := Stamped_closed (Piece.av_closed q)
@[simp] theorem Piece.av_tup (q : Piece) : (Piece.av q).isTup = false := isTup_closed (Piece.av_closed q)
@[simp] theorem Piece.av_ref (q : Piece) : refOf (Piece.av q) = none := refOf_closed (Piece.av_closed q)
@[simp] theorem Piece.av_put (q : Piece) (x : AV) : putAt true 36 x (Piece.av q) 0 = some x := by simp [Piece.av]
def Pcs (l : List Piece) : List AV := l.map Piece.av
@[simp] theorem Pcs_length (l : List Piece) : (Pcs l).length = l.length := by simp [Pcs]
@[simp] theorem Pcs_closed (l : List Piece) : closeds (Pcs l) = true := by simp [Pcs, closeds_all]
@[simp] theorem Pcs_get (n : Nat) (l : List Piece) : (Pcs l)[n]? = (l[n]?).map Piece.av := by simp [Pcs]
@[simp] theorem Pcs_getElem (n : Nat) (l : List Piece) (h : n < (Pcs l).length) : (Pcs l)[n] = Piece.av (l[n]'(by simpa [Pcs] using h)) := by simp [Pcs]
@[simp] theorem Pcs_append (a b : List Piece) : Pcs a ++ Pcs b = Pcs (a ++ b) := by simp [Pcs]
@[simp] theorem Pcs_drop (n : Nat) (a : List Piece) : (Pcs a).drop n = Pcs (a.drop n) := by simp [Pcs]
@[simp] theorem Pcs_take (n : Nat) (a : List Piece) : (Pcs a).take n = Pcs (a.take n) := by simp [Pcs]
@[simp] theorem Pcs_nil : Pcs [] = [] := (rfl)
structure Mail where
  kind : Int
  plan : Plan
  vote : Vote
  req : Req
  rep : Rep
  height : Int
  blk : Blk
  cert : Cert
  links : List Lnk
  pieces : List Piece
def Mail.zero : Mail := ⟨0, Plan.zero, Vote.zero, Req.zero, Rep.zero, 0, Blk.zero, Cert.zero, [], []⟩
def Mail.av (m : Mail) : AV := .node [.v (.int .i64 m.kind), m.plan.av, m.vote.av, m.req.av, m.rep.avS, .v (.int .i64 m.height), m.blk.avS, m.cert.av, .sl 103 (Lnks m.links), .sl 36 (Pcs m.pieces)]
@[simp] theorem Mail.av_closed (q : Mail) : closed (Mail.av q) = true := by simp [Mail.av]
@[simp] theorem Mail.av_solid (q : Mail) : (Mail.av q).solid = true := by simp [Mail.av]
@[simp] theorem Mail.av_agg (q : Mail) : (Mail.av q).isAgg = true := by simp [Mail.av]
@[simp] theorem Mail.av_size (q : Mail) : (Mail.av q).size = 300 := by simp [Mail.av]
@[simp] theorem Mail.av_sub (q : Mail) : sub true 300 (Mail.av q) 0 = some (Mail.av q) := by simp [Mail.av]
@[simp] theorem Mail.av_good {M : List (Nat × Loc)} (q : Mail) : goodA false M (Mail.av q) = true := goodA_closed (Mail.av_closed q)
@[simp] theorem Mail.av_pairs (q : Mail) : pairsA (Mail.av q) (Mail.av q) = [] := pairsA_closed (Mail.av_closed q)
@[simp] theorem Mail.av_ren {L : Names} {nb gn : Nat} (q : Mail) : renA L nb gn (Mail.av q) = Mail.av q := renA_closed (Mail.av_closed q)
@[simp] theorem Mail.av_fit {m : Nat → Option Loc} {L : Names} (q : Mail) : Fit m L (Mail.av q) (Mail.av q) = True := Fit_closed (Mail.av_closed q)
@[simp] theorem Mail.av_fitR {m : Nat → Option Loc} {L : Names} (q : Mail) : FitR m L (Mail.av q) (Mail.av q) = True := FitR_closed (Mail.av_closed q)
@[simp] theorem Mail.av_touch {m : Nat → Option Loc} (q : Mail) : touch m (Mail.av q) (Mail.av q) = [] := touch_closed (Mail.av_closed q)
@[simp] theorem Mail.av_touchR {m : Nat → Option Loc} (q : Mail) : touchR m (Mail.av q) (Mail.av q) = [] := touchR_closed (Mail.av_closed q)
@[simp] theorem Mail.av_stamped {U : Nat → Prop} (q : Mail) : Stamped U (Mail.av q) = True := Stamped_closed (Mail.av_closed q)
@[simp] theorem Mail.av_tup (q : Mail) : (Mail.av q).isTup = false := isTup_closed (Mail.av_closed q)
@[simp] theorem Mail.av_ref (q : Mail) : refOf (Mail.av q) = none := refOf_closed (Mail.av_closed q)
@[simp] theorem Mail.av_put (q : Mail) (x : AV) : putAt true 300 x (Mail.av q) 0 = some x := by simp [Mail.av]

def linksF : Fmt (List Lnk) := cntF 0 1024 (fun _ => linkF)
def piecesF : Fmt (List Piece) := cntF 0 1024 (fun _ => pieceF)
def Mail.body (m : Mail) : Bytes :=
  if m.kind = 1 then planF.wr m.plan else if m.kind = 2 then voteF.wr m.vote else if m.kind = 3 then m.req.bytes else if m.kind = 4 then be8 m.height ++ m.rep.bytes else if m.kind = 5 then m.blk.bytes ++ m.cert.bytes
  else if m.kind = 6 then be8 m.height else if m.kind = 8 then linksF.wr m.links else if m.kind = 9 then m.blk.bytes ++ m.cert.bytes ++ piecesF.wr m.pieces else []
/-- Whether it can be written. -/
def Mail.ok (m : Mail) : Bool :=
  if m.kind = 1 then m.plan.sig.ok else if m.kind = 2 then m.vote.sig.ok else if m.kind = 5 then m.cert.ok else if m.kind = 8 then m.links.all (fun l => l.cert.ok) else if m.kind = 9 then m.cert.ok else true
def Mail.bytes (m : Mail) : Bytes := be8 m.kind ++ m.body
end Go.Proofs.YtbmdaaehogpeeaaDoor.WL

end
section
/-
  CHAPTER 05: arguments that come in.
-/
namespace Go.Proofs.YtbmdaaehogpeeaaDoor.WL
open Go

abbrev Ty.dgs : Ty := .sl 32 32 Ty.dg
abbrev Ty.sig : Ty := .st [.int .i64, .st [Ty.dgs, Ty.dgs], Ty.dgs]
structure KeyD where
  root : Dg
  height : Int
def KeyD.av (k : KeyD) : AV := .node [dv k.root, .v (.int .i64 k.height)]
abbrev Ty.key : Ty := .st [Ty.dg, .int .i64]
end Go.Proofs.YtbmdaaehogpeeaaDoor.WL

end
section
/-
  CHAPTER 09: arguments that come in.
-/
namespace Go.Proofs.YtbmdaaehogpeeaaDoor.WL
open Go

abbrev Ty.chg : Ty := .st [.int .i64, .int .i64, .int .i64, .st [Ty.dg, .int .i64]]
abbrev Ty.req : Ty := .st [.int .i64, .int .i64, .st [.int .i64, .str, .str, .str, Ty.chg]]
/-- What is known of a request that comes in. -/
structure Req.In (q : Req) : Prop where
  client : W64 q.client
  num : W64 q.num
  kind : W64 q.kind
  ckind : W64 q.ch.kind
  cid : W64 q.ch.id
  cnew : W64 q.ch.new
  cheight : W64 q.ch.height
  key : q.key.length ≤ reachBytes
  val : q.val.length ≤ reachBytes
  old : q.old.length ≤ reachBytes
abbrev Ty.rep : Ty := .st [.int .i64, .int .i64, .int .i64, .sl 1 16 .str]
theorem ty_rep {a : AV} (h : TyOk Ty.rep a) : ∃ q : Rep, a = q.avS ∧ (W64 q.client ∧ W64 q.num ∧ W64 q.code) ∧ ∀ v ∈ q.vals, v.length ≤ reachBytes := by
  obtain ⟨a1, a2, a3, a4, rfl, h1, h2, h3, h4⟩ := ty_st4 h
  obtain ⟨n1, rfl, w1⟩ := ty_int h1
  obtain ⟨n2, rfl, w2⟩ := ty_int h2
  obtain ⟨n3, rfl, w3⟩ := ty_int h3
  obtain ⟨ss, rfl, hs⟩ := ty_strs h4
  exact ⟨⟨n1, n2, n3, ss⟩, rfl, ⟨w1, w2, w3⟩, hs.2⟩
end Go.Proofs.YtbmdaaehogpeeaaDoor.WL

end
section
/-
  CHAPTER 12: arguments that come in.
-/
namespace Go.Proofs.YtbmdaaehogpeeaaDoor.WL
open Go

abbrev Ty.blk : Ty := .st [.int .i64, .int .i64, Ty.dg, Ty.dg, Ty.dg, .sl 42 136 Ty.req]
/-- What is known of a block that comes in. -/
structure Blk.In (b : Blk) : Prop where
  epoch : W64 b.epoch
  height : W64 b.height
  len : b.qs.length * 136 ≤ reachBytes
  qs : ∀ q ∈ b.qs, q.In
theorem Blk.In.texts {b : Blk} (h : b.In) : ∀ q ∈ b.qs, q.key.length ≤ reachBytes ∧ q.val.length ≤ reachBytes ∧ q.old.length ≤ reachBytes :=
  fun q hq => ⟨(h.qs q hq).key, (h.qs q hq).val, (h.qs q hq).old⟩
end Go.Proofs.YtbmdaaehogpeeaaDoor.WL

end
section
/-
  CHAPTERS 13, 08, 14, 15, 20: arguments that come in.
-/
namespace Go.Proofs.YtbmdaaehogpeeaaDoor.WL
open Go

theorem ty_list {α : Type} {e : Ty} {sz bytes : Nat} {f : α → AV} {p : α → Prop} (he : ∀ a, TyOk e a → ∃ x, a = f x ∧ p x) {a : AV} (h : TyOk (.sl sz bytes e) a) : ∃ xs : List α, a = .sl sz (xs.map f) ∧ xs.length * bytes ≤ reachBytes ∧ ∀ x ∈ xs, p x := by
  obtain ⟨xs, rfl, ⟨_, h1⟩, h2⟩ := ty_sl h
  obtain ⟨ns, rfl, h3⟩ := map_of_all (f := f) (p := p) fun x hx => he x (h2 x hx)
  exact ⟨ns, rfl, by simpa using h1, h3⟩

abbrev Ty.vote : Ty := .st [.int .i64, .int .i64, .int .i64, .int .i64, Ty.dg, .int .i64, Ty.sig]
structure Vote.In (v : Vote) : Prop where
  kind : W64 v.kind
  epoch : W64 v.epoch
  height : W64 v.height
  round : W64 v.round
  src : W64 v.src
  leaf : W64 v.sig.leaf
abbrev Ty.plan : Ty := .st [.int .i64, .int .i64, .int .i64, .int .i64, Ty.blk, .int .i64, Ty.sig]
structure Plan.In (p : Plan) : Prop where
  epoch : W64 p.epoch
  height : W64 p.height
  round : W64 p.round
  valid : W64 p.valid
  blk : p.blk.In
  src : W64 p.src
  leaf : W64 p.sig.leaf
abbrev Ty.mem : Ty := .st [.int .i64, .st [Ty.dg, .int .i64]]
def Mem.In (m : Mem) : Prop := W64 m.id ∧ W64 m.height
theorem ty_mem {a : AV} (h : TyOk Ty.mem a) : ∃ m : Mem, a = m.av ∧ m.In := by
  obtain ⟨a1, a2, rfl, h1, h2⟩ := ty_st2 h
  obtain ⟨n, rfl, w1⟩ := ty_int h1
  obtain ⟨b1, b2, rfl, g1, g2⟩ := ty_st2 h2
  obtain ⟨d, rfl⟩ := ty_dg g1
  obtain ⟨k, rfl, w2⟩ := ty_int g2
  exact ⟨⟨n, d, k⟩, rfl, w1, w2⟩
abbrev Ty.conf : Ty := .st [.int .i64, .sl 34 48 Ty.mem]
structure Conf.In (c : Conf) : Prop where
  epoch : W64 c.epoch
  len : c.ms.length * 48 ≤ reachBytes
  ms : ∀ m ∈ c.ms, m.In
theorem ty_conf {a : AV} (h : TyOk Ty.conf a) : ∃ c : Conf, a = c.av ∧ c.In := by
  obtain ⟨a1, a2, rfl, h1, h2⟩ := ty_st2 h
  obtain ⟨n, rfl, w1⟩ := ty_int h1
  obtain ⟨ms, rfl, l, hm⟩ := ty_list (fun _ => ty_mem) h2
  exact ⟨⟨n, ms⟩, rfl, w1, l, hm⟩
abbrev Ty.cert : Ty := .st [.int .i64, .sl 41 152 Ty.vote]
structure Cert.In (c : Cert) : Prop where
  round : W64 c.round
  len : c.votes.length * 152 ≤ reachBytes
  votes : ∀ v ∈ c.votes, v.In
structure Lnk.In (l : Lnk) : Prop where
  blk : l.blk.In
  cert : l.cert.In
  conf : l.conf.In
abbrev Ty.piece : Ty := .st [.int .i64, .int .i64, Ty.dg, .str, Ty.dgs]
structure Piece.In (p : Piece) : Prop where
  at_ : W64 p.at_
  count : W64 p.count
  data : p.data.length ≤ reachBytes
  path : p.path.length ≤ reachBytes
structure Mail.In (m : Mail) : Prop where
  kind : W64 m.kind
  plan : m.plan.In
  vote : m.vote.In
  req : m.req.In
  rep : (W64 m.rep.client ∧ W64 m.rep.num ∧ W64 m.rep.code) ∧ ∀ v ∈ m.rep.vals, v.length ≤ reachBytes
  height : W64 m.height
  blk : m.blk.In
  cert : m.cert.In
  linksn : m.links.length * 200 ≤ reachBytes
  links : ∀ l ∈ m.links, l.In
  piecesn : m.pieces.length * 88 ≤ reachBytes
  pieces : ∀ p ∈ m.pieces, p.In
end Go.Proofs.YtbmdaaehogpeeaaDoor.WL

end
