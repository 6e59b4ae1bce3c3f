
import Derived.Test.YtjlmpdbagmdbiaaDoorWm12
section
namespace Go.Proofs.YtjlmpdbagmdbiaaDoor.WL
open Go
set_option maxHeartbeats 8000000
variable {G : Nat → Option AV}
attribute [local irreducible] sha comp hb checkK idxOf Vote.signs Vote.good rightV Conf.good Blk.good Blk.dg quorum
instance : Inhabited Vote := ⟨Vote.zero⟩
def lastSrc (vs : List Vote) : Nat → Int
  | 0 => 0
  | j + 1 => (vs[j]!).src
def voteOk (c : Conf) (b : Blk) (x : Cert) (j : Nat) : Bool :=
  decide (lastSrc x.votes j < (x.votes[j]!).src) && decide ((x.votes[j]!).kind = 2) && decide ((x.votes[j]!).height = b.height) && decide ((x.votes[j]!).round = x.round) && decide ((x.votes[j]!).dg = b.dg) && rightV c (x.votes[j]!)
def checkC (c : Conf) (b : Blk) (x : Cert) : Bool :=
  c.good && b.good && decide (b.epoch = c.epoch) && decide (quorum c.ms.length ≤ x.votes.length) && (List.range x.votes.length).all (voteOk c b x)
theorem JNK {c : Conf} {b : Blk} {x : Cert} {j : Nat} (h : j < x.votes.length) (hb : voteOk c b x j = false) : checkC c b x = false := by
  have : (List.range x.votes.length).all (voteOk c b x) = false := by
    rw [List.all_eq_false]
    exact ⟨j, List.mem_range.2 h, by simp [hb]⟩
  simp [checkC, this]
theorem JLP {c : Conf} {b : Blk} {x : Cert} (h1 : c.good = true) (h2 : b.good = true) (h3 : b.epoch = c.epoch) (h4 : quorum c.ms.length ≤ x.votes.length) (h : ∀ j, j < x.votes.length → voteOk c b x j = true) : checkC c b x = true := by
  have : (List.range x.votes.length).all (voteOk c b x) = true := List.all_eq_true.2 fun j hj => h j (List.mem_range.1 hj)
  simp [checkC, this, h1, h2, h3, h4]
theorem Conf.good_ne {c : Conf} (h : c.good = true) : c.ms ≠ [] := by
  intro e
  simp [Conf.good, e] at h
theorem JHl (c : Conf) (b : Blk) (x : Cert) (hn : c.ms.length ≤ 1000000) (hm : ∀ m ∈ c.ms, W64 m.height) (hv : ∀ v ∈ x.votes, W64 v.sig.leaf) (hl : x.votes.length ≤ 1000000) (hb : b.bytes.length ≤ 50000000) (hq : b.qs.length ≤ 1000000) :
    Meets Tryd.prog Gt Jj4 [c.av, b.avS, x.av] [] true (.v (.bool (checkC c b x))) [] := by
  refine Jc mix JHF ⟨by simp, by simp, by simp⟩ ?_
  have m1 := Jvy (G := Gt) c
  have m2 := JIp (G := Gt) b
  have m3 := JFK (G := Gt) c hn
  have m4 := JFt b hb hq
  cases h1 : c.good
  · rw [h1] at m1
    simp [Conf.av, Blk.avS, Cert.av, dv]
    refine Ja m1 ?_ ?_
    · simp [Conf.av, dv]
    simp
    refine Jb (.inr rfl) ?_
    simp [checkC, h1]
  cases h2 : b.good
  · rw [h1] at m1
    rw [h2] at m2
    simp [Conf.av, Blk.avS, Cert.av, dv]
    refine Ja m1 ?_ ?_
    · simp [Conf.av, dv]
    simp
    refine Ja m2 ?_ ?_
    · simp [Blk.avS, dv]
    simp
    refine Jb (.inr rfl) ?_
    simp [checkC, h2]
  by_cases h3 : b.epoch = c.epoch
  case neg =>
    rw [h1] at m1
    rw [h2] at m2
    simp [Conf.av, Blk.avS, Cert.av, dv]
    refine Ja m1 ?_ ?_
    · simp [Conf.av, dv]
    simp
    refine Ja m2 ?_ ?_
    · simp [Blk.avS, dv]
    simp [h3]
    refine Jb (.inr rfl) ?_
    simp [checkC, h3]
  have h3' := eq_true h3
  by_cases h4 : quorum c.ms.length ≤ x.votes.length
  case neg =>
    have h4' : x.votes.length < quorum c.ms.length := by omega
    rw [h1] at m1
    rw [h2] at m2
    simp [Conf.av, Blk.avS, Cert.av, dv]
    refine Ja m1 ?_ ?_
    · simp [Conf.av, dv]
    simp
    refine Ja m2 ?_ ?_
    · simp [Blk.avS, dv]
    simp [h3']
    refine Ja m3 ?_ ?_
    · simp [Conf.av, dv]
    simp [h4']
    refine Jb (.inr rfl) ?_
    simp [checkC, h4]
  have hno := @JNK c b x
  have hyes := JLP h1 h2 h3 h4
  have hvo : ∀ j, voteOk c b x j = (decide (lastSrc x.votes j < (x.votes[j]!).src) && decide ((x.votes[j]!).kind = 2) && decide ((x.votes[j]!).height = b.height) && decide ((x.votes[j]!).round = x.round) && decide ((x.votes[j]!).dg = b.dg) && rightV c (x.votes[j]!)) := fun _ => rfl
  have hms := Conf.good_ne h1
  have m5 : ∀ v ∈ x.votes, Meets Tryd.prog Gt Jgp [c.av, v.av] [] true (.v (.bool (rightV c v))) [] := fun v hv' => JGc c v hms hm (hv v hv')
  have h4' : ¬ x.votes.length < quorum c.ms.length := by omega
  rw [h1] at m1
  rw [h2] at m2
  generalize checkC c b x = res at *
  obtain ⟨ok, hok⟩ : ∃ ok : Nat → Bool, ok = voteOk c b x := ⟨_, rfl⟩
  rw [← hok] at hno hyes hvo
  generalize b.dg = d at *
  generalize quorum c.ms.length = qn at *
  obtain ⟨R, hR⟩ : ∃ R : Vote → Bool, R = rightV c := ⟨_, rfl⟩
  rw [← hR] at hvo m5
  simp [Conf.av, Blk.avS, Cert.av, dv]
  refine Ja m1 ?_ ?_
  · simp [Conf.av, dv]
  simp
  refine Ja m2 ?_ ?_
  · simp [Blk.avS, dv]
  simp [h3']
  refine Ja m3 ?_ ?_
  · simp [Conf.av, dv]
  simp [h4', h4]
  refine Ja m4 ?_ ?_
  · simp [Blk.avS, dv]
  simp [dv]
  refine go_up x.votes.length (fun j (_ : Unit) => ∀ i, i < j → ok i = true) (fun j (_ : Unit) q => ⟨[(3, .ptr 3 q 0), (4, .ptr 4 q 0), (5, .ptr 5 q 0), (7, .ptr 7 q 0), (8, .v (.int .i64 (lastSrc x.votes j))), (37, .sl 41 (Votes x.votes)), (38, .v (.int .i64 (x.votes.length : Nat))), (39, .v (.int .i64 (j : Nat)))],
    [(3, .var q (.node [.v (.int .i64 c.epoch), .sl 34 (Mems c.ms)])), (4, .var q (.node [.v (.int .i64 b.epoch), .v (.int .i64 b.height), .arr 1 (B b.prev.bs), .arr 1 (B b.state.bs), .arr 1 (B b.next.bs), .sl 42 (Reqs b.qs)])), (5, .var q (.node [.v (.int .i64 x.round), .sl 41 (Votes x.votes)])), (7, .var q (.arr 1 (B d.bs)))], q + 1⟩) () _ (Weak.re (by simp [lastSrc])) (by intro i h; omega) ?_ ?_
  · intro j _ q hj hx
    have hw : IntKind.i64.wrap ((j : Int) + 1) = ((j + 1 : Nat) : Int) := Je (by omega)
    obtain ⟨v, hv'⟩ : ∃ v, x.votes[j] = v := ⟨_, rfl⟩
    have hvb : x.votes[j]! = v := by simp [hj, hv']
    have e := hvo j
    rw [hvb] at e
    have m6 := m5 v (by rw [← hv']; exact List.getElem_mem hj)
    have hf : ok j = false → res = false := hno hj
    have hls : lastSrc x.votes (j+1) = v.src := by simp [lastSrc, hvb]
    generalize lastSrc x.votes j = ls at *
    have hnext : ok j = true → ∀ i, i < j + 1 → ok i = true := by
      intro h i hi
      rcases (show i < j ∨ i = j by omega) with h1 | rfl
      · exact hx i h1
      · exact h
    by_cases c1 : v.src ≤ ls
    · have hr := hf (by rw [e]; simp; omega)
      simp [hj, hv', Vote.av, dv, c1]
      refine Jb (.inr rfl) ?_
      simp [hr]
    by_cases c2 : v.kind = 2
    case neg =>
      have hr := hf (by rw [e]; simp [c2])
      simp [hj, hv', Vote.av, dv, c1, c2]
      refine Jb (.inr rfl) ?_
      simp [hr]
    by_cases c3 : v.height = b.height
    case neg =>
      have hr := hf (by rw [e]; simp [c3])
      simp [hj, hv', Vote.av, dv, c1, eq_true c2, c3]
      refine Jb (.inr rfl) ?_
      simp [hr]
    by_cases c4 : v.round = x.round
    case neg =>
      have hr := hf (by rw [e]; simp [c4])
      simp [hj, hv', Vote.av, dv, c1, eq_true c2, eq_true c3, c4]
      refine Jb (.inr rfl) ?_
      simp [hr]
    by_cases c5 : v.dg = d
    case neg =>
      have hr := hf (by rw [e]; simp [c5])
      simp [hj, hv', Vote.av, dv, c1, eq_true c2, eq_true c3, eq_true c4, c5]
      refine Jb (.inr rfl) ?_
      simp [hr]
    simp [hj, hv', Vote.av, dv, c1, eq_true c2, eq_true c3, eq_true c4, eq_true c5]
    refine Ja m6 ?_ ?_
    · simp [Conf.av, Vote.av, dv]
    simp
    cases hb' : R v
    · have hr := hf (by rw [e]; simp [hb'])
      simp
      refine Jb (.inr rfl) ?_
      simp [hr]
    · have hok' : ok j = true := by
        rw [e, hb']
        simp [c2, c3, c4, c5]
        omega
      simp [hw]
      exact ⟨(), _, Weak.re (by simp [hls]), hnext hok'⟩
  · intro _ q hx
    have hr := hyes hx
    simp
    refine Jb (.inr rfl) ?_
    simp [hr]
end Go.Proofs.YtjlmpdbagmdbiaaDoor.WL
end
section
namespace Go.Proofs.YtjlmpdbagmdbiaaDoor.WL
open Go
set_option maxHeartbeats 8000000
variable {G : Nat → Option AV}
def stepK (c : Conf) (h : Int) (l : Lnk) : Int :=
  if l.blk.height ≤ h ∨ l.conf.good = false ∨ l.conf.epoch ≤ c.epoch then 12
  else if checkC c l.blk l.cert = false then 10
  else if l.conf.dg = l.blk.next then 0 else 13
structure Lnk.Tame (c : Conf) (l : Lnk) : Prop where
  cms : c.ms.length ≤ 1000
  lms : l.conf.ms.length ≤ 1000
  heights : ∀ m ∈ c.ms, W64 m.height
  leaves : ∀ v ∈ l.cert.votes, W64 v.sig.leaf
  votes : l.cert.votes.length ≤ 1000000
  bytes : l.blk.bytes.length ≤ 40000000
  qs : l.blk.qs.length ≤ 1000000
attribute [local irreducible] sha comp hb checkK idxOf Vote.signs Vote.good rightV Conf.good Blk.good Blk.dg quorum checkC Conf.dg
theorem JBp (c : Conf) (h : Int) (l : Lnk) (ht : l.Tame c) : Meets Tryd.prog Gt JbH [c.av, .v (.int .i64 h), l.av] [] true (.v (.int .i64 (stepK c h l))) [] := by
  refine Jc mix JHO ⟨by simp, by simp, by simp⟩ ?_
  have m1 := Jvy (G := Gt) l.conf
  have m2 := JHl c l.blk l.cert (by have := ht.cms; omega) ht.heights ht.leaves ht.votes (by have := ht.bytes; omega) ht.qs
  have m3 := JFW l.conf ht.lms
  unfold stepK
  by_cases c1 : l.blk.height ≤ h
  · simp [Conf.av, Lnk.av, Blk.avS, dv, c1]
    refine Jb (.inr rfl) ?_
    simp
  cases h2 : l.conf.good
  · rw [h2] at m1
    simp [Conf.av, Lnk.av, Blk.avS, dv, c1]
    refine Ja m1 ?_ ?_
    · simp [Conf.av]
    simp
    refine Jb (.inr rfl) ?_
    simp
  rw [h2] at m1
  by_cases c3 : l.conf.epoch ≤ c.epoch
  · simp [Conf.av, Lnk.av, Blk.avS, dv, c1]
    refine Ja m1 ?_ ?_
    · simp [Conf.av]
    simp [c3]
    refine Jb (.inr rfl) ?_
    simp
  cases h4 : checkC c l.blk l.cert
  · rw [h4] at m2
    simp [Conf.av, Lnk.av, Blk.avS, dv, c1]
    refine Ja m1 ?_ ?_
    · simp [Conf.av]
    simp [c3]
    refine Ja m2 ?_ ?_
    · simp [Conf.av, Blk.avS, dv]
    simp
    refine Jb (.inr rfl) ?_
    simp
  rw [h4] at m2
  generalize l.conf.dg = d at *
  by_cases c5 : d = l.blk.next
  · simp [Conf.av, Lnk.av, Blk.avS, dv, c1]
    refine Ja m1 ?_ ?_
    · simp [Conf.av]
    simp [c3]
    refine Ja m2 ?_ ?_
    · simp [Conf.av, Blk.avS, dv]
    simp
    refine Ja m3 ?_ ?_
    · simp [Conf.av]
    simp [dv, eq_true c5]
    refine Jb (.inr rfl) ?_
    simp [c5]
  · simp [Conf.av, Lnk.av, Blk.avS, dv, c1]
    refine Ja m1 ?_ ?_
    · simp [Conf.av]
    simp [c3]
    refine Ja m2 ?_ ?_
    · simp [Conf.av, Blk.avS, dv]
    simp
    refine Ja m3 ?_ ?_
    · simp [Conf.av]
    simp [dv, c5]
    refine Jb (.inr rfl) ?_
    simp [c5]
end Go.Proofs.YtjlmpdbagmdbiaaDoor.WL
end
section
namespace Go.Proofs.YtjlmpdbagmdbiaaDoor.WL
open Go
set_option maxHeartbeats 8000000
variable {G : Nat → Option AV}
instance : Inhabited Lnk := ⟨Lnk.zero⟩
def runK : Conf → Int → List Lnk → Nat → Conf × Nat × Int
  | c, _, [], i => (c, i, 0)
  | c, h, l :: ls, i => if stepK c h l = 0 then runK l.conf l.blk.height ls (i + 1) else (Conf.zero, i, stepK c h l)
def checkL (c : Conf) (ls : List Lnk) : Conf × Nat × Int := if c.good = false then (Conf.zero, 0, 1) else if 1024 < ls.length then (Conf.zero, 0, 11) else runK c 0 ls 0
def chAv (r : Conf × Nat × Int) : AV := .tup [r.1.av, .v (.int .i64 (r.2.1 : Nat)), .v (.int .i64 r.2.2)]
structure Tames (c : Conf) (ls : List Lnk) : Prop where
  few : ls.length ≤ 1024
  cms : c.ms.length ≤ 1000
  heights : ∀ m ∈ c.ms, W64 m.height
  links : ∀ l ∈ ls, l.conf.ms.length ≤ 1000 ∧ (∀ m ∈ l.conf.ms, W64 m.height) ∧ (∀ v ∈ l.cert.votes, W64 v.sig.leaf) ∧ l.cert.votes.length ≤ 1000000 ∧ l.blk.bytes.length ≤ 40000000 ∧ l.blk.qs.length ≤ 1000000
def Conf.calm (c : Conf) : Prop := c.ms.length ≤ 1000 ∧ ∀ m ∈ c.ms, W64 m.height
theorem Tames.tame {c d : Conf} {ls : List Lnk} {l : Lnk} (h : Tames c ls) (hl : l ∈ ls) (hd : d.calm) : l.Tame d := by
  obtain ⟨h1, h2, h3, h4, h5, h6⟩ := h.links l hl
  exact ⟨hd.1, h1, hd.2, h3, h4, h5, h6⟩
theorem Tames.calm {c : Conf} {ls : List Lnk} {l : Lnk} (h : Tames c ls) (hl : l ∈ ls) : l.conf.calm := by
  obtain ⟨h1, h2, _⟩ := h.links l hl
  exact ⟨h1, h2⟩
theorem JPz {c : Conf} {h : Int} {ls : List Lnk} {j : Nat} (hj : j < ls.length) : runK c h (ls.drop j) j = if stepK c h ls[j] = 0 then runK (ls[j]).conf (ls[j]).blk.height (ls.drop (j + 1)) (j + 1) else (Conf.zero, j, stepK c h ls[j]) := by
  rw [List.drop_eq_getElem_cons hj]
  rfl
attribute [local irreducible] sha comp hb checkK idxOf Vote.signs Vote.good rightV Conf.good Blk.good Blk.dg quorum checkC Conf.dg stepK runK
theorem JFL (c : Conf) (ls : List Lnk) (ht : Tames c ls) : Meets Tryd.prog Gt Jiw [c.av, .sl 103 (Lnks ls)] [] false (chAv (checkL c ls)) [] := by
  refine Jc mix JFx ⟨by simp, by simp [chAv], by simp⟩ ?_
  have m1 := Jvy (G := Gt) c
  unfold checkL
  cases h1 : c.good
  · rw [h1] at m1
    simp [Conf.av]
    refine Ja m1 ?_ ?_
    · simp [Conf.av]
    simp
    refine Jb (.inr rfl) ?_
    simp [chAv, Conf.av, Conf.zero]
  rw [h1] at m1
  have hfew := ht.few
  have c2 : ¬ (1024 : Int) < (ls.length : Nat) := by omega
  have c3 : ¬ 1024 < ls.length := by omega
  rw [if_neg (by simp), if_neg c3]
  obtain ⟨res, hres⟩ : ∃ res, runK c 0 ls 0 = res := ⟨_, rfl⟩
  rw [hres]
  simp
  refine Ja m1 ?_ ?_
  · simp
  simp [c2]
  refine go_up ls.length (fun j (p : Conf × Int) => runK p.1 p.2 (ls.drop j) j = res ∧ p.1.calm) (fun j p q => ⟨[(1, .sl 103 (Lnks ls)), (4, .ptr 4 q 0), (7, .ptr 7 q 0), (8, .v (.int .i64 p.2)), (21, .sl 103 (Lnks ls)), (22, .v (.int .i64 (ls.length : Nat))), (23, .v (.int .i64 (j : Nat)))],
    [(4, .var q (.node [.v (.int .i64 0), .v (.slice none 0 0)])), (7, .var q p.1.av)], q + 1⟩) (c, 0) _ (Weak.re (by simp)) ⟨by simpa using hres, ht.cms, ht.heights⟩ ?_ ?_
  · rintro j ⟨d, h⟩ q hj ⟨hr, hcalm⟩
    have hw : IntKind.i64.wrap ((j : Int) + 1) = ((j + 1 : Nat) : Int) := Je (by omega)
    obtain ⟨l, hl⟩ : ∃ l, ls[j] = l := ⟨_, rfl⟩
    have hmem : l ∈ ls := by rw [← hl]; exact List.getElem_mem hj
    have m2 := JBp d h l (ht.tame hmem hcalm)
    have hc2 := ht.calm hmem
    dsimp only at hr
    rw [JPz hj, hl] at hr
    generalize stepK d h l = e at *
    simp [hj, hl]
    refine Ja m2 ?_ ?_
    · simp
    simp [Lnk.av, Blk.avS]
    by_cases he : e = 0
    · rw [if_pos he] at hr
      simp [eq_true he, hw]
      exact ⟨(l.conf, l.blk.height), _, Weak.re (by simp), hr, hc2⟩
    · rw [if_neg he] at hr
      subst hr
      simp [he]
      refine Jb (.inr rfl) ?_
      simp [chAv, Conf.av, Conf.zero]
  · rintro ⟨d, h⟩ q ⟨hr, hcalm⟩
    have hcl : d.ms.length ≤ 1000 := hcalm.1
    have hf : fitsB d.ms.length 48 := fits (by omega) (by omega)
    have hr2 : res = (d, ls.length, 0) := by
      rw [← hr, List.drop_length]
      unfold runK
      rfl
    subst hr2
    simp [Conf.av, hf]
    refine Jb (.inr rfl) ?_
    simp [chAv, Conf.av]
end Go.Proofs.YtjlmpdbagmdbiaaDoor.WL
end
section
namespace Go.Proofs.YtjlmpdbagmdbiaaDoor.WL
open Go
set_option maxHeartbeats 4000000
attribute [local irreducible] comp hb sha leafD pairD secD shutD wholeD pubD ofD
def Dg.one (b : UInt8) : Dg := ⟨b :: zeros 31, by simp⟩
attribute [local irreducible] Dg.one
def Sig.greatF (s : Sig) : Bool := decide (200 < s.op.length) || decide (200 < s.sh.length) || decide (200 < s.path.length)
end Go.Proofs.YtjlmpdbagmdbiaaDoor.WL
end
section
namespace Go.Proofs.YtjlmpdbagmdbiaaDoor.WL
open Go
set_option maxHeartbeats 8000000
variable {G : Nat → Option AV}
attribute [local irreducible] comp hb sha leafD pairD secD shutD wholeD pubD ofD Dg.one
def Blk.h1 : Blk := ⟨0, 1, Dg.zero, Dg.zero, Dg.zero, []⟩
end Go.Proofs.YtjlmpdbagmdbiaaDoor.WL
end
section
namespace Go.Proofs.YtjlmpdbagmdbiaaDoor.WL
open Go
set_option maxHeartbeats 4000000
variable {G : Nat → Option AV}
def Blk.one : Blk := ⟨0, 1, Dg.zero, Dg.zero, Dg.zero, []⟩
end Go.Proofs.YtjlmpdbagmdbiaaDoor.WL
end
section
namespace Go.Proofs.YtjlmpdbagmdbiaaDoor.WL
open Go
set_option maxHeartbeats 4000000
variable {G : Nat → Option AV}
theorem JJO {b : Blk} {m : Nat} (h : b.great m = false) : b.qs.length ≤ 40 ∧ (reqsB b.qs).length ≤ m := by
  simp only [Blk.great, Bool.or_eq_false_iff, decide_eq_false_iff_not] at h
  omega
theorem JMx {qs : List Req} {q : Req} (h : q ∈ qs) : q.bytes.length ≤ (reqsB qs).length := by
  obtain ⟨a, b, rfl⟩ := List.append_of_mem h
  simp only [reqsB, List.flatMap_append, List.flatMap_cons, List.length_append]
  omega
theorem Blk.fits_of {b : Blk} {m : Nat} (h : b.great m = false) (hm : m ≤ 1000000) (he : W64 b.epoch) (hh : W64 b.height)
    (hq : ∀ q ∈ b.qs, W64 q.client ∧ W64 q.num ∧ W64 q.kind ∧ W64 q.ch.kind ∧ W64 q.ch.id ∧ W64 q.ch.new ∧ W64 q.ch.height) : b.Fits := by
  obtain ⟨h1, h2⟩ := JJO h
  refine ⟨he, hh, by omega, fun q hm' => ?_⟩
  obtain ⟨k1, k2, k3, k4, k5, k6, k7⟩ := hq q hm'
  have := JMx hm'
  rw [Req.bytes_len] at this
  exact ⟨k1, k2, k3, k4, k5, k6, k7, by omega, by omega, by omega⟩
end Go.Proofs.YtjlmpdbagmdbiaaDoor.WL
end
section
namespace Go.Proofs.YtjlmpdbagmdbiaaDoor.WL
open Go
set_option maxHeartbeats 8000000
variable {G : Nat → Option AV}
noncomputable def JHj : CCode :=
  .seq (.region Jiv none []) (.seq (.region Jit none [1]) (.ghost (.seq (.region Jis none [1, 2, 3, 4]) (.seq (.region Jip none [0]) .ret))))
theorem JOl : chkFn Tryd.prog Jhy JHj JDm 0 = true := by kernel_rfl
def conf15 : Conf := ⟨0, [⟨1, Dg.zero, 0⟩]⟩
theorem check15 : checkL conf15 [] = (conf15, 0, 0) := by
  have hg : conf15.good = true := by simp [conf15, Conf.good, memOk, Mem.good]
  unfold checkL
  rw [hg]
  rfl
theorem step15 : stepK conf15 0 Lnk.zero = 12 := by
  unfold stepK
  rw [if_pos (.inl (by simp [Lnk.zero, Blk.zero]))]
attribute [local irreducible] sha comp hb checkK idxOf Vote.signs Vote.good rightV Conf.good Blk.good Blk.dg quorum checkC Conf.dg stepK runK checkL
theorem Jj8 : Meets Tryd.prog Gt Jhy [] [] true (.v (.bool true)) [] := by
  refine JCb mix JOl ⟨by simp, by simp, by simp⟩ (JKh ?_)
  have hz : Blk.zero.bytes.length = 120 := by rw [Blk.bytes_len]; rfl
  have m1 := JFL conf15 [] ⟨by simp, by simp [conf15], by simp [conf15, W64], by simp⟩
  rw [check15] at m1
  have m2 := JBp conf15 0 Lnk.zero ⟨by simp [conf15], by simp [Lnk.zero, Conf.zero], by simp [conf15, W64], by simp [Lnk.zero, Cert.zero], by simp [Lnk.zero, Cert.zero], by show Blk.zero.bytes.length ≤ 40000000; omega, by simp [Lnk.zero, Blk.zero]⟩
  rw [step15] at m2
  simp [JHj]
  refine go_ghost ⟨[(1, .ptr 1 8 0)], [(1, .var 8 conf15.av)], 9⟩ (Weak.re (by simp [conf15, Conf.av, Mems, Mem.av, dv])) ?_
  simp
  have hl1 : conf15.ms.length = 1 := rfl
  refine Ja m1 ?_ ?_
  · simp
  simp [chAv, Conf.av, hl1]
  refine Ja m2 ?_ ?_
  · simp [Lnk.av, Lnk.zero, Blk.avS, Blk.zero, Cert.av, Cert.zero, Conf.av, Conf.zero, dv]
  simp
  refine Jb (.inr rfl) ?_
  simp
def greatL (l : Lnk) : Bool := decide (20 < l.conf.ms.length) || decide (12 < l.cert.votes.length) || l.blk.great 4096 || l.cert.votes.any fun v => v.sig.greatF
def greatN (c : Conf) (ls : List Lnk) : Bool := decide (20 < c.ms.length) || decide (6 < ls.length) || ls.any greatL
theorem JF8 (c : Conf) (ls : List Lnk) (hf : ∀ l ∈ ls, ∀ q ∈ l.blk.qs, q.key.length ≤ reachBytes ∧ q.val.length ≤ reachBytes ∧ q.old.length ≤ reachBytes) :
    Meets Tryd.prog G JmS [c.av, .sl 103 (Lnks ls)] [] true (.v (.bool (greatN c ls))) [] := by
  refine Jc mix JJt ⟨by simp, by simp, by simp⟩ ?_
  unfold greatN
  by_cases c1 : (20 : Int) < (c.ms.length : Nat)
  · have d1 : 20 < c.ms.length := by omega
    simp [Conf.av, c1]
    refine Jb (.inr rfl) ?_
    simp [d1]
  have d1 : ¬ 20 < c.ms.length := by omega
  by_cases c2 : (6 : Int) < (ls.length : Nat)
  · have d2 : 6 < ls.length := by omega
    simp [Conf.av, c1, c2]
    refine Jb (.inr rfl) ?_
    simp [d2]
  have d2 : ¬ 6 < ls.length := by omega
  have hres : (decide (20 < c.ms.length) || decide (6 < ls.length) || ls.any greatL) = ls.any greatL := by simp [d1, d2]
  rw [hres]
  obtain ⟨res, hr0⟩ : ∃ res, ls.any greatL = res := ⟨_, rfl⟩
  rw [hr0]
  simp [Conf.av, c1, c2]
  refine go_up ls.length (fun j (_ : Unit) => ∀ i (h : i < ls.length), i < j → greatL ls[i] = false) (fun j (_ : Unit) q => ⟨[(18, .sl 103 (Lnks ls)), (19, .v (.int .i64 (ls.length : Nat))), (20, .v (.int .i64 (j : Nat)))], [], q + 1⟩) () _ (Weak.re (by simp)) (by intro i _ h; omega) ?_ ?_
  · intro j _ q hj hx
    have hw : IntKind.i64.wrap ((j : Int) + 1) = ((j + 1 : Nat) : Int) := Je (by omega)
    obtain ⟨l, hl⟩ : ∃ l, ls[j] = l := ⟨_, rfl⟩
    have hmem : l ∈ ls := by rw [← hl]; exact List.getElem_mem hj
    have hyes : greatL l = true → res = true := fun h => by rw [← hr0]; exact List.any_eq_true.2 ⟨l, hmem, h⟩
    have m1 := JHu (G := G) l.blk 4096 (by omega) (hf l hmem)
    simp only [Int.cast_ofNat_Int] at m1
    by_cases e1 : (20 : Int) < (l.conf.ms.length : Nat)
    · have hr := hyes (by simp [greatL, show 20 < l.conf.ms.length by omega])
      simp [hj, hl, Lnk.av, Conf.av, Cert.av, Blk.avS, e1]
      refine Jb (.inr rfl) ?_
      simp [hr]
    by_cases e2 : (12 : Int) < (l.cert.votes.length : Nat)
    · have hr := hyes (by simp [greatL, show 12 < l.cert.votes.length by omega])
      simp [hj, hl, Lnk.av, Conf.av, Cert.av, Blk.avS, e1, e2]
      refine Jb (.inr rfl) ?_
      simp [hr]
    cases g : l.blk.great 4096
    case true =>
      rw [g] at m1
      have hr := hyes (by simp [greatL, g])
      simp [hj, hl, Lnk.av, Conf.av, Cert.av, Blk.avS, e1, e2]
      refine Ja m1 ?_ ?_
      · simp [Blk.avS]
      simp
      refine Jb (.inr rfl) ?_
      simp [hr]
    rw [g] at m1
    have hno : (∀ v ∈ l.cert.votes, v.sig.greatF = false) → greatL l = false := by
      intro h
      have h1 : (l.cert.votes.any fun v => v.sig.greatF) = false := by
        rw [List.any_eq_false]
        intro v hv
        simp [h v hv]
      simp only [greatL, g, h1, Bool.or_false, Bool.or_eq_false_iff, decide_eq_false_iff_not]
      omega
    have hy2 : ∀ v ∈ l.cert.votes, v.sig.greatF = true → res = true := fun v hv h => hyes (by
      have h1 : (l.cert.votes.any fun v => v.sig.greatF) = true := List.any_eq_true.2 ⟨v, hv, h⟩
      simp [greatL, h1])
    have hlen : l.cert.votes.length ≤ 12 := by omega
    generalize hvs : l.cert.votes = vs at *
    simp [hj, hl, Lnk.av, Conf.av, Cert.av, Blk.avS, e1, e2, hvs]
    refine Ja m1 ?_ ?_
    · simp [Blk.avS]
    simp
    refine go_up vs.length (fun i (_ : Unit) => ∀ k (h : k < vs.length), k < i → vs[k].sig.greatF = false) (fun i (_ : Unit) q => ⟨[(18, .sl 103 (Lnks ls)), (19, .v (.int .i64 (ls.length : Nat))), (20, .v (.int .i64 (j : Nat))), (43, .sl 41 (Votes vs)), (44, .v (.int .i64 (vs.length : Nat))), (45, .v (.int .i64 (i : Nat)))], [], q + 1⟩) () _ (Weak.re (by simp)) (by intro i _ h; omega) ?_ ?_
    · intro i _ q hi hx2
      have hw2 : IntKind.i64.wrap ((i : Int) + 1) = ((i + 1 : Nat) : Int) := Je (by omega)
      obtain ⟨v, hv⟩ : ∃ v, vs[i] = v := ⟨_, rfl⟩
      have hyv := hy2 v (by rw [← hv]; exact List.getElem_mem hi)
      by_cases a1 : (200 : Int) < (v.sig.op.length : Nat)
      · have hr := hyv (by simp [Sig.greatF, show 200 < v.sig.op.length by omega])
        simp [hi, hv, Vote.av, Sig.avS, a1]
        refine Jb (.inr rfl) ?_
        simp [hr]
      by_cases a2 : (200 : Int) < (v.sig.sh.length : Nat)
      · have hr := hyv (by simp [Sig.greatF, show 200 < v.sig.sh.length by omega])
        simp [hi, hv, Vote.av, Sig.avS, a1, a2]
        refine Jb (.inr rfl) ?_
        simp [hr]
      by_cases a3 : (200 : Int) < (v.sig.path.length : Nat)
      · have hr := hyv (by simp [Sig.greatF, show 200 < v.sig.path.length by omega])
        simp [hi, hv, Vote.av, Sig.avS, a1, a2, a3]
        refine Jb (.inr rfl) ?_
        simp [hr]
      have hnv : v.sig.greatF = false := by simp [Sig.greatF]; omega
      simp [hi, hv, Vote.av, Sig.avS, a1, a2, a3, hw2]
      refine ⟨(), _, Weak.re (by simp), ?_⟩
      intro k hk hki
      rcases (show k < i ∨ k = i by omega) with h1 | rfl
      · exact hx2 k hk h1
      · rw [hv]; exact hnv
    · intro _ q hx2
      have hgl := hno (fun v hv => by
        obtain ⟨k, hk, rfl⟩ := List.getElem_of_mem hv
        exact hx2 k hk hk)
      simp [hw]
      refine ⟨(), _, Weak.re (by simp), ?_⟩
      intro i hi hij
      rcases (show i < j ∨ i = j by omega) with h1 | rfl
      · exact hx i hi h1
      · rw [hl]; exact hgl
  · intro _ q hx
    have hr : res = false := by
      rw [← hr0, List.any_eq_false]
      intro l hl
      obtain ⟨i, hi, rfl⟩ := List.getElem_of_mem hl
      simp [hx i hi hi]
    simp
    refine Jb (.inr rfl) ?_
    simp [hr]
theorem JMP {c : Conf} {ls : List Lnk} (h : greatN c ls = false) : c.ms.length ≤ 20 ∧ ls.length ≤ 6 ∧ ∀ l ∈ ls, l.conf.ms.length ≤ 20 ∧ l.cert.votes.length ≤ 12 ∧ l.blk.bytes.length ≤ 5000 ∧ l.blk.qs.length ≤ 40 ∧ ∀ v ∈ l.cert.votes, v.sig.greatF = false := by
  simp only [greatN, Bool.or_eq_false_iff, decide_eq_false_iff_not, List.any_eq_false] at h
  refine ⟨by omega, by omega, fun l hl => ?_⟩
  have h1 := h.2 l hl
  simp only [greatL, Bool.not_eq_true, Bool.or_eq_false_iff, decide_eq_false_iff_not, List.any_eq_false] at h1
  have h2 := JJO h1.1.2
  rw [Blk.bytes_len]
  exact ⟨by omega, by omega, by omega, by omega, fun v hv => by simpa using h1.2 v hv⟩
end Go.Proofs.YtjlmpdbagmdbiaaDoor.WL
end
section
namespace Go.Proofs.YtjlmpdbagmdbiaaDoor.WL
open Go
theorem JpM {c : Conf} {b : Blk} {x : Cert} (h : checkC c b x = true) : c.good = true ∧ b.good = true ∧ b.epoch = c.epoch ∧ quorum c.ms.length ≤ x.votes.length ∧ ∀ j, j < x.votes.length → voteOk c b x j = true := by
  unfold checkC at h
  simp only [Bool.and_eq_true, decide_eq_true_eq, List.all_eq_true, List.mem_range] at h
  exact ⟨h.1.1.1.1, h.1.1.1.2, h.1.1.2, h.1.2, h.2⟩
theorem JGp {c : Conf} {b : Blk} {x : Cert} {j : Nat} (h : voteOk c b x j = true) : lastSrc x.votes j < (x.votes[j]!).src ∧ (x.votes[j]!).kind = 2 ∧ (x.votes[j]!).height = b.height ∧ (x.votes[j]!).round = x.round ∧ (x.votes[j]!).dg = b.dg ∧ rightV c (x.votes[j]!) = true := by
  unfold voteOk at h
  simp only [Bool.and_eq_true, decide_eq_true_eq] at h
  exact ⟨h.1.1.1.1.1, h.1.1.1.1.2, h.1.1.1.2, h.1.1.2, h.1.2, h.2⟩
theorem JKk (n : Nat) : 0 < quorum n := by unfold quorum; omega
end Go.Proofs.YtjlmpdbagmdbiaaDoor.WL
end
section
namespace Go.Proofs.YtjlmpdbagmdbiaaDoor.WL
open Go
attribute [local irreducible] sha comp hb leafD pairD
theorem JNJ : ∀ (k at_ count : Nat), count ≤ 2 ^ k → plen at_ count ≤ k
  | 0, at_, count, h => by rw [JFY _ _ (by simpa using h)]; exact Nat.le_refl _
  | k + 1, at_, count, h => by
    by_cases h1 : 1 < count
    · rw [JN3 _ _ h1]
      have := JNJ k (at_ / 2) ((count + 1) / 2) (by rw [Nat.pow_succ] at h; omega)
      split <;> omega
    · rw [JFY _ _ (by omega)]; omega
theorem JJp {root : Dg} {h : Int} {d : Dg} {s : Sig} (hl : W64 s.leaf) (hk : checkK root h d s = true) : s.Fits := by
  unfold checkK at hk
  simp only [Bool.and_eq_true, decide_eq_true_eq] at hk
  obtain ⟨⟨h1, h2⟩, ⟨h3, h4⟩, ⟨h5, h6⟩, h7⟩ := hk
  have h8 := JA2 (2 ^ h.toNat) _ _ _ _ _ (Nat.le_refl _) h7
  have h9 := JNJ h.toNat s.leaf.toNat (2 ^ h.toNat) (Nat.le_refl _)
  exact ⟨hl, h1, h2, by omega⟩
theorem JIC {c : Conf} {v : Vote} (hl : W64 v.sig.leaf) (h : rightV c v = true) : v.good = true ∧ v.sig.Fits := by
  unfold rightV at h
  simp only [Bool.and_eq_true, decide_eq_true_eq] at h
  exact ⟨h.1.1.2, JJp hl h.2⟩
theorem JPD {v : Vote} (h1 : v.good = true) (h2 : v.sig.Fits) : voteF.good v := by
  simp only [Vote.good, Bool.and_eq_true, decide_eq_true_eq] at h1
  show (W64 v.kind ∧ 1 ≤ v.kind ∧ v.kind ≤ 2) ∧ (W64 v.epoch ∧ 0 ≤ v.epoch ∧ v.epoch ≤ 1073741824) ∧ (W64 v.height ∧ 1 ≤ v.height ∧ v.height ≤ 1024) ∧ (W64 v.round ∧ 0 ≤ v.round ∧ v.round ≤ 1024) ∧ (W64 v.src ∧ 1 ≤ v.src ∧ v.src ≤ 63) ∧ True ∧ v.sig.Fits
  unfold W64
  refine ⟨⟨by omega, by omega, by omega⟩, ⟨by omega, by omega, by omega⟩, ⟨by omega, by omega, by omega⟩, ⟨by omega, by omega, by omega⟩, ⟨by omega, by omega, by omega⟩, trivial, h2⟩
theorem JGr {c : Conf} {b : Blk} {x : Cert} (h : checkC c b x = true) (hl : ∀ v ∈ x.votes, W64 v.sig.leaf) : ∀ v ∈ x.votes, voteF.good v ∧ v.round = x.round := by
  intro v hv
  obtain ⟨j, hj, rfl⟩ := List.getElem_of_mem hv
  have e1 : x.votes[j]! = x.votes[j] := by simp [hj]
  have h1 := JGp ((JpM h).2.2.2.2 j hj)
  rw [e1] at h1
  obtain ⟨h2, h3⟩ := JIC (hl _ hv) h1.2.2.2.2.2
  exact ⟨JPD h2 h3, h1.2.2.2.1⟩
theorem JOV {c : Conf} {b : Blk} {x : Cert} (h : checkC c b x = true) (hl : ∀ v ∈ x.votes, W64 v.sig.leaf) (hn : x.votes.length ≤ 10) : certF.good x := by
  have h1 := JGr h hl
  have h0 : 0 < x.votes.length := by
    have := (JpM h).2.2.2.1
    have := JKk c.ms.length
    omega
  have hr : 0 ≤ x.round ∧ x.round ≤ 1024 := by
    obtain ⟨h2, h3⟩ := h1 _ (List.getElem_mem h0)
    rw [← h3]
    exact h2.2.2.2.1.2
  show (W64 x.round ∧ 0 ≤ x.round ∧ x.round ≤ 1024) ∧ (W64 (x.votes.length : Int) ∧ 1 ≤ (x.votes.length : Int) ∧ (x.votes.length : Int) ≤ 10) ∧ (x.votes.length = (x.votes.length : Int).toNat ∧ repG (fun _ => voteF) [] x.votes)
  unfold W64
  refine ⟨⟨by omega, hr.1, hr.2⟩, ⟨by omega, by omega, by omega⟩, by omega, (JiP voteF _ _).2 fun v hv => (h1 v hv).1⟩
theorem Sig.ok_of {s : Sig} (h : s.Fits) : s.ok = true := by
  obtain ⟨_, h1, h2, h3⟩ := h
  simp [Sig.ok, h1, h2, h3]
theorem JNx {x : Cert} (h : certF.good x) : x.ok = true := by
  have h1 := (JiP voteF _ _).1 h.2.2.2
  exact List.all_eq_true.2 fun v hv => Sig.ok_of (h1 v hv).2.2.2.2.2.2
theorem memsG : ∀ (ms p : List Mem), (∀ j (h : j < ms.length), (ms[j]).good = true ∧ (if j = 0 then lastId p else (ms[j-1]!).id) < (ms[j]).id) → repG memF p ms
  | [], _, _ => trivial
  | m :: ms, p, h => by
    obtain ⟨h1, h2⟩ := h 0 (by simp)
    simp only [List.getElem_cons_zero, if_true] at h1 h2
    have h3 : (memF p).good m := by
      simp only [Mem.good, Bool.and_eq_true, decide_eq_true_eq] at h1
      show (W64 m.id ∧ lastId p + 1 ≤ m.id ∧ m.id ≤ 63) ∧ (W64 m.height ∧ 0 ≤ m.height ∧ m.height ≤ 6) ∧ True
      unfold W64
      refine ⟨⟨by omega, by omega, by omega⟩, ⟨by omega, by omega, by omega⟩, trivial⟩
    refine ⟨h3, memsG ms (p ++ [m]) fun j hj => ?_⟩
    obtain ⟨k1, k2⟩ := h (j + 1) (by simpa using hj)
    simp only [List.getElem_cons_succ, Nat.add_sub_cancel] at k1 k2
    refine ⟨k1, ?_⟩
    rw [if_neg (by omega)] at k2
    cases j with
    | zero =>
      rw [if_pos rfl, JvA]
      simpa using k2
    | succ j =>
      rw [if_neg (by omega)]
      simpa using k2
theorem JOR {c : Conf} (h : c.good = true) : confF.good c := by
  simp only [Conf.good, Bool.and_eq_true, decide_eq_true_eq, List.all_eq_true, List.mem_range] at h
  obtain ⟨⟨⟨⟨h1, h2⟩, h3⟩, h4⟩, h5⟩ := h
  have hg : ∀ j (hj : j < c.ms.length), (c.ms[j]).good = true ∧ (if j = 0 then lastId [] else (c.ms[j-1]!).id) < (c.ms[j]).id := fun j hj => by
    have := h5 j hj
    unfold memOk at this
    have e : c.ms[j]! = c.ms[j] := by simp [hj]
    rw [e] at this
    simp only [Bool.and_eq_true, Bool.or_eq_true, decide_eq_true_eq] at this
    refine ⟨this.1, ?_⟩
    by_cases h0 : j = 0
    · rw [if_pos h0, JMb]
      have h6 := this.1
      simp only [Mem.good, Bool.and_eq_true, decide_eq_true_eq] at h6
      omega
    · rw [if_neg h0]
      exact this.2.resolve_left h0
  show (W64 c.epoch ∧ 0 ≤ c.epoch ∧ c.epoch ≤ 1073741824) ∧ (W64 (c.ms.length : Int) ∧ 1 ≤ (c.ms.length : Int) ∧ (c.ms.length : Int) ≤ 10) ∧ (c.ms.length = (c.ms.length : Int).toNat ∧ repG memF [] c.ms)
  unfold W64
  refine ⟨⟨by omega, h1, h2⟩, ⟨by omega, by omega, by omega⟩, by omega, memsG _ _ hg⟩
theorem JOM {c : Conf} {h : Int} {l : Lnk} (hs : stepK c h l = 0) (hf : l.blk.Fits) (hl : ∀ v ∈ l.cert.votes, W64 v.sig.leaf) (hn : l.cert.votes.length ≤ 10) : linkF.good l := by
  unfold stepK at hs
  by_cases h1 : l.blk.height ≤ h ∨ l.conf.good = false ∨ l.conf.epoch ≤ c.epoch
  · rw [if_pos h1] at hs; cases hs
  rw [if_neg h1] at hs
  by_cases h2 : checkC c l.blk l.cert = false
  · rw [if_pos h2] at hs; cases hs
  have h3 : checkC c l.blk l.cert = true := by simpa using h2
  have h4 : l.conf.good = true := by
    cases h5 : l.conf.good
    · exact absurd (.inr (.inl h5)) h1
    · rfl
  exact ⟨⟨hf, (JpM h3).2.1⟩, JOV h3 hl hn, JOR h4⟩
def Lnk.bytes (l : Lnk) : Bytes := l.blk.bytes ++ (l.cert.bytes ++ l.conf.bytes)
theorem JML {l : Lnk} (h : linkF.good l) : linkF.rd (Rd.of l.bytes) = l ∧ linkF.rd' (Rd.of l.bytes) = ⟨l.bytes, [], false⟩ := by
  have := JM1.back [] [] l h
  rw [JFu, List.append_nil, List.nil_append] at this
  exact this
end Go.Proofs.YtjlmpdbagmdbiaaDoor.WL
end
section
namespace Go.Proofs.YtjlmpdbagmdbiaaDoor.WL
open Go
set_option maxHeartbeats 8000000
variable {G : Nat → Option AV}
theorem JIK (v : Vote) (h : v.sig.ok = false) : Meets Tryd.prog G JhX [v.av] [] true (.tup [.v (.string (mkS [])), .v (.bool false)]) [] := by
  refine Jc mix JDU ⟨by simp, by simp, by simp⟩ ?_
  have m1 := JJk (G := G) v.sig h
  simp [Vote.av]
  refine Ja m1 ?_ ?_
  · simp
  simp
  refine Jb (.inr rfl) ?_
  simp
theorem JFp (v : Vote) (h : v.sig.ok = true) : Meets Tryd.prog G JhX [v.av] [] true (.tup [.v (.string (mkS (voteF.wr v))), .v (.bool true)]) [] := by
  refine Jc mix JDU ⟨by simp, by simp, by simp⟩ ?_
  have m1 := JFA (G := G) v.sig h
  have m2 := JGk (G := G) v
  have hl := v.head_len
  have hs := v.sig.bytes_len
  have ho : v.sig.op.length = 32 ∧ v.sig.sh.length = 32 ∧ v.sig.path.length ≤ 6 := by simpa [Sig.ok] using h
  have f1 : fitsS (v.head.length + v.sig.bytes.length) := fitS (by omega)
  rw [JDe]
  generalize v.head = x at *
  generalize v.sig.bytes = y at *
  simp [Vote.av]
  refine Ja m1 ?_ ?_
  · simp
  simp
  refine Ja m2 ?_ ?_
  · simp [Vote.av]
  simp [f1]
  refine Jb (.inr rfl) ?_
  simp
end Go.Proofs.YtjlmpdbagmdbiaaDoor.WL
end
section
namespace Go.Proofs.YtjlmpdbagmdbiaaDoor.WL
open Go
set_option maxHeartbeats 8000000
variable {G : Nat → Option AV}
theorem JE8 {v : Vote} (h : v.sig.ok = true) : (voteF.wr v).length ≤ 3000 := by
  have hl := v.head_len
  have hs := v.sig.bytes_len
  have ho : v.sig.op.length = 32 ∧ v.sig.sh.length = 32 ∧ v.sig.path.length ≤ 6 := by simpa [Sig.ok] using h
  rw [JDe, List.length_append]
  omega
theorem JHq (vs : List Vote) {j : Nat} (h : j < vs.length) : votesB (vs.take (j + 1)) = votesB (vs.take j) ++ voteF.wr vs[j] := by
  rw [← List.take_append_getElem h, JEk]
theorem JEi (vs : List Vote) (h : ∀ v ∈ vs, v.sig.ok = true) : (votesB vs).length ≤ vs.length * 3000 := by
  induction vs with
  | nil => simp [votesB]
  | cons v vs ih =>
    have h1 := JE8 (h v List.mem_cons_self)
    have h2 := ih (fun u hu => h u (List.mem_cons_of_mem _ hu))
    have e : votesB (v :: vs) = voteF.wr v ++ votesB vs := by simp [votesB]
    rw [e, List.length_append, List.length_cons]
    omega
theorem JF9 (x : Cert) (hl : x.votes.length ≤ 1000) : Meets Tryd.prog G JmJ [x.av] [] true (.tup [.v (.string (mkS (if x.ok = true then x.bytes else []))), .v (.bool x.ok)]) [] := by
  refine Jc mix JIW ⟨by simp, by simp, by simp⟩ ?_
  have m1 := Ju (G := G) x.round
  have m2 := Ju (G := G) (x.votes.length : Int)
  have h0 : be8 x.round ++ be8 (x.votes.length : Int) = nums [x.round, (x.votes.length : Int)] := by simp [nums]
  have l1 : (be8 x.round).length = 8 := by simp
  have l2 : (be8 (x.votes.length : Int)).length = 8 := by simp
  have l0 : (nums [x.round, (x.votes.length : Int)]).length = 16 := by simp [Jg]
  have f0 : fitsS (8 + 8) := fitS (by omega)
  have hb : x.bytes = nums [x.round, (x.votes.length : Int)] ++ votesB x.votes := rfl
  have hbad : (∃ v ∈ x.votes, v.sig.ok = false) → x.ok = false := fun ⟨v, hv, h⟩ => by
    unfold Cert.ok
    rw [List.all_eq_false]
    exact ⟨v, hv, by simp [h]⟩
  have hgood : (∀ v ∈ x.votes, v.sig.ok = true) → x.ok = true := fun h => List.all_eq_true.2 h
  generalize x.ok = ok at *
  generalize x.bytes = xb at *
  generalize hvs : x.votes = vs at *
  generalize nums [x.round, (vs.length : Int)] = x1 at *
  generalize be8 x.round = y1 at *
  generalize be8 (vs.length : Int) = y2 at *
  simp [Cert.av, hvs]
  refine Ja m1 ?_ ?_
  · simp
  simp
  refine Ja m2 ?_ ?_
  · simp
  simp [l1, l2, f0, h0]
  refine go_up vs.length (fun j (z : Bytes) => z = x1 ++ votesB (vs.take j) ∧ ∀ i (h : i < vs.length), i < j → vs[i].sig.ok = true) (fun j z q => ⟨[(4, .v (.string (mkS z))), (18, .sl 41 (Votes vs)), (19, .v (.int .i64 (vs.length : Nat))), (20, .v (.int .i64 (j : Nat)))], [], q + 1⟩) x1 _ (Weak.re (by simp)) ⟨by simp [votesB], by intro i _ h; omega⟩ ?_ ?_
  · rintro j z q hj ⟨hz, hx⟩
    have hw : IntKind.i64.wrap ((j : Int) + 1) = ((j + 1 : Nat) : Int) := Je (by omega)
    obtain ⟨v, hv⟩ : ∃ v, vs[j] = v := ⟨_, rfl⟩
    have hmem : v ∈ vs := by rw [← hv]; exact List.getElem_mem hj
    cases hk : v.sig.ok
    · have hr := hbad ⟨v, hmem, hk⟩
      have m3 := JIK (G := G) v hk
      simp [hj, hv]
      refine Ja m3 ?_ ?_
      · simp
      simp
      refine Jb (.inr rfl) ?_
      simp [hr]
    · have m3 := JFp (G := G) v hk
      have hvl := JE8 hk
      have hzl : z.length ≤ 16 + j * 3000 := by
        have := JEi (vs.take j) (fun u hu => by
          obtain ⟨i, hi, rfl⟩ := List.getElem_of_mem hu
          rw [List.getElem_take]
          have hi' : i < j ∧ i < vs.length := by rw [List.length_take] at hi; omega
          exact hx i hi'.2 hi'.1)
        rw [hz, List.length_append, l0]
        rw [List.length_take] at this
        have hm : min j vs.length = j := by omega
        rw [hm] at this
        omega
      have f1 : fitsS (z.length + (voteF.wr v).length) := fitS (by omega)
      have hz2 : z ++ voteF.wr v = x1 ++ votesB (vs.take (j + 1)) := by rw [hz, JHq _ hj, hv, List.append_assoc]
      generalize voteF.wr v = y at *
      simp [hj, hv]
      refine Ja m3 ?_ ?_
      · simp
      simp [f1, hw]
      refine ⟨z ++ y, _, Weak.re (by simp), hz2, ?_⟩
      intro i hi hij
      rcases (show i < j ∨ i = j by omega) with h1 | rfl
      · exact hx i hi h1
      · rw [hv]; exact hk
  · rintro z q ⟨hz, hx⟩
    have hr := hgood (fun v hv => by
      obtain ⟨i, hi, rfl⟩ := List.getElem_of_mem hv
      exact hx i hi hi)
    rw [List.take_length] at hz
    have hzb : z = xb := by rw [hz, hb]
    subst hzb
    simp
    refine Jb (.inr rfl) ?_
    simp [hr]
theorem JHM {x : Cert} (h : x.ok = true) (hl : x.votes.length ≤ 1000) : x.bytes.length ≤ 16 + x.votes.length * 3000 := by
  have hg : ∀ v ∈ x.votes, v.sig.ok = true := List.all_eq_true.1 h
  have := JEi x.votes hg
  have e : x.bytes = nums [x.round, (x.votes.length : Int)] ++ votesB x.votes := rfl
  rw [e, List.length_append, Jg]
  simp
  omega
theorem JFm (l : Lnk) (hv : l.cert.votes.length ≤ 1000) (hm : l.conf.ms.length ≤ 1000) (hb : l.blk.bytes.length ≤ 40000000) (hq : l.blk.qs.length ≤ 1000000) : Meets Tryd.prog G Jqf [l.av] [] true (.tup [.v (.string (mkS (if l.cert.ok = true then l.blk.bytes ++ (l.cert.bytes ++ l.conf.bytes) else []))), .v (.bool l.cert.ok)]) [] := by
  refine Jc mix JId ⟨by simp, by simp, by simp⟩ ?_
  have m1 := JF9 (G := G) l.cert hv
  have m2 := JM4 (G := G) l.blk (by omega) hq
  have m3 := JFI (G := G) l.conf (by omega)
  have hcl := l.conf.bytes_len
  cases hk : l.cert.ok
  · rw [hk] at m1
    simp [Lnk.av]
    refine Ja m1 ?_ ?_
    · simp
    simp
    refine Jb (.inr rfl) ?_
    simp
  · rw [hk, if_pos rfl] at m1
    have hl2 := JHM hk hv
    have f1 : fitsS (l.blk.bytes.length + l.cert.bytes.length) := fitS (by omega)
    have f2 : fitsS (l.blk.bytes.length + l.cert.bytes.length + l.conf.bytes.length) := fitS (by omega)
    rw [if_pos rfl]
    generalize l.blk.bytes = y1 at *
    generalize l.cert.bytes = y2 at *
    generalize l.conf.bytes = y3 at *
    simp [Lnk.av]
    refine Ja m1 ?_ ?_
    · simp
    simp
    refine Ja m2 ?_ ?_
    · simp
    simp [f1]
    refine Ja m3 ?_ ?_
    · simp
    simp [f2]
    refine Jb (.inr rfl) ?_
    simp
end Go.Proofs.YtjlmpdbagmdbiaaDoor.WL
end
