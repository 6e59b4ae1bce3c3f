/-
  CHAPTER 01: contracts of the laws' helpers: great.
-/
import Derived.Test.YtngemgmnpcaamaaS01e
namespace Go.Proofs.Ytngemgmnpcaamaa.WL
open Go

structure Part where
  kind : Int
  num : Int
  text : ByteArray
  dg : List Int
  lo : Int
  hi : Int

def Part.av (p : Part) : AV := .node [.v (.int .i64 p.kind), .v (.int .i64 p.num), .v (.string p.text), .arr 1 (B p.dg), .v (.int .i64 p.lo), .v (.int .i64 p.hi)]
def Pv (ps : List Part) : List AV := ps.map Part.av
@[simp] theorem Pv_length (ps : List Part) : (Pv ps).length = ps.length := by simp [Pv]
@[simp] theorem Pv_closed (ps : List Part) : closeds (Pv ps) = true := by
  simp only [closeds_all, Pv, List.mem_map]
  rintro a ⟨p, _, rfl⟩
  simp [Part.av]
@[simp] theorem Pv_getElem (n : Nat) (a : List Part) (h : n < (Pv a).length) : (Pv a)[n] = (a[n]'(by simpa using h)).av := by simp [Pv]
@[simp] theorem Pv_get (n : Nat) (a : List Part) : (Pv a)[n]? = (a[n]?).map Part.av := by simp [Pv]

/-- The sum of the texts' sizes, till it is too great. -/
def gsum : Int → List Part → Option Int
  | acc, [] => some acc
  | acc, p :: ps => if 16384 < IntKind.i64.wrap (acc + p.text.size) then none else gsum (IntKind.i64.wrap (acc + p.text.size)) ps
def greatF (ps : List Part) : Bool := match gsum 0 ps with | none => true | some _ => decide ((200 : Int) < ps.length)

def greatI (ps : List Part) (S : SA) : Prop := ∃ (j c : Nat) (acc : Int), j ≤ ps.length ∧ gsum 0 ps = gsum acc (ps.drop j) ∧
  S = ⟨[(0, .sl 37 (Pv ps)), (3, .v (.int .i64 acc)), (6, .sl 37 (Pv ps)), (7, .v (.int .i64 (ps.length : Int))), (8, .v (.int .i64 (j : Int)))], [], c⟩

theorem great_meets {G : Nat → Option AV} (ps : List Part) (hd : ∀ p ∈ ps, p.dg.length = 32) (hn : ps.length ≤ maxLen) : Meets Try.prog G 11 [.sl 37 (Pv ps)] [] true (.v (.bool (greatF ps))) [] := by
  refine meets_of_go mix c11_chk ⟨by simp, by simp, by simp⟩ ?_
  simp [-List.reduceReplicate, c11, c11r0, c11r1, c11r2]
  refine go_loop (greatI ps) (fun S => ps.length + 1 - idxAt 8 S) _ (Weak.refl _) ⟨0, 7, 0, by omega, by simp, rfl⟩ ?_
  rintro S' ⟨j, c, acc, hj, hg, rfl⟩
  simp [-List.reduceReplicate, c11r3]
  refine goC_split (fun hlt => ?_) (fun hge => ?_)
  · have hlt' : j < ps.length := by simpa using hlt
    have hd' : ps[j].dg.length = 32 := hd _ (List.getElem_mem hlt')
    have hdrop : ps.drop j = ps[j] :: ps.drop (j + 1) := List.drop_eq_getElem_cons hlt'
    have hw : IntKind.i64.wrap ((j : Int) + 1) = ((j + 1 : Nat) : Int) := by
      unfold maxLen at hn
      simp [IntKind.wrap, IntKind.bits, IntKind.signed]; omega
    simp [-List.reduceReplicate, c11r4, c11r5, c11r6, hlt', Part.av, hd', hw]
    refine goC_split (fun hgt => ?_) (fun hle => ?_)
    · have hgt' : 16384 < IntKind.i64.wrap (acc + ps[j].text.size) := by simpa using hgt
      have hG : gsum 0 ps = none := by rw [hg, hdrop]; simp [gsum, hgt']
      simp [-List.reduceReplicate, c11r7]
      refine post_end (.inr rfl) ?_
      simp [c11R, greatF, hG]
    · have hle' : ¬ 16384 < IntKind.i64.wrap (acc + ps[j].text.size) := by simpa using hle
      simp [-List.reduceReplicate, c11r8, hw]
      refine ⟨_, Weak.drop rfl, ⟨j + 1, c + 1 + 4 + 6 + 2 + 2, IntKind.i64.wrap (acc + ps[j].text.size), by omega, by rw [hg, hdrop]; simp [gsum, hle'], by simp⟩, by simp [idxAt]; omega⟩
  · have : j = ps.length := by simp at hge; omega
    subst this
    simp [-List.reduceReplicate, c11r9]
    refine post_end (.inr rfl) ?_
    simp [c11R, greatF, hg, gsum]

end Go.Proofs.Ytngemgmnpcaamaa.WL
