/-
  CHAPTER 01: CodeKeeps.
-/
import Derived.Test.YtngemgmnpcaamaaS01i
namespace Go.Proofs.Ytngemgmnpcaamaa.WL
open Go

def rd2 (bs : List Int) : List (Nat × Loc) := [(1251000, .var 17 (.node [.row 1252000 1 17 0 bs.length, .v (.bool false)])), (1252000, .rows 17 1 (B bs)), (1271000, .var 19 (.node [.row 1272000 1 19 0 bs.length, .v (.bool false)])), (1272000, .rows 19 1 (B bs))]
def keepsI1 (bs : List Int) (S : SA) : Prop := ∃ (j c : Nat) (L : List Int), j ≤ bs.length ∧ L.length = bs.length ∧
  S = ⟨[(5, .row 21 1 14 0 bs.length), (6, .ptr 1251000 17 0), (7, .ptr 1271000 19 0), (29, .v (.int .i64 (bs.length : Int))), (30, .v (.int .i64 (j : Int)))], (21, .rows 14 1 (B L)) :: rd2 bs, c⟩

def keepsM (bs L L2 : List Int) (c : Nat) : List (Nat × Loc) :=
  [(21, .rows 14 1 (B L)), (41, .var (c + 1 + 1) (.node [.row 1462000 1 (c + 1 + 3 + 3 + 1) 0 7])), (43, .rows (c + 1 + 3 + 1) 1 [.v (.string ⟨#[97, 98, 99]⟩)]),
    (1251000, .var 17 (.node [.row 1252000 1 17 0 bs.length, .v (.bool false)])), (1252000, .rows 17 1 (B bs)), (1271000, .var 19 (.node [.row 1272000 1 19 0 bs.length, .v (.bool false)])), (1272000, .rows 19 1 (B bs)),
    (1462000, .rows (c + 1 + 3 + 3 + 1) 1 (B [0, 0, 0, 3, 97, 98, 99])), (1463000, .rows (c + 1 + 3 + 3 + 1) 1 (B L2))]
def keepsI2 (bs L : List Int) (c : Nat) (S : SA) : Prop := ∃ (j c2 : Nat) (L2 : List Int), j ≤ 7 ∧ L2.length = 7 ∧
  S = ⟨[(6, .ptr 1251000 17 0), (7, .ptr 1271000 19 0), (9, .ptr 41 (c + 1 + 1) 0), (10, .row 1463000 1 (c + 1 + 3 + 3 + 1) 0 7), (48, .v (.int .i64 7)), (49, .v (.int .i64 (j : Int)))], keepsM bs L L2 c, c2⟩

@[simp] theorem step_eqaB {m : Nat → Option Loc} {g d : Nat} (a b : List Int) (ha : a.length = 32) (hb : b.length = 32) : step (.eqa false .u8 32) [.arr 1 (B a), .arr 1 (B b)] m g d = some (.v (.bool (a == b)), []) := by
  have := step_eqa (m := m) (g := g) (d := d) false .u8 32 a b ha hb
  simpa [B] using this

theorem B_set (L : List Int) (j : Nat) (x : Int) : (B L).set j (.v (.int .u8 x)) = B (L.set j x) := by simp [B, List.map_set]

theorem keeps_meets {G : Nat → Option AV} (bs : List Int) (ps : List Part) (hbl : bs.length ≤ maxLen) (hd : ∀ p ∈ ps, p.dg.length = 32) (hn : ps.length ≤ maxLen) :
    Meets Try.prog G 3 [.sl 1 (B bs), .sl 37 (Pv ps)] [] true (.v (.bool true)) [] := by
  refine meets_of_go mix c3_chk ⟨by simp, by simp, by simp⟩ ?_
  simp [c3, c3r0, c3r1]
  refine call_intro alive_meets ?_ ?_
  · simp
  simp [c3r3]
  by_cases hb : (16384 : Int) < bs.length
  · have hb' : 16384 < bs.length := by omega
    simp [hb, hb', c3r4]
    refine post_end (.inr rfl) ?_
    simp [c3R]
  · have hb' : ¬ 16384 < bs.length := by omega
    simp [hb, hb']
    refine call_intro (great_meets ps hd hn) ?_ ?_
    · simp
    simp
    refine goC_split (fun hg => ?_) (fun hg => ?_)
    · simp [c3r4]
      refine post_end (.inr rfl) ?_
      simp [c3R]
    · have h1 : bs.length ≤ maxLen ∧ bs.length ≤ 140737488355328 := by omega
      simp [c3r5, h1, c3r6]
      refine call_intro (read_meets bs (by omega)) ?_ ?_
      · simp
      simp
      refine call_intro (read_meets bs (by omega)) ?_ ?_
      · simp
      simp [c3r7]
      refine go_loop (keepsI1 bs) (fun S => bs.length + 1 - idxAt 30 S) _ (Weak.refl _) ⟨0, _, bs, by omega, rfl, rfl⟩ ?_
      rintro S' ⟨j, c, L, hj, hL, rfl⟩
      simp [c3r8, rd2]
      refine goC_split (fun hlt => ?_) (fun hge => ?_)
      · have hlt' : j < bs.length := by simpa using hlt
        have hltL : j < L.length := by omega
        have hw : IntKind.i64.wrap ((j : Int) + 1) = ((j + 1 : Nat) : Int) := by simp [IntKind.wrap, IntKind.bits, IntKind.signed]; omega
        simp [c3r9, c3r10, c3r11, hlt', hltL, hw, B_set]
        refine ⟨_, Weak.refl _, ⟨j + 1, _, L.set j (IntKind.u8.wrap (L[j] + 1)), by omega, by simp [hL], by simp [rd2]; rfl⟩, by simp [idxAt]; omega⟩
      · have : j = bs.length := by simp at hge; omega
        subst this
        simp [c3r12, c3r13]
        have h2 := wtext_meets (G := G) [] [⟨#[97, 98, 99]⟩] (by decide +kernel) (by decide)
        rw [show [] ++ [(⟨#[97, 98, 99]⟩ : ByteArray)].flatMap txt = [0, 0, 0, 3, 97, 98, 99] by decide +kernel] at h2
        refine call_intro h2 ?_ ?_
        · simp [wrM, Strs]
        simp [wrM, Strs, c3r14]
        refine call_intro (bytes_meets [0, 0, 0, 3, 97, 98, 99] (by decide)) ?_ ?_
        · simp [wrM]
        simp [wrM, c3r15]
        refine go_loop (keepsI2 bs L c) (fun S => 8 - idxAt 49 S) _ (Weak.refl _) ⟨0, _, [0, 0, 0, 3, 97, 98, 99], by omega, rfl, rfl⟩ ?_
        rintro S' ⟨j, c2, L2, hj, hL2, rfl⟩
        simp [c3r16, keepsM]
        refine goC_split (fun hlt => ?_) (fun hge => ?_)
        · have hlt1 : (j : Int) < 7 := by simpa using hlt
          have hlt2 : j < L2.length := by omega
          have hw : IntKind.i64.wrap ((j : Int) + 1) = ((j + 1 : Nat) : Int) := by simp [IntKind.wrap, IntKind.bits, IntKind.signed]; omega
          simp [c3r17, c3r18, c3r19, hlt1, hlt2, hw, B_set]
          refine ⟨_, Weak.refl _, ⟨j + 1, _, L2.set j 7, by omega, by simp [hL2], by simp [keepsM]; rfl⟩, by simp [idxAt]; omega⟩
        · have k1 : ((strOfNums [0, 0, 0, 3, 97, 98, 99]).toList == ([0, 0, 0, 3, 97, 98, 99] : List UInt8)) = true := by decide +kernel
          have hbytes := bytes_meets (G := G) [0, 0, 0, 3, 97, 98, 99] (by decide)
          simp [c3r20]
          by_cases h32 : 32 ≤ bs.length
          · have hlen : ((bs.drop 0).take 32).length = 32 := by simp; omega
            simp only [List.drop_zero] at hlen
            refine call_intro (digest_meets bs 0 bs.length (by omega) (by omega) h32) ?_ ?_
            · simp [rdM]
            simp [rdM]
            refine call_intro (digest_meets bs 0 bs.length (by omega) (by omega) h32) ?_ ?_
            · simp [rdM]
            simp [rdM, hlen]
            by_cases h40 : 40 ≤ bs.length
            · refine call_intro (num_meets bs 32 (bs.length - 32) (by omega) (by omega) (by omega)) ?_ ?_
              · simp [rdM]
              simp [rdM]
              refine call_intro (num_meets bs 32 (bs.length - 32) (by omega) (by omega) (by omega)) ?_ ?_
              · simp [rdM]
              simp [rdM]
              refine call_intro hbytes ?_ ?_
              · simp [wrM]
              simp [wrM, k1]
              refine post_end (.inr rfl) ?_
              simp [c3R]
            · refine call_intro (num_fails bs 32 (bs.length - 32) (by omega)) ?_ ?_
              · simp [rdM, badM]
              simp [rdM, badM]
              refine call_intro (num_fails bs 32 (bs.length - 32) (by omega)) ?_ ?_
              · simp [rdM, badM]
              simp [rdM, badM]
              refine call_intro hbytes ?_ ?_
              · simp [wrM]
              simp [wrM, k1]
              refine post_end (.inr rfl) ?_
              simp [c3R]
          · have hz : (zeros 32).length = 32 := by simp [zeros]
            refine call_intro (digest_fails bs 0 bs.length (by omega)) ?_ ?_
            · simp [rdM, badM]
            simp [rdM, badM]
            refine call_intro (digest_fails bs 0 bs.length (by omega)) ?_ ?_
            · simp [rdM, badM]
            simp [rdM, badM, hz]
            refine call_intro num_bad ?_ ?_
            · simp [badM]
            simp [badM]
            refine call_intro num_bad ?_ ?_
            · simp [badM]
            simp [badM]
            refine call_intro hbytes ?_ ?_
            · simp [wrM]
            simp [wrM, k1]
            refine post_end (.inr rfl) ?_
            simp [c3R]

end Go.Proofs.Ytngemgmnpcaamaa.WL
