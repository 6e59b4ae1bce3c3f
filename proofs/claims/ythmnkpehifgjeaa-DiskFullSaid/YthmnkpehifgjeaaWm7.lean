/- Texts put together: S16e, L16e, S16d2, L16b, L16c. -/
import Derived.Test.YthmnkpehifgjeaaWm6
section
/-
  CHAPTER 16: a disk in a law's own memory, all stamps alike.
-/
namespace Go.Proofs.Ythmnkpehifgjeaa.WL
open Go
def dqEnts (q : Nat) : Nat → List Fl → List AV
  | _, [] => []
  | i, f :: fs => entA (.v (.string (mkS f.name))) (.ptr (1010 + i) q 0) (i : Nat) :: dqEnts q (i + 1) fs
def dqVars (q : Nat) : Nat → List Fl → List (Nat × Loc)
  | _, [] => []
  | i, f :: fs => (1010 + i, .var q (.node [.row (2010 + i) 1 q 0 f.safe.length, .row (2110 + i) 1 q 0 f.waits.length])) :: dqVars q (i + 1) fs
@[simp] theorem dqEnts_nil (q i : Nat) : dqEnts q i [] = [] := (rfl)
@[simp] theorem dqEnts_cons (q i : Nat) (f : Fl) (fs : List Fl) : dqEnts q i (f :: fs) = entA (.v (.string (mkS f.name))) (.ptr (1010 + i) q 0) (i : Nat) :: dqEnts q (i + 1) fs := (rfl)
@[simp] theorem dqVars_nil (q i : Nat) : dqVars q i [] = [] := (rfl)
@[simp] theorem dqVars_cons (q i : Nat) (f : Fl) (fs : List Fl) : dqVars q i (f :: fs) = (1010 + i, .var q (.node [.row (2010 + i) 1 q 0 f.safe.length, .row (2110 + i) 1 q 0 f.waits.length])) :: dqVars q (i + 1) fs := (rfl)
def dkQ (q : Nat) (d : Dk) : List (Nat × Loc) :=
  (1000, .var q (.node [.oref 1001 q true, .v (.bool d.down), .v (.int .i64 d.acts), .v (.int .i64 d.fuse), .v (.int .i64 d.keep)])) ::
  (1001, .ob q (.map false 1 false 1) (.node [.node (dqEnts q 0 d.fs), .v (.int .i64 (d.fs.length : Nat))])) :: (dqVars q 0 d.fs ++ (dkSafe q 0 d.fs ++ dkWaits q 0 d.fs))
end Go.Proofs.Ythmnkpehifgjeaa.WL

end
section
/-
  CHAPTER 16: walks of laws: what is lost.
-/
namespace Go.Proofs.Ythmnkpehifgjeaa.WL
open Go
set_option maxHeartbeats 8000000
variable {G : Nat → Option AV}

/-- What a loss of power leaves of a file. -/
theorem offF_parts (kp : Int) (n s w : Bytes) : ∃ x y, offF kp ⟨n, s, w⟩ = ⟨n, s ++ x, []⟩ ∧ w = x ++ y := ⟨_, _, rfl, (List.take_append_drop _ w).symm⟩

theorem diskLoses_walk (ts : List Bytes) (ss : List Bool) (n kp : Int) (hn : -9223372036854775808 ≤ n ∧ n < 9223372036854775808) (h1 : ts.length ≤ reachBytes) (h2 : ∀ p ∈ ts, p.length ≤ reachBytes) :
    Meets Try.prog G fn_l16_DiskLoses [.sl 1 (Bws ts), .sl 1 (Bools ss), .v (.int .i64 n), .v (.int .i64 kp)] [] true (.v (.bool true)) [] := by
  refine meets_of_go mix k_l16_DiskLoses ⟨by simp, by simp, by simp⟩ ?_
  unfold reachBytes at h1 h2
  simp
  refine call_intro alive16_meets ?_ ?_
  · simp
  simp
  refine go_up ts.length (fun j (_ : Unit) => tot (ts.take j) ≤ 32768) (fun j (_ : Unit) q => ⟨[(0, .sl 1 (Bws ts)), (1, .sl 1 (Bools ss)), (2, .v (.int .i64 n)), (3, .v (.int .i64 kp)), (9, .v (.int .i64 (tot (ts.take j) : Nat))), (23, .sl 1 (Bws ts)), (24, .v (.int .i64 (ts.length : Nat))), (25, .v (.int .i64 (j : Nat)))], [], q + 1⟩) () _
    (Weak.re (by simp [tot])) (by simp [tot]) ?_ ?_
  · intro j _ q hj hx
    have hlen := h2 ts[j] (List.getElem_mem hj)
    have ht := tot_take ts j hj
    have hw : IntKind.i64.wrap ((j : Int) + 1) = ((j + 1 : Nat) : Int) := w64_succ (by omega)
    have hw2 : IntKind.i64.wrap ((tot (ts.take j) : Int) + (ts[j].length : Nat)) = ((tot (ts.take (j + 1)) : Nat) : Int) := by rw [w64_id (by omega)]; omega
    generalize tot (ts.take j) = t0 at *
    by_cases hc : (32768 : Int) < (tot (ts.take (j + 1)) : Nat)
    · simp [hj, hw2, hc]
      refine post_end (.inr rfl) ?_
      simp
    · simp [hj, hw2, hc, hw]
      exact ⟨(), _, Weak.re (by simp), by omega⟩
  intro _ q htot
  rw [List.take_length] at htot
  by_cases c1 : (50 : Int) < (ts.length : Nat)
  · simp [c1]
    refine post_end (.inr rfl) ?_
    simp
  by_cases c2 : (ss.length : Int) < (ts.length : Nat)
  · simp [c1, c2]
    refine post_end (.inr rfl) ?_
    simp
  obtain ⟨c0, hc0⟩ : ∃ c : Int, (if n < 0 then 0 else n) = c := ⟨_, rfl⟩
  have m0 := arm_meets0 (G := G) false 0 0 0 n kp
  rw [hc0] at m0
  have hc9 : c0 ≤ 9223372036854775807 := by rw [← hc0]; split <;> omega
  simp [c1, c2]
  refine call_intro new_meets ?_ ?_
  · simp
  simp
  refine call_intro m0 ?_ ?_
  · simp [dkM]
  simp [dkM]
  refine go_up ts.length (fun j (s : List Fl × Bytes × Bytes × Int × Int) => ((s.1 = [] ∧ s.2.1 = [] ∧ s.2.2.1 = []) ∨ ∃ w, s.1 = [⟨[102], s.2.2.1, w⟩] ∧ s.2.1 = s.2.2.1 ++ w) ∧ s.2.1.length = tot (ts.take j) ∧ 0 ≤ s.2.2.2.1 ∧ s.2.2.2.1 ≤ 2 * (j : Int) ∧ s.2.2.2.2 ≤ 9223372036854775807)
    (fun j s q => ⟨[(1, .sl 1 (Bools ss)), (3, .v (.int .i64 kp)), (12, .ptr 1000 q 0), (13, .v (.string (mkS s.2.1))), (14, .v (.string (mkS s.2.2.1))), (51, .sl 1 (Bws ts)), (52, .v (.int .i64 (ts.length : Nat))), (53, .v (.int .i64 (j : Nat)))],
      dkQ q ⟨s.1, false, s.2.2.2.1, s.2.2.2.2, kp⟩, q + 1⟩) ([], [], [], 0, c0) _ (Weak.re (by simp [dkQ])) ⟨.inl ⟨rfl, rfl, rfl⟩, by simp [tot], by simp, by simp, hc9⟩ ?_ ?_
  · rintro j ⟨fs, all, safe, a, c⟩ q hj ⟨hfs, hall, ha1, ha2, hcc⟩
    dsimp only at hfs hall ha1 ha2 hcc
    have hw : IntKind.i64.wrap ((j : Int) + 1) = ((j + 1 : Nat) : Int) := w64_succ (by omega)
    have hjs : j < ss.length := by omega
    have ht := tot_take ts j hj
    have htl : tot (ts.take (j + 1)) ≤ tot ts := tot_le ts (j + 1)
    obtain ⟨b, hb⟩ : ∃ b, ts[j] = b := ⟨_, rfl⟩
    rw [hb] at ht
    have ha : 0 ≤ a ∧ a ≤ 1000000 := by omega
    rcases hfs with ⟨rfl, rfl, rfl⟩ | ⟨w, rfl, rfl⟩
    · by_cases hc1 : c = 1
      · subst hc1
        obtain ⟨x, y, hx, hxy⟩ := offF_parts kp [102] [] b
        have m1 := app_goes0_0 (G := G) [102] b a kp ha (by omega)
        try dsimp only at m1
        rw [hx] at m1
        obtain ⟨S, hS⟩ : ∃ S, [] ++ x = S := ⟨_, rfl⟩
        rw [hS] at m1
        have hAS : b = S ++ y := by rw [hxy, ← hS, List.nil_append]
        have hSl : S.length = x.length := by rw [← hS]; simp
        have hAl2 : b.length = S.length + y.length := by rw [hAS]; simp
        have hge : 0 ≤ S.length := by omega
        have hle : S.length ≤ b.length := by omega
        have htk : b.take S.length = S := by rw [hAS]; simp
        have hfs2 : fitsS (b.length) := fitS (by (try simp only [List.length_append] at hall); omega)
        have q1 := off_down1 (G := G) ⟨[102], S, []⟩ (a + 1) 0 kp kp
        have q2 := on_meets1 (G := G) ⟨[102], S, []⟩ true (a + 1) 0 kp
        have q3 := read_ok1_0 (G := G) ⟨[102], S, []⟩ (a + 1) 0 kp (by simp only [Fl.size, List.length_nil]; (try simp only [List.length_append] at hall); omega)
        try dsimp only at q3
        try simp only [List.nil_append, List.append_nil, List.length_nil, Nat.add_zero, Nat.zero_add] at m1
        try simp only [List.nil_append, List.append_nil, List.length_nil, Nat.add_zero, Nat.zero_add] at q1
        try simp only [List.nil_append, List.append_nil, List.length_nil, Nat.add_zero, Nat.zero_add] at q2
        try simp only [List.nil_append, List.append_nil, List.length_nil, Nat.add_zero, Nat.zero_add] at q3
        simp [dkQ, hj, hb, hjs]
        refine call_intro m1 ?_ ?_
        · simp [dkM]
        simp [dkM, hfs2, hb, hj, hjs]
        refine call_intro q1 ?_ ?_
        · simp [dkM]
        simp [dkM]
        refine call_intro q2 ?_ ?_
        · simp [dkM]
        simp [dkM]
        refine call_intro q3 ?_ ?_
        · simp [dkM]
        simp [dkM, hge, hle, htk]
        refine post_end (.inr rfl) ?_
        simp
      have m1 := app_ok0_0 (G := G) [102] b a c kp ha ⟨hc1, hcc⟩ (by omega)
      try dsimp only at m1
      have hz : fz c ≤ 9223372036854775807 := by unfold fz; split <;> omega
      obtain ⟨sy, hsy⟩ : ∃ s, ss[j] = s := ⟨_, rfl⟩
      cases sy
      · have hfs2 : fitsS (b.length) := fitS (by (try simp only [List.length_append] at hall); omega)
        try simp only [List.nil_append, List.append_nil, List.length_nil, Nat.zero_add] at m1
        simp [dkQ, hj, hb, hjs]
        refine call_intro m1 ?_ ?_
        · simp [dkM]
        simp [dkM, hfs2, hb, hj, hjs, hsy, hw]
        exact ⟨([⟨[102], [], b⟩], b, [], a + 1, fz c), _, Weak.re (by simp [dkQ]), .inr ⟨b, rfl, by simp⟩, by (try simp only [List.length_append, List.length_nil] at hall ⊢); omega, by dsimp only; omega, by dsimp only; omega, hz⟩
      · by_cases hc2 : fz c = 1
        · rw [hc2] at m1
          obtain ⟨x, y, hx, hxy⟩ := offF_parts kp [102] [] b
          have m2 := syn_goes1 (G := G) ⟨[102], [], b⟩ [102] (a + 1) kp (by omega) (by (try simp only [List.length_append] at hall); simp only [Fl.size, List.length_append, List.length_nil]; omega)
          rw [hx] at m2
          obtain ⟨S, hS⟩ : ∃ S, [] ++ x = S := ⟨_, rfl⟩
          rw [hS] at m2
          have hAS : b = S ++ y := by rw [hxy, ← hS, List.nil_append]
          have hSl : S.length = x.length := by rw [← hS]; simp
          have hAl2 : b.length = S.length + y.length := by rw [hAS]; simp
          have hge : 0 ≤ S.length := by omega
          have hle : S.length ≤ b.length := by omega
          have htk : b.take S.length = S := by rw [hAS]; simp
          have hfs2 : fitsS (b.length) := fitS (by (try simp only [List.length_append] at hall); omega)
          have q1 := off_down1 (G := G) ⟨[102], S, []⟩ (a + 1 + 1) 0 kp kp
          have q2 := on_meets1 (G := G) ⟨[102], S, []⟩ true (a + 1 + 1) 0 kp
          have q3 := read_ok1_0 (G := G) ⟨[102], S, []⟩ (a + 1 + 1) 0 kp (by simp only [Fl.size, List.length_nil]; (try simp only [List.length_append] at hall); omega)
          try dsimp only at q3
          try simp only [List.nil_append, List.append_nil, List.length_nil, Nat.add_zero, Nat.zero_add] at m1
          try simp only [List.nil_append, List.append_nil, List.length_nil, Nat.add_zero, Nat.zero_add] at m2
          try simp only [List.nil_append, List.append_nil, List.length_nil, Nat.add_zero, Nat.zero_add] at q1
          try simp only [List.nil_append, List.append_nil, List.length_nil, Nat.add_zero, Nat.zero_add] at q2
          try simp only [List.nil_append, List.append_nil, List.length_nil, Nat.add_zero, Nat.zero_add] at q3
          simp [dkQ, hj, hb, hjs, hsy]
          refine call_intro m1 ?_ ?_
          · simp [dkM]
          simp [dkM, hfs2, hsy, hb, hj, hjs]
          refine call_intro m2 ?_ ?_
          · simp [dkM]
          simp [dkM]
          refine call_intro q1 ?_ ?_
          · simp [dkM]
          simp [dkM]
          refine call_intro q2 ?_ ?_
          · simp [dkM]
          simp [dkM]
          refine call_intro q3 ?_ ?_
          · simp [dkM]
          simp [dkM, hge, hle, htk]
          refine post_end (.inr rfl) ?_
          simp
        · have m2 := syn_ok1_0 (G := G) ⟨[102], [], b⟩ (a + 1) (fz c) kp (by omega) ⟨hc2, hz⟩ (by (try simp only [List.length_append] at hall); simp only [Fl.size, List.length_append, List.length_nil]; omega)
          have hz2 : fz (fz c) ≤ 9223372036854775807 := by rw [fz]; split <;> omega
          have hfs2 : fitsS (b.length) := fitS (by (try simp only [List.length_append] at hall); omega)
          try dsimp only at m2
          try simp only [List.nil_append, List.append_nil, List.length_nil, Nat.zero_add] at m1
          try simp only [List.nil_append, List.append_nil, List.length_nil, Nat.zero_add] at m2
          simp [dkQ, hj, hb, hjs, hsy]
          refine call_intro m1 ?_ ?_
          · simp [dkM]
          simp [dkM, hfs2, hb, hj, hjs, hsy]
          refine call_intro m2 ?_ ?_
          · simp [dkM]
          simp [dkM, hw]
          exact ⟨([⟨[102], b, []⟩], b, b, a + 1 + 1, fz (fz c)), _, Weak.re (by simp [dkQ]), .inr ⟨[], rfl, by simp⟩, by (try simp only [List.length_append, List.length_nil] at hall ⊢); omega, by dsimp only; omega, by dsimp only; omega, hz2⟩
    · by_cases hc1 : c = 1
      · subst hc1
        obtain ⟨x, y, hx, hxy⟩ := offF_parts kp [102] safe (w ++ b)
        have m1 := app_goes1_0 (G := G) ⟨[102], safe, w⟩ b a kp ha (by simp only [Fl.size]; simp only [List.length_append] at hall; omega)
        try dsimp only at m1
        rw [hx] at m1
        obtain ⟨S, hS⟩ : ∃ S, safe ++ x = S := ⟨_, rfl⟩
        rw [hS] at m1
        obtain ⟨A, hA⟩ : ∃ A, safe ++ (w ++ b) = A := ⟨_, rfl⟩
        have hAS : A = S ++ y := by rw [← hA, ← hS, hxy, List.append_assoc]
        have hSl : S.length = safe.length + x.length := by rw [← hS]; simp
        have hAl : A.length = safe.length + w.length + b.length := by rw [← hA]; simp; omega
        have hAl2 : A.length = S.length + y.length := by rw [hAS]; simp
        have hge : safe.length ≤ S.length := by omega
        have hle : S.length ≤ A.length := by omega
        have htk : A.take S.length = S := by rw [hAS]; simp
        have hfs2 : fitsS (safe.length + w.length + b.length) := fitS (by (try simp only [List.length_append] at hall); omega)
        have q1 := off_down1 (G := G) ⟨[102], S, []⟩ (a + 1) 0 kp kp
        have q2 := on_meets1 (G := G) ⟨[102], S, []⟩ true (a + 1) 0 kp
        have q3 := read_ok1_0 (G := G) ⟨[102], S, []⟩ (a + 1) 0 kp (by simp only [Fl.size, List.length_nil]; (try simp only [List.length_append] at hall); omega)
        try dsimp only at q3
        try simp only [List.nil_append, List.append_nil, List.length_nil, Nat.add_zero, Nat.zero_add] at m1
        try simp only [List.nil_append, List.append_nil, List.length_nil, Nat.add_zero, Nat.zero_add] at q1
        try simp only [List.nil_append, List.append_nil, List.length_nil, Nat.add_zero, Nat.zero_add] at q2
        try simp only [List.nil_append, List.append_nil, List.length_nil, Nat.add_zero, Nat.zero_add] at q3
        simp [dkQ, hj, hb, hjs]
        refine call_intro m1 ?_ ?_
        · simp [dkM]
        simp [dkM, hfs2, hb, hj, hjs, hA]
        refine call_intro q1 ?_ ?_
        · simp [dkM]
        simp [dkM]
        refine call_intro q2 ?_ ?_
        · simp [dkM]
        simp [dkM]
        refine call_intro q3 ?_ ?_
        · simp [dkM]
        simp [dkM, hge, hle, htk]
        refine post_end (.inr rfl) ?_
        simp
      have m1 := app_ok1_0 (G := G) ⟨[102], safe, w⟩ b a c kp ha ⟨hc1, hcc⟩ (by simp only [Fl.size]; simp only [List.length_append] at hall; omega)
      try dsimp only at m1
      have hz : fz c ≤ 9223372036854775807 := by unfold fz; split <;> omega
      obtain ⟨sy, hsy⟩ : ∃ s, ss[j] = s := ⟨_, rfl⟩
      cases sy
      · have hfs2 : fitsS (safe.length + w.length + b.length) := fitS (by (try simp only [List.length_append] at hall); omega)
        try simp only [List.nil_append, List.append_nil, List.length_nil, Nat.zero_add] at m1
        simp [dkQ, hj, hb, hjs]
        refine call_intro m1 ?_ ?_
        · simp [dkM]
        simp [dkM, hfs2, hb, hj, hjs, hsy, hw]
        exact ⟨([⟨[102], safe, w ++ b⟩], safe ++ w ++ b, safe, a + 1, fz c), _, Weak.re (by simp [dkQ]), .inr ⟨w ++ b, rfl, by simp⟩, by (try simp only [List.length_append, List.length_nil] at hall ⊢); omega, by dsimp only; omega, by dsimp only; omega, hz⟩
      · by_cases hc2 : fz c = 1
        · rw [hc2] at m1
          obtain ⟨x, y, hx, hxy⟩ := offF_parts kp [102] safe (w ++ b)
          have m2 := syn_goes1 (G := G) ⟨[102], safe, w ++ b⟩ [102] (a + 1) kp (by omega) (by (try simp only [List.length_append] at hall); simp only [Fl.size, List.length_append, List.length_nil]; omega)
          rw [hx] at m2
          obtain ⟨S, hS⟩ : ∃ S, safe ++ x = S := ⟨_, rfl⟩
          rw [hS] at m2
          obtain ⟨A, hA⟩ : ∃ A, safe ++ (w ++ b) = A := ⟨_, rfl⟩
          have hAS : A = S ++ y := by rw [← hA, ← hS, hxy, List.append_assoc]
          have hSl : S.length = safe.length + x.length := by rw [← hS]; simp
          have hAl : A.length = safe.length + w.length + b.length := by rw [← hA]; simp; omega
          have hAl2 : A.length = S.length + y.length := by rw [hAS]; simp
          have hge : safe.length ≤ S.length := by omega
          have hle : S.length ≤ A.length := by omega
          have htk : A.take S.length = S := by rw [hAS]; simp
          have hfs2 : fitsS (safe.length + w.length + b.length) := fitS (by (try simp only [List.length_append] at hall); omega)
          have q1 := off_down1 (G := G) ⟨[102], S, []⟩ (a + 1 + 1) 0 kp kp
          have q2 := on_meets1 (G := G) ⟨[102], S, []⟩ true (a + 1 + 1) 0 kp
          have q3 := read_ok1_0 (G := G) ⟨[102], S, []⟩ (a + 1 + 1) 0 kp (by simp only [Fl.size, List.length_nil]; (try simp only [List.length_append] at hall); omega)
          try dsimp only at q3
          try simp only [List.nil_append, List.append_nil, List.length_nil, Nat.add_zero, Nat.zero_add] at m1
          try simp only [List.nil_append, List.append_nil, List.length_nil, Nat.add_zero, Nat.zero_add] at m2
          try simp only [List.nil_append, List.append_nil, List.length_nil, Nat.add_zero, Nat.zero_add] at q1
          try simp only [List.nil_append, List.append_nil, List.length_nil, Nat.add_zero, Nat.zero_add] at q2
          try simp only [List.nil_append, List.append_nil, List.length_nil, Nat.add_zero, Nat.zero_add] at q3
          simp [dkQ, hj, hb, hjs, hsy]
          refine call_intro m1 ?_ ?_
          · simp [dkM]
          simp [dkM, hfs2, hsy, hb, hj, hjs, hA]
          refine call_intro m2 ?_ ?_
          · simp [dkM]
          simp [dkM]
          refine call_intro q1 ?_ ?_
          · simp [dkM]
          simp [dkM]
          refine call_intro q2 ?_ ?_
          · simp [dkM]
          simp [dkM]
          refine call_intro q3 ?_ ?_
          · simp [dkM]
          simp [dkM, hge, hle, htk]
          refine post_end (.inr rfl) ?_
          simp
        · have m2 := syn_ok1_0 (G := G) ⟨[102], safe, w ++ b⟩ (a + 1) (fz c) kp (by omega) ⟨hc2, hz⟩ (by (try simp only [List.length_append] at hall); simp only [Fl.size, List.length_append, List.length_nil]; omega)
          have hz2 : fz (fz c) ≤ 9223372036854775807 := by rw [fz]; split <;> omega
          have hfs2 : fitsS (safe.length + w.length + b.length) := fitS (by (try simp only [List.length_append] at hall); omega)
          try dsimp only at m2
          try simp only [List.nil_append, List.append_nil, List.length_nil, Nat.zero_add] at m1
          try simp only [List.nil_append, List.append_nil, List.length_nil, Nat.zero_add] at m2
          simp [dkQ, hj, hb, hjs, hsy]
          refine call_intro m1 ?_ ?_
          · simp [dkM]
          simp [dkM, hfs2, hb, hj, hjs, hsy]
          refine call_intro m2 ?_ ?_
          · simp [dkM]
          simp [dkM, hw]
          exact ⟨([⟨[102], safe ++ w ++ b, []⟩], safe ++ w ++ b, safe ++ w ++ b, a + 1 + 1, fz (fz c)), _, Weak.re (by simp [dkQ]), .inr ⟨[], rfl, by simp⟩, by (try simp only [List.length_append, List.length_nil] at hall ⊢); omega, by dsimp only; omega, by dsimp only; omega, hz2⟩
  · rintro ⟨fs, all, safe, a, c⟩ q ⟨hfs, hall, ha1, ha2, hcc⟩
    dsimp only at hfs hall ha1 ha2 hcc
    rw [List.take_length] at hall
    rcases hfs with ⟨rfl, rfl, rfl⟩ | ⟨w, rfl, rfl⟩
    · have q1 := off_meets0 (G := G) a c kp kp
      have q2 := on_meets0 (G := G) true a 0 kp
      have q3 := read_none0 (G := G) [102] a 0 kp
      simp [dkQ]
      refine call_intro q1 ?_ ?_
      · simp [dkM]
      simp [dkM]
      refine call_intro q2 ?_ ?_
      · simp [dkM]
      simp [dkM]
      refine call_intro q3 ?_ ?_
      · simp [dkM]
      simp [dkM]
      refine post_end (.inr rfl) ?_
      simp
    · obtain ⟨x, y, hx, hxy⟩ := offF_parts kp [102] safe w
      have q1 := off_meets1 (G := G) ⟨[102], safe, w⟩ a c kp kp (by simp only [Fl.size]; rw [List.length_append] at hall; omega)
      rw [hx] at q1
      obtain ⟨S, hS⟩ : ∃ S, safe ++ x = S := ⟨_, rfl⟩
      rw [hS] at q1
      obtain ⟨A, hA⟩ : ∃ A, safe ++ w = A := ⟨_, rfl⟩
      have hAS : A = S ++ y := by rw [← hA, ← hS, hxy, List.append_assoc]
      have hSl : S.length = safe.length + x.length := by rw [← hS]; simp
      have hAl2 : A.length = S.length + y.length := by rw [hAS]; simp
      have hge : safe.length ≤ S.length := by omega
      have hle : S.length ≤ A.length := by omega
      have htk : A.take S.length = S := by rw [hAS]; simp
      have q2 := on_meets1 (G := G) ⟨[102], S, []⟩ true a 0 kp
      have q3 := read_ok1_0 (G := G) ⟨[102], S, []⟩ a 0 kp (by simp only [Fl.size, List.length_nil]; rw [hA] at hall; omega)
      try dsimp only at q3
      try simp only [List.nil_append, List.append_nil, List.length_nil, Nat.add_zero, Nat.zero_add] at q3
      simp [dkQ, hA]
      refine call_intro q1 ?_ ?_
      · simp [dkM]
      simp [dkM]
      refine call_intro q2 ?_ ?_
      · simp [dkM]
      simp [dkM]
      refine call_intro q3 ?_ ?_
      · simp [dkM]
      simp [dkM, hge, hle, htk]
      refine post_end (.inr rfl) ?_
      simp
end Go.Proofs.Ythmnkpehifgjeaa.WL

end
section
/-
  CHAPTER 16: contracts of the disk's functions, for each number of files (printed by gd.py).
-/
namespace Go.Proofs.Ythmnkpehifgjeaa.WL
open Go
set_option maxHeartbeats 8000000
variable {G : Nat → Option AV}
theorem app_down2 (f0 f1 : Fl) (n b : Bytes) (a c kp : Int) : Meets Try.prog G fn_disk_Disk_Append [.ptr 1000 0 0, .v (.string (mkS n)), .sl 1 (B b)] (dkM 0 [] ⟨[f0, f1], true, a, c, kp⟩) true (.v (.int .i64 21)) (dkM 1 [] ⟨[f0, f1], true, a, c, kp⟩) := by
  refine meets_of_go mix k_disk_Disk_Append ⟨by simp [dkM], by simp [dkM], by simp [dkM]⟩ ?_
  have m2 := act_down2 (G := G) f0 f1 a c kp
  simp [dkM]
  refine call_intro m2 ?_ ?_
  · simp [dkM]
  simp [dkM]
  refine post_end (.inr rfl) ?_
  simp [dkM]
theorem ins_ok2_0 (f0 f1 : Fl) (b : Bytes)  (a c kp : Int) (ha : 0 ≤ a ∧ a ≤ 1000000) (hc : c ≠ 1 ∧ c ≤ 9223372036854775807) (hs : f0.size + f1.size + b.length ≤ 4194304) : Meets Try.prog G fn_disk_Disk_Install [.ptr 1000 0 0, .v (.string (mkS f0.name)), .sl 1 (B b)] (dkM 0 [] ⟨[f0, f1], false, a, c, kp⟩) true (.v (.int .i64 0)) (dkM 1 [0] ⟨[⟨f0.name, b, []⟩, f1], false, (a + 1), (fz c), kp⟩) := by
  refine meets_of_go mix k_disk_Disk_Install ⟨by simp [dkM], by simp [dkM], by simp [dkM]⟩ ?_
  have m1 := size_meets2 (G := G) f0 f1 false a c kp (by omega)
  have m2 := act_ok2 (G := G) f0 f1 a c kp ha hc
  have hft : fitsB b.length 1 := fits (by omega) (by omega)
  obtain ⟨s, hsz⟩ : ∃ s, f0.size + f1.size = s := ⟨_, rfl⟩
  rw [hsz] at m1 hs
  have hw : IntKind.i64.wrap ((s : Int) + (b.length : Nat)) = (s : Int) + (b.length : Nat) := w64_id (by omega)
  have hle : ¬ (4194304 : Int) < (s : Int) + (b.length : Nat) := by omega
  simp [dkM]
  refine call_intro m1 ?_ ?_
  · simp [dkM]
  simp [dkM, hw, hle]
  refine call_intro m2 ?_ ?_
  · simp [dkM]
  simp [dkM, hft]
  refine post_end (.inr rfl) ?_
  simp [dkM]
theorem read_ok2_0 (f0 f1 : Fl)  (a c kp : Int) (hs : f0.size ≤ 100000000) : Meets Try.prog G fn_disk_Disk_Read [.ptr 1000 0 0, .v (.string (mkS f0.name))] (dkM 0 [] ⟨[f0, f1], false, a, c, kp⟩) true (.tup [.row 3000 1 1 0 (f0.safe.length + f0.waits.length), .v (.int .i64 0)]) (dkM 1 [] ⟨[f0, f1], false, a, c, kp⟩ ++ [(3000, .rows 1 1 (B (f0.safe ++ f0.waits)))]) := by
  refine meets_of_go mix k_disk_Disk_Read ⟨by simp [dkM], by simp [dkM], by simp [dkM]⟩ ?_
  unfold Fl.size at hs
  have hft : fitsB f0.safe.length 1 ∧ fitsB (f0.safe.length + f0.waits.length) 1 := ⟨fits (by omega) (by omega), fits (by omega) (by omega)⟩
  simp [dkM, hft]
  refine post_end (.inr rfl) ?_
  simp [dkM]
theorem app_ok2_1 (f0 f1 : Fl) (b : Bytes) (h0 : f1.name ≠ f0.name) (a c kp : Int) (ha : 0 ≤ a ∧ a ≤ 1000000) (hc : c ≠ 1 ∧ c ≤ 9223372036854775807) (hs : f0.size + f1.size + b.length ≤ 4194304) : Meets Try.prog G fn_disk_Disk_Append [.ptr 1000 0 0, .v (.string (mkS f1.name)), .sl 1 (B b)] (dkM 0 [] ⟨[f0, f1], false, a, c, kp⟩) true (.v (.int .i64 0)) (dkM 1 [] ⟨[f0, ⟨f1.name, f1.safe, f1.waits ++ b⟩], false, (a + 1), (fz c), kp⟩) := by
  refine meets_of_go mix k_disk_Disk_Append ⟨by simp [dkM], by simp [dkM], by simp [dkM]⟩ ?_
  have m1 := size_meets2 (G := G) f0 f1 false a c kp (by omega)
  have m2 := act_ok2 (G := G) f0 f1 a c kp ha hc
  have m3 := file_old2_1 (G := G) f0 f1 h0 false (a + 1) (fz c) kp
  have hpl : f1.waits.length ≤ f1.size := by unfold Fl.size; omega
  have hft : fitsB (f1.waits.length + b.length) 1 := fits (by omega) (by omega)
  obtain ⟨s, hsz⟩ : ∃ s, f0.size + f1.size = s := ⟨_, rfl⟩
  rw [hsz] at m1 hs
  have hw : IntKind.i64.wrap ((s : Int) + (b.length : Nat)) = (s : Int) + (b.length : Nat) := w64_id (by omega)
  have hle : ¬ (4194304 : Int) < (s : Int) + (b.length : Nat) := by omega
  simp [dkM]
  refine call_intro m1 ?_ ?_
  · simp [dkM]
  simp [dkM, hw, hle]
  refine call_intro m2 ?_ ?_
  · simp [dkM]
  simp [dkM]
  refine call_intro m3 ?_ ?_
  · simp [dkM]
  simp [dkM, hft]
  refine post_end (.inr rfl) ?_
  simp [dkM]
theorem app_goes2_1 (f0 f1 : Fl) (b : Bytes) (h0 : f1.name ≠ f0.name) (a kp : Int) (ha : 0 ≤ a ∧ a ≤ 1000000) (hs : f0.size + f1.size + b.length ≤ 4194304) : Meets Try.prog G fn_disk_Disk_Append [.ptr 1000 0 0, .v (.string (mkS f1.name)), .sl 1 (B b)] (dkM 0 [] ⟨[f0, f1], false, a, 1, kp⟩) true (.v (.int .i64 21)) (dkM 1 [] ⟨[offF kp f0, offF kp ⟨f1.name, f1.safe, f1.waits ++ b⟩], true, (a + 1), 0, kp⟩) := by
  refine meets_of_go mix k_disk_Disk_Append ⟨by simp [dkM], by simp [dkM], by simp [dkM]⟩ ?_
  have m1 := size_meets2 (G := G) f0 f1 false a 1 kp (by omega)
  have m2 := act_goes2 (G := G) f0 f1 a kp ha
  have m3 := file_old2_1 (G := G) f0 f1 h0 false (a + 1) 0 kp
  have hpl : f1.waits.length ≤ f1.size := by unfold Fl.size; omega
  have m4 := off_meets2 (G := G) f0 (⟨f1.name, f1.safe, f1.waits ++ b⟩ : Fl) (a + 1) 0 kp kp (by simp only [Fl.size, List.length_append, List.length_nil] at *; omega) (by simp only [Fl.size, List.length_append, List.length_nil] at *; omega)
  have hft : fitsB (f1.waits.length + b.length) 1 := fits (by omega) (by omega)
  obtain ⟨s, hsz⟩ : ∃ s, f0.size + f1.size = s := ⟨_, rfl⟩
  rw [hsz] at m1 hs
  have hw : IntKind.i64.wrap ((s : Int) + (b.length : Nat)) = (s : Int) + (b.length : Nat) := w64_id (by omega)
  have hle : ¬ (4194304 : Int) < (s : Int) + (b.length : Nat) := by omega
  simp [dkM]
  refine call_intro m1 ?_ ?_
  · simp [dkM]
  simp [dkM, hw, hle]
  refine call_intro m2 ?_ ?_
  · simp [dkM]
  simp [dkM]
  refine call_intro m3 ?_ ?_
  · simp [dkM]
  simp [dkM, hft]
  refine call_intro m4 ?_ ?_
  · simp [dkM]
  simp [dkM]
  refine post_end (.inr rfl) ?_
  simp [dkM]
theorem syn_ok2_1 (f0 f1 : Fl) (h0 : f1.name ≠ f0.name) (a c kp : Int) (ha : 0 ≤ a ∧ a ≤ 1000000) (hc : c ≠ 1 ∧ c ≤ 9223372036854775807) (hs : f1.size ≤ 100000000) : Meets Try.prog G fn_disk_Disk_Sync [.ptr 1000 0 0, .v (.string (mkS f1.name))] (dkM 0 [] ⟨[f0, f1], false, a, c, kp⟩) true (.v (.int .i64 0)) (dkM 1 [] ⟨[f0, ⟨f1.name, f1.safe ++ f1.waits, []⟩], false, (a + 1), (fz c), kp⟩) := by
  refine meets_of_go mix k_disk_Disk_Sync ⟨by simp [dkM], by simp [dkM], by simp [dkM]⟩ ?_
  have m2 := act_ok2 (G := G) f0 f1 a c kp ha hc
  have m3 := file_old2_1 (G := G) f0 f1 h0 false (a + 1) (fz c) kp
  unfold Fl.size at hs
  have hft : fitsB (f1.safe.length + f1.waits.length) 1 := fits (by omega) (by omega)
  simp [dkM]
  refine call_intro m2 ?_ ?_
  · simp [dkM]
  simp [dkM]
  refine call_intro m3 ?_ ?_
  · simp [dkM]
  simp [dkM, hft]
  refine post_end (.inr rfl) ?_
  simp [dkM]
theorem read_ok2_1 (f0 f1 : Fl) (h0 : f1.name ≠ f0.name) (a c kp : Int) (hs : f1.size ≤ 100000000) : Meets Try.prog G fn_disk_Disk_Read [.ptr 1000 0 0, .v (.string (mkS f1.name))] (dkM 0 [] ⟨[f0, f1], false, a, c, kp⟩) true (.tup [.row 3000 1 1 0 (f1.safe.length + f1.waits.length), .v (.int .i64 0)]) (dkM 1 [] ⟨[f0, f1], false, a, c, kp⟩ ++ [(3000, .rows 1 1 (B (f1.safe ++ f1.waits)))]) := by
  refine meets_of_go mix k_disk_Disk_Read ⟨by simp [dkM], by simp [dkM], by simp [dkM]⟩ ?_
  unfold Fl.size at hs
  have hft : fitsB f1.safe.length 1 ∧ fitsB (f1.safe.length + f1.waits.length) 1 := ⟨fits (by omega) (by omega), fits (by omega) (by omega)⟩
  simp [dkM, hft, h0]
  refine post_end (.inr rfl) ?_
  simp [dkM]
theorem ins_goes2 (f0 f1 : Fl) (n b : Bytes) (a kp : Int) (ha : 0 ≤ a ∧ a ≤ 1000000) (hs : f0.size + f1.size + b.length ≤ 4194304) : Meets Try.prog G fn_disk_Disk_Install [.ptr 1000 0 0, .v (.string (mkS n)), .sl 1 (B b)] (dkM 0 [] ⟨[f0, f1], false, a, 1, kp⟩) true (.v (.int .i64 21)) (dkM 1 [] ⟨[offF kp f0, offF kp f1], true, (a + 1), 0, kp⟩) := by
  refine meets_of_go mix k_disk_Disk_Install ⟨by simp [dkM], by simp [dkM], by simp [dkM]⟩ ?_
  have m1 := size_meets2 (G := G) f0 f1 false a 1 kp (by omega)
  have m2 := act_goes2 (G := G) f0 f1 a kp ha
  have m4 := off_meets2 (G := G) f0 f1 (a + 1) 0 kp kp (by omega) (by omega)
  obtain ⟨s, hsz⟩ : ∃ s, f0.size + f1.size = s := ⟨_, rfl⟩
  rw [hsz] at m1 hs
  have hw : IntKind.i64.wrap ((s : Int) + (b.length : Nat)) = (s : Int) + (b.length : Nat) := w64_id (by omega)
  have hle : ¬ (4194304 : Int) < (s : Int) + (b.length : Nat) := by omega
  simp [dkM]
  refine call_intro m1 ?_ ?_
  · simp [dkM]
  simp [dkM, hw, hle]
  refine call_intro m2 ?_ ?_
  · simp [dkM]
  simp [dkM]
  refine call_intro m4 ?_ ?_
  · simp [dkM]
  simp [dkM]
  refine post_end (.inr rfl) ?_
  simp [dkM]
end Go.Proofs.Ythmnkpehifgjeaa.WL

end
section
/-
  CHAPTER 16: walks of laws: what is installed.
-/
namespace Go.Proofs.Ythmnkpehifgjeaa.WL
open Go
set_option maxHeartbeats 8000000
variable {G : Nat → Option AV}

theorem offF_none (kp : Int) (n s : Bytes) : offF kp ⟨n, s, []⟩ = ⟨n, s, []⟩ := by simp [offF]
theorem diskInstalls_walk (old now other : Bytes) (n kp : Int) (hn : -9223372036854775808 ≤ n ∧ n < 9223372036854775808) : Meets Try.prog G fn_l16_DiskInstalls [.sl 1 (B old), .sl 1 (B now), .sl 1 (B other), .v (.int .i64 n), .v (.int .i64 kp)] [] true (.v (.bool true)) [] := by
  refine meets_of_go mix k_l16_DiskInstalls ⟨by simp, by simp, by simp⟩ ?_
  by_cases c1 : (4096 : Int) < (old.length : Nat)
  · simp
    refine call_intro alive16_meets ?_ ?_
    · simp
    simp [c1]
    refine post_end (.inr rfl) ?_
    simp
  by_cases c2 : (4096 : Int) < (now.length : Nat)
  · simp
    refine call_intro alive16_meets ?_ ?_
    · simp
    simp [c1, c2]
    refine post_end (.inr rfl) ?_
    simp
  by_cases c3 : (4096 : Int) < (other.length : Nat)
  · simp
    refine call_intro alive16_meets ?_ ?_
    · simp
    simp [c1, c2, c3]
    refine post_end (.inr rfl) ?_
    simp
  have m1 := ins_ok0_0 (G := G) [102] old 0 0 0 (by omega) (by omega) (by omega)
  have m2 := app_ok1_1 (G := G) ⟨[102], old, []⟩ [103] other (by simp) 1 0 0 (by omega) (by omega) (by simp only [Fl.size, List.length_nil]; omega)
  have m3 := syn_ok2_1 (G := G) ⟨[102], old, []⟩ ⟨[103], [], other⟩ (by simp) 2 0 0 (by omega) (by omega) (by simp only [Fl.size, List.length_nil]; omega)
  obtain ⟨c, hc⟩ : ∃ c : Int, (if n < 0 then 0 else n) = c := ⟨_, rfl⟩
  have m4 := arm_meets2 (G := G) ⟨[102], old, []⟩ ⟨[103], other, []⟩ false 3 0 0 n kp
  rw [hc] at m4
  have hc9 : c ≤ 9223372036854775807 := by rw [← hc]; split <;> omega
  dsimp only at m1 m2 m3 m4
  simp only [fz_zero, List.nil_append, List.append_nil] at m1 m2 m3 m4
  by_cases h1 : c = 1
  · have hn1 : n = 1 := by rw [← hc] at h1; split at h1 <;> omega
    subst h1
    have m5 := ins_goes2 (G := G) ⟨[102], old, []⟩ ⟨[103], other, []⟩ [102] now 3 kp (by omega) (by simp only [Fl.size, List.length_nil]; omega)
    rw [offF_none, offF_none] at m5
    have m6 := app_down2 (G := G) ⟨[102], old, []⟩ ⟨[103], other, []⟩ [103] now 4 0 kp
    have m7 := off_down2 (G := G) ⟨[102], old, []⟩ ⟨[103], other, []⟩ 4 0 kp kp
    have m8 := on_meets2 (G := G) ⟨[102], old, []⟩ ⟨[103], other, []⟩ true 4 0 kp
    have m9 := read_ok2_0 (G := G) ⟨[102], old, []⟩ ⟨[103], other, []⟩ 4 0 kp (by simp only [Fl.size, List.length_nil]; omega)
    have m10 := read_ok2_1 (G := G) ⟨[102], old, []⟩ ⟨[103], other, []⟩ (by simp) 4 0 kp (by simp only [Fl.size, List.length_nil]; omega)
    dsimp only at m5 m6 m7 m8 m9 m10
    simp only [List.append_nil, List.length_nil, Nat.add_zero] at m9 m10
    simp
    refine call_intro alive16_meets ?_ ?_
    · simp
    simp [c1, c2, c3]
    refine call_intro new_meets ?_ ?_
    · simp
    simp
    refine call_intro m1 ?_ ?_
    · simp [dkM]
    simp [dkM]
    refine call_intro m2 ?_ ?_
    · simp [dkM]
    simp [dkM]
    refine call_intro m3 ?_ ?_
    · simp [dkM]
    simp [dkM]
    refine call_intro m4 ?_ ?_
    · simp [dkM]
    simp [dkM]
    refine call_intro m5 ?_ ?_
    · simp [dkM]
    simp [dkM]
    refine call_intro m6 ?_ ?_
    · simp [dkM]
    simp [dkM]
    refine call_intro m7 ?_ ?_
    · simp [dkM]
    simp [dkM]
    refine call_intro m8 ?_ ?_
    · simp [dkM]
    simp [dkM]
    refine call_intro m9 ?_ ?_
    · simp [dkM]
    simp [dkM]
    refine call_intro m10 ?_ ?_
    · simp [dkM]
    simp [dkM, hn1]
    refine post_end (.inr rfl) ?_
    simp
  by_cases h2 : c = 2
  · have hn1 : ¬ n = 1 := by rw [← hc] at h2; split at h2 <;> omega
    subst h2
    have m5 := ins_ok2_0 (G := G) ⟨[102], old, []⟩ ⟨[103], other, []⟩ now 3 2 kp (by omega) (by omega) (by simp only [Fl.size, List.length_nil]; omega)
    have m6 := app_goes2_1 (G := G) ⟨[102], now, []⟩ ⟨[103], other, []⟩ now (by simp) 4 kp (by omega) (by simp only [Fl.size, List.length_nil]; omega)
    have ho : ∃ x : Bytes, offF kp ⟨[103], other, [] ++ now⟩ = ⟨[103], other ++ x, []⟩ ∧ x.length ≤ now.length := ⟨_, rfl, by simp; omega⟩
    obtain ⟨x, hx, hxl⟩ := ho
    have hge : (other.length : Int) ≤ (other.length : Nat) + (x.length : Nat) := by omega
    have hge2 : other.length ≤ other.length + x.length := by omega
    dsimp only at m5 m6
    rw [offF_none, hx] at m6
    have m7 := off_down2 (G := G) ⟨[102], now, []⟩ ⟨[103], other ++ x, []⟩ 5 0 kp kp
    have m8 := on_meets2 (G := G) ⟨[102], now, []⟩ ⟨[103], other ++ x, []⟩ true 5 0 kp
    have m9 := read_ok2_0 (G := G) ⟨[102], now, []⟩ ⟨[103], other ++ x, []⟩ 5 0 kp (by simp only [Fl.size, List.length_nil]; omega)
    have m10 := read_ok2_1 (G := G) ⟨[102], now, []⟩ ⟨[103], other ++ x, []⟩ (by simp) 5 0 kp (by simp only [Fl.size, List.length_nil, List.length_append]; omega)
    have hf2 : fz 2 = 1 := rfl
    dsimp only at m7 m8 m9 m10
    simp only [hf2] at m5
    simp only [List.append_nil, List.length_nil, Nat.add_zero] at m9 m10
    simp
    refine call_intro alive16_meets ?_ ?_
    · simp
    simp [c1, c2, c3]
    refine call_intro new_meets ?_ ?_
    · simp
    simp
    refine call_intro m1 ?_ ?_
    · simp [dkM]
    simp [dkM]
    refine call_intro m2 ?_ ?_
    · simp [dkM]
    simp [dkM]
    refine call_intro m3 ?_ ?_
    · simp [dkM]
    simp [dkM]
    refine call_intro m4 ?_ ?_
    · simp [dkM]
    simp [dkM]
    refine call_intro m5 ?_ ?_
    · simp [dkM]
    simp [dkM]
    refine call_intro m6 ?_ ?_
    · simp [dkM]
    simp [dkM]
    refine call_intro m7 ?_ ?_
    · simp [dkM]
    simp [dkM]
    refine call_intro m8 ?_ ?_
    · simp [dkM]
    simp [dkM]
    refine call_intro m9 ?_ ?_
    · simp [dkM]
    simp [dkM]
    refine call_intro m10 ?_ ?_
    · simp [dkM]
    simp [dkM, hn1, hge, hge2]
    refine post_end (.inr rfl) ?_
    simp
  · have hn1 : ¬ n = 1 := by
      intro e
      subst e
      simp at hc
      exact h1 hc.symm
    have hz : fz c ≠ 1 ∧ fz c ≤ 9223372036854775807 := by unfold fz; split <;> omega
    have m5 := ins_ok2_0 (G := G) ⟨[102], old, []⟩ ⟨[103], other, []⟩ now 3 c kp (by omega) ⟨h1, hc9⟩ (by simp only [Fl.size, List.length_nil]; omega)
    have m6 := app_ok2_1 (G := G) ⟨[102], now, []⟩ ⟨[103], other, []⟩ now (by simp) 4 (fz c) kp (by omega) hz (by simp only [Fl.size, List.length_nil]; omega)
    have m7 := off_meets2 (G := G) ⟨[102], now, []⟩ ⟨[103], other, [] ++ now⟩ 5 (fz (fz c)) kp kp (by simp only [Fl.size, List.length_nil]; omega) (by simp only [Fl.size, List.nil_append]; omega)
    have ho : ∃ x : Bytes, offF kp ⟨[103], other, [] ++ now⟩ = ⟨[103], other ++ x, []⟩ ∧ x.length ≤ now.length := ⟨_, rfl, by simp; omega⟩
    obtain ⟨x, hx, hxl⟩ := ho
    have hge : (other.length : Int) ≤ (other.length : Nat) + (x.length : Nat) := by omega
    have hge2 : other.length ≤ other.length + x.length := by omega
    rw [offF_none, hx] at m7
    have m8 := on_meets2 (G := G) ⟨[102], now, []⟩ ⟨[103], other ++ x, []⟩ true 5 0 kp
    have m9 := read_ok2_0 (G := G) ⟨[102], now, []⟩ ⟨[103], other ++ x, []⟩ 5 0 kp (by simp only [Fl.size, List.length_nil]; omega)
    have m10 := read_ok2_1 (G := G) ⟨[102], now, []⟩ ⟨[103], other ++ x, []⟩ (by simp) 5 0 kp (by simp only [Fl.size, List.length_nil, List.length_append]; omega)
    dsimp only at m5 m6 m7 m8 m9 m10
    simp only [List.append_nil, List.length_nil, Nat.add_zero] at m9 m10
    simp
    refine call_intro alive16_meets ?_ ?_
    · simp
    simp [c1, c2, c3]
    refine call_intro new_meets ?_ ?_
    · simp
    simp
    refine call_intro m1 ?_ ?_
    · simp [dkM]
    simp [dkM]
    refine call_intro m2 ?_ ?_
    · simp [dkM]
    simp [dkM]
    refine call_intro m3 ?_ ?_
    · simp [dkM]
    simp [dkM]
    refine call_intro m4 ?_ ?_
    · simp [dkM]
    simp [dkM]
    refine call_intro m5 ?_ ?_
    · simp [dkM]
    simp [dkM]
    refine call_intro m6 ?_ ?_
    · simp [dkM]
    simp [dkM]
    refine call_intro m7 ?_ ?_
    · simp [dkM]
    simp [dkM]
    refine call_intro m8 ?_ ?_
    · simp [dkM]
    simp [dkM]
    refine call_intro m9 ?_ ?_
    · simp [dkM]
    simp [dkM]
    refine call_intro m10 ?_ ?_
    · simp [dkM]
    simp [dkM, hn1, hge, hge2]
    refine post_end (.inr rfl) ?_
    simp
end Go.Proofs.Ythmnkpehifgjeaa.WL

end
section
/-
  CHAPTER 16: walks of laws: what is handed in stays.
-/
namespace Go.Proofs.Ythmnkpehifgjeaa.WL
open Go
set_option maxHeartbeats 8000000
variable {G : Nat → Option AV}

theorem diskKeeps_walk (a b : Bytes) : Meets Try.prog G fn_l16_DiskKeeps [.sl 1 (B a), .sl 1 (B b)] [] true (.v (.bool true)) [] := by
  refine meets_of_go mix k_l16_DiskKeeps ⟨by simp, by simp, by simp⟩ ?_
  by_cases c1 : (4096 : Int) < (a.length : Nat)
  · simp
    refine call_intro alive16_meets ?_ ?_
    · simp
    simp [c1]
    refine post_end (.inr rfl) ?_
    simp
  by_cases c2 : (4096 : Int) < (b.length : Nat)
  · simp
    refine call_intro alive16_meets ?_ ?_
    · simp
    simp [c1, c2]
    refine post_end (.inr rfl) ?_
    simp
  have hfa : fitsB a.length 1 := fits (by omega) (by omega)
  have hfb : fitsB b.length 1 := fits (by omega) (by omega)
  have m1 := app_ok0_0 (G := G) [102] a 0 0 0 (by omega) (by omega) (by omega)
  have m2 := ins_ok1_1 (G := G) ⟨[102], [], a⟩ [103] b (by simp) 1 0 0 (by omega) (by omega) (by simp only [Fl.size, List.length_nil]; omega)
  have m3 := read_ok2_0 (G := G) ⟨[102], [], a⟩ ⟨[103], b, []⟩ 2 0 0 (by simp only [Fl.size, List.length_nil]; omega)
  have m4 := read_ok2_1 (G := G) ⟨[102], [], a⟩ ⟨[103], b, []⟩ (by simp) 2 0 0 (by simp only [Fl.size, List.length_nil]; omega)
  dsimp only at m1 m2 m3 m4
  simp only [fz_zero, List.nil_append, List.append_nil, List.length_nil, Nat.zero_add, Nat.add_zero] at m1 m2 m3 m4
  simp
  refine call_intro alive16_meets ?_ ?_
  · simp
  simp [c1, c2, hfa, hfb]
  refine call_intro new_meets ?_ ?_
  · simp
  simp
  refine call_intro m1 ?_ ?_
  · simp [dkM]
  simp [dkM]
  refine call_intro m2 ?_ ?_
  · simp [dkM]
  simp [dkM]
  refine go_up a.length (fun j (xs : Bytes) => xs.length = a.length) (fun j xs q => ⟨[(0, .sl 1 (B a)), (1, .sl 1 (B b)), (5, .row 5 1 q 0 xs.length), (6, .row 6 1 q 0 b.length), (7, .ptr 1000 q 0), (51, .v (.int .i64 (a.length : Nat))), (52, .v (.int .i64 (j : Nat)))],
    (5, .rows q 1 (B xs)) :: (6, .rows q 1 (B b)) :: dkQ q ⟨[⟨[102], [], a⟩, ⟨[103], b, []⟩], false, 2, 0, 0⟩, q + 1⟩) a _ (Weak.re (by simp [dkQ])) rfl ?_ ?_
  · intro j xs q hj hx
    have hw : IntKind.i64.wrap ((j : Int) + 1) = ((j + 1 : Nat) : Int) := w64_succ (by omega)
    have hjx : j < xs.length := by omega
    simp [hj, hjx, dkQ, hw, bv_u8, B_set]
    exact ⟨xs.set j (u8 ((xs[j].toNat : Int) + 1)), _, Weak.re (by simp [dkQ]), by simp [hx]⟩
  · intro xs q hx
    simp [dkQ]
    refine go_up b.length (fun j (ys : Bytes) => ys.length = b.length) (fun j ys q => ⟨[(0, .sl 1 (B a)), (1, .sl 1 (B b)), (6, .row 6 1 q 0 ys.length), (7, .ptr 1000 q 0), (63, .v (.int .i64 (b.length : Nat))), (64, .v (.int .i64 (j : Nat)))],
      (6, .rows q 1 (B ys)) :: dkQ q ⟨[⟨[102], [], a⟩, ⟨[103], b, []⟩], false, 2, 0, 0⟩, q + 1⟩) b _ (Weak.re (by simp [dkQ])) rfl ?_ ?_
    · intro j ys q hj hy
      have hw : IntKind.i64.wrap ((j : Int) + 1) = ((j + 1 : Nat) : Int) := w64_succ (by omega)
      have hjy : j < ys.length := by omega
      simp [hj, hjy, dkQ, hw, bv_u8, B_set]
      exact ⟨ys.set j (u8 ((ys[j].toNat : Int) + 1)), _, Weak.re (by simp [dkQ]), by simp [hy]⟩
    · intro ys q hy
      simp [dkQ]
      refine call_intro m3 ?_ ?_
      · simp [dkM]
      simp [dkM]
      refine go_up a.length (fun j (rs : Bytes) => rs.length = a.length) (fun j rs q => ⟨[(0, .sl 1 (B a)), (1, .sl 1 (B b)), (7, .ptr 1000 q 0), (10, .row 10 1 q 0 rs.length), (80, .v (.int .i64 (a.length : Nat))), (81, .v (.int .i64 (j : Nat)))],
        (10, .rows q 1 (B rs)) :: dkQ q ⟨[⟨[102], [], a⟩, ⟨[103], b, []⟩], false, 2, 0, 0⟩, q + 1⟩) a _ (Weak.re (by simp [dkQ])) rfl ?_ ?_
      · intro j rs q hj hr
        have hw : IntKind.i64.wrap ((j : Int) + 1) = ((j + 1 : Nat) : Int) := w64_succ (by omega)
        have hjr : j < rs.length := by omega
        simp [hj, hjr, dkQ, hw, bv_u8, B_set]
        exact ⟨rs.set j (u8 ((rs[j].toNat : Int) + 1)), _, Weak.re (by simp [dkQ]), by simp [hr]⟩
      · intro rs q hr
        simp [dkQ]
        refine call_intro m3 ?_ ?_
        · simp [dkM]
        simp [dkM]
        refine call_intro m4 ?_ ?_
        · simp [dkM]
        simp [dkM]
        refine post_end (.inr rfl) ?_
        simp
end Go.Proofs.Ythmnkpehifgjeaa.WL

end
