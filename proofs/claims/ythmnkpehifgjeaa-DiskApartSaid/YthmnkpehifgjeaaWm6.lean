/- Texts put together: S16a, S16b, S16c, S16d0, S16d1, L16a, S16d3, S16d2. -/
import Derived.Test.YthmnkpehifgjeaaWc1
section
/-
  CHAPTER 16: files in a map, as memory.
-/
namespace Go.Proofs.Ythmnkpehifgjeaa.WL
open Go
set_option maxHeartbeats 8000000
variable {G : Nat → Option AV}

/-- A file: its name, its bytes that are safe, such that wait. -/
structure Fl where
  name : Bytes
  safe : Bytes
  waits : Bytes
structure Dk where
  fs : List Fl
  down : Bool
  acts : Int
  fuse : Int
  keep : Int
def dkEnts (nw : List Nat) : Nat → List Fl → List AV
  | _, [] => []
  | i, f :: fs => entA (.v (.string (mkS f.name))) (.ptr (1010 + i) (if i ∈ nw then 1 else 0) 0) (i : Nat) :: dkEnts nw (i + 1) fs
def dkVars (g : Nat) (nw : List Nat) : Nat → List Fl → List (Nat × Loc)
  | _, [] => []
  | i, f :: fs => (1010 + i, .var (if i ∈ nw then 1 else 0) (.node [.row (2010 + i) 1 g 0 f.safe.length, .row (2110 + i) 1 g 0 f.waits.length])) :: dkVars g nw (i + 1) fs
def dkSafe (g : Nat) : Nat → List Fl → List (Nat × Loc)
  | _, [] => []
  | i, f :: fs => (2010 + i, .rows g 1 (B f.safe)) :: dkSafe g (i + 1) fs
def dkWaits (g : Nat) : Nat → List Fl → List (Nat × Loc)
  | _, [] => []
  | i, f :: fs => (2110 + i, .rows g 1 (B f.waits)) :: dkWaits g (i + 1) fs
@[simp] theorem dkEnts_nil (nw : List Nat) (i : Nat) : dkEnts nw i [] = [] := (rfl)
@[simp] theorem dkEnts_cons (nw : List Nat) (i : Nat) (f : Fl) (fs : List Fl) : dkEnts nw i (f :: fs) = entA (.v (.string (mkS f.name))) (.ptr (1010 + i) (if i ∈ nw then 1 else 0) 0) (i : Nat) :: dkEnts nw (i + 1) fs := (rfl)
@[simp] theorem dkVars_nil (g : Nat) (nw : List Nat) (i : Nat) : dkVars g nw i [] = [] := (rfl)
@[simp] theorem dkVars_cons (g : Nat) (nw : List Nat) (i : Nat) (f : Fl) (fs : List Fl) : dkVars g nw i (f :: fs) = (1010 + i, .var (if i ∈ nw then 1 else 0) (.node [.row (2010 + i) 1 g 0 f.safe.length, .row (2110 + i) 1 g 0 f.waits.length])) :: dkVars g nw (i + 1) fs := (rfl)
@[simp] theorem dkSafe_nil (g i : Nat) : dkSafe g i [] = [] := (rfl)
@[simp] theorem dkSafe_cons (g i : Nat) (f : Fl) (fs : List Fl) : dkSafe g i (f :: fs) = (2010 + i, .rows g 1 (B f.safe)) :: dkSafe g (i + 1) fs := (rfl)
@[simp] theorem dkWaits_nil (g i : Nat) : dkWaits g i [] = [] := (rfl)
@[simp] theorem dkWaits_cons (g i : Nat) (f : Fl) (fs : List Fl) : dkWaits g i (f :: fs) = (2110 + i, .rows g 1 (B f.waits)) :: dkWaits g (i + 1) fs := (rfl)
/-- A disk's memory: its rows' stamp; which of its files are new. -/
def dkM (g : Nat) (nw : List Nat) (d : Dk) : List (Nat × Loc) :=
  (1000, .var 0 (.node [.oref 1001 0 true, .v (.bool d.down), .v (.int .i64 d.acts), .v (.int .i64 d.fuse), .v (.int .i64 d.keep)])) ::
  (1001, .ob 0 (.map false 1 false 1) (.node [.node (dkEnts nw 0 d.fs), .v (.int .i64 (d.fs.length : Nat))])) :: (dkVars g nw 0 d.fs ++ (dkSafe g 0 d.fs ++ dkWaits g 0 d.fs))
@[simp] theorem cmpA_text (a b : Bytes) : cmpA .str (.v (.string (mkS a))) (.v (.string (mkS b))) = some (a == b) := by simp [cmpA]

theorem new_meets : Meets Try.prog G fn_disk_New [] [] true (.ptr 1000 1 0) [(1000, .var 1 (.node [.oref 1001 1 true, .v (.bool false), .v (.int .i64 0), .v (.int .i64 0), .v (.int .i64 0)])), (1001, .ob 1 (.map false 1 false 1) (.node [.node [], .v (.int .i64 0)]))] := by
  refine meets_of_go mix k_disk_New ⟨by simp, by simp, by simp⟩ ?_
  simp
  refine post_end (.inr rfl) ?_
  simp
end Go.Proofs.Ythmnkpehifgjeaa.WL

end
section
/-
  CHAPTER 16: contracts of the disk's functions, for each number of files (printed by gd.py).
-/
namespace Go.Proofs.Ythmnkpehifgjeaa.WL
open Go
set_option maxHeartbeats 8000000
variable {G : Nat → Option AV}
def Fl.size (f : Fl) : Nat := f.safe.length + f.waits.length
def szs (fs : List Fl) : Int → Nat := fun i => match fs[i.toNat]? with | some f => f.size | none => 0
theorem wadd3 {a b c : Nat} (h : a + (b + c) ≤ 1000000000) : IntKind.i64.wrap ((a : Int) + IntKind.i64.wrap ((b : Int) + (c : Int))) = ((a + (b + c) : Nat) : Int) := by rw [w64_add (by omega), w64_add (by omega)]
/-- The fuse behind an act. -/
def fz (c : Int) : Int := if 0 < c then c - 1 else c
theorem size_meets0 (dn : Bool) (a c kp : Int) : Meets Try.prog G fn_disk_Disk_size [.ptr 1000 0 0] (dkM 0 [] ⟨[], dn, a, c, kp⟩) true (.v (.int .i64 (0 : Nat))) (dkM 1 [] ⟨[], dn, a, c, kp⟩) := by
  refine meets_of_go mix k_disk_Disk_size ⟨by simp [dkM], by simp [dkM], by simp [dkM]⟩ ?_
  obtain ⟨s, hs⟩ : ∃ s, szs [] = s := ⟨_, rfl⟩
  have htot : sumAt s [] = 0 := by simp [sumAt]
  simp [dkM]
  refine go_wh (fun (vis : List Int) => 0 - vis.length) (fun vis => Vis [] vis) (fun vis q => ⟨[(3, .v (.int .i64 (sumAt s vis : Nat))), (10, .oref 10 q false)],
    (10, .ob q .iter (.node [.oref 1001 0 true, .v (.int .i64 0), .v (.int .i64 0), .node (stampsA vis)])) :: dkM 0 [] ⟨[], dn, a, c, kp⟩, q + 1⟩) [] _ (Weak.re1 1000 (by simp [dkM, sumAt, stampsA])) (Vis.nil _) ?_
  rintro vis q hv
  simp [dkM]
  refine go_next rfl rfl rfl (by simp) (by simp) (by simp) ?_ ?_
  · intro hall
    have hp := hv.all (by decide) (by simp)
    have hs : sumAt s vis = 0 := by rw [sumAt_perm _ hp, htot]
    simp [hs]
    refine post_end (.inr rfl) ?_
    simp
  · intro e i he hi hni
    simp at he
theorem act_ok0 (a c kp : Int) (ha : 0 ≤ a ∧ a ≤ 1000000) (hc : c ≠ 1 ∧ c ≤ 9223372036854775807) : Meets Try.prog G fn_disk_Disk_act [.ptr 1000 0 0] (dkM 0 [] ⟨[], false, a, c, kp⟩) true (.v (.int .i64 0)) (dkM 1 [] ⟨[], false, (a + 1), (fz c), kp⟩) := by
  refine meets_of_go mix k_disk_Disk_act ⟨by simp [dkM], by simp [dkM], by simp [dkM]⟩ ?_
  have hw : IntKind.i64.wrap (a + 1) = a + 1 := w64_id (by omega)
  unfold fz
  by_cases h : 0 < c
  · have hw2 : IntKind.i64.wrap (c - 1) = c - 1 := w64_id (by omega)
    have hne : ¬ c - 1 = 0 := by omega
    simp [dkM, h, hw, hw2, hne]
    refine post_end (.inr rfl) ?_
    simp
  · simp [dkM, h, hw]
    refine post_end (.inr rfl) ?_
    simp
theorem file_new0 (n : Bytes)  (dn : Bool) (a c kp : Int) : Meets Try.prog G fn_disk_Disk_file [.ptr 1000 0 0, .v (.string (mkS n))] (dkM 0 [] ⟨[], dn, a, c, kp⟩) true (.ptr 1010 1 0) (dkM 1 [0] ⟨[⟨n, [], []⟩], dn, a, c, kp⟩) := by
  refine meets_of_go mix k_disk_Disk_file ⟨by simp [dkM], by simp [dkM], by simp [dkM]⟩ ?_
  simp [dkM]
  refine post_end (.inr rfl) ?_
  simp
theorem size_meets1 (f0 : Fl) (dn : Bool) (a c kp : Int) (hf : f0.size ≤ 100000000) : Meets Try.prog G fn_disk_Disk_size [.ptr 1000 0 0] (dkM 0 [] ⟨[f0], dn, a, c, kp⟩) true (.v (.int .i64 (f0.size : Nat))) (dkM 1 [] ⟨[f0], dn, a, c, kp⟩) := by
  refine meets_of_go mix k_disk_Disk_size ⟨by simp [dkM], by simp [dkM], by simp [dkM]⟩ ?_
  obtain ⟨s, hs⟩ : ∃ s, szs [f0] = s := ⟨_, rfl⟩
  have e0 : s 0 = f0.safe.length + f0.waits.length := by rw [← hs]; rfl
  have htot : sumAt s [0] = f0.size := by simp [sumAt, e0, Fl.size]
  simp [dkM]
  refine go_wh (fun (vis : List Int) => 1 - vis.length) (fun vis => Vis [0] vis) (fun vis q => ⟨[(3, .v (.int .i64 (sumAt s vis : Nat))), (10, .oref 10 q false)],
    (10, .ob q .iter (.node [.oref 1001 0 true, .v (.int .i64 1), .v (.int .i64 1), .node (stampsA vis)])) :: dkM 0 [] ⟨[f0], dn, a, c, kp⟩, q + 1⟩) [] _ (Weak.re1 1000 (by simp [dkM, sumAt, stampsA])) (Vis.nil _) ?_
  rintro vis q hv
  simp [dkM]
  refine go_next rfl rfl rfl (by simp) (by simp) (by simp) ?_ ?_
  · intro hall
    have hp := hv.all (by decide) (by simpa using hall)
    have hs : sumAt s vis = f0.size := by rw [sumAt_perm _ hp, htot]
    simp [hs]
    refine post_end (.inr rfl) ?_
    simp
  · intro e i he hi hni
    simp at he
    subst he
    · simp at hi
      subst hi
      have hv2 := hv.snoc (by simp) hni
      have hle := hv2.sum s
      rw [sumAt_snoc, htot, e0] at hle
      have hlen : vis.length < 1 := hv.lt (by simp) hni
      have hw := wadd3 (a := sumAt s vis) (b := f0.safe.length) (c := f0.waits.length) (by omega)
      simp
      refine go_entry (entA (.v (.string (mkS f0.name))) (.ptr 1010 0 0) 0) rfl rfl rfl (by simp) (by simp) (by simp) rfl rfl rfl rfl ?_
      simp [hw]
      exact ⟨vis ++ [0], _, Weak.re1 1000 (by simp [dkM, sumAt_snoc, e0]), hv2, by dsimp only; rw [List.length_append, List.length_singleton]; omega⟩
theorem act_ok1 (f0 : Fl) (a c kp : Int) (ha : 0 ≤ a ∧ a ≤ 1000000) (hc : c ≠ 1 ∧ c ≤ 9223372036854775807) : Meets Try.prog G fn_disk_Disk_act [.ptr 1000 0 0] (dkM 0 [] ⟨[f0], false, a, c, kp⟩) true (.v (.int .i64 0)) (dkM 1 [] ⟨[f0], false, (a + 1), (fz c), kp⟩) := by
  refine meets_of_go mix k_disk_Disk_act ⟨by simp [dkM], by simp [dkM], by simp [dkM]⟩ ?_
  have hw : IntKind.i64.wrap (a + 1) = a + 1 := w64_id (by omega)
  unfold fz
  by_cases h : 0 < c
  · have hw2 : IntKind.i64.wrap (c - 1) = c - 1 := w64_id (by omega)
    have hne : ¬ c - 1 = 0 := by omega
    simp [dkM, h, hw, hw2, hne]
    refine post_end (.inr rfl) ?_
    simp
  · simp [dkM, h, hw]
    refine post_end (.inr rfl) ?_
    simp
theorem on_meets1 (f0 : Fl) (dn : Bool) (a c kp : Int) : Meets Try.prog G fn_disk_Disk_On [.ptr 1000 0 0] (dkM 0 [] ⟨[f0], dn, a, c, kp⟩) true (.tup []) (dkM 1 [] ⟨[f0], false, a, c, kp⟩) := by
  refine meets_of_go mix k_disk_Disk_On ⟨by simp [dkM], by simp [dkM], by simp [dkM]⟩ ?_
  simp [dkM]
  refine post_end (.inl rfl) ?_
  simp
theorem file_old1_0 (f0 : Fl)  (dn : Bool) (a c kp : Int) : Meets Try.prog G fn_disk_Disk_file [.ptr 1000 0 0, .v (.string (mkS f0.name))] (dkM 0 [] ⟨[f0], dn, a, c, kp⟩) true (.ptr 1010 0 0) (dkM 1 [] ⟨[f0], dn, a, c, kp⟩) := by
  refine meets_of_go mix k_disk_Disk_file ⟨by simp [dkM], by simp [dkM], by simp [dkM]⟩ ?_
  simp [dkM]
  refine post_end (.inr rfl) ?_
  simp
theorem size_meets2 (f0 f1 : Fl) (dn : Bool) (a c kp : Int) (hf : f0.size + f1.size ≤ 100000000) : Meets Try.prog G fn_disk_Disk_size [.ptr 1000 0 0] (dkM 0 [] ⟨[f0, f1], dn, a, c, kp⟩) true (.v (.int .i64 (f0.size + f1.size : Nat))) (dkM 1 [] ⟨[f0, f1], dn, a, c, kp⟩) := by
  refine meets_of_go mix k_disk_Disk_size ⟨by simp [dkM], by simp [dkM], by simp [dkM]⟩ ?_
  obtain ⟨s, hs⟩ : ∃ s, szs [f0, f1] = s := ⟨_, rfl⟩
  have e0 : s 0 = f0.safe.length + f0.waits.length := by rw [← hs]; rfl
  have e1 : s 1 = f1.safe.length + f1.waits.length := by rw [← hs]; rfl
  have htot : sumAt s [0, 1] = f0.size + f1.size := by simp [sumAt, e0, e1, Fl.size]
  simp [dkM]
  refine go_wh (fun (vis : List Int) => 2 - vis.length) (fun vis => Vis [0, 1] vis) (fun vis q => ⟨[(3, .v (.int .i64 (sumAt s vis : Nat))), (10, .oref 10 q false)],
    (10, .ob q .iter (.node [.oref 1001 0 true, .v (.int .i64 2), .v (.int .i64 2), .node (stampsA vis)])) :: dkM 0 [] ⟨[f0, f1], dn, a, c, kp⟩, q + 1⟩) [] _ (Weak.re1 1000 (by simp [dkM, sumAt, stampsA])) (Vis.nil _) ?_
  rintro vis q hv
  simp [dkM]
  refine go_next rfl rfl rfl (by simp) (by simp) (by simp) ?_ ?_
  · intro hall
    have hp := hv.all (by decide) (by simpa using hall)
    have hs : sumAt s vis = f0.size + f1.size := by rw [sumAt_perm _ hp, htot]
    simp [hs]
    refine post_end (.inr rfl) ?_
    simp
  · intro e i he hi hni
    simp at he
    rcases he with rfl | rfl
    · simp at hi
      subst hi
      have hv2 := hv.snoc (by simp) hni
      have hle := hv2.sum s
      rw [sumAt_snoc, htot, e0] at hle
      have hlen : vis.length < 2 := hv.lt (by simp) hni
      have hw := wadd3 (a := sumAt s vis) (b := f0.safe.length) (c := f0.waits.length) (by omega)
      simp
      refine go_entry (entA (.v (.string (mkS f0.name))) (.ptr 1010 0 0) 0) rfl rfl rfl (by simp) (by simp) (by simp) rfl rfl rfl rfl ?_
      simp [hw]
      exact ⟨vis ++ [0], _, Weak.re1 1000 (by simp [dkM, sumAt_snoc, e0]), hv2, by dsimp only; rw [List.length_append, List.length_singleton]; omega⟩
    · simp at hi
      subst hi
      have hv2 := hv.snoc (by simp) hni
      have hle := hv2.sum s
      rw [sumAt_snoc, htot, e1] at hle
      have hlen : vis.length < 2 := hv.lt (by simp) hni
      have hw := wadd3 (a := sumAt s vis) (b := f1.safe.length) (c := f1.waits.length) (by omega)
      simp
      refine go_entry (entA (.v (.string (mkS f1.name))) (.ptr 1011 0 0) 1) rfl rfl rfl (by simp) (by simp) (by simp) rfl rfl rfl rfl ?_
      simp [hw]
      exact ⟨vis ++ [1], _, Weak.re1 1000 (by simp [dkM, sumAt_snoc, e1]), hv2, by dsimp only; rw [List.length_append, List.length_singleton]; omega⟩
theorem act_ok2 (f0 f1 : Fl) (a c kp : Int) (ha : 0 ≤ a ∧ a ≤ 1000000) (hc : c ≠ 1 ∧ c ≤ 9223372036854775807) : Meets Try.prog G fn_disk_Disk_act [.ptr 1000 0 0] (dkM 0 [] ⟨[f0, f1], false, a, c, kp⟩) true (.v (.int .i64 0)) (dkM 1 [] ⟨[f0, f1], false, (a + 1), (fz c), kp⟩) := by
  refine meets_of_go mix k_disk_Disk_act ⟨by simp [dkM], by simp [dkM], by simp [dkM]⟩ ?_
  have hw : IntKind.i64.wrap (a + 1) = a + 1 := w64_id (by omega)
  unfold fz
  by_cases h : 0 < c
  · have hw2 : IntKind.i64.wrap (c - 1) = c - 1 := w64_id (by omega)
    have hne : ¬ c - 1 = 0 := by omega
    simp [dkM, h, hw, hw2, hne]
    refine post_end (.inr rfl) ?_
    simp
  · simp [dkM, h, hw]
    refine post_end (.inr rfl) ?_
    simp
theorem file_new2 (f0 f1 : Fl) (n : Bytes) (h0 : n ≠ f0.name) (h1 : n ≠ f1.name) (dn : Bool) (a c kp : Int) : Meets Try.prog G fn_disk_Disk_file [.ptr 1000 0 0, .v (.string (mkS n))] (dkM 0 [] ⟨[f0, f1], dn, a, c, kp⟩) true (.ptr 1012 1 0) (dkM 1 [2] ⟨[f0, f1, ⟨n, [], []⟩], dn, a, c, kp⟩) := by
  refine meets_of_go mix k_disk_Disk_file ⟨by simp [dkM], by simp [dkM], by simp [dkM]⟩ ?_
  simp [dkM, h0, h1]
  refine post_end (.inr rfl) ?_
  simp
theorem size_meets3 (f0 f1 f2 : Fl) (dn : Bool) (a c kp : Int) (hf : f0.size + f1.size + f2.size ≤ 100000000) : Meets Try.prog G fn_disk_Disk_size [.ptr 1000 0 0] (dkM 0 [] ⟨[f0, f1, f2], dn, a, c, kp⟩) true (.v (.int .i64 (f0.size + f1.size + f2.size : Nat))) (dkM 1 [] ⟨[f0, f1, f2], dn, a, c, kp⟩) := by
  refine meets_of_go mix k_disk_Disk_size ⟨by simp [dkM], by simp [dkM], by simp [dkM]⟩ ?_
  obtain ⟨s, hs⟩ : ∃ s, szs [f0, f1, f2] = s := ⟨_, rfl⟩
  have e0 : s 0 = f0.safe.length + f0.waits.length := by rw [← hs]; rfl
  have e1 : s 1 = f1.safe.length + f1.waits.length := by rw [← hs]; rfl
  have e2 : s 2 = f2.safe.length + f2.waits.length := by rw [← hs]; rfl
  have htot : sumAt s [0, 1, 2] = f0.size + f1.size + f2.size := by simp [sumAt, e0, e1, e2, Fl.size]; try omega
  simp [dkM]
  refine go_wh (fun (vis : List Int) => 3 - vis.length) (fun vis => Vis [0, 1, 2] vis) (fun vis q => ⟨[(3, .v (.int .i64 (sumAt s vis : Nat))), (10, .oref 10 q false)],
    (10, .ob q .iter (.node [.oref 1001 0 true, .v (.int .i64 3), .v (.int .i64 3), .node (stampsA vis)])) :: dkM 0 [] ⟨[f0, f1, f2], dn, a, c, kp⟩, q + 1⟩) [] _ (Weak.re1 1000 (by simp [dkM, sumAt, stampsA])) (Vis.nil _) ?_
  rintro vis q hv
  simp [dkM]
  refine go_next rfl rfl rfl (by simp) (by simp) (by simp) ?_ ?_
  · intro hall
    have hp := hv.all (by decide) (by simpa using hall)
    have hs : sumAt s vis = f0.size + f1.size + f2.size := by rw [sumAt_perm _ hp, htot]
    simp [hs]
    refine post_end (.inr rfl) ?_
    simp
  · intro e i he hi hni
    simp at he
    rcases he with rfl | rfl | rfl
    · simp at hi
      subst hi
      have hv2 := hv.snoc (by simp) hni
      have hle := hv2.sum s
      rw [sumAt_snoc, htot, e0] at hle
      have hlen : vis.length < 3 := hv.lt (by simp) hni
      have hw := wadd3 (a := sumAt s vis) (b := f0.safe.length) (c := f0.waits.length) (by omega)
      simp
      refine go_entry (entA (.v (.string (mkS f0.name))) (.ptr 1010 0 0) 0) rfl rfl rfl (by simp) (by simp) (by simp) rfl rfl rfl rfl ?_
      simp [hw]
      exact ⟨vis ++ [0], _, Weak.re1 1000 (by simp [dkM, sumAt_snoc, e0]), hv2, by dsimp only; rw [List.length_append, List.length_singleton]; omega⟩
    · simp at hi
      subst hi
      have hv2 := hv.snoc (by simp) hni
      have hle := hv2.sum s
      rw [sumAt_snoc, htot, e1] at hle
      have hlen : vis.length < 3 := hv.lt (by simp) hni
      have hw := wadd3 (a := sumAt s vis) (b := f1.safe.length) (c := f1.waits.length) (by omega)
      simp
      refine go_entry (entA (.v (.string (mkS f1.name))) (.ptr 1011 0 0) 1) rfl rfl rfl (by simp) (by simp) (by simp) rfl rfl rfl rfl ?_
      simp [hw]
      exact ⟨vis ++ [1], _, Weak.re1 1000 (by simp [dkM, sumAt_snoc, e1]), hv2, by dsimp only; rw [List.length_append, List.length_singleton]; omega⟩
    · simp at hi
      subst hi
      have hv2 := hv.snoc (by simp) hni
      have hle := hv2.sum s
      rw [sumAt_snoc, htot, e2] at hle
      have hlen : vis.length < 3 := hv.lt (by simp) hni
      have hw := wadd3 (a := sumAt s vis) (b := f2.safe.length) (c := f2.waits.length) (by omega)
      simp
      refine go_entry (entA (.v (.string (mkS f2.name))) (.ptr 1012 0 0) 2) rfl rfl rfl (by simp) (by simp) (by simp) rfl rfl rfl rfl ?_
      simp [hw]
      exact ⟨vis ++ [2], _, Weak.re1 1000 (by simp [dkM, sumAt_snoc, e2]), hv2, by dsimp only; rw [List.length_append, List.length_singleton]; omega⟩
theorem act_ok3 (f0 f1 f2 : Fl) (a c kp : Int) (ha : 0 ≤ a ∧ a ≤ 1000000) (hc : c ≠ 1 ∧ c ≤ 9223372036854775807) : Meets Try.prog G fn_disk_Disk_act [.ptr 1000 0 0] (dkM 0 [] ⟨[f0, f1, f2], false, a, c, kp⟩) true (.v (.int .i64 0)) (dkM 1 [] ⟨[f0, f1, f2], false, (a + 1), (fz c), kp⟩) := by
  refine meets_of_go mix k_disk_Disk_act ⟨by simp [dkM], by simp [dkM], by simp [dkM]⟩ ?_
  have hw : IntKind.i64.wrap (a + 1) = a + 1 := w64_id (by omega)
  unfold fz
  by_cases h : 0 < c
  · have hw2 : IntKind.i64.wrap (c - 1) = c - 1 := w64_id (by omega)
    have hne : ¬ c - 1 = 0 := by omega
    simp [dkM, h, hw, hw2, hne]
    refine post_end (.inr rfl) ?_
    simp
  · simp [dkM, h, hw]
    refine post_end (.inr rfl) ?_
    simp
theorem file_old3_2 (f0 f1 f2 : Fl) (h0 : f2.name ≠ f0.name) (h1 : f2.name ≠ f1.name) (dn : Bool) (a c kp : Int) : Meets Try.prog G fn_disk_Disk_file [.ptr 1000 0 0, .v (.string (mkS f2.name))] (dkM 0 [] ⟨[f0, f1, f2], dn, a, c, kp⟩) true (.ptr 1012 0 0) (dkM 1 [] ⟨[f0, f1, f2], dn, a, c, kp⟩) := by
  refine meets_of_go mix k_disk_Disk_file ⟨by simp [dkM], by simp [dkM], by simp [dkM]⟩ ?_
  simp [dkM, h0, h1]
  refine post_end (.inr rfl) ?_
  simp
end Go.Proofs.Ythmnkpehifgjeaa.WL

end
section
/-
  CHAPTER 16: contracts of the disk's functions, for each number of files (printed by gd.py).
-/
namespace Go.Proofs.Ythmnkpehifgjeaa.WL
open Go
set_option maxHeartbeats 8000000
variable {G : Nat → Option AV}
/-- A file behind a loss of power: so many of its bytes that waited are kept. -/
def offF (kp : Int) (f : Fl) : Fl := ⟨f.name, f.safe ++ f.waits.take (min kp.toNat f.waits.length), []⟩
def sel (kp : Int) (vis : List Int) (i : Int) (f : Fl) : Fl := if i ∈ vis then offF kp f else f
theorem sel_name (kp : Int) (vis : List Int) (i : Int) (f : Fl) : (sel kp vis i f).name = f.name := by unfold sel; split <;> rfl
@[simp] theorem offF_name (kp : Int) (f : Fl) : (offF kp f).name = f.name := (rfl)
theorem sel_nil (kp : Int) (i : Int) (f : Fl) : sel kp [] i f = f := by simp [sel]
theorem off_meets1 (f0 : Fl) (a c kp kq : Int) (hf0 : f0.size ≤ 100000000) : Meets Try.prog G fn_disk_Disk_Off [.ptr 1000 0 0, .v (.int .i64 kp)] (dkM 0 [] ⟨[f0], false, a, c, kq⟩) true (.tup []) (dkM 1 [] ⟨[offF kp f0], true, a, 0, kq⟩) := by
  refine meets_of_go mix k_disk_Disk_Off ⟨by simp [dkM], by simp [dkM], by simp [dkM]⟩ ?_
  unfold Fl.size at hf0
  simp [dkM]
  refine go_wh (fun (vis : List Int) => 1 - vis.length) (fun vis => Vis [0] vis) (fun vis q => ⟨[(0, .ptr 1000 0 0), (1, .v (.int .i64 kp)), (19, .oref 19 q false)],
    (19, .ob q .iter (.node [.oref 1001 0 true, .v (.int .i64 1), .v (.int .i64 1), .node (stampsA vis)])) :: dkM q [] ⟨[sel kp vis 0 f0], false, a, c, kq⟩, q + 1⟩) [] _ (Weak.re1 1000 (by simp [dkM, stampsA, sel_nil])) (Vis.nil _) ?_
  rintro vis q hv
  simp [dkM, sel_name]
  refine go_next rfl rfl rfl (by simp) (by simp) (by simp) ?_ ?_
  · intro hall
    simp at hall
    have s0 : sel kp vis 0 f0 = offF kp f0 := if_pos hall
    simp [s0]
    refine post_end (.inl rfl) ?_
    simp [sel_name]
  · intro e i he hi hni
    simp [sel_name] at he
    subst he
    · simp at hi
      subst hi
      have hv2 := hv.snoc (by simp) hni
      have hlen : vis.length < 1 := hv.lt (by simp) hni
      have s0 : sel kp vis 0 f0 = f0 := if_neg hni
      have t0 : sel kp (vis ++ [0]) 0 f0 = offF kp f0 := if_pos (by simp)
      simp [s0]
      refine go_entry (entA (.v (.string (mkS f0.name))) (.ptr 1010 0 0) 0) rfl rfl rfl (by simp) (by simp) (by simp) rfl rfl rfl rfl ?_
      by_cases h1 : kp < 0
      · have hc : min kp.toNat f0.waits.length = 0 := by omega
        have hft : fitsB f0.safe.length 1 := fits (by omega) (by omega)
        have hl : ¬ (f0.waits.length : Int) < 0 := by omega
        simp [h1, hft, hl]
        exact ⟨vis ++ [0], _, Weak.re1 1000 (by simp [dkM, t0, offF, hc]), hv2, by dsimp only; rw [List.length_append, List.length_singleton]; omega⟩
      by_cases h2 : (f0.waits.length : Int) < kp
      · have hc : min kp.toNat f0.waits.length = f0.waits.length := by omega
        have hft : fitsB (f0.safe.length + f0.waits.length) 1 := fits (by omega) (by omega)
        simp [h1, h2, hft]
        exact ⟨vis ++ [0], _, Weak.re1 1000 (by simp [dkM, t0, offF, hc]), hv2, by dsimp only; rw [List.length_append, List.length_singleton]; omega⟩
      · have hc : min kp.toNat f0.waits.length = kp.toNat := by omega
        have h3 : 0 ≤ kp := by omega
        have h4 : kp ≤ (f0.waits.length : Nat) := by omega
        have h5 : kp.toNat ≤ f0.waits.length := by omega
        have hft : fitsB (f0.safe.length + kp.toNat) 1 := fits (by omega) (by omega)
        simp [h1, h2, h3, h4, h5, hc, hft]
        exact ⟨vis ++ [0], _, Weak.re1 1000 (by simp [dkM, t0, offF, hc, h5]), hv2, by dsimp only; rw [List.length_append, List.length_singleton]; omega⟩
end Go.Proofs.Ythmnkpehifgjeaa.WL

end
section
/-
  CHAPTER 16: contracts of the disk's functions, for each number of files (printed by gd.py).
-/
namespace Go.Proofs.Ythmnkpehifgjeaa.WL
open Go
set_option maxHeartbeats 8000000
variable {G : Nat → Option AV}
theorem app_ok0_0 (n : Bytes) (b : Bytes)  (a c kp : Int) (ha : 0 ≤ a ∧ a ≤ 1000000) (hc : c ≠ 1 ∧ c ≤ 9223372036854775807) (hs : 0 + b.length ≤ 4194304) : Meets Try.prog G fn_disk_Disk_Append [.ptr 1000 0 0, .v (.string (mkS n)), .sl 1 (B b)] (dkM 0 [] ⟨[], false, a, c, kp⟩) true (.v (.int .i64 0)) (dkM 1 [0] ⟨[⟨n, [], b⟩], false, (a + 1), (fz c), kp⟩) := by
  refine meets_of_go mix k_disk_Disk_Append ⟨by simp [dkM], by simp [dkM], by simp [dkM]⟩ ?_
  have m1 := size_meets0 (G := G)  false a c kp
  have m2 := act_ok0 (G := G)  a c kp ha hc
  have m3 := file_new0 (G := G)  n  false (a + 1) (fz c) kp
  have hft : fitsB (b.length) 1 := fits (by omega) (by omega)
  have hw : IntKind.i64.wrap (b.length : Nat) = (b.length : Nat) := w64_id (by omega)
  have hle : ¬ (4194304 : Int) < (b.length : Nat) := by omega
  simp [dkM]
  refine call_intro m1 ?_ ?_
  · simp [dkM]
  simp [dkM, hw, hle]
  refine call_intro m2 ?_ ?_
  · simp [dkM]
  simp [dkM]
  refine call_intro m3 ?_ ?_
  · simp [dkM]
  simp [dkM, hft]
  refine post_end (.inr rfl) ?_
  simp [dkM]
end Go.Proofs.Ythmnkpehifgjeaa.WL

end
section
/-
  CHAPTER 16: contracts of the disk's functions, for each number of files (printed by gd.py).
-/
namespace Go.Proofs.Ythmnkpehifgjeaa.WL
open Go
set_option maxHeartbeats 8000000
variable {G : Nat → Option AV}
theorem app_ok1_0 (f0 : Fl) (b : Bytes)  (a c kp : Int) (ha : 0 ≤ a ∧ a ≤ 1000000) (hc : c ≠ 1 ∧ c ≤ 9223372036854775807) (hs : f0.size + b.length ≤ 4194304) : Meets Try.prog G fn_disk_Disk_Append [.ptr 1000 0 0, .v (.string (mkS f0.name)), .sl 1 (B b)] (dkM 0 [] ⟨[f0], false, a, c, kp⟩) true (.v (.int .i64 0)) (dkM 1 [] ⟨[⟨f0.name, f0.safe, f0.waits ++ b⟩], false, (a + 1), (fz c), kp⟩) := by
  refine meets_of_go mix k_disk_Disk_Append ⟨by simp [dkM], by simp [dkM], by simp [dkM]⟩ ?_
  have m1 := size_meets1 (G := G) f0 false a c kp (by omega)
  have m2 := act_ok1 (G := G) f0 a c kp ha hc
  have m3 := file_old1_0 (G := G) f0  false (a + 1) (fz c) kp
  have hpl : f0.waits.length ≤ f0.size := by unfold Fl.size; omega
  have hft : fitsB (f0.waits.length + b.length) 1 := fits (by omega) (by omega)
  obtain ⟨s, hsz⟩ : ∃ s, f0.size = s := ⟨_, rfl⟩
  rw [hsz] at m1 hs
  have hw : IntKind.i64.wrap ((s : Int) + (b.length : Nat)) = (s : Int) + (b.length : Nat) := w64_id (by omega)
  have hle : ¬ (4194304 : Int) < (s : Int) + (b.length : Nat) := by omega
  simp [dkM]
  refine call_intro m1 ?_ ?_
  · simp [dkM]
  simp [dkM, hw, hle]
  refine call_intro m2 ?_ ?_
  · simp [dkM]
  simp [dkM]
  refine call_intro m3 ?_ ?_
  · simp [dkM]
  simp [dkM, hft]
  refine post_end (.inr rfl) ?_
  simp [dkM]
theorem syn_ok1_0 (f0 : Fl)  (a c kp : Int) (ha : 0 ≤ a ∧ a ≤ 1000000) (hc : c ≠ 1 ∧ c ≤ 9223372036854775807) (hs : f0.size ≤ 100000000) : Meets Try.prog G fn_disk_Disk_Sync [.ptr 1000 0 0, .v (.string (mkS f0.name))] (dkM 0 [] ⟨[f0], false, a, c, kp⟩) true (.v (.int .i64 0)) (dkM 1 [] ⟨[⟨f0.name, f0.safe ++ f0.waits, []⟩], false, (a + 1), (fz c), kp⟩) := by
  refine meets_of_go mix k_disk_Disk_Sync ⟨by simp [dkM], by simp [dkM], by simp [dkM]⟩ ?_
  have m2 := act_ok1 (G := G) f0 a c kp ha hc
  have m3 := file_old1_0 (G := G) f0  false (a + 1) (fz c) kp
  unfold Fl.size at hs
  have hft : fitsB (f0.safe.length + f0.waits.length) 1 := fits (by omega) (by omega)
  simp [dkM]
  refine call_intro m2 ?_ ?_
  · simp [dkM]
  simp [dkM]
  refine call_intro m3 ?_ ?_
  · simp [dkM]
  simp [dkM, hft]
  refine post_end (.inr rfl) ?_
  simp [dkM]
theorem read_ok1_0 (f0 : Fl)  (a c kp : Int) (hs : f0.size ≤ 100000000) : Meets Try.prog G fn_disk_Disk_Read [.ptr 1000 0 0, .v (.string (mkS f0.name))] (dkM 0 [] ⟨[f0], false, a, c, kp⟩) true (.tup [.row 3000 1 1 0 (f0.safe.length + f0.waits.length), .v (.int .i64 0)]) (dkM 1 [] ⟨[f0], false, a, c, kp⟩ ++ [(3000, .rows 1 1 (B (f0.safe ++ f0.waits)))]) := by
  refine meets_of_go mix k_disk_Disk_Read ⟨by simp [dkM], by simp [dkM], by simp [dkM]⟩ ?_
  unfold Fl.size at hs
  have hft : fitsB f0.safe.length 1 ∧ fitsB (f0.safe.length + f0.waits.length) 1 := ⟨fits (by omega) (by omega), fits (by omega) (by omega)⟩
  simp [dkM, hft]
  refine post_end (.inr rfl) ?_
  simp [dkM]
theorem ins_ok1_1 (f0 : Fl) (n : Bytes) (b : Bytes) (h0 : n ≠ f0.name) (a c kp : Int) (ha : 0 ≤ a ∧ a ≤ 1000000) (hc : c ≠ 1 ∧ c ≤ 9223372036854775807) (hs : f0.size + b.length ≤ 4194304) : Meets Try.prog G fn_disk_Disk_Install [.ptr 1000 0 0, .v (.string (mkS n)), .sl 1 (B b)] (dkM 0 [] ⟨[f0], false, a, c, kp⟩) true (.v (.int .i64 0)) (dkM 1 [1] ⟨[f0, ⟨n, b, []⟩], false, (a + 1), (fz c), kp⟩) := by
  refine meets_of_go mix k_disk_Disk_Install ⟨by simp [dkM], by simp [dkM], by simp [dkM]⟩ ?_
  have m1 := size_meets1 (G := G) f0 false a c kp (by omega)
  have m2 := act_ok1 (G := G) f0 a c kp ha hc
  have hft : fitsB b.length 1 := fits (by omega) (by omega)
  obtain ⟨s, hsz⟩ : ∃ s, f0.size = s := ⟨_, rfl⟩
  rw [hsz] at m1 hs
  have hw : IntKind.i64.wrap ((s : Int) + (b.length : Nat)) = (s : Int) + (b.length : Nat) := w64_id (by omega)
  have hle : ¬ (4194304 : Int) < (s : Int) + (b.length : Nat) := by omega
  simp [dkM]
  refine call_intro m1 ?_ ?_
  · simp [dkM]
  simp [dkM, hw, hle]
  refine call_intro m2 ?_ ?_
  · simp [dkM]
  simp [dkM, hft, h0]
  refine post_end (.inr rfl) ?_
  simp [dkM]
end Go.Proofs.Ythmnkpehifgjeaa.WL

end
section
/-
  CHAPTER 16: walks of laws.
-/
namespace Go.Proofs.Ythmnkpehifgjeaa.WL
open Go
set_option maxHeartbeats 8000000
variable {G : Nat → Option AV}

theorem lit_xy : B [120, 121] = [AV.v (.int .u8 120), AV.v (.int .u8 121)] := rfl
theorem lit_z : B [122] = [AV.v (.int .u8 122)] := rfl
theorem fz_zero : fz 0 = 0 := by simp [fz]
theorem alive16_meets : Meets Try.prog G fn_l16_alive [] [] true (.v (.bool true)) [] := by
  refine meets_of_go mix k_l16_alive ⟨by simp, by simp, by simp⟩ ?_
  have m1 := app_ok0_0 (G := G) [97] [120, 121] 0 0 0 (by omega) (by omega) (by simp)
  have m2 := syn_ok1_0 (G := G) ⟨[97], [], [120, 121]⟩ 1 0 0 (by omega) (by omega) (by simp [Fl.size])
  have m3 := app_ok1_0 (G := G) ⟨[97], [120, 121], []⟩ [122] 2 0 0 (by omega) (by omega) (by simp [Fl.size])
  have m4 := off_meets1 (G := G) ⟨[97], [120, 121], [122]⟩ 3 0 0 0 (by simp [Fl.size])
  have m5 := on_meets1 (G := G) ⟨[97], [120, 121], []⟩ true 3 0 0
  have m6 := read_ok1_0 (G := G) ⟨[97], [120, 121], []⟩ 3 0 0 (by simp [Fl.size])
  have ho : offF 0 ⟨[97], [120, 121], [122]⟩ = ⟨[97], [120, 121], []⟩ := rfl
  dsimp only at m1 m2 m3 m4 m5 m6
  simp only [fz_zero, ho, List.nil_append, List.append_nil] at m1 m2 m3 m4 m5 m6
  rw [lit_xy] at m1
  rw [lit_z] at m3
  simp
  refine call_intro new_meets ?_ ?_
  · simp
  simp
  refine call_intro m1 ?_ ?_
  · simp [dkM]
  simp [dkM]
  refine call_intro m2 ?_ ?_
  · simp [dkM]
  simp [dkM]
  refine call_intro m3 ?_ ?_
  · simp [dkM]
  simp [dkM]
  refine call_intro m4 ?_ ?_
  · simp [dkM]
  simp [dkM]
  refine call_intro m5 ?_ ?_
  · simp [dkM]
  simp [dkM]
  refine call_intro m6 ?_ ?_
  · simp [dkM]
  simp [dkM]
  refine post_end (.inr rfl) ?_
  simp
end Go.Proofs.Ythmnkpehifgjeaa.WL

end
section
/-
  CHAPTER 16: contracts of the disk's functions, for each number of files (printed by gd.py).
-/
namespace Go.Proofs.Ythmnkpehifgjeaa.WL
open Go
set_option maxHeartbeats 8000000
variable {G : Nat → Option AV}
theorem ins_ok3_0 (f0 f1 f2 : Fl) (b : Bytes)  (a c kp : Int) (ha : 0 ≤ a ∧ a ≤ 1000000) (hc : c ≠ 1 ∧ c ≤ 9223372036854775807) (hs : f0.size + f1.size + f2.size + b.length ≤ 4194304) : Meets Try.prog G fn_disk_Disk_Install [.ptr 1000 0 0, .v (.string (mkS f0.name)), .sl 1 (B b)] (dkM 0 [] ⟨[f0, f1, f2], false, a, c, kp⟩) true (.v (.int .i64 0)) (dkM 1 [0] ⟨[⟨f0.name, b, []⟩, f1, f2], false, (a + 1), (fz c), kp⟩) := by
  refine meets_of_go mix k_disk_Disk_Install ⟨by simp [dkM], by simp [dkM], by simp [dkM]⟩ ?_
  have m1 := size_meets3 (G := G) f0 f1 f2 false a c kp (by omega)
  have m2 := act_ok3 (G := G) f0 f1 f2 a c kp ha hc
  have hft : fitsB b.length 1 := fits (by omega) (by omega)
  obtain ⟨s, hsz⟩ : ∃ s, f0.size + f1.size + f2.size = s := ⟨_, rfl⟩
  rw [hsz] at m1 hs
  have hw : IntKind.i64.wrap ((s : Int) + (b.length : Nat)) = (s : Int) + (b.length : Nat) := w64_id (by omega)
  have hle : ¬ (4194304 : Int) < (s : Int) + (b.length : Nat) := by omega
  simp [dkM]
  refine call_intro m1 ?_ ?_
  · simp [dkM]
  simp [dkM, hw, hle]
  refine call_intro m2 ?_ ?_
  · simp [dkM]
  simp [dkM, hft]
  refine post_end (.inr rfl) ?_
  simp [dkM]
theorem read_ok3_0 (f0 f1 f2 : Fl)  (a c kp : Int) (hs : f0.size ≤ 100000000) : Meets Try.prog G fn_disk_Disk_Read [.ptr 1000 0 0, .v (.string (mkS f0.name))] (dkM 0 [] ⟨[f0, f1, f2], false, a, c, kp⟩) true (.tup [.row 3000 1 1 0 (f0.safe.length + f0.waits.length), .v (.int .i64 0)]) (dkM 1 [] ⟨[f0, f1, f2], false, a, c, kp⟩ ++ [(3000, .rows 1 1 (B (f0.safe ++ f0.waits)))]) := by
  refine meets_of_go mix k_disk_Disk_Read ⟨by simp [dkM], by simp [dkM], by simp [dkM]⟩ ?_
  unfold Fl.size at hs
  have hft : fitsB f0.safe.length 1 ∧ fitsB (f0.safe.length + f0.waits.length) 1 := ⟨fits (by omega) (by omega), fits (by omega) (by omega)⟩
  simp [dkM, hft]
  refine post_end (.inr rfl) ?_
  simp [dkM]
theorem read_ok3_1 (f0 f1 f2 : Fl) (h0 : f1.name ≠ f0.name) (a c kp : Int) (hs : f1.size ≤ 100000000) : Meets Try.prog G fn_disk_Disk_Read [.ptr 1000 0 0, .v (.string (mkS f1.name))] (dkM 0 [] ⟨[f0, f1, f2], false, a, c, kp⟩) true (.tup [.row 3000 1 1 0 (f1.safe.length + f1.waits.length), .v (.int .i64 0)]) (dkM 1 [] ⟨[f0, f1, f2], false, a, c, kp⟩ ++ [(3000, .rows 1 1 (B (f1.safe ++ f1.waits)))]) := by
  refine meets_of_go mix k_disk_Disk_Read ⟨by simp [dkM], by simp [dkM], by simp [dkM]⟩ ?_
  unfold Fl.size at hs
  have hft : fitsB f1.safe.length 1 ∧ fitsB (f1.safe.length + f1.waits.length) 1 := ⟨fits (by omega) (by omega), fits (by omega) (by omega)⟩
  simp [dkM, hft, h0]
  refine post_end (.inr rfl) ?_
  simp [dkM]
theorem syn_ok3_2 (f0 f1 f2 : Fl) (h0 : f2.name ≠ f0.name) (h1 : f2.name ≠ f1.name) (a c kp : Int) (ha : 0 ≤ a ∧ a ≤ 1000000) (hc : c ≠ 1 ∧ c ≤ 9223372036854775807) (hs : f2.size ≤ 100000000) : Meets Try.prog G fn_disk_Disk_Sync [.ptr 1000 0 0, .v (.string (mkS f2.name))] (dkM 0 [] ⟨[f0, f1, f2], false, a, c, kp⟩) true (.v (.int .i64 0)) (dkM 1 [] ⟨[f0, f1, ⟨f2.name, f2.safe ++ f2.waits, []⟩], false, (a + 1), (fz c), kp⟩) := by
  refine meets_of_go mix k_disk_Disk_Sync ⟨by simp [dkM], by simp [dkM], by simp [dkM]⟩ ?_
  have m2 := act_ok3 (G := G) f0 f1 f2 a c kp ha hc
  have m3 := file_old3_2 (G := G) f0 f1 f2 h0 h1 false (a + 1) (fz c) kp
  unfold Fl.size at hs
  have hft : fitsB (f2.safe.length + f2.waits.length) 1 := fits (by omega) (by omega)
  simp [dkM]
  refine call_intro m2 ?_ ?_
  · simp [dkM]
  simp [dkM]
  refine call_intro m3 ?_ ?_
  · simp [dkM]
  simp [dkM, hft]
  refine post_end (.inr rfl) ?_
  simp [dkM]
theorem read_ok3_2 (f0 f1 f2 : Fl) (h0 : f2.name ≠ f0.name) (h1 : f2.name ≠ f1.name) (a c kp : Int) (hs : f2.size ≤ 100000000) : Meets Try.prog G fn_disk_Disk_Read [.ptr 1000 0 0, .v (.string (mkS f2.name))] (dkM 0 [] ⟨[f0, f1, f2], false, a, c, kp⟩) true (.tup [.row 3000 1 1 0 (f2.safe.length + f2.waits.length), .v (.int .i64 0)]) (dkM 1 [] ⟨[f0, f1, f2], false, a, c, kp⟩ ++ [(3000, .rows 1 1 (B (f2.safe ++ f2.waits)))]) := by
  refine meets_of_go mix k_disk_Disk_Read ⟨by simp [dkM], by simp [dkM], by simp [dkM]⟩ ?_
  unfold Fl.size at hs
  have hft : fitsB f2.safe.length 1 ∧ fitsB (f2.safe.length + f2.waits.length) 1 := ⟨fits (by omega) (by omega), fits (by omega) (by omega)⟩
  simp [dkM, hft, h0, h1]
  refine post_end (.inr rfl) ?_
  simp [dkM]
end Go.Proofs.Ythmnkpehifgjeaa.WL

end
section
/-
  CHAPTER 16: contracts of the disk's functions, for each number of files (printed by gd.py).
-/
namespace Go.Proofs.Ythmnkpehifgjeaa.WL
open Go
set_option maxHeartbeats 8000000
variable {G : Nat → Option AV}
theorem app_ok2_2 (f0 f1 : Fl) (n : Bytes) (b : Bytes) (h0 : n ≠ f0.name) (h1 : n ≠ f1.name) (a c kp : Int) (ha : 0 ≤ a ∧ a ≤ 1000000) (hc : c ≠ 1 ∧ c ≤ 9223372036854775807) (hs : f0.size + f1.size + b.length ≤ 4194304) : Meets Try.prog G fn_disk_Disk_Append [.ptr 1000 0 0, .v (.string (mkS n)), .sl 1 (B b)] (dkM 0 [] ⟨[f0, f1], false, a, c, kp⟩) true (.v (.int .i64 0)) (dkM 1 [2] ⟨[f0, f1, ⟨n, [], b⟩], false, (a + 1), (fz c), kp⟩) := by
  refine meets_of_go mix k_disk_Disk_Append ⟨by simp [dkM], by simp [dkM], by simp [dkM]⟩ ?_
  have m1 := size_meets2 (G := G) f0 f1 false a c kp (by omega)
  have m2 := act_ok2 (G := G) f0 f1 a c kp ha hc
  have m3 := file_new2 (G := G) f0 f1 n h0 h1 false (a + 1) (fz c) kp
  have hft : fitsB (b.length) 1 := fits (by omega) (by omega)
  obtain ⟨s, hsz⟩ : ∃ s, f0.size + f1.size = s := ⟨_, rfl⟩
  rw [hsz] at m1 hs
  have hw : IntKind.i64.wrap ((s : Int) + (b.length : Nat)) = (s : Int) + (b.length : Nat) := w64_id (by omega)
  have hle : ¬ (4194304 : Int) < (s : Int) + (b.length : Nat) := by omega
  simp [dkM]
  refine call_intro m1 ?_ ?_
  · simp [dkM]
  simp [dkM, hw, hle]
  refine call_intro m2 ?_ ?_
  · simp [dkM]
  simp [dkM]
  refine call_intro m3 ?_ ?_
  · simp [dkM]
  simp [dkM, hft]
  refine post_end (.inr rfl) ?_
  simp [dkM]
end Go.Proofs.Ythmnkpehifgjeaa.WL

end
