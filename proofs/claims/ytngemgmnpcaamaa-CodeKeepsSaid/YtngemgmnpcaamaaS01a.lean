/-
  CHAPTER 01: contracts of the reader.
-/
import Derived.Test.YtngemgmnpcaamaaWl30
import Derived.Test.YtngemgmnpcaamaaCo
namespace Go.Proofs.Ytngemgmnpcaamaa.WL
open Go

theorem mix : Try.prog.follows .mixedOrders = true := by kernel_rfl

theorem meets_of_go {P : Program} {G : Nat → Option AV} {f : Nat} {x : CCode} {rs : List CRes} {args : List AV} {M : List (Nat × Loc)} {keep : Bool} {res : AV} {M' : List (Nat × Loc)} (hmix : P.follows .mixedOrders = true) (hc : chkFn P f x rs args.length = true)
    (hg : goodM keep M' M' = true ∧ goodA keep M' res = true ∧ (M'.map (·.1)).Nodup) (h : go P G (postA rs res M') x [] ⟨argsL 0 args, M, 2⟩) : Meets P G f args M keep res M' := meets_of_awp hmix hc hg h

/-- Bytes. -/
def B (bs : List Int) : List AV := bs.map fun n => .v (.int .u8 n)
@[simp] theorem B_length (bs : List Int) : (B bs).length = bs.length := by simp [B]
@[simp] theorem B_closed (bs : List Int) : closeds (B bs) = true := by simp [B, closeds_all]
@[simp] theorem B_plain (bs : List Int) : plains (B bs) = true := by simp [B, plains_all]
@[simp] theorem B_append (a b : List Int) : B a ++ B b = B (a ++ b) := by simp [B]
@[simp] theorem B_drop (n : Nat) (a : List Int) : (B a).drop n = B (a.drop n) := by simp [B]
@[simp] theorem B_take (n : Nat) (a : List Int) : (B a).take n = B (a.take n) := by simp [B]
@[simp] theorem B_get (n : Nat) (a : List Int) : (B a)[n]? = (a[n]?).map fun n => .v (.int .u8 n) := by simp [B]
@[simp] theorem B_getElem (n : Nat) (a : List Int) (h : n < (B a).length) : (B a)[n] = .v (.int .u8 (a[n]'(by simpa using h))) := by simp [B]
@[simp] theorem B_nil : B [] = [] := rfl
@[simp] theorem B_ints (bs : List Int) : intsOf .u8 (B bs) = some bs := intsOf_map .u8 bs

/-- A reader that has not failed. -/
def rdM (g : Nat) (bs : List Int) (off n : Nat) : List (Nat × Loc) := [(1000, .var 0 (.node [.row 2000 1 g off n, .v (.bool false)])), (2000, .rows g 1 (B bs))]
/-- One that has. -/
def badM : List (Nat × Loc) := [(1000, .var 0 (.node [.v (.slice none 0 0), .v (.bool true)]))]

theorem read_meets {G : Nat → Option AV} (bs : List Int) (h : bs.length ≤ 65536) : Meets Try.prog G 12 [.sl 1 (B bs)] [] true (.ptr 1000 1 0) [(1000, .var 1 (.node [.row 2000 1 1 0 bs.length, .v (.bool false)])), (2000, .rows 1 1 (B bs))] := by
  refine meets_of_go mix c12_chk ⟨by simp, by simp, by simp⟩ ?_
  have h1 : bs.length ≤ maxLen ∧ bs.length ≤ 140737488355328 := by unfold maxLen; omega
  simp [c12, c12r0, c12r1, h1]
  refine post_end (.inr rfl) ?_
  simp [c12R]

theorem good_meets {G : Nat → Option AV} (bs : List Int) (off n : Nat) : Meets Try.prog G 28 [.ptr 1000 0 0] (rdM 0 bs off n) true (.v (.bool true)) (rdM 1 bs off n) := by
  refine meets_of_go mix c28_chk ⟨by simp [rdM], by simp, by simp [rdM]⟩ ?_
  simp [c28, c28r0, c28r1, rdM]
  refine post_end (.inr rfl) ?_
  simp [c28R]

theorem good_bad {G : Nat → Option AV} : Meets Try.prog G 28 [.ptr 1000 0 0] badM true (.v (.bool false)) badM := by
  refine meets_of_go mix c28_chk ⟨by simp [badM], by simp, by simp [badM]⟩ ?_
  simp [c28, c28r0, c28r1, badM]
  refine post_end (.inr rfl) ?_
  simp [c28R]

theorem good_nil {G : Nat → Option AV} : Meets Try.prog G 28 [.v (.pointer none)] [] true (.v (.bool false)) [] := by
  refine meets_of_go mix c28_chk ⟨by simp, by simp, by simp⟩ ?_
  simp [c28, c28r0, c28r1]
  refine post_end (.inr rfl) ?_
  simp [c28R]

/-- take, of as many as there are. -/
theorem take_meets {G : Nat → Option AV} (bs : List Int) (off n k : Nat) (h : off + n ≤ bs.length) (hb : bs.length ≤ 65536) (hk : k ≤ n) :
    Meets Try.prog G 32 [.ptr 1000 0 0, .v (.int .i64 k)] (rdM 0 bs off n) true (.row 2000 1 1 off k) (rdM 1 bs (off + k) (n - k)) := by
  refine meets_of_go mix c32_chk ⟨by simp [rdM], by simp [rdM], by simp [rdM]⟩ ?_
  have h1 : ¬ ((k : Int) < 0) := by omega
  have h2 : ¬ ((n : Int) < k) := by omega
  have h3 : (k : Int) ≤ n := by omega
  have h4 : (0 : Int) ≤ k := by omega
  simp [c32, c32r0, c32r1, c32r2, c32r3, c32r4, c32r5, c32r6, rdM, h1, h2, h3, h4]
  refine post_end (.inr rfl) ?_
  simp [c32R]

/-- take, of more than there are. -/
theorem take_fails {G : Nat → Option AV} (bs : List Int) (off n : Nat) (k : Int) (hk : k < 0 ∨ (n : Int) < k) :
    Meets Try.prog G 32 [.ptr 1000 0 0, .v (.int .i64 k)] (rdM 0 bs off n) true (.v (.slice none 0 0)) badM := by
  refine meets_of_go mix c32_chk ⟨by simp [badM], by simp [badM], by simp [badM]⟩ ?_
  by_cases h0 : k < 0
  · simp [c32, c32r0, c32r1, c32r2, c32r3, c32r4, c32r5, c32r6, c32r7, c32r8, rdM, h0]
    refine post_end (.inr rfl) ?_
    simp [c32R, badM]
  · have h1 : (n : Int) < k := by omega
    simp [c32, c32r0, c32r1, c32r2, c32r3, c32r4, c32r5, c32r6, c32r7, c32r8, rdM, h0, h1]
    refine post_end (.inr rfl) ?_
    simp [c32R, badM]

theorem take_bad {G : Nat → Option AV} (k : Int) : Meets Try.prog G 32 [.ptr 1000 0 0, .v (.int .i64 k)] badM true (.v (.slice none 0 0)) badM := by
  refine meets_of_go mix c32_chk ⟨by simp [badM], by simp [badM], by simp [badM]⟩ ?_
  simp [c32, c32r0, c32r1, c32r2, c32r3, c32r4, c32r5, c32r6, c32r7, c32r8, badM]
  refine post_end (.inr rfl) ?_
  simp [c32R]

end Go.Proofs.Ytngemgmnpcaamaa.WL
