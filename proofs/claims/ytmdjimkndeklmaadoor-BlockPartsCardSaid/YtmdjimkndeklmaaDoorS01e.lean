/-
  CHAPTER 01: contracts of the writer.
-/
import Derived.Test.YtmdjimkndeklmaaDoorCo
import Derived.Test.YtmdjimkndeklmaaDoorM01
namespace Go.Proofs.YtmdjimkndeklmaaDoor.WL
open Go
set_option maxHeartbeats 4000000

/-- A writer that holds these bytes. -/
def wrM (g : Nat) (bs : Bytes) : List (Nat × Loc) := [(1000, .var 0 (.node [.row 2000 1 g 0 bs.length])), (2000, .rows g 1 (B bs))]

theorem bytes_meets {G : Nat → Option AV} (bs : Bytes) (hb : bs.length ≤ 67108864) :
    Meets Tryd.prog G fn_code_Writer_Bytes [.ptr 1000 0 0] (wrM 0 bs) true (.row 3000 1 1 0 bs.length) (wrM 1 bs ++ [(3000, .rows 1 1 (B bs))]) := by
  refine meets_of_go mix k_code_Writer_Bytes ⟨by simp [wrM], by simp [wrM], by simp [wrM]⟩ ?_
  have h1 : fitsB bs.length 1 := fits (by omega) (by omega)
  simp [wrM, h1]
  refine post_end (.inr rfl) ?_
  simp

theorem bytes_nil {G : Nat → Option AV} : Meets Tryd.prog G fn_code_Writer_Bytes [.v (.pointer none)] [] true (.v (.slice none 0 0)) [] := by
  refine meets_of_go mix k_code_Writer_Bytes ⟨by simp, by simp, by simp⟩ ?_
  simp
  refine post_end (.inr rfl) ?_
  simp

/-- The writer's state in a loop: its stamp, its length, its bytes. -/
abbrev WrA := Nat × Nat × Bytes
def wrA (a : WrA) : List (Nat × Loc) := [(1000, .var 0 (.node [.row 2000 1 a.1 0 a.2.1])), (2000, .rows a.1 1 (B a.2.2))]

theorem wnum_meets {G : Nat → Option AV} (bs : Bytes) (ns : List Int) (hb : bs.length + 8 * ns.length ≤ 67108864) :
    Meets Tryd.prog G fn_code_Writer_Num [.ptr 1000 0 0, .sl 1 (I64 ns)] (wrM 0 bs) true (.tup []) (wrM 1 (bs ++ nums ns)) := by
  refine meets_of_go mix k_code_Writer_Num ⟨by simp [wrM], by simp, by simp [wrM]⟩ ?_
  simp [wrM]
  refine go_up ns.length (fun j (a : WrA) => match a with | (_, n, x) => n = x.length ∧ x = bs ++ nums (ns.take j)) (fun j a c => ⟨[(0, .ptr 1000 0 0), (9, .sl 1 (I64 ns)), (10, .v (.int .i64 (ns.length : Nat))), (11, .v (.int .i64 (j : Nat)))], wrA a, c⟩)
    (0, bs.length, bs) _ (Weak.refl _) (by simp [nums]) ?_ ?_
  · rintro j ⟨g, n, L⟩ c hj ⟨rfl, hL⟩
    simp [hj, wrA]
    refine go_up 8 (fun t (a : WrA) => match a with | (_, n, x) => n = x.length ∧ x = L ++ (be8 ns[j]).take t) (fun t a c => ⟨[(0, .ptr 1000 0 0), (5, .v (.int .i64 ns[j])), (6, .v (.int .i64 (56 - 8 * (t : Int)))), (9, .sl 1 (I64 ns)), (10, .v (.int .i64 (ns.length : Nat))), (11, .v (.int .i64 (j : Nat)))], wrA a, c⟩)
      (g, L.length, L) _ (Weak.refl _) (by simp) ?_ ?_
    · rintro t ⟨g', n', L'⟩ c' ht ⟨rfl, hL'⟩
      have h8 : 8 * (t : Int) ≤ 56 := by omega
      have h0 : (0 : Int) ≤ 56 - 8 * (t : Int) := by omega
      have hmin : min (56 - 8 * (t : Int)).toNat 64 = 56 - 8 * t := by omega
      have hw : IntKind.i64.wrap (56 - 8 * (t : Int) - 8) = 56 - 8 * ((t + 1 : Nat) : Int) := by rw [w64_id (by omega)]; omega
      have hLl : L'.length ≤ 67108863 := by
        rw [hL', hL]
        simp only [List.length_append, nums_length, List.length_take, be8_length]
        omega
      have hm1 : fitsB (L'.length + 1) 1 := fits (by omega) (by omega)
      simp [wrA, h8, hmin, hw, hm1, bv_u8, be8_u64 _ _ ht, B_snoc]
      exact ⟨(_, _, _), _, (Weak.keep [1000, 2000] _ _ _).trans (Weak.refl _), by simp, by rw [hL', be8_take _ _ ht, List.append_assoc]⟩
    · rintro ⟨g', n', L'⟩ c' ⟨rfl, hL'⟩
      have hw : IntKind.i64.wrap ((j : Int) + 1) = ((j + 1 : Nat) : Int) := w64_succ (by omega)
      simp [wrA, hw]
      exact ⟨(_, _, _), _, Weak.refl _, rfl, by rw [hL', hL, nums_snoc _ _ hj, List.append_assoc, List.take_of_length_le (l := be8 ns[j]) (by simp)]⟩
  · rintro ⟨g, n, L⟩ c ⟨rfl, hL⟩
    have : L = bs ++ nums ns := by rw [hL]; simp
    subst this
    simp [wrA]
    refine post_end (.inl rfl) ?_
    simp

theorem wnum_nil {G : Nat → Option AV} (ns : List Int) : Meets Tryd.prog G fn_code_Writer_Num [.v (.pointer none), .sl 1 (I64 ns)] [] true (.tup []) [] := by
  refine meets_of_go mix k_code_Writer_Num ⟨by simp, by simp, by simp⟩ ?_
  simp
  refine post_end (.inr rfl) ?_
  simp

theorem wdigest_meets {G : Nat → Option AV} (bs : Bytes) (ds : List Dg) (hb : bs.length + 32 * ds.length ≤ 67108864) :
    Meets Tryd.prog G fn_code_Writer_Digest [.ptr 1000 0 0, .sl 32 (Dgs ds)] (wrM 0 bs) true (.tup []) (wrM 1 (bs ++ flatD ds)) := by
  refine meets_of_go mix k_code_Writer_Digest ⟨by simp [wrM], by simp, by simp [wrM]⟩ ?_
  simp [wrM]
  refine go_up ds.length (fun j (a : WrA) => match a with | (_, n, x) => n = x.length ∧ x = bs ++ flatD (ds.take j)) (fun j a c => ⟨[(0, .ptr 1000 0 0), (8, .sl 32 (Dgs ds)), (9, .v (.int .i64 (ds.length : Nat))), (10, .v (.int .i64 (j : Nat)))], wrA a, c⟩)
    (0, bs.length, bs) _ (Weak.refl _) (by simp [flatD]) ?_ ?_
  · rintro j ⟨g, n, L⟩ c hj ⟨rfl, hL⟩
    have hLl : L.length + 32 ≤ 67108864 := by rw [hL, List.length_append, flatD_length, List.length_take]; omega
    have hm1 : fitsB (L.length + 32) 1 := fits (by omega) (by omega)
    have hw : IntKind.i64.wrap ((j : Int) + 1) = ((j + 1 : Nat) : Int) := w64_succ (by omega)
    simp [wrA, hj, hm1, hw]
    exact ⟨(_, _, _), _, (Weak.keep [1000, 2000] _ _ _).trans (Weak.refl _), by simp, by rw [hL, flatD_snoc _ _ hj, List.append_assoc]⟩
  · rintro ⟨g, n, L⟩ c ⟨rfl, hL⟩
    have : L = bs ++ flatD ds := by rw [hL]; simp
    subst this
    simp [wrA]
    refine post_end (.inl rfl) ?_
    simp

theorem wdigest_nil {G : Nat → Option AV} (ds : List Dg) : Meets Tryd.prog G fn_code_Writer_Digest [.v (.pointer none), .sl 32 (Dgs ds)] [] true (.tup []) [] := by
  refine meets_of_go mix k_code_Writer_Digest ⟨by simp, by simp, by simp⟩ ?_
  simp
  refine post_end (.inr rfl) ?_
  simp

theorem wtext_meets {G : Nat → Option AV} (bs : Bytes) (ss : List Bytes) (hb : bs.length + (txts ss).length ≤ 67108864) (hn : ss.length ≤ 67108864) :
    Meets Tryd.prog G fn_code_Writer_Text [.ptr 1000 0 0, .sl 1 (Strs ss)] (wrM 0 bs) true (.tup []) (wrM 1 (bs ++ txts ss)) := by
  refine meets_of_go mix k_code_Writer_Text ⟨by simp [wrM], by simp, by simp [wrM]⟩ ?_
  simp [wrM]
  refine go_up ss.length (fun j (a : WrA) => match a with | (_, n, x) => n = x.length ∧ x = bs ++ txts (ss.take j)) (fun j a c => ⟨[(0, .ptr 1000 0 0), (9, .sl 1 (Strs ss)), (10, .v (.int .i64 (ss.length : Nat))), (11, .v (.int .i64 (j : Nat)))], wrA a, c⟩)
    (0, bs.length, bs) _ (Weak.refl _) (by simp [txts]) ?_ ?_
  · rintro j ⟨g, n, L⟩ c hj ⟨rfl, hL⟩
    have hsz := txts_take_le ss (j + 1)
    rw [txts_snoc _ _ hj, List.length_append, txt_length] at hsz
    have hLl : L.length + (4 + ss[j].length) ≤ 67108864 := by rw [hL, List.length_append]; omega
    have hm1 : fitsB (L.length + 4) 1 ∧ fitsB (L.length + 4 + ss[j].length) 1 := ⟨fits (by omega) (by omega), fits (by omega) (by omega)⟩
    have hw : IntKind.i64.wrap ((j : Int) + 1) = ((j + 1 : Nat) : Int) := w64_succ (by omega)
    simp [wrA, hj, hm1, hw, bv_u8]
    exact ⟨(_, _, _), _, (Weak.keep [1000, 2000] _ _ _).trans (Weak.refl _), by simp; omega, by rw [hL, txts_snoc _ _ hj]; simp [txt, be4]⟩
  · rintro ⟨g, n, L⟩ c ⟨rfl, hL⟩
    have : L = bs ++ txts ss := by rw [hL]; simp
    subst this
    simp [wrA]
    refine post_end (.inl rfl) ?_
    simp

theorem wtext_nil {G : Nat → Option AV} (ds : List Bytes) : Meets Tryd.prog G fn_code_Writer_Text [.v (.pointer none), .sl 1 (Strs ds)] [] true (.tup []) [] := by
  refine meets_of_go mix k_code_Writer_Text ⟨by simp, by simp, by simp⟩ ?_
  simp
  refine post_end (.inr rfl) ?_
  simp
end Go.Proofs.YtmdjimkndeklmaaDoor.WL
