/- Texts put together: S01a, S01b, S01c, S01e, S05b, S01d, S01f, S09a, S09b, S12a, S09c, S12b, L09a, L09b, S12c, S12d, S12e, S13a. -/
import Derived.Test.YtglkfbhjimnboaaWm5
import Derived.Test.YtglkfbhjimnboaaCo
section
/-
  CHAPTER 01: contracts of the reader.
-/
namespace Go.Proofs.Ytglkfbhjimnboaa.WL
open Go
set_option maxHeartbeats 4000000

/-- A reader's memory. -/
def rdM (g : Nat) (r : Rd) : List (Nat × Loc) := [(1000, .var 0 (.node [.row 2000 1 g r.pre.length r.s.length, .v (.bool r.bad)])), (2000, .rows g 1 (B (r.pre ++ r.s)))]
/-- Where the bytes lie that were taken. -/
def Rd.at_ (r : Rd) (k : Int) : Nat := if r.ok k = true then r.pre.length else 0
theorem Rd.at_le (r : Rd) (k : Int) : r.at_ k + (r.got k).length = (r.skip k).pre.length := by
  unfold Rd.at_ Rd.got Rd.skip
  split <;> simp [Rd.fault]
theorem Rd.at_drop (r : Rd) (k : Int) : ((r.skip k).pre ++ (r.skip k).s).drop (r.at_ k) = r.got k ++ (r.skip k).s := by
  unfold Rd.at_ Rd.got Rd.skip
  split <;> simp [Rd.fault]
theorem Rd.at_get (r : Rd) (k : Int) (j : Nat) (h : j < (r.got k).length) : ((r.skip k).pre ++ (r.skip k).s)[r.at_ k + j]? = some (r.got k)[j] := by
  rw [← List.getElem?_drop, Rd.at_drop, List.getElem?_append_left h, List.getElem?_eq_getElem h]

theorem read_meets {G : Nat → Option AV} (bs : Bytes) (h : fitsB bs.length 1) : Meets Try.prog G fn_code_Read [.sl 1 (B bs)] [] true (.ptr 1000 1 0) [(1000, .var 1 (.node [.row 2000 1 1 0 bs.length, .v (.bool false)])), (2000, .rows 1 1 (B bs))] := by
  refine meets_of_go mix k_code_Read ⟨by simp, by simp, by simp⟩ ?_
  simp [h]
  refine post_end (.inr rfl) ?_
  simp

theorem good_meets {G : Nat → Option AV} (r : Rd) : Meets Try.prog G fn_code_Reader_Good [.ptr 1000 0 0] (rdM 0 r) true (.v (.bool !r.bad)) (rdM 1 r) := by
  refine meets_of_go mix k_code_Reader_Good ⟨by simp [rdM], by simp, by simp [rdM]⟩ ?_
  simp [rdM]
  refine post_end (.inr rfl) ?_
  simp

theorem good_nil {G : Nat → Option AV} : Meets Try.prog G fn_code_Reader_Good [.v (.pointer none)] [] true (.v (.bool false)) [] := by
  refine meets_of_go mix k_code_Reader_Good ⟨by simp, by simp, by simp⟩ ?_
  simp
  refine post_end (.inr rfl) ?_
  simp

theorem take_meets {G : Nat → Option AV} (r : Rd) (k : Int) :
    Meets Try.prog G fn_code_Reader_take [.ptr 1000 0 0, .v (.int .i64 k)] (rdM 0 r) true (.row 2000 1 1 (r.at_ k) (r.got k).length) (rdM 1 (r.skip k)) := by
  refine meets_of_go mix k_code_Reader_take ⟨by simp [rdM], by simp [rdM], by simp [rdM]⟩ ?_
  cases hok : r.ok k with
  | true =>
    have h := hok
    simp only [Rd.ok, Bool.and_eq_true, Bool.not_eq_true', decide_eq_true_eq] at h
    obtain ⟨⟨h1, h2⟩, h3⟩ := h
    have h4 : ¬ (k < 0) := by omega
    have h5 : ¬ ((r.s.length : Int) < k) := by omega
    obtain ⟨n, rfl⟩ := Int.eq_ofNat_of_zero_le h2
    have h6 : n ≤ r.s.length := by omega
    simp [rdM, h1, h3, h4, h5, h6, Rd.at_, Rd.got, Rd.skip, hok]
    refine post_end (.inr rfl) ?_
    simp [h6]
  | false =>
    have h : r.bad = true ∨ k < 0 ∨ (r.s.length : Int) < k := by
      simp only [Rd.ok] at hok
      cases hb : r.bad
      · simp [hb] at hok; omega
      · simp
    cases hb : r.bad
    · simp [hb] at h
      by_cases h0 : k < 0
      · simp [rdM, hb, h0, Rd.at_, Rd.got, Rd.skip, hok]
        refine post_end (.inr rfl) ?_
        simp [Rd.fault]
      · have h1 : (r.s.length : Int) < k := by omega
        simp [rdM, hb, h0, h1, Rd.at_, Rd.got, Rd.skip, hok]
        refine post_end (.inr rfl) ?_
        simp [Rd.fault]
    · simp [rdM, hb, Rd.at_, Rd.got, Rd.skip, hok]
      refine post_end (.inr rfl) ?_
      simp [Rd.fault]

theorem take_nil {G : Nat → Option AV} (k : Int) : Meets Try.prog G fn_code_Reader_take [.v (.pointer none), .v (.int .i64 k)] [] true (.v (.slice none 0 0)) [] := by
  refine meets_of_go mix k_code_Reader_take ⟨by simp, by simp, by simp⟩ ?_
  simp
  refine post_end (.inr rfl) ?_
  simp

end Go.Proofs.Ytglkfbhjimnboaa.WL

end
section
/-
  CHAPTER 01: contracts of the reader, second part.
-/
namespace Go.Proofs.Ytglkfbhjimnboaa.WL
open Go
set_option maxHeartbeats 4000000

/-- The reader's memory behind the first call. -/
def rdC (r : Rd) : List (Nat × Loc) := [(1000, .var 0 (.node [.row 1072000 1 5 r.pre.length r.s.length, .v (.bool r.bad)])), (1072000, .rows 5 1 (B (r.pre ++ r.s)))]

theorem num_meets {G : Nat → Option AV} (r : Rd) : Meets Try.prog G fn_code_Reader_Num [.ptr 1000 0 0] (rdM 0 r) true (.v (.int .i64 r.num)) (rdM 1 r.num') := by
  refine meets_of_go mix k_code_Reader_Num ⟨by simp [rdM], by simp, by simp [rdM]⟩ ?_
  simp
  refine call_intro (take_meets r 8) ?_ ?_
  · simp [rdM]
  simp [rdM]
  refine go_up (r.got 8).length (fun _ _ => True) (fun j (_ : Unit) c => ⟨[(3, .v (.int .u64 (beVal ((r.got 8).take j) : Nat))), (7, .row 1072000 1 5 (r.at_ 8) (r.got 8).length), (8, .v (.int .i64 ((r.got 8).length : Nat))), (9, .v (.int .i64 (j : Nat)))], rdC (r.skip 8), c⟩)
    () _ (Weak.refl _) trivial ?_ ?_
  · intro j _ c hj _
    have h8 : (r.got 8).length ≤ 8 := r.got_le 8
    have hw : IntKind.i64.wrap ((j : Int) + 1) = ((j + 1 : Nat) : Int) := w64_succ (by omega)
    have hlt : beVal ((r.got 8).take j) < 2 ^ 56 := Nat.lt_of_lt_of_le (beVal_lt _) (by
      rw [List.length_take]
      exact Nat.le_trans (Nat.pow_le_pow_right (by omega) (show min j (r.got 8).length ≤ 7 by omega)) (by decide))
    have hb := byte_u64 (beVal ((r.got 8).take j)) (r.got 8)[j] hlt
    rw [← beVal_take_succ _ _ hj] at hb
    have hget := r.at_get 8 j hj
    have hle := r.at_le 8
    simp [rdC, hj, hget, hw, hb]
    exact ⟨(), _, Weak.refl _, trivial⟩
  · intro _ c _
    simp [rdC]
    refine post_end (.inr rfl) ?_
    simp [Rd.num, Rd.num']

theorem num_nil {G : Nat → Option AV} : Meets Try.prog G fn_code_Reader_Num [.v (.pointer none)] [] true (.v (.int .i64 0)) [] := by
  refine meets_of_go mix k_code_Reader_Num ⟨by simp, by simp, by simp⟩ ?_
  simp
  refine call_intro (take_nil 8) ?_ ?_
  · simp
  simp
  refine go_up 0 (fun _ _ => True) (fun j (_ : Unit) c => ⟨[(3, .v (.int .u64 0)), (7, .v (.slice none 0 0)), (8, .v (.int .i64 0)), (9, .v (.int .i64 0))], [], c⟩)
    () _ (Weak.refl _) trivial ?_ ?_
  · intro j _ c hj _
    omega
  · intro _ c _
    have h : IntKind.i64.wrap 0 = 0 := by decide
    simp [h]
    refine post_end (.inr rfl) ?_
    simp

theorem digest_meets {G : Nat → Option AV} (r : Rd) : Meets Try.prog G fn_code_Reader_Digest [.ptr 1000 0 0] (rdM 0 r) true (dv r.dg) (rdM 1 r.dg') := by
  refine meets_of_go mix k_code_Reader_Digest ⟨by simp [rdM], by simp, by simp [rdM]⟩ ?_
  have h1 : (32 : Nat) ≤ maxLen := by decide
  have h3 := r.at_le 32
  have h4 : (r.got 32).length ≤ 32 := r.got_le 32
  have h5 : (List.take (r.got 32).length (List.drop (r.at_ 32) ((r.skip 32).pre ++ (r.skip 32).s))) = r.got 32 := by rw [Rd.at_drop]; simp
  have h6 : splice (B (zeros 32)) 0 (B (r.got 32)) = B r.dg.bs := splice_zeros 32 (r.got 32)
  simp [h1]
  refine call_intro (take_meets r 32) ?_ ?_
  · simp [rdM]
  simp [rdM, h3, h4, h5, h6]
  refine post_end (.inr rfl) ?_
  simp [Rd.dg']

theorem digest_nil {G : Nat → Option AV} : Meets Try.prog G fn_code_Reader_Digest [.v (.pointer none)] [] true (dv Dg.zero) [] := by
  refine meets_of_go mix k_code_Reader_Digest ⟨by simp, by simp, by simp⟩ ?_
  have h1 : (32 : Nat) ≤ maxLen := by decide
  have h6 : splice (B (zeros 32)) 0 (B []) = B (zeros 32) := splice_zeros 32 []
  simp only [B_nil] at h6
  simp [h1]
  refine call_intro (take_nil 32) ?_ ?_
  · simp
  simp [h6]
  refine post_end (.inr rfl) ?_
  simp

theorem in_meets {G : Nat → Option AV} (r : Rd) (lo hi : Int) : Meets Try.prog G fn_code_Reader_In [.ptr 1000 0 0, .v (.int .i64 lo), .v (.int .i64 hi)] (rdM 0 r) true (.v (.int .i64 (r.inn lo hi))) (rdM 1 (r.inn' lo hi)) := by
  refine meets_of_go mix k_code_Reader_In ⟨by simp [rdM], by simp, by simp [rdM]⟩ ?_
  simp
  refine call_intro (num_meets r) ?_ ?_
  · simp [rdM]
  simp [rdM]
  by_cases h1 : lo ≤ r.num
  · by_cases h2 : r.num ≤ hi
    · cases hb : r.num'.bad
      · simp [h1, h2]
        refine post_end (.inr rfl) ?_
        simp [Rd.inn, Rd.inn', Rd.inOk, h1, h2, hb]
      · simp [h1, h2]
        refine post_end (.inr rfl) ?_
        simp [Rd.inn, Rd.inn', Rd.inOk, hb, Rd.fault]
    · simp [h1, h2]
      refine post_end (.inr rfl) ?_
      simp [Rd.inn, Rd.inn', Rd.inOk, h2, Rd.fault]
  · simp [h1]
    refine post_end (.inr rfl) ?_
    simp [Rd.inn, Rd.inn', Rd.inOk, h1, Rd.fault]

theorem in_nil {G : Nat → Option AV} (lo hi : Int) : Meets Try.prog G fn_code_Reader_In [.v (.pointer none), .v (.int .i64 lo), .v (.int .i64 hi)] [] true (.v (.int .i64 0)) [] := by
  refine meets_of_go mix k_code_Reader_In ⟨by simp, by simp, by simp⟩ ?_
  simp
  refine call_intro num_nil ?_ ?_
  · simp
  simp
  refine post_end (.inr rfl) ?_
  simp

theorem end_meets {G : Nat → Option AV} (r : Rd) : Meets Try.prog G fn_code_Reader_End [.ptr 1000 0 0] (rdM 0 r) true (.v (.bool r.done)) (rdM 1 r) := by
  refine meets_of_go mix k_code_Reader_End ⟨by simp [rdM], by simp, by simp [rdM]⟩ ?_
  simp
  refine call_intro (good_meets r) ?_ ?_
  · simp [rdM]
  cases hb : r.bad
  · simp [rdM]
    refine post_end (.inr rfl) ?_
    simp [Rd.done, hb]
  · simp [rdM]
    refine post_end (.inr rfl) ?_
    simp [Rd.done, hb]

theorem end_nil {G : Nat → Option AV} : Meets Try.prog G fn_code_Reader_End [.v (.pointer none)] [] true (.v (.bool false)) [] := by
  refine meets_of_go mix k_code_Reader_End ⟨by simp, by simp, by simp⟩ ?_
  simp
  refine call_intro good_nil ?_ ?_
  · simp
  simp
  refine post_end (.inr rfl) ?_
  simp
end Go.Proofs.Ytglkfbhjimnboaa.WL

end
section
/-
  CHAPTER 01: contracts of the reader: texts.
-/
namespace Go.Proofs.Ytglkfbhjimnboaa.WL
open Go
set_option maxHeartbeats 4000000

def rdT (g : Nat) (r : Rd) : List (Nat × Loc) := [(1000, .var 0 (.node [.row 1092000 1 g r.pre.length r.s.length, .v (.bool r.bad)])), (1092000, .rows g 1 (B (r.pre ++ r.s)))]

theorem text_meets {G : Nat → Option AV} (r : Rd) (mx : Int) : Meets Try.prog G fn_code_Reader_Text [.ptr 1000 0 0, .v (.int .i64 mx)] (rdM 0 r) true (.v (.string (mkS (r.text mx)))) (rdM 1 (r.text' mx)) := by
  refine meets_of_go mix k_code_Reader_Text ⟨by simp [rdM], by simp, by simp [rdM]⟩ ?_
  simp
  refine call_intro (take_meets r 4) ?_ ?_
  · simp [rdM]
  simp [rdM]
  refine go_up (r.got 4).length (fun _ _ => True) (fun j (_ : Unit) c => ⟨[(0, .ptr 1000 0 0), (1, .v (.int .i64 mx)), (5, .v (.int .i64 (beVal ((r.got 4).take j) : Nat))), (9, .row 1092000 1 5 (r.at_ 4) (r.got 4).length), (10, .v (.int .i64 ((r.got 4).length : Nat))), (11, .v (.int .i64 (j : Nat)))], rdT 5 (r.skip 4), c⟩)
    () _ (Weak.refl _) trivial ?_ ?_
  · intro j _ c hj _
    have h8 : (r.got 4).length ≤ 4 := r.got_le 4
    have hw : IntKind.i64.wrap ((j : Int) + 1) = ((j + 1 : Nat) : Int) := w64_succ (by omega)
    have hlt : beVal ((r.got 4).take j) < 2 ^ 24 := Nat.lt_of_lt_of_le (beVal_lt _) (by
      rw [List.length_take]
      exact Nat.le_trans (Nat.pow_le_pow_right (by omega) (show min j (r.got 4).length ≤ 3 by omega)) (by decide))
    have hb := byte_i64 (beVal ((r.got 4).take j)) (r.got 4)[j] (by omega)
    have hu := (r.got 4)[j].toNat_lt
    rw [w64_id (n := ((beVal ((r.got 4).take j) * 256 + (r.got 4)[j].toNat : Nat) : Int)) (by omega), ← beVal_take_succ _ _ hj] at hb
    have hget := r.at_get 4 j hj
    have hle := r.at_le 4
    simp [rdT, hj, hget, hw, hb]
    exact ⟨(), _, Weak.refl _, trivial⟩
  · intro _ c _
    have h3 := (r.skip 4).at_le (r.len mx)
    have h5 : (List.take ((r.skip 4).got (r.len mx)).length (List.drop ((r.skip 4).at_ (r.len mx)) (((r.skip 4).skip (r.len mx)).pre ++ ((r.skip 4).skip (r.len mx)).s))) = (r.skip 4).got (r.len mx) := by rw [Rd.at_drop]; simp
    by_cases hm : mx < (beVal (r.got 4) : Int)
    · have hl : r.len mx = -1 := by simp [Rd.len, hm]
      rw [hl] at h3 h5
      simp [rdT, hm]
      refine call_intro (take_meets (r.skip 4) (-1)) ?_ ?_
      · simp [rdM]
      simp [rdM, h3, h5]
      refine post_end (.inr rfl) ?_
      simp [Rd.text, Rd.text', hl]
    · have hl : r.len mx = beVal (r.got 4) := by simp [Rd.len, hm]
      rw [hl] at h3 h5
      simp [rdT, hm]
      refine call_intro (take_meets (r.skip 4) (beVal (r.got 4) : Nat)) ?_ ?_
      · simp [rdM]
      simp [rdM, h3, h5]
      refine post_end (.inr rfl) ?_
      simp [Rd.text, Rd.text', hl]

theorem text_nil {G : Nat → Option AV} (mx : Int) : Meets Try.prog G fn_code_Reader_Text [.v (.pointer none), .v (.int .i64 mx)] [] true (.v (.string (mkS []))) [] := by
  refine meets_of_go mix k_code_Reader_Text ⟨by simp, by simp, by simp⟩ ?_
  simp
  refine call_intro (take_nil 4) ?_ ?_
  · simp
  simp
  refine go_up 0 (fun _ _ => True) (fun j (_ : Unit) c => ⟨[(0, .v (.pointer none)), (1, .v (.int .i64 mx)), (5, .v (.int .i64 0)), (9, .v (.slice none 0 0)), (10, .v (.int .i64 0)), (11, .v (.int .i64 0))], [], c⟩)
    () _ (Weak.refl _) trivial ?_ ?_
  · intro j _ c hj _
    omega
  · intro _ c _
    by_cases hm : mx < 0
    · simp [hm]
      refine call_intro (take_nil (-1)) ?_ ?_
      · simp
      simp
      refine post_end (.inr rfl) ?_
      simp
    · simp [hm]
      refine call_intro (take_nil 0) ?_ ?_
      · simp
      simp
      refine post_end (.inr rfl) ?_
      simp
end Go.Proofs.Ytglkfbhjimnboaa.WL

end
section
/-
  CHAPTER 01: contracts of the writer.
-/
namespace Go.Proofs.Ytglkfbhjimnboaa.WL
open Go
set_option maxHeartbeats 4000000

/-- A writer that holds these bytes. -/
def wrM (g : Nat) (bs : Bytes) : List (Nat × Loc) := [(1000, .var 0 (.node [.row 2000 1 g 0 bs.length])), (2000, .rows g 1 (B bs))]

theorem bytes_meets {G : Nat → Option AV} (bs : Bytes) (hb : bs.length ≤ 67108864) :
    Meets Try.prog G fn_code_Writer_Bytes [.ptr 1000 0 0] (wrM 0 bs) true (.row 3000 1 1 0 bs.length) (wrM 1 bs ++ [(3000, .rows 1 1 (B bs))]) := by
  refine meets_of_go mix k_code_Writer_Bytes ⟨by simp [wrM], by simp [wrM], by simp [wrM]⟩ ?_
  have h1 : fitsB bs.length 1 := fits (by omega) (by omega)
  simp [wrM, h1]
  refine post_end (.inr rfl) ?_
  simp

theorem bytes_nil {G : Nat → Option AV} : Meets Try.prog G fn_code_Writer_Bytes [.v (.pointer none)] [] true (.v (.slice none 0 0)) [] := by
  refine meets_of_go mix k_code_Writer_Bytes ⟨by simp, by simp, by simp⟩ ?_
  simp
  refine post_end (.inr rfl) ?_
  simp

/-- The writer's state in a loop: its stamp, its length, its bytes. -/
abbrev WrA := Nat × Nat × Bytes
def wrA (a : WrA) : List (Nat × Loc) := [(1000, .var 0 (.node [.row 2000 1 a.1 0 a.2.1])), (2000, .rows a.1 1 (B a.2.2))]

theorem wnum_meets {G : Nat → Option AV} (bs : Bytes) (ns : List Int) (hb : bs.length + 8 * ns.length ≤ 67108864) :
    Meets Try.prog G fn_code_Writer_Num [.ptr 1000 0 0, .sl 1 (I64 ns)] (wrM 0 bs) true (.tup []) (wrM 1 (bs ++ nums ns)) := by
  refine meets_of_go mix k_code_Writer_Num ⟨by simp [wrM], by simp, by simp [wrM]⟩ ?_
  simp [wrM]
  refine go_up ns.length (fun j (a : WrA) => match a with | (_, n, x) => n = x.length ∧ x = bs ++ nums (ns.take j)) (fun j a c => ⟨[(0, .ptr 1000 0 0), (9, .sl 1 (I64 ns)), (10, .v (.int .i64 (ns.length : Nat))), (11, .v (.int .i64 (j : Nat)))], wrA a, c⟩)
    (0, bs.length, bs) _ (Weak.refl _) (by simp [nums]) ?_ ?_
  · rintro j ⟨g, n, L⟩ c hj ⟨rfl, hL⟩
    simp [hj, wrA]
    refine go_up 8 (fun t (a : WrA) => match a with | (_, n, x) => n = x.length ∧ x = L ++ (be8 ns[j]).take t) (fun t a c => ⟨[(0, .ptr 1000 0 0), (5, .v (.int .i64 ns[j])), (6, .v (.int .i64 (56 - 8 * (t : Int)))), (9, .sl 1 (I64 ns)), (10, .v (.int .i64 (ns.length : Nat))), (11, .v (.int .i64 (j : Nat)))], wrA a, c⟩)
      (g, L.length, L) _ (Weak.refl _) (by simp) ?_ ?_
    · rintro t ⟨g', n', L'⟩ c' ht ⟨rfl, hL'⟩
      have h8 : 8 * (t : Int) ≤ 56 := by omega
      have h0 : (0 : Int) ≤ 56 - 8 * (t : Int) := by omega
      have hmin : min (56 - 8 * (t : Int)).toNat 64 = 56 - 8 * t := by omega
      have hw : IntKind.i64.wrap (56 - 8 * (t : Int) - 8) = 56 - 8 * ((t + 1 : Nat) : Int) := by rw [w64_id (by omega)]; omega
      have hLl : L'.length ≤ 67108863 := by
        rw [hL', hL]
        simp only [List.length_append, nums_length, List.length_take, be8_length]
        omega
      have hm1 : fitsB (L'.length + 1) 1 := fits (by omega) (by omega)
      simp [wrA, h8, hmin, hw, hm1, bv_u8, be8_u64 _ _ ht, B_snoc]
      exact ⟨(_, _, _), _, (Weak.keep [1000, 2000] _ _ _).trans (Weak.refl _), by simp, by rw [hL', be8_take _ _ ht, List.append_assoc]⟩
    · rintro ⟨g', n', L'⟩ c' ⟨rfl, hL'⟩
      have hw : IntKind.i64.wrap ((j : Int) + 1) = ((j + 1 : Nat) : Int) := w64_succ (by omega)
      simp [wrA, hw]
      exact ⟨(_, _, _), _, Weak.refl _, rfl, by rw [hL', hL, nums_snoc _ _ hj, List.append_assoc, List.take_of_length_le (l := be8 ns[j]) (by simp)]⟩
  · rintro ⟨g, n, L⟩ c ⟨rfl, hL⟩
    have : L = bs ++ nums ns := by rw [hL]; simp
    subst this
    simp [wrA]
    refine post_end (.inl rfl) ?_
    simp

theorem wnum_nil {G : Nat → Option AV} (ns : List Int) : Meets Try.prog G fn_code_Writer_Num [.v (.pointer none), .sl 1 (I64 ns)] [] true (.tup []) [] := by
  refine meets_of_go mix k_code_Writer_Num ⟨by simp, by simp, by simp⟩ ?_
  simp
  refine post_end (.inr rfl) ?_
  simp

theorem wdigest_meets {G : Nat → Option AV} (bs : Bytes) (ds : List Dg) (hb : bs.length + 32 * ds.length ≤ 67108864) :
    Meets Try.prog G fn_code_Writer_Digest [.ptr 1000 0 0, .sl 32 (Dgs ds)] (wrM 0 bs) true (.tup []) (wrM 1 (bs ++ flatD ds)) := by
  refine meets_of_go mix k_code_Writer_Digest ⟨by simp [wrM], by simp, by simp [wrM]⟩ ?_
  simp [wrM]
  refine go_up ds.length (fun j (a : WrA) => match a with | (_, n, x) => n = x.length ∧ x = bs ++ flatD (ds.take j)) (fun j a c => ⟨[(0, .ptr 1000 0 0), (8, .sl 32 (Dgs ds)), (9, .v (.int .i64 (ds.length : Nat))), (10, .v (.int .i64 (j : Nat)))], wrA a, c⟩)
    (0, bs.length, bs) _ (Weak.refl _) (by simp [flatD]) ?_ ?_
  · rintro j ⟨g, n, L⟩ c hj ⟨rfl, hL⟩
    have hLl : L.length + 32 ≤ 67108864 := by rw [hL, List.length_append, flatD_length, List.length_take]; omega
    have hm1 : fitsB (L.length + 32) 1 := fits (by omega) (by omega)
    have hw : IntKind.i64.wrap ((j : Int) + 1) = ((j + 1 : Nat) : Int) := w64_succ (by omega)
    simp [wrA, hj, hm1, hw]
    exact ⟨(_, _, _), _, (Weak.keep [1000, 2000] _ _ _).trans (Weak.refl _), by simp, by rw [hL, flatD_snoc _ _ hj, List.append_assoc]⟩
  · rintro ⟨g, n, L⟩ c ⟨rfl, hL⟩
    have : L = bs ++ flatD ds := by rw [hL]; simp
    subst this
    simp [wrA]
    refine post_end (.inl rfl) ?_
    simp

theorem wdigest_nil {G : Nat → Option AV} (ds : List Dg) : Meets Try.prog G fn_code_Writer_Digest [.v (.pointer none), .sl 32 (Dgs ds)] [] true (.tup []) [] := by
  refine meets_of_go mix k_code_Writer_Digest ⟨by simp, by simp, by simp⟩ ?_
  simp
  refine post_end (.inr rfl) ?_
  simp

theorem wtext_meets {G : Nat → Option AV} (bs : Bytes) (ss : List Bytes) (hb : bs.length + (txts ss).length ≤ 67108864) (hn : ss.length ≤ 67108864) :
    Meets Try.prog G fn_code_Writer_Text [.ptr 1000 0 0, .sl 1 (Strs ss)] (wrM 0 bs) true (.tup []) (wrM 1 (bs ++ txts ss)) := by
  refine meets_of_go mix k_code_Writer_Text ⟨by simp [wrM], by simp, by simp [wrM]⟩ ?_
  simp [wrM]
  refine go_up ss.length (fun j (a : WrA) => match a with | (_, n, x) => n = x.length ∧ x = bs ++ txts (ss.take j)) (fun j a c => ⟨[(0, .ptr 1000 0 0), (9, .sl 1 (Strs ss)), (10, .v (.int .i64 (ss.length : Nat))), (11, .v (.int .i64 (j : Nat)))], wrA a, c⟩)
    (0, bs.length, bs) _ (Weak.refl _) (by simp [txts]) ?_ ?_
  · rintro j ⟨g, n, L⟩ c hj ⟨rfl, hL⟩
    have hsz := txts_take_le ss (j + 1)
    rw [txts_snoc _ _ hj, List.length_append, txt_length] at hsz
    have hLl : L.length + (4 + ss[j].length) ≤ 67108864 := by rw [hL, List.length_append]; omega
    have hm1 : fitsB (L.length + 4) 1 ∧ fitsB (L.length + 4 + ss[j].length) 1 := ⟨fits (by omega) (by omega), fits (by omega) (by omega)⟩
    have hw : IntKind.i64.wrap ((j : Int) + 1) = ((j + 1 : Nat) : Int) := w64_succ (by omega)
    simp [wrA, hj, hm1, hw, bv_u8]
    exact ⟨(_, _, _), _, (Weak.keep [1000, 2000] _ _ _).trans (Weak.refl _), by simp; omega, by rw [hL, txts_snoc _ _ hj]; simp [txt, be4]⟩
  · rintro ⟨g, n, L⟩ c ⟨rfl, hL⟩
    have : L = bs ++ txts ss := by rw [hL]; simp
    subst this
    simp [wrA]
    refine post_end (.inl rfl) ?_
    simp

theorem wtext_nil {G : Nat → Option AV} (ds : List Bytes) : Meets Try.prog G fn_code_Writer_Text [.v (.pointer none), .sl 1 (Strs ds)] [] true (.tup []) [] := by
  refine meets_of_go mix k_code_Writer_Text ⟨by simp, by simp, by simp⟩ ?_
  simp
  refine post_end (.inr rfl) ?_
  simp
end Go.Proofs.Ytglkfbhjimnboaa.WL

end
section
/-
  CHAPTER 05: contracts of the program: writing and reading.
-/
namespace Go.Proofs.Ytglkfbhjimnboaa.WL
open Go
set_option maxHeartbeats 4000000
variable {G : Nat → Option AV}

theorem kwrite_bad (bs : Bytes) (s : Sig) (h : s.ok = false) : Meets Try.prog G fn_keys_Write [.ptr 1000 0 0, s.avS] (wrM 0 bs) true (.v (.bool false)) (wrM 1 bs) := by
  refine meets_of_go mix k_keys_Write ⟨by simp [wrM], by simp, by simp [wrM]⟩ ?_
  simp only [Sig.ok, decide_eq_false_iff_not] at h
  by_cases h1 : s.op.length = 32
  · by_cases h2 : s.sh.length = 32
    · have h3 : 6 < s.path.length := by omega
      have h3i : (6 : Int) < (s.path.length : Nat) := by omega
      simp [Sig.avS, wrM, h1, h2, h3, h3i]
      refine post_end (.inr rfl) ?_
      simp
    · have h2i : ¬ (s.sh.length : Int) = 32 := by omega
      simp [Sig.avS, wrM, h1, h2, h2i]
      refine post_end (.inr rfl) ?_
      simp
  · have h1i : ¬ (s.op.length : Int) = 32 := by omega
    simp [Sig.avS, wrM, h1, h1i]
    refine post_end (.inr rfl) ?_
    simp

theorem kwrite_meets (bs : Bytes) (s : Sig) (h : s.ok = true) (hb : bs.length ≤ 50000000) : Meets Try.prog G fn_keys_Write [.ptr 1000 0 0, s.avS] (wrM 0 bs) true (.v (.bool true)) (wrM 1 (bs ++ s.bytes)) := by
  refine meets_of_go mix k_keys_Write ⟨by simp [wrM], by simp, by simp [wrM]⟩ ?_
  simp only [Sig.ok, decide_eq_true_eq] at h
  obtain ⟨h1, h2, h3⟩ := h
  have h1i : (s.op.length : Int) = 32 := by omega
  have h2i : (s.sh.length : Int) = 32 := by omega
  have h3i : ¬ (6 : Int) < (s.path.length : Nat) := by omega
  have h3n : ¬ 6 < s.path.length := by omega
  have hbts : s.bytes = nums [s.leaf, (s.path.length : Int)] ++ (flatD s.op ++ (flatD s.sh ++ flatD s.path)) := rfl
  rw [hbts]
  have n1 := nums_length [s.leaf, (s.path.length : Int)]
  have n2 := flatD_length s.op
  have n3 := flatD_length s.sh
  simp only [List.length_cons, List.length_nil] at n1
  have m1 := wnum_meets (G := G) bs [s.leaf, (s.path.length : Int)] (by simp; omega)
  generalize nums [s.leaf, (s.path.length : Int)] = x1 at *
  have m2 := wdigest_meets (G := G) (bs ++ x1) s.op (by simp only [List.length_append]; omega)
  generalize flatD s.op = x2 at *
  have m3 := wdigest_meets (G := G) (bs ++ x1 ++ x2) s.sh (by simp only [List.length_append]; omega)
  generalize flatD s.sh = x3 at *
  have m4 := wdigest_meets (G := G) (bs ++ x1 ++ x2 ++ x3) s.path (by simp only [List.length_append]; omega)
  generalize flatD s.path = x4 at *
  have e : bs ++ (x1 ++ (x2 ++ (x3 ++ x4))) = bs ++ x1 ++ x2 ++ x3 ++ x4 := by simp
  rw [e]
  generalize bs ++ x1 ++ x2 ++ x3 ++ x4 = y4 at *
  generalize bs ++ x1 ++ x2 ++ x3 = y3 at *
  generalize bs ++ x1 ++ x2 = y2 at *
  generalize bs ++ x1 = y1 at *
  simp [Sig.avS, wrM, h1, h2, h3n, h3i]
  refine call_intro m1 ?_ ?_
  · simp [wrM, I64_2]
  simp [wrM, I64_2]
  refine call_intro m2 ?_ ?_
  · simp [wrM]
  simp [wrM]
  refine call_intro m3 ?_ ?_
  · simp [wrM]
  simp [wrM]
  refine call_intro m4 ?_ ?_
  · simp [wrM]
  simp [wrM]
  refine post_end (.inr rfl) ?_
  simp

/-- The memory of a reader and of a signature under way. -/
def kdM (c : Nat) (q : Rd) (leaf : Int) (o s p : List Dg) : List (Nat × Loc) :=
  [(2, .var c (.node [.v (.int .i64 0), .node [.v (.slice none 0 0), .v (.slice none 0 0)], .v (.slice none 0 0)])), (3, .var c (.node [.v (.int .i64 leaf), .node [.row 22 32 c 0 o.length, .row 34 32 c 0 s.length], .row 46 32 c 0 p.length])),
   (22, .rows c 32 (Dgs o)), (34, .rows c 32 (Dgs s)), (46, .rows c 32 (Dgs p)),
   (1000, .var 0 (.node [.row 2000 1 c q.pre.length q.s.length, .v (.bool q.bad)])), (2000, .rows c 1 (B (q.pre ++ q.s)))]

theorem kread_meets (r : Rd) : Meets Try.prog G fn_keys_Read [.ptr 1000 0 0] (rdM 0 r) true (Sig.avR 3000 4000 5000 1 r.sig) (rdM 1 r.sig' ++ Sig.rows 3000 4000 5000 1 r.sig) := by
  refine meets_of_go mix k_keys_Read ⟨by simp [rdM, Sig.rows], by simp [rdM, Sig.rows, Sig.avR], by simp [rdM, Sig.rows]⟩ ?_
  obtain ⟨hN, hN2⟩ := r.sN_eq
  have m1 := num_meets (G := G) r
  have m2 := in_meets (G := G) r.num' 0 6
  rw [← hN] at m2
  have m3 := good_meets (G := G) r.s2
  have hs2 : r.num'.inn' 0 6 = r.s2 := rfl
  rw [hs2] at m2
  cases hb : r.s2.bad
  · have hsig' : r.sig' = ((r.s2.ds' 32).ds' 32).ds' r.sN := rfl
    have hsig : r.sig = if (((r.s2.ds' 32).ds' 32).ds' r.sN).bad = true then Sig.zero else ⟨r.num, r.s2.ds 32, (r.s2.ds' 32).ds 32, ((r.s2.ds' 32).ds' 32).ds r.sN⟩ := rfl
    rw [hsig', hsig]
    generalize r.sN = N at *
    generalize r.num' = r1 at *
    generalize r.num = lf at *
    generalize r.s2 = r2 at *
    obtain ⟨M, hM⟩ : ∃ M, M = 32 := ⟨_, rfl⟩
    rw [← hM]
    simp [rdM]
    refine call_intro m1 ?_ ?_
    · simp [rdM]
    simp [rdM]
    refine call_intro m2 ?_ ?_
    · simp [rdM]
    simp [rdM]
    refine call_intro m3 ?_ ?_
    · simp [rdM]
    simp [rdM, hb]
    refine go_up M (fun j (_ : Unit) => True) (fun j _ c => ⟨[(0, .ptr 1000 0 0), (2, .ptr 2 c 0), (3, .ptr 3 c 0), (4, .v (.int .i64 (N : Nat))), (14, .v (.int .i64 (j : Nat)))], kdM c (r2.ds' j) lf (r2.ds j) [] [], c + 1⟩) () _ (Weak.re0 1000 (by simp [kdM, Rd.ds, Rd.ds', hb])) trivial ?_ ?_
    · intro j _ c hj _
      have hw : IntKind.i64.wrap ((j : Int) + 1) = ((j + 1 : Nat) : Int) := w64_succ (by omega)
      have f1 : fitsB (j + 1) 32 := fits (by omega) (by omega)
      have hj32 : (j : Int) < 32 := by omega
      have e1 : r2.ds (j + 1) = r2.ds j ++ [(r2.ds' j).dg] := rfl
      have e2 : r2.ds' (j + 1) = (r2.ds' j).dg' := rfl
      have hl := r2.ds_length j
      generalize r2.ds j = x at *
      generalize r2.ds' j = q at *
      have m5 := digest_meets (G := G) q
      generalize q.dg' = q' at *
      generalize q.dg = t at *
      simp [hj32, kdM]
      refine call_intro m5 ?_ ?_
      · simp [rdM]
      simp [rdM, f1, hl, hw, Dgs_snoc]
      exact ⟨(), _, Weak.re0 1000 (by simp [kdM, e1, e2, hl]), trivial⟩
    · intro _ c _
      have hM32 : ¬ (M : Int) < 32 := by omega
      generalize hq2 : r2.ds' M = r3 at *
      have hol := r2.ds_length M
      generalize r2.ds M = o at *
      simp [kdM, hM32]
      refine go_up M (fun j (_ : Unit) => True) (fun j _ c => ⟨[(0, .ptr 1000 0 0), (2, .ptr 2 c 0), (3, .ptr 3 c 0), (4, .v (.int .i64 (N : Nat))), (26, .v (.int .i64 (j : Nat)))], kdM c (r3.ds' j) lf o (r3.ds j) [], c + 1⟩) () _ (Weak.re0 1000 (by simp [kdM, Rd.ds, Rd.ds'])) trivial ?_ ?_
      · intro j _ c hj _
        have hw : IntKind.i64.wrap ((j : Int) + 1) = ((j + 1 : Nat) : Int) := w64_succ (by omega)
        have f1 : fitsB (j + 1) 32 := fits (by omega) (by omega)
        have hj32 : (j : Int) < 32 := by omega
        have e1 : r3.ds (j + 1) = r3.ds j ++ [(r3.ds' j).dg] := rfl
        have e2 : r3.ds' (j + 1) = (r3.ds' j).dg' := rfl
        have hl := r3.ds_length j
        generalize r3.ds j = x at *
        generalize r3.ds' j = q at *
        have m5 := digest_meets (G := G) q
        generalize q.dg' = q' at *
        generalize q.dg = t at *
        simp [hj32, kdM]
        refine call_intro m5 ?_ ?_
        · simp [rdM]
        simp [rdM, f1, hl, hw, Dgs_snoc]
        exact ⟨(), _, Weak.re0 1000 (by simp [kdM, e1, e2, hl]), trivial⟩
      · intro _ c _
        have hsl := r3.ds_length M
        generalize hq3 : r3.ds' M = r4 at *
        generalize r3.ds M = s at *
        simp [kdM, hM32]
        refine go_up N (fun j (_ : Unit) => True) (fun j _ c => ⟨[(0, .ptr 1000 0 0), (2, .ptr 2 c 0), (3, .ptr 3 c 0), (38, .v (.int .i64 (N : Nat))), (39, .v (.int .i64 (j : Nat)))], kdM c (r4.ds' j) lf o s (r4.ds j), c + 1⟩) () _ (Weak.re0 1000 (by simp [kdM, Rd.ds, Rd.ds'])) trivial ?_ ?_
        · intro j _ c hj _
          have hw : IntKind.i64.wrap ((j : Int) + 1) = ((j + 1 : Nat) : Int) := w64_succ (by omega)
          have f1 : fitsB (j + 1) 32 := fits (by omega) (by omega)
          have e1 : r4.ds (j + 1) = r4.ds j ++ [(r4.ds' j).dg] := rfl
          have e2 : r4.ds' (j + 1) = (r4.ds' j).dg' := rfl
          have hl := r4.ds_length j
          generalize r4.ds j = x at *
          generalize r4.ds' j = q at *
          have m5 := digest_meets (G := G) q
          generalize q.dg' = q' at *
          generalize q.dg = t at *
          simp [hj, kdM]
          refine call_intro m5 ?_ ?_
          · simp [rdM]
          simp [rdM, f1, hl, hw, Dgs_snoc]
          exact ⟨(), _, Weak.re0 1000 (by simp [kdM, e1, e2, hl]), trivial⟩
        · intro _ c _
          have hpl := r4.ds_length N
          generalize r4.ds' N = r5 at *
          generalize r4.ds N = p at *
          have m6 := good_meets (G := G) r5
          simp [kdM]
          refine call_intro m6 ?_ ?_
          · simp [rdM]
          cases hb5 : r5.bad
          · simp [rdM, hb5]
            refine post_end (.inr rfl) ?_
            simp [Sig.avR, Sig.rows, hb5]
          · simp [rdM, hb5]
            refine post_end (.inr rfl) ?_
            simp [Sig.avR, Sig.rows, Sig.zero, hb5]
  · obtain ⟨e1, e2⟩ := r.sig_fault hb
    have e3 : r.sig = Sig.zero := by unfold Rd.sig; rw [e2]; rfl
    rw [e2, e3]
    rw [e1] at m2 m3 hb
    generalize r.sN = N at *
    generalize r.num' = r1 at *
    generalize r.num = lf at *
    simp [rdM]
    refine call_intro m1 ?_ ?_
    · simp [rdM]
    simp [rdM]
    refine call_intro m2 ?_ ?_
    · simp [rdM]
    simp [rdM]
    refine call_intro m3 ?_ ?_
    · simp [rdM]
    simp [rdM, hb]
    refine post_end (.inr rfl) ?_
    simp [Sig.avR, Sig.rows, Sig.zero, hb]

theorem kread_nil : Meets Try.prog G fn_keys_Read [.v (.pointer none)] [] true (.node [.v (.int .i64 0), .node [.v (.slice none 0 0), .v (.slice none 0 0)], .v (.slice none 0 0)]) [] := by
  refine meets_of_go mix k_keys_Read ⟨by simp, by simp, by simp⟩ ?_
  simp
  refine call_intro num_nil ?_ ?_
  · simp
  simp
  refine call_intro (in_nil 0 6) ?_ ?_
  · simp
  simp
  refine call_intro good_nil ?_ ?_
  · simp
  simp
  refine post_end (.inr rfl) ?_
  simp
end Go.Proofs.Ytglkfbhjimnboaa.WL

end
section
/-
  CHAPTER 01: contracts of the reference.
-/
namespace Go.Proofs.Ytglkfbhjimnboaa.WL
open Go
set_option maxHeartbeats 4000000

/-- The reference's reader. -/
def rfM (r : Rd) : List (Nat × Loc) := [(1000, .var 0 (.node [.v (.string (mkS r.s)), .v (.bool r.bad)]))]

theorem rtake_meets {G : Nat → Option AV} (r : Rd) (k : Int) : Meets Try.prog G fn_r01_Reader_Take [.ptr 1000 0 0, .v (.int .i64 k)] (rfM r) true (.v (.string (mkS (r.got k)))) (rfM (r.skip k)) := by
  refine meets_of_go mix k_r01_Reader_Take ⟨by simp [rfM], by simp, by simp [rfM]⟩ ?_
  cases hok : r.ok k with
  | true =>
    have h := hok
    simp only [Rd.ok, Bool.and_eq_true, Bool.not_eq_true', decide_eq_true_eq] at h
    obtain ⟨⟨h1, h2⟩, h3⟩ := h
    have h4 : ¬ (k < 0) := by omega
    have h5 : ¬ ((r.s.length : Int) < k) := by omega
    obtain ⟨n, rfl⟩ := Int.eq_ofNat_of_zero_le h2
    have h6 : n ≤ r.s.length := by omega
    have h7 : r.s.take r.s.length = r.s := by simp
    simp [rfM, h1, h3, h4, h5, h6, h7, Rd.got, Rd.skip, hok]
    refine post_end (.inr rfl) ?_
    simp
  | false =>
    have h : r.bad = true ∨ k < 0 ∨ (r.s.length : Int) < k := by
      simp only [Rd.ok] at hok
      cases hb : r.bad
      · simp [hb] at hok; omega
      · simp
    cases hb : r.bad
    · simp [hb] at h
      by_cases h0 : k < 0
      · simp [rfM, hb, h0, Rd.got, Rd.skip, hok]
        refine post_end (.inr rfl) ?_
        simp [Rd.fault]
      · have h1 : (r.s.length : Int) < k := by omega
        simp [rfM, hb, h0, h1, Rd.got, Rd.skip, hok]
        refine post_end (.inr rfl) ?_
        simp [Rd.fault]
    · simp [rfM, hb, Rd.got, Rd.skip, hok]
      refine post_end (.inr rfl) ?_
      simp [Rd.fault]

theorem rnum_meets {G : Nat → Option AV} (r : Rd) : Meets Try.prog G fn_r01_Reader_Num [.ptr 1000 0 0] (rfM r) true (.v (.int .i64 r.num)) (rfM r.num') := by
  refine meets_of_go mix k_r01_Reader_Num ⟨by simp [rfM], by simp, by simp [rfM]⟩ ?_
  simp
  refine call_intro (rtake_meets r 8) ?_ ?_
  · simp [rfM]
  simp [rfM]
  have hz : IntKind.i64.wrap 0 = 0 := by decide
  refine go_up (r.got 8).length (fun _ _ => True) (fun j (_ : Unit) c => ⟨[(3, .v (.string (mkS (r.got 8)))), (4, .v (.int .i64 (IntKind.i64.wrap (beVal ((r.got 8).take j) : Nat)))), (5, .v (.int .i64 (j : Nat)))], rfM (r.skip 8), c⟩)
    () _ (by simp [beVal, hz, rfM]; exact Weak.refl _) trivial ?_ ?_
  · intro j _ c hj _
    have h8 : (r.got 8).length ≤ 8 := r.got_le 8
    have hw : IntKind.i64.wrap ((j : Int) + 1) = ((j + 1 : Nat) : Int) := w64_succ (by omega)
    have hlt : beVal ((r.got 8).take j) < 2 ^ 56 := Nat.lt_of_lt_of_le (beVal_lt _) (by
      rw [List.length_take]
      exact Nat.le_trans (Nat.pow_le_pow_right (by omega) (show min j (r.got 8).length ≤ 7 by omega)) (by decide))
    have hb := byte_i64 (beVal ((r.got 8).take j)) (r.got 8)[j] hlt
    have hi : IntKind.i64.wrap (beVal ((r.got 8).take j) : Nat) = (beVal ((r.got 8).take j) : Nat) := w64_id (by omega)
    rw [← beVal_take_succ _ _ hj] at hb
    simp [rfM, hj, hw, hi, hb]
    exact ⟨(), _, Weak.refl _, trivial⟩
  · intro _ c _
    simp [rfM]
    refine post_end (.inr rfl) ?_
    simp [Rd.num, Rd.num']

theorem rtext_meets {G : Nat → Option AV} (r : Rd) (mx : Int) : Meets Try.prog G fn_r01_Reader_Text [.ptr 1000 0 0, .v (.int .i64 mx)] (rfM r) true (.v (.string (mkS (r.text mx)))) (rfM (r.text' mx)) := by
  refine meets_of_go mix k_r01_Reader_Text ⟨by simp [rfM], by simp, by simp [rfM]⟩ ?_
  simp
  refine call_intro (rtake_meets r 4) ?_ ?_
  · simp [rfM]
  simp [rfM]
  refine go_up (r.got 4).length (fun _ _ => True) (fun j (_ : Unit) c => ⟨[(0, .ptr 1000 0 0), (1, .v (.int .i64 mx)), (5, .v (.string (mkS (r.got 4)))), (6, .v (.int .i64 (beVal ((r.got 4).take j) : Nat))), (7, .v (.int .i64 (j : Nat)))], rfM (r.skip 4), c⟩)
    () _ (Weak.refl _) trivial ?_ ?_
  · intro j _ c hj _
    have h8 : (r.got 4).length ≤ 4 := r.got_le 4
    have hw : IntKind.i64.wrap ((j : Int) + 1) = ((j + 1 : Nat) : Int) := w64_succ (by omega)
    have hlt : beVal ((r.got 4).take j) < 2 ^ 24 := Nat.lt_of_lt_of_le (beVal_lt _) (by
      rw [List.length_take]
      exact Nat.le_trans (Nat.pow_le_pow_right (by omega) (show min j (r.got 4).length ≤ 3 by omega)) (by decide))
    have hu := (r.got 4)[j].toNat_lt
    have hb : IntKind.i64.wrap (IntKind.i64.wrap ((beVal ((r.got 4).take j) : Nat) * 256) + IntKind.i64.wrap ((r.got 4)[j].toNat : Int)) = ((beVal ((r.got 4).take (j + 1)) : Nat) : Int) := by
      rw [beVal_take_succ _ _ hj, w64_id (n := ((r.got 4)[j].toNat : Int)) (by omega), w64_id (n := (beVal ((r.got 4).take j) : Int) * 256) (by omega), w64_id (by omega)]
      omega
    simp [rfM, hj, hw, hb]
    exact ⟨(), _, Weak.refl _, trivial⟩
  · intro _ c _
    by_cases hm : mx < (beVal (r.got 4) : Int)
    · have hl : r.len mx = -1 := by simp [Rd.len, hm]
      simp [rfM, hm]
      refine call_intro (rtake_meets (r.skip 4) (-1)) ?_ ?_
      · simp [rfM]
      simp [rfM]
      refine post_end (.inr rfl) ?_
      simp [Rd.text, Rd.text', hl]
    · have hl : r.len mx = beVal (r.got 4) := by simp [Rd.len, hm]
      simp [rfM, hm]
      refine call_intro (rtake_meets (r.skip 4) (beVal (r.got 4) : Nat)) ?_ ?_
      · simp [rfM]
      simp [rfM]
      refine post_end (.inr rfl) ?_
      simp [Rd.text, Rd.text', hl]

theorem rdigest_meets {G : Nat → Option AV} (r : Rd) : Meets Try.prog G fn_r01_Reader_Digest [.ptr 1000 0 0] (rfM r) true (dv r.dg) (rfM r.dg') := by
  refine meets_of_go mix k_r01_Reader_Digest ⟨by simp [rfM], by simp, by simp [rfM]⟩ ?_
  simp
  refine call_intro (rtake_meets r 32) ?_ ?_
  · simp [rfM]
  simp [rfM]
  have h8 : (r.got 32).length ≤ 32 := r.got_le 32
  refine go_up (r.got 32).length (fun j (x : Bytes) => x = (r.got 32).take j ++ zeros (32 - j)) (fun j (x : Bytes) c => ⟨[(2, .ptr 2 2 0), (3, .ptr 3 3 0), (4, .v (.string (mkS (r.got 32)))), (5, .v (.int .i64 (j : Nat)))],
    [(2, .var 2 (.arr 1 (B (zeros 32)))), (3, .var 3 (.arr 1 (B x))), (1000, .var 0 (.node [.v (.string (mkS (r.skip 32).s)), .v (.bool (r.skip 32).bad)]))], c⟩) (zeros 32) _ (Weak.refl _) (by simp) ?_ ?_
  · intro j x c hj hx
    have hw : IntKind.i64.wrap ((j : Int) + 1) = ((j + 1 : Nat) : Int) := w64_succ (by omega)
    have hl : x.length = 32 := by rw [hx]; simp; omega
    have hjx : j < x.length := by omega
    have hs : x.set j (r.got 32)[j] = (r.got 32).take (j + 1) ++ zeros (32 - (j + 1)) := by
      rw [hx]
      exact fill_zeros _ 32 j hj h8
    have hj32 : (j : Int) < 32 := by omega
    have hjn : j < 32 := by omega
    simp [hj, hw, hl, hjx, hj32, hjn, B_set, Nat.mod_one]
    exact ⟨_, _, Weak.refl _, hs⟩
  · intro x c hx
    have hl : x.length = 32 := by rw [hx]; simp; omega
    have hd : x = r.dg.bs := by rw [hx]; simp [Rd.dg_bs]
    subst hd
    simp [hl]
    refine post_end (.inr rfl) ?_
    simp [hl, Rd.dg']

theorem rin_meets {G : Nat → Option AV} (r : Rd) (lo hi : Int) : Meets Try.prog G fn_r01_Reader_In [.ptr 1000 0 0, .v (.int .i64 lo), .v (.int .i64 hi)] (rfM r) true (.v (.int .i64 (r.inn lo hi))) (rfM (r.inn' lo hi)) := by
  refine meets_of_go mix k_r01_Reader_In ⟨by simp [rfM], by simp, by simp [rfM]⟩ ?_
  simp
  refine call_intro (rnum_meets r) ?_ ?_
  · simp [rfM]
  have hf : r.num'.skip (-1) = Rd.fault := by simp [Rd.skip, Rd.ok]
  have kk : (r.num'.bad = false ∧ lo ≤ r.num ∧ r.num ≤ hi) ∨ r.num'.bad = true ∨ (r.num'.bad = false ∧ r.num < lo) ∨ (r.num'.bad = false ∧ ¬ r.num < lo ∧ hi < r.num) := by
    cases r.num'.bad
    · simp; omega
    · simp
  rcases kk with ⟨hb, h1, h2⟩ | hb | ⟨hb, h1⟩ | ⟨hb, h1, h2⟩
  · have h3 : ¬ r.num < lo := by omega
    have h4 : ¬ hi < r.num := by omega
    simp [rfM, h3, h4, hb]
    refine post_end (.inr rfl) ?_
    simp [Rd.inn, Rd.inn', Rd.inOk, h1, h2, hb]
  · simp [rfM, hb]
    refine call_intro (rtake_meets r.num' (-1)) ?_ ?_
    · simp [rfM, hb]
    simp [rfM, hf]
    refine post_end (.inr rfl) ?_
    simp [Rd.inn, Rd.inn', Rd.inOk, hb]
  · simp [rfM, h1, hb]
    refine call_intro (rtake_meets r.num' (-1)) ?_ ?_
    · simp [rfM, hb]
    simp [rfM, hf]
    refine post_end (.inr rfl) ?_
    have h3 : ¬ lo ≤ r.num := by omega
    simp [Rd.inn, Rd.inn', Rd.inOk, h3]
  · simp [rfM, h1, h2, hb]
    refine call_intro (rtake_meets r.num' (-1)) ?_ ?_
    · simp [rfM, hb]
    simp [rfM, hf]
    refine post_end (.inr rfl) ?_
    have h3 : ¬ r.num ≤ hi := by omega
    simp [Rd.inn, Rd.inn', Rd.inOk, h3]

theorem rgood_meets {G : Nat → Option AV} (r : Rd) : Meets Try.prog G fn_r01_Reader_Good [.ptr 1000 0 0] (rfM r) true (.v (.bool !r.bad)) (rfM r) := by
  refine meets_of_go mix k_r01_Reader_Good ⟨by simp [rfM], by simp, by simp [rfM]⟩ ?_
  simp [rfM]
  refine post_end (.inr rfl) ?_
  simp

theorem rend_meets {G : Nat → Option AV} (r : Rd) : Meets Try.prog G fn_r01_Reader_End [.ptr 1000 0 0] (rfM r) true (.v (.bool r.done)) (rfM r) := by
  refine meets_of_go mix k_r01_Reader_End ⟨by simp [rfM], by simp, by simp [rfM]⟩ ?_
  cases hb : r.bad
  · simp [rfM, hb]
    refine post_end (.inr rfl) ?_
    simp [Rd.done, hb, isEmpty_dec]
  · simp [rfM, hb]
    refine post_end (.inr rfl) ?_
    simp [Rd.done, hb]
end Go.Proofs.Ytglkfbhjimnboaa.WL

end
section
/-
  CHAPTER 01: contracts of the reference's writing.
-/
namespace Go.Proofs.Ytglkfbhjimnboaa.WL
open Go
set_option maxHeartbeats 4000000

theorem be8_set (n : Int) (j : Nat) (h : j < 8) : (zeros (8 - j) ++ (be8 n).drop (8 - j)).set (7 - j) (u8 (n.fdiv (2 ^ (8 * j)))) = zeros (8 - (j + 1)) ++ (be8 n).drop (8 - (j + 1)) := by
  rw [Int.fdiv_eq_ediv_of_nonneg _ (Int.le_of_lt (Int.pow_pos (by decide)))]
  match j, h with
  | 0, _ => simp [be8, zeros]
  | 1, _ => simp [be8, zeros]
  | 2, _ => simp [be8, zeros]
  | 3, _ => simp [be8, zeros]
  | 4, _ => simp [be8, zeros]
  | 5, _ => simp [be8, zeros]
  | 6, _ => simp [be8, zeros]
  | 7, _ => simp [be8, zeros]

end Go.Proofs.Ytglkfbhjimnboaa.WL

end
section
/-
  CHAPTER 09: contracts of requests.
-/
namespace Go.Proofs.Ytglkfbhjimnboaa.WL
open Go
set_option maxHeartbeats 4000000
variable {G : Nat → Option AV}

theorem I64_3 (a b c : Int) : [AV.v (.int .i64 a), .v (.int .i64 b), .v (.int .i64 c)] = I64 [a, b, c] := (rfl)
theorem I64_4 (a b c d : Int) : [AV.v (.int .i64 a), .v (.int .i64 b), .v (.int .i64 c), .v (.int .i64 d)] = I64 [a, b, c, d] := (rfl)
theorem Strs_3 (a b c : Bytes) : [AV.v (.string (mkS a)), .v (.string (mkS b)), .v (.string (mkS c))] = Strs [a, b, c] := (rfl)
theorem Dgs_1 (a : Dg) : [AV.arr 1 (B a.bs)] = Dgs [a] := (rfl)
theorem flatD_1 (a : Dg) : flatD [a] = a.bs := by simp [flatD]

theorem qwrite_meets (bs : Bytes) (q : Req) (h : bs.length + q.bytes.length ≤ 60000000) : Meets Try.prog G fn_request_Write [.ptr 1000 0 0, q.av] (wrM 0 bs) true (.tup []) (wrM 1 (bs ++ q.bytes)) := by
  refine meets_of_go mix k_request_Write ⟨by simp [wrM], by simp, by simp [wrM]⟩ ?_
  have hl := Req.bytes_len q
  have n1 := nums_length [q.client, q.num, q.kind]
  have n2 : (txts [q.key, q.val, q.old]).length = 12 + (q.key.length + q.val.length + q.old.length) := by simp [txts]; omega
  have n3 := nums_length [q.ch.kind, q.ch.id, q.ch.new, q.ch.height]
  have hb : q.bytes = nums [q.client, q.num, q.kind] ++ (txts [q.key, q.val, q.old] ++ (nums [q.ch.kind, q.ch.id, q.ch.new, q.ch.height] ++ q.ch.root.bs)) := rfl
  rw [hb]
  simp only [List.length_cons, List.length_nil] at n1 n3
  have m1 := wnum_meets (G := G) bs [q.client, q.num, q.kind] (by simp; omega)
  generalize nums [q.client, q.num, q.kind] = x1 at *
  have m2 := wtext_meets (G := G) (bs ++ x1) [q.key, q.val, q.old] (by rw [List.length_append]; omega) (by simp)
  generalize txts [q.key, q.val, q.old] = x2 at *
  have m3 := wnum_meets (G := G) (bs ++ x1 ++ x2) [q.ch.kind, q.ch.id, q.ch.new, q.ch.height] (by simp only [List.length_append, List.length_cons, List.length_nil]; omega)
  generalize nums [q.ch.kind, q.ch.id, q.ch.new, q.ch.height] = x3 at *
  have m4 := wdigest_meets (G := G) (bs ++ x1 ++ x2 ++ x3) [q.ch.root] (by simp only [List.length_append, List.length_cons, List.length_nil]; omega)
  rw [flatD_1] at m4
  have e : bs ++ (x1 ++ (x2 ++ (x3 ++ q.ch.root.bs))) = bs ++ x1 ++ x2 ++ x3 ++ q.ch.root.bs := by simp
  rw [e]
  generalize bs ++ x1 ++ x2 ++ x3 ++ q.ch.root.bs = y4 at *
  generalize bs ++ x1 ++ x2 ++ x3 = y3 at *
  generalize bs ++ x1 ++ x2 = y2 at *
  generalize bs ++ x1 = y1 at *
  simp [Req.av, Chg.av, wrM]
  refine call_intro m1 ?_ ?_
  · simp [wrM, I64_3]
  simp [wrM, I64_3]
  refine call_intro m2 ?_ ?_
  · simp [wrM, Strs_3]
  simp [wrM, Strs_3]
  refine call_intro m3 ?_ ?_
  · simp [wrM, I64_4]
  simp [wrM, I64_4]
  refine call_intro m4 ?_ ?_
  · simp [wrM, Dgs_1]
  simp [wrM, Dgs_1]
  refine post_end (.inl rfl) ?_
  simp

theorem qread_meets (r : Rd) : Meets Try.prog G fn_request_Read [.ptr 1000 0 0] (rdM 0 r) true r.req.av (rdM 1 r.req') := by
  refine meets_of_go mix k_request_Read ⟨by simp [rdM], by simp [Req.av, Chg.av], by simp [rdM]⟩ ?_
  unfold Rd.req Rd.req0 Rd.req' Rd.q10 Rd.q9 Rd.q8 Rd.q7 Rd.q6 Rd.q5 Rd.q4 Rd.q3 Rd.q2 Rd.q1
  have m1 := in_meets (G := G) r 1 64
  generalize r.inn' 1 64 = r1 at *
  have m2 := in_meets (G := G) r1 1 1099511627776
  generalize r1.inn' 1 1099511627776 = r2 at *
  have m3 := in_meets (G := G) r2 1 7
  generalize r2.inn' 1 7 = r3 at *
  have m4 := text_meets (G := G) r3 1024
  generalize r3.text' 1024 = r4 at *
  have m5 := text_meets (G := G) r4 1024
  generalize r4.text' 1024 = r5 at *
  have m6 := text_meets (G := G) r5 1024
  generalize r5.text' 1024 = r6 at *
  have m7 := num_meets (G := G) r6
  generalize r6.num' = r7 at *
  have m8 := num_meets (G := G) r7
  generalize r7.num' = r8 at *
  have m9 := num_meets (G := G) r8
  generalize r8.num' = r9 at *
  have m10 := num_meets (G := G) r9
  generalize r9.num' = r10 at *
  have m11 := digest_meets (G := G) r10
  generalize r10.dg' = r11 at *
  have m12 := good_meets (G := G) r11
  simp [rdM]
  refine call_intro m1 ?_ ?_
  · simp [rdM]
  simp [rdM]
  refine call_intro m2 ?_ ?_
  · simp [rdM]
  simp [rdM]
  refine call_intro m3 ?_ ?_
  · simp [rdM]
  simp [rdM]
  refine call_intro m4 ?_ ?_
  · simp [rdM]
  simp [rdM]
  refine call_intro m5 ?_ ?_
  · simp [rdM]
  simp [rdM]
  refine call_intro m6 ?_ ?_
  · simp [rdM]
  simp [rdM]
  refine call_intro m7 ?_ ?_
  · simp [rdM]
  simp [rdM]
  refine call_intro m8 ?_ ?_
  · simp [rdM]
  simp [rdM]
  refine call_intro m9 ?_ ?_
  · simp [rdM]
  simp [rdM]
  refine call_intro m10 ?_ ?_
  · simp [rdM]
  simp [rdM]
  refine call_intro m11 ?_ ?_
  · simp [rdM]
  simp [rdM]
  refine call_intro m12 ?_ ?_
  · simp [rdM]
  cases hb : r11.bad
  · simp [rdM, hb]
    refine post_end (.inr rfl) ?_
    simp [Req.av, Chg.av]
  · simp [rdM, hb]
    refine post_end (.inr rfl) ?_
    simp [Req.av, Chg.av, Req.zero, Chg.zero]
end Go.Proofs.Ytglkfbhjimnboaa.WL

end
section
/-
  CHAPTER 09: contracts of replies; the reference.
-/
namespace Go.Proofs.Ytglkfbhjimnboaa.WL
open Go
set_option maxHeartbeats 4000000
variable {G : Nat → Option AV}

theorem qwrep_meets (bs : Bytes) (a : Rep) (h : bs.length + a.bytes.length ≤ 60000000) (hn : a.vals.length ≤ 1000000) : Meets Try.prog G fn_request_WriteReply [.ptr 1000 0 0, a.avS] (wrM 0 bs) true (.tup []) (wrM 1 (bs ++ a.bytes)) := by
  refine meets_of_go mix k_request_WriteReply ⟨by simp [wrM], by simp, by simp [wrM]⟩ ?_
  have hb : a.bytes = nums [a.client, a.num, a.code, (a.vals.length : Int)] ++ txts a.vals := rfl
  rw [hb] at h ⊢
  rw [List.length_append] at h
  have n1 := nums_length [a.client, a.num, a.code, (a.vals.length : Int)]
  have m1 := wnum_meets (G := G) bs [a.client, a.num, a.code, (a.vals.length : Int)] (by simp; omega)
  generalize nums [a.client, a.num, a.code, (a.vals.length : Int)] = x1 at *
  have m2 := wtext_meets (G := G) (bs ++ x1) a.vals (by rw [List.length_append]; omega) (by omega)
  generalize txts a.vals = x2 at *
  rw [← List.append_assoc]
  generalize bs ++ x1 ++ x2 = y2 at *
  generalize bs ++ x1 = y1 at *
  simp [Rep.avS, wrM]
  refine call_intro m1 ?_ ?_
  · simp [wrM, I64_4]
  simp [wrM, I64_4]
  refine call_intro m2 ?_ ?_
  · simp [wrM]
  simp [wrM]
  refine post_end (.inl rfl) ?_
  simp

theorem qrrep_meets (r : Rd) : Meets Try.prog G fn_request_ReadReply [.ptr 1000 0 0] (rdM 0 r) true (r.rep.avR 3000 1) (rdM 1 r.rep' ++ [(3000, .rows 1 1 (Strs r.rep.vals))]) := by
  refine meets_of_go mix k_request_ReadReply ⟨by simp [rdM], by simp [rdM, Rep.avR], by simp [rdM]⟩ ?_
  obtain ⟨hN, hN2⟩ := r.repN_eq
  have hrep : r.rep = if (r.p4.tx' r.repN).bad = true then Rep.zero else ⟨r.inn 1 64, r.p1.inn 1 1099511627776, r.p2.inn 0 1024, r.p4.tx r.repN⟩ := rfl
  have hrep' : r.rep' = r.p4.tx' r.repN := rfl
  rw [hrep, hrep']
  generalize r.repN = N at *
  unfold Rd.p4 Rd.p3 Rd.p2 Rd.p1 at *
  have m1 := in_meets (G := G) r 1 64
  generalize r.inn' 1 64 = r1 at *
  have m2 := in_meets (G := G) r1 1 1099511627776
  generalize r1.inn' 1 1099511627776 = r2 at *
  have m3 := in_meets (G := G) r2 0 1024
  generalize r2.inn' 0 1024 = r3 at *
  have m4 := in_meets (G := G) r3 0 256
  rw [← hN] at m4
  generalize r3.inn' 0 256 = r4 at *
  generalize r.inn 1 64 = a1 at *
  generalize r1.inn 1 1099511627776 = a2 at *
  generalize r2.inn 0 1024 = a3 at *
  simp [rdM]
  refine call_intro m1 ?_ ?_
  · simp [rdM]
  simp [rdM]
  refine call_intro m2 ?_ ?_
  · simp [rdM]
  simp [rdM]
  refine call_intro m3 ?_ ?_
  · simp [rdM]
  simp [rdM]
  refine call_intro m4 ?_ ?_
  · simp [rdM]
  simp [rdM]
  refine go_up N (fun j (_ : Unit) => True) (fun j _ c => ⟨[(0, .ptr 1000 0 0), (2, .ptr 2 c 0), (3, .ptr 3 c 0), (12, .v (.int .i64 (N : Nat))), (13, .v (.int .i64 (j : Nat)))],
    [(2, .var c (.node [.v (.int .i64 0), .v (.int .i64 0), .v (.int .i64 0), .v (.slice none 0 0)])), (3, .var c (.node [.v (.int .i64 a1), .v (.int .i64 a2), .v (.int .i64 a3), .row 20 1 c 0 j])), (20, .rows c 1 (Strs (r4.tx j))),
     (1000, .var 0 (.node [.row 2000 1 c (r4.tx' j).pre.length (r4.tx' j).s.length, .v (.bool (r4.tx' j).bad)])), (2000, .rows c 1 (B ((r4.tx' j).pre ++ (r4.tx' j).s)))], c + 1⟩) () _ (Weak.re0 1000 (by simp [Rd.tx, Rd.tx'])) trivial ?_ ?_
  · intro j _ c hj _
    have hw : IntKind.i64.wrap ((j : Int) + 1) = ((j + 1 : Nat) : Int) := w64_succ (by omega)
    have f1 : fitsB (j + 1) 16 := fits (by omega) (by omega)
    have e1 : r4.tx (j + 1) = r4.tx j ++ [(r4.tx' j).text 1024] := rfl
    have e2 : r4.tx' (j + 1) = (r4.tx' j).text' 1024 := rfl
    have hl := r4.tx_length j
    generalize r4.tx j = x at *
    generalize r4.tx' j = q at *
    have m5 := text_meets (G := G) q 1024
    generalize q.text' 1024 = q' at *
    generalize q.text 1024 = t at *
    have hS : Strs x ++ [AV.v (.string (mkS t))] = Strs (x ++ [t]) := by simp [Strs]
    simp [hj, rdM]
    refine call_intro m5 ?_ ?_
    · simp [rdM]
    simp [rdM, f1, hl, hw, hS]
    exact ⟨(), _, Weak.re0 1000 (by simp [e1, e2]), trivial⟩
  · intro _ c _
    have hl := r4.tx_length N
    generalize r4.tx N = x at *
    generalize r4.tx' N = q at *
    have m6 := good_meets (G := G) q
    simp [rdM]
    refine call_intro m6 ?_ ?_
    · simp [rdM]
    cases hb : q.bad
    · simp [rdM, hb]
      refine post_end (.inr rfl) ?_
      simp [Rep.avR, hl, hb]
    · simp [rdM, hb]
      refine post_end (.inr rfl) ?_
      simp [Rep.avR, Rep.zero, hb]

/-! The reference. -/
theorem rqread_meets (r : Rd) : Meets Try.prog G fn_r09_Read [.ptr 1000 0 0] (rfM r) true r.req.av (rfM r.req') := by
  refine meets_of_go mix k_r09_Read ⟨by simp [rfM], by simp [Req.av, Chg.av], by simp [rfM]⟩ ?_
  unfold Rd.req Rd.req0 Rd.req' Rd.q10 Rd.q9 Rd.q8 Rd.q7 Rd.q6 Rd.q5 Rd.q4 Rd.q3 Rd.q2 Rd.q1
  have m1 := rin_meets (G := G) r 1 64
  generalize r.inn' 1 64 = r1 at *
  have m2 := rin_meets (G := G) r1 1 1099511627776
  generalize r1.inn' 1 1099511627776 = r2 at *
  have m3 := rin_meets (G := G) r2 1 7
  generalize r2.inn' 1 7 = r3 at *
  have m4 := rtext_meets (G := G) r3 1024
  generalize r3.text' 1024 = r4 at *
  have m5 := rtext_meets (G := G) r4 1024
  generalize r4.text' 1024 = r5 at *
  have m6 := rtext_meets (G := G) r5 1024
  generalize r5.text' 1024 = r6 at *
  have m7 := rnum_meets (G := G) r6
  generalize r6.num' = r7 at *
  have m8 := rnum_meets (G := G) r7
  generalize r7.num' = r8 at *
  have m9 := rnum_meets (G := G) r8
  generalize r8.num' = r9 at *
  have m10 := rnum_meets (G := G) r9
  generalize r9.num' = r10 at *
  have m11 := rdigest_meets (G := G) r10
  generalize r10.dg' = r11 at *
  have m12 := rgood_meets (G := G) r11
  simp [rfM]
  refine call_intro m1 ?_ ?_
  · simp [rfM]
  simp [rfM]
  refine call_intro m2 ?_ ?_
  · simp [rfM]
  simp [rfM]
  refine call_intro m3 ?_ ?_
  · simp [rfM]
  simp [rfM]
  refine call_intro m4 ?_ ?_
  · simp [rfM]
  simp [rfM]
  refine call_intro m5 ?_ ?_
  · simp [rfM]
  simp [rfM]
  refine call_intro m6 ?_ ?_
  · simp [rfM]
  simp [rfM]
  refine call_intro m7 ?_ ?_
  · simp [rfM]
  simp [rfM]
  refine call_intro m8 ?_ ?_
  · simp [rfM]
  simp [rfM]
  refine call_intro m9 ?_ ?_
  · simp [rfM]
  simp [rfM]
  refine call_intro m10 ?_ ?_
  · simp [rfM]
  simp [rfM]
  refine call_intro m11 ?_ ?_
  · simp [rfM]
  simp [rfM]
  refine call_intro m12 ?_ ?_
  · simp [rfM]
  cases hb : r11.bad
  · simp [rfM, hb]
    refine post_end (.inr rfl) ?_
    simp [Req.av, Chg.av]
  · simp [rfM, hb]
    refine post_end (.inr rfl) ?_
    simp [Req.av, Chg.av, Req.zero, Chg.zero]

theorem rqtexts_meets (a b : List Bytes) (ha : a.length ≤ 1000000000) : Meets Try.prog G fn_r09_Texts [.sl 1 (Strs a), .sl 1 (Strs b)] [] true (.v (.bool (decide (a = b)))) [] := by
  refine meets_of_go mix k_r09_Texts ⟨by simp, by simp, by simp⟩ ?_
  have st : ∀ (j : Nat) (h1 : j < a.length) (h2 : j < b.length), a.take j = b.take j → a[j] = b[j] → a.take (j + 1) = b.take (j + 1) := by
    intro j h1 h2 h h3
    rw [take_snoc _ _ h1, take_snoc _ _ h2, h, h3]
  by_cases hl : a.length = b.length
  · simp [hl]
    refine go_up a.length (fun j (_ : Unit) => a.take j = b.take j) (fun j (_ : Unit) c => ⟨[(0, .sl 1 (Strs a)), (1, .sl 1 (Strs b)), (12, .v (.int .i64 (b.length : Nat))), (13, .v (.int .i64 (j : Nat)))], [], c⟩) () _ (Weak.refl _) (by simp) ?_ ?_
    · intro j _ c hj hx
      have hw : IntKind.i64.wrap ((j : Int) + 1) = ((j + 1 : Nat) : Int) := w64_succ (by omega)
      have hj2 : j < b.length := by omega
      by_cases he : a[j] = b[j]
      · simp [hj, hj2, he, hw]
        exact ⟨(), _, Weak.refl _, st j hj hj2 hx he⟩
      · have hne : ¬ a = b := by intro e; subst e; exact he rfl
        have hq : (a[j] == b[j]) = false := beq_eq_false_iff_ne.2 he
        simp [hj, hj2, hq, hw]
        refine post_end (.inr rfl) ?_
        simp [hne]
    · intro _ c hx
      have he : a = b := by rw [List.take_length, hl, List.take_length] at hx; exact hx
      simp [hl]
      refine post_end (.inr rfl) ?_
      simp [he]
  · have hne : ¬ a = b := by intro e; subst e; exact hl rfl
    have c1 : ¬ (a.length : Int) = (b.length : Nat) := by omega
    simp [hl, c1]
    refine post_end (.inr rfl) ?_
    simp [hne]

def Rep.same (a b : Rep) : Bool := decide (a.client = b.client) && decide (a.num = b.num) && decide (a.code = b.code) && decide (a.vals = b.vals)
theorem rqsame_meets (a b : Rep) (ha : a.vals.length ≤ 1000000000) : Meets Try.prog G fn_r09_Same [a.avS, b.avS] [] true (.v (.bool (a.same b))) [] := by
  refine meets_of_go mix k_r09_Same ⟨by simp, by simp, by simp⟩ ?_
  unfold Rep.same
  by_cases c1 : a.client = b.client
  · by_cases c2 : a.num = b.num
    · by_cases c3 : a.code = b.code
      · simp [Rep.avS, c1, c2, c3]
        refine call_intro (rqtexts_meets a.vals b.vals ha) ?_ ?_
        · simp
        simp
        refine post_end (.inr rfl) ?_
        simp
      · simp [Rep.avS, c1, c2, c3]
        refine post_end (.inr rfl) ?_
        simp
    · simp [Rep.avS, c1, c2]
      refine post_end (.inr rfl) ?_
      simp
  · simp [Rep.avS, c1]
    refine post_end (.inr rfl) ?_
    simp
end Go.Proofs.Ytglkfbhjimnboaa.WL

end
section
/-
  CHAPTER 12: contracts of blocks.
-/
namespace Go.Proofs.Ytglkfbhjimnboaa.WL
open Go
set_option maxHeartbeats 4000000
variable {G : Nat → Option AV}

theorem Dgs_3 (a b c : Dg) : [AV.arr 1 (B a.bs), .arr 1 (B b.bs), .arr 1 (B c.bs)] = Dgs [a, b, c] := (rfl)
theorem bwrite_meets (bs : Bytes) (b : Blk) (h : bs.length + b.bytes.length ≤ 60000000) (hn : b.qs.length ≤ 1000000) : Meets Try.prog G fn_block_Write [.ptr 1000 0 0, b.avS] (wrM 0 bs) true (.tup []) (wrM 1 (bs ++ b.bytes)) := by
  refine meets_of_go mix k_block_Write ⟨by simp [wrM], by simp, by simp [wrM]⟩ ?_
  have hlen := b.bytes_len
  have hhl := b.head_len
  have hb : bs ++ b.bytes = bs ++ nums [b.epoch, b.height] ++ flatD [b.prev, b.state, b.next] ++ nums [(b.qs.length : Int)] ++ reqsB b.qs := by simp [Blk.bytes, Blk.head]
  have n1 := nums_length [b.epoch, b.height]
  have n2 := nums_length [(b.qs.length : Int)]
  have n3 : (flatD [b.prev, b.state, b.next]).length = 96 := by simp [flatD]
  simp only [List.length_cons, List.length_nil] at n1 n2
  have m1 := wnum_meets (G := G) bs [b.epoch, b.height] (by simp; omega)
  have m2 := wdigest_meets (G := G) (bs ++ nums [b.epoch, b.height]) [b.prev, b.state, b.next] (by rw [List.length_append]; simp; omega)
  have m3 := wnum_meets (G := G) (bs ++ nums [b.epoch, b.height] ++ flatD [b.prev, b.state, b.next]) [(b.qs.length : Int)] (by simp only [List.length_append]; simp; omega)
  have hl3 : (bs ++ nums [b.epoch, b.height] ++ flatD [b.prev, b.state, b.next] ++ nums [(b.qs.length : Int)]).length = bs.length + 120 := by simp only [List.length_append]; omega
  rw [hb]
  generalize bs ++ nums [b.epoch, b.height] ++ flatD [b.prev, b.state, b.next] ++ nums [(b.qs.length : Int)] = y3 at *
  generalize bs ++ nums [b.epoch, b.height] ++ flatD [b.prev, b.state, b.next] = y2 at *
  generalize bs ++ nums [b.epoch, b.height] = y1 at *
  generalize hqs : b.qs = qs at *
  have hI1 : [AV.v (.int .i64 (qs.length : Nat))] = I64 [(qs.length : Int)] := rfl
  simp [Blk.avS, wrM, hqs]
  refine call_intro m1 ?_ ?_
  · simp [wrM, I64_2]
  simp [wrM, I64_2]
  refine call_intro m2 ?_ ?_
  · simp [wrM, Dgs_3, dv]
  simp [wrM, Dgs_3, dv]
  refine call_intro m3 ?_ ?_
  · simp [wrM, hI1]
  simp [wrM, hI1]
  obtain ⟨F, hF⟩ : ∃ F : Nat → Bytes, ∀ i, F i = y3 ++ reqsB (qs.take i) := ⟨_, fun _ => rfl⟩
  have hF0 : y3 = F 0 := by rw [hF]; simp [reqsB]
  have hFN : y3 ++ reqsB qs = F qs.length := by rw [hF, List.take_length]
  have hFl : (F qs.length).length = (F 0).length + (reqsB qs).length := by rw [← hFN, ← hF0, List.length_append]
  rw [hFN]
  simp only [hF0]
  refine go_up qs.length (fun j (_ : Unit) => True) (fun j _ c => ⟨[(0, .ptr 1000 0 0), (29, .sl 42 (Reqs qs)), (30, .v (.int .i64 (qs.length : Nat))), (31, .v (.int .i64 (j : Nat)))], [(1000, .var 0 (.node [.row 2000 1 c 0 (F j).length])), (2000, .rows c 1 (B (F j)))], c + 1⟩) () _ (Weak.re0 1000 (by simp)) trivial ?_ ?_
  · intro j _ c hj _
    have hw : IntKind.i64.wrap ((j : Int) + 1) = ((j + 1 : Nat) : Int) := w64_succ (by omega)
    have hle := reqsB_take_le qs (j + 1)
    rw [reqsB_take qs j hj, List.length_append] at hle
    have hFj : (F j).length = y3.length + (reqsB (qs.take j)).length := by rw [hF, List.length_append]
    have hFs : F j ++ qs[j].bytes = F (j + 1) := by rw [hF, hF, reqsB_take qs j hj, List.append_assoc]
    have m4 := qwrite_meets (G := G) (F j) qs[j] (by omega)
    rw [hFs] at m4
    simp [hj, Req.av, Chg.av]
    refine call_intro m4 ?_ ?_
    · simp [wrM, Req.av, Chg.av]
    simp [wrM, hw, Req.av, Chg.av]
    exact ⟨(), _, Weak.re0 1000 (by simp), trivial⟩
  · intro _ c _
    simp
    refine post_end (.inl rfl) ?_
    simp [hFl]
end Go.Proofs.Ytglkfbhjimnboaa.WL

end
section
/-
  CHAPTER 09: contracts of the reference: reading replies.
-/
namespace Go.Proofs.Ytglkfbhjimnboaa.WL
open Go
set_option maxHeartbeats 4000000
variable {G : Nat → Option AV}

theorem rqrrep_meets (r : Rd) : Meets Try.prog G fn_r09_ReadReply [.ptr 1000 0 0] (rfM r) true (r.rep.avR 3000 1) (rfM r.rep' ++ [(3000, .rows 1 1 (Strs r.rep.vals))]) := by
  refine meets_of_go mix k_r09_ReadReply ⟨by simp [rfM], by simp [rfM, Rep.avR], by simp [rfM]⟩ ?_
  obtain ⟨hN, hN2⟩ := r.repN_eq
  have hsane : ∀ n, (r.p4.tx' n).sane := r.p4.tx_sane (Rd.inn_sane _ _ _)
  have hrep : r.rep = if (r.p4.tx' r.repN).bad = true then Rep.zero else ⟨r.inn 1 64, r.p1.inn 1 1099511627776, r.p2.inn 0 1024, r.p4.tx r.repN⟩ := rfl
  have hrep' : r.rep' = r.p4.tx' r.repN := rfl
  rw [hrep, hrep']
  generalize r.repN = N at *
  unfold Rd.p4 Rd.p3 Rd.p2 Rd.p1 at *
  have m1 := rin_meets (G := G) r 1 64
  generalize r.inn' 1 64 = r1 at *
  have m2 := rin_meets (G := G) r1 1 1099511627776
  generalize r1.inn' 1 1099511627776 = r2 at *
  have m3 := rin_meets (G := G) r2 0 1024
  generalize r2.inn' 0 1024 = r3 at *
  have m4 := rin_meets (G := G) r3 0 256
  rw [← hN] at m4
  generalize r3.inn' 0 256 = r4 at *
  generalize r.inn 1 64 = a1 at *
  generalize r1.inn 1 1099511627776 = a2 at *
  generalize r2.inn 0 1024 = a3 at *
  simp [rfM]
  refine call_intro m1 ?_ ?_
  · simp [rfM]
  simp [rfM]
  refine call_intro m2 ?_ ?_
  · simp [rfM]
  simp [rfM]
  refine call_intro m3 ?_ ?_
  · simp [rfM]
  simp [rfM]
  refine call_intro m4 ?_ ?_
  · simp [rfM]
  simp [rfM]
  refine go_up N (fun j (_ : Unit) => True) (fun j _ c => ⟨[(0, .ptr 1000 0 0), (2, .ptr 2 c 0), (3, .ptr 3 c 0), (4, .v (.int .i64 (N : Nat))), (5, .v (.int .i64 (j : Nat)))],
    [(2, .var c (.node [.v (.int .i64 0), .v (.int .i64 0), .v (.int .i64 0), .v (.slice none 0 0)])), (3, .var c (.node [.v (.int .i64 a1), .v (.int .i64 a2), .v (.int .i64 a3), .row 31 1 c 0 j])), (31, .rows c 1 (Strs (r4.tx j))),
     (1000, .var 0 (.node [.v (.string (mkS (r4.tx' j).s)), .v (.bool (r4.tx' j).bad)]))], c + 1⟩) () _ (Weak.re0 1000 (by simp [Rd.tx, Rd.tx'])) trivial ?_ ?_
  · intro j _ c hj _
    have hw : IntKind.i64.wrap ((j : Int) + 1) = ((j + 1 : Nat) : Int) := w64_succ (by omega)
    have f1 : fitsB (j + 1) 16 := fits (by omega) (by omega)
    have e1 : r4.tx (j + 1) = r4.tx j ++ [(r4.tx' j).text 1024] := rfl
    have e2 : r4.tx' (j + 1) = (r4.tx' j).text' 1024 := rfl
    have hl := r4.tx_length j
    have hsj := hsane j
    have hsN := hsane N
    have hbN := r4.tx_bad j
    have m6 := rgood_meets (G := G) (r4.tx' j)
    generalize r4.tx j = x at *
    cases hb : (r4.tx' j).bad
    · generalize r4.tx' j = q at *
      have m5 := rtext_meets (G := G) q 1024
      generalize q.text' 1024 = q' at *
      generalize q.text 1024 = t at *
      have hS : Strs x ++ [AV.v (.string (mkS t))] = Strs (x ++ [t]) := by simp [Strs]
      simp [hj, rfM, hb]
      refine call_intro m6 ?_ ?_
      · simp [rfM, hb]
      simp [rfM, hb]
      refine call_intro m5 ?_ ?_
      · simp [rfM, hb]
      simp [rfM, f1, hl, hw, hS]
      exact ⟨(), _, Weak.re0 1000 (by simp [e1, e2]), trivial⟩
    · have hbn := hbN hb N (by omega)
      have s1 := hsj hb
      have s2 := hsN hbn
      generalize r4.tx' j = q at *
      generalize r4.tx' N = p at *
      simp [hj, rfM, hb]
      refine call_intro m6 ?_ ?_
      · simp [rfM, hb]
      simp [rfM, hb]
      refine call_intro m6 ?_ ?_
      · simp [rfM, hb]
      simp [rfM, hb]
      refine post_end (.inr rfl) ?_
      simp [Rep.avR, Rep.zero, hb, hbn, s1, s2]
  · intro _ c _
    have hl := r4.tx_length N
    generalize r4.tx N = x at *
    generalize r4.tx' N = q at *
    have m6 := rgood_meets (G := G) q
    simp [rfM]
    refine call_intro m6 ?_ ?_
    · simp [rfM]
    cases hb : q.bad
    · simp [rfM, hb]
      refine post_end (.inr rfl) ?_
      simp [Rep.avR, hl, hb]
    · simp [rfM, hb]
      refine post_end (.inr rfl) ?_
      simp [Rep.avR, Rep.zero, hb]
end Go.Proofs.Ytglkfbhjimnboaa.WL

end
section
/-
  CHAPTER 12: contracts of blocks: what follows, what is the same; reading.
-/
namespace Go.Proofs.Ytglkfbhjimnboaa.WL
open Go
set_option maxHeartbeats 4000000
variable {G : Nat → Option AV}

def Blk.follows (b : Blk) (e h : Int) (p s : Dg) : Bool := b.good && (decide (b.epoch = e) && decide (b.height = h) && decide (b.prev = p) && decide (b.state = s))
theorem dg_beq (a b : Dg) : (a.bs == b.bs) = decide (a = b) := by
  rw [Bool.eq_iff_iff, beq_iff_eq, decide_eq_true_eq]
  exact ⟨fun h => Dg.ext' h, fun h => by rw [h]⟩
end Go.Proofs.Ytglkfbhjimnboaa.WL

end
section
/-
  CHAPTER 09: walks of laws.
-/
namespace Go.Proofs.Ytglkfbhjimnboaa.WL
open Go
set_option maxHeartbeats 4000000
variable {G : Nat → Option AV}

def Req.put : Req := ⟨1, 1, 2, [107], [118], [], Chg.zero⟩
def Req.longF (q : Req) : Bool := decide (4096 < q.key.length) || decide (4096 < q.val.length) || decide (4096 < q.old.length)
def lenSum (ss : List Bytes) : Nat := (ss.map List.length).sum
theorem lenSum_snoc (ss : List Bytes) (j : Nat) (h : j < ss.length) : lenSum (ss.take (j + 1)) = lenSum (ss.take j) + ss[j].length := by
  unfold lenSum
  rw [take_snoc _ _ h]
  simp only [List.map_append, List.sum_append, List.map_cons, List.map_nil, List.sum_cons, List.sum_nil, Nat.add_zero]
theorem lenSum_le (ss : List Bytes) (j : Nat) : lenSum (ss.take j) ≤ lenSum ss := by
  conv => rhs; rw [← List.take_append_drop j ss]
  simp only [lenSum, List.map_append, List.sum_append]
  omega
theorem txts_lenSum (ss : List Bytes) : (txts ss).length = 4 * ss.length + lenSum ss := by
  induction ss with
  | nil => rfl
  | cons a ss ih =>
    have e : txts (a :: ss) = txt a ++ txts ss := by simp [txts]
    have e2 : lenSum (a :: ss) = a.length + lenSum ss := by simp [lenSum]
    rw [e, e2, List.length_append, txt_length, ih, List.length_cons]
    omega
def Rep.large (a : Rep) : Bool := decide (400 < a.vals.length) || decide (16384 < lenSum a.vals)
theorem large_no {a : Rep} (h : a.large = false) : a.vals.length ≤ 400 ∧ lenSum a.vals ≤ 16384 ∧ a.bytes.length ≤ 20000 := by
  simp only [Rep.large, Bool.or_eq_false_iff, decide_eq_false_iff_not] at h
  refine ⟨by omega, by omega, ?_⟩
  have h1 := txts_lenSum a.vals
  have h2 := nums_length [a.client, a.num, a.code, (a.vals.length : Int)]
  simp only [Rep.bytes, List.length_append, List.length_cons, List.length_nil] at h2 ⊢
  omega
theorem large_fits {a : Rep} (h : a.large = false) (h1 : W64 a.client) (h2 : W64 a.num) (h3 : W64 a.code) : a.Fits := by
  obtain ⟨k1, k2, _⟩ := large_no h
  refine ⟨h1, h2, h3, by omega, fun v hv => ?_⟩
  have : v.length ≤ lenSum a.vals := by
    obtain ⟨i, hi, rfl⟩ := List.getElem_of_mem hv
    have := lenSum_snoc a.vals i hi
    have := lenSum_le a.vals (i + 1)
    omega
  omega

end Go.Proofs.Ytglkfbhjimnboaa.WL

end
section
/-
  CHAPTER 09: walks of laws: reading.
-/
namespace Go.Proofs.Ytglkfbhjimnboaa.WL
open Go
set_option maxHeartbeats 4000000
variable {G : Nat → Option AV}

abbrev reqSh : Sh := .st [.int .i64, .int .i64, .st [.int .i64, .str, .str, .str, .st [.int .i64, .int .i64, .int .i64, .st [.ints .u8 32, .int .i64]]]]
theorem cmp_int (k : IntKind) (a b : Int) : cmpA (.int k) (.v (.int k a)) (.v (.int k b)) = some (decide (a = b)) := by
  simp [cmpA]
  rw [Bool.eq_iff_iff]
  simp
theorem cmp_str (a b : Bytes) : cmpA .str (.v (.string (mkS a))) (.v (.string (mkS b))) = some (decide (a = b)) := by
  simp [cmpA]
  rw [Bool.eq_iff_iff]
  simp
theorem cmp_dg (a b : Dg) : cmpA (.ints .u8 32) (dv a) (dv b) = some (decide (a = b)) := by
  have e : (natsOf a.bs == natsOf b.bs) = decide (a = b) := by
    rw [Bool.eq_iff_iff, beq_iff_eq, decide_eq_true_eq]
    exact ⟨fun h => Dg.ext' (toNats_inj.1 h), fun h => by rw [h]⟩
  have la : (natsOf a.bs).length = 32 := by simp [natsOf]
  have lb : (natsOf b.bs).length = 32 := by simp [natsOf]
  simp [cmpA, la, lb, e]
theorem cmp_req (c n k ck ci cn chh c' n' k' ck' ci' cn' chh' : Int) (ke v o ke' v' o' : Bytes) (cr cr' : Dg) :
    cmpA reqSh (.node [.v (.int .i64 c), .v (.int .i64 n), .node [.v (.int .i64 k), .v (.string (mkS ke)), .v (.string (mkS v)), .v (.string (mkS o)), .node [.v (.int .i64 ck), .v (.int .i64 ci), .v (.int .i64 cn), .node [dv cr, .v (.int .i64 chh)]]]])
      (.node [.v (.int .i64 c'), .v (.int .i64 n'), .node [.v (.int .i64 k'), .v (.string (mkS ke')), .v (.string (mkS v')), .v (.string (mkS o')), .node [.v (.int .i64 ck'), .v (.int .i64 ci'), .v (.int .i64 cn'), .node [dv cr', .v (.int .i64 chh')]]]])
    = some (decide (c = c' ∧ n = n' ∧ k = k' ∧ ke = ke' ∧ v = v' ∧ o = o' ∧ ck = ck' ∧ ci = ci' ∧ cn = cn' ∧ cr = cr' ∧ chh = chh')) := by
  have h1 := fun x y : Int => cmp_int .i64 x y
  unfold cmpA
  simp only [cmpL, h1, cmp_str, cmp_dg, Option.bind_some, Option.map_some]
  unfold cmpA
  simp only [cmpL, h1, cmp_str, cmp_dg, Option.bind_some, Option.map_some]
  unfold cmpA
  simp only [cmpL, h1, cmp_str, cmp_dg, Option.bind_some, Option.map_some]
  unfold cmpA
  simp only [cmpL, h1, cmp_str, cmp_dg, Option.bind_some, Option.map_some]
  congr 1
  rw [Bool.eq_iff_iff]
  simp [and_assoc]

deriving instance DecidableEq for Chg, Req
theorem cmp_reqs (a b : Req) :
    cmpA reqSh (.node [.v (.int .i64 a.client), .v (.int .i64 a.num), .node [.v (.int .i64 a.kind), .v (.string (mkS a.key)), .v (.string (mkS a.val)), .v (.string (mkS a.old)), .node [.v (.int .i64 a.ch.kind), .v (.int .i64 a.ch.id), .v (.int .i64 a.ch.new), .node [dv a.ch.root, .v (.int .i64 a.ch.height)]]]])
      (.node [.v (.int .i64 b.client), .v (.int .i64 b.num), .node [.v (.int .i64 b.kind), .v (.string (mkS b.key)), .v (.string (mkS b.val)), .v (.string (mkS b.old)), .node [.v (.int .i64 b.ch.kind), .v (.int .i64 b.ch.id), .v (.int .i64 b.ch.new), .node [dv b.ch.root, .v (.int .i64 b.ch.height)]]]])
    = some (decide (a = b)) := by
  rw [cmp_req]
  obtain ⟨c, n, k, ke, v, o, ⟨ck, ci, cn, cr, chh⟩⟩ := a
  obtain ⟨c', n', k', ke', v', o', ⟨ck', ci', cn', cr', chh'⟩⟩ := b
  congr 1
  rw [Bool.eq_iff_iff, decide_eq_true_eq, decide_eq_true_eq, Req.mk.injEq, Chg.mk.injEq]

theorem longF_no {q : Req} (h : q.longF = false) : q.key.length ≤ 4096 ∧ q.val.length ≤ 4096 ∧ q.old.length ≤ 4096 := by
  simp only [Req.longF, Bool.or_eq_false_iff, decide_eq_false_iff_not] at h
  omega

theorem rep2 (z a b : AV) : ((rep 2 z).set 0 a).set 1 b = [a, b] := (rfl)
end Go.Proofs.Ytglkfbhjimnboaa.WL

end
section
/-
  CHAPTER 12: contracts of the reference: what is great, what can be, what is the same.
-/
namespace Go.Proofs.Ytglkfbhjimnboaa.WL
open Go
set_option maxHeartbeats 4000000
variable {G : Nat → Option AV}

def Blk.great (b : Blk) (m : Nat) : Bool := decide (40 < b.qs.length) || decide (m < (reqsB b.qs).length)
theorem rep3 (z a b c : AV) : (((rep 3 z).set 0 a).set 1 b).set 2 c = [a, b, c] := (rfl)
theorem bgreat_meets (b : Blk) (m : Nat) (hm : m ≤ 1000000) (hf : ∀ q ∈ b.qs, q.key.length ≤ reachBytes ∧ q.val.length ≤ reachBytes ∧ q.old.length ≤ reachBytes) :
    Meets Try.prog G fn_r12_Great [b.avS, .v (.int .i64 (m : Nat))] [] true (.v (.bool (b.great m))) [] := by
  refine meets_of_go mix k_r12_Great ⟨by simp, by simp, by simp⟩ ?_
  unfold Blk.great
  generalize hqs : b.qs = qs at *
  by_cases c1 : (40 : Int) < (qs.length : Nat)
  · have d1 : 40 < qs.length := by omega
    simp [Blk.avS, hqs, c1]
    refine post_end (.inr rfl) ?_
    simp [d1]
  have d1 : ¬ 40 < qs.length := by omega
  simp [Blk.avS, hqs, c1]
  refine go_up qs.length (fun j (n : Nat) => n = (reqsB (qs.take j)).length ∧ n ≤ m) (fun j n c => ⟨[(1, .v (.int .i64 (m : Nat))), (5, .v (.int .i64 (n : Nat))), (15, .sl 42 (Reqs qs)), (16, .v (.int .i64 (qs.length : Nat))), (17, .v (.int .i64 (j : Nat)))], [], c + 1⟩) 0 _ (Weak.re (by simp)) (by simp [reqsB]) ?_ ?_
  · rintro j n c hj ⟨hn, hn2⟩
    have hw : IntKind.i64.wrap ((j : Int) + 1) = ((j + 1 : Nat) : Int) := w64_succ (by omega)
    have hle := reqsB_take_le qs (j + 1)
    rw [reqsB_take qs j hj, List.length_append, Req.bytes_len] at hle
    have hs : (reqsB (qs.take (j + 1))).length = n + (100 + (qs[j].key.length + qs[j].val.length + qs[j].old.length)) := by rw [reqsB_take qs j hj, List.length_append, Req.bytes_len, hn]
    rw [← hn] at hle
    obtain ⟨f1, f2, f3⟩ := hf qs[j] (List.getElem_mem hj)
    unfold reachBytes at f1 f2 f3
    have w1 : IntKind.i64.wrap ((n : Int) + 100) = ((n + 100 : Nat) : Int) := by rw [w64_id (by omega)]; omega
    simp [hj, w1, rep3, Req.av, Chg.av]
    generalize qs[j] = q at *
    obtain ⟨ls, hls⟩ : ∃ ls, ls = [q.key, q.val, q.old] := ⟨_, rfl⟩
    have hL : [AV.v (.string (mkS q.key)), .v (.string (mkS q.val)), .v (.string (mkS q.old))] = Strs ls := by rw [hls]; rfl
    rw [hL]
    have hll : ls.length = 3 := by rw [hls]; rfl
    have hsum : lenSum ls = q.key.length + q.val.length + q.old.length := by rw [hls]; simp [lenSum]; omega
    have hfl : ∀ (t : Nat) (h : t < ls.length), ls[t].length ≤ 140737488355328 := by
      intro t h
      have := List.getElem_mem h
      generalize ls[t] = x at *
      rw [hls] at this
      simp at this
      rcases this with rfl | rfl | rfl <;> omega
    refine go_up 3 (fun t (p : Nat) => p = n + 100 + lenSum (ls.take t) ∧ (t = 0 ∨ p ≤ m)) (fun t p c => ⟨[(1, .v (.int .i64 (m : Nat))), (5, .v (.int .i64 (p : Nat))), (15, .sl 42 (Reqs qs)), (16, .v (.int .i64 (qs.length : Nat))), (17, .v (.int .i64 (j : Nat))), (32, .arr 1 (Strs ls)), (33, .v (.int .i64 (t : Nat)))], [], c + 1⟩) (n + 100) _ (Weak.re (by simp)) (by simp [lenSum]) ?_ ?_
    · rintro t p c' ht ⟨hp, hp2⟩
      have hw' : IntKind.i64.wrap ((t : Int) + 1) = ((t + 1 : Nat) : Int) := w64_succ (by omega)
      have ht3 : (t : Int) < 3 := by omega
      have htl : t < ls.length := by omega
      have hs1 := lenSum_snoc ls t htl
      have hl1 := lenSum_le ls (t + 1)
      have hr := hfl t htl
      obtain ⟨s, hs2⟩ : ∃ s, s = p + ls[t].length := ⟨_, rfl⟩
      have w2 : IntKind.i64.wrap ((p : Int) + (ls[t].length : Nat)) = (s : Int) := by rw [w64_id (by omega)]; omega
      by_cases c2 : (m : Int) < (s : Int)
      · have d2 : m < (reqsB qs).length := by omega
        simp [ht, ht3, hll, htl, w2, c2]
        refine post_end (.inr rfl) ?_
        simp [d2]
      · simp [ht, ht3, hll, htl, w2, c2, hw']
        exact ⟨s, _, Weak.re (by simp), by omega, by omega⟩
    · rintro p c' ⟨hp, hp2⟩
      rw [List.take_of_length_le (by omega)] at hp
      simp [hw]
      exact ⟨p, _, Weak.re (by simp), by omega, by omega⟩
  · rintro n c ⟨hn, hn2⟩
    rw [List.take_length] at hn
    have c2 : ¬ (m : Int) < (n : Int) := by omega
    have d2 : ¬ m < (reqsB qs).length := by omega
    simp [c2]
    refine post_end (.inr rfl) ?_
    simp [d1, d2]
end Go.Proofs.Ytglkfbhjimnboaa.WL

end
section
/-
  CHAPTER 12: contracts of the reference: what can be, what is the same.
-/
namespace Go.Proofs.Ytglkfbhjimnboaa.WL
open Go
set_option maxHeartbeats 4000000
variable {G : Nat → Option AV}

def Blk.same (a b : Blk) : Bool := decide (a.epoch = b.epoch) && decide (a.height = b.height) && decide (a.prev = b.prev) && decide (a.state = b.state) && decide (a.next = b.next) && decide (a.qs = b.qs)
theorem Blk.same_iff (a b : Blk) : a.same b = true ↔ a = b := by
  cases a; cases b
  simp [Blk.same, and_assoc]
theorem rbsame_meets (a b : Blk) (hn : a.qs.length ≤ 1000000) : Meets Try.prog G fn_r12_Same [a.avS, b.avS] [] true (.v (.bool (a.same b))) [] := by
  refine meets_of_go mix k_r12_Same ⟨by simp, by simp, by simp⟩ ?_
  unfold Blk.same
  by_cases c1 : a.epoch = b.epoch
  case neg =>
    simp [Blk.avS, dv, c1]
    refine post_end (.inr rfl) ?_
    simp
  by_cases c2 : a.height = b.height
  case neg =>
    simp [Blk.avS, dv, c1, c2]
    refine post_end (.inr rfl) ?_
    simp
  by_cases c3 : a.prev = b.prev
  case neg =>
    simp [Blk.avS, dv, c1, c2, c3]
    refine post_end (.inr rfl) ?_
    simp
  by_cases c4 : a.state = b.state
  case neg =>
    simp [Blk.avS, dv, c1, c2, c3, c4]
    refine post_end (.inr rfl) ?_
    simp
  by_cases c5 : a.next = b.next
  case neg =>
    simp [Blk.avS, dv, c1, c2, c3, c4, c5]
    refine post_end (.inr rfl) ?_
    simp
  rw [decide_eq_true c1, decide_eq_true c2, decide_eq_true c3, decide_eq_true c4, decide_eq_true c5]
  obtain ⟨ve, vh, vp, vs, vn, xs⟩ := a
  obtain ⟨ue, uh, up, us, un, ys⟩ := b
  simp only at c1 c2 c3 c4 c5 hn ⊢
  subst c1 c2 c3 c4 c5
  simp only [Bool.true_and]
  by_cases c6 : xs.length = ys.length
  case neg =>
    have d6 : ¬ xs = ys := fun h => c6 (by rw [h])
    have e6 : ¬ (xs.length : Int) = (ys.length : Nat) := by omega
    simp [Blk.avS, dv, c6, e6]
    refine post_end (.inr rfl) ?_
    simp [d6]
  simp [Blk.avS, dv, c6]
  refine go_up xs.length (fun j (_ : Unit) => ∀ i (h : i < xs.length) (h' : i < ys.length), i < j → xs[i] = ys[i]) (fun j (_ : Unit) c => ⟨[(2, .ptr 2 c 0), (3, .ptr 3 c 0), (50, .v (.int .i64 (xs.length : Nat))), (51, .v (.int .i64 (j : Nat)))],
    [(2, .var c (Blk.avS ⟨ve, vh, vp, vs, vn, xs⟩)), (3, .var c (Blk.avS ⟨ve, vh, vp, vs, vn, ys⟩))], c + 1⟩) () _ (Weak.re (by simp [Blk.avS, dv, c6])) (by intro i _ _ h; omega) ?_ ?_
  · intro j _ c hj hx
    have hw : IntKind.i64.wrap ((j : Int) + 1) = ((j + 1 : Nat) : Int) := w64_succ (by omega)
    have hj' : j < ys.length := by omega
    have hcmp := cmp_reqs xs[j] ys[j]
    by_cases c7 : xs[j] = ys[j]
    · rw [decide_eq_true c7] at hcmp
      simp [hj, hj', Blk.avS, dv, Req.av, Chg.av, hcmp, hw]
      refine ⟨(), _, Weak.re (by simp [Blk.avS, dv]), ?_⟩
      intro i hi hi' hij
      rcases (show i < j ∨ i = j by omega) with h | rfl
      · exact hx i hi hi' h
      · exact c7
    · rw [decide_eq_false c7] at hcmp
      have d7 : ¬ xs = ys := fun h => c7 (by subst h; rfl)
      simp [hj, hj', Blk.avS, dv, Req.av, Chg.av, hcmp]
      refine post_end (.inr rfl) ?_
      simp [d7]
  · intro _ c hx
    have d7 : xs = ys := List.ext_getElem c6 fun i h h' => hx i h h' h
    simp [Blk.avS, dv]
    refine post_end (.inr rfl) ?_
    simp [d7]
end Go.Proofs.Ytglkfbhjimnboaa.WL

end
section
/-
  CHAPTER 12: contracts of blocks: reading.
-/
namespace Go.Proofs.Ytglkfbhjimnboaa.WL
open Go
set_option maxHeartbeats 4000000
variable {G : Nat → Option AV}

theorem bread_meets (r : Rd) : Meets Try.prog G fn_block_Read [.ptr 1000 0 0] (rdM 0 r) true (r.blk.avR 3000 1) (rdM 1 r.blk' ++ [(3000, .rows 1 42 (Reqs r.blk.qs))]) := by
  refine meets_of_go mix k_block_Read ⟨by simp [rdM], by simp [rdM, Blk.avR], by simp [rdM]⟩ ?_
  obtain ⟨hN, hN2⟩ := r.blkN_eq
  have hblk : r.blk = if (r.b6.rq' r.blkN).bad = true then Blk.zero else ⟨r.inn 0 1073741824, r.b1.inn 1 1024, r.b2.dg, r.b3.dg, r.b4.dg, r.b6.rq r.blkN⟩ := rfl
  have hblk' : r.blk' = r.b6.rq' r.blkN := rfl
  rw [hblk, hblk']
  generalize r.blkN = N at *
  unfold Rd.b6 Rd.b5 Rd.b4 Rd.b3 Rd.b2 Rd.b1 at *
  have m1 := in_meets (G := G) r 0 1073741824
  generalize r.inn' 0 1073741824 = r1 at *
  have m2 := in_meets (G := G) r1 1 1024
  generalize r1.inn' 1 1024 = r2 at *
  have m3 := digest_meets (G := G) r2
  generalize r2.dg' = r3 at *
  have m4 := digest_meets (G := G) r3
  generalize r3.dg' = r4 at *
  have m5 := digest_meets (G := G) r4
  generalize r4.dg' = r5 at *
  have m6 := in_meets (G := G) r5 0 8
  rw [← hN] at m6
  generalize r5.inn' 0 8 = r6 at *
  generalize r.inn 0 1073741824 = a1 at *
  generalize r1.inn 1 1024 = a2 at *
  generalize r2.dg = a3 at *
  generalize r3.dg = a4 at *
  generalize r4.dg = a5 at *
  simp [rdM]
  refine call_intro m1 ?_ ?_
  · simp [rdM]
  simp [rdM]
  refine call_intro m2 ?_ ?_
  · simp [rdM]
  simp [rdM]
  refine call_intro m3 ?_ ?_
  · simp [rdM]
  simp [rdM]
  refine call_intro m4 ?_ ?_
  · simp [rdM]
  simp [rdM]
  refine call_intro m5 ?_ ?_
  · simp [rdM]
  simp [rdM, dv]
  refine call_intro m6 ?_ ?_
  · simp [rdM]
  simp [rdM, dv]
  refine go_up N (fun j (_ : Unit) => True) (fun j _ c => ⟨[(0, .ptr 1000 0 0), (2, .ptr 2 c 0), (3, .ptr 3 c 0), (16, .v (.int .i64 (N : Nat))), (17, .v (.int .i64 (j : Nat)))],
    [(2, .var c (.node [.v (.int .i64 0), .v (.int .i64 0), dv Dg.zero, dv Dg.zero, dv Dg.zero, .v (.slice none 0 0)])), (3, .var c (.node [.v (.int .i64 a1), .v (.int .i64 a2), dv a3, dv a4, dv a5, .row 24 42 c 0 j])), (24, .rows c 42 (Reqs (r6.rq j))),
     (1000, .var 0 (.node [.row 2000 1 c (r6.rq' j).pre.length (r6.rq' j).s.length, .v (.bool (r6.rq' j).bad)])), (2000, .rows c 1 (B ((r6.rq' j).pre ++ (r6.rq' j).s)))], c + 1⟩) () _ (Weak.re0 1000 (by simp [Rd.rq, Rd.rq', dv])) trivial ?_ ?_
  · intro j _ c hj _
    have hw : IntKind.i64.wrap ((j : Int) + 1) = ((j + 1 : Nat) : Int) := w64_succ (by omega)
    have f1 : fitsB (j + 1) 136 := fits (by omega) (by omega)
    have e1 : r6.rq (j + 1) = r6.rq j ++ [(r6.rq' j).req] := rfl
    have e2 : r6.rq' (j + 1) = (r6.rq' j).req' := rfl
    have hl := r6.rq_length j
    generalize r6.rq j = x at *
    generalize r6.rq' j = q at *
    have m7 := qread_meets (G := G) q
    generalize q.req' = q' at *
    generalize q.req = t at *
    have hS := Reqs_snoc x t
    simp only [Req.av, Chg.av] at hS
    simp [hj, rdM, dv]
    refine call_intro m7 ?_ ?_
    · simp [rdM]
    simp [rdM, f1, hl, hw, hS, dv, Req.av, Chg.av]
    exact ⟨(), _, Weak.re0 1000 (by simp [e1, e2]), trivial⟩
  · intro _ c _
    have hl := r6.rq_length N
    generalize r6.rq N = x at *
    generalize r6.rq' N = q at *
    have m8 := good_meets (G := G) q
    simp [rdM, dv]
    refine call_intro m8 ?_ ?_
    · simp [rdM]
    cases hb : q.bad
    · simp [rdM, hb, dv]
      refine post_end (.inr rfl) ?_
      simp [Blk.avR, hl, hb, dv]
    · simp [rdM, hb, dv]
      refine post_end (.inr rfl) ?_
      simp [Blk.avR, Blk.zero, hb, dv]
end Go.Proofs.Ytglkfbhjimnboaa.WL

end
section
/-
  CHAPTER 13: contracts of votes and plans, written and read.
-/
namespace Go.Proofs.Ytglkfbhjimnboaa.WL
open Go
set_option maxHeartbeats 4000000
variable {G : Nat → Option AV}
attribute [local irreducible] sha
attribute [local irreducible] Rd.sig Rd.sig' Rd.blk Rd.blk' Rd.inn Rd.inn' Rd.dg Rd.dg' Rd.rep Rd.rep' repR

theorem I64_5 (a b c d e : Int) : [AV.v (.int .i64 a), .v (.int .i64 b), .v (.int .i64 c), .v (.int .i64 d), .v (.int .i64 e)] = I64 [a, b, c, d, e] := (rfl)
theorem Dgs_1' (a : Dg) : [dv a] = Dgs [a] := (rfl)

/-! What is read is its own, and stays. -/
theorem kread_frz (r : Rd) : Meets Try.prog G fn_keys_Read [.ptr 1000 0 0] (rdM 0 r) false r.sig.avS (rdM 1 r.sig') := by
  refine (kread_meets r).freeze ⟨by simp [rdM], by simp [rdM], by simp [rdM]⟩ ?_
  simp [rdM, Sig.avR, Sig.avS, Sig.rows]
theorem bread_frz (r : Rd) : Meets Try.prog G fn_block_Read [.ptr 1000 0 0] (rdM 0 r) false r.blk.avS (rdM 1 r.blk') := by
  refine (bread_meets r).freeze ⟨by simp [rdM], by simp [rdM], by simp [rdM]⟩ ?_
  simp [rdM, Blk.avR, Blk.avS]
theorem qrrep_frz (r : Rd) : Meets Try.prog G fn_request_ReadReply [.ptr 1000 0 0] (rdM 0 r) false r.rep.avS (rdM 1 r.rep') := by
  refine (qrrep_meets r).freeze ⟨by simp [rdM], by simp [rdM], by simp [rdM]⟩ ?_
  simp [rdM, Rep.avR, Rep.avS]

theorem vhead_meets (bs : Bytes) (v : Vote) (h : bs.length ≤ 50000000) : Meets Try.prog G fn_vote_head [.ptr 1000 0 0, v.av] (wrM 0 bs) true (.tup []) (wrM 1 (bs ++ v.head)) := by
  refine meets_of_go mix k_vote_head ⟨by simp [wrM], by simp, by simp [wrM]⟩ ?_
  have m1 := wnum_meets (G := G) bs [v.kind, v.epoch, v.height, v.round, v.src] (by simp; omega)
  have m2 := wdigest_meets (G := G) (bs ++ nums [v.kind, v.epoch, v.height, v.round, v.src]) [v.dg] (by rw [List.length_append, nums_length]; simp; omega)
  have hb : bs ++ v.head = bs ++ nums [v.kind, v.epoch, v.height, v.round, v.src] ++ flatD [v.dg] := by simp [Vote.head, flatD]
  rw [hb]
  generalize bs ++ nums [v.kind, v.epoch, v.height, v.round, v.src] ++ flatD [v.dg] = y2 at *
  generalize bs ++ nums [v.kind, v.epoch, v.height, v.round, v.src] = y1 at *
  simp [wrM, Vote.av]
  refine call_intro m1 ?_ ?_
  · simp [wrM, I64_5]
  simp [wrM, I64_5]
  refine call_intro m2 ?_ ?_
  · simp [wrM, Dgs_1', dv]
  simp [wrM, Dgs_1', dv]
  refine post_end (.inl rfl) ?_
  simp
theorem vwrite_bad (bs : Bytes) (v : Vote) (hk : v.sig.ok = false) : Meets Try.prog G fn_vote_Write [.ptr 1000 0 0, v.av] (wrM 0 bs) true (.v (.bool false)) (wrM 1 bs) := by
  refine meets_of_go mix k_vote_Write ⟨by simp [wrM], by simp, by simp [wrM]⟩ ?_
  have m1 := kwrite_bad (G := G) [] v.sig hk
  simp [wrM, Vote.av]
  refine call_intro m1 ?_ ?_
  · simp [wrM]
  simp [wrM]
  refine post_end (.inr rfl) ?_
  simp
theorem vwrite_meets (bs : Bytes) (v : Vote) (hk : v.sig.ok = true) (h : bs.length ≤ 40000000) : Meets Try.prog G fn_vote_Write [.ptr 1000 0 0, v.av] (wrM 0 bs) true (.v (.bool true)) (wrM 1 (bs ++ voteF.wr v)) := by
  refine meets_of_go mix k_vote_Write ⟨by simp [wrM], by simp, by simp [wrM]⟩ ?_
  have m1 := kwrite_meets (G := G) [] v.sig hk (by simp)
  have m2 := vhead_meets (G := G) bs v (by omega)
  have hl : v.head.length = 72 := by simp [Vote.head, nums_length]
  have m3 := kwrite_meets (G := G) (bs ++ v.head) v.sig hk (by rw [List.length_append]; omega)
  rw [List.append_assoc, ← voteF_wr] at m3
  generalize bs ++ voteF.wr v = y2 at *
  generalize bs ++ v.head = y1 at *
  generalize [] ++ v.sig.bytes = y0 at *
  simp [wrM, Vote.av]
  refine call_intro m1 ?_ ?_
  · simp [wrM]
  simp [wrM]
  refine call_intro m2 ?_ ?_
  · simp [wrM, Vote.av]
  simp [wrM, Vote.av]
  refine call_intro m3 ?_ ?_
  · simp [wrM]
  simp [wrM]
  refine post_end (.inr rfl) ?_
  simp

theorem vread_meets (r : Rd) : Meets Try.prog G fn_vote_Read [.ptr 1000 0 0] (rdM 0 r) false (voteF.rd r).av (rdM 1 (voteF.rd' r)) := by
  refine meets_of_go mix k_vote_Read ⟨by simp [rdM], by simp [rdM], by simp [rdM]⟩ ?_
  rw [voteF_rd, voteF_rd']
  have m1 := in_meets (G := G) r 1 2
  generalize r.inn 1 2 = a1 at *
  generalize r.inn' 1 2 = r1 at *
  have m2 := in_meets (G := G) r1 0 1073741824
  generalize r1.inn 0 1073741824 = a2 at *
  generalize r1.inn' 0 1073741824 = r2 at *
  have m3 := in_meets (G := G) r2 1 1024
  generalize r2.inn 1 1024 = a3 at *
  generalize r2.inn' 1 1024 = r3 at *
  have m4 := in_meets (G := G) r3 0 1024
  generalize r3.inn 0 1024 = a4 at *
  generalize r3.inn' 0 1024 = r4 at *
  have m5 := in_meets (G := G) r4 1 63
  generalize r4.inn 1 63 = a5 at *
  generalize r4.inn' 1 63 = r5 at *
  have m6 := digest_meets (G := G) r5
  generalize r5.dg = a6 at *
  generalize r5.dg' = r6 at *
  have m7 := kread_frz (G := G) r6
  generalize r6.sig = a7 at *
  generalize r6.sig' = r7 at *
  have m8 := good_meets (G := G) r7
  simp [rdM]
  refine call_intro m1 ?_ ?_
  · simp [rdM]
  simp [rdM]
  refine call_intro m2 ?_ ?_
  · simp [rdM]
  simp [rdM]
  refine call_intro m3 ?_ ?_
  · simp [rdM]
  simp [rdM]
  refine call_intro m4 ?_ ?_
  · simp [rdM]
  simp [rdM]
  refine call_intro m5 ?_ ?_
  · simp [rdM]
  simp [rdM]
  refine call_intro m6 ?_ ?_
  · simp [rdM]
  simp [rdM]
  refine call_intro m7 ?_ ?_
  · simp [rdM]
  simp [rdM]
  refine call_intro m8 ?_ ?_
  · simp [rdM]
  simp [rdM]
  cases hb : r7.bad
  · simp [rdM, hb]
    refine post_end (.inr rfl) ?_
    simp [Vote.av, hb, dv]
  · simp [rdM, hb]
    refine post_end (.inr rfl) ?_
    simp [Vote.av, Vote.zero, Sig.avS, Sig.zero, hb, dv]
end Go.Proofs.Ytglkfbhjimnboaa.WL

end
