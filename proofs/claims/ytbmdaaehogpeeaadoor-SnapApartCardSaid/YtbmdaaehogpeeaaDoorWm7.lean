/- Texts put together: S01a, S01b, S01c, S01e, S01d, S01f, S09a, S09b, S09c, S12b, L09a, L09b. -/
import Derived.Test.YtbmdaaehogpeeaaDoorWc2
section
/-
  CHAPTER 01: contracts of the reader.
-/
namespace Go.Proofs.YtbmdaaehogpeeaaDoor.WL
open Go
set_option maxHeartbeats 4000000

/-- A reader's memory. -/
def rdM (g : Nat) (r : Rd) : List (Nat × Loc) := [(1000, .var 0 (.node [.row 2000 1 g r.pre.length r.s.length, .v (.bool r.bad)])), (2000, .rows g 1 (B (r.pre ++ r.s)))]
/-- Where the bytes lie that were taken. -/
def Rd.at_ (r : Rd) (k : Int) : Nat := if r.ok k = true then r.pre.length else 0
theorem Rd.at_le (r : Rd) (k : Int) : r.at_ k + (r.got k).length = (r.skip k).pre.length := by
  unfold Rd.at_ Rd.got Rd.skip
  split <;> simp [Rd.fault]
theorem Rd.at_drop (r : Rd) (k : Int) : ((r.skip k).pre ++ (r.skip k).s).drop (r.at_ k) = r.got k ++ (r.skip k).s := by
  unfold Rd.at_ Rd.got Rd.skip
  split <;> simp [Rd.fault]
theorem Rd.at_get (r : Rd) (k : Int) (j : Nat) (h : j < (r.got k).length) : ((r.skip k).pre ++ (r.skip k).s)[r.at_ k + j]? = some (r.got k)[j] := by
  rw [← List.getElem?_drop, Rd.at_drop, List.getElem?_append_left h, List.getElem?_eq_getElem h]

theorem read_meets {G : Nat → Option AV} (bs : Bytes) (h : fitsB bs.length 1) : Meets Tryd.prog G fn_code_Read [.sl 1 (B bs)] [] true (.ptr 1000 1 0) [(1000, .var 1 (.node [.row 2000 1 1 0 bs.length, .v (.bool false)])), (2000, .rows 1 1 (B bs))] := by
  refine meets_of_go mix k_code_Read ⟨by simp, by simp, by simp⟩ ?_
  simp [h]
  refine post_end (.inr rfl) ?_
  simp

theorem good_meets {G : Nat → Option AV} (r : Rd) : Meets Tryd.prog G fn_code_Reader_Good [.ptr 1000 0 0] (rdM 0 r) true (.v (.bool !r.bad)) (rdM 1 r) := by
  refine meets_of_go mix k_code_Reader_Good ⟨by simp [rdM], by simp, by simp [rdM]⟩ ?_
  simp [rdM]
  refine post_end (.inr rfl) ?_
  simp

theorem take_meets {G : Nat → Option AV} (r : Rd) (k : Int) :
    Meets Tryd.prog G fn_code_Reader_take [.ptr 1000 0 0, .v (.int .i64 k)] (rdM 0 r) true (.row 2000 1 1 (r.at_ k) (r.got k).length) (rdM 1 (r.skip k)) := by
  refine meets_of_go mix k_code_Reader_take ⟨by simp [rdM], by simp [rdM], by simp [rdM]⟩ ?_
  cases hok : r.ok k with
  | true =>
    have h := hok
    simp only [Rd.ok, Bool.and_eq_true, Bool.not_eq_true', decide_eq_true_eq] at h
    obtain ⟨⟨h1, h2⟩, h3⟩ := h
    have h4 : ¬ (k < 0) := by omega
    have h5 : ¬ ((r.s.length : Int) < k) := by omega
    obtain ⟨n, rfl⟩ := Int.eq_ofNat_of_zero_le h2
    have h6 : n ≤ r.s.length := by omega
    simp [rdM, h1, h3, h4, h5, h6, Rd.at_, Rd.got, Rd.skip, hok]
    refine post_end (.inr rfl) ?_
    simp [h6]
  | false =>
    have h : r.bad = true ∨ k < 0 ∨ (r.s.length : Int) < k := by
      simp only [Rd.ok] at hok
      cases hb : r.bad
      · simp [hb] at hok; omega
      · simp
    cases hb : r.bad
    · simp [hb] at h
      by_cases h0 : k < 0
      · simp [rdM, hb, h0, Rd.at_, Rd.got, Rd.skip, hok]
        refine post_end (.inr rfl) ?_
        simp [Rd.fault]
      · have h1 : (r.s.length : Int) < k := by omega
        simp [rdM, hb, h0, h1, Rd.at_, Rd.got, Rd.skip, hok]
        refine post_end (.inr rfl) ?_
        simp [Rd.fault]
    · simp [rdM, hb, Rd.at_, Rd.got, Rd.skip, hok]
      refine post_end (.inr rfl) ?_
      simp [Rd.fault]

end Go.Proofs.YtbmdaaehogpeeaaDoor.WL

end
section
/-
  CHAPTER 01: contracts of the reader, second part.
-/
namespace Go.Proofs.YtbmdaaehogpeeaaDoor.WL
open Go
set_option maxHeartbeats 4000000

/-- The reader's memory behind the first call. -/
def rdC (r : Rd) : List (Nat × Loc) := [(1000, .var 0 (.node [.row 1072000 1 5 r.pre.length r.s.length, .v (.bool r.bad)])), (1072000, .rows 5 1 (B (r.pre ++ r.s)))]

theorem num_meets {G : Nat → Option AV} (r : Rd) : Meets Tryd.prog G fn_code_Reader_Num [.ptr 1000 0 0] (rdM 0 r) true (.v (.int .i64 r.num)) (rdM 1 r.num') := by
  refine meets_of_go mix k_code_Reader_Num ⟨by simp [rdM], by simp, by simp [rdM]⟩ ?_
  simp
  refine call_intro (take_meets r 8) ?_ ?_
  · simp [rdM]
  simp [rdM]
  refine go_up (r.got 8).length (fun _ _ => True) (fun j (_ : Unit) c => ⟨[(3, .v (.int .u64 (beVal ((r.got 8).take j) : Nat))), (7, .row 1072000 1 5 (r.at_ 8) (r.got 8).length), (8, .v (.int .i64 ((r.got 8).length : Nat))), (9, .v (.int .i64 (j : Nat)))], rdC (r.skip 8), c⟩)
    () _ (Weak.refl _) trivial ?_ ?_
  · intro j _ c hj _
    have h8 : (r.got 8).length ≤ 8 := r.got_le 8
    have hw : IntKind.i64.wrap ((j : Int) + 1) = ((j + 1 : Nat) : Int) := w64_succ (by omega)
    have hlt : beVal ((r.got 8).take j) < 2 ^ 56 := Nat.lt_of_lt_of_le (beVal_lt _) (by
      rw [List.length_take]
      exact Nat.le_trans (Nat.pow_le_pow_right (by omega) (show min j (r.got 8).length ≤ 7 by omega)) (by decide))
    have hb := byte_u64 (beVal ((r.got 8).take j)) (r.got 8)[j] hlt
    rw [← beVal_take_succ _ _ hj] at hb
    have hget := r.at_get 8 j hj
    have hle := r.at_le 8
    simp [rdC, hj, hget, hw, hb]
    exact ⟨(), _, Weak.refl _, trivial⟩
  · intro _ c _
    simp [rdC]
    refine post_end (.inr rfl) ?_
    simp [Rd.num, Rd.num']

theorem digest_meets {G : Nat → Option AV} (r : Rd) : Meets Tryd.prog G fn_code_Reader_Digest [.ptr 1000 0 0] (rdM 0 r) true (dv r.dg) (rdM 1 r.dg') := by
  refine meets_of_go mix k_code_Reader_Digest ⟨by simp [rdM], by simp, by simp [rdM]⟩ ?_
  have h1 : (32 : Nat) ≤ maxLen := by decide
  have h3 := r.at_le 32
  have h4 : (r.got 32).length ≤ 32 := r.got_le 32
  have h5 : (List.take (r.got 32).length (List.drop (r.at_ 32) ((r.skip 32).pre ++ (r.skip 32).s))) = r.got 32 := by rw [Rd.at_drop]; simp
  have h6 : splice (B (zeros 32)) 0 (B (r.got 32)) = B r.dg.bs := splice_zeros 32 (r.got 32)
  simp [h1]
  refine call_intro (take_meets r 32) ?_ ?_
  · simp [rdM]
  simp [rdM, h3, h4, h5, h6]
  refine post_end (.inr rfl) ?_
  simp [Rd.dg']

theorem in_meets {G : Nat → Option AV} (r : Rd) (lo hi : Int) : Meets Tryd.prog G fn_code_Reader_In [.ptr 1000 0 0, .v (.int .i64 lo), .v (.int .i64 hi)] (rdM 0 r) true (.v (.int .i64 (r.inn lo hi))) (rdM 1 (r.inn' lo hi)) := by
  refine meets_of_go mix k_code_Reader_In ⟨by simp [rdM], by simp, by simp [rdM]⟩ ?_
  simp
  refine call_intro (num_meets r) ?_ ?_
  · simp [rdM]
  simp [rdM]
  by_cases h1 : lo ≤ r.num
  · by_cases h2 : r.num ≤ hi
    · cases hb : r.num'.bad
      · simp [h1, h2]
        refine post_end (.inr rfl) ?_
        simp [Rd.inn, Rd.inn', Rd.inOk, h1, h2, hb]
      · simp [h1, h2]
        refine post_end (.inr rfl) ?_
        simp [Rd.inn, Rd.inn', Rd.inOk, hb, Rd.fault]
    · simp [h1, h2]
      refine post_end (.inr rfl) ?_
      simp [Rd.inn, Rd.inn', Rd.inOk, h2, Rd.fault]
  · simp [h1]
    refine post_end (.inr rfl) ?_
    simp [Rd.inn, Rd.inn', Rd.inOk, h1, Rd.fault]

theorem end_meets {G : Nat → Option AV} (r : Rd) : Meets Tryd.prog G fn_code_Reader_End [.ptr 1000 0 0] (rdM 0 r) true (.v (.bool r.done)) (rdM 1 r) := by
  refine meets_of_go mix k_code_Reader_End ⟨by simp [rdM], by simp, by simp [rdM]⟩ ?_
  simp
  refine call_intro (good_meets r) ?_ ?_
  · simp [rdM]
  cases hb : r.bad
  · simp [rdM]
    refine post_end (.inr rfl) ?_
    simp [Rd.done, hb]
  · simp [rdM]
    refine post_end (.inr rfl) ?_
    simp [Rd.done, hb]

end Go.Proofs.YtbmdaaehogpeeaaDoor.WL

end
section
/-
  CHAPTER 01: contracts of the reader: texts.
-/
namespace Go.Proofs.YtbmdaaehogpeeaaDoor.WL
open Go
set_option maxHeartbeats 4000000

def rdT (g : Nat) (r : Rd) : List (Nat × Loc) := [(1000, .var 0 (.node [.row 1092000 1 g r.pre.length r.s.length, .v (.bool r.bad)])), (1092000, .rows g 1 (B (r.pre ++ r.s)))]

theorem text_meets {G : Nat → Option AV} (r : Rd) (mx : Int) : Meets Tryd.prog G fn_code_Reader_Text [.ptr 1000 0 0, .v (.int .i64 mx)] (rdM 0 r) true (.v (.string (mkS (r.text mx)))) (rdM 1 (r.text' mx)) := by
  refine meets_of_go mix k_code_Reader_Text ⟨by simp [rdM], by simp, by simp [rdM]⟩ ?_
  simp
  refine call_intro (take_meets r 4) ?_ ?_
  · simp [rdM]
  simp [rdM]
  refine go_up (r.got 4).length (fun _ _ => True) (fun j (_ : Unit) c => ⟨[(0, .ptr 1000 0 0), (1, .v (.int .i64 mx)), (5, .v (.int .i64 (beVal ((r.got 4).take j) : Nat))), (9, .row 1092000 1 5 (r.at_ 4) (r.got 4).length), (10, .v (.int .i64 ((r.got 4).length : Nat))), (11, .v (.int .i64 (j : Nat)))], rdT 5 (r.skip 4), c⟩)
    () _ (Weak.refl _) trivial ?_ ?_
  · intro j _ c hj _
    have h8 : (r.got 4).length ≤ 4 := r.got_le 4
    have hw : IntKind.i64.wrap ((j : Int) + 1) = ((j + 1 : Nat) : Int) := w64_succ (by omega)
    have hlt : beVal ((r.got 4).take j) < 2 ^ 24 := Nat.lt_of_lt_of_le (beVal_lt _) (by
      rw [List.length_take]
      exact Nat.le_trans (Nat.pow_le_pow_right (by omega) (show min j (r.got 4).length ≤ 3 by omega)) (by decide))
    have hb := byte_i64 (beVal ((r.got 4).take j)) (r.got 4)[j] (by omega)
    have hu := (r.got 4)[j].toNat_lt
    rw [w64_id (n := ((beVal ((r.got 4).take j) * 256 + (r.got 4)[j].toNat : Nat) : Int)) (by omega), ← beVal_take_succ _ _ hj] at hb
    have hget := r.at_get 4 j hj
    have hle := r.at_le 4
    simp [rdT, hj, hget, hw, hb]
    exact ⟨(), _, Weak.refl _, trivial⟩
  · intro _ c _
    have h3 := (r.skip 4).at_le (r.len mx)
    have h5 : (List.take ((r.skip 4).got (r.len mx)).length (List.drop ((r.skip 4).at_ (r.len mx)) (((r.skip 4).skip (r.len mx)).pre ++ ((r.skip 4).skip (r.len mx)).s))) = (r.skip 4).got (r.len mx) := by rw [Rd.at_drop]; simp
    by_cases hm : mx < (beVal (r.got 4) : Int)
    · have hl : r.len mx = -1 := by simp [Rd.len, hm]
      rw [hl] at h3 h5
      simp [rdT, hm]
      refine call_intro (take_meets (r.skip 4) (-1)) ?_ ?_
      · simp [rdM]
      simp [rdM, h3, h5]
      refine post_end (.inr rfl) ?_
      simp [Rd.text, Rd.text', hl]
    · have hl : r.len mx = beVal (r.got 4) := by simp [Rd.len, hm]
      rw [hl] at h3 h5
      simp [rdT, hm]
      refine call_intro (take_meets (r.skip 4) (beVal (r.got 4) : Nat)) ?_ ?_
      · simp [rdM]
      simp [rdM, h3, h5]
      refine post_end (.inr rfl) ?_
      simp [Rd.text, Rd.text', hl]

end Go.Proofs.YtbmdaaehogpeeaaDoor.WL

end
section
/-
  CHAPTER 01: contracts of the writer.
-/
namespace Go.Proofs.YtbmdaaehogpeeaaDoor.WL
open Go
set_option maxHeartbeats 4000000

/-- A writer that holds these bytes. -/
def wrM (g : Nat) (bs : Bytes) : List (Nat × Loc) := [(1000, .var 0 (.node [.row 2000 1 g 0 bs.length])), (2000, .rows g 1 (B bs))]

theorem bytes_meets {G : Nat → Option AV} (bs : Bytes) (hb : bs.length ≤ 67108864) :
    Meets Tryd.prog G fn_code_Writer_Bytes [.ptr 1000 0 0] (wrM 0 bs) true (.row 3000 1 1 0 bs.length) (wrM 1 bs ++ [(3000, .rows 1 1 (B bs))]) := by
  refine meets_of_go mix k_code_Writer_Bytes ⟨by simp [wrM], by simp [wrM], by simp [wrM]⟩ ?_
  have h1 : fitsB bs.length 1 := fits (by omega) (by omega)
  simp [wrM, h1]
  refine post_end (.inr rfl) ?_
  simp

/-- The writer's state in a loop: its stamp, its length, its bytes. -/
abbrev WrA := Nat × Nat × Bytes
def wrA (a : WrA) : List (Nat × Loc) := [(1000, .var 0 (.node [.row 2000 1 a.1 0 a.2.1])), (2000, .rows a.1 1 (B a.2.2))]

theorem wnum_meets {G : Nat → Option AV} (bs : Bytes) (ns : List Int) (hb : bs.length + 8 * ns.length ≤ 67108864) :
    Meets Tryd.prog G fn_code_Writer_Num [.ptr 1000 0 0, .sl 1 (I64 ns)] (wrM 0 bs) true (.tup []) (wrM 1 (bs ++ nums ns)) := by
  refine meets_of_go mix k_code_Writer_Num ⟨by simp [wrM], by simp, by simp [wrM]⟩ ?_
  simp [wrM]
  refine go_up ns.length (fun j (a : WrA) => match a with | (_, n, x) => n = x.length ∧ x = bs ++ nums (ns.take j)) (fun j a c => ⟨[(0, .ptr 1000 0 0), (9, .sl 1 (I64 ns)), (10, .v (.int .i64 (ns.length : Nat))), (11, .v (.int .i64 (j : Nat)))], wrA a, c⟩)
    (0, bs.length, bs) _ (Weak.refl _) (by simp [nums]) ?_ ?_
  · rintro j ⟨g, n, L⟩ c hj ⟨rfl, hL⟩
    simp [hj, wrA]
    refine go_up 8 (fun t (a : WrA) => match a with | (_, n, x) => n = x.length ∧ x = L ++ (be8 ns[j]).take t) (fun t a c => ⟨[(0, .ptr 1000 0 0), (5, .v (.int .i64 ns[j])), (6, .v (.int .i64 (56 - 8 * (t : Int)))), (9, .sl 1 (I64 ns)), (10, .v (.int .i64 (ns.length : Nat))), (11, .v (.int .i64 (j : Nat)))], wrA a, c⟩)
      (g, L.length, L) _ (Weak.refl _) (by simp) ?_ ?_
    · rintro t ⟨g', n', L'⟩ c' ht ⟨rfl, hL'⟩
      have h8 : 8 * (t : Int) ≤ 56 := by omega
      have h0 : (0 : Int) ≤ 56 - 8 * (t : Int) := by omega
      have hmin : min (56 - 8 * (t : Int)).toNat 64 = 56 - 8 * t := by omega
      have hw : IntKind.i64.wrap (56 - 8 * (t : Int) - 8) = 56 - 8 * ((t + 1 : Nat) : Int) := by rw [w64_id (by omega)]; omega
      have hLl : L'.length ≤ 67108863 := by
        rw [hL', hL]
        simp only [List.length_append, nums_length, List.length_take, be8_length]
        omega
      have hm1 : fitsB (L'.length + 1) 1 := fits (by omega) (by omega)
      simp [wrA, h8, hmin, hw, hm1, bv_u8, be8_u64 _ _ ht, B_snoc]
      exact ⟨(_, _, _), _, (Weak.keep [1000, 2000] _ _ _).trans (Weak.refl _), by simp, by rw [hL', be8_take _ _ ht, List.append_assoc]⟩
    · rintro ⟨g', n', L'⟩ c' ⟨rfl, hL'⟩
      have hw : IntKind.i64.wrap ((j : Int) + 1) = ((j + 1 : Nat) : Int) := w64_succ (by omega)
      simp [wrA, hw]
      exact ⟨(_, _, _), _, Weak.refl _, rfl, by rw [hL', hL, nums_snoc _ _ hj, List.append_assoc, List.take_of_length_le (l := be8 ns[j]) (by simp)]⟩
  · rintro ⟨g, n, L⟩ c ⟨rfl, hL⟩
    have : L = bs ++ nums ns := by rw [hL]; simp
    subst this
    simp [wrA]
    refine post_end (.inl rfl) ?_
    simp

theorem wdigest_meets {G : Nat → Option AV} (bs : Bytes) (ds : List Dg) (hb : bs.length + 32 * ds.length ≤ 67108864) :
    Meets Tryd.prog G fn_code_Writer_Digest [.ptr 1000 0 0, .sl 32 (Dgs ds)] (wrM 0 bs) true (.tup []) (wrM 1 (bs ++ flatD ds)) := by
  refine meets_of_go mix k_code_Writer_Digest ⟨by simp [wrM], by simp, by simp [wrM]⟩ ?_
  simp [wrM]
  refine go_up ds.length (fun j (a : WrA) => match a with | (_, n, x) => n = x.length ∧ x = bs ++ flatD (ds.take j)) (fun j a c => ⟨[(0, .ptr 1000 0 0), (8, .sl 32 (Dgs ds)), (9, .v (.int .i64 (ds.length : Nat))), (10, .v (.int .i64 (j : Nat)))], wrA a, c⟩)
    (0, bs.length, bs) _ (Weak.refl _) (by simp [flatD]) ?_ ?_
  · rintro j ⟨g, n, L⟩ c hj ⟨rfl, hL⟩
    have hLl : L.length + 32 ≤ 67108864 := by rw [hL, List.length_append, flatD_length, List.length_take]; omega
    have hm1 : fitsB (L.length + 32) 1 := fits (by omega) (by omega)
    have hw : IntKind.i64.wrap ((j : Int) + 1) = ((j + 1 : Nat) : Int) := w64_succ (by omega)
    simp [wrA, hj, hm1, hw]
    exact ⟨(_, _, _), _, (Weak.keep [1000, 2000] _ _ _).trans (Weak.refl _), by simp, by rw [hL, flatD_snoc _ _ hj, List.append_assoc]⟩
  · rintro ⟨g, n, L⟩ c ⟨rfl, hL⟩
    have : L = bs ++ flatD ds := by rw [hL]; simp
    subst this
    simp [wrA]
    refine post_end (.inl rfl) ?_
    simp

theorem wtext_meets {G : Nat → Option AV} (bs : Bytes) (ss : List Bytes) (hb : bs.length + (txts ss).length ≤ 67108864) (hn : ss.length ≤ 67108864) :
    Meets Tryd.prog G fn_code_Writer_Text [.ptr 1000 0 0, .sl 1 (Strs ss)] (wrM 0 bs) true (.tup []) (wrM 1 (bs ++ txts ss)) := by
  refine meets_of_go mix k_code_Writer_Text ⟨by simp [wrM], by simp, by simp [wrM]⟩ ?_
  simp [wrM]
  refine go_up ss.length (fun j (a : WrA) => match a with | (_, n, x) => n = x.length ∧ x = bs ++ txts (ss.take j)) (fun j a c => ⟨[(0, .ptr 1000 0 0), (9, .sl 1 (Strs ss)), (10, .v (.int .i64 (ss.length : Nat))), (11, .v (.int .i64 (j : Nat)))], wrA a, c⟩)
    (0, bs.length, bs) _ (Weak.refl _) (by simp [txts]) ?_ ?_
  · rintro j ⟨g, n, L⟩ c hj ⟨rfl, hL⟩
    have hsz := txts_take_le ss (j + 1)
    rw [txts_snoc _ _ hj, List.length_append, txt_length] at hsz
    have hLl : L.length + (4 + ss[j].length) ≤ 67108864 := by rw [hL, List.length_append]; omega
    have hm1 : fitsB (L.length + 4) 1 ∧ fitsB (L.length + 4 + ss[j].length) 1 := ⟨fits (by omega) (by omega), fits (by omega) (by omega)⟩
    have hw : IntKind.i64.wrap ((j : Int) + 1) = ((j + 1 : Nat) : Int) := w64_succ (by omega)
    simp [wrA, hj, hm1, hw, bv_u8]
    exact ⟨(_, _, _), _, (Weak.keep [1000, 2000] _ _ _).trans (Weak.refl _), by simp; omega, by rw [hL, txts_snoc _ _ hj]; simp [txt, be4]⟩
  · rintro ⟨g, n, L⟩ c ⟨rfl, hL⟩
    have : L = bs ++ txts ss := by rw [hL]; simp
    subst this
    simp [wrA]
    refine post_end (.inl rfl) ?_
    simp

end Go.Proofs.YtbmdaaehogpeeaaDoor.WL

end
section
/-
  CHAPTER 01: contracts of the reference.
-/
namespace Go.Proofs.YtbmdaaehogpeeaaDoor.WL
open Go
set_option maxHeartbeats 4000000

/-- The reference's reader. -/
def rfM (r : Rd) : List (Nat × Loc) := [(1000, .var 0 (.node [.v (.string (mkS r.s)), .v (.bool r.bad)]))]

theorem rtake_meets {G : Nat → Option AV} (r : Rd) (k : Int) : Meets Tryd.prog G fn_r01_Reader_Take [.ptr 1000 0 0, .v (.int .i64 k)] (rfM r) true (.v (.string (mkS (r.got k)))) (rfM (r.skip k)) := by
  refine meets_of_go mix k_r01_Reader_Take ⟨by simp [rfM], by simp, by simp [rfM]⟩ ?_
  cases hok : r.ok k with
  | true =>
    have h := hok
    simp only [Rd.ok, Bool.and_eq_true, Bool.not_eq_true', decide_eq_true_eq] at h
    obtain ⟨⟨h1, h2⟩, h3⟩ := h
    have h4 : ¬ (k < 0) := by omega
    have h5 : ¬ ((r.s.length : Int) < k) := by omega
    obtain ⟨n, rfl⟩ := Int.eq_ofNat_of_zero_le h2
    have h6 : n ≤ r.s.length := by omega
    have h7 : r.s.take r.s.length = r.s := by simp
    simp [rfM, h1, h3, h4, h5, h6, h7, Rd.got, Rd.skip, hok]
    refine post_end (.inr rfl) ?_
    simp
  | false =>
    have h : r.bad = true ∨ k < 0 ∨ (r.s.length : Int) < k := by
      simp only [Rd.ok] at hok
      cases hb : r.bad
      · simp [hb] at hok; omega
      · simp
    cases hb : r.bad
    · simp [hb] at h
      by_cases h0 : k < 0
      · simp [rfM, hb, h0, Rd.got, Rd.skip, hok]
        refine post_end (.inr rfl) ?_
        simp [Rd.fault]
      · have h1 : (r.s.length : Int) < k := by omega
        simp [rfM, hb, h0, h1, Rd.got, Rd.skip, hok]
        refine post_end (.inr rfl) ?_
        simp [Rd.fault]
    · simp [rfM, hb, Rd.got, Rd.skip, hok]
      refine post_end (.inr rfl) ?_
      simp [Rd.fault]

theorem rnum_meets {G : Nat → Option AV} (r : Rd) : Meets Tryd.prog G fn_r01_Reader_Num [.ptr 1000 0 0] (rfM r) true (.v (.int .i64 r.num)) (rfM r.num') := by
  refine meets_of_go mix k_r01_Reader_Num ⟨by simp [rfM], by simp, by simp [rfM]⟩ ?_
  simp
  refine call_intro (rtake_meets r 8) ?_ ?_
  · simp [rfM]
  simp [rfM]
  have hz : IntKind.i64.wrap 0 = 0 := by decide
  refine go_up (r.got 8).length (fun _ _ => True) (fun j (_ : Unit) c => ⟨[(3, .v (.string (mkS (r.got 8)))), (4, .v (.int .i64 (IntKind.i64.wrap (beVal ((r.got 8).take j) : Nat)))), (5, .v (.int .i64 (j : Nat)))], rfM (r.skip 8), c⟩)
    () _ (by simp [beVal, hz, rfM]; exact Weak.refl _) trivial ?_ ?_
  · intro j _ c hj _
    have h8 : (r.got 8).length ≤ 8 := r.got_le 8
    have hw : IntKind.i64.wrap ((j : Int) + 1) = ((j + 1 : Nat) : Int) := w64_succ (by omega)
    have hlt : beVal ((r.got 8).take j) < 2 ^ 56 := Nat.lt_of_lt_of_le (beVal_lt _) (by
      rw [List.length_take]
      exact Nat.le_trans (Nat.pow_le_pow_right (by omega) (show min j (r.got 8).length ≤ 7 by omega)) (by decide))
    have hb := byte_i64 (beVal ((r.got 8).take j)) (r.got 8)[j] hlt
    have hi : IntKind.i64.wrap (beVal ((r.got 8).take j) : Nat) = (beVal ((r.got 8).take j) : Nat) := w64_id (by omega)
    rw [← beVal_take_succ _ _ hj] at hb
    simp [rfM, hj, hw, hi, hb]
    exact ⟨(), _, Weak.refl _, trivial⟩
  · intro _ c _
    simp [rfM]
    refine post_end (.inr rfl) ?_
    simp [Rd.num, Rd.num']

theorem rtext_meets {G : Nat → Option AV} (r : Rd) (mx : Int) : Meets Tryd.prog G fn_r01_Reader_Text [.ptr 1000 0 0, .v (.int .i64 mx)] (rfM r) true (.v (.string (mkS (r.text mx)))) (rfM (r.text' mx)) := by
  refine meets_of_go mix k_r01_Reader_Text ⟨by simp [rfM], by simp, by simp [rfM]⟩ ?_
  simp
  refine call_intro (rtake_meets r 4) ?_ ?_
  · simp [rfM]
  simp [rfM]
  refine go_up (r.got 4).length (fun _ _ => True) (fun j (_ : Unit) c => ⟨[(0, .ptr 1000 0 0), (1, .v (.int .i64 mx)), (5, .v (.string (mkS (r.got 4)))), (6, .v (.int .i64 (beVal ((r.got 4).take j) : Nat))), (7, .v (.int .i64 (j : Nat)))], rfM (r.skip 4), c⟩)
    () _ (Weak.refl _) trivial ?_ ?_
  · intro j _ c hj _
    have h8 : (r.got 4).length ≤ 4 := r.got_le 4
    have hw : IntKind.i64.wrap ((j : Int) + 1) = ((j + 1 : Nat) : Int) := w64_succ (by omega)
    have hlt : beVal ((r.got 4).take j) < 2 ^ 24 := Nat.lt_of_lt_of_le (beVal_lt _) (by
      rw [List.length_take]
      exact Nat.le_trans (Nat.pow_le_pow_right (by omega) (show min j (r.got 4).length ≤ 3 by omega)) (by decide))
    have hu := (r.got 4)[j].toNat_lt
    have hb : IntKind.i64.wrap (IntKind.i64.wrap ((beVal ((r.got 4).take j) : Nat) * 256) + IntKind.i64.wrap ((r.got 4)[j].toNat : Int)) = ((beVal ((r.got 4).take (j + 1)) : Nat) : Int) := by
      rw [beVal_take_succ _ _ hj, w64_id (n := ((r.got 4)[j].toNat : Int)) (by omega), w64_id (n := (beVal ((r.got 4).take j) : Int) * 256) (by omega), w64_id (by omega)]
      omega
    simp [rfM, hj, hw, hb]
    exact ⟨(), _, Weak.refl _, trivial⟩
  · intro _ c _
    by_cases hm : mx < (beVal (r.got 4) : Int)
    · have hl : r.len mx = -1 := by simp [Rd.len, hm]
      simp [rfM, hm]
      refine call_intro (rtake_meets (r.skip 4) (-1)) ?_ ?_
      · simp [rfM]
      simp [rfM]
      refine post_end (.inr rfl) ?_
      simp [Rd.text, Rd.text', hl]
    · have hl : r.len mx = beVal (r.got 4) := by simp [Rd.len, hm]
      simp [rfM, hm]
      refine call_intro (rtake_meets (r.skip 4) (beVal (r.got 4) : Nat)) ?_ ?_
      · simp [rfM]
      simp [rfM]
      refine post_end (.inr rfl) ?_
      simp [Rd.text, Rd.text', hl]

theorem rdigest_meets {G : Nat → Option AV} (r : Rd) : Meets Tryd.prog G fn_r01_Reader_Digest [.ptr 1000 0 0] (rfM r) true (dv r.dg) (rfM r.dg') := by
  refine meets_of_go mix k_r01_Reader_Digest ⟨by simp [rfM], by simp, by simp [rfM]⟩ ?_
  simp
  refine call_intro (rtake_meets r 32) ?_ ?_
  · simp [rfM]
  simp [rfM]
  have h8 : (r.got 32).length ≤ 32 := r.got_le 32
  refine go_up (r.got 32).length (fun j (x : Bytes) => x = (r.got 32).take j ++ zeros (32 - j)) (fun j (x : Bytes) c => ⟨[(2, .ptr 2 2 0), (3, .ptr 3 3 0), (4, .v (.string (mkS (r.got 32)))), (5, .v (.int .i64 (j : Nat)))],
    [(2, .var 2 (.arr 1 (B (zeros 32)))), (3, .var 3 (.arr 1 (B x))), (1000, .var 0 (.node [.v (.string (mkS (r.skip 32).s)), .v (.bool (r.skip 32).bad)]))], c⟩) (zeros 32) _ (Weak.refl _) (by simp) ?_ ?_
  · intro j x c hj hx
    have hw : IntKind.i64.wrap ((j : Int) + 1) = ((j + 1 : Nat) : Int) := w64_succ (by omega)
    have hl : x.length = 32 := by rw [hx]; simp; omega
    have hjx : j < x.length := by omega
    have hs : x.set j (r.got 32)[j] = (r.got 32).take (j + 1) ++ zeros (32 - (j + 1)) := by
      rw [hx]
      exact fill_zeros _ 32 j hj h8
    have hj32 : (j : Int) < 32 := by omega
    have hjn : j < 32 := by omega
    simp [hj, hw, hl, hjx, hj32, hjn, B_set, Nat.mod_one]
    exact ⟨_, _, Weak.refl _, hs⟩
  · intro x c hx
    have hl : x.length = 32 := by rw [hx]; simp; omega
    have hd : x = r.dg.bs := by rw [hx]; simp [Rd.dg_bs]
    subst hd
    simp [hl]
    refine post_end (.inr rfl) ?_
    simp [hl, Rd.dg']

theorem rin_meets {G : Nat → Option AV} (r : Rd) (lo hi : Int) : Meets Tryd.prog G fn_r01_Reader_In [.ptr 1000 0 0, .v (.int .i64 lo), .v (.int .i64 hi)] (rfM r) true (.v (.int .i64 (r.inn lo hi))) (rfM (r.inn' lo hi)) := by
  refine meets_of_go mix k_r01_Reader_In ⟨by simp [rfM], by simp, by simp [rfM]⟩ ?_
  simp
  refine call_intro (rnum_meets r) ?_ ?_
  · simp [rfM]
  have hf : r.num'.skip (-1) = Rd.fault := by simp [Rd.skip, Rd.ok]
  have kk : (r.num'.bad = false ∧ lo ≤ r.num ∧ r.num ≤ hi) ∨ r.num'.bad = true ∨ (r.num'.bad = false ∧ r.num < lo) ∨ (r.num'.bad = false ∧ ¬ r.num < lo ∧ hi < r.num) := by
    cases r.num'.bad
    · simp; omega
    · simp
  rcases kk with ⟨hb, h1, h2⟩ | hb | ⟨hb, h1⟩ | ⟨hb, h1, h2⟩
  · have h3 : ¬ r.num < lo := by omega
    have h4 : ¬ hi < r.num := by omega
    simp [rfM, h3, h4, hb]
    refine post_end (.inr rfl) ?_
    simp [Rd.inn, Rd.inn', Rd.inOk, h1, h2, hb]
  · simp [rfM, hb]
    refine call_intro (rtake_meets r.num' (-1)) ?_ ?_
    · simp [rfM, hb]
    simp [rfM, hf]
    refine post_end (.inr rfl) ?_
    simp [Rd.inn, Rd.inn', Rd.inOk, hb]
  · simp [rfM, h1, hb]
    refine call_intro (rtake_meets r.num' (-1)) ?_ ?_
    · simp [rfM, hb]
    simp [rfM, hf]
    refine post_end (.inr rfl) ?_
    have h3 : ¬ lo ≤ r.num := by omega
    simp [Rd.inn, Rd.inn', Rd.inOk, h3]
  · simp [rfM, h1, h2, hb]
    refine call_intro (rtake_meets r.num' (-1)) ?_ ?_
    · simp [rfM, hb]
    simp [rfM, hf]
    refine post_end (.inr rfl) ?_
    have h3 : ¬ r.num ≤ hi := by omega
    simp [Rd.inn, Rd.inn', Rd.inOk, h3]

theorem rgood_meets {G : Nat → Option AV} (r : Rd) : Meets Tryd.prog G fn_r01_Reader_Good [.ptr 1000 0 0] (rfM r) true (.v (.bool !r.bad)) (rfM r) := by
  refine meets_of_go mix k_r01_Reader_Good ⟨by simp [rfM], by simp, by simp [rfM]⟩ ?_
  simp [rfM]
  refine post_end (.inr rfl) ?_
  simp

theorem rend_meets {G : Nat → Option AV} (r : Rd) : Meets Tryd.prog G fn_r01_Reader_End [.ptr 1000 0 0] (rfM r) true (.v (.bool r.done)) (rfM r) := by
  refine meets_of_go mix k_r01_Reader_End ⟨by simp [rfM], by simp, by simp [rfM]⟩ ?_
  cases hb : r.bad
  · simp [rfM, hb]
    refine post_end (.inr rfl) ?_
    simp [Rd.done, hb, isEmpty_dec]
  · simp [rfM, hb]
    refine post_end (.inr rfl) ?_
    simp [Rd.done, hb]
end Go.Proofs.YtbmdaaehogpeeaaDoor.WL

end
section
/-
  CHAPTER 01: contracts of the reference's writing.
-/
namespace Go.Proofs.YtbmdaaehogpeeaaDoor.WL
open Go
set_option maxHeartbeats 4000000

theorem be8_set (n : Int) (j : Nat) (h : j < 8) : (zeros (8 - j) ++ (be8 n).drop (8 - j)).set (7 - j) (u8 (n.fdiv (2 ^ (8 * j)))) = zeros (8 - (j + 1)) ++ (be8 n).drop (8 - (j + 1)) := by
  rw [Int.fdiv_eq_ediv_of_nonneg _ (Int.le_of_lt (Int.pow_pos (by decide)))]
  match j, h with
  | 0, _ => simp [be8, zeros]
  | 1, _ => simp [be8, zeros]
  | 2, _ => simp [be8, zeros]
  | 3, _ => simp [be8, zeros]
  | 4, _ => simp [be8, zeros]
  | 5, _ => simp [be8, zeros]
  | 6, _ => simp [be8, zeros]
  | 7, _ => simp [be8, zeros]

theorem rfnum_meets {G : Nat → Option AV} (n : Int) : Meets Tryd.prog G fn_r01_Num [.v (.int .i64 n)] [] true (.v (.string (mkS (be8 n)))) [] := by
  refine meets_of_go mix k_r01_Num ⟨by simp, by simp, by simp⟩ ?_
  simp
  refine go_up 8 (fun j (x : Bytes) => x = zeros (8 - j) ++ (be8 n).drop (8 - j)) (fun j x c => ⟨[(0, .v (.int .i64 n)), (3, .ptr 3 3 0), (4, .v (.int .i64 (j : Nat)))], [(3, .var 3 (.arr 1 (B x)))], c⟩)
    (zeros 8) _ (Weak.refl _) (by simp) ?_ ?_
  · intro j x c hj hx
    have hw : IntKind.i64.wrap ((j : Int) + 1) = ((j + 1 : Nat) : Int) := w64_succ (by omega)
    have hw2 : IntKind.i64.wrap (7 - (j : Int)) = ((7 - j : Nat) : Int) := by rw [w64_id (by omega)]; omega
    have hw3 : IntKind.i64.wrap (8 * (j : Int)) = 8 * (j : Int) := w64_id (by omega)
    have hw4 : IntKind.u64.wrap (8 * (j : Int)) = 8 * (j : Int) := u64_id (by omega)
    have h0 : 0 ≤ 8 * (j : Int) := by omega
    have hj8 : (j : Int) < 8 := by omega
    have hxl : x.length = 8 := by rw [hx]; simp
    have hmin : min (8 * (j : Int)).toNat 64 = 8 * j := by omega
    have hs := be8_set n j hj
    rw [← hx] at hs
    have h7 : 7 - j < 8 := by omega
    have h7' : (7 - j : Nat) < (8 : Int) := by omega
    simp [hw, hw2, hw3, hw4, h0, hj8, hxl, hmin, h7, h7', bv_u8, B_set, Nat.mod_one]
    exact ⟨_, _, Weak.refl _, hs⟩
  · intro x c hx
    have hxl : x = be8 n := by rw [hx]; simp [zeros]
    subst hxl
    have ht : List.take 8 (be8 n) = be8 n := List.take_of_length_le (by simp)
    simp [ht]
    refine post_end (.inr rfl) ?_
    simp

theorem rfdigest_meets {G : Nat → Option AV} (d : Dg) : Meets Tryd.prog G fn_r01_Digest [dv d] [] true (.v (.string (mkS d.bs))) [] := by
  refine meets_of_go mix k_r01_Digest ⟨by simp, by simp, by simp⟩ ?_
  simp
  refine post_end (.inr rfl) ?_
  simp

theorem rftext_meets {G : Nat → Option AV} (s : Bytes) (hs : s.length < 4294967296) : Meets Tryd.prog G fn_r01_Text [.v (.string (mkS s))] [] true (.v (.string (mkS (txt s)))) [] := by
  refine meets_of_go mix k_r01_Text ⟨by simp, by simp, by simp⟩ ?_
  simp
  refine call_intro (rfnum_meets s.length) ?_ ?_
  · simp
  have h : 4 + s.length ≤ 9223372036854775807 := by omega
  have ht : List.take 8 (be8 s.length) = be8 s.length := List.take_of_length_le (by simp)
  simp [h, ht, be8_drop]
  refine post_end (.inr rfl) ?_
  simp [txt]
end Go.Proofs.YtbmdaaehogpeeaaDoor.WL

end
section
/-
  CHAPTER 09: contracts of requests.
-/
namespace Go.Proofs.YtbmdaaehogpeeaaDoor.WL
open Go
set_option maxHeartbeats 4000000
variable {G : Nat → Option AV}

theorem I64_4 (a b c d : Int) : [AV.v (.int .i64 a), .v (.int .i64 b), .v (.int .i64 c), .v (.int .i64 d)] = I64 [a, b, c, d] := (rfl)
theorem Dgs_1 (a : Dg) : [AV.arr 1 (B a.bs)] = Dgs [a] := (rfl)
end Go.Proofs.YtbmdaaehogpeeaaDoor.WL

end
section
/-
  CHAPTER 09: contracts of replies; the reference.
-/
namespace Go.Proofs.YtbmdaaehogpeeaaDoor.WL
open Go
set_option maxHeartbeats 4000000
variable {G : Nat → Option AV}

theorem qwrep_meets (bs : Bytes) (a : Rep) (h : bs.length + a.bytes.length ≤ 60000000) (hn : a.vals.length ≤ 1000000) : Meets Tryd.prog G fn_request_WriteReply [.ptr 1000 0 0, a.avS] (wrM 0 bs) true (.tup []) (wrM 1 (bs ++ a.bytes)) := by
  refine meets_of_go mix k_request_WriteReply ⟨by simp [wrM], by simp, by simp [wrM]⟩ ?_
  have hb : a.bytes = nums [a.client, a.num, a.code, (a.vals.length : Int)] ++ txts a.vals := rfl
  rw [hb] at h ⊢
  rw [List.length_append] at h
  have n1 := nums_length [a.client, a.num, a.code, (a.vals.length : Int)]
  have m1 := wnum_meets (G := G) bs [a.client, a.num, a.code, (a.vals.length : Int)] (by simp; omega)
  generalize nums [a.client, a.num, a.code, (a.vals.length : Int)] = x1 at *
  have m2 := wtext_meets (G := G) (bs ++ x1) a.vals (by rw [List.length_append]; omega) (by omega)
  generalize txts a.vals = x2 at *
  rw [← List.append_assoc]
  generalize bs ++ x1 ++ x2 = y2 at *
  generalize bs ++ x1 = y1 at *
  simp [Rep.avS, wrM]
  refine call_intro m1 ?_ ?_
  · simp [wrM, I64_4]
  simp [wrM, I64_4]
  refine call_intro m2 ?_ ?_
  · simp [wrM]
  simp [wrM]
  refine post_end (.inl rfl) ?_
  simp

theorem qrrep_meets (r : Rd) : Meets Tryd.prog G fn_request_ReadReply [.ptr 1000 0 0] (rdM 0 r) true (r.rep.avR 3000 1) (rdM 1 r.rep' ++ [(3000, .rows 1 1 (Strs r.rep.vals))]) := by
  refine meets_of_go mix k_request_ReadReply ⟨by simp [rdM], by simp [rdM, Rep.avR], by simp [rdM]⟩ ?_
  obtain ⟨hN, hN2⟩ := r.repN_eq
  have hrep : r.rep = if (r.p4.tx' r.repN).bad = true then Rep.zero else ⟨r.inn 1 64, r.p1.inn 1 1099511627776, r.p2.inn 0 1024, r.p4.tx r.repN⟩ := rfl
  have hrep' : r.rep' = r.p4.tx' r.repN := rfl
  rw [hrep, hrep']
  generalize r.repN = N at *
  unfold Rd.p4 Rd.p3 Rd.p2 Rd.p1 at *
  have m1 := in_meets (G := G) r 1 64
  generalize r.inn' 1 64 = r1 at *
  have m2 := in_meets (G := G) r1 1 1099511627776
  generalize r1.inn' 1 1099511627776 = r2 at *
  have m3 := in_meets (G := G) r2 0 1024
  generalize r2.inn' 0 1024 = r3 at *
  have m4 := in_meets (G := G) r3 0 256
  rw [← hN] at m4
  generalize r3.inn' 0 256 = r4 at *
  generalize r.inn 1 64 = a1 at *
  generalize r1.inn 1 1099511627776 = a2 at *
  generalize r2.inn 0 1024 = a3 at *
  simp [rdM]
  refine call_intro m1 ?_ ?_
  · simp [rdM]
  simp [rdM]
  refine call_intro m2 ?_ ?_
  · simp [rdM]
  simp [rdM]
  refine call_intro m3 ?_ ?_
  · simp [rdM]
  simp [rdM]
  refine call_intro m4 ?_ ?_
  · simp [rdM]
  simp [rdM]
  refine go_up N (fun j (_ : Unit) => True) (fun j _ c => ⟨[(0, .ptr 1000 0 0), (2, .ptr 2 c 0), (3, .ptr 3 c 0), (12, .v (.int .i64 (N : Nat))), (13, .v (.int .i64 (j : Nat)))],
    [(2, .var c (.node [.v (.int .i64 0), .v (.int .i64 0), .v (.int .i64 0), .v (.slice none 0 0)])), (3, .var c (.node [.v (.int .i64 a1), .v (.int .i64 a2), .v (.int .i64 a3), .row 20 1 c 0 j])), (20, .rows c 1 (Strs (r4.tx j))),
     (1000, .var 0 (.node [.row 2000 1 c (r4.tx' j).pre.length (r4.tx' j).s.length, .v (.bool (r4.tx' j).bad)])), (2000, .rows c 1 (B ((r4.tx' j).pre ++ (r4.tx' j).s)))], c + 1⟩) () _ (Weak.re0 1000 (by simp [Rd.tx, Rd.tx'])) trivial ?_ ?_
  · intro j _ c hj _
    have hw : IntKind.i64.wrap ((j : Int) + 1) = ((j + 1 : Nat) : Int) := w64_succ (by omega)
    have f1 : fitsB (j + 1) 16 := fits (by omega) (by omega)
    have e1 : r4.tx (j + 1) = r4.tx j ++ [(r4.tx' j).text 1024] := rfl
    have e2 : r4.tx' (j + 1) = (r4.tx' j).text' 1024 := rfl
    have hl := r4.tx_length j
    generalize r4.tx j = x at *
    generalize r4.tx' j = q at *
    have m5 := text_meets (G := G) q 1024
    generalize q.text' 1024 = q' at *
    generalize q.text 1024 = t at *
    have hS : Strs x ++ [AV.v (.string (mkS t))] = Strs (x ++ [t]) := by simp [Strs]
    simp [hj, rdM]
    refine call_intro m5 ?_ ?_
    · simp [rdM]
    simp [rdM, f1, hl, hw, hS]
    exact ⟨(), _, Weak.re0 1000 (by simp [e1, e2]), trivial⟩
  · intro _ c _
    have hl := r4.tx_length N
    generalize r4.tx N = x at *
    generalize r4.tx' N = q at *
    have m6 := good_meets (G := G) q
    simp [rdM]
    refine call_intro m6 ?_ ?_
    · simp [rdM]
    cases hb : q.bad
    · simp [rdM, hb]
      refine post_end (.inr rfl) ?_
      simp [Rep.avR, hl, hb]
    · simp [rdM, hb]
      refine post_end (.inr rfl) ?_
      simp [Rep.avR, Rep.zero, hb]

/-! The reference. -/
theorem rqnums_meets (ns : List Int) (hn : ns.length ≤ 1000000) : Meets Tryd.prog G fn_r09_nums [.sl 1 (I64 ns)] [] true (.v (.string (mkS (nums ns)))) [] := by
  refine meets_of_go mix k_r09_nums ⟨by simp, by simp, by simp⟩ ?_
  simp
  refine go_up ns.length (fun j (x : Bytes) => x = nums (ns.take j)) (fun j x c => ⟨[(3, .v (.string (mkS x))), (6, .sl 1 (I64 ns)), (7, .v (.int .i64 (ns.length : Nat))), (8, .v (.int .i64 (j : Nat)))], [], c⟩) [] _ (Weak.refl _) (by simp [nums]) ?_ ?_
  · intro j x c hj hx
    have hw : IntKind.i64.wrap ((j : Int) + 1) = ((j + 1 : Nat) : Int) := w64_succ (by omega)
    have hs := nums_snoc ns j hj
    rw [← hx] at hs
    have hxl : x.length ≤ 8000000 := by rw [hx, nums_length, List.length_take]; omega
    have f1 : fitsS (x.length + 8) := fitS (by omega)
    have m1 := rfnum_meets (G := G) ns[j]
    have l1 := be8_length ns[j]
    generalize be8 ns[j] = y at *
    simp [hj]
    refine call_intro m1 ?_ ?_
    · simp
    simp [f1, l1, hw]
    exact ⟨x ++ y, _, Weak.refl _, hs.symm⟩
  · intro x c hx
    rw [List.take_length] at hx
    subst hx
    simp
    refine post_end (.inr rfl) ?_
    simp

theorem rqbytes_meets (a : Rep) (h : a.bytes.length ≤ 60000000) (hn : a.vals.length ≤ 1000000) : Meets Tryd.prog G fn_r09_ReplyBytes [a.avS] [] true (.v (.string (mkS a.bytes))) [] := by
  refine meets_of_go mix k_r09_ReplyBytes ⟨by simp, by simp, by simp⟩ ?_
  have hb : a.bytes = nums [a.client, a.num, a.code, (a.vals.length : Int)] ++ txts a.vals := rfl
  rw [hb] at h ⊢
  rw [List.length_append] at h
  have m1 := rqnums_meets (G := G) [a.client, a.num, a.code, (a.vals.length : Int)] (by simp)
  generalize nums [a.client, a.num, a.code, (a.vals.length : Int)] = x1 at *
  simp [Rep.avS]
  refine call_intro m1 ?_ ?_
  · simp [I64_4]
  simp [I64_4]
  refine go_up a.vals.length (fun j (x : Bytes) => x = x1 ++ txts (a.vals.take j)) (fun j x c => ⟨[(3, .v (.string (mkS x))), (18, .sl 1 (Strs a.vals)), (19, .v (.int .i64 (a.vals.length : Nat))), (20, .v (.int .i64 (j : Nat)))], [], c + 1⟩) x1 _ (Weak.re (by simp)) (by simp [txts]) ?_ ?_
  · intro j x c hj hx
    have hw : IntKind.i64.wrap ((j : Int) + 1) = ((j + 1 : Nat) : Int) := w64_succ (by omega)
    have hs := txts_snoc a.vals j hj
    have hle := txts_take_le a.vals (j + 1)
    rw [hs, List.length_append, txt_length] at hle
    have hxl : x.length + (4 + a.vals[j].length) ≤ 60000000 := by rw [hx, List.length_append]; omega
    have hx2 : x ++ txt a.vals[j] = x1 ++ txts (a.vals.take (j + 1)) := by rw [hx, hs, List.append_assoc]
    have m2 := rftext_meets (G := G) a.vals[j] (by omega)
    have l1 := txt_length a.vals[j]
    have f1 : fitsS (x.length + (4 + a.vals[j].length)) := fitS (by omega)
    generalize txt a.vals[j] = y at *
    simp [hj]
    refine call_intro m2 ?_ ?_
    · simp
    simp [f1, l1, hw]
    exact ⟨x ++ y, _, Weak.re (by simp), hx2⟩
  · intro x c hx
    rw [List.take_length] at hx
    subst hx
    simp
    refine post_end (.inr rfl) ?_
    simp

theorem rqtexts_meets (a b : List Bytes) (ha : a.length ≤ 1000000000) : Meets Tryd.prog G fn_r09_Texts [.sl 1 (Strs a), .sl 1 (Strs b)] [] true (.v (.bool (decide (a = b)))) [] := by
  refine meets_of_go mix k_r09_Texts ⟨by simp, by simp, by simp⟩ ?_
  have st : ∀ (j : Nat) (h1 : j < a.length) (h2 : j < b.length), a.take j = b.take j → a[j] = b[j] → a.take (j + 1) = b.take (j + 1) := by
    intro j h1 h2 h h3
    rw [take_snoc _ _ h1, take_snoc _ _ h2, h, h3]
  by_cases hl : a.length = b.length
  · simp [hl]
    refine go_up a.length (fun j (_ : Unit) => a.take j = b.take j) (fun j (_ : Unit) c => ⟨[(0, .sl 1 (Strs a)), (1, .sl 1 (Strs b)), (12, .v (.int .i64 (b.length : Nat))), (13, .v (.int .i64 (j : Nat)))], [], c⟩) () _ (Weak.refl _) (by simp) ?_ ?_
    · intro j _ c hj hx
      have hw : IntKind.i64.wrap ((j : Int) + 1) = ((j + 1 : Nat) : Int) := w64_succ (by omega)
      have hj2 : j < b.length := by omega
      by_cases he : a[j] = b[j]
      · simp [hj, hj2, he, hw]
        exact ⟨(), _, Weak.refl _, st j hj hj2 hx he⟩
      · have hne : ¬ a = b := by intro e; subst e; exact he rfl
        have hq : (a[j] == b[j]) = false := beq_eq_false_iff_ne.2 he
        simp [hj, hj2, hq, hw]
        refine post_end (.inr rfl) ?_
        simp [hne]
    · intro _ c hx
      have he : a = b := by rw [List.take_length, hl, List.take_length] at hx; exact hx
      simp [hl]
      refine post_end (.inr rfl) ?_
      simp [he]
  · have hne : ¬ a = b := by intro e; subst e; exact hl rfl
    have c1 : ¬ (a.length : Int) = (b.length : Nat) := by omega
    simp [hl, c1]
    refine post_end (.inr rfl) ?_
    simp [hne]

def Rep.same (a b : Rep) : Bool := decide (a.client = b.client) && decide (a.num = b.num) && decide (a.code = b.code) && decide (a.vals = b.vals)
theorem rqsame_meets (a b : Rep) (ha : a.vals.length ≤ 1000000000) : Meets Tryd.prog G fn_r09_Same [a.avS, b.avS] [] true (.v (.bool (a.same b))) [] := by
  refine meets_of_go mix k_r09_Same ⟨by simp, by simp, by simp⟩ ?_
  unfold Rep.same
  by_cases c1 : a.client = b.client
  · by_cases c2 : a.num = b.num
    · by_cases c3 : a.code = b.code
      · simp [Rep.avS, c1, c2, c3]
        refine call_intro (rqtexts_meets a.vals b.vals ha) ?_ ?_
        · simp
        simp
        refine post_end (.inr rfl) ?_
        simp
      · simp [Rep.avS, c1, c2, c3]
        refine post_end (.inr rfl) ?_
        simp
    · simp [Rep.avS, c1, c2]
      refine post_end (.inr rfl) ?_
      simp
  · simp [Rep.avS, c1]
    refine post_end (.inr rfl) ?_
    simp
end Go.Proofs.YtbmdaaehogpeeaaDoor.WL

end
section
/-
  CHAPTER 09: contracts of the reference: reading replies.
-/
namespace Go.Proofs.YtbmdaaehogpeeaaDoor.WL
open Go
set_option maxHeartbeats 4000000
variable {G : Nat → Option AV}

theorem rqrrep_meets (r : Rd) : Meets Tryd.prog G fn_r09_ReadReply [.ptr 1000 0 0] (rfM r) true (r.rep.avR 3000 1) (rfM r.rep' ++ [(3000, .rows 1 1 (Strs r.rep.vals))]) := by
  refine meets_of_go mix k_r09_ReadReply ⟨by simp [rfM], by simp [rfM, Rep.avR], by simp [rfM]⟩ ?_
  obtain ⟨hN, hN2⟩ := r.repN_eq
  have hsane : ∀ n, (r.p4.tx' n).sane := r.p4.tx_sane (Rd.inn_sane _ _ _)
  have hrep : r.rep = if (r.p4.tx' r.repN).bad = true then Rep.zero else ⟨r.inn 1 64, r.p1.inn 1 1099511627776, r.p2.inn 0 1024, r.p4.tx r.repN⟩ := rfl
  have hrep' : r.rep' = r.p4.tx' r.repN := rfl
  rw [hrep, hrep']
  generalize r.repN = N at *
  unfold Rd.p4 Rd.p3 Rd.p2 Rd.p1 at *
  have m1 := rin_meets (G := G) r 1 64
  generalize r.inn' 1 64 = r1 at *
  have m2 := rin_meets (G := G) r1 1 1099511627776
  generalize r1.inn' 1 1099511627776 = r2 at *
  have m3 := rin_meets (G := G) r2 0 1024
  generalize r2.inn' 0 1024 = r3 at *
  have m4 := rin_meets (G := G) r3 0 256
  rw [← hN] at m4
  generalize r3.inn' 0 256 = r4 at *
  generalize r.inn 1 64 = a1 at *
  generalize r1.inn 1 1099511627776 = a2 at *
  generalize r2.inn 0 1024 = a3 at *
  simp [rfM]
  refine call_intro m1 ?_ ?_
  · simp [rfM]
  simp [rfM]
  refine call_intro m2 ?_ ?_
  · simp [rfM]
  simp [rfM]
  refine call_intro m3 ?_ ?_
  · simp [rfM]
  simp [rfM]
  refine call_intro m4 ?_ ?_
  · simp [rfM]
  simp [rfM]
  refine go_up N (fun j (_ : Unit) => True) (fun j _ c => ⟨[(0, .ptr 1000 0 0), (2, .ptr 2 c 0), (3, .ptr 3 c 0), (4, .v (.int .i64 (N : Nat))), (5, .v (.int .i64 (j : Nat)))],
    [(2, .var c (.node [.v (.int .i64 0), .v (.int .i64 0), .v (.int .i64 0), .v (.slice none 0 0)])), (3, .var c (.node [.v (.int .i64 a1), .v (.int .i64 a2), .v (.int .i64 a3), .row 31 1 c 0 j])), (31, .rows c 1 (Strs (r4.tx j))),
     (1000, .var 0 (.node [.v (.string (mkS (r4.tx' j).s)), .v (.bool (r4.tx' j).bad)]))], c + 1⟩) () _ (Weak.re0 1000 (by simp [Rd.tx, Rd.tx'])) trivial ?_ ?_
  · intro j _ c hj _
    have hw : IntKind.i64.wrap ((j : Int) + 1) = ((j + 1 : Nat) : Int) := w64_succ (by omega)
    have f1 : fitsB (j + 1) 16 := fits (by omega) (by omega)
    have e1 : r4.tx (j + 1) = r4.tx j ++ [(r4.tx' j).text 1024] := rfl
    have e2 : r4.tx' (j + 1) = (r4.tx' j).text' 1024 := rfl
    have hl := r4.tx_length j
    have hsj := hsane j
    have hsN := hsane N
    have hbN := r4.tx_bad j
    have m6 := rgood_meets (G := G) (r4.tx' j)
    generalize r4.tx j = x at *
    cases hb : (r4.tx' j).bad
    · generalize r4.tx' j = q at *
      have m5 := rtext_meets (G := G) q 1024
      generalize q.text' 1024 = q' at *
      generalize q.text 1024 = t at *
      have hS : Strs x ++ [AV.v (.string (mkS t))] = Strs (x ++ [t]) := by simp [Strs]
      simp [hj, rfM, hb]
      refine call_intro m6 ?_ ?_
      · simp [rfM, hb]
      simp [rfM, hb]
      refine call_intro m5 ?_ ?_
      · simp [rfM, hb]
      simp [rfM, f1, hl, hw, hS]
      exact ⟨(), _, Weak.re0 1000 (by simp [e1, e2]), trivial⟩
    · have hbn := hbN hb N (by omega)
      have s1 := hsj hb
      have s2 := hsN hbn
      generalize r4.tx' j = q at *
      generalize r4.tx' N = p at *
      simp [hj, rfM, hb]
      refine call_intro m6 ?_ ?_
      · simp [rfM, hb]
      simp [rfM, hb]
      refine call_intro m6 ?_ ?_
      · simp [rfM, hb]
      simp [rfM, hb]
      refine post_end (.inr rfl) ?_
      simp [Rep.avR, Rep.zero, hb, hbn, s1, s2]
  · intro _ c _
    have hl := r4.tx_length N
    generalize r4.tx N = x at *
    generalize r4.tx' N = q at *
    have m6 := rgood_meets (G := G) q
    simp [rfM]
    refine call_intro m6 ?_ ?_
    · simp [rfM]
    cases hb : q.bad
    · simp [rfM, hb]
      refine post_end (.inr rfl) ?_
      simp [Rep.avR, hl, hb]
    · simp [rfM, hb]
      refine post_end (.inr rfl) ?_
      simp [Rep.avR, Rep.zero, hb]
end Go.Proofs.YtbmdaaehogpeeaaDoor.WL

end
section
/-
  CHAPTER 12: contracts of blocks: what follows, what is the same; reading.
-/
namespace Go.Proofs.YtbmdaaehogpeeaaDoor.WL
open Go
set_option maxHeartbeats 4000000
variable {G : Nat → Option AV}

def Blk.follows (b : Blk) (e h : Int) (p s : Dg) : Bool := b.good && (decide (b.epoch = e) && decide (b.height = h) && decide (b.prev = p) && decide (b.state = s))
end Go.Proofs.YtbmdaaehogpeeaaDoor.WL

end
section
/-
  CHAPTER 09: walks of laws.
-/
namespace Go.Proofs.YtbmdaaehogpeeaaDoor.WL
open Go
set_option maxHeartbeats 4000000
variable {G : Nat → Option AV}

def Req.put : Req := ⟨1, 1, 2, [107], [118], [], Chg.zero⟩
end Go.Proofs.YtbmdaaehogpeeaaDoor.WL

end
section
/-
  CHAPTER 09: walks of laws: reading.
-/
namespace Go.Proofs.YtbmdaaehogpeeaaDoor.WL
open Go
set_option maxHeartbeats 4000000
variable {G : Nat → Option AV}

theorem cmp_int (k : IntKind) (a b : Int) : cmpA (.int k) (.v (.int k a)) (.v (.int k b)) = some (decide (a = b)) := by
  simp [cmpA]
  rw [Bool.eq_iff_iff]
  simp
theorem cmp_dg (a b : Dg) : cmpA (.ints .u8 32) (dv a) (dv b) = some (decide (a = b)) := by
  have e : (natsOf a.bs == natsOf b.bs) = decide (a = b) := by
    rw [Bool.eq_iff_iff, beq_iff_eq, decide_eq_true_eq]
    exact ⟨fun h => Dg.ext' (toNats_inj.1 h), fun h => by rw [h]⟩
  have la : (natsOf a.bs).length = 32 := by simp [natsOf]
  have lb : (natsOf b.bs).length = 32 := by simp [natsOf]
  simp [cmpA, la, lb, e]
deriving instance DecidableEq for Chg, Req
end Go.Proofs.YtbmdaaehogpeeaaDoor.WL

end
