/- Texts put together: S01a, S01b, S01e, S05b, S01d, S01f, S09a, S09b. -/
import Derived.Test.YtjlmpdbagmdbiaaDoorWc2
section
/-
  CHAPTER 01: contracts of the reader.
-/
namespace Go.Proofs.YtjlmpdbagmdbiaaDoor.WL
open Go
set_option maxHeartbeats 4000000

/-- A reader's memory. -/
def rdM (g : Nat) (r : Rd) : List (Nat × Loc) := [(1000, .var 0 (.node [.row 2000 1 g r.pre.length r.s.length, .v (.bool r.bad)])), (2000, .rows g 1 (B (r.pre ++ r.s)))]
/-- Where the bytes lie that were taken. -/
def Rd.at_ (r : Rd) (k : Int) : Nat := if r.ok k = true then r.pre.length else 0
theorem Rd.at_le (r : Rd) (k : Int) : r.at_ k + (r.got k).length = (r.skip k).pre.length := by
  unfold Rd.at_ Rd.got Rd.skip
  split <;> simp [Rd.fault]
theorem Rd.at_drop (r : Rd) (k : Int) : ((r.skip k).pre ++ (r.skip k).s).drop (r.at_ k) = r.got k ++ (r.skip k).s := by
  unfold Rd.at_ Rd.got Rd.skip
  split <;> simp [Rd.fault]
theorem Rd.at_get (r : Rd) (k : Int) (j : Nat) (h : j < (r.got k).length) : ((r.skip k).pre ++ (r.skip k).s)[r.at_ k + j]? = some (r.got k)[j] := by
  rw [← List.getElem?_drop, Rd.at_drop, List.getElem?_append_left h, List.getElem?_eq_getElem h]

theorem read_meets {G : Nat → Option AV} (bs : Bytes) (h : fitsB bs.length 1) : Meets Tryd.prog G fn_code_Read [.sl 1 (B bs)] [] true (.ptr 1000 1 0) [(1000, .var 1 (.node [.row 2000 1 1 0 bs.length, .v (.bool false)])), (2000, .rows 1 1 (B bs))] := by
  refine meets_of_go mix k_code_Read ⟨by simp, by simp, by simp⟩ ?_
  simp [h]
  refine post_end (.inr rfl) ?_
  simp

theorem good_meets {G : Nat → Option AV} (r : Rd) : Meets Tryd.prog G fn_code_Reader_Good [.ptr 1000 0 0] (rdM 0 r) true (.v (.bool !r.bad)) (rdM 1 r) := by
  refine meets_of_go mix k_code_Reader_Good ⟨by simp [rdM], by simp, by simp [rdM]⟩ ?_
  simp [rdM]
  refine post_end (.inr rfl) ?_
  simp

theorem take_meets {G : Nat → Option AV} (r : Rd) (k : Int) :
    Meets Tryd.prog G fn_code_Reader_take [.ptr 1000 0 0, .v (.int .i64 k)] (rdM 0 r) true (.row 2000 1 1 (r.at_ k) (r.got k).length) (rdM 1 (r.skip k)) := by
  refine meets_of_go mix k_code_Reader_take ⟨by simp [rdM], by simp [rdM], by simp [rdM]⟩ ?_
  cases hok : r.ok k with
  | true =>
    have h := hok
    simp only [Rd.ok, Bool.and_eq_true, Bool.not_eq_true', decide_eq_true_eq] at h
    obtain ⟨⟨h1, h2⟩, h3⟩ := h
    have h4 : ¬ (k < 0) := by omega
    have h5 : ¬ ((r.s.length : Int) < k) := by omega
    obtain ⟨n, rfl⟩ := Int.eq_ofNat_of_zero_le h2
    have h6 : n ≤ r.s.length := by omega
    simp [rdM, h1, h3, h4, h5, h6, Rd.at_, Rd.got, Rd.skip, hok]
    refine post_end (.inr rfl) ?_
    simp [h6]
  | false =>
    have h : r.bad = true ∨ k < 0 ∨ (r.s.length : Int) < k := by
      simp only [Rd.ok] at hok
      cases hb : r.bad
      · simp [hb] at hok; omega
      · simp
    cases hb : r.bad
    · simp [hb] at h
      by_cases h0 : k < 0
      · simp [rdM, hb, h0, Rd.at_, Rd.got, Rd.skip, hok]
        refine post_end (.inr rfl) ?_
        simp [Rd.fault]
      · have h1 : (r.s.length : Int) < k := by omega
        simp [rdM, hb, h0, h1, Rd.at_, Rd.got, Rd.skip, hok]
        refine post_end (.inr rfl) ?_
        simp [Rd.fault]
    · simp [rdM, hb, Rd.at_, Rd.got, Rd.skip, hok]
      refine post_end (.inr rfl) ?_
      simp [Rd.fault]

end Go.Proofs.YtjlmpdbagmdbiaaDoor.WL

end
section
/-
  CHAPTER 01: contracts of the reader, second part.
-/
namespace Go.Proofs.YtjlmpdbagmdbiaaDoor.WL
open Go
set_option maxHeartbeats 4000000

/-- The reader's memory behind the first call. -/
def rdC (r : Rd) : List (Nat × Loc) := [(1000, .var 0 (.node [.row 1072000 1 5 r.pre.length r.s.length, .v (.bool r.bad)])), (1072000, .rows 5 1 (B (r.pre ++ r.s)))]

theorem num_meets {G : Nat → Option AV} (r : Rd) : Meets Tryd.prog G fn_code_Reader_Num [.ptr 1000 0 0] (rdM 0 r) true (.v (.int .i64 r.num)) (rdM 1 r.num') := by
  refine meets_of_go mix k_code_Reader_Num ⟨by simp [rdM], by simp, by simp [rdM]⟩ ?_
  simp
  refine call_intro (take_meets r 8) ?_ ?_
  · simp [rdM]
  simp [rdM]
  refine go_up (r.got 8).length (fun _ _ => True) (fun j (_ : Unit) c => ⟨[(3, .v (.int .u64 (beVal ((r.got 8).take j) : Nat))), (7, .row 1072000 1 5 (r.at_ 8) (r.got 8).length), (8, .v (.int .i64 ((r.got 8).length : Nat))), (9, .v (.int .i64 (j : Nat)))], rdC (r.skip 8), c⟩)
    () _ (Weak.refl _) trivial ?_ ?_
  · intro j _ c hj _
    have h8 : (r.got 8).length ≤ 8 := r.got_le 8
    have hw : IntKind.i64.wrap ((j : Int) + 1) = ((j + 1 : Nat) : Int) := w64_succ (by omega)
    have hlt : beVal ((r.got 8).take j) < 2 ^ 56 := Nat.lt_of_lt_of_le (beVal_lt _) (by
      rw [List.length_take]
      exact Nat.le_trans (Nat.pow_le_pow_right (by omega) (show min j (r.got 8).length ≤ 7 by omega)) (by decide))
    have hb := byte_u64 (beVal ((r.got 8).take j)) (r.got 8)[j] hlt
    rw [← beVal_take_succ _ _ hj] at hb
    have hget := r.at_get 8 j hj
    have hle := r.at_le 8
    simp [rdC, hj, hget, hw, hb]
    exact ⟨(), _, Weak.refl _, trivial⟩
  · intro _ c _
    simp [rdC]
    refine post_end (.inr rfl) ?_
    simp [Rd.num, Rd.num']

theorem digest_meets {G : Nat → Option AV} (r : Rd) : Meets Tryd.prog G fn_code_Reader_Digest [.ptr 1000 0 0] (rdM 0 r) true (dv r.dg) (rdM 1 r.dg') := by
  refine meets_of_go mix k_code_Reader_Digest ⟨by simp [rdM], by simp, by simp [rdM]⟩ ?_
  have h1 : (32 : Nat) ≤ maxLen := by decide
  have h3 := r.at_le 32
  have h4 : (r.got 32).length ≤ 32 := r.got_le 32
  have h5 : (List.take (r.got 32).length (List.drop (r.at_ 32) ((r.skip 32).pre ++ (r.skip 32).s))) = r.got 32 := by rw [Rd.at_drop]; simp
  have h6 : splice (B (zeros 32)) 0 (B (r.got 32)) = B r.dg.bs := splice_zeros 32 (r.got 32)
  simp [h1]
  refine call_intro (take_meets r 32) ?_ ?_
  · simp [rdM]
  simp [rdM, h3, h4, h5, h6]
  refine post_end (.inr rfl) ?_
  simp [Rd.dg']

theorem in_meets {G : Nat → Option AV} (r : Rd) (lo hi : Int) : Meets Tryd.prog G fn_code_Reader_In [.ptr 1000 0 0, .v (.int .i64 lo), .v (.int .i64 hi)] (rdM 0 r) true (.v (.int .i64 (r.inn lo hi))) (rdM 1 (r.inn' lo hi)) := by
  refine meets_of_go mix k_code_Reader_In ⟨by simp [rdM], by simp, by simp [rdM]⟩ ?_
  simp
  refine call_intro (num_meets r) ?_ ?_
  · simp [rdM]
  simp [rdM]
  by_cases h1 : lo ≤ r.num
  · by_cases h2 : r.num ≤ hi
    · cases hb : r.num'.bad
      · simp [h1, h2]
        refine post_end (.inr rfl) ?_
        simp [Rd.inn, Rd.inn', Rd.inOk, h1, h2, hb]
      · simp [h1, h2]
        refine post_end (.inr rfl) ?_
        simp [Rd.inn, Rd.inn', Rd.inOk, hb, Rd.fault]
    · simp [h1, h2]
      refine post_end (.inr rfl) ?_
      simp [Rd.inn, Rd.inn', Rd.inOk, h2, Rd.fault]
  · simp [h1]
    refine post_end (.inr rfl) ?_
    simp [Rd.inn, Rd.inn', Rd.inOk, h1, Rd.fault]

theorem end_meets {G : Nat → Option AV} (r : Rd) : Meets Tryd.prog G fn_code_Reader_End [.ptr 1000 0 0] (rdM 0 r) true (.v (.bool r.done)) (rdM 1 r) := by
  refine meets_of_go mix k_code_Reader_End ⟨by simp [rdM], by simp, by simp [rdM]⟩ ?_
  simp
  refine call_intro (good_meets r) ?_ ?_
  · simp [rdM]
  cases hb : r.bad
  · simp [rdM]
    refine post_end (.inr rfl) ?_
    simp [Rd.done, hb]
  · simp [rdM]
    refine post_end (.inr rfl) ?_
    simp [Rd.done, hb]

end Go.Proofs.YtjlmpdbagmdbiaaDoor.WL

end
section
/-
  CHAPTER 01: contracts of the writer.
-/
namespace Go.Proofs.YtjlmpdbagmdbiaaDoor.WL
open Go
set_option maxHeartbeats 4000000

/-- A writer that holds these bytes. -/
def wrM (g : Nat) (bs : Bytes) : List (Nat × Loc) := [(1000, .var 0 (.node [.row 2000 1 g 0 bs.length])), (2000, .rows g 1 (B bs))]

theorem bytes_meets {G : Nat → Option AV} (bs : Bytes) (hb : bs.length ≤ 67108864) :
    Meets Tryd.prog G fn_code_Writer_Bytes [.ptr 1000 0 0] (wrM 0 bs) true (.row 3000 1 1 0 bs.length) (wrM 1 bs ++ [(3000, .rows 1 1 (B bs))]) := by
  refine meets_of_go mix k_code_Writer_Bytes ⟨by simp [wrM], by simp [wrM], by simp [wrM]⟩ ?_
  have h1 : fitsB bs.length 1 := fits (by omega) (by omega)
  simp [wrM, h1]
  refine post_end (.inr rfl) ?_
  simp

/-- The writer's state in a loop: its stamp, its length, its bytes. -/
abbrev WrA := Nat × Nat × Bytes
def wrA (a : WrA) : List (Nat × Loc) := [(1000, .var 0 (.node [.row 2000 1 a.1 0 a.2.1])), (2000, .rows a.1 1 (B a.2.2))]

theorem wnum_meets {G : Nat → Option AV} (bs : Bytes) (ns : List Int) (hb : bs.length + 8 * ns.length ≤ 67108864) :
    Meets Tryd.prog G fn_code_Writer_Num [.ptr 1000 0 0, .sl 1 (I64 ns)] (wrM 0 bs) true (.tup []) (wrM 1 (bs ++ nums ns)) := by
  refine meets_of_go mix k_code_Writer_Num ⟨by simp [wrM], by simp, by simp [wrM]⟩ ?_
  simp [wrM]
  refine go_up ns.length (fun j (a : WrA) => match a with | (_, n, x) => n = x.length ∧ x = bs ++ nums (ns.take j)) (fun j a c => ⟨[(0, .ptr 1000 0 0), (9, .sl 1 (I64 ns)), (10, .v (.int .i64 (ns.length : Nat))), (11, .v (.int .i64 (j : Nat)))], wrA a, c⟩)
    (0, bs.length, bs) _ (Weak.refl _) (by simp [nums]) ?_ ?_
  · rintro j ⟨g, n, L⟩ c hj ⟨rfl, hL⟩
    simp [hj, wrA]
    refine go_up 8 (fun t (a : WrA) => match a with | (_, n, x) => n = x.length ∧ x = L ++ (be8 ns[j]).take t) (fun t a c => ⟨[(0, .ptr 1000 0 0), (5, .v (.int .i64 ns[j])), (6, .v (.int .i64 (56 - 8 * (t : Int)))), (9, .sl 1 (I64 ns)), (10, .v (.int .i64 (ns.length : Nat))), (11, .v (.int .i64 (j : Nat)))], wrA a, c⟩)
      (g, L.length, L) _ (Weak.refl _) (by simp) ?_ ?_
    · rintro t ⟨g', n', L'⟩ c' ht ⟨rfl, hL'⟩
      have h8 : 8 * (t : Int) ≤ 56 := by omega
      have h0 : (0 : Int) ≤ 56 - 8 * (t : Int) := by omega
      have hmin : min (56 - 8 * (t : Int)).toNat 64 = 56 - 8 * t := by omega
      have hw : IntKind.i64.wrap (56 - 8 * (t : Int) - 8) = 56 - 8 * ((t + 1 : Nat) : Int) := by rw [w64_id (by omega)]; omega
      have hLl : L'.length ≤ 67108863 := by
        rw [hL', hL]
        simp only [List.length_append, nums_length, List.length_take, be8_length]
        omega
      have hm1 : fitsB (L'.length + 1) 1 := fits (by omega) (by omega)
      simp [wrA, h8, hmin, hw, hm1, bv_u8, be8_u64 _ _ ht, B_snoc]
      exact ⟨(_, _, _), _, (Weak.keep [1000, 2000] _ _ _).trans (Weak.refl _), by simp, by rw [hL', be8_take _ _ ht, List.append_assoc]⟩
    · rintro ⟨g', n', L'⟩ c' ⟨rfl, hL'⟩
      have hw : IntKind.i64.wrap ((j : Int) + 1) = ((j + 1 : Nat) : Int) := w64_succ (by omega)
      simp [wrA, hw]
      exact ⟨(_, _, _), _, Weak.refl _, rfl, by rw [hL', hL, nums_snoc _ _ hj, List.append_assoc, List.take_of_length_le (l := be8 ns[j]) (by simp)]⟩
  · rintro ⟨g, n, L⟩ c ⟨rfl, hL⟩
    have : L = bs ++ nums ns := by rw [hL]; simp
    subst this
    simp [wrA]
    refine post_end (.inl rfl) ?_
    simp

theorem wdigest_meets {G : Nat → Option AV} (bs : Bytes) (ds : List Dg) (hb : bs.length + 32 * ds.length ≤ 67108864) :
    Meets Tryd.prog G fn_code_Writer_Digest [.ptr 1000 0 0, .sl 32 (Dgs ds)] (wrM 0 bs) true (.tup []) (wrM 1 (bs ++ flatD ds)) := by
  refine meets_of_go mix k_code_Writer_Digest ⟨by simp [wrM], by simp, by simp [wrM]⟩ ?_
  simp [wrM]
  refine go_up ds.length (fun j (a : WrA) => match a with | (_, n, x) => n = x.length ∧ x = bs ++ flatD (ds.take j)) (fun j a c => ⟨[(0, .ptr 1000 0 0), (8, .sl 32 (Dgs ds)), (9, .v (.int .i64 (ds.length : Nat))), (10, .v (.int .i64 (j : Nat)))], wrA a, c⟩)
    (0, bs.length, bs) _ (Weak.refl _) (by simp [flatD]) ?_ ?_
  · rintro j ⟨g, n, L⟩ c hj ⟨rfl, hL⟩
    have hLl : L.length + 32 ≤ 67108864 := by rw [hL, List.length_append, flatD_length, List.length_take]; omega
    have hm1 : fitsB (L.length + 32) 1 := fits (by omega) (by omega)
    have hw : IntKind.i64.wrap ((j : Int) + 1) = ((j + 1 : Nat) : Int) := w64_succ (by omega)
    simp [wrA, hj, hm1, hw]
    exact ⟨(_, _, _), _, (Weak.keep [1000, 2000] _ _ _).trans (Weak.refl _), by simp, by rw [hL, flatD_snoc _ _ hj, List.append_assoc]⟩
  · rintro ⟨g, n, L⟩ c ⟨rfl, hL⟩
    have : L = bs ++ flatD ds := by rw [hL]; simp
    subst this
    simp [wrA]
    refine post_end (.inl rfl) ?_
    simp

theorem wtext_meets {G : Nat → Option AV} (bs : Bytes) (ss : List Bytes) (hb : bs.length + (txts ss).length ≤ 67108864) (hn : ss.length ≤ 67108864) :
    Meets Tryd.prog G fn_code_Writer_Text [.ptr 1000 0 0, .sl 1 (Strs ss)] (wrM 0 bs) true (.tup []) (wrM 1 (bs ++ txts ss)) := by
  refine meets_of_go mix k_code_Writer_Text ⟨by simp [wrM], by simp, by simp [wrM]⟩ ?_
  simp [wrM]
  refine go_up ss.length (fun j (a : WrA) => match a with | (_, n, x) => n = x.length ∧ x = bs ++ txts (ss.take j)) (fun j a c => ⟨[(0, .ptr 1000 0 0), (9, .sl 1 (Strs ss)), (10, .v (.int .i64 (ss.length : Nat))), (11, .v (.int .i64 (j : Nat)))], wrA a, c⟩)
    (0, bs.length, bs) _ (Weak.refl _) (by simp [txts]) ?_ ?_
  · rintro j ⟨g, n, L⟩ c hj ⟨rfl, hL⟩
    have hsz := txts_take_le ss (j + 1)
    rw [txts_snoc _ _ hj, List.length_append, txt_length] at hsz
    have hLl : L.length + (4 + ss[j].length) ≤ 67108864 := by rw [hL, List.length_append]; omega
    have hm1 : fitsB (L.length + 4) 1 ∧ fitsB (L.length + 4 + ss[j].length) 1 := ⟨fits (by omega) (by omega), fits (by omega) (by omega)⟩
    have hw : IntKind.i64.wrap ((j : Int) + 1) = ((j + 1 : Nat) : Int) := w64_succ (by omega)
    simp [wrA, hj, hm1, hw, bv_u8]
    exact ⟨(_, _, _), _, (Weak.keep [1000, 2000] _ _ _).trans (Weak.refl _), by simp; omega, by rw [hL, txts_snoc _ _ hj]; simp [txt, be4]⟩
  · rintro ⟨g, n, L⟩ c ⟨rfl, hL⟩
    have : L = bs ++ txts ss := by rw [hL]; simp
    subst this
    simp [wrA]
    refine post_end (.inl rfl) ?_
    simp

end Go.Proofs.YtjlmpdbagmdbiaaDoor.WL

end
section
/-
  CHAPTER 05: contracts of the program: writing and reading.
-/
namespace Go.Proofs.YtjlmpdbagmdbiaaDoor.WL
open Go
set_option maxHeartbeats 4000000
variable {G : Nat → Option AV}

theorem kwrite_bad (bs : Bytes) (s : Sig) (h : s.ok = false) : Meets Tryd.prog G fn_keys_Write [.ptr 1000 0 0, s.avS] (wrM 0 bs) true (.v (.bool false)) (wrM 1 bs) := by
  refine meets_of_go mix k_keys_Write ⟨by simp [wrM], by simp, by simp [wrM]⟩ ?_
  simp only [Sig.ok, decide_eq_false_iff_not] at h
  by_cases h1 : s.op.length = 32
  · by_cases h2 : s.sh.length = 32
    · have h3 : 6 < s.path.length := by omega
      have h3i : (6 : Int) < (s.path.length : Nat) := by omega
      simp [Sig.avS, wrM, h1, h2, h3, h3i]
      refine post_end (.inr rfl) ?_
      simp
    · have h2i : ¬ (s.sh.length : Int) = 32 := by omega
      simp [Sig.avS, wrM, h1, h2, h2i]
      refine post_end (.inr rfl) ?_
      simp
  · have h1i : ¬ (s.op.length : Int) = 32 := by omega
    simp [Sig.avS, wrM, h1, h1i]
    refine post_end (.inr rfl) ?_
    simp

theorem kwrite_meets (bs : Bytes) (s : Sig) (h : s.ok = true) (hb : bs.length ≤ 50000000) : Meets Tryd.prog G fn_keys_Write [.ptr 1000 0 0, s.avS] (wrM 0 bs) true (.v (.bool true)) (wrM 1 (bs ++ s.bytes)) := by
  refine meets_of_go mix k_keys_Write ⟨by simp [wrM], by simp, by simp [wrM]⟩ ?_
  simp only [Sig.ok, decide_eq_true_eq] at h
  obtain ⟨h1, h2, h3⟩ := h
  have h1i : (s.op.length : Int) = 32 := by omega
  have h2i : (s.sh.length : Int) = 32 := by omega
  have h3i : ¬ (6 : Int) < (s.path.length : Nat) := by omega
  have h3n : ¬ 6 < s.path.length := by omega
  have hbts : s.bytes = nums [s.leaf, (s.path.length : Int)] ++ (flatD s.op ++ (flatD s.sh ++ flatD s.path)) := rfl
  rw [hbts]
  have n1 := nums_length [s.leaf, (s.path.length : Int)]
  have n2 := flatD_length s.op
  have n3 := flatD_length s.sh
  simp only [List.length_cons, List.length_nil] at n1
  have m1 := wnum_meets (G := G) bs [s.leaf, (s.path.length : Int)] (by simp; omega)
  generalize nums [s.leaf, (s.path.length : Int)] = x1 at *
  have m2 := wdigest_meets (G := G) (bs ++ x1) s.op (by simp only [List.length_append]; omega)
  generalize flatD s.op = x2 at *
  have m3 := wdigest_meets (G := G) (bs ++ x1 ++ x2) s.sh (by simp only [List.length_append]; omega)
  generalize flatD s.sh = x3 at *
  have m4 := wdigest_meets (G := G) (bs ++ x1 ++ x2 ++ x3) s.path (by simp only [List.length_append]; omega)
  generalize flatD s.path = x4 at *
  have e : bs ++ (x1 ++ (x2 ++ (x3 ++ x4))) = bs ++ x1 ++ x2 ++ x3 ++ x4 := by simp
  rw [e]
  generalize bs ++ x1 ++ x2 ++ x3 ++ x4 = y4 at *
  generalize bs ++ x1 ++ x2 ++ x3 = y3 at *
  generalize bs ++ x1 ++ x2 = y2 at *
  generalize bs ++ x1 = y1 at *
  simp [Sig.avS, wrM, h1, h2, h3n, h3i]
  refine call_intro m1 ?_ ?_
  · simp [wrM, I64_2]
  simp [wrM, I64_2]
  refine call_intro m2 ?_ ?_
  · simp [wrM]
  simp [wrM]
  refine call_intro m3 ?_ ?_
  · simp [wrM]
  simp [wrM]
  refine call_intro m4 ?_ ?_
  · simp [wrM]
  simp [wrM]
  refine post_end (.inr rfl) ?_
  simp

/-- The memory of a reader and of a signature under way. -/
def kdM (c : Nat) (q : Rd) (leaf : Int) (o s p : List Dg) : List (Nat × Loc) :=
  [(2, .var c (.node [.v (.int .i64 0), .node [.v (.slice none 0 0), .v (.slice none 0 0)], .v (.slice none 0 0)])), (3, .var c (.node [.v (.int .i64 leaf), .node [.row 22 32 c 0 o.length, .row 34 32 c 0 s.length], .row 46 32 c 0 p.length])),
   (22, .rows c 32 (Dgs o)), (34, .rows c 32 (Dgs s)), (46, .rows c 32 (Dgs p)),
   (1000, .var 0 (.node [.row 2000 1 c q.pre.length q.s.length, .v (.bool q.bad)])), (2000, .rows c 1 (B (q.pre ++ q.s)))]

theorem kread_meets (r : Rd) : Meets Tryd.prog G fn_keys_Read [.ptr 1000 0 0] (rdM 0 r) true (Sig.avR 3000 4000 5000 1 r.sig) (rdM 1 r.sig' ++ Sig.rows 3000 4000 5000 1 r.sig) := by
  refine meets_of_go mix k_keys_Read ⟨by simp [rdM, Sig.rows], by simp [rdM, Sig.rows, Sig.avR], by simp [rdM, Sig.rows]⟩ ?_
  obtain ⟨hN, hN2⟩ := r.sN_eq
  have m1 := num_meets (G := G) r
  have m2 := in_meets (G := G) r.num' 0 6
  rw [← hN] at m2
  have m3 := good_meets (G := G) r.s2
  have hs2 : r.num'.inn' 0 6 = r.s2 := rfl
  rw [hs2] at m2
  cases hb : r.s2.bad
  · have hsig' : r.sig' = ((r.s2.ds' 32).ds' 32).ds' r.sN := rfl
    have hsig : r.sig = if (((r.s2.ds' 32).ds' 32).ds' r.sN).bad = true then Sig.zero else ⟨r.num, r.s2.ds 32, (r.s2.ds' 32).ds 32, ((r.s2.ds' 32).ds' 32).ds r.sN⟩ := rfl
    rw [hsig', hsig]
    generalize r.sN = N at *
    generalize r.num' = r1 at *
    generalize r.num = lf at *
    generalize r.s2 = r2 at *
    obtain ⟨M, hM⟩ : ∃ M, M = 32 := ⟨_, rfl⟩
    rw [← hM]
    simp [rdM]
    refine call_intro m1 ?_ ?_
    · simp [rdM]
    simp [rdM]
    refine call_intro m2 ?_ ?_
    · simp [rdM]
    simp [rdM]
    refine call_intro m3 ?_ ?_
    · simp [rdM]
    simp [rdM, hb]
    refine go_up M (fun j (_ : Unit) => True) (fun j _ c => ⟨[(0, .ptr 1000 0 0), (2, .ptr 2 c 0), (3, .ptr 3 c 0), (4, .v (.int .i64 (N : Nat))), (14, .v (.int .i64 (j : Nat)))], kdM c (r2.ds' j) lf (r2.ds j) [] [], c + 1⟩) () _ (Weak.re0 1000 (by simp [kdM, Rd.ds, Rd.ds', hb])) trivial ?_ ?_
    · intro j _ c hj _
      have hw : IntKind.i64.wrap ((j : Int) + 1) = ((j + 1 : Nat) : Int) := w64_succ (by omega)
      have f1 : fitsB (j + 1) 32 := fits (by omega) (by omega)
      have hj32 : (j : Int) < 32 := by omega
      have e1 : r2.ds (j + 1) = r2.ds j ++ [(r2.ds' j).dg] := rfl
      have e2 : r2.ds' (j + 1) = (r2.ds' j).dg' := rfl
      have hl := r2.ds_length j
      generalize r2.ds j = x at *
      generalize r2.ds' j = q at *
      have m5 := digest_meets (G := G) q
      generalize q.dg' = q' at *
      generalize q.dg = t at *
      simp [hj32, kdM]
      refine call_intro m5 ?_ ?_
      · simp [rdM]
      simp [rdM, f1, hl, hw, Dgs_snoc]
      exact ⟨(), _, Weak.re0 1000 (by simp [kdM, e1, e2, hl]), trivial⟩
    · intro _ c _
      have hM32 : ¬ (M : Int) < 32 := by omega
      generalize hq2 : r2.ds' M = r3 at *
      have hol := r2.ds_length M
      generalize r2.ds M = o at *
      simp [kdM, hM32]
      refine go_up M (fun j (_ : Unit) => True) (fun j _ c => ⟨[(0, .ptr 1000 0 0), (2, .ptr 2 c 0), (3, .ptr 3 c 0), (4, .v (.int .i64 (N : Nat))), (26, .v (.int .i64 (j : Nat)))], kdM c (r3.ds' j) lf o (r3.ds j) [], c + 1⟩) () _ (Weak.re0 1000 (by simp [kdM, Rd.ds, Rd.ds'])) trivial ?_ ?_
      · intro j _ c hj _
        have hw : IntKind.i64.wrap ((j : Int) + 1) = ((j + 1 : Nat) : Int) := w64_succ (by omega)
        have f1 : fitsB (j + 1) 32 := fits (by omega) (by omega)
        have hj32 : (j : Int) < 32 := by omega
        have e1 : r3.ds (j + 1) = r3.ds j ++ [(r3.ds' j).dg] := rfl
        have e2 : r3.ds' (j + 1) = (r3.ds' j).dg' := rfl
        have hl := r3.ds_length j
        generalize r3.ds j = x at *
        generalize r3.ds' j = q at *
        have m5 := digest_meets (G := G) q
        generalize q.dg' = q' at *
        generalize q.dg = t at *
        simp [hj32, kdM]
        refine call_intro m5 ?_ ?_
        · simp [rdM]
        simp [rdM, f1, hl, hw, Dgs_snoc]
        exact ⟨(), _, Weak.re0 1000 (by simp [kdM, e1, e2, hl]), trivial⟩
      · intro _ c _
        have hsl := r3.ds_length M
        generalize hq3 : r3.ds' M = r4 at *
        generalize r3.ds M = s at *
        simp [kdM, hM32]
        refine go_up N (fun j (_ : Unit) => True) (fun j _ c => ⟨[(0, .ptr 1000 0 0), (2, .ptr 2 c 0), (3, .ptr 3 c 0), (38, .v (.int .i64 (N : Nat))), (39, .v (.int .i64 (j : Nat)))], kdM c (r4.ds' j) lf o s (r4.ds j), c + 1⟩) () _ (Weak.re0 1000 (by simp [kdM, Rd.ds, Rd.ds'])) trivial ?_ ?_
        · intro j _ c hj _
          have hw : IntKind.i64.wrap ((j : Int) + 1) = ((j + 1 : Nat) : Int) := w64_succ (by omega)
          have f1 : fitsB (j + 1) 32 := fits (by omega) (by omega)
          have e1 : r4.ds (j + 1) = r4.ds j ++ [(r4.ds' j).dg] := rfl
          have e2 : r4.ds' (j + 1) = (r4.ds' j).dg' := rfl
          have hl := r4.ds_length j
          generalize r4.ds j = x at *
          generalize r4.ds' j = q at *
          have m5 := digest_meets (G := G) q
          generalize q.dg' = q' at *
          generalize q.dg = t at *
          simp [hj, kdM]
          refine call_intro m5 ?_ ?_
          · simp [rdM]
          simp [rdM, f1, hl, hw, Dgs_snoc]
          exact ⟨(), _, Weak.re0 1000 (by simp [kdM, e1, e2, hl]), trivial⟩
        · intro _ c _
          have hpl := r4.ds_length N
          generalize r4.ds' N = r5 at *
          generalize r4.ds N = p at *
          have m6 := good_meets (G := G) r5
          simp [kdM]
          refine call_intro m6 ?_ ?_
          · simp [rdM]
          cases hb5 : r5.bad
          · simp [rdM, hb5]
            refine post_end (.inr rfl) ?_
            simp [Sig.avR, Sig.rows, hb5]
          · simp [rdM, hb5]
            refine post_end (.inr rfl) ?_
            simp [Sig.avR, Sig.rows, Sig.zero, hb5]
  · obtain ⟨e1, e2⟩ := r.sig_fault hb
    have e3 : r.sig = Sig.zero := by unfold Rd.sig; rw [e2]; rfl
    rw [e2, e3]
    rw [e1] at m2 m3 hb
    generalize r.sN = N at *
    generalize r.num' = r1 at *
    generalize r.num = lf at *
    simp [rdM]
    refine call_intro m1 ?_ ?_
    · simp [rdM]
    simp [rdM]
    refine call_intro m2 ?_ ?_
    · simp [rdM]
    simp [rdM]
    refine call_intro m3 ?_ ?_
    · simp [rdM]
    simp [rdM, hb]
    refine post_end (.inr rfl) ?_
    simp [Sig.avR, Sig.rows, Sig.zero, hb]

end Go.Proofs.YtjlmpdbagmdbiaaDoor.WL

end
section
/-
  CHAPTER 01: contracts of the reference.
-/
namespace Go.Proofs.YtjlmpdbagmdbiaaDoor.WL
open Go
set_option maxHeartbeats 4000000

/-- The reference's reader. -/
def rfM (r : Rd) : List (Nat × Loc) := [(1000, .var 0 (.node [.v (.string (mkS r.s)), .v (.bool r.bad)]))]

theorem rtake_meets {G : Nat → Option AV} (r : Rd) (k : Int) : Meets Tryd.prog G fn_r01_Reader_Take [.ptr 1000 0 0, .v (.int .i64 k)] (rfM r) true (.v (.string (mkS (r.got k)))) (rfM (r.skip k)) := by
  refine meets_of_go mix k_r01_Reader_Take ⟨by simp [rfM], by simp, by simp [rfM]⟩ ?_
  cases hok : r.ok k with
  | true =>
    have h := hok
    simp only [Rd.ok, Bool.and_eq_true, Bool.not_eq_true', decide_eq_true_eq] at h
    obtain ⟨⟨h1, h2⟩, h3⟩ := h
    have h4 : ¬ (k < 0) := by omega
    have h5 : ¬ ((r.s.length : Int) < k) := by omega
    obtain ⟨n, rfl⟩ := Int.eq_ofNat_of_zero_le h2
    have h6 : n ≤ r.s.length := by omega
    have h7 : r.s.take r.s.length = r.s := by simp
    simp [rfM, h1, h3, h4, h5, h6, h7, Rd.got, Rd.skip, hok]
    refine post_end (.inr rfl) ?_
    simp
  | false =>
    have h : r.bad = true ∨ k < 0 ∨ (r.s.length : Int) < k := by
      simp only [Rd.ok] at hok
      cases hb : r.bad
      · simp [hb] at hok; omega
      · simp
    cases hb : r.bad
    · simp [hb] at h
      by_cases h0 : k < 0
      · simp [rfM, hb, h0, Rd.got, Rd.skip, hok]
        refine post_end (.inr rfl) ?_
        simp [Rd.fault]
      · have h1 : (r.s.length : Int) < k := by omega
        simp [rfM, hb, h0, h1, Rd.got, Rd.skip, hok]
        refine post_end (.inr rfl) ?_
        simp [Rd.fault]
    · simp [rfM, hb, Rd.got, Rd.skip, hok]
      refine post_end (.inr rfl) ?_
      simp [Rd.fault]

theorem rnum_meets {G : Nat → Option AV} (r : Rd) : Meets Tryd.prog G fn_r01_Reader_Num [.ptr 1000 0 0] (rfM r) true (.v (.int .i64 r.num)) (rfM r.num') := by
  refine meets_of_go mix k_r01_Reader_Num ⟨by simp [rfM], by simp, by simp [rfM]⟩ ?_
  simp
  refine call_intro (rtake_meets r 8) ?_ ?_
  · simp [rfM]
  simp [rfM]
  have hz : IntKind.i64.wrap 0 = 0 := by decide
  refine go_up (r.got 8).length (fun _ _ => True) (fun j (_ : Unit) c => ⟨[(3, .v (.string (mkS (r.got 8)))), (4, .v (.int .i64 (IntKind.i64.wrap (beVal ((r.got 8).take j) : Nat)))), (5, .v (.int .i64 (j : Nat)))], rfM (r.skip 8), c⟩)
    () _ (by simp [beVal, hz, rfM]; exact Weak.refl _) trivial ?_ ?_
  · intro j _ c hj _
    have h8 : (r.got 8).length ≤ 8 := r.got_le 8
    have hw : IntKind.i64.wrap ((j : Int) + 1) = ((j + 1 : Nat) : Int) := w64_succ (by omega)
    have hlt : beVal ((r.got 8).take j) < 2 ^ 56 := Nat.lt_of_lt_of_le (beVal_lt _) (by
      rw [List.length_take]
      exact Nat.le_trans (Nat.pow_le_pow_right (by omega) (show min j (r.got 8).length ≤ 7 by omega)) (by decide))
    have hb := byte_i64 (beVal ((r.got 8).take j)) (r.got 8)[j] hlt
    have hi : IntKind.i64.wrap (beVal ((r.got 8).take j) : Nat) = (beVal ((r.got 8).take j) : Nat) := w64_id (by omega)
    rw [← beVal_take_succ _ _ hj] at hb
    simp [rfM, hj, hw, hi, hb]
    exact ⟨(), _, Weak.refl _, trivial⟩
  · intro _ c _
    simp [rfM]
    refine post_end (.inr rfl) ?_
    simp [Rd.num, Rd.num']

theorem rdigest_meets {G : Nat → Option AV} (r : Rd) : Meets Tryd.prog G fn_r01_Reader_Digest [.ptr 1000 0 0] (rfM r) true (dv r.dg) (rfM r.dg') := by
  refine meets_of_go mix k_r01_Reader_Digest ⟨by simp [rfM], by simp, by simp [rfM]⟩ ?_
  simp
  refine call_intro (rtake_meets r 32) ?_ ?_
  · simp [rfM]
  simp [rfM]
  have h8 : (r.got 32).length ≤ 32 := r.got_le 32
  refine go_up (r.got 32).length (fun j (x : Bytes) => x = (r.got 32).take j ++ zeros (32 - j)) (fun j (x : Bytes) c => ⟨[(2, .ptr 2 2 0), (3, .ptr 3 3 0), (4, .v (.string (mkS (r.got 32)))), (5, .v (.int .i64 (j : Nat)))],
    [(2, .var 2 (.arr 1 (B (zeros 32)))), (3, .var 3 (.arr 1 (B x))), (1000, .var 0 (.node [.v (.string (mkS (r.skip 32).s)), .v (.bool (r.skip 32).bad)]))], c⟩) (zeros 32) _ (Weak.refl _) (by simp) ?_ ?_
  · intro j x c hj hx
    have hw : IntKind.i64.wrap ((j : Int) + 1) = ((j + 1 : Nat) : Int) := w64_succ (by omega)
    have hl : x.length = 32 := by rw [hx]; simp; omega
    have hjx : j < x.length := by omega
    have hs : x.set j (r.got 32)[j] = (r.got 32).take (j + 1) ++ zeros (32 - (j + 1)) := by
      rw [hx]
      exact fill_zeros _ 32 j hj h8
    have hj32 : (j : Int) < 32 := by omega
    have hjn : j < 32 := by omega
    simp [hj, hw, hl, hjx, hj32, hjn, B_set, Nat.mod_one]
    exact ⟨_, _, Weak.refl _, hs⟩
  · intro x c hx
    have hl : x.length = 32 := by rw [hx]; simp; omega
    have hd : x = r.dg.bs := by rw [hx]; simp [Rd.dg_bs]
    subst hd
    simp [hl]
    refine post_end (.inr rfl) ?_
    simp [hl, Rd.dg']

theorem rin_meets {G : Nat → Option AV} (r : Rd) (lo hi : Int) : Meets Tryd.prog G fn_r01_Reader_In [.ptr 1000 0 0, .v (.int .i64 lo), .v (.int .i64 hi)] (rfM r) true (.v (.int .i64 (r.inn lo hi))) (rfM (r.inn' lo hi)) := by
  refine meets_of_go mix k_r01_Reader_In ⟨by simp [rfM], by simp, by simp [rfM]⟩ ?_
  simp
  refine call_intro (rnum_meets r) ?_ ?_
  · simp [rfM]
  have hf : r.num'.skip (-1) = Rd.fault := by simp [Rd.skip, Rd.ok]
  have kk : (r.num'.bad = false ∧ lo ≤ r.num ∧ r.num ≤ hi) ∨ r.num'.bad = true ∨ (r.num'.bad = false ∧ r.num < lo) ∨ (r.num'.bad = false ∧ ¬ r.num < lo ∧ hi < r.num) := by
    cases r.num'.bad
    · simp; omega
    · simp
  rcases kk with ⟨hb, h1, h2⟩ | hb | ⟨hb, h1⟩ | ⟨hb, h1, h2⟩
  · have h3 : ¬ r.num < lo := by omega
    have h4 : ¬ hi < r.num := by omega
    simp [rfM, h3, h4, hb]
    refine post_end (.inr rfl) ?_
    simp [Rd.inn, Rd.inn', Rd.inOk, h1, h2, hb]
  · simp [rfM, hb]
    refine call_intro (rtake_meets r.num' (-1)) ?_ ?_
    · simp [rfM, hb]
    simp [rfM, hf]
    refine post_end (.inr rfl) ?_
    simp [Rd.inn, Rd.inn', Rd.inOk, hb]
  · simp [rfM, h1, hb]
    refine call_intro (rtake_meets r.num' (-1)) ?_ ?_
    · simp [rfM, hb]
    simp [rfM, hf]
    refine post_end (.inr rfl) ?_
    have h3 : ¬ lo ≤ r.num := by omega
    simp [Rd.inn, Rd.inn', Rd.inOk, h3]
  · simp [rfM, h1, h2, hb]
    refine call_intro (rtake_meets r.num' (-1)) ?_ ?_
    · simp [rfM, hb]
    simp [rfM, hf]
    refine post_end (.inr rfl) ?_
    have h3 : ¬ r.num ≤ hi := by omega
    simp [Rd.inn, Rd.inn', Rd.inOk, h3]

theorem rgood_meets {G : Nat → Option AV} (r : Rd) : Meets Tryd.prog G fn_r01_Reader_Good [.ptr 1000 0 0] (rfM r) true (.v (.bool !r.bad)) (rfM r) := by
  refine meets_of_go mix k_r01_Reader_Good ⟨by simp [rfM], by simp, by simp [rfM]⟩ ?_
  simp [rfM]
  refine post_end (.inr rfl) ?_
  simp

theorem rend_meets {G : Nat → Option AV} (r : Rd) : Meets Tryd.prog G fn_r01_Reader_End [.ptr 1000 0 0] (rfM r) true (.v (.bool r.done)) (rfM r) := by
  refine meets_of_go mix k_r01_Reader_End ⟨by simp [rfM], by simp, by simp [rfM]⟩ ?_
  cases hb : r.bad
  · simp [rfM, hb]
    refine post_end (.inr rfl) ?_
    simp [Rd.done, hb, isEmpty_dec]
  · simp [rfM, hb]
    refine post_end (.inr rfl) ?_
    simp [Rd.done, hb]
end Go.Proofs.YtjlmpdbagmdbiaaDoor.WL

end
section
/-
  CHAPTER 01: contracts of the reference's writing.
-/
namespace Go.Proofs.YtjlmpdbagmdbiaaDoor.WL
open Go
set_option maxHeartbeats 4000000

theorem be8_set (n : Int) (j : Nat) (h : j < 8) : (zeros (8 - j) ++ (be8 n).drop (8 - j)).set (7 - j) (u8 (n.fdiv (2 ^ (8 * j)))) = zeros (8 - (j + 1)) ++ (be8 n).drop (8 - (j + 1)) := by
  rw [Int.fdiv_eq_ediv_of_nonneg _ (Int.le_of_lt (Int.pow_pos (by decide)))]
  match j, h with
  | 0, _ => simp [be8, zeros]
  | 1, _ => simp [be8, zeros]
  | 2, _ => simp [be8, zeros]
  | 3, _ => simp [be8, zeros]
  | 4, _ => simp [be8, zeros]
  | 5, _ => simp [be8, zeros]
  | 6, _ => simp [be8, zeros]
  | 7, _ => simp [be8, zeros]

theorem rfnum_meets {G : Nat → Option AV} (n : Int) : Meets Tryd.prog G fn_r01_Num [.v (.int .i64 n)] [] true (.v (.string (mkS (be8 n)))) [] := by
  refine meets_of_go mix k_r01_Num ⟨by simp, by simp, by simp⟩ ?_
  simp
  refine go_up 8 (fun j (x : Bytes) => x = zeros (8 - j) ++ (be8 n).drop (8 - j)) (fun j x c => ⟨[(0, .v (.int .i64 n)), (3, .ptr 3 3 0), (4, .v (.int .i64 (j : Nat)))], [(3, .var 3 (.arr 1 (B x)))], c⟩)
    (zeros 8) _ (Weak.refl _) (by simp) ?_ ?_
  · intro j x c hj hx
    have hw : IntKind.i64.wrap ((j : Int) + 1) = ((j + 1 : Nat) : Int) := w64_succ (by omega)
    have hw2 : IntKind.i64.wrap (7 - (j : Int)) = ((7 - j : Nat) : Int) := by rw [w64_id (by omega)]; omega
    have hw3 : IntKind.i64.wrap (8 * (j : Int)) = 8 * (j : Int) := w64_id (by omega)
    have hw4 : IntKind.u64.wrap (8 * (j : Int)) = 8 * (j : Int) := u64_id (by omega)
    have h0 : 0 ≤ 8 * (j : Int) := by omega
    have hj8 : (j : Int) < 8 := by omega
    have hxl : x.length = 8 := by rw [hx]; simp
    have hmin : min (8 * (j : Int)).toNat 64 = 8 * j := by omega
    have hs := be8_set n j hj
    rw [← hx] at hs
    have h7 : 7 - j < 8 := by omega
    have h7' : (7 - j : Nat) < (8 : Int) := by omega
    simp [hw, hw2, hw3, hw4, h0, hj8, hxl, hmin, h7, h7', bv_u8, B_set, Nat.mod_one]
    exact ⟨_, _, Weak.refl _, hs⟩
  · intro x c hx
    have hxl : x = be8 n := by rw [hx]; simp [zeros]
    subst hxl
    have ht : List.take 8 (be8 n) = be8 n := List.take_of_length_le (by simp)
    simp [ht]
    refine post_end (.inr rfl) ?_
    simp

theorem rfdigest_meets {G : Nat → Option AV} (d : Dg) : Meets Tryd.prog G fn_r01_Digest [dv d] [] true (.v (.string (mkS d.bs))) [] := by
  refine meets_of_go mix k_r01_Digest ⟨by simp, by simp, by simp⟩ ?_
  simp
  refine post_end (.inr rfl) ?_
  simp

end Go.Proofs.YtjlmpdbagmdbiaaDoor.WL

end
section
/-
  CHAPTER 09: contracts of requests.
-/
namespace Go.Proofs.YtjlmpdbagmdbiaaDoor.WL
open Go
set_option maxHeartbeats 4000000
variable {G : Nat → Option AV}

theorem I64_3 (a b c : Int) : [AV.v (.int .i64 a), .v (.int .i64 b), .v (.int .i64 c)] = I64 [a, b, c] := (rfl)
theorem I64_4 (a b c d : Int) : [AV.v (.int .i64 a), .v (.int .i64 b), .v (.int .i64 c), .v (.int .i64 d)] = I64 [a, b, c, d] := (rfl)
theorem Strs_3 (a b c : Bytes) : [AV.v (.string (mkS a)), .v (.string (mkS b)), .v (.string (mkS c))] = Strs [a, b, c] := (rfl)
theorem Dgs_1 (a : Dg) : [AV.arr 1 (B a.bs)] = Dgs [a] := (rfl)
theorem flatD_1 (a : Dg) : flatD [a] = a.bs := by simp [flatD]

theorem qshort_meets (ss : List Bytes) (hn : ss.length ≤ 1000000) : Meets Tryd.prog G fn_request_short [.sl 1 (Strs ss)] [] true (.v (.bool (ss.all fun s => decide (s.length ≤ 1024)))) [] := by
  refine meets_of_go mix k_request_short ⟨by simp, by simp, by simp⟩ ?_
  simp
  refine go_up ss.length (fun j (_ : Unit) => ∀ i (h : i < ss.length), i < j → ss[i].length ≤ 1024) (fun j (_ : Unit) c => ⟨[(5, .sl 1 (Strs ss)), (6, .v (.int .i64 (ss.length : Nat))), (7, .v (.int .i64 (j : Nat)))], [], c⟩) () _ (Weak.refl _) (by intro i _ h; omega) ?_ ?_
  · intro j _ c hj hx
    have hw : IntKind.i64.wrap ((j : Int) + 1) = ((j + 1 : Nat) : Int) := w64_succ (by omega)
    by_cases c1 : (1024 : Int) < (ss[j].length : Nat)
    · have hf : (ss.all fun s => decide (s.length ≤ 1024)) = false := by
        rw [List.all_eq_false]
        exact ⟨ss[j], List.getElem_mem hj, by simp; omega⟩
      simp [hj, c1]
      refine post_end (.inr rfl) ?_
      simp only [hf]
      simp
    · simp [hj, c1, hw]
      refine ⟨(), _, Weak.refl _, ?_⟩
      intro i hi hij
      rcases (show i < j ∨ i = j by omega) with h | rfl
      · exact hx i hi h
      · omega
  · intro _ c hx
    have hf : (ss.all fun s => decide (s.length ≤ 1024)) = true := by
      rw [List.all_eq_true]
      intro s hs
      obtain ⟨i, hi, rfl⟩ := List.getElem_of_mem hs
      exact decide_eq_true (hx i hi hi)
    simp
    refine post_end (.inr rfl) ?_
    simp only [hf]
    simp

theorem qgood_meets (q : Req) : Meets Tryd.prog G fn_request_Good [q.av] [] true (.v (.bool q.good)) [] := by
  refine meets_of_go mix k_request_Good ⟨by simp, by simp, by simp⟩ ?_
  have hs := qshort_meets (G := G) [q.key, q.val, q.old] (by simp)
  unfold Req.good
  by_cases c1 : 1 ≤ q.client
  · by_cases c2 : q.client ≤ 64
    · by_cases c3 : 1 ≤ q.num
      · by_cases c4 : q.num ≤ 1099511627776
        · by_cases c5 : 1 ≤ q.kind
          · by_cases c6 : q.kind ≤ 7
            · simp [Req.av, Chg.av, c1, c2, c3, c4, c5, c6]
              refine call_intro hs ?_ ?_
              · simp [Strs_3]
              simp [Strs_3]
              refine post_end (.inr rfl) ?_
              simp [Bool.and_assoc]
            · simp [Req.av, Chg.av, c1, c2, c3, c4, c5, c6]
              refine post_end (.inr rfl) ?_
              simp
          · simp [Req.av, Chg.av, c1, c2, c3, c4, c5]
            refine post_end (.inr rfl) ?_
            simp
        · simp [Req.av, Chg.av, c1, c2, c3, c4]
          refine post_end (.inr rfl) ?_
          simp
      · simp [Req.av, Chg.av, c1, c2, c3]
        refine post_end (.inr rfl) ?_
        simp
    · simp [Req.av, Chg.av, c1, c2]
      refine post_end (.inr rfl) ?_
      simp
  · simp [Req.av, Chg.av, c1]
    refine post_end (.inr rfl) ?_
    simp

theorem qwrite_meets (bs : Bytes) (q : Req) (h : bs.length + q.bytes.length ≤ 60000000) : Meets Tryd.prog G fn_request_Write [.ptr 1000 0 0, q.av] (wrM 0 bs) true (.tup []) (wrM 1 (bs ++ q.bytes)) := by
  refine meets_of_go mix k_request_Write ⟨by simp [wrM], by simp, by simp [wrM]⟩ ?_
  have hl := Req.bytes_len q
  have n1 := nums_length [q.client, q.num, q.kind]
  have n2 : (txts [q.key, q.val, q.old]).length = 12 + (q.key.length + q.val.length + q.old.length) := by simp [txts]; omega
  have n3 := nums_length [q.ch.kind, q.ch.id, q.ch.new, q.ch.height]
  have hb : q.bytes = nums [q.client, q.num, q.kind] ++ (txts [q.key, q.val, q.old] ++ (nums [q.ch.kind, q.ch.id, q.ch.new, q.ch.height] ++ q.ch.root.bs)) := rfl
  rw [hb]
  simp only [List.length_cons, List.length_nil] at n1 n3
  have m1 := wnum_meets (G := G) bs [q.client, q.num, q.kind] (by simp; omega)
  generalize nums [q.client, q.num, q.kind] = x1 at *
  have m2 := wtext_meets (G := G) (bs ++ x1) [q.key, q.val, q.old] (by rw [List.length_append]; omega) (by simp)
  generalize txts [q.key, q.val, q.old] = x2 at *
  have m3 := wnum_meets (G := G) (bs ++ x1 ++ x2) [q.ch.kind, q.ch.id, q.ch.new, q.ch.height] (by simp only [List.length_append, List.length_cons, List.length_nil]; omega)
  generalize nums [q.ch.kind, q.ch.id, q.ch.new, q.ch.height] = x3 at *
  have m4 := wdigest_meets (G := G) (bs ++ x1 ++ x2 ++ x3) [q.ch.root] (by simp only [List.length_append, List.length_cons, List.length_nil]; omega)
  rw [flatD_1] at m4
  have e : bs ++ (x1 ++ (x2 ++ (x3 ++ q.ch.root.bs))) = bs ++ x1 ++ x2 ++ x3 ++ q.ch.root.bs := by simp
  rw [e]
  generalize bs ++ x1 ++ x2 ++ x3 ++ q.ch.root.bs = y4 at *
  generalize bs ++ x1 ++ x2 ++ x3 = y3 at *
  generalize bs ++ x1 ++ x2 = y2 at *
  generalize bs ++ x1 = y1 at *
  simp [Req.av, Chg.av, wrM]
  refine call_intro m1 ?_ ?_
  · simp [wrM, I64_3]
  simp [wrM, I64_3]
  refine call_intro m2 ?_ ?_
  · simp [wrM, Strs_3]
  simp [wrM, Strs_3]
  refine call_intro m3 ?_ ?_
  · simp [wrM, I64_4]
  simp [wrM, I64_4]
  refine call_intro m4 ?_ ?_
  · simp [wrM, Dgs_1]
  simp [wrM, Dgs_1]
  refine post_end (.inl rfl) ?_
  simp

end Go.Proofs.YtjlmpdbagmdbiaaDoor.WL

end
section
/-
  CHAPTER 09: contracts of replies; the reference.
-/
namespace Go.Proofs.YtjlmpdbagmdbiaaDoor.WL
open Go
set_option maxHeartbeats 4000000
variable {G : Nat → Option AV}

/-! The reference. -/
def Rep.same (a b : Rep) : Bool := decide (a.client = b.client) && decide (a.num = b.num) && decide (a.code = b.code) && decide (a.vals = b.vals)
end Go.Proofs.YtjlmpdbagmdbiaaDoor.WL

end
