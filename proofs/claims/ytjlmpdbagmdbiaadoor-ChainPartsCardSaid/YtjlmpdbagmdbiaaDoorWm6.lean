/- Texts put together: S01a, S01e, S01f, S09a, S09b, S12a, S12b, L09a, L09b, S12c, S12d, S13a, S13b, S08f. -/
import Derived.Test.YtjlmpdbagmdbiaaDoorWc2
import Derived.Shelf.SlicesQ.IndexFunc
import Derived.Lib.SliceRun
section
/-
  CHAPTER 01: contracts of the reader.
-/
namespace Go.Proofs.YtjlmpdbagmdbiaaDoor.WL
open Go
set_option maxHeartbeats 4000000

/-- Where the bytes lie that were taken. -/
def Rd.at_ (r : Rd) (k : Int) : Nat := if r.ok k = true then r.pre.length else 0
end Go.Proofs.YtjlmpdbagmdbiaaDoor.WL

end
section
/-
  CHAPTER 01: contracts of the writer.
-/
namespace Go.Proofs.YtjlmpdbagmdbiaaDoor.WL
open Go
set_option maxHeartbeats 4000000

/-- A writer that holds these bytes. -/
def wrM (g : Nat) (bs : Bytes) : List (Nat × Loc) := [(1000, .var 0 (.node [.row 2000 1 g 0 bs.length])), (2000, .rows g 1 (B bs))]

theorem bytes_meets {G : Nat → Option AV} (bs : Bytes) (hb : bs.length ≤ 67108864) :
    Meets Tryd.prog G fn_code_Writer_Bytes [.ptr 1000 0 0] (wrM 0 bs) true (.row 3000 1 1 0 bs.length) (wrM 1 bs ++ [(3000, .rows 1 1 (B bs))]) := by
  refine meets_of_go mix k_code_Writer_Bytes ⟨by simp [wrM], by simp [wrM], by simp [wrM]⟩ ?_
  have h1 : fitsB bs.length 1 := fits (by omega) (by omega)
  simp [wrM, h1]
  refine post_end (.inr rfl) ?_
  simp

/-- The writer's state in a loop: its stamp, its length, its bytes. -/
abbrev WrA := Nat × Nat × Bytes
def wrA (a : WrA) : List (Nat × Loc) := [(1000, .var 0 (.node [.row 2000 1 a.1 0 a.2.1])), (2000, .rows a.1 1 (B a.2.2))]

theorem wnum_meets {G : Nat → Option AV} (bs : Bytes) (ns : List Int) (hb : bs.length + 8 * ns.length ≤ 67108864) :
    Meets Tryd.prog G fn_code_Writer_Num [.ptr 1000 0 0, .sl 1 (I64 ns)] (wrM 0 bs) true (.tup []) (wrM 1 (bs ++ nums ns)) := by
  refine meets_of_go mix k_code_Writer_Num ⟨by simp [wrM], by simp, by simp [wrM]⟩ ?_
  simp [wrM]
  refine go_up ns.length (fun j (a : WrA) => match a with | (_, n, x) => n = x.length ∧ x = bs ++ nums (ns.take j)) (fun j a c => ⟨[(0, .ptr 1000 0 0), (9, .sl 1 (I64 ns)), (10, .v (.int .i64 (ns.length : Nat))), (11, .v (.int .i64 (j : Nat)))], wrA a, c⟩)
    (0, bs.length, bs) _ (Weak.refl _) (by simp [nums]) ?_ ?_
  · rintro j ⟨g, n, L⟩ c hj ⟨rfl, hL⟩
    simp [hj, wrA]
    refine go_up 8 (fun t (a : WrA) => match a with | (_, n, x) => n = x.length ∧ x = L ++ (be8 ns[j]).take t) (fun t a c => ⟨[(0, .ptr 1000 0 0), (5, .v (.int .i64 ns[j])), (6, .v (.int .i64 (56 - 8 * (t : Int)))), (9, .sl 1 (I64 ns)), (10, .v (.int .i64 (ns.length : Nat))), (11, .v (.int .i64 (j : Nat)))], wrA a, c⟩)
      (g, L.length, L) _ (Weak.refl _) (by simp) ?_ ?_
    · rintro t ⟨g', n', L'⟩ c' ht ⟨rfl, hL'⟩
      have h8 : 8 * (t : Int) ≤ 56 := by omega
      have h0 : (0 : Int) ≤ 56 - 8 * (t : Int) := by omega
      have hmin : min (56 - 8 * (t : Int)).toNat 64 = 56 - 8 * t := by omega
      have hw : IntKind.i64.wrap (56 - 8 * (t : Int) - 8) = 56 - 8 * ((t + 1 : Nat) : Int) := by rw [w64_id (by omega)]; omega
      have hLl : L'.length ≤ 67108863 := by
        rw [hL', hL]
        simp only [List.length_append, nums_length, List.length_take, be8_length]
        omega
      have hm1 : fitsB (L'.length + 1) 1 := fits (by omega) (by omega)
      simp [wrA, h8, hmin, hw, hm1, bv_u8, be8_u64 _ _ ht, B_snoc]
      exact ⟨(_, _, _), _, (Weak.keep [1000, 2000] _ _ _).trans (Weak.refl _), by simp, by rw [hL', be8_take _ _ ht, List.append_assoc]⟩
    · rintro ⟨g', n', L'⟩ c' ⟨rfl, hL'⟩
      have hw : IntKind.i64.wrap ((j : Int) + 1) = ((j + 1 : Nat) : Int) := w64_succ (by omega)
      simp [wrA, hw]
      exact ⟨(_, _, _), _, Weak.refl _, rfl, by rw [hL', hL, nums_snoc _ _ hj, List.append_assoc, List.take_of_length_le (l := be8 ns[j]) (by simp)]⟩
  · rintro ⟨g, n, L⟩ c ⟨rfl, hL⟩
    have : L = bs ++ nums ns := by rw [hL]; simp
    subst this
    simp [wrA]
    refine post_end (.inl rfl) ?_
    simp

theorem wdigest_meets {G : Nat → Option AV} (bs : Bytes) (ds : List Dg) (hb : bs.length + 32 * ds.length ≤ 67108864) :
    Meets Tryd.prog G fn_code_Writer_Digest [.ptr 1000 0 0, .sl 32 (Dgs ds)] (wrM 0 bs) true (.tup []) (wrM 1 (bs ++ flatD ds)) := by
  refine meets_of_go mix k_code_Writer_Digest ⟨by simp [wrM], by simp, by simp [wrM]⟩ ?_
  simp [wrM]
  refine go_up ds.length (fun j (a : WrA) => match a with | (_, n, x) => n = x.length ∧ x = bs ++ flatD (ds.take j)) (fun j a c => ⟨[(0, .ptr 1000 0 0), (8, .sl 32 (Dgs ds)), (9, .v (.int .i64 (ds.length : Nat))), (10, .v (.int .i64 (j : Nat)))], wrA a, c⟩)
    (0, bs.length, bs) _ (Weak.refl _) (by simp [flatD]) ?_ ?_
  · rintro j ⟨g, n, L⟩ c hj ⟨rfl, hL⟩
    have hLl : L.length + 32 ≤ 67108864 := by rw [hL, List.length_append, flatD_length, List.length_take]; omega
    have hm1 : fitsB (L.length + 32) 1 := fits (by omega) (by omega)
    have hw : IntKind.i64.wrap ((j : Int) + 1) = ((j + 1 : Nat) : Int) := w64_succ (by omega)
    simp [wrA, hj, hm1, hw]
    exact ⟨(_, _, _), _, (Weak.keep [1000, 2000] _ _ _).trans (Weak.refl _), by simp, by rw [hL, flatD_snoc _ _ hj, List.append_assoc]⟩
  · rintro ⟨g, n, L⟩ c ⟨rfl, hL⟩
    have : L = bs ++ flatD ds := by rw [hL]; simp
    subst this
    simp [wrA]
    refine post_end (.inl rfl) ?_
    simp

theorem wtext_meets {G : Nat → Option AV} (bs : Bytes) (ss : List Bytes) (hb : bs.length + (txts ss).length ≤ 67108864) (hn : ss.length ≤ 67108864) :
    Meets Tryd.prog G fn_code_Writer_Text [.ptr 1000 0 0, .sl 1 (Strs ss)] (wrM 0 bs) true (.tup []) (wrM 1 (bs ++ txts ss)) := by
  refine meets_of_go mix k_code_Writer_Text ⟨by simp [wrM], by simp, by simp [wrM]⟩ ?_
  simp [wrM]
  refine go_up ss.length (fun j (a : WrA) => match a with | (_, n, x) => n = x.length ∧ x = bs ++ txts (ss.take j)) (fun j a c => ⟨[(0, .ptr 1000 0 0), (9, .sl 1 (Strs ss)), (10, .v (.int .i64 (ss.length : Nat))), (11, .v (.int .i64 (j : Nat)))], wrA a, c⟩)
    (0, bs.length, bs) _ (Weak.refl _) (by simp [txts]) ?_ ?_
  · rintro j ⟨g, n, L⟩ c hj ⟨rfl, hL⟩
    have hsz := txts_take_le ss (j + 1)
    rw [txts_snoc _ _ hj, List.length_append, txt_length] at hsz
    have hLl : L.length + (4 + ss[j].length) ≤ 67108864 := by rw [hL, List.length_append]; omega
    have hm1 : fitsB (L.length + 4) 1 ∧ fitsB (L.length + 4 + ss[j].length) 1 := ⟨fits (by omega) (by omega), fits (by omega) (by omega)⟩
    have hw : IntKind.i64.wrap ((j : Int) + 1) = ((j + 1 : Nat) : Int) := w64_succ (by omega)
    simp [wrA, hj, hm1, hw, bv_u8]
    exact ⟨(_, _, _), _, (Weak.keep [1000, 2000] _ _ _).trans (Weak.refl _), by simp; omega, by rw [hL, txts_snoc _ _ hj]; simp [txt, be4]⟩
  · rintro ⟨g, n, L⟩ c ⟨rfl, hL⟩
    have : L = bs ++ txts ss := by rw [hL]; simp
    subst this
    simp [wrA]
    refine post_end (.inl rfl) ?_
    simp

end Go.Proofs.YtjlmpdbagmdbiaaDoor.WL

end
section
/-
  CHAPTER 01: contracts of the reference's writing.
-/
namespace Go.Proofs.YtjlmpdbagmdbiaaDoor.WL
open Go
set_option maxHeartbeats 4000000

theorem be8_set (n : Int) (j : Nat) (h : j < 8) : (zeros (8 - j) ++ (be8 n).drop (8 - j)).set (7 - j) (u8 (n.fdiv (2 ^ (8 * j)))) = zeros (8 - (j + 1)) ++ (be8 n).drop (8 - (j + 1)) := by
  rw [Int.fdiv_eq_ediv_of_nonneg _ (Int.le_of_lt (Int.pow_pos (by decide)))]
  match j, h with
  | 0, _ => simp [be8, zeros]
  | 1, _ => simp [be8, zeros]
  | 2, _ => simp [be8, zeros]
  | 3, _ => simp [be8, zeros]
  | 4, _ => simp [be8, zeros]
  | 5, _ => simp [be8, zeros]
  | 6, _ => simp [be8, zeros]
  | 7, _ => simp [be8, zeros]

theorem rfnum_meets {G : Nat → Option AV} (n : Int) : Meets Tryd.prog G fn_r01_Num [.v (.int .i64 n)] [] true (.v (.string (mkS (be8 n)))) [] := by
  refine meets_of_go mix k_r01_Num ⟨by simp, by simp, by simp⟩ ?_
  simp
  refine go_up 8 (fun j (x : Bytes) => x = zeros (8 - j) ++ (be8 n).drop (8 - j)) (fun j x c => ⟨[(0, .v (.int .i64 n)), (3, .ptr 3 3 0), (4, .v (.int .i64 (j : Nat)))], [(3, .var 3 (.arr 1 (B x)))], c⟩)
    (zeros 8) _ (Weak.refl _) (by simp) ?_ ?_
  · intro j x c hj hx
    have hw : IntKind.i64.wrap ((j : Int) + 1) = ((j + 1 : Nat) : Int) := w64_succ (by omega)
    have hw2 : IntKind.i64.wrap (7 - (j : Int)) = ((7 - j : Nat) : Int) := by rw [w64_id (by omega)]; omega
    have hw3 : IntKind.i64.wrap (8 * (j : Int)) = 8 * (j : Int) := w64_id (by omega)
    have hw4 : IntKind.u64.wrap (8 * (j : Int)) = 8 * (j : Int) := u64_id (by omega)
    have h0 : 0 ≤ 8 * (j : Int) := by omega
    have hj8 : (j : Int) < 8 := by omega
    have hxl : x.length = 8 := by rw [hx]; simp
    have hmin : min (8 * (j : Int)).toNat 64 = 8 * j := by omega
    have hs := be8_set n j hj
    rw [← hx] at hs
    have h7 : 7 - j < 8 := by omega
    have h7' : (7 - j : Nat) < (8 : Int) := by omega
    simp [hw, hw2, hw3, hw4, h0, hj8, hxl, hmin, h7, h7', bv_u8, B_set, Nat.mod_one]
    exact ⟨_, _, Weak.refl _, hs⟩
  · intro x c hx
    have hxl : x = be8 n := by rw [hx]; simp [zeros]
    subst hxl
    have ht : List.take 8 (be8 n) = be8 n := List.take_of_length_le (by simp)
    simp [ht]
    refine post_end (.inr rfl) ?_
    simp

theorem rfdigest_meets {G : Nat → Option AV} (d : Dg) : Meets Tryd.prog G fn_r01_Digest [dv d] [] true (.v (.string (mkS d.bs))) [] := by
  refine meets_of_go mix k_r01_Digest ⟨by simp, by simp, by simp⟩ ?_
  simp
  refine post_end (.inr rfl) ?_
  simp

theorem rftext_meets {G : Nat → Option AV} (s : Bytes) (hs : s.length < 4294967296) : Meets Tryd.prog G fn_r01_Text [.v (.string (mkS s))] [] true (.v (.string (mkS (txt s)))) [] := by
  refine meets_of_go mix k_r01_Text ⟨by simp, by simp, by simp⟩ ?_
  simp
  refine call_intro (rfnum_meets s.length) ?_ ?_
  · simp
  have h : 4 + s.length ≤ 9223372036854775807 := by omega
  have ht : List.take 8 (be8 s.length) = be8 s.length := List.take_of_length_le (by simp)
  simp [h, ht, be8_drop]
  refine post_end (.inr rfl) ?_
  simp [txt]
end Go.Proofs.YtjlmpdbagmdbiaaDoor.WL

end
section
/-
  CHAPTER 09: contracts of requests.
-/
namespace Go.Proofs.YtjlmpdbagmdbiaaDoor.WL
open Go
set_option maxHeartbeats 4000000
variable {G : Nat → Option AV}

theorem I64_3 (a b c : Int) : [AV.v (.int .i64 a), .v (.int .i64 b), .v (.int .i64 c)] = I64 [a, b, c] := (rfl)
theorem I64_4 (a b c d : Int) : [AV.v (.int .i64 a), .v (.int .i64 b), .v (.int .i64 c), .v (.int .i64 d)] = I64 [a, b, c, d] := (rfl)
theorem Strs_3 (a b c : Bytes) : [AV.v (.string (mkS a)), .v (.string (mkS b)), .v (.string (mkS c))] = Strs [a, b, c] := (rfl)
theorem Dgs_1 (a : Dg) : [AV.arr 1 (B a.bs)] = Dgs [a] := (rfl)
theorem flatD_1 (a : Dg) : flatD [a] = a.bs := by simp [flatD]

theorem qshort_meets (ss : List Bytes) (hn : ss.length ≤ 1000000) : Meets Tryd.prog G fn_request_short [.sl 1 (Strs ss)] [] true (.v (.bool (ss.all fun s => decide (s.length ≤ 1024)))) [] := by
  refine meets_of_go mix k_request_short ⟨by simp, by simp, by simp⟩ ?_
  simp
  refine go_up ss.length (fun j (_ : Unit) => ∀ i (h : i < ss.length), i < j → ss[i].length ≤ 1024) (fun j (_ : Unit) c => ⟨[(5, .sl 1 (Strs ss)), (6, .v (.int .i64 (ss.length : Nat))), (7, .v (.int .i64 (j : Nat)))], [], c⟩) () _ (Weak.refl _) (by intro i _ h; omega) ?_ ?_
  · intro j _ c hj hx
    have hw : IntKind.i64.wrap ((j : Int) + 1) = ((j + 1 : Nat) : Int) := w64_succ (by omega)
    by_cases c1 : (1024 : Int) < (ss[j].length : Nat)
    · have hf : (ss.all fun s => decide (s.length ≤ 1024)) = false := by
        rw [List.all_eq_false]
        exact ⟨ss[j], List.getElem_mem hj, by simp; omega⟩
      simp [hj, c1]
      refine post_end (.inr rfl) ?_
      simp only [hf]
      simp
    · simp [hj, c1, hw]
      refine ⟨(), _, Weak.refl _, ?_⟩
      intro i hi hij
      rcases (show i < j ∨ i = j by omega) with h | rfl
      · exact hx i hi h
      · omega
  · intro _ c hx
    have hf : (ss.all fun s => decide (s.length ≤ 1024)) = true := by
      rw [List.all_eq_true]
      intro s hs
      obtain ⟨i, hi, rfl⟩ := List.getElem_of_mem hs
      exact decide_eq_true (hx i hi hi)
    simp
    refine post_end (.inr rfl) ?_
    simp only [hf]
    simp

theorem qgood_meets (q : Req) : Meets Tryd.prog G fn_request_Good [q.av] [] true (.v (.bool q.good)) [] := by
  refine meets_of_go mix k_request_Good ⟨by simp, by simp, by simp⟩ ?_
  have hs := qshort_meets (G := G) [q.key, q.val, q.old] (by simp)
  unfold Req.good
  by_cases c1 : 1 ≤ q.client
  · by_cases c2 : q.client ≤ 64
    · by_cases c3 : 1 ≤ q.num
      · by_cases c4 : q.num ≤ 1099511627776
        · by_cases c5 : 1 ≤ q.kind
          · by_cases c6 : q.kind ≤ 7
            · simp [Req.av, Chg.av, c1, c2, c3, c4, c5, c6]
              refine call_intro hs ?_ ?_
              · simp [Strs_3]
              simp [Strs_3]
              refine post_end (.inr rfl) ?_
              simp [Bool.and_assoc]
            · simp [Req.av, Chg.av, c1, c2, c3, c4, c5, c6]
              refine post_end (.inr rfl) ?_
              simp
          · simp [Req.av, Chg.av, c1, c2, c3, c4, c5]
            refine post_end (.inr rfl) ?_
            simp
        · simp [Req.av, Chg.av, c1, c2, c3, c4]
          refine post_end (.inr rfl) ?_
          simp
      · simp [Req.av, Chg.av, c1, c2, c3]
        refine post_end (.inr rfl) ?_
        simp
    · simp [Req.av, Chg.av, c1, c2]
      refine post_end (.inr rfl) ?_
      simp
  · simp [Req.av, Chg.av, c1]
    refine post_end (.inr rfl) ?_
    simp

theorem qwrite_meets (bs : Bytes) (q : Req) (h : bs.length + q.bytes.length ≤ 60000000) : Meets Tryd.prog G fn_request_Write [.ptr 1000 0 0, q.av] (wrM 0 bs) true (.tup []) (wrM 1 (bs ++ q.bytes)) := by
  refine meets_of_go mix k_request_Write ⟨by simp [wrM], by simp, by simp [wrM]⟩ ?_
  have hl := Req.bytes_len q
  have n1 := nums_length [q.client, q.num, q.kind]
  have n2 : (txts [q.key, q.val, q.old]).length = 12 + (q.key.length + q.val.length + q.old.length) := by simp [txts]; omega
  have n3 := nums_length [q.ch.kind, q.ch.id, q.ch.new, q.ch.height]
  have hb : q.bytes = nums [q.client, q.num, q.kind] ++ (txts [q.key, q.val, q.old] ++ (nums [q.ch.kind, q.ch.id, q.ch.new, q.ch.height] ++ q.ch.root.bs)) := rfl
  rw [hb]
  simp only [List.length_cons, List.length_nil] at n1 n3
  have m1 := wnum_meets (G := G) bs [q.client, q.num, q.kind] (by simp; omega)
  generalize nums [q.client, q.num, q.kind] = x1 at *
  have m2 := wtext_meets (G := G) (bs ++ x1) [q.key, q.val, q.old] (by rw [List.length_append]; omega) (by simp)
  generalize txts [q.key, q.val, q.old] = x2 at *
  have m3 := wnum_meets (G := G) (bs ++ x1 ++ x2) [q.ch.kind, q.ch.id, q.ch.new, q.ch.height] (by simp only [List.length_append, List.length_cons, List.length_nil]; omega)
  generalize nums [q.ch.kind, q.ch.id, q.ch.new, q.ch.height] = x3 at *
  have m4 := wdigest_meets (G := G) (bs ++ x1 ++ x2 ++ x3) [q.ch.root] (by simp only [List.length_append, List.length_cons, List.length_nil]; omega)
  rw [flatD_1] at m4
  have e : bs ++ (x1 ++ (x2 ++ (x3 ++ q.ch.root.bs))) = bs ++ x1 ++ x2 ++ x3 ++ q.ch.root.bs := by simp
  rw [e]
  generalize bs ++ x1 ++ x2 ++ x3 ++ q.ch.root.bs = y4 at *
  generalize bs ++ x1 ++ x2 ++ x3 = y3 at *
  generalize bs ++ x1 ++ x2 = y2 at *
  generalize bs ++ x1 = y1 at *
  simp [Req.av, Chg.av, wrM]
  refine call_intro m1 ?_ ?_
  · simp [wrM, I64_3]
  simp [wrM, I64_3]
  refine call_intro m2 ?_ ?_
  · simp [wrM, Strs_3]
  simp [wrM, Strs_3]
  refine call_intro m3 ?_ ?_
  · simp [wrM, I64_4]
  simp [wrM, I64_4]
  refine call_intro m4 ?_ ?_
  · simp [wrM, Dgs_1]
  simp [wrM, Dgs_1]
  refine post_end (.inl rfl) ?_
  simp

end Go.Proofs.YtjlmpdbagmdbiaaDoor.WL

end
section
/-
  CHAPTER 09: contracts of replies; the reference.
-/
namespace Go.Proofs.YtjlmpdbagmdbiaaDoor.WL
open Go
set_option maxHeartbeats 4000000
variable {G : Nat → Option AV}

/-! The reference. -/
theorem rqgood_meets (q : Req) : Meets Tryd.prog G fn_r09_Good [q.av] [] true (.v (.bool q.good)) [] := by
  refine meets_of_go mix k_r09_Good ⟨by simp, by simp, by simp⟩ ?_
  unfold Req.good
  by_cases c1 : q.client < 1
  · have d1 : ¬ 1 ≤ q.client := by omega
    simp [Req.av, Chg.av, c1]
    refine post_end (.inr rfl) ?_
    simp [d1]
  by_cases c2 : 64 < q.client
  · have d1 : ¬ q.client ≤ 64 := by omega
    simp [Req.av, Chg.av, c1, c2]
    refine post_end (.inr rfl) ?_
    simp [d1]
  by_cases c3 : q.num < 1
  · have d1 : ¬ 1 ≤ q.num := by omega
    simp [Req.av, Chg.av, c1, c2, c3]
    refine post_end (.inr rfl) ?_
    simp [d1]
  by_cases c4 : 1099511627776 < q.num
  · have d1 : ¬ q.num ≤ 1099511627776 := by omega
    simp [Req.av, Chg.av, c1, c2, c3, c4]
    refine post_end (.inr rfl) ?_
    simp [d1]
  by_cases c5 : q.kind < 1
  · have d1 : ¬ 1 ≤ q.kind := by omega
    simp [Req.av, Chg.av, c1, c2, c3, c4, c5]
    refine post_end (.inr rfl) ?_
    simp [d1]
  by_cases c6 : 7 < q.kind
  · have d1 : ¬ q.kind ≤ 7 := by omega
    simp [Req.av, Chg.av, c1, c2, c3, c4, c5, c6]
    refine post_end (.inr rfl) ?_
    simp [d1]
  have d1 : 1 ≤ q.client ∧ q.client ≤ 64 ∧ 1 ≤ q.num ∧ q.num ≤ 1099511627776 ∧ 1 ≤ q.kind ∧ q.kind ≤ 7 := by omega
  by_cases e1 : (q.key.length : Int) ≤ 1024
  · have e1n : q.key.length ≤ 1024 := by omega
    by_cases e2 : (q.val.length : Int) ≤ 1024
    · have e2n : q.val.length ≤ 1024 := by omega
      have e3 : (((q.old.length : Nat) : Int) ≤ 1024) = (q.old.length ≤ 1024) := by apply propext; omega
      simp [Req.av, Chg.av, c1, c2, c3, c4, c5, c6, e1, e2]
      refine post_end (.inr rfl) ?_
      simp [d1, e1n, e2n, e3]
    · have e2n : ¬ q.val.length ≤ 1024 := by omega
      simp [Req.av, Chg.av, c1, c2, c3, c4, c5, c6, e1, e2]
      refine post_end (.inr rfl) ?_
      simp [d1, e1n, e2n]
  · have e1n : ¬ q.key.length ≤ 1024 := by omega
    simp [Req.av, Chg.av, c1, c2, c3, c4, c5, c6, e1]
    refine post_end (.inr rfl) ?_
    simp [d1, e1n]

theorem rqnums_meets (ns : List Int) (hn : ns.length ≤ 1000000) : Meets Tryd.prog G fn_r09_nums [.sl 1 (I64 ns)] [] true (.v (.string (mkS (nums ns)))) [] := by
  refine meets_of_go mix k_r09_nums ⟨by simp, by simp, by simp⟩ ?_
  simp
  refine go_up ns.length (fun j (x : Bytes) => x = nums (ns.take j)) (fun j x c => ⟨[(3, .v (.string (mkS x))), (6, .sl 1 (I64 ns)), (7, .v (.int .i64 (ns.length : Nat))), (8, .v (.int .i64 (j : Nat)))], [], c⟩) [] _ (Weak.refl _) (by simp [nums]) ?_ ?_
  · intro j x c hj hx
    have hw : IntKind.i64.wrap ((j : Int) + 1) = ((j + 1 : Nat) : Int) := w64_succ (by omega)
    have hs := nums_snoc ns j hj
    rw [← hx] at hs
    have hxl : x.length ≤ 8000000 := by rw [hx, nums_length, List.length_take]; omega
    have f1 : fitsS (x.length + 8) := fitS (by omega)
    have m1 := rfnum_meets (G := G) ns[j]
    have l1 := be8_length ns[j]
    generalize be8 ns[j] = y at *
    simp [hj]
    refine call_intro m1 ?_ ?_
    · simp
    simp [f1, l1, hw]
    exact ⟨x ++ y, _, Weak.refl _, hs.symm⟩
  · intro x c hx
    rw [List.take_length] at hx
    subst hx
    simp
    refine post_end (.inr rfl) ?_
    simp

def Rep.same (a b : Rep) : Bool := decide (a.client = b.client) && decide (a.num = b.num) && decide (a.code = b.code) && decide (a.vals = b.vals)
end Go.Proofs.YtjlmpdbagmdbiaaDoor.WL

end
section
/-
  CHAPTER 12: contracts of blocks.
-/
namespace Go.Proofs.YtjlmpdbagmdbiaaDoor.WL
open Go
set_option maxHeartbeats 4000000
variable {G : Nat → Option AV}

theorem Dgs_3 (a b c : Dg) : [AV.arr 1 (B a.bs), .arr 1 (B b.bs), .arr 1 (B c.bs)] = Dgs [a, b, c] := (rfl)
theorem bgood_meets (b : Blk) : Meets Tryd.prog G fn_block_Good [b.avS] [] true (.v (.bool b.good)) [] := by
  refine meets_of_go mix k_block_Good ⟨by simp, by simp, by simp⟩ ?_
  unfold Blk.good
  by_cases c1 : b.epoch < 0
  · have d1 : ¬ 0 ≤ b.epoch := by omega
    simp [Blk.avS, c1]
    refine post_end (.inr rfl) ?_
    simp [d1]
  by_cases c2 : 1073741824 < b.epoch
  · have d1 : ¬ b.epoch ≤ 1073741824 := by omega
    simp [Blk.avS, c1, c2]
    refine post_end (.inr rfl) ?_
    simp [d1]
  by_cases c3 : b.height < 1
  · have d1 : ¬ 1 ≤ b.height := by omega
    simp [Blk.avS, c1, c2, c3]
    refine post_end (.inr rfl) ?_
    simp [d1]
  by_cases c4 : 1024 < b.height
  · have d1 : ¬ b.height ≤ 1024 := by omega
    simp [Blk.avS, c1, c2, c3, c4]
    refine post_end (.inr rfl) ?_
    simp [d1]
  by_cases c5 : (8 : Int) < (b.qs.length : Nat)
  · have d1 : ¬ b.qs.length ≤ 8 := by omega
    simp [Blk.avS, c1, c2, c3, c4, c5]
    refine post_end (.inr rfl) ?_
    simp [d1]
  have d : (decide (0 ≤ b.epoch) && decide (b.epoch ≤ 1073741824) && decide (1 ≤ b.height) && decide (b.height ≤ 1024) && decide (b.qs.length ≤ 8)) = true := by
    simp only [Bool.and_eq_true, decide_eq_true_eq]; omega
  rw [d, Bool.true_and]
  generalize hqs : b.qs = qs at *
  simp [Blk.avS, c1, c2, c3, c4, c5, hqs]
  refine go_up qs.length (fun j (_ : Unit) => ∀ i (h : i < qs.length), i < j → qs[i].good = true) (fun j (_ : Unit) c => ⟨[(30, .sl 42 (Reqs qs)), (31, .v (.int .i64 (qs.length : Nat))), (32, .v (.int .i64 (j : Nat)))], [], c + 1⟩) () _ (Weak.re (by simp)) (by intro i _ h; omega) ?_ ?_
  · intro j _ c hj hx
    have hw : IntKind.i64.wrap ((j : Int) + 1) = ((j + 1 : Nat) : Int) := w64_succ (by omega)
    have m1 := qgood_meets (G := G) qs[j]
    simp [hj, Req.av, Chg.av]
    refine call_intro m1 ?_ ?_
    · simp [Req.av, Chg.av]
    cases hg : qs[j].good
    · have hf : qs.all Req.good = false := by
        rw [List.all_eq_false]
        exact ⟨qs[j], List.getElem_mem hj, by simp [hg]⟩
      simp
      refine post_end (.inr rfl) ?_
      simp [hf]
    · simp [hw]
      refine ⟨(), _, Weak.re (by simp), ?_⟩
      intro i hi hij
      rcases (show i < j ∨ i = j by omega) with h | rfl
      · exact hx i hi h
      · exact hg
  · intro _ c hx
    have hf : qs.all Req.good = true := by
      rw [List.all_eq_true]
      intro q hq
      obtain ⟨i, hi, rfl⟩ := List.getElem_of_mem hq
      exact hx i hi hi
    simp
    refine post_end (.inr rfl) ?_
    simp [hf]

theorem bwrite_meets (bs : Bytes) (b : Blk) (h : bs.length + b.bytes.length ≤ 60000000) (hn : b.qs.length ≤ 1000000) : Meets Tryd.prog G fn_block_Write [.ptr 1000 0 0, b.avS] (wrM 0 bs) true (.tup []) (wrM 1 (bs ++ b.bytes)) := by
  refine meets_of_go mix k_block_Write ⟨by simp [wrM], by simp, by simp [wrM]⟩ ?_
  have hlen := b.bytes_len
  have hhl := b.head_len
  have hb : bs ++ b.bytes = bs ++ nums [b.epoch, b.height] ++ flatD [b.prev, b.state, b.next] ++ nums [(b.qs.length : Int)] ++ reqsB b.qs := by simp [Blk.bytes, Blk.head]
  have n1 := nums_length [b.epoch, b.height]
  have n2 := nums_length [(b.qs.length : Int)]
  have n3 : (flatD [b.prev, b.state, b.next]).length = 96 := by simp [flatD]
  simp only [List.length_cons, List.length_nil] at n1 n2
  have m1 := wnum_meets (G := G) bs [b.epoch, b.height] (by simp; omega)
  have m2 := wdigest_meets (G := G) (bs ++ nums [b.epoch, b.height]) [b.prev, b.state, b.next] (by rw [List.length_append]; simp; omega)
  have m3 := wnum_meets (G := G) (bs ++ nums [b.epoch, b.height] ++ flatD [b.prev, b.state, b.next]) [(b.qs.length : Int)] (by simp only [List.length_append]; simp; omega)
  have hl3 : (bs ++ nums [b.epoch, b.height] ++ flatD [b.prev, b.state, b.next] ++ nums [(b.qs.length : Int)]).length = bs.length + 120 := by simp only [List.length_append]; omega
  rw [hb]
  generalize bs ++ nums [b.epoch, b.height] ++ flatD [b.prev, b.state, b.next] ++ nums [(b.qs.length : Int)] = y3 at *
  generalize bs ++ nums [b.epoch, b.height] ++ flatD [b.prev, b.state, b.next] = y2 at *
  generalize bs ++ nums [b.epoch, b.height] = y1 at *
  generalize hqs : b.qs = qs at *
  have hI1 : [AV.v (.int .i64 (qs.length : Nat))] = I64 [(qs.length : Int)] := rfl
  simp [Blk.avS, wrM, hqs]
  refine call_intro m1 ?_ ?_
  · simp [wrM, I64_2]
  simp [wrM, I64_2]
  refine call_intro m2 ?_ ?_
  · simp [wrM, Dgs_3, dv]
  simp [wrM, Dgs_3, dv]
  refine call_intro m3 ?_ ?_
  · simp [wrM, hI1]
  simp [wrM, hI1]
  obtain ⟨F, hF⟩ : ∃ F : Nat → Bytes, ∀ i, F i = y3 ++ reqsB (qs.take i) := ⟨_, fun _ => rfl⟩
  have hF0 : y3 = F 0 := by rw [hF]; simp [reqsB]
  have hFN : y3 ++ reqsB qs = F qs.length := by rw [hF, List.take_length]
  have hFl : (F qs.length).length = (F 0).length + (reqsB qs).length := by rw [← hFN, ← hF0, List.length_append]
  rw [hFN]
  simp only [hF0]
  refine go_up qs.length (fun j (_ : Unit) => True) (fun j _ c => ⟨[(0, .ptr 1000 0 0), (29, .sl 42 (Reqs qs)), (30, .v (.int .i64 (qs.length : Nat))), (31, .v (.int .i64 (j : Nat)))], [(1000, .var 0 (.node [.row 2000 1 c 0 (F j).length])), (2000, .rows c 1 (B (F j)))], c + 1⟩) () _ (Weak.re0 1000 (by simp)) trivial ?_ ?_
  · intro j _ c hj _
    have hw : IntKind.i64.wrap ((j : Int) + 1) = ((j + 1 : Nat) : Int) := w64_succ (by omega)
    have hle := reqsB_take_le qs (j + 1)
    rw [reqsB_take qs j hj, List.length_append] at hle
    have hFj : (F j).length = y3.length + (reqsB (qs.take j)).length := by rw [hF, List.length_append]
    have hFs : F j ++ qs[j].bytes = F (j + 1) := by rw [hF, hF, reqsB_take qs j hj, List.append_assoc]
    have m4 := qwrite_meets (G := G) (F j) qs[j] (by omega)
    rw [hFs] at m4
    simp [hj, Req.av, Chg.av]
    refine call_intro m4 ?_ ?_
    · simp [wrM, Req.av, Chg.av]
    simp [wrM, hw, Req.av, Chg.av]
    exact ⟨(), _, Weak.re0 1000 (by simp), trivial⟩
  · intro _ c _
    simp
    refine post_end (.inl rfl) ?_
    simp [hFl]
end Go.Proofs.YtjlmpdbagmdbiaaDoor.WL

end
section
/-
  CHAPTER 12: contracts of blocks: what follows, what is the same; reading.
-/
namespace Go.Proofs.YtjlmpdbagmdbiaaDoor.WL
open Go
set_option maxHeartbeats 4000000
variable {G : Nat → Option AV}

def Blk.follows (b : Blk) (e h : Int) (p s : Dg) : Bool := b.good && (decide (b.epoch = e) && decide (b.height = h) && decide (b.prev = p) && decide (b.state = s))
end Go.Proofs.YtjlmpdbagmdbiaaDoor.WL

end
section
/-
  CHAPTER 09: walks of laws.
-/
namespace Go.Proofs.YtjlmpdbagmdbiaaDoor.WL
open Go
set_option maxHeartbeats 4000000
variable {G : Nat → Option AV}

def Req.put : Req := ⟨1, 1, 2, [107], [118], [], Chg.zero⟩
def lenSum (ss : List Bytes) : Nat := (ss.map List.length).sum
theorem lenSum_snoc (ss : List Bytes) (j : Nat) (h : j < ss.length) : lenSum (ss.take (j + 1)) = lenSum (ss.take j) + ss[j].length := by
  unfold lenSum
  rw [take_snoc _ _ h]
  simp only [List.map_append, List.sum_append, List.map_cons, List.map_nil, List.sum_cons, List.sum_nil, Nat.add_zero]
theorem lenSum_le (ss : List Bytes) (j : Nat) : lenSum (ss.take j) ≤ lenSum ss := by
  conv => rhs; rw [← List.take_append_drop j ss]
  simp only [lenSum, List.map_append, List.sum_append]
  omega
end Go.Proofs.YtjlmpdbagmdbiaaDoor.WL

end
section
/-
  CHAPTER 09: walks of laws: reading.
-/
namespace Go.Proofs.YtjlmpdbagmdbiaaDoor.WL
open Go
set_option maxHeartbeats 4000000
variable {G : Nat → Option AV}

theorem cmp_int (k : IntKind) (a b : Int) : cmpA (.int k) (.v (.int k a)) (.v (.int k b)) = some (decide (a = b)) := by
  simp [cmpA]
  rw [Bool.eq_iff_iff]
  simp
theorem cmp_dg (a b : Dg) : cmpA (.ints .u8 32) (dv a) (dv b) = some (decide (a = b)) := by
  have e : (natsOf a.bs == natsOf b.bs) = decide (a = b) := by
    rw [Bool.eq_iff_iff, beq_iff_eq, decide_eq_true_eq]
    exact ⟨fun h => Dg.ext' (toNats_inj.1 h), fun h => by rw [h]⟩
  have la : (natsOf a.bs).length = 32 := by simp [natsOf]
  have lb : (natsOf b.bs).length = 32 := by simp [natsOf]
  simp [cmpA, la, lb, e]
deriving instance DecidableEq for Chg, Req
end Go.Proofs.YtjlmpdbagmdbiaaDoor.WL

end
section
/-
  CHAPTER 12: contracts of the reference: what is great, what can be, what is the same.
-/
namespace Go.Proofs.YtjlmpdbagmdbiaaDoor.WL
open Go
set_option maxHeartbeats 4000000
variable {G : Nat → Option AV}

def Blk.great (b : Blk) (m : Nat) : Bool := decide (40 < b.qs.length) || decide (m < (reqsB b.qs).length)
theorem rep3 (z a b c : AV) : (((rep 3 z).set 0 a).set 1 b).set 2 c = [a, b, c] := (rfl)
theorem bgreat_meets (b : Blk) (m : Nat) (hm : m ≤ 1000000) (hf : ∀ q ∈ b.qs, q.key.length ≤ reachBytes ∧ q.val.length ≤ reachBytes ∧ q.old.length ≤ reachBytes) :
    Meets Tryd.prog G fn_r12_Great [b.avS, .v (.int .i64 (m : Nat))] [] true (.v (.bool (b.great m))) [] := by
  refine meets_of_go mix k_r12_Great ⟨by simp, by simp, by simp⟩ ?_
  unfold Blk.great
  generalize hqs : b.qs = qs at *
  by_cases c1 : (40 : Int) < (qs.length : Nat)
  · have d1 : 40 < qs.length := by omega
    simp [Blk.avS, hqs, c1]
    refine post_end (.inr rfl) ?_
    simp [d1]
  have d1 : ¬ 40 < qs.length := by omega
  simp [Blk.avS, hqs, c1]
  refine go_up qs.length (fun j (n : Nat) => n = (reqsB (qs.take j)).length ∧ n ≤ m) (fun j n c => ⟨[(1, .v (.int .i64 (m : Nat))), (5, .v (.int .i64 (n : Nat))), (15, .sl 42 (Reqs qs)), (16, .v (.int .i64 (qs.length : Nat))), (17, .v (.int .i64 (j : Nat)))], [], c + 1⟩) 0 _ (Weak.re (by simp)) (by simp [reqsB]) ?_ ?_
  · rintro j n c hj ⟨hn, hn2⟩
    have hw : IntKind.i64.wrap ((j : Int) + 1) = ((j + 1 : Nat) : Int) := w64_succ (by omega)
    have hle := reqsB_take_le qs (j + 1)
    rw [reqsB_take qs j hj, List.length_append, Req.bytes_len] at hle
    have hs : (reqsB (qs.take (j + 1))).length = n + (100 + (qs[j].key.length + qs[j].val.length + qs[j].old.length)) := by rw [reqsB_take qs j hj, List.length_append, Req.bytes_len, hn]
    rw [← hn] at hle
    obtain ⟨f1, f2, f3⟩ := hf qs[j] (List.getElem_mem hj)
    unfold reachBytes at f1 f2 f3
    have w1 : IntKind.i64.wrap ((n : Int) + 100) = ((n + 100 : Nat) : Int) := by rw [w64_id (by omega)]; omega
    simp [hj, w1, rep3, Req.av, Chg.av]
    generalize qs[j] = q at *
    obtain ⟨ls, hls⟩ : ∃ ls, ls = [q.key, q.val, q.old] := ⟨_, rfl⟩
    have hL : [AV.v (.string (mkS q.key)), .v (.string (mkS q.val)), .v (.string (mkS q.old))] = Strs ls := by rw [hls]; rfl
    rw [hL]
    have hll : ls.length = 3 := by rw [hls]; rfl
    have hsum : lenSum ls = q.key.length + q.val.length + q.old.length := by rw [hls]; simp [lenSum]; omega
    have hfl : ∀ (t : Nat) (h : t < ls.length), ls[t].length ≤ 140737488355328 := by
      intro t h
      have := List.getElem_mem h
      generalize ls[t] = x at *
      rw [hls] at this
      simp at this
      rcases this with rfl | rfl | rfl <;> omega
    refine go_up 3 (fun t (p : Nat) => p = n + 100 + lenSum (ls.take t) ∧ (t = 0 ∨ p ≤ m)) (fun t p c => ⟨[(1, .v (.int .i64 (m : Nat))), (5, .v (.int .i64 (p : Nat))), (15, .sl 42 (Reqs qs)), (16, .v (.int .i64 (qs.length : Nat))), (17, .v (.int .i64 (j : Nat))), (32, .arr 1 (Strs ls)), (33, .v (.int .i64 (t : Nat)))], [], c + 1⟩) (n + 100) _ (Weak.re (by simp)) (by simp [lenSum]) ?_ ?_
    · rintro t p c' ht ⟨hp, hp2⟩
      have hw' : IntKind.i64.wrap ((t : Int) + 1) = ((t + 1 : Nat) : Int) := w64_succ (by omega)
      have ht3 : (t : Int) < 3 := by omega
      have htl : t < ls.length := by omega
      have hs1 := lenSum_snoc ls t htl
      have hl1 := lenSum_le ls (t + 1)
      have hr := hfl t htl
      obtain ⟨s, hs2⟩ : ∃ s, s = p + ls[t].length := ⟨_, rfl⟩
      have w2 : IntKind.i64.wrap ((p : Int) + (ls[t].length : Nat)) = (s : Int) := by rw [w64_id (by omega)]; omega
      by_cases c2 : (m : Int) < (s : Int)
      · have d2 : m < (reqsB qs).length := by omega
        simp [ht, ht3, hll, htl, w2, c2]
        refine post_end (.inr rfl) ?_
        simp [d2]
      · simp [ht, ht3, hll, htl, w2, c2, hw']
        exact ⟨s, _, Weak.re (by simp), by omega, by omega⟩
    · rintro p c' ⟨hp, hp2⟩
      rw [List.take_of_length_le (by omega)] at hp
      simp [hw]
      exact ⟨p, _, Weak.re (by simp), by omega, by omega⟩
  · rintro n c ⟨hn, hn2⟩
    rw [List.take_length] at hn
    have c2 : ¬ (m : Int) < (n : Int) := by omega
    have d2 : ¬ m < (reqsB qs).length := by omega
    simp [c2]
    refine post_end (.inr rfl) ?_
    simp [d1, d2]
end Go.Proofs.YtjlmpdbagmdbiaaDoor.WL

end
section
/-
  CHAPTER 12: contracts of the reference: what can be, what is the same.
-/
namespace Go.Proofs.YtjlmpdbagmdbiaaDoor.WL
open Go
set_option maxHeartbeats 4000000
variable {G : Nat → Option AV}

theorem rbgood_meets (b : Blk) : Meets Tryd.prog G fn_r12_Good [b.avS] [] true (.v (.bool b.good)) [] := by
  refine meets_of_go mix k_r12_Good ⟨by simp, by simp, by simp⟩ ?_
  unfold Blk.good
  by_cases c1 : b.epoch < 0
  · have d1 : ¬ 0 ≤ b.epoch := by omega
    simp [Blk.avS, c1]
    refine post_end (.inr rfl) ?_
    simp [d1]
  by_cases c2 : 1073741824 < b.epoch
  · have d1 : ¬ b.epoch ≤ 1073741824 := by omega
    simp [Blk.avS, c1, c2]
    refine post_end (.inr rfl) ?_
    simp [d1]
  by_cases c3 : b.height < 1
  · have d1 : ¬ 1 ≤ b.height := by omega
    simp [Blk.avS, c1, c2, c3]
    refine post_end (.inr rfl) ?_
    simp [d1]
  by_cases c4 : 1024 < b.height
  · have d1 : ¬ b.height ≤ 1024 := by omega
    simp [Blk.avS, c1, c2, c3, c4]
    refine post_end (.inr rfl) ?_
    simp [d1]
  by_cases c5 : (8 : Int) < (b.qs.length : Nat)
  · have d1 : ¬ b.qs.length ≤ 8 := by omega
    simp [Blk.avS, c1, c2, c3, c4, c5]
    refine post_end (.inr rfl) ?_
    simp [d1]
  have d : (decide (0 ≤ b.epoch) && decide (b.epoch ≤ 1073741824) && decide (1 ≤ b.height) && decide (b.height ≤ 1024) && decide (b.qs.length ≤ 8)) = true := by
    simp only [Bool.and_eq_true, decide_eq_true_eq]; omega
  rw [d, Bool.true_and]
  generalize hqs : b.qs = qs at *
  simp [Blk.avS, c1, c2, c3, c4, c5, hqs]
  refine go_up qs.length (fun j (_ : Unit) => ∀ i (h : i < qs.length), i < j → qs[i].good = true) (fun j (_ : Unit) c => ⟨[(30, .sl 42 (Reqs qs)), (31, .v (.int .i64 (qs.length : Nat))), (32, .v (.int .i64 (j : Nat)))], [], c + 1⟩) () _ (Weak.re (by simp)) (by intro i _ h; omega) ?_ ?_
  · intro j _ c hj hx
    have hw : IntKind.i64.wrap ((j : Int) + 1) = ((j + 1 : Nat) : Int) := w64_succ (by omega)
    have m1 := rqgood_meets (G := G) qs[j]
    simp [hj, Req.av, Chg.av]
    refine call_intro m1 ?_ ?_
    · simp [Req.av, Chg.av]
    cases hg : qs[j].good
    · have hf : qs.all Req.good = false := by
        rw [List.all_eq_false]
        exact ⟨qs[j], List.getElem_mem hj, by simp [hg]⟩
      simp
      refine post_end (.inr rfl) ?_
      simp [hf]
    · simp [hw]
      refine ⟨(), _, Weak.re (by simp), ?_⟩
      intro i hi hij
      rcases (show i < j ∨ i = j by omega) with h | rfl
      · exact hx i hi h
      · exact hg
  · intro _ c hx
    have hf : qs.all Req.good = true := by
      rw [List.all_eq_true]
      intro q hq
      obtain ⟨i, hi, rfl⟩ := List.getElem_of_mem hq
      exact hx i hi hi
    simp
    refine post_end (.inr rfl) ?_
    simp [hf]


def Blk.same (a b : Blk) : Bool := decide (a.epoch = b.epoch) && decide (a.height = b.height) && decide (a.prev = b.prev) && decide (a.state = b.state) && decide (a.next = b.next) && decide (a.qs = b.qs)
end Go.Proofs.YtjlmpdbagmdbiaaDoor.WL

end
section
/-
  CHAPTER 13: contracts of votes and plans, written and read.
-/
namespace Go.Proofs.YtjlmpdbagmdbiaaDoor.WL
open Go
set_option maxHeartbeats 4000000
variable {G : Nat → Option AV}
attribute [local irreducible] sha
attribute [local irreducible] Rd.sig Rd.sig' Rd.blk Rd.blk' Rd.inn Rd.inn' Rd.dg Rd.dg' Rd.rep Rd.rep' repR

theorem I64_5 (a b c d e : Int) : [AV.v (.int .i64 a), .v (.int .i64 b), .v (.int .i64 c), .v (.int .i64 d), .v (.int .i64 e)] = I64 [a, b, c, d, e] := (rfl)
theorem Dgs_1' (a : Dg) : [dv a] = Dgs [a] := (rfl)

/-! What is read is its own, and stays. -/
theorem vhead_meets (bs : Bytes) (v : Vote) (h : bs.length ≤ 50000000) : Meets Tryd.prog G fn_vote_head [.ptr 1000 0 0, v.av] (wrM 0 bs) true (.tup []) (wrM 1 (bs ++ v.head)) := by
  refine meets_of_go mix k_vote_head ⟨by simp [wrM], by simp, by simp [wrM]⟩ ?_
  have m1 := wnum_meets (G := G) bs [v.kind, v.epoch, v.height, v.round, v.src] (by simp; omega)
  have m2 := wdigest_meets (G := G) (bs ++ nums [v.kind, v.epoch, v.height, v.round, v.src]) [v.dg] (by rw [List.length_append, nums_length]; simp; omega)
  have hb : bs ++ v.head = bs ++ nums [v.kind, v.epoch, v.height, v.round, v.src] ++ flatD [v.dg] := by simp [Vote.head, flatD]
  rw [hb]
  generalize bs ++ nums [v.kind, v.epoch, v.height, v.round, v.src] ++ flatD [v.dg] = y2 at *
  generalize bs ++ nums [v.kind, v.epoch, v.height, v.round, v.src] = y1 at *
  simp [wrM, Vote.av]
  refine call_intro m1 ?_ ?_
  · simp [wrM, I64_5]
  simp [wrM, I64_5]
  refine call_intro m2 ?_ ?_
  · simp [wrM, Dgs_1', dv]
  simp [wrM, Dgs_1', dv]
  refine post_end (.inl rfl) ?_
  simp
end Go.Proofs.YtjlmpdbagmdbiaaDoor.WL

end
section
/-
  CHAPTER 13, 08: contracts of plans and configurations, written and read.
-/
namespace Go.Proofs.YtjlmpdbagmdbiaaDoor.WL
open Go
set_option maxHeartbeats 4000000
variable {G : Nat → Option AV}
attribute [local irreducible] sha
attribute [local irreducible] Rd.sig Rd.sig' Rd.blk Rd.blk' Rd.inn Rd.inn' Rd.dg Rd.dg' Rd.rep Rd.rep' repR

/-! Configurations. -/
theorem memsB_take (ms : List Mem) (i : Nat) (h : i < ms.length) : memsB (ms.take (i + 1)) = memsB (ms.take i) ++ memB ms[i] := by
  rw [List.take_succ_eq_append_getElem h]
  unfold memsB
  rw [List.flatMap_append]
  simp only [List.flatMap_cons, List.flatMap_nil, List.append_nil]
theorem memB_len (m : Mem) : (memB m).length = 48 := by simp [memB, nums_length]
theorem memsB_len (ms : List Mem) : (memsB ms).length = 48 * ms.length := by
  induction ms with
  | nil => rfl
  | cons m ms ih =>
    show (memB m ++ memsB ms).length = _
    rw [List.length_append, memB_len, ih, List.length_cons]
    omega
theorem cwrite_meets (bs : Bytes) (c : Conf) (h : bs.length ≤ 50000000) (hn : c.ms.length ≤ 1000) : Meets Tryd.prog G fn_config_Write [.ptr 1000 0 0, c.av] (wrM 0 bs) true (.tup []) (wrM 1 (bs ++ c.bytes)) := by
  refine meets_of_go mix k_config_Write ⟨by simp [wrM], by simp, by simp [wrM]⟩ ?_
  have m1 := wnum_meets (G := G) bs [c.epoch, (c.ms.length : Int)] (by simp; omega)
  have hy : (bs ++ nums [c.epoch, (c.ms.length : Int)]).length = bs.length + 16 := by rw [List.length_append, nums_length]; simp
  have hb : bs ++ c.bytes = bs ++ nums [c.epoch, (c.ms.length : Int)] ++ memsB c.ms := by simp [Conf.bytes]
  rw [hb]
  generalize bs ++ nums [c.epoch, (c.ms.length : Int)] = y at *
  generalize hms : c.ms = ms at *
  have hlen := memsB_len ms
  simp [wrM, Conf.av, hms]
  refine call_intro m1 ?_ ?_
  · simp [wrM, I64_2]
  simp [wrM, I64_2]
  obtain ⟨F, hF⟩ : ∃ F : Nat → Bytes, ∀ i, F i = y ++ memsB (ms.take i) := ⟨_, fun _ => rfl⟩
  have hF0 : y = F 0 := by rw [hF]; simp [memsB]
  have hFN : y ++ memsB ms = F ms.length := by rw [hF, List.take_length]
  have hFl : ∀ i, i ≤ ms.length → (F i).length = y.length + 48 * i := by intro i hi; rw [hF, List.length_append, memsB_len, List.length_take]; omega
  have hFlN : (F ms.length).length = y.length + 48 * ms.length := hFl _ (Nat.le_refl _)
  have hy0 := hy
  have h0l : (F 0).length = y.length := by rw [← hF0]
  rw [hFN]
  rw [hF0] at hy ⊢
  refine go_up ms.length (fun j (_ : Unit) => True) (fun j _ c => ⟨[(0, .ptr 1000 0 0), (15, .sl 34 (Mems ms)), (16, .v (.int .i64 (ms.length : Nat))), (17, .v (.int .i64 (j : Nat)))], [(1000, .var 0 (.node [.row 2000 1 c 0 (F j).length])), (2000, .rows c 1 (B (F j)))], c + 1⟩) () _ (Weak.re0 1000 (by simp)) trivial ?_ ?_
  · intro j _ c hj _
    have hw : IntKind.i64.wrap ((j : Int) + 1) = ((j + 1 : Nat) : Int) := w64_succ (by omega)
    have hlj := hFl j (by omega)
    have hFs : F j ++ memB ms[j] = F (j + 1) := by rw [hF, hF, memsB_take ms j hj, List.append_assoc]
    have m4 := wnum_meets (G := G) (F j) [ms[j].id, ms[j].height] (by simp; omega)
    have m5 := wdigest_meets (G := G) (F j ++ nums [ms[j].id, ms[j].height]) [ms[j].root] (by rw [List.length_append, nums_length]; simp; omega)
    have e : F j ++ nums [ms[j].id, ms[j].height] ++ flatD [ms[j].root] = F (j + 1) := by rw [← hFs]; simp [memB, flatD]
    rw [e] at m5
    generalize F j ++ nums [ms[j].id, ms[j].height] = x1 at *
    simp [hj, Mem.av, dv]
    refine call_intro m4 ?_ ?_
    · simp [wrM, I64_2]
    simp [wrM, I64_2]
    refine call_intro m5 ?_ ?_
    · simp [wrM, Dgs_1]
    simp [wrM, Dgs_1]
    simp [hw]
    exact ⟨(), _, Weak.re0 1000 (by simp), trivial⟩
  · intro _ c _
    simp
    refine post_end (.inl rfl) ?_
    simp [hFlN, h0l, hlen]
end Go.Proofs.YtjlmpdbagmdbiaaDoor.WL

end
section
/-
  CHAPTER 08: the contract of Find, whose test is a function value.
-/
namespace Go.Proofs.YtjlmpdbagmdbiaaDoor.WL
open Go Go.Proofs Go.Shelf Go.RowKit Go.Lib

def rhoIx : Ren := ⟨fun x => if x = 6 then 123 else x, fun x => if x = 22 then 22 else if x = 23 then 89 else if x = 25 then 129 else if x = 3 then 3 else if x = 4 then 4 else x, fun x => x⟩
theorem layIx : SlLaysH0.n6 Tryd.prog rhoIx where
  mixed := mix
  f6 := ⟨Tryd.f123.name, by kernel_rfl, by kernel_rfl⟩
  t0 := by kernel_rfl
  a0 := fun w => run_tagg (by kernel_rfl) w
  z0 := fun w => run_tsz (by kernel_rfl) w
  v0 := fun _ => by kernel_rfl
  t3 := by kernel_rfl
  a3 := fun w => run_tagg (by kernel_rfl) w
  z3 := fun w => run_tsz (by kernel_rfl) w
  v3 := fun _ => by kernel_rfl
  t4 := by kernel_rfl
  a4 := fun w => run_tagg (by kernel_rfl) w
  z4 := fun w => run_tsz (by kernel_rfl) w
  v4 := fun _ => by kernel_rfl
  t22 := by kernel_rfl
  a22 := fun w => run_tagg (by kernel_rfl) w
  z22 := fun w => run_tsz (by kernel_rfl) w
  v22 := fun _ => by kernel_rfl
  t25 := by kernel_rfl
  a25 := fun w => run_tagg (by kernel_rfl) w
  z25 := fun w => run_tsz (by kernel_rfl) w
  v25 := fun _ => by kernel_rfl

/-- A member's cells. -/
def encMem (m : Mem) : List Value := .int .i64 m.id :: (m.root.bs.map (fun b => Value.int .u8 (b.toNat : Int)) ++ [.int .i64 m.height])
theorem encMem_len (m : Mem) : (encMem m).length = 34 := by simp [encMem]
theorem predId (id : Int) (B : Nat) (w : World) (hB : B < w.heap.size) (hcell : w.cell? ⟨B, 0, none⟩ = some (.int .i64 id)) :
    PredBelow Tryd.prog 124 #[.pointer (some ⟨B, 0, none⟩)] (fun m : Mem => .agg (encMem m).toArray) (fun m => decide (m.id = id)) w := fun W x hb => by
  have hc : W.cell? ⟨B, 0, none⟩ = some (.int .i64 id) := (hb.cell (p := ⟨B, 0, none⟩) hB).trans hcell
  have hBW : B < W.heap.size := Nat.lt_of_lt_of_le hB hb.size
  have hne : B ≠ W.heap.size := by omega
  show Calls Tryd.prog 124 #[.agg (encMem x).toArray, .pointer (some ⟨B, 0, none⟩)] W _
  have he : (encMem x).toArray = (Value.int .i64 x.id :: (x.root.bs.map (fun b => Value.int .u8 (b.toNat : Int)) ++ [.int .i64 x.height])).toArray := rfl
  rw [he]
  generalize (x.root.bs.map (fun b => Value.int .u8 (b.toNat : Int)) ++ [Value.int .i64 x.height]) = rest
  go_enter Tryd.func124, Tryd.ntmps124
  go_wp2
  all_goals (go_ret; exact ⟨by simp_all; rw [Bool.eq_iff_iff]; simp, hb.alloc hb.size _⟩)

instance : Inhabited Mem := ⟨⟨0, Dg.zero, 0⟩⟩
/-- Which member it is; -1: none. -/
def idxOf (ms : List Mem) (id : Int) : Int := Lib.idxBy (fun _ y : Mem => decide (y.id = id)) ms default
theorem idxOf_case (ms : List Mem) (id : Int) : (idxOf ms id = -1) ∨ ∃ k : Nat, k < ms.length ∧ idxOf ms id = (k : Int) := by
  by_cases h : ∃ k, k < ms.length ∧ (ms[k]!).id = id
  · right
    obtain ⟨k, hk, hm⟩ : ∃ k, k < ms.length ∧ (ms[k]!).id = id ∧ ∀ j, j < k → (ms[j]!).id ≠ id := by
      obtain ⟨k, hk, hid⟩ := h
      induction k using Nat.strongRecOn with
      | ind k ih =>
        by_cases hj : ∃ j, j < k ∧ (ms[j]!).id = id
        · obtain ⟨j, hjk, hjid⟩ := hj
          exact ih j hjk (by omega) hjid
        · exact ⟨k, hk, hid, fun j hjk hjid => hj ⟨j, hjk, hjid⟩⟩
    refine ⟨k, hk, ?_⟩
    have := Lib.idxBy_hit (fun _ y : Mem => decide (y.id = id)) ms ms.length k default hk (Nat.le_refl _) (decide_eq_true hm.1) (fun j hj => decide_eq_false (hm.2 j hj))
    rwa [List.take_length] at this
  · left
    have := Lib.idxBy_miss (fun _ y : Mem => decide (y.id = id)) ms ms.length default (fun j hj => by
      simp only [decide_eq_false_iff_not]
      exact fun hid => h ⟨j, hj, hid⟩)
    rwa [List.take_length] at this
theorem index_calls (id : Int) (b off cap B : Nat) (ms : List Mem) (w : World) (hbig : ms.length ≤ 9223372036854775807) (hb : b < w.heap.size) (hB : B < w.heap.size) (hid : w.cell? ⟨B, 0, none⟩ = some (.int .i64 id))
    (hc : ∀ j, j < ms.length → ∀ i v, (encMem ms[j]!)[i]? = some v → w.cell? ⟨b, off + j * 34 + i, none⟩ = some v) :
    Calls Tryd.prog 123 #[.slice (some ⟨b, off, none⟩) ms.length cap, .func (.func 124) #[] #[.pointer (some ⟨B, 0, none⟩)]] w fun ex w' => ex = .returned (.int .i64 (idxOf ms id)) ∧ Below w.heap.size w w' := by
  have eg : ∀ args w, (callFunc 124 args).run Tryd.prog w = .ok (.enter 124 args) w := enters_of Tryd.func124 (by kernel_rfl) rfl
  have h := AnyQ.slices_IndexFunc layIx 34 (fun w => run_tagg (by kernel_rfl) w) (fun w => run_tsz (by kernel_rfl) w) encMem encMem_len (fun y : Mem => decide (y.id = id)) 124 #[.pointer (some ⟨B, 0, none⟩)] eg b off ms.length cap ms w
    (predId id B w hB hid) (Nat.le_refl _) hbig hb hc
  rw [List.take_length] at h
  exact h
end Go.Proofs.YtjlmpdbagmdbiaaDoor.WL

end
