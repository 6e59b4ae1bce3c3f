/-
  CHAPTER 05: contracts of the reference: writing and reading.
-/
import Derived.Test.YtmdjimkndeklmaaDoorS05b
import Derived.Test.YtmdjimkndeklmaaDoorS01d
import Derived.Test.YtmdjimkndeklmaaDoorS01f
namespace Go.Proofs.YtmdjimkndeklmaaDoor.WL
open Go
set_option maxHeartbeats 4000000
variable {G : Nat → Option AV}

theorem rkwrite_bad (s : Sig) (h : s.ok = false) : Meets Tryd.prog G fn_r05_Write [s.avS] [] true (.tup [.v (.string (mkS [])), .v (.bool false)]) [] := by
  refine meets_of_go mix k_r05_Write ⟨by simp, by simp, by simp⟩ ?_
  simp only [Sig.ok, decide_eq_false_iff_not] at h
  by_cases h1 : s.op.length = 32
  · by_cases h2 : s.sh.length = 32
    · have h3 : 6 < s.path.length := by omega
      have h3i : (6 : Int) < (s.path.length : Nat) := by omega
      simp [Sig.avS, h1, h2, h3, h3i]
      refine post_end (.inr rfl) ?_
      simp
    · have h2i : ¬ (s.sh.length : Int) = 32 := by omega
      simp [Sig.avS, h1, h2, h2i]
      refine post_end (.inr rfl) ?_
      simp
  · have h1i : ¬ (s.op.length : Int) = 32 := by omega
    simp [Sig.avS, h1, h1i]
    refine post_end (.inr rfl) ?_
    simp

def Dgss (l : List (List Dg)) : List AV := l.map fun x => .sl 32 (Dgs x)
@[simp] theorem Dgss_length (l : List (List Dg)) : (Dgss l).length = l.length := by simp [Dgss]
@[simp] theorem Dgss_closed (l : List (List Dg)) : closeds (Dgss l) = true := by simp [Dgss, closeds_all]
@[simp] theorem Dgss_getElem (n : Nat) (a : List (List Dg)) (h : n < (Dgss a).length) : (Dgss a)[n] = .sl 32 (Dgs (a[n]'(by simpa using h))) := by simp [Dgss]
@[simp] theorem Dgss_get (n : Nat) (a : List (List Dg)) : (Dgss a)[n]? = (a[n]?).map fun p => .sl 32 (Dgs p) := by simp [Dgss]
theorem Dgss_3 (a b c : List Dg) : [AV.sl 32 (Dgs a), .sl 32 (Dgs b), .sl 32 (Dgs c)] = Dgss [a, b, c] := (rfl)

theorem rkwrite_meets (s : Sig) (h : s.ok = true) : Meets Tryd.prog G fn_r05_Write [s.avS] [] true (.tup [.v (.string (mkS s.bytes)), .v (.bool true)]) [] := by
  refine meets_of_go mix k_r05_Write ⟨by simp, by simp, by simp⟩ ?_
  simp only [Sig.ok, decide_eq_true_eq] at h
  obtain ⟨h1, h2, h3⟩ := h
  have h3i : ¬ (6 : Int) < (s.path.length : Nat) := by omega
  have h3n : ¬ 6 < s.path.length := by omega
  obtain ⟨L, hL⟩ : ∃ L, L = [s.op, s.sh, s.path] := ⟨_, rfl⟩
  have hLl : L.length = 3 := by rw [hL]; rfl
  have hLs : ∀ i (hi : i < L.length), L[i].length ≤ 32 := by
    intro i hi
    subst hL
    rcases (show i = 0 ∨ i = 1 ∨ i = 2 by simp at hi; omega) with rfl | rfl | rfl
    · show s.op.length ≤ 32; omega
    · show s.sh.length ≤ 32; omega
    · show s.path.length ≤ 32; omega
  have hbts : s.bytes = be8 s.leaf ++ be8 (s.path.length : Int) ++ (L.map flatD).flatten := by rw [hL]; simp [Sig.bytes, nums]
  rw [hbts]
  have m1 := rfnum_meets (G := G) s.leaf
  have m2 := rfnum_meets (G := G) (s.path.length : Int)
  have l1 := be8_length s.leaf
  have l2 := be8_length (s.path.length : Int)
  generalize be8 s.leaf = x1 at *
  generalize be8 (s.path.length : Int) = x2 at *
  have f1 : fitsS (8 + 8) := fitS (by omega)
  have hfl : ∀ i, i ≤ L.length → ((L.take i).map flatD).flatten.length ≤ 1024 * i := by
    intro i
    induction i with
    | zero => intro _; simp
    | succ i ih =>
      intro hi
      rw [take_snoc _ _ (by omega), List.map_append, List.flatten_append, List.length_append]
      have := ih (by omega)
      have h4 := hLs i (by omega)
      simp only [List.map_cons, List.map_nil, List.flatten_cons, List.flatten_nil, List.append_nil, flatD_length]
      omega
  obtain ⟨F, hF⟩ : ∃ F : Nat → Bytes, ∀ i, F i = x1 ++ x2 ++ ((L.take i).map flatD).flatten := ⟨_, fun _ => rfl⟩
  have hF0 : F 0 = x1 ++ x2 := by rw [hF]; simp
  have hF3 : F 3 = x1 ++ x2 ++ (L.map flatD).flatten := by rw [hF, List.take_of_length_le (by omega)]
  have hFs : ∀ i (hi : i < L.length), F (i + 1) = F i ++ flatD L[i] := by
    intro i hi
    rw [hF, hF, take_snoc _ _ hi, List.map_append, List.flatten_append]
    simp only [List.map_cons, List.map_nil, List.flatten_cons, List.flatten_nil, List.append_nil, List.append_assoc]
  have hFl : ∀ i, i ≤ L.length → (F i).length ≤ 16 + 1024 * i := by
    intro i hi
    have := hfl i hi
    rw [hF, List.length_append, List.length_append, l1, l2]
    omega
  rw [← hF3]
  simp [Sig.avS, h1, h2, h3n, h3i]
  refine call_intro m1 ?_ ?_
  · simp
  simp
  refine call_intro m2 ?_ ?_
  · simp
  simp [f1, l1, l2]
  refine go_up 3 (fun i (x : Bytes) => x = F i) (fun i x c => ⟨[(4, .v (.string (mkS x))), (43, .row 43 1 c 0 3), (44, .v (.int .i64 3)), (45, .v (.int .i64 (i : Nat)))], [(43, .rows c 1 (Dgss L))], c + 1⟩) (x1 ++ x2) _ (Weak.re (by simp [hL, Dgss_3])) hF0.symm ?_ ?_
  · intro i x c hi hx
    have hw : IntKind.i64.wrap ((i : Int) + 1) = ((i + 1 : Nat) : Int) := w64_succ (by omega)
    have hi3 : (i : Int) < 3 := by omega
    have hiL : i < L.length := by omega
    have hxl := hFl i (by omega)
    rw [← hx] at hxl
    have hnx := hFs i hiL
    rw [← hx] at hnx
    have hl := hLs i hiL
    obtain ⟨l, hll⟩ : ∃ l, L[i] = l := ⟨_, rfl⟩
    rw [hll] at hnx hl
    simp [hi3, hi, hLl, hll]
    refine go_up l.length (fun j (y : Bytes) => y = x ++ flatD (l.take j)) (fun j y c => ⟨[(4, .v (.string (mkS y))), (43, .row 43 1 c 0 3), (44, .v (.int .i64 3)), (45, .v (.int .i64 (i : Nat))), (49, .sl 32 (Dgs l)), (50, .v (.int .i64 (l.length : Nat))), (51, .v (.int .i64 (j : Nat)))], [(43, .rows c 1 (Dgss L))], c + 1⟩) x _ (Weak.re (by simp)) (by simp [flatD]) ?_ ?_
    · intro j y c hj hy
      have hw : IntKind.i64.wrap ((j : Int) + 1) = ((j + 1 : Nat) : Int) := w64_succ (by omega)
      have hs := flatD_snoc l j hj
      have hyl : y.length ≤ 10000 := by
        rw [hy, List.length_append, flatD_length, List.length_take]
        omega
      have f2 : fitsS (y.length + 32) := fitS (by omega)
      have hny : y ++ l[j].bs = x ++ flatD (l.take (j + 1)) := by rw [hy, hs, List.append_assoc]
      have m3 := rfdigest_meets (G := G) l[j]
      simp [hj]
      refine call_intro m3 ?_ ?_
      · simp
      simp [f2, hw]
      exact ⟨y ++ l[j].bs, _, Weak.re (by simp), hny⟩
    · intro y c hy
      rw [List.take_length] at hy
      simp [hw]
      exact ⟨y, _, Weak.re (by simp), by rw [hy]; exact hnx.symm⟩
  · intro x c hx
    rw [← hx]
    simp
    refine post_end (.inr rfl) ?_
    simp

/-- Where the next digest goes. -/
structure KdA where
  o : List Dg
  s : List Dg
  p : List Dg
def KdA.put (a : KdA) (i : Nat) (d : Dg) : KdA := if i < 32 then { a with o := a.o ++ [d] } else if i < 64 then { a with s := a.s ++ [d] } else { a with p := a.p ++ [d] }
/-- The first i digests in their lists. -/
def Rd.kd (r : Rd) : Nat → KdA
  | 0 => ⟨[], [], []⟩
  | i + 1 => (r.kd i).put i (r.ds' i).dg
theorem kd_o (r : Rd) : ∀ i, i ≤ 32 → r.kd i = ⟨r.ds i, [], []⟩
  | 0, _ => rfl
  | i + 1, h => by
    simp only [Rd.kd, kd_o r i (by omega), KdA.put, if_pos (show i < 32 by omega)]
    rfl
theorem kd_s (r : Rd) : ∀ i, i ≤ 32 → r.kd (32 + i) = ⟨r.ds 32, (r.ds' 32).ds i, []⟩
  | 0, _ => kd_o r 32 (by omega)
  | i + 1, h => by
    show r.kd (32 + i + 1) = _
    simp only [Rd.kd, kd_s r i (by omega), KdA.put, if_neg (show ¬ 32 + i < 32 by omega), if_pos (show 32 + i < 64 by omega), Rd.ds_add']
    rfl
theorem kd_p (r : Rd) : ∀ i, r.kd (64 + i) = ⟨r.ds 32, (r.ds' 32).ds 32, ((r.ds' 32).ds' 32).ds i⟩
  | 0 => kd_s r 32 (by omega)
  | i + 1 => by
    show r.kd (64 + i + 1) = _
    simp only [Rd.kd, kd_p r i, KdA.put, if_neg (show ¬ 64 + i < 32 by omega), if_neg (show ¬ 64 + i < 64 by omega)]
    rw [show 64 + i = 32 + (32 + i) by omega, Rd.ds_add', Rd.ds_add']
    rfl
def kfM (c : Nat) (q : Rd) (leaf : Int) (a : KdA) : List (Nat × Loc) :=
  [(2, .var c (.node [.v (.int .i64 0), .node [.v (.slice none 0 0), .v (.slice none 0 0)], .v (.slice none 0 0)])), (3, .var c (.node [.v (.int .i64 leaf), .node [.row 31 32 c 0 a.o.length, .row 41 32 c 0 a.s.length], .row 48 32 c 0 a.p.length])),
   (31, .rows c 32 (Dgs a.o)), (41, .rows c 32 (Dgs a.s)), (48, .rows c 32 (Dgs a.p)),
   (1000, .var 0 (.node [.v (.string (mkS q.s)), .v (.bool q.bad)]))]

theorem rkread_meets (r : Rd) : Meets Tryd.prog G fn_r05_Read [.ptr 1000 0 0] (rfM r) true (Sig.avR 3000 4000 5000 1 r.sig) (rfM r.sig' ++ Sig.rows 3000 4000 5000 1 r.sig) := by
  refine meets_of_go mix k_r05_Read ⟨by simp [rfM, Sig.rows], by simp [rfM, Sig.rows, Sig.avR], by simp [rfM, Sig.rows]⟩ ?_
  obtain ⟨hN, hN2⟩ := r.sN_eq
  have m1 := rnum_meets (G := G) r
  have m2 := rin_meets (G := G) r.num' 0 6
  rw [← hN] at m2
  have hs2 : r.num'.inn' 0 6 = r.s2 := rfl
  rw [hs2] at m2
  have hsane : ∀ n, (r.s2.ds' n).sane := r.s2.ds_sane (Rd.inn_sane _ _ _)
  have hsig' : r.sig' = r.s2.ds' (64 + r.sN) := by
    unfold Rd.sig'
    rw [show 64 + r.sN = 32 + (32 + r.sN) by omega, Rd.ds_add', Rd.ds_add']
  have hkd := kd_p r.s2 r.sN
  have hsig : r.sig = if (r.s2.ds' (64 + r.sN)).bad = true then Sig.zero else ⟨r.num, (r.s2.kd (64 + r.sN)).o, (r.s2.kd (64 + r.sN)).s, (r.s2.kd (64 + r.sN)).p⟩ := by
    rw [hkd, ← hsig']
    rfl
  rw [hsig', hsig]
  clear hsig hkd hsig'
  generalize r.sN = N at *
  generalize r.num' = r1 at *
  generalize r.num = lf at *
  generalize r.s2 = r2 at *
  obtain ⟨M, hM⟩ : ∃ M, M = 64 + N := ⟨_, rfl⟩
  rw [← hM]
  have wM : IntKind.i64.wrap (64 + (N : Int)) = (M : Int) := by rw [w64_id (by omega)]; omega
  simp [rfM]
  refine call_intro m1 ?_ ?_
  · simp [rfM]
  simp [rfM]
  refine call_intro m2 ?_ ?_
  · simp [rfM]
  simp [rfM]
  refine go_up M (fun j (_ : Unit) => True) (fun j _ c => ⟨[(0, .ptr 1000 0 0), (2, .ptr 2 c 0), (3, .ptr 3 c 0), (4, .v (.int .i64 (N : Nat))), (5, .v (.int .i64 (j : Nat)))], kfM c (r2.ds' j) lf (r2.kd j), c + 1⟩) () _ (Weak.re0 1000 (by simp [kfM, Rd.kd, Rd.ds'])) trivial ?_ ?_
  · intro j _ c hj _
    have hw : IntKind.i64.wrap ((j : Int) + 1) = ((j + 1 : Nat) : Int) := w64_succ (by omega)
    have e1 : r2.kd (j + 1) = (r2.kd j).put j (r2.ds' j).dg := rfl
    have e2 : r2.ds' (j + 1) = (r2.ds' j).dg' := rfl
    have hsj := hsane j
    have hsM := hsane M
    have hbM := r2.ds_bad j
    have m6 := rgood_meets (G := G) (r2.ds' j)
    have hal : (r2.kd j).o.length ≤ j ∧ (r2.kd j).s.length ≤ j ∧ (r2.kd j).p.length ≤ j := by
      clear e1 e2 hsj hsM hbM m6
      induction j with
      | zero => simp [Rd.kd]
      | succ j ih =>
        have := ih (by omega) (w64_succ (by omega))
        simp only [Rd.kd, KdA.put]
        split
        · simp; omega
        · split
          · simp; omega
          · simp; omega
    generalize r2.kd j = a at *
    cases hb : (r2.ds' j).bad
    · generalize r2.ds' j = q at *
      have m5 := rdigest_meets (G := G) q
      generalize q.dg' = q' at *
      generalize q.dg = t at *
      obtain ⟨ox, sx, px⟩ := a
      simp only at hal
      by_cases c1 : j < 32
      · have c1i : (j : Int) < 32 := by omega
        have f1 : fitsB (ox.length + 1) 32 := fits (by omega) (by omega)
        have e3 : r2.kd (j + 1) = ⟨ox ++ [t], sx, px⟩ := by rw [e1]; simp [KdA.put, c1]
        simp [hj, kfM, wM, hb]
        refine call_intro m6 ?_ ?_
        · simp [rfM, hb]
        simp [rfM, hb]
        refine call_intro m5 ?_ ?_
        · simp [rfM, hb]
        simp [rfM, c1, c1i, f1, hw, Dgs_snoc]
        exact ⟨(), _, Weak.re0 1000 (by simp [kfM, e3, e2]), trivial⟩
      · have c1i : ¬ (j : Int) < 32 := by omega
        by_cases c2 : j < 64
        · have c2i : (j : Int) < 64 := by omega
          have f1 : fitsB (sx.length + 1) 32 := fits (by omega) (by omega)
          have e3 : r2.kd (j + 1) = ⟨ox, sx ++ [t], px⟩ := by rw [e1]; simp [KdA.put, c1, c2]
          simp [hj, kfM, wM, hb]
          refine call_intro m6 ?_ ?_
          · simp [rfM, hb]
          simp [rfM, hb]
          refine call_intro m5 ?_ ?_
          · simp [rfM, hb]
          simp [rfM, c1, c1i, c2, c2i, f1, hw, Dgs_snoc]
          exact ⟨(), _, Weak.re0 1000 (by simp [kfM, e3, e2]), trivial⟩
        · have c2i : ¬ (j : Int) < 64 := by omega
          have f1 : fitsB (px.length + 1) 32 := fits (by omega) (by omega)
          have e3 : r2.kd (j + 1) = ⟨ox, sx, px ++ [t]⟩ := by rw [e1]; simp [KdA.put, c1, c2]
          simp [hj, kfM, wM, hb]
          refine call_intro m6 ?_ ?_
          · simp [rfM, hb]
          simp [rfM, hb]
          refine call_intro m5 ?_ ?_
          · simp [rfM, hb]
          simp [rfM, c1, c1i, c2, c2i, f1, hw, Dgs_snoc]
          exact ⟨(), _, Weak.re0 1000 (by simp [kfM, e3, e2]), trivial⟩
    · have hbn := hbM hb M (by omega)
      have s1 := hsj hb
      have s2 := hsM hbn
      generalize r2.ds' j = q at *
      generalize r2.ds' M = p at *
      simp [hj, kfM, wM, hb]
      refine call_intro m6 ?_ ?_
      · simp [rfM, hb]
      simp [rfM, hb]
      refine call_intro m6 ?_ ?_
      · simp [rfM, hb]
      simp [rfM, hb]
      refine post_end (.inr rfl) ?_
      simp [Sig.avR, Sig.rows, Sig.zero, hb, hbn, s1, s2]
  · intro _ c _
    generalize r2.kd M = a at *
    generalize r2.ds' M = q at *
    have m6 := rgood_meets (G := G) q
    simp [kfM, wM]
    refine call_intro m6 ?_ ?_
    · simp [rfM]
    cases hb : q.bad
    · simp [rfM, hb]
      refine post_end (.inr rfl) ?_
      simp [Sig.avR, Sig.rows, hb]
    · simp [rfM, hb]
      refine post_end (.inr rfl) ?_
      simp [Sig.avR, Sig.rows, Sig.zero, hb]
end Go.Proofs.YtmdjimkndeklmaaDoor.WL
