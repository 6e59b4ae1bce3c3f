
import Derived.Test.YtjlmpdbagmdbiaaDoorWm11
section
namespace Go.Proofs.YtjlmpdbagmdbiaaDoor.WL
open Go
set_option maxHeartbeats 4000000
variable {G : Nat → Option AV}
theorem JJk (s : Sig) (h : s.ok = false) : Meets Tryd.prog G Jin [s.avS] [] true (.tup [.v (.string (mkS [])), .v (.bool false)]) [] := by
  refine Jc mix JD1 ⟨by simp, by simp, by simp⟩ ?_
  simp only [Sig.ok, decide_eq_false_iff_not] at h
  by_cases h1 : s.op.length = 32
  · by_cases h2 : s.sh.length = 32
    · have h3 : 6 < s.path.length := by omega
      have h3i : (6 : Int) < (s.path.length : Nat) := by omega
      simp [Sig.avS, h1, h2, h3, h3i]
      refine Jb (.inr rfl) ?_
      simp
    · have h2i : ¬ (s.sh.length : Int) = 32 := by omega
      simp [Sig.avS, h1, h2, h2i]
      refine Jb (.inr rfl) ?_
      simp
  · have h1i : ¬ (s.op.length : Int) = 32 := by omega
    simp [Sig.avS, h1, h1i]
    refine Jb (.inr rfl) ?_
    simp
def Dgss (l : List (List Dg)) : List AV := l.map fun x => .sl 32 (Dgs x)
@[simp] theorem JRZ (l : List (List Dg)) : (Dgss l).length = l.length := by simp [Dgss]
@[simp] theorem JSF (l : List (List Dg)) : closeds (Dgss l) = true := by simp [Dgss, closeds_all]
@[simp] theorem JQm (n : Nat) (a : List (List Dg)) (h : n < (Dgss a).length) : (Dgss a)[n] = .sl 32 (Dgs (a[n]'(by simpa using h))) := by simp [Dgss]
@[simp] theorem JWh (n : Nat) (a : List (List Dg)) : (Dgss a)[n]? = (a[n]?).map fun p => .sl 32 (Dgs p) := by simp [Dgss]
theorem JTY (a b c : List Dg) : [AV.sl 32 (Dgs a), .sl 32 (Dgs b), .sl 32 (Dgs c)] = Dgss [a, b, c] := (rfl)
theorem JFA (s : Sig) (h : s.ok = true) : Meets Tryd.prog G Jin [s.avS] [] true (.tup [.v (.string (mkS s.bytes)), .v (.bool true)]) [] := by
  refine Jc mix JD1 ⟨by simp, by simp, by simp⟩ ?_
  simp only [Sig.ok, decide_eq_true_eq] at h
  obtain ⟨h1, h2, h3⟩ := h
  have h3i : ¬ (6 : Int) < (s.path.length : Nat) := by omega
  have h3n : ¬ 6 < s.path.length := by omega
  obtain ⟨L, hL⟩ : ∃ L, L = [s.op, s.sh, s.path] := ⟨_, rfl⟩
  have hLl : L.length = 3 := by rw [hL]; rfl
  have hLs : ∀ i (hi : i < L.length), L[i].length ≤ 32 := by
    intro i hi
    subst hL
    rcases (show i = 0 ∨ i = 1 ∨ i = 2 by simp at hi; omega) with rfl | rfl | rfl
    · show s.op.length ≤ 32; omega
    · show s.sh.length ≤ 32; omega
    · show s.path.length ≤ 32; omega
  have hbts : s.bytes = be8 s.leaf ++ be8 (s.path.length : Int) ++ (L.map flatD).flatten := by rw [hL]; simp [Sig.bytes, nums]
  rw [hbts]
  have m1 := Ju (G := G) s.leaf
  have m2 := Ju (G := G) (s.path.length : Int)
  have l1 := Jcs s.leaf
  have l2 := Jcs (s.path.length : Int)
  generalize be8 s.leaf = x1 at *
  generalize be8 (s.path.length : Int) = x2 at *
  have f1 : fitsS (8 + 8) := fitS (by omega)
  have hfl : ∀ i, i ≤ L.length → ((L.take i).map flatD).flatten.length ≤ 1024 * i := by
    intro i
    induction i with
    | zero => intro _; simp
    | succ i ih =>
      intro hi
      rw [Jbk _ _ (by omega), List.map_append, List.flatten_append, List.length_append]
      have := ih (by omega)
      have h4 := hLs i (by omega)
      simp only [List.map_cons, List.map_nil, List.flatten_cons, List.flatten_nil, List.append_nil, Jbc]
      omega
  obtain ⟨F, hF⟩ : ∃ F : Nat → Bytes, ∀ i, F i = x1 ++ x2 ++ ((L.take i).map flatD).flatten := ⟨_, fun _ => rfl⟩
  have hF0 : F 0 = x1 ++ x2 := by rw [hF]; simp
  have hF3 : F 3 = x1 ++ x2 ++ (L.map flatD).flatten := by rw [hF, List.take_of_length_le (by omega)]
  have hFs : ∀ i (hi : i < L.length), F (i + 1) = F i ++ flatD L[i] := by
    intro i hi
    rw [hF, hF, Jbk _ _ hi, List.map_append, List.flatten_append]
    simp only [List.map_cons, List.map_nil, List.flatten_cons, List.flatten_nil, List.append_nil, List.append_assoc]
  have hFl : ∀ i, i ≤ L.length → (F i).length ≤ 16 + 1024 * i := by
    intro i hi
    have := hfl i hi
    rw [hF, List.length_append, List.length_append, l1, l2]
    omega
  rw [← hF3]
  simp [Sig.avS, h1, h2, h3n, h3i]
  refine Ja m1 ?_ ?_
  · simp
  simp
  refine Ja m2 ?_ ?_
  · simp
  simp [f1, l1, l2]
  refine go_up 3 (fun i (x : Bytes) => x = F i) (fun i x c => ⟨[(4, .v (.string (mkS x))), (43, .row 43 1 c 0 3), (44, .v (.int .i64 3)), (45, .v (.int .i64 (i : Nat)))], [(43, .rows c 1 (Dgss L))], c + 1⟩) (x1 ++ x2) _ (Weak.re (by simp [hL, JTY])) hF0.symm ?_ ?_
  · intro i x c hi hx
    have hw : IntKind.i64.wrap ((i : Int) + 1) = ((i + 1 : Nat) : Int) := Je (by omega)
    have hi3 : (i : Int) < 3 := by omega
    have hiL : i < L.length := by omega
    have hxl := hFl i (by omega)
    rw [← hx] at hxl
    have hnx := hFs i hiL
    rw [← hx] at hnx
    have hl := hLs i hiL
    obtain ⟨l, hll⟩ : ∃ l, L[i] = l := ⟨_, rfl⟩
    rw [hll] at hnx hl
    simp [hi3, hi, hLl, hll]
    refine go_up l.length (fun j (y : Bytes) => y = x ++ flatD (l.take j)) (fun j y c => ⟨[(4, .v (.string (mkS y))), (43, .row 43 1 c 0 3), (44, .v (.int .i64 3)), (45, .v (.int .i64 (i : Nat))), (49, .sl 32 (Dgs l)), (50, .v (.int .i64 (l.length : Nat))), (51, .v (.int .i64 (j : Nat)))], [(43, .rows c 1 (Dgss L))], c + 1⟩) x _ (Weak.re (by simp)) (by simp [flatD]) ?_ ?_
    · intro j y c hj hy
      have hw : IntKind.i64.wrap ((j : Int) + 1) = ((j + 1 : Nat) : Int) := Je (by omega)
      have hs := JE9 l j hj
      have hyl : y.length ≤ 10000 := by
        rw [hy, List.length_append, Jbc, List.length_take]
        omega
      have f2 : fitsS (y.length + 32) := fitS (by omega)
      have hny : y ++ l[j].bs = x ++ flatD (l.take (j + 1)) := by rw [hy, hs, List.append_assoc]
      have m3 := JZ (G := G) l[j]
      simp [hj]
      refine Ja m3 ?_ ?_
      · simp
      simp [f2, hw]
      exact ⟨y ++ l[j].bs, _, Weak.re (by simp), hny⟩
    · intro y c hy
      rw [List.take_length] at hy
      simp [hw]
      exact ⟨y, _, Weak.re (by simp), by rw [hy]; exact hnx.symm⟩
  · intro x c hx
    rw [← hx]
    simp
    refine Jb (.inr rfl) ?_
    simp
structure KdA where
  o : List Dg
  s : List Dg
  p : List Dg
def KdA.put (a : KdA) (i : Nat) (d : Dg) : KdA := if i < 32 then { a with o := a.o ++ [d] } else if i < 64 then { a with s := a.s ++ [d] } else { a with p := a.p ++ [d] }
def Rd.kd (r : Rd) : Nat → KdA
  | 0 => ⟨[], [], []⟩
  | i + 1 => (r.kd i).put i (r.ds' i).dg
theorem kd_o (r : Rd) : ∀ i, i ≤ 32 → r.kd i = ⟨r.ds i, [], []⟩
  | 0, _ => rfl
  | i + 1, h => by
    simp only [Rd.kd, kd_o r i (by omega), KdA.put, if_pos (show i < 32 by omega)]
    rfl
theorem kd_s (r : Rd) : ∀ i, i ≤ 32 → r.kd (32 + i) = ⟨r.ds 32, (r.ds' 32).ds i, []⟩
  | 0, _ => kd_o r 32 (by omega)
  | i + 1, h => by
    show r.kd (32 + i + 1) = _
    simp only [Rd.kd, kd_s r i (by omega), KdA.put, if_neg (show ¬ 32 + i < 32 by omega), if_pos (show 32 + i < 64 by omega), Rd.ds_add']
    rfl
theorem kd_p (r : Rd) : ∀ i, r.kd (64 + i) = ⟨r.ds 32, (r.ds' 32).ds 32, ((r.ds' 32).ds' 32).ds i⟩
  | 0 => kd_s r 32 (by omega)
  | i + 1 => by
    show r.kd (64 + i + 1) = _
    simp only [Rd.kd, kd_p r i, KdA.put, if_neg (show ¬ 64 + i < 32 by omega), if_neg (show ¬ 64 + i < 64 by omega)]
    rw [show 64 + i = 32 + (32 + i) by omega, Rd.ds_add', Rd.ds_add']
    rfl
def kfM (c : Nat) (q : Rd) (leaf : Int) (a : KdA) : List (Nat × Loc) :=
  [(2, .var c (.node [.v (.int .i64 0), .node [.v (.slice none 0 0), .v (.slice none 0 0)], .v (.slice none 0 0)])), (3, .var c (.node [.v (.int .i64 leaf), .node [.row 31 32 c 0 a.o.length, .row 41 32 c 0 a.s.length], .row 48 32 c 0 a.p.length])),
   (31, .rows c 32 (Dgs a.o)), (41, .rows c 32 (Dgs a.s)), (48, .rows c 32 (Dgs a.p)),
   (1000, .var 0 (.node [.v (.string (mkS q.s)), .v (.bool q.bad)]))]
theorem JG3 (r : Rd) : Meets Tryd.prog G JjW [.ptr 1000 0 0] (rfM r) true (Sig.avR 3000 4000 5000 1 r.sig) (rfM r.sig' ++ Sig.rows 3000 4000 5000 1 r.sig) := by
  refine Jc mix JLh ⟨by simp [rfM, Sig.rows], by simp [rfM, Sig.rows, Sig.avR], by simp [rfM, Sig.rows]⟩ ?_
  obtain ⟨hN, hN2⟩ := r.sN_eq
  have m1 := Jgy (G := G) r
  have m2 := JI (G := G) r.num' 0 6
  rw [← hN] at m2
  have hs2 : r.num'.inn' 0 6 = r.s2 := rfl
  rw [hs2] at m2
  have hsane : ∀ n, (r.s2.ds' n).sane := r.s2.ds_sane (Rd.inn_sane _ _ _)
  have hsig' : r.sig' = r.s2.ds' (64 + r.sN) := by
    unfold Rd.sig'
    rw [show 64 + r.sN = 32 + (32 + r.sN) by omega, Rd.ds_add', Rd.ds_add']
  have hkd := kd_p r.s2 r.sN
  have hsig : r.sig = if (r.s2.ds' (64 + r.sN)).bad = true then Sig.zero else ⟨r.num, (r.s2.kd (64 + r.sN)).o, (r.s2.kd (64 + r.sN)).s, (r.s2.kd (64 + r.sN)).p⟩ := by
    rw [hkd, ← hsig']
    rfl
  rw [hsig', hsig]
  clear hsig hkd hsig'
  generalize r.sN = N at *
  generalize r.num' = r1 at *
  generalize r.num = lf at *
  generalize r.s2 = r2 at *
  obtain ⟨M, hM⟩ : ∃ M, M = 64 + N := ⟨_, rfl⟩
  rw [← hM]
  have wM : IntKind.i64.wrap (64 + (N : Int)) = (M : Int) := by rw [Jq (by omega)]; omega
  simp [rfM]
  refine Ja m1 ?_ ?_
  · simp [rfM]
  simp [rfM]
  refine Ja m2 ?_ ?_
  · simp [rfM]
  simp [rfM]
  refine go_up M (fun j (_ : Unit) => True) (fun j _ c => ⟨[(0, .ptr 1000 0 0), (2, .ptr 2 c 0), (3, .ptr 3 c 0), (4, .v (.int .i64 (N : Nat))), (5, .v (.int .i64 (j : Nat)))], kfM c (r2.ds' j) lf (r2.kd j), c + 1⟩) () _ (Weak.re0 1000 (by simp [kfM, Rd.kd, Rd.ds'])) trivial ?_ ?_
  · intro j _ c hj _
    have hw : IntKind.i64.wrap ((j : Int) + 1) = ((j + 1 : Nat) : Int) := Je (by omega)
    have e1 : r2.kd (j + 1) = (r2.kd j).put j (r2.ds' j).dg := rfl
    have e2 : r2.ds' (j + 1) = (r2.ds' j).dg' := rfl
    have hsj := hsane j
    have hsM := hsane M
    have hbM := r2.ds_bad j
    have m6 := JR (G := G) (r2.ds' j)
    have hal : (r2.kd j).o.length ≤ j ∧ (r2.kd j).s.length ≤ j ∧ (r2.kd j).p.length ≤ j := by
      clear e1 e2 hsj hsM hbM m6
      induction j with
      | zero => simp [Rd.kd]
      | succ j ih =>
        have := ih (by omega) (Je (by omega))
        simp only [Rd.kd, KdA.put]
        split
        · simp; omega
        · split
          · simp; omega
          · simp; omega
    generalize r2.kd j = a at *
    cases hb : (r2.ds' j).bad
    · generalize r2.ds' j = q at *
      have m5 := J7 (G := G) q
      generalize q.dg' = q' at *
      generalize q.dg = t at *
      obtain ⟨ox, sx, px⟩ := a
      simp only at hal
      by_cases c1 : j < 32
      · have c1i : (j : Int) < 32 := by omega
        have f1 : fitsB (ox.length + 1) 32 := fits (by omega) (by omega)
        have e3 : r2.kd (j + 1) = ⟨ox ++ [t], sx, px⟩ := by rw [e1]; simp [KdA.put, c1]
        simp [hj, kfM, wM, hb]
        refine Ja m6 ?_ ?_
        · simp [rfM, hb]
        simp [rfM, hb]
        refine Ja m5 ?_ ?_
        · simp [rfM, hb]
        simp [rfM, c1, c1i, f1, hw, JqD]
        exact ⟨(), _, Weak.re0 1000 (by simp [kfM, e3, e2]), trivial⟩
      · have c1i : ¬ (j : Int) < 32 := by omega
        by_cases c2 : j < 64
        · have c2i : (j : Int) < 64 := by omega
          have f1 : fitsB (sx.length + 1) 32 := fits (by omega) (by omega)
          have e3 : r2.kd (j + 1) = ⟨ox, sx ++ [t], px⟩ := by rw [e1]; simp [KdA.put, c1, c2]
          simp [hj, kfM, wM, hb]
          refine Ja m6 ?_ ?_
          · simp [rfM, hb]
          simp [rfM, hb]
          refine Ja m5 ?_ ?_
          · simp [rfM, hb]
          simp [rfM, c1, c1i, c2, c2i, f1, hw, JqD]
          exact ⟨(), _, Weak.re0 1000 (by simp [kfM, e3, e2]), trivial⟩
        · have c2i : ¬ (j : Int) < 64 := by omega
          have f1 : fitsB (px.length + 1) 32 := fits (by omega) (by omega)
          have e3 : r2.kd (j + 1) = ⟨ox, sx, px ++ [t]⟩ := by rw [e1]; simp [KdA.put, c1, c2]
          simp [hj, kfM, wM, hb]
          refine Ja m6 ?_ ?_
          · simp [rfM, hb]
          simp [rfM, hb]
          refine Ja m5 ?_ ?_
          · simp [rfM, hb]
          simp [rfM, c1, c1i, c2, c2i, f1, hw, JqD]
          exact ⟨(), _, Weak.re0 1000 (by simp [kfM, e3, e2]), trivial⟩
    · have hbn := hbM hb M (by omega)
      have s1 := hsj hb
      have s2 := hsM hbn
      generalize r2.ds' j = q at *
      generalize r2.ds' M = p at *
      simp [hj, kfM, wM, hb]
      refine Ja m6 ?_ ?_
      · simp [rfM, hb]
      simp [rfM, hb]
      refine Ja m6 ?_ ?_
      · simp [rfM, hb]
      simp [rfM, hb]
      refine Jb (.inr rfl) ?_
      simp [Sig.avR, Sig.rows, Sig.zero, hb, hbn, s1, s2]
  · intro _ c _
    generalize r2.kd M = a at *
    generalize r2.ds' M = q at *
    have m6 := JR (G := G) q
    simp [kfM, wM]
    refine Ja m6 ?_ ?_
    · simp [rfM]
    cases hb : q.bad
    · simp [rfM, hb]
      refine Jb (.inr rfl) ?_
      simp [Sig.avR, Sig.rows, hb]
    · simp [rfM, hb]
      refine Jb (.inr rfl) ?_
      simp [Sig.avR, Sig.rows, Sig.zero, hb]
end Go.Proofs.YtjlmpdbagmdbiaaDoor.WL
end
section
namespace Go.Proofs.YtjlmpdbagmdbiaaDoor.WL
open Go
set_option maxHeartbeats 4000000
variable {G : Nat → Option AV}
attribute [local irreducible] sha
attribute [local irreducible] Rd.sig Rd.sig' Rd.blk Rd.blk' Rd.inn Rd.inn' Rd.dg Rd.dg' Rd.rep Rd.rep' repR
theorem JLc (r : Rd) : Meets Tryd.prog G JjW [.ptr 1000 0 0] (rfM r) false r.sig.avS (rfM r.sig') := by
  refine (JG3 r).freeze ⟨by simp [rfM], by simp [rfM], by simp [rfM]⟩ ?_
  simp [rfM, Sig.avR, Sig.avS, Sig.rows]
theorem JLx (r : Rd) : Meets Tryd.prog G Jj0 [.ptr 1000 0 0] (rfM r) false r.blk.avS (rfM r.blk') := by
  refine (JHC r).freeze ⟨by simp [rfM], by simp [rfM], by simp [rfM]⟩ ?_
  simp [rfM, Blk.avR, Blk.avS]
theorem JHN (r : Rd) : Meets Tryd.prog G Jvf [.ptr 1000 0 0] (rfM r) false (voteF.rd r).av (rfM (voteF.rd' r)) := by
  refine Jc mix JKz ⟨by simp [rfM], by simp [rfM], by simp [rfM]⟩ ?_
  rw [JFr, JG9]
  have m1 := JI (G := G) r 1 2
  generalize r.inn 1 2 = a1 at *
  generalize r.inn' 1 2 = r1 at *
  have m2 := JI (G := G) r1 0 1073741824
  generalize r1.inn 0 1073741824 = a2 at *
  generalize r1.inn' 0 1073741824 = r2 at *
  have m3 := JI (G := G) r2 1 1024
  generalize r2.inn 1 1024 = a3 at *
  generalize r2.inn' 1 1024 = r3 at *
  have m4 := JI (G := G) r3 0 1024
  generalize r3.inn 0 1024 = a4 at *
  generalize r3.inn' 0 1024 = r4 at *
  have m5 := JI (G := G) r4 1 63
  generalize r4.inn 1 63 = a5 at *
  generalize r4.inn' 1 63 = r5 at *
  have m6 := J7 (G := G) r5
  generalize r5.dg = a6 at *
  generalize r5.dg' = r6 at *
  have m7 := JLc (G := G) r6
  generalize r6.sig = a7 at *
  generalize r6.sig' = r7 at *
  have m8 := JR (G := G) r7
  simp [rfM]
  refine Ja m1 ?_ ?_
  · simp [rfM]
  simp [rfM]
  refine Ja m2 ?_ ?_
  · simp [rfM]
  simp [rfM]
  refine Ja m3 ?_ ?_
  · simp [rfM]
  simp [rfM]
  refine Ja m4 ?_ ?_
  · simp [rfM]
  simp [rfM]
  refine Ja m5 ?_ ?_
  · simp [rfM]
  simp [rfM]
  refine Ja m6 ?_ ?_
  · simp [rfM]
  simp [rfM]
  refine Ja m7 ?_ ?_
  · simp [rfM]
  simp [rfM]
  refine Ja m8 ?_ ?_
  · simp [rfM]
  simp [rfM]
  cases hb : r7.bad
  · simp [rfM, hb]
    refine Jb (.inr rfl) ?_
    simp [Vote.av, hb, dv]
  · simp [rfM, hb]
    refine Jb (.inr rfl) ?_
    simp [Vote.av, Vote.zero, Sig.avS, Sig.zero, hb, dv]
theorem Rd.flt_inn (r : Rd) (lo hi : Int) : (r.inn' lo hi).flt := by
  unfold Rd.inn'
  split
  · exact r.flt_skip 8
  · exact Rd.flt_fault
theorem JGx (r : Rd) : Meets Tryd.prog G Jvd [.ptr 1000 0 0] (rfM r) false (certF.rd r).av (rfM (certF.rd' r)) := by
  refine Jc mix JLI ⟨by simp [rfM], by simp [rfM], by simp [rfM]⟩ ?_
  rw [JFH, JGg]
  have hN : ((r.certN : Nat) : Int) = (r.inn' 0 1024).inn 1 10 ∧ r.certN ≤ 10 := by
    have := count10 (r.inn' 0 1024)
    unfold Rd.certN
    omega
  obtain ⟨hN, hN2⟩ := hN
  generalize r.certN = N at *
  have m1 := JI (G := G) r 0 1024
  generalize r.inn 0 1024 = a1 at *
  generalize r.inn' 0 1024 = r1 at *
  have m2 := JI (G := G) r1 1 10
  rw [← hN] at m2
  clear hN
  have hflt := r1.flt_inn 1 10
  generalize r1.inn' 1 10 = r2 at *
  simp [rfM]
  refine Ja m1 ?_ ?_
  · simp [rfM]
  simp [rfM]
  refine Ja m2 ?_ ?_
  · simp [rfM]
  simp [rfM]
  obtain ⟨L, hL⟩ : ∃ L : Nat → List Vote, ∀ i, L i = (repR (fun _ => voteF) r2 i).1 := ⟨_, fun _ => rfl⟩
  obtain ⟨R, hR⟩ : ∃ R : Nat → Rd, ∀ i, R i = (repR (fun _ => voteF) r2 i).2 := ⟨_, fun _ => rfl⟩
  have hL0 : L 0 = [] := by rw [hL]; simp only [repR]
  have hR0 : r2 = R 0 := by rw [hR]; simp only [repR]
  have hLl : ∀ i, (L i).length = i := fun i => by rw [hL]; exact Jbp _ r2 i
  have hst : ∀ j, j ≤ N → (R j).bad = true → R j = Rd.fault ∧ R N = Rd.fault := by
    intro j hj hb
    rw [hR] at hb
    exact ⟨by rw [hR]; exact Jze (fun _ => JDM) r2 hflt j hb, by rw [hR]; exact JG1 (fun _ => JDM) r2 hflt j hb N hj⟩
  rw [← hL, ← hR]
  rw [hR0]
  refine go_up N (fun j (_ : Unit) => True) (fun j _ c => ⟨[(0, .ptr 1000 0 0), (2, .ptr 2 c 0), (3, .ptr 3 c 0), (4, .v (.int .i64 (N : Nat))), (5, .v (.int .i64 (j : Nat)))],
    [(2, .var c (.node [.v (.int .i64 0), .v (.slice none 0 0)])), (3, .var c (.node [.v (.int .i64 a1), .row 25 41 c 0 j])), (25, .rows c 41 (Votes (L j))),
     (1000, .var 0 (.node [.v (.string (mkS (R j).s)), .v (.bool (R j).bad)]))], c + 1⟩) () _ (Weak.re0 1000 (by simp [hL0])) trivial ?_ ?_
  · intro j _ c hj _
    have hw : IntKind.i64.wrap ((j : Int) + 1) = ((j + 1 : Nat) : Int) := Je (by omega)
    have f1 : fitsB (j + 1) 152 := fits (by omega) (by omega)
    have e1 : L (j + 1) = L j ++ [voteF.rd (R j)] := by rw [hL, hL, hR]; simp only [repR]
    have e2 : R (j + 1) = voteF.rd' (R j) := by rw [hR, hR]; simp only [repR]
    have hlj := hLl j
    have hs := hst j (by omega)
    have m8 := JR (G := G) (R j)
    cases hb : (R j).bad
    · generalize R j = q at *
      have m3 := JHN (G := G) q
      generalize voteF.rd q = v at *
      generalize voteF.rd' q = q1 at *
      generalize L j = x at *
      have hS := JE6 x v
      rw [hb] at m8
      simp [hj]
      refine Ja m8 ?_ ?_
      · simp [rfM, hb]
      simp [rfM, hb]
      refine Ja m3 ?_ ?_
      · simp [rfM, hb]
      simp [rfM, f1, hlj, hS]
      simp [hw]
      exact ⟨(), _, Weak.re0 1000 (by simp [e1, e2]), trivial⟩
    · obtain ⟨k1, k2⟩ := hs hb
      rw [k2]
      rw [k1] at m8
      simp [hj, k1, Rd.fault]
      refine Ja m8 ?_ ?_
      · simp [rfM, Rd.fault]
      simp [rfM, Rd.fault]
      refine Ja m8 ?_ ?_
      · simp [rfM, Rd.fault]
      simp [rfM, Rd.fault]
      refine Jb (.inr rfl) ?_
      simp [Cert.av, Cert.zero]
  · intro _ c _
    have hlN := hLl N
    generalize R N = q at *
    generalize L N = x at *
    have m8 := JR (G := G) q
    have htx : List.take N x = x := List.take_of_length_le (by omega)
    simp [rfM]
    refine Ja m8 ?_ ?_
    · simp [rfM]
    simp [rfM]
    cases hb : q.bad
    · simp [rfM, hb]
      refine Jb (.inr rfl) ?_
      simp [Cert.av, hb, hlN, htx]
    · simp [rfM, hb]
      refine Jb (.inr rfl) ?_
      simp [Cert.av, Cert.zero, hb]
theorem JGF (r : Rd) : Meets Tryd.prog G Jvo [.ptr 1000 0 0] (rfM r) false (confF.rd r).av (rfM (confF.rd' r)) := by
  refine Jc mix JLV ⟨by simp [rfM], by simp [rfM], by simp [rfM]⟩ ?_
  rw [JFE, JH1]
  have hN : ((r.confN : Nat) : Int) = (r.inn' 0 1073741824).inn 1 10 ∧ r.confN ≤ 10 := by
    have := count10 (r.inn' 0 1073741824)
    unfold Rd.confN
    omega
  obtain ⟨hN, hN2⟩ := hN
  generalize r.confN = N at *
  have m1 := JI (G := G) r 0 1073741824
  generalize r.inn 0 1073741824 = a1 at *
  generalize r.inn' 0 1073741824 = r1 at *
  have m2 := JI (G := G) r1 1 10
  rw [← hN] at m2
  clear hN
  generalize r1.inn' 1 10 = r2 at *
  simp [rfM]
  refine Ja m1 ?_ ?_
  · simp [rfM]
  simp [rfM]
  refine Ja m2 ?_ ?_
  · simp [rfM]
  simp [rfM]
  obtain ⟨L, hL⟩ : ∃ L : Nat → List Mem, ∀ i, L i = (repR memF r2 i).1 := ⟨_, fun _ => rfl⟩
  obtain ⟨R, hR⟩ : ∃ R : Nat → Rd, ∀ i, R i = (repR memF r2 i).2 := ⟨_, fun _ => rfl⟩
  have hL0 : L 0 = [] := by rw [hL]; simp only [repR]
  have hR0 : r2 = R 0 := by rw [hR]; simp only [repR]
  have hLl : ∀ i, (L i).length = i := fun i => by rw [hL]; exact Jbp memF r2 i
  rw [← hL, ← hR]
  rw [hR0]
  refine go_up N (fun j (_ : Unit) => lastId (L j) ≤ 63 ∧ 0 ≤ lastId (L j)) (fun j _ c => ⟨[(0, .ptr 1000 0 0), (2, .ptr 2 c 0), (3, .ptr 3 c 0), (4, .v (.int .i64 (N : Nat))), (5, .v (.int .i64 (lastId (L j)))), (6, .v (.int .i64 (j : Nat)))],
    [(2, .var c (.node [.v (.int .i64 0), .v (.slice none 0 0)])), (3, .var c (.node [.v (.int .i64 a1), .row 37 34 c 0 j])), (37, .rows c 34 (Mems (L j))),
     (1000, .var 0 (.node [.v (.string (mkS (R j).s)), .v (.bool (R j).bad)]))], c + 1⟩) () _ (Weak.re0 1000 (by simp [hL0])) (by simp [hL0]) ?_ ?_
  · intro j _ c hj hlast
    have hw : IntKind.i64.wrap ((j : Int) + 1) = ((j + 1 : Nat) : Int) := Je (by omega)
    have f1 : fitsB (j + 1) 48 := fits (by omega) (by omega)
    have e1 : L (j + 1) = L j ++ [(memF (L j)).rd (R j)] := by rw [hL, hL, hR]; simp only [repR]
    have e2 : R (j + 1) = (memF (L j)).rd' (R j) := by rw [hR, hL, hR]; simp only [repR]
    have e3 : ∀ l r, (memF l).rd r = ⟨r.inn (lastId l + 1) 63, ((r.inn' (lastId l + 1) 63).inn' 0 6).dg, (r.inn' (lastId l + 1) 63).inn 0 6⟩ := fun _ _ => rfl
    have e4 : ∀ l r, (memF l).rd' r = ((r.inn' (lastId l + 1) 63).inn' 0 6).dg' := fun _ _ => rfl
    rw [e3] at e1
    rw [e4] at e2
    have hlj := hLl j
    have hw2 : IntKind.i64.wrap (lastId (L j) + 1) = lastId (L j) + 1 := Jq (by omega)
    generalize hln : lastId (L j) = ln at *
    have hri : (R j).inn (ln + 1) 63 ≤ 63 ∧ 0 ≤ (R j).inn (ln + 1) 63 := by
      unfold Rd.inn Rd.inOk
      split
      · rename_i k
        simp only [Bool.and_eq_true, decide_eq_true_eq] at k
        omega
      · omega
    generalize R j = q at *
    have m3 := JI (G := G) q (ln + 1) 63
    generalize q.inn (ln + 1) 63 = b1 at *
    generalize q.inn' (ln + 1) 63 = q1 at *
    have m4 := JI (G := G) q1 0 6
    generalize q1.inn 0 6 = b2 at *
    generalize q1.inn' 0 6 = q2 at *
    have m5 := J7 (G := G) q2
    generalize q2.dg = b3 at *
    generalize q2.dg' = q3 at *
    generalize L j = x at *
    have hS := JGI x ⟨b1, b3, b2⟩
    simp only [Mem.av, dv] at hS
    simp [hj, rfM, hw2]
    refine Ja m3 ?_ ?_
    · simp [rfM]
    simp [rfM]
    refine Ja m4 ?_ ?_
    · simp [rfM]
    simp [rfM]
    refine Ja m5 ?_ ?_
    · simp [rfM]
    simp [rfM, f1, hlj, hS, dv]
    simp [hw]
    refine ⟨(), _, Weak.re0 1000 (by simp [e1, e2]), ?_⟩
    show lastId (L (j + 1)) ≤ 63 ∧ 0 ≤ lastId (L (j + 1))
    rw [e1, JvA]
    exact hri
  · intro _ c hlast
    have hlN := hLl N
    generalize R N = q at *
    generalize L N = x at *
    have m8 := JR (G := G) q
    have htx : List.take N x = x := List.take_of_length_le (by omega)
    simp [rfM]
    refine Ja m8 ?_ ?_
    · simp [rfM]
    simp [rfM]
    cases hb : q.bad
    · simp [rfM, hb]
      refine Jb (.inr rfl) ?_
      simp [Conf.av, hb, hlN, htx]
    · simp [rfM, hb]
      refine Jb (.inr rfl) ?_
      simp [Conf.av, Conf.zero, hb]
theorem JHi (r : Rd) : Meets Tryd.prog G Jvi [.ptr 1000 0 0] (rfM r) false (linkF.rd r).av (rfM (linkF.rd' r)) := by
  refine Jc mix JKL ⟨by simp [rfM], by simp [rfM], by simp [rfM]⟩ ?_
  rw [JFw, JG0]
  have m1 := JLx (G := G) r
  generalize r.blk = a1 at *
  generalize r.blk' = r1 at *
  have m2 := JGx (G := G) r1
  generalize certF.rd r1 = a2 at *
  generalize certF.rd' r1 = r2 at *
  have m3 := JGF (G := G) r2
  generalize confF.rd r2 = a3 at *
  generalize confF.rd' r2 = r3 at *
  have m8 := JR (G := G) r3
  simp [rfM]
  refine Ja m1 ?_ ?_
  · simp [rfM]
  simp [rfM]
  refine Ja m2 ?_ ?_
  · simp [rfM]
  simp [rfM]
  refine Ja m3 ?_ ?_
  · simp [rfM]
  simp [rfM]
  refine Ja m8 ?_ ?_
  · simp [rfM]
  simp [rfM]
  cases hb : r3.bad
  · simp [rfM, hb]
    refine Jb (.inr rfl) ?_
    simp [Lnk.av, hb]
  · simp [rfM, hb]
    refine Jb (.inr rfl) ?_
    simp [Lnk.av, Lnk.zero, Blk.avS, Blk.zero, Cert.av, Cert.zero, Conf.av, Conf.zero, hb, dv]
end Go.Proofs.YtjlmpdbagmdbiaaDoor.WL
end
section
namespace Go.Proofs.YtjlmpdbagmdbiaaDoor.WL
open Go
set_option maxHeartbeats 8000000
variable {G : Nat → Option AV}
theorem JLM (ms : List Mem) (j : Nat) (h : j < ms.length) : memsB (ms.take (j + 1)) = memsB (ms.take j) ++ memB ms[j] := by
  unfold memsB
  rw [← List.take_append_getElem h, List.flatMap_append]
  simp only [List.flatMap_cons, List.flatMap_nil, List.append_nil]
theorem JFI (c : Conf) (hn : c.ms.length ≤ 100000) : Meets Tryd.prog G JmH [c.av] [] true (.v (.string (mkS c.bytes))) [] := by
  refine Jc mix JIn ⟨by simp, by simp, by simp⟩ ?_
  have hb : c.bytes = nums [c.epoch, (c.ms.length : Int)] ++ memsB c.ms := rfl
  rw [hb]
  have m1 := Ju (G := G) c.epoch
  have m2 := Ju (G := G) (c.ms.length : Int)
  have h0 : be8 c.epoch ++ be8 (c.ms.length : Int) = nums [c.epoch, (c.ms.length : Int)] := by simp [nums]
  have l1 : (be8 c.epoch).length = 8 := by simp
  have l2 : (be8 (c.ms.length : Int)).length = 8 := by simp
  have l0 : (nums [c.epoch, (c.ms.length : Int)]).length = 16 := by simp [Jg]
  have f0 : fitsS (8 + 8) := fitS (by omega)
  generalize nums [c.epoch, (c.ms.length : Int)] = x1 at *
  generalize be8 c.epoch = y1 at *
  generalize be8 (c.ms.length : Int) = y2 at *
  simp [Conf.av]
  refine Ja m1 ?_ ?_
  · simp
  simp
  refine Ja m2 ?_ ?_
  · simp
  simp [l1, l2, f0, h0]
  refine go_up c.ms.length (fun j (x : Bytes) => x = x1 ++ memsB (c.ms.take j)) (fun j x q => ⟨[(3, .v (.string (mkS x))), (15, .sl 34 (Mems c.ms)), (16, .v (.int .i64 (c.ms.length : Nat))), (17, .v (.int .i64 (j : Nat)))], [], q + 1⟩) x1 _ (Weak.re (by simp)) (by simp [memsB]) ?_ ?_
  · intro j x q hj hx
    have hw : IntKind.i64.wrap ((j : Int) + 1) = ((j + 1 : Nat) : Int) := Je (by omega)
    have hxl : x.length = 16 + j * 48 := by
      rw [hx, List.length_append, JD8, List.length_take, l0]
      omega
    have m3 := Ju (G := G) c.ms[j].id
    have m4 := Ju (G := G) c.ms[j].height
    have m5 := JZ (G := G) c.ms[j].root
    have l3 : (be8 c.ms[j].id).length = 8 := by simp
    have l4 : (be8 c.ms[j].height).length = 8 := by simp
    have hx2 : x ++ (be8 c.ms[j].id ++ (be8 c.ms[j].height ++ c.ms[j].root.bs)) = x1 ++ memsB (c.ms.take (j + 1)) := by
      rw [hx, JLM _ _ hj, List.append_assoc]
      simp [memB, nums]
    have f1 : fitsS (x.length + 8) := fitS (by omega)
    have f2 : fitsS (x.length + 8 + 8) := fitS (by omega)
    have f3 : fitsS (x.length + 8 + 8 + 32) := fitS (by omega)
    generalize be8 c.ms[j].id = y3 at *
    generalize be8 c.ms[j].height = y4 at *
    simp [hj, Mem.av, dv]
    refine Ja m3 ?_ ?_
    · simp
    simp [f1, l3]
    refine Ja m4 ?_ ?_
    · simp
    simp [f2, l3, l4]
    refine Ja m5 ?_ ?_
    · simp [dv]
    simp [f3, l3, l4, hw]
    exact ⟨x ++ (y3 ++ (y4 ++ c.ms[j].root.bs)), _, Weak.re (by simp), hx2⟩
  · intro x q hx
    rw [List.take_length] at hx
    subst hx
    simp
    refine Jb (.inr rfl) ?_
    simp
end Go.Proofs.YtjlmpdbagmdbiaaDoor.WL
end
section
namespace Go.Proofs.YtjlmpdbagmdbiaaDoor.WL
open Go
set_option maxHeartbeats 8000000
variable {G : Nat → Option AV}
attribute [local irreducible] sha comp hb checkK idxOf Vote.good
theorem JGk (v : Vote) : Meets Tryd.prog G JvC [v.av] [] true (.v (.string (mkS v.head))) [] := by
  refine Jc mix JKv ⟨by simp, by simp, by simp⟩ ?_
  have m2 := JZ (G := G) v.dg
  simp [Vote.av]
  refine go_up 5 (fun j (x : Bytes) => x = nums (List.take j [v.kind, v.epoch, v.height, v.round, v.src])) (fun j x q => ⟨[(1, .ptr 1 q 0), (3, .v (.string (mkS x))), (16, .arr 1 [.v (.int .i64 v.kind), .v (.int .i64 v.epoch), .v (.int .i64 v.height), .v (.int .i64 v.round), .v (.int .i64 v.src)]), (17, .v (.int .i64 (j : Nat)))],
    [(1, .var q (.node [.v (.int .i64 v.kind), .v (.int .i64 v.epoch), .v (.int .i64 v.height), .v (.int .i64 v.round), dv v.dg, .v (.int .i64 v.src), v.sig.avS]))], q + 1⟩) [] _ (Weak.re (by simp)) rfl ?_ ?_
  · intro j x q hj hx
    have hxl : x.length = 8 * j := by
      rw [hx, Jg, List.length_take]
      simp
      omega
    rcases (show j = 0 ∨ j = 1 ∨ j = 2 ∨ j = 3 ∨ j = 4 by omega) with rfl | rfl | rfl | rfl | rfl
    · have m1 := Ju (G := G) v.kind
      have l1 : (be8 v.kind).length = 8 := by simp
      have f1 : fitsS (x.length + 8) := fitS (by omega)
      have hw : IntKind.i64.wrap 1 = 1 := Jq (by omega)
      have hx2 : x ++ be8 v.kind = nums (List.take (0 + 1) [v.kind, v.epoch, v.height, v.round, v.src]) := by rw [hx]; simp [nums]
      generalize be8 v.kind = y at *
      simp
      refine Ja m1 ?_ ?_
      · simp
      simp [f1, l1]
      exact ⟨x ++ y, _, Weak.re (by simp [hw]), hx2⟩
    · have m1 := Ju (G := G) v.epoch
      have l1 : (be8 v.epoch).length = 8 := by simp
      have f1 : fitsS (x.length + 8) := fitS (by omega)
      have hw : IntKind.i64.wrap 2 = 2 := Jq (by omega)
      have hx2 : x ++ be8 v.epoch = nums (List.take (1 + 1) [v.kind, v.epoch, v.height, v.round, v.src]) := by rw [hx]; simp [nums]
      generalize be8 v.epoch = y at *
      simp
      refine Ja m1 ?_ ?_
      · simp
      simp [f1, l1]
      exact ⟨x ++ y, _, Weak.re (by simp [hw]), hx2⟩
    · have m1 := Ju (G := G) v.height
      have l1 : (be8 v.height).length = 8 := by simp
      have f1 : fitsS (x.length + 8) := fitS (by omega)
      have hw : IntKind.i64.wrap 3 = 3 := Jq (by omega)
      have hx2 : x ++ be8 v.height = nums (List.take (2 + 1) [v.kind, v.epoch, v.height, v.round, v.src]) := by rw [hx]; simp [nums]
      generalize be8 v.height = y at *
      simp
      refine Ja m1 ?_ ?_
      · simp
      simp [f1, l1]
      exact ⟨x ++ y, _, Weak.re (by simp [hw]), hx2⟩
    · have m1 := Ju (G := G) v.round
      have l1 : (be8 v.round).length = 8 := by simp
      have f1 : fitsS (x.length + 8) := fitS (by omega)
      have hw : IntKind.i64.wrap 4 = 4 := Jq (by omega)
      have hx2 : x ++ be8 v.round = nums (List.take (3 + 1) [v.kind, v.epoch, v.height, v.round, v.src]) := by rw [hx]; simp [nums]
      generalize be8 v.round = y at *
      simp
      refine Ja m1 ?_ ?_
      · simp
      simp [f1, l1]
      exact ⟨x ++ y, _, Weak.re (by simp [hw]), hx2⟩
    · have m1 := Ju (G := G) v.src
      have l1 : (be8 v.src).length = 8 := by simp
      have f1 : fitsS (x.length + 8) := fitS (by omega)
      have hw : IntKind.i64.wrap 5 = 5 := Jq (by omega)
      have hx2 : x ++ be8 v.src = nums (List.take (4 + 1) [v.kind, v.epoch, v.height, v.round, v.src]) := by rw [hx]; simp [nums]
      generalize be8 v.src = y at *
      simp
      refine Ja m1 ?_ ?_
      · simp
      simp [f1, l1]
      exact ⟨x ++ y, _, Weak.re (by simp [hw]), hx2⟩
  · intro x q hx
    have hxl : x.length = 40 := by rw [hx]; simp [Jg]
    have f1 : fitsS (x.length + 32) := fitS (by omega)
    have hh : x ++ v.dg.bs = v.head := by rw [hx]; simp [Vote.head]
    simp
    refine Ja m2 ?_ ?_
    · simp
    simp [f1, hh]
    refine Jb (.inr rfl) ?_
    simp
attribute [local irreducible] Vote.signs
end Go.Proofs.YtjlmpdbagmdbiaaDoor.WL
end
section
namespace Go.Proofs.YtjlmpdbagmdbiaaDoor.WL
open Go
set_option maxHeartbeats 8000000
variable {G : Nat → Option AV}
attribute [local irreducible] sha comp hb
theorem JOn (q : Req) (h : q.bytes.length ≤ 50000000) : Meets Tryd.prog G Jpx [q.av] [] true (.v (.string (mkS q.bytes))) [] := by
  refine Jc mix JIz ⟨by simp, by simp, by simp⟩ ?_
  have hl := q.bytes_len
  have hb : q.bytes = nums [q.client, q.num, q.kind] ++ (txt q.key ++ (txt q.val ++ (txt q.old ++ (nums [q.ch.kind, q.ch.id, q.ch.new, q.ch.height] ++ q.ch.root.bs)))) := by simp [Req.bytes, txts]
  have m1 := JCC (G := G) [q.client, q.num, q.kind] (by simp)
  have m2 := Jmc (G := G) q.key (by omega)
  have m3 := Jmc (G := G) q.val (by omega)
  have m4 := Jmc (G := G) q.old (by omega)
  have m5 := JCC (G := G) [q.ch.kind, q.ch.id, q.ch.new, q.ch.height] (by simp)
  have m6 := JZ (G := G) q.ch.root
  have l1 : (nums [q.client, q.num, q.kind]).length = 24 := by simp [Jg]
  have l5 : (nums [q.ch.kind, q.ch.id, q.ch.new, q.ch.height]).length = 32 := by simp [Jg]
  have l2 := Jqz q.key
  have l3 := Jqz q.val
  have l4 := Jqz q.old
  have f1 : fitsS (24 + (4 + q.key.length)) := fitS (by omega)
  have f2 : fitsS (24 + (4 + q.key.length) + (4 + q.val.length)) := fitS (by omega)
  have f3 : fitsS (24 + (4 + q.key.length + (4 + q.val.length)) + (4 + q.old.length)) := fitS (by omega)
  have f4 : fitsS (24 + (4 + q.key.length + (4 + q.val.length + (4 + q.old.length))) + 32) := fitS (by omega)
  have f5 : fitsS (24 + (4 + q.key.length + (4 + q.val.length + (4 + q.old.length + 32))) + 32) := fitS (by omega)
  rw [hb]
  generalize nums [q.client, q.num, q.kind] = y1 at *
  generalize nums [q.ch.kind, q.ch.id, q.ch.new, q.ch.height] = y5 at *
  generalize txt q.key = y2 at *
  generalize txt q.val = y3 at *
  generalize txt q.old = y4 at *
  simp [Req.av, Chg.av]
  refine Ja m1 ?_ ?_
  · simp [I64_3]
  simp [I64_3]
  refine Ja m2 ?_ ?_
  · simp
  simp [l1, l2, f1]
  refine Ja m3 ?_ ?_
  · simp
  simp [l1, l2, l3, f2]
  refine Ja m4 ?_ ?_
  · simp
  simp [l1, l2, l3, l4, f3]
  refine Ja m5 ?_ ?_
  · simp [I64_4]
  simp [I64_4, l1, l2, l3, l4, l5, f4]
  refine Ja m6 ?_ ?_
  · simp
  simp [l1, l2, l3, l4, l5, f5]
  refine Jb (.inr rfl) ?_
  simp
theorem JM4 (b : Blk) (h : b.bytes.length ≤ 50000000) (hn : b.qs.length ≤ 1000000) : Meets Tryd.prog G Jp0 [b.avS] [] true (.v (.string (mkS b.bytes))) [] := by
  refine Jc mix JJD ⟨by simp, by simp, by simp⟩ ?_
  have hlen := b.bytes_len
  have hb : b.bytes = b.head ++ reqsB b.qs := rfl
  have hh : be8 b.epoch ++ (be8 b.height ++ (b.prev.bs ++ (b.state.bs ++ (b.next.bs ++ be8 (b.qs.length : Int))))) = b.head := by simp [Blk.head, nums, flatD]
  have hhl := b.head_len
  rw [hb]
  have m1 := Ju (G := G) b.epoch
  have m2 := Ju (G := G) b.height
  have m3 := JZ (G := G) b.prev
  have m4 := JZ (G := G) b.state
  have m5 := JZ (G := G) b.next
  have m6 := Ju (G := G) (b.qs.length : Int)
  have l1 : (be8 b.epoch).length = 8 := by simp
  have l2 : (be8 b.height).length = 8 := by simp
  have l6 : (be8 (b.qs.length : Int)).length = 8 := by simp
  generalize b.head = x1 at *
  generalize be8 b.epoch = y1 at *
  generalize be8 b.height = y2 at *
  generalize be8 (b.qs.length : Int) = y6 at *
  have f1 : fitsS (8 + 8) := fitS (by omega)
  have f2 : fitsS (8 + 8 + 32) := fitS (by omega)
  have f3 : fitsS (8 + 8 + 32 + 32) := fitS (by omega)
  have f4 : fitsS (8 + 8 + 32 + 32 + 32) := fitS (by omega)
  have f5 : fitsS (8 + 8 + 32 + 32 + 32 + 8) := fitS (by omega)
  simp [Blk.avS]
  refine Ja m1 ?_ ?_
  · simp
  simp
  refine Ja m2 ?_ ?_
  · simp
  simp [l1, l2, f1]
  refine Ja m3 ?_ ?_
  · simp
  simp [l1, l2, f2]
  refine Ja m4 ?_ ?_
  · simp
  simp [l1, l2, f3]
  refine Ja m5 ?_ ?_
  · simp
  simp [l1, l2, f4]
  refine Ja m6 ?_ ?_
  · simp
  simp [l1, l2, l6, f5, hh]
  obtain ⟨F, hF⟩ : ∃ F : Nat → Bytes, ∀ i, F i = x1 ++ reqsB (b.qs.take i) := ⟨_, fun _ => rfl⟩
  refine go_up b.qs.length (fun j (x : Bytes) => x = F j) (fun j x q => ⟨[(3, .v (.string (mkS x))), (31, .sl 42 (Reqs b.qs)), (32, .v (.int .i64 (b.qs.length : Nat))), (33, .v (.int .i64 (j : Nat)))], [], q + 1⟩) x1 _ (Weak.re (by simp)) (by rw [hF]; simp [reqsB]) ?_ ?_
  · intro j x q hj hx
    have hw : IntKind.i64.wrap ((j : Int) + 1) = ((j + 1 : Nat) : Int) := Je (by omega)
    have ht := Jjs b.qs j hj
    have hle := Jj2 b.qs (j + 1)
    rw [ht, List.length_append] at hle
    have m7 := JOn (G := G) b.qs[j] (by omega)
    have hxl : x.length + b.qs[j].bytes.length ≤ 50000000 := by rw [hx, hF, List.length_append]; omega
    have f6 : fitsS (x.length + b.qs[j].bytes.length) := fitS (by omega)
    have hx2 : x ++ b.qs[j].bytes = F (j + 1) := by rw [hx, hF, hF, ht, List.append_assoc]
    generalize b.qs[j].bytes = y at *
    simp [hj, Req.av, Chg.av]
    refine Ja m7 ?_ ?_
    · simp [Req.av, Chg.av]
    simp [f6, hw]
    exact ⟨x ++ y, _, Weak.re (by simp), hx2⟩
  · intro x q hx
    rw [hF, List.take_length] at hx
    subst hx
    simp
    refine Jb (.inr rfl) ?_
    simp
end Go.Proofs.YtjlmpdbagmdbiaaDoor.WL
end
