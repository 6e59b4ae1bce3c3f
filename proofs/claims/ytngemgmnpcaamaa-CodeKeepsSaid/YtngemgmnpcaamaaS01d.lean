/-
  CHAPTER 01: contracts of the writer: numbers.
-/
import Derived.Test.YtngemgmnpcaamaaS01c
namespace Go.Proofs.Ytngemgmnpcaamaa.WL
open Go

def I64 (ns : List Int) : List AV := ns.map fun n => .v (.int .i64 n)
@[simp] theorem I64_length (ns : List Int) : (I64 ns).length = ns.length := by simp [I64]
@[simp] theorem I64_closed (ns : List Int) : closeds (I64 ns) = true := by simp [I64, closeds_all]
@[simp] theorem I64_get (n : Nat) (a : List Int) : (I64 a)[n]? = (a[n]?).map fun n => .v (.int .i64 n) := by simp [I64]
@[simp] theorem I64_getElem (n : Nat) (a : List Int) (h : n < (I64 a).length) : (I64 a)[n] = .v (.int .i64 (a[n]'(by simpa using h))) := by simp [I64]

/-- A number's bytes, as the code reckons them. -/
def beAt (n : Int) (t : Nat) : Int := IntKind.u8.wrap ((IntKind.u64.wrap n).fdiv (2 ^ (56 - 8 * t)))
def be8 (n : Int) : List Int := (List.range 8).map (beAt n)
theorem be8_length (n : Int) : (be8 n).length = 8 := by simp [be8]
theorem be8_get (n : Int) (t : Nat) (h : t < 8) : (be8 n)[t]? = some (beAt n t) := by simp [be8, h]
theorem be8_take (n : Int) (t : Nat) (h : t < 8) : (be8 n).take (t + 1) = (be8 n).take t ++ [beAt n t] := by
  rw [List.take_add_one, be8_get n t h]; rfl

theorem Weak.drop {fr : List (Nat × AV)} {k : Nat} {v : Loc} {m : List (Nat × Loc)} {c : Nat} (h : look m k = none) : Weak ⟨fr, (k, v) :: m, c⟩ ⟨fr, m, c⟩ := by
  refine ⟨fun _ _ h => h, fun l c' hl => ?_, Nat.le_refl _⟩
  simp only [look]
  rw [if_neg (fun e => by subst e; rw [h] at hl; cases hl)]
  exact hl

def wrS (fr : List (Nat × AV)) (g : Nat) (cur : List Int) (c : Nat) : SA := ⟨fr, [(1000, .var 0 (.node [.row 2000 1 g 0 cur.length])), (2000, .rows g 1 (B cur))], c⟩

def numIn (n : Int) (cur : List Int) (ns : List Int) (j : Nat) (S : SA) : Prop := ∃ (t g c : Nat) (L : List Int), t ≤ 8 ∧ L = cur ++ (be8 n).take t ∧
  S = wrS [(0, .ptr 1000 0 0), (5, .v (.int .i64 n)), (6, .v (.int .i64 (56 - 8 * (t : Int)))), (9, .sl 1 (I64 ns)), (10, .v (.int .i64 (ns.length : Int))), (11, .v (.int .i64 (j : Int)))] g L c
def numMu (S : SA) : Nat := match look S.fr 6 with | some (.v (.int _ i)) => (i + 64).toNat | _ => 0
def numOut (bs ns : List Int) (S : SA) : Prop := ∃ (j g c : Nat) (L : List Int), j ≤ ns.length ∧ L = bs ++ (ns.take j).flatMap be8 ∧
  S = wrS [(0, .ptr 1000 0 0), (9, .sl 1 (I64 ns)), (10, .v (.int .i64 (ns.length : Int))), (11, .v (.int .i64 (j : Int)))] g L c

theorem be8s_length (ns : List Int) : (ns.flatMap be8).length = 8 * ns.length := by
  induction ns with
  | nil => rfl
  | cons n ns ih => simp [List.flatMap_cons, be8_length, ih]; omega

theorem wnum_meets {G : Nat → Option AV} (bs ns : List Int) (hb : bs.length + 8 * ns.length ≤ 65536) :
    Meets Try.prog G 19 [.ptr 1000 0 0, .sl 1 (I64 ns)] (wrM 0 bs) true (.tup []) (wrM 1 (bs ++ ns.flatMap be8)) := by
  refine meets_of_go mix c19_chk ⟨by simp [wrM], by simp, by simp [wrM]⟩ ?_
  generalize hend : bs ++ ns.flatMap be8 = E
  simp [c19, c19r0, c19r1, wrM]
  refine go_loop (numOut bs ns) (fun S => ns.length + 1 - idxAt 11 S) _ (Weak.refl _) ⟨0, 0, 7, bs, by omega, by simp, rfl⟩ ?_
  rintro S' ⟨j, g, c, L, hj, hL, rfl⟩
  simp [c19r2, wrS]
  refine goC_split (fun hlt => ?_) (fun hge => ?_)
  · have hlt1 : (j : Int) < ns.length := by simpa using hlt
    have hlt' : j < ns.length := by omega
    simp [c19r3, c19r4, hlt1, hlt']
    refine go_loop (numIn ns[j] L ns j) numMu _ (Weak.refl _) ⟨0, g, _, L, by omega, by simp, rfl⟩ ?_
    rintro S' ⟨t, g, c, L', ht, hL', rfl⟩
    simp [c19r5, wrS]
    refine goC_split (fun hge => ?_) (fun hlt => ?_)
    · have h8 : 8 * (t : Int) ≤ 56 := by simpa using hge
      have ht7 : t < 8 := by omega
      have h0 : (0 : Int) ≤ 56 - 8 * (t : Int) := by omega
      have hmin : min (56 - 8 * (t : Int)).toNat (IntKind.bits .u64) = 56 - 8 * t := by simp only [IntKind.bits]; omega
      have hw : IntKind.i64.wrap (56 - 8 * (t : Int) - 8) = 56 - 8 * ((t + 1 : Nat) : Int) := by simp [IntKind.wrap, IntKind.bits, IntKind.signed]; omega
      have hLl : L'.length ≤ 65535 := by
        rw [hL', hL]
        simp only [List.length_append, be8s_length, List.length_take, be8_length]
        omega
      have hm1 : L'.length + 1 ≤ maxLen ∧ L'.length ≤ 140737488355327 := by unfold maxLen; omega
      have hB : B L' ++ [.v (.int .u8 (IntKind.u8.wrap ((IntKind.u64.wrap ns[j]).fdiv (2 ^ (56 - 8 * t)))))] = B (L' ++ [beAt ns[j] t]) := by simp [B, beAt]
      have hlen : L'.length + 1 = (L' ++ [beAt ns[j] t]).length := by simp
      simp [c19r7, c19r6, h8, h0, hmin, hw, hm1, hB]
      refine ⟨_, Weak.drop rfl, ⟨t + 1, c + 2 + 11, c + 2 + 15 + 3, L' ++ [beAt ns[j] t], by omega, by rw [hL', be8_take _ _ ht7, List.append_assoc], by simp [wrS]⟩, ?_⟩
      simp [numMu]
      omega
    · have ht8 : t = 8 := by simp at hlt; omega
      subst ht8
      have hw : IntKind.i64.wrap ((j : Int) + 1) = ((j + 1 : Nat) : Int) := by simp [IntKind.wrap, IntKind.bits, IntKind.signed]; omega
      simp [c19r8, hw]
      refine ⟨_, Weak.refl _, ⟨j + 1, g, _, L', by omega, ?_, by simp [wrS]; rfl⟩, ?_⟩
      · have e1 : (be8 ns[j]).take 8 = be8 ns[j] := List.take_of_length_le (by rw [be8_length]; omega)
        have e2 : ns.take (j + 1) = ns.take j ++ [ns[j]] := by rw [List.take_add_one, List.getElem?_eq_getElem hlt']; rfl
        rw [hL', hL, e1, e2, List.flatMap_append, List.append_assoc]
        simp only [List.flatMap_cons, List.flatMap_nil, List.append_nil]
      · simp [idxAt]; omega
  · have : j = ns.length := by simp at hge; omega
    subst this
    have hLE : L = E := by rw [hL, ← hend]; simp
    subst hLE
    simp
    refine post_end (.inl rfl) ?_
    simp [c19R]

end Go.Proofs.Ytngemgmnpcaamaa.WL
