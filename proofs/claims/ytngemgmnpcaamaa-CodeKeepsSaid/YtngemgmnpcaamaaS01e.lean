/-
  CHAPTER 01: contracts of the writer: texts.
-/
import Derived.Test.YtngemgmnpcaamaaS01d
namespace Go.Proofs.Ytngemgmnpcaamaa.WL
open Go

def Strs (ss : List ByteArray) : List AV := ss.map fun s => .v (.string s)
@[simp] theorem Strs_length (ss : List ByteArray) : (Strs ss).length = ss.length := by simp [Strs]
@[simp] theorem Strs_closed (ss : List ByteArray) : closeds (Strs ss) = true := by simp [Strs, closeds_all]
@[simp] theorem Strs_getElem (n : Nat) (a : List ByteArray) (h : n < (Strs a).length) : (Strs a)[n] = .v (.string (a[n]'(by simpa using h))) := by simp [Strs]
@[simp] theorem Strs_get (n : Nat) (a : List ByteArray) : (Strs a)[n]? = (a[n]?).map fun s => .v (.string s) := by simp [Strs]

def bytesOf (s : ByteArray) : List Int := s.data.toList.map fun b => (b.toNat : Int)
theorem bytesAV_eq (s : ByteArray) : bytesAV s = B (bytesOf s) := by simp [bytesAV, B, bytesOf]
theorem bytesOf_length (s : ByteArray) : (bytesOf s).length = s.size := by simp [bytesOf]

/-- A text's length in four bytes, as the code reckons it; and the text. -/
def lenB (n : Nat) : List Int := [IntKind.u8.wrap ((n : Int).fdiv (2 ^ 24)), IntKind.u8.wrap ((n : Int).fdiv (2 ^ 16)), IntKind.u8.wrap ((n : Int).fdiv (2 ^ 8)), IntKind.u8.wrap (n : Int)]
@[simp] theorem lenB_length (n : Nat) : (lenB n).length = 4 := rfl
def txt (s : ByteArray) : List Int := lenB s.size ++ bytesOf s
theorem txt_length (s : ByteArray) : (txt s).length = 4 + s.size := by simp [txt, lenB, bytesOf_length]; omega

def txtOut (bs : List Int) (ss : List ByteArray) (S : SA) : Prop := ∃ (j g c : Nat) (L : List Int), j ≤ ss.length ∧ L = bs ++ (ss.take j).flatMap txt ∧
  S = wrS [(0, .ptr 1000 0 0), (9, .sl 1 (Strs ss)), (10, .v (.int .i64 (ss.length : Int))), (11, .v (.int .i64 (j : Int)))] g L c

theorem txts_take (ss : List ByteArray) (j : Nat) : ((ss.take j).flatMap txt).length ≤ (ss.flatMap txt).length := by
  conv => rhs; rw [← List.take_append_drop j ss]
  rw [List.flatMap_append, List.length_append]
  omega

theorem wtext_meets {G : Nat → Option AV} (bs : List Int) (ss : List ByteArray) (hb : bs.length + (ss.flatMap txt).length ≤ 65536) (hn : ss.length ≤ 65536) :
    Meets Try.prog G 13 [.ptr 1000 0 0, .sl 1 (Strs ss)] (wrM 0 bs) true (.tup []) (wrM 1 (bs ++ ss.flatMap txt)) := by
  refine meets_of_go mix c13_chk ⟨by simp [wrM], by simp, by simp [wrM]⟩ ?_
  generalize hend : bs ++ ss.flatMap txt = E
  simp [c13, c13r0, c13r1, wrM]
  refine go_loop (txtOut bs ss) (fun S => ss.length + 1 - idxAt 11 S) _ (Weak.refl _) ⟨0, 0, 7, bs, by omega, by simp, rfl⟩ ?_
  rintro S' ⟨j, g, c, L, hj, hL, rfl⟩
  simp [c13r2, wrS]
  refine goC_split (fun hlt => ?_) (fun hge => ?_)
  · have hlt' : j < ss.length := by simpa using hlt
    have e2 : ss.take (j + 1) = ss.take j ++ [ss[j]] := by rw [List.take_add_one, List.getElem?_eq_getElem hlt']; rfl
    have hsz := txts_take ss (j + 1)
    rw [e2, List.flatMap_append, List.length_append] at hsz
    simp only [List.flatMap_cons, List.flatMap_nil, List.append_nil, txt_length] at hsz
    have hLl : L.length + (4 + ss[j].size) ≤ 65536 := by
      rw [hL, List.length_append]
      omega
    have hm1 : L.length + 4 ≤ maxLen ∧ L.length ≤ 140737488355324 ∧ L.length + 4 + ss[j].size ≤ maxLen ∧ L.length + 4 + ss[j].size ≤ 140737488355328 := by unfold maxLen; omega
    have hB : B L ++ [.v (.int .u8 (IntKind.u8.wrap ((ss[j].size : Int).fdiv (2 ^ min 24 IntKind.i64.bits)))), .v (.int .u8 (IntKind.u8.wrap ((ss[j].size : Int).fdiv (2 ^ min 16 IntKind.i64.bits)))), .v (.int .u8 (IntKind.u8.wrap ((ss[j].size : Int).fdiv (2 ^ min 8 IntKind.i64.bits)))), .v (.int .u8 (IntKind.u8.wrap (ss[j].size : Int)))] = B (L ++ lenB ss[j].size) := by
      simp [B, lenB, IntKind.bits]
    have hw : IntKind.i64.wrap ((j : Int) + 1) = ((j + 1 : Nat) : Int) := by simp [IntKind.wrap, IntKind.bits, IntKind.signed]; omega
    simp [c13r3, c13r4, c13r5, c13r6, c13r7, hlt', hm1, hw, bytesAV_eq, hB, bytesOf_length]
    refine ⟨_, Weak.drop rfl, ⟨j + 1, c + 1 + 3 + 3 + 21 + 6, c + 1 + 3 + 3 + 21 + 10 + 2, L ++ txt ss[j], by omega, ?_, by simp [wrS, txt, bytesOf_length, Nat.add_assoc]⟩, ?_⟩
    · rw [hL, e2, List.flatMap_append, List.append_assoc]
      simp only [List.flatMap_cons, List.flatMap_nil, List.append_nil]
    · simp [idxAt]; omega
  · have : j = ss.length := by simp at hge; omega
    subst this
    have hLE : L = E := by rw [hL, ← hend]; simp
    subst hLE
    simp
    refine post_end (.inl rfl) ?_
    simp [c13R]

end Go.Proofs.Ytngemgmnpcaamaa.WL
