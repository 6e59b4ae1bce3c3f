/-
  CHAPTER 02: contracts: a block.
-/
import Derived.Test.YtmdjimkndeklmaaDoorS02a
namespace Go.Proofs.YtmdjimkndeklmaaDoor.WL
open Go
set_option maxHeartbeats 4000000

attribute [local irreducible] rounds grow table

/-- The program's variable. -/
def Gt : Nat → Option AV := fun n => if n = 0 then some (.arr 1 (U table)) else none
def St.av (s : St) : AV := .arr 1 (U s.list)
/-- A state variable. -/
def stM (s : St) : List (Nat × Loc) := [(1000, .var 0 s.av)]

theorem words_get (b : Bytes) (j : Nat) (h : j < 16) : (words b)[j]? = some (word4 (b.getD (4 * j) 0) (b.getD (4 * j + 1) 0) (b.getD (4 * j + 2) 0) (b.getD (4 * j + 3) 0)) := by simp [words, h]

theorem grow_take (w : List UInt32) (n k : Nat) (h : w.length = k) : (grow n w).take k = w := by
  induction n with
  | zero => simp [grow_zero, ← h]
  | succ n ih => rw [grow_succ, List.take_append_of_le_length (by rw [grow_length]; omega), ih]
/-- The next word, out of an array with room behind it. -/
theorem next_get (w : List UInt32) (z : List UInt32) (k : Nat) (hk : k ≤ w.length) (h0 : 0 < k) : (w ++ z)[w.length - k]? = some (w.getD (w.length - k) 0) := by
  rw [List.getElem?_append_left (by omega), List.getD_eq_getElem?_getD, List.getElem?_eq_getElem (by omega)]
  rfl
theorem grow_set (w : List UInt32) (n : Nat) (v : UInt32) : (w ++ zeros32 (n + 1)).set w.length v = (w ++ [v]) ++ zeros32 n := by
  rw [List.set_append_right _ _ (Nat.le_refl _), Nat.sub_self, List.append_assoc]
  rfl
def plusL (s t : St) (j : Nat) : List UInt32 := (s.plus t).list.take j ++ s.list.drop j
theorem plusL_get (s t : St) (j : Nat) (h : j < 8) : (plusL s t j)[j]? = some (s.list.getD j 0) ∧ (plusL s t j).set j (s.list.getD j 0 + t.list.getD j 0) = plusL s t (j + 1) ∧ t.list[j]? = some (t.list.getD j 0) := by
  match j, h with
  | 0, _ => exact ⟨rfl, rfl, rfl⟩
  | 1, _ => exact ⟨rfl, rfl, rfl⟩
  | 2, _ => exact ⟨rfl, rfl, rfl⟩
  | 3, _ => exact ⟨rfl, rfl, rfl⟩
  | 4, _ => exact ⟨rfl, rfl, rfl⟩
  | 5, _ => exact ⟨rfl, rfl, rfl⟩
  | 6, _ => exact ⟨rfl, rfl, rfl⟩
  | 7, _ => exact ⟨rfl, rfl, rfl⟩
@[simp] theorem plusL_length (s t : St) (j : Nat) (h : j ≤ 8) : (plusL s t j).length = 8 := by
  have h1 : (s.plus t).list.length = 8 := rfl
  have h2 : s.list.length = 8 := rfl
  simp only [plusL, List.length_append, List.length_take, List.length_drop, h1, h2]
  omega
theorem plusL_8 (s t : St) : plusL s t 8 = (s.plus t).list := rfl
theorem plusL_0 (s t : St) : plusL s t 0 = s.list := rfl
theorem comp_eq (s : St) (b : Bytes) (w : List UInt32) (N : Nat) (hN : N = 64) (h : grow 48 (words b) = w) : comp s b = s.plus (rounds w N s) := by subst hN h; rfl
theorem getD_get (l : List UInt32) (j : Nat) (h : j < l.length) : l[j]? = some (l.getD j 0) := by
  rw [List.getD_eq_getElem?_getD, List.getElem?_eq_getElem h]
  rfl
theorem w64_sub {a b : Nat} (h : b ≤ a) (h2 : a < 4611686018427387904) : IntKind.i64.wrap ((a : Int) - (b : Int)) = ((a - b : Nat) : Int) := by rw [IntKind.wrap_i64]; omega

def i16 (j : Nat) : Int := ((16 + j : Nat) : Int)
@[simp] theorem i16_0 : i16 0 = 16 := rfl
@[simp] theorem i16_48 : i16 48 = 64 := rfl
theorem i16_eq (j : Nat) : i16 j = 16 + (j : Int) := by simp [i16]
theorem rot_lit {G : Nat → Option AV} (x : UInt32) (r : Nat) (k : Int) (h : (0 < r ∧ r < 32) ∧ k = -(r : Int)) : Meets Tryd.prog G fn_bits_RotateLeft32 [wv x, .v (.int .i64 k)] [] true (wv (rotr x r)) [] := by
  obtain ⟨h1, rfl⟩ := h
  exact rot_meets x r h1
theorem shr3 (x : UInt32) : w32 x / (8 : Int) = w32 (x >>> 3) := by have := u32_shr x 3 (by decide); simpa using this
theorem shr10 (x : UInt32) : w32 x / (1024 : Int) = w32 (x >>> 10) := by have := u32_shr x 10 (by decide); simpa using this
theorem block_meets (s : St) (b : Bytes) (hb : b.length = 64) : Meets Tryd.prog Gt fn_sha_state_block [.ptr 1000 0 0, .sl 1 (B b)] (stM s) true (.tup []) (stM (comp s b)) := by
  refine meets_of_go mix k_sha_state_block ⟨by simp [stM, St.av], by simp, by simp [stM]⟩ ?_
  simp [stM]
  refine go_up 16 (fun j (x : List UInt32) => x = (words b).take j ++ zeros32 (64 - j)) (fun j x c => ⟨[(0, .ptr 1000 0 0), (1, .sl 1 (B b)), (4, .ptr 4 c 0), (26, .v (.int .i64 (j : Nat)))], [(4, .var c (.arr 1 (U x))), (1000, .var 0 s.av)], c + 1⟩)
    (zeros32 64) _ (Weak.re0 1000 (by simp [St.av])) (by simp) ?_ ?_
  · intro j x c hj hx
    have hw : IntKind.i64.wrap ((j : Int) + 1) = ((j + 1 : Nat) : Int) := w64_succ (by omega)
    obtain ⟨q, hq⟩ : ∃ q : Nat, q = 4 * j := ⟨_, rfl⟩
    have hw4 : IntKind.i64.wrap (4 * (j : Int)) = (q : Int) := by rw [w64_id (by omega)]; omega
    have hb64 : List.take 64 b = b := List.take_of_length_le (by omega)
    have hj16 : (j : Int) < 16 := by omega
    have hj64 : (j : Int) < 64 := by omega
    have hjn : j < 64 := by omega
    have h4 : q ≤ 64 ∧ (q : Int) ≤ 64 := by omega
    have hxl : x.length = 64 := by rw [hx]; simp; omega
    have hg : x.set j (word4 (b.getD (4 * j) 0) (b.getD (4 * j + 1) 0) (b.getD (4 * j + 2) 0) (b.getD (4 * j + 3) 0)) = (words b).take (j + 1) ++ zeros32 (64 - (j + 1)) := by
      have h1 := fill_zeros32 (words b) 64 j (by simp; omega) (by simp)
      have h2 := words_get b j hj
      rw [List.getElem?_eq_getElem (by simp; omega)] at h2
      rw [Option.some.inj h2, ← hx] at h1
      exact h1
    have hd : ∀ k, (b.drop (4 * j)).getD k 0 = b.getD (4 * j + k) 0 := fun k => by simp [List.getD_eq_getElem?_getD]
    have hc := word_meets (G := Gt) (b.drop (4 * j)) (by simp; omega)
    rw [hd, hd, hd, hd] at hc
    rw [← hq] at hd hc hg
    generalize hv : word4 (b.getD q 0) (b.getD (q + 1) 0) (b.getD (q + 2) 0) (b.getD (q + 3) 0) = v at *
    simp [hj16, hw4, hb, h4, hb64]
    refine call_intro hc ?_ ?_
    · simp
    simp [hj64, hjn, hw, hxl, U_set, Nat.mod_one, hv]
    exact ⟨_, _, Weak.re0 1000 (by simp [hg, St.av]), rfl⟩
  · intro x c hx
    simp
    refine go_up 48 (fun j (x : List UInt32) => x = grow j (words b) ++ zeros32 (48 - j)) (fun j x c => ⟨[(0, .ptr 1000 0 0), (4, .ptr 4 c 0), (6, .v (.int .i64 (i16 j)))], [(4, .var c (.arr 1 (U x))), (1000, .var 0 s.av)], c + 1⟩)
      x _ (Weak.re0 1000 (by simp [St.av])) (by rw [hx, List.take_of_length_le (by simp), grow_zero]) ?_ ?_
    · intro j x c hj hx
      have e := i16_eq j
      have e1 := i16_eq (j + 1)
      have hw : IntKind.i64.wrap (i16 j + 1) = i16 (j + 1) := by rw [w64_id (by omega)]; omega
      have a15 : IntKind.i64.wrap (i16 j - 15) = ((j + 1 : Nat) : Int) := by rw [w64_id (by omega)]; omega
      have a2 : IntKind.i64.wrap (i16 j - 2) = ((j + 14 : Nat) : Int) := by rw [w64_id (by omega)]; omega
      have a16 : IntKind.i64.wrap (i16 j - 16) = ((j : Nat) : Int) := by rw [w64_id (by omega)]; omega
      have a7 : IntKind.i64.wrap (i16 j - 7) = ((j + 9 : Nat) : Int) := by rw [w64_id (by omega)]; omega
      have hlt : i16 j < 64 := by omega
      have hge : 0 ≤ i16 j := by omega
      have htn : (i16 j).toNat = 16 + j := by omega
      have hxl : x.length = 64 := by rw [hx]; simp; omega
      obtain ⟨k1, hk1⟩ : ∃ k : Nat, k = j + 1 := ⟨_, rfl⟩
      obtain ⟨k14, hk14⟩ : ∃ k : Nat, k = j + 14 := ⟨_, rfl⟩
      obtain ⟨k9, hk9⟩ : ∃ k : Nat, k = j + 9 := ⟨_, rfl⟩
      rw [← hk1] at a15
      rw [← hk14] at a2
      rw [← hk9] at a7
      have b1 : (k1 : Int) < 64 ∧ k1 < 64 ∧ (k14 : Int) < 64 ∧ k14 < 64 ∧ (k9 : Int) < 64 ∧ k9 < 64 ∧ (j : Int) < 64 ∧ j < 64 ∧ 16 + j < 64 := by omega
      have hgl : (grow j (words b)).length = 16 + j := by simp
      have g15 := next_get (grow j (words b)) (zeros32 (48 - j)) 15 (by omega) (by omega)
      have g2 := next_get (grow j (words b)) (zeros32 (48 - j)) 2 (by omega) (by omega)
      have g16 := next_get (grow j (words b)) (zeros32 (48 - j)) 16 (by omega) (by omega)
      have g7 := next_get (grow j (words b)) (zeros32 (48 - j)) 7 (by omega) (by omega)
      rw [← hx] at g15 g2 g16 g7
      rw [hgl, show 16 + j - 15 = k1 by omega] at g15
      rw [hgl, show 16 + j - 2 = k14 by omega] at g2
      rw [hgl, show 16 + j - 16 = j by omega] at g16
      rw [hgl, show 16 + j - 7 = k9 by omega] at g7
      have hn : next (grow j (words b)) = (grow j (words b)).getD j 0 + s0 ((grow j (words b)).getD k1 0) + (grow j (words b)).getD k9 0 + s1 ((grow j (words b)).getD k14 0) := by
        unfold next
        rw [hgl, show 16 + j - 15 = k1 by omega, show 16 + j - 2 = k14 by omega, show 16 + j - 16 = j by omega, show 16 + j - 7 = k9 by omega]
      have hs := grow_set (grow j (words b)) (47 - j) (next (grow j (words b)))
      rw [show 47 - j + 1 = 48 - j by omega, ← hx, hgl, hn, show 47 - j = 48 - (j + 1) by omega, ← hn] at hs
      have e16 := (List.getElem?_eq_some_iff.1 g16).2
      have e7 := (List.getElem?_eq_some_iff.1 g7).2
      generalize (grow j (words b)).getD k1 0 = w15 at *
      generalize (grow j (words b)).getD k14 0 = w2 at *
      generalize (grow j (words b)).getD j 0 = w16 at *
      generalize (grow j (words b)).getD k9 0 = w7 at *
      simp [hlt, a15, a2, b1, g15, g2]
      refine call_intro (rot_lit w15 7 (-7) (by decide)) ?_ ?_
      · simp
      simp
      refine call_intro (rot_lit w15 18 (-18) (by decide)) ?_ ?_
      · simp
      simp [u32_xor, shr3]
      refine call_intro (rot_lit w2 17 (-17) (by decide)) ?_ ?_
      · simp
      simp
      refine call_intro (rot_lit w2 19 (-19) (by decide)) ?_ ?_
      · simp
      simp [u32_xor, shr10, a16, a7, b1, e16, e7, u32_add, hlt, hge, htn, hxl, U_set, hw]
      exact ⟨x.set (16 + j) (next (grow j (words b))), _, Weak.re0 1000 (by simp [St.av, hn, s0, s1]), hs.trans (by rw [← grow_succ])⟩
    · intro x c hx
      have hx2 : x = grow 48 (words b) := by rw [hx]; simp [zeros32]
      have hwl : (grow 48 (words b)).length = 64 := by simp
      subst hx2
      generalize hgw : grow 48 (words b) = w at *
      simp [St.av, St.list, hwl]
      obtain ⟨N, hN⟩ : ∃ N : Nat, N = 64 := ⟨_, rfl⟩
      have hNI : (N : Int) = 64 := by omega
      refine go_up N (fun _ _ => True) (fun j (_ : Unit) c => ⟨[(0, .ptr 1000 0 0), (11, wv (rounds w j s).a), (12, wv (rounds w j s).b), (13, wv (rounds w j s).c), (14, wv (rounds w j s).d), (15, wv (rounds w j s).e), (16, wv (rounds w j s).f), (17, wv (rounds w j s).g), (18, wv (rounds w j s).h), (112, .arr 1 (U w)), (113, .v (.int .i64 (j : Nat)))], [(1000, .var 0 (.arr 1 (U s.list)))], c + 1⟩)
        () _ (Weak.re0 1000 (by simp [St.list, rounds_zero])) trivial ?_ ?_
      · intro j _ c hj _
        have hw : IntKind.i64.wrap ((j : Int) + 1) = ((j + 1 : Nat) : Int) := w64_succ (by omega)
        have hj64 : (j : Int) < 64 := by omega
        have gw := getD_get w j (by omega)
        have hj : j < 64 := by omega
        have gt := getD_get table j (by rw [table_length]; exact hj)
        have ew := (List.getElem?_eq_some_iff.1 gw).2
        have et := (List.getElem?_eq_some_iff.1 gt).2
        have hr : rounds w (j + 1) s = (rounds w j s).round (table.getD j 0) (w.getD j 0) := rounds_succ w j s
        generalize table.getD j 0 = kj at *
        generalize w.getD j 0 = wj at *
        generalize rounds w j s = r at *
        simp [hj64, hwl, hj, ew, et]
        refine call_intro (rot_lit r.e 6 (-6) (by decide)) ?_ ?_
        · simp
        simp
        refine call_intro (rot_lit r.e 11 (-11) (by decide)) ?_ ?_
        · simp
        simp [u32_xor]
        refine call_intro (rot_lit r.e 25 (-25) (by decide)) ?_ ?_
        · simp
        simp [u32_xor, u32_add, u32_and, Gt, hj64, hj, ew, et]
        refine call_intro (rot_lit r.a 2 (-2) (by decide)) ?_ ?_
        · simp
        simp
        refine call_intro (rot_lit r.a 13 (-13) (by decide)) ?_ ?_
        · simp
        simp [u32_xor]
        refine call_intro (rot_lit r.a 22 (-22) (by decide)) ?_ ?_
        · simp
        simp [u32_xor, u32_add, u32_and, hw]
        exact ⟨(), _, Weak.re0 1000 (by simp [hr, St.round, St.p, St.q]), trivial⟩
      · intro _ c _
        have hcb := comp_eq s b w N hN hgw
        have hp8 := plusL_8 s (rounds w N s)
        rw [← hcb] at hp8
        clear hcb hgw hx

        generalize rounds w N s = r at *
        generalize comp s b = q at *
        simp [hNI]
        refine go_up 8 (fun _ _ => True) (fun j (_ : Unit) c => ⟨[(0, .ptr 1000 0 0), (185, .arr 1 (U r.list)), (186, .v (.int .i64 (j : Nat)))], [(1000, .var 0 (.arr 1 (U (plusL s r j))))], c + 1⟩)
          () _ (Weak.re0 1000 (by simp [plusL_0, U, St.list])) trivial ?_ ?_
        · intro j _ c hj _
          have hw : IntKind.i64.wrap ((j : Int) + 1) = ((j + 1 : Nat) : Int) := w64_succ (by omega)
          have hj8 : (j : Int) < 8 := by omega
          obtain ⟨g1, g2, g3⟩ := plusL_get s r j hj
          have e1 := (List.getElem?_eq_some_iff.1 g1).2
          have e3 := (List.getElem?_eq_some_iff.1 g3).2
          have hpl := plusL_length s r j (by omega)
          have hrl : r.list.length = 8 := rfl
          generalize s.list.getD j 0 = sj at *
          generalize r.list.getD j 0 = rj at *
          simp [hj8, hj, hpl, hrl, e1, e3]
          simp [u32_add, hw, U_set, g2]
          exact ⟨(), _, Weak.re0 1000 (by simp), trivial⟩
        · intro _ c _
          simp [hp8]
          refine post_end (.inl rfl) ?_
          simp [St.list]
end Go.Proofs.YtmdjimkndeklmaaDoor.WL
