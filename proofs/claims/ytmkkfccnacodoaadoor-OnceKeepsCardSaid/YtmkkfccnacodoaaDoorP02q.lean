/-
  CHAPTER 02: the digest over plain numbers, quick in the kernel; it is the digest.
-/
import Derived.Test.YtmkkfccnacodoaaDoorM04
namespace Go.Proofs.YtmkkfccnacodoaaDoor.WL
open Go

def rotN (x n : Nat) : Nat := Nat.lor (Nat.shiftRight x n) (Nat.mod (Nat.shiftLeft x (Nat.sub 32 n)) 4294967296)
def s0N (x : Nat) : Nat := Nat.xor (Nat.xor (rotN x 7) (rotN x 18)) (Nat.shiftRight x 3)
def s1N (x : Nat) : Nat := Nat.xor (Nat.xor (rotN x 17) (rotN x 19)) (Nat.shiftRight x 10)
def addN (x y : Nat) : Nat := Nat.mod (Nat.add x y) 4294967296
def nextN (a b c d : Nat) : Nat := addN (addN (addN a (s0N b)) c) (s1N d)
def pN (h e f g k w : Nat) : Nat := addN (addN (addN (addN h (Nat.xor (Nat.xor (rotN e 6) (rotN e 11)) (rotN e 25))) (Nat.xor (Nat.land e f) (Nat.land (Nat.sub 4294967295 e) g))) k) w
def qN (a b c : Nat) : Nat := addN (Nat.xor (Nat.xor (rotN a 2) (rotN a 13)) (rotN a 22)) (Nat.xor (Nat.xor (Nat.land a b) (Nat.land a c)) (Nat.land b c))
def shl32 (x a : Nat) : Nat := Nat.add (Nat.mul x 4294967296) a
def packN (a b c d e f g h : Nat) : Nat := shl32 (shl32 (shl32 (shl32 (shl32 (shl32 (shl32 a b) c) d) e) f) g) h
noncomputable def runN (A B C D E F G H : Nat) (ks : List Nat) : Nat → Nat → Nat → Nat → Nat → Nat → Nat → Nat → Nat → Nat → Nat → Nat → Nat → Nat → Nat → Nat → Nat → Nat → Nat → Nat → Nat → Nat → Nat → Nat → Nat :=
  List.rec (motive := fun _ => Nat → Nat → Nat → Nat → Nat → Nat → Nat → Nat → Nat → Nat → Nat → Nat → Nat → Nat → Nat → Nat → Nat → Nat → Nat → Nat → Nat → Nat → Nat → Nat → Nat)
    (fun a b c d e f g h _ _ _ _ _ _ _ _ _ _ _ _ _ _ _ _ => packN (addN A a) (addN B b) (addN C c) (addN D d) (addN E e) (addN F f) (addN G g) (addN H h))
    (fun k _ ih a b c d e f g h w0 w1 w2 w3 w4 w5 w6 w7 w8 w9 w10 w11 w12 w13 w14 w15 =>
      ih (addN (pN h e f g k w0) (qN a b c)) a b c (addN d (pN h e f g k w0)) e f g w1 w2 w3 w4 w5 w6 w7 w8 w9 w10 w11 w12 w13 w14 w15 (nextN w0 w1 w9 w14)) ks
def tableN : List Nat := [
  0x428a2f98, 0x71374491, 0xb5c0fbcf, 0xe9b5dba5, 0x3956c25b, 0x59f111f1, 0x923f82a4, 0xab1c5ed5,
  0xd807aa98, 0x12835b01, 0x243185be, 0x550c7dc3, 0x72be5d74, 0x80deb1fe, 0x9bdc06a7, 0xc19bf174,
  0xe49b69c1, 0xefbe4786, 0x0fc19dc6, 0x240ca1cc, 0x2de92c6f, 0x4a7484aa, 0x5cb0a9dc, 0x76f988da,
  0x983e5152, 0xa831c66d, 0xb00327c8, 0xbf597fc7, 0xc6e00bf3, 0xd5a79147, 0x06ca6351, 0x14292967,
  0x27b70a85, 0x2e1b2138, 0x4d2c6dfc, 0x53380d13, 0x650a7354, 0x766a0abb, 0x81c2c92e, 0x92722c85,
  0xa2bfe8a1, 0xa81a664b, 0xc24b8b70, 0xc76c51a3, 0xd192e819, 0xd6990624, 0xf40e3585, 0x106aa070,
  0x19a4c116, 0x1e376c08, 0x2748774c, 0x34b0bcb5, 0x391c0cb3, 0x4ed8aa4a, 0x5b9cca4f, 0x682e6ff3,
  0x748f82ee, 0x78a5636f, 0x84c87814, 0x8cc70208, 0x90befffa, 0xa4506ceb, 0xbef9a3f7, 0xc67178f2]
def atN (x s : Nat) : Nat := Nat.mod (Nat.shiftRight x s) 4294967296
noncomputable def compN (s m : Nat) : Nat :=
  runN (atN s 224) (atN s 192) (atN s 160) (atN s 128) (atN s 96) (atN s 64) (atN s 32) (atN s 0) tableN (atN s 224) (atN s 192) (atN s 160) (atN s 128) (atN s 96) (atN s 64) (atN s 32) (atN s 0)
    (atN m 480) (atN m 448) (atN m 416) (atN m 384) (atN m 352) (atN m 320) (atN m 288) (atN m 256) (atN m 224) (atN m 192) (atN m 160) (atN m 128) (atN m 96) (atN m 64) (atN m 32) (atN m 0)
def ivN : Nat := 0x6a09e667bb67ae853c6ef372a54ff53a510e527f9b05688c1f83d9ab5be0cd19

/-! One operation. -/
theorem addN_ok (x y : UInt32) : addN x.toNat y.toNat = (x + y).toNat := (UInt32.toNat_add x y).symm
theorem rotN_ok (x : UInt32) (n : Nat) (h : 0 < n ∧ n < 32) : rotN x.toNat n = (rotr x n).toNat := by
  unfold rotN rotr
  rw [UInt32.toNat_or, UInt32.toNat_shiftRight, UInt32.toNat_shiftLeft, UInt32.toNat_ofNat', UInt32.toNat_ofNat']
  have e1 : n % 2 ^ 32 % 32 = n := by omega
  have e2 : (32 - n) % 2 ^ 32 % 32 = 32 - n := by omega
  rw [e1, e2]
  rfl
theorem notN_ok (x : UInt32) : Nat.sub 4294967295 x.toNat = (~~~x).toNat := by
  rw [UInt32.toNat_not]
  rfl
theorem xorN_ok (x y : UInt32) : Nat.xor x.toNat y.toNat = (x ^^^ y).toNat := (UInt32.toNat_xor x y).symm
theorem andN_ok (x y : UInt32) : Nat.land x.toNat y.toNat = (x &&& y).toNat := (UInt32.toNat_and x y).symm
theorem shrN_ok (x : UInt32) (n : Nat) (h : n < 32) : Nat.shiftRight x.toNat n = (x >>> UInt32.ofNat n).toNat := by
  rw [UInt32.toNat_shiftRight, UInt32.toNat_ofNat']
  have e1 : n % 2 ^ 32 % 32 = n := by omega
  rw [e1]
  rfl
theorem s0N_ok (x : UInt32) : s0N x.toNat = (s0 x).toNat := by
  unfold s0N s0
  rw [rotN_ok x 7 (by omega), rotN_ok x 18 (by omega), shrN_ok x 3 (by omega), xorN_ok, xorN_ok]
  rfl
theorem s1N_ok (x : UInt32) : s1N x.toNat = (s1 x).toNat := by
  unfold s1N s1
  rw [rotN_ok x 17 (by omega), rotN_ok x 19 (by omega), shrN_ok x 10 (by omega), xorN_ok, xorN_ok]
  rfl
theorem nextN_ok (a b c d : UInt32) : nextN a.toNat b.toNat c.toNat d.toNat = (a + s0 b + c + s1 d).toNat := by
  unfold nextN
  rw [s0N_ok, s1N_ok, addN_ok, addN_ok, addN_ok]
theorem pN_ok (s : St) (k w : UInt32) : pN s.h.toNat s.e.toNat s.f.toNat s.g.toNat k.toNat w.toNat = (s.p k w).toNat := by
  unfold pN St.p
  rw [rotN_ok _ 6 (by omega), rotN_ok _ 11 (by omega), rotN_ok _ 25 (by omega), notN_ok]
  simp only [xorN_ok, andN_ok, addN_ok]
theorem qN_ok (s : St) : qN s.a.toNat s.b.toNat s.c.toNat = s.q.toNat := by
  unfold qN St.q
  rw [rotN_ok _ 2 (by omega), rotN_ok _ 13 (by omega), rotN_ok _ 22 (by omega)]
  simp only [xorN_ok, andN_ok, addN_ok]

/-! The rounds. -/
def foldR (w : Nat → UInt32) : List UInt32 → Nat → St → St
  | [], _, s => s
  | k :: ks, t, s => foldR w ks (t + 1) (s.round k (w t))
def St.val (s : St) : Nat := packN s.a.toNat s.b.toNat s.c.toNat s.d.toNat s.e.toNat s.f.toNat s.g.toNat s.h.toNat
theorem runN_nil (A B C D E F G H a b c d e f g h w0 w1 w2 w3 w4 w5 w6 w7 w8 w9 w10 w11 w12 w13 w14 w15 : Nat) :
    runN A B C D E F G H [] a b c d e f g h w0 w1 w2 w3 w4 w5 w6 w7 w8 w9 w10 w11 w12 w13 w14 w15 = packN (addN A a) (addN B b) (addN C c) (addN D d) (addN E e) (addN F f) (addN G g) (addN H h) := rfl
theorem runN_cons (A B C D E F G H k : Nat) (ks : List Nat) (a b c d e f g h w0 w1 w2 w3 w4 w5 w6 w7 w8 w9 w10 w11 w12 w13 w14 w15 : Nat) :
    runN A B C D E F G H (k :: ks) a b c d e f g h w0 w1 w2 w3 w4 w5 w6 w7 w8 w9 w10 w11 w12 w13 w14 w15 =
      runN A B C D E F G H ks (addN (pN h e f g k w0) (qN a b c)) a b c (addN d (pN h e f g k w0)) e f g w1 w2 w3 w4 w5 w6 w7 w8 w9 w10 w11 w12 w13 w14 w15 (nextN w0 w1 w9 w14) := rfl
theorem runN_ok (S : St) (w : Nat → UInt32) (hw : ∀ t, w (t + 16) = w t + s0 (w (t + 1)) + w (t + 9) + s1 (w (t + 14))) : ∀ (ks : List UInt32) (t : Nat) (s : St),
    runN S.a.toNat S.b.toNat S.c.toNat S.d.toNat S.e.toNat S.f.toNat S.g.toNat S.h.toNat (ks.map UInt32.toNat) s.a.toNat s.b.toNat s.c.toNat s.d.toNat s.e.toNat s.f.toNat s.g.toNat s.h.toNat
      (w t).toNat (w (t + 1)).toNat (w (t + 2)).toNat (w (t + 3)).toNat (w (t + 4)).toNat (w (t + 5)).toNat (w (t + 6)).toNat (w (t + 7)).toNat
      (w (t + 8)).toNat (w (t + 9)).toNat (w (t + 10)).toNat (w (t + 11)).toNat (w (t + 12)).toNat (w (t + 13)).toNat (w (t + 14)).toNat (w (t + 15)).toNat = (S.plus (foldR w ks t s)).val
  | [], t, s => by
    rw [List.map_nil, runN_nil]
    simp only [addN_ok]
    rfl
  | k :: ks, t, s => by
    rw [List.map_cons, runN_cons, nextN_ok, ← hw, pN_ok, qN_ok, addN_ok, addN_ok]
    exact runN_ok S w hw ks (t + 1) (s.round k (w t))
theorem foldR_snoc (w : Nat → UInt32) (k : UInt32) : ∀ (l : List UInt32) (t : Nat) (s : St), foldR w (l ++ [k]) t s = (foldR w l t s).round k (w (t + l.length))
  | [], _, _ => rfl
  | x :: l, t, s => by
    simp only [List.cons_append, foldR, List.length_cons]
    rw [foldR_snoc w k l (t + 1)]
    rw [show t + 1 + l.length = t + (l.length + 1) by omega]
theorem rounds_fold (wl : List UInt32) (w : Nat → UInt32) (s : St) : ∀ n, n ≤ 64 → (∀ i, i < n → wl.getD i 0 = w i) → rounds wl n s = foldR w (table.take n) 0 s
  | 0, _, _ => rfl
  | n + 1, hn, h => by
    have hl : n < table.length := by rw [table_length]; omega
    rw [rounds_succ, rounds_fold wl w s n (by omega) (fun i hi => h i (by omega)), h n (by omega), List.take_succ_eq_append_getElem hl, foldR_snoc, List.length_take, Nat.zero_add, Nat.min_eq_left (by omega)]
    rw [List.getD_eq_getElem?_getD, List.getElem?_eq_getElem hl]
    rfl
theorem grow_get (ws : List UInt32) (i m : Nat) : ∀ k, i < ws.length + m → (grow (m + k) ws).getD i 0 = (grow m ws).getD i 0
  | 0, _ => rfl
  | k + 1, h => by
    rw [show m + (k + 1) = (m + k) + 1 by omega, grow_succ, List.getD_eq_getElem?_getD, List.getElem?_append_left (by rw [grow_length]; omega), ← List.getD_eq_getElem?_getD]
    exact grow_get ws i m k h
def wof (ws : List UInt32) (i : Nat) : UInt32 := (grow i ws).getD i 0
theorem wof_grow (ws : List UInt32) (hl : ws.length = 16) (i m : Nat) (h : i < 16 + m) : (grow m ws).getD i 0 = wof ws i := by
  unfold wof
  rcases Nat.le_total i m with hm | hm
  · obtain ⟨k, rfl⟩ := Nat.exists_eq_add_of_le hm
    exact grow_get ws i i k (by omega)
  · obtain ⟨k, hk⟩ := Nat.exists_eq_add_of_le hm
    have := grow_get ws i m k (by omega)
    rw [← hk] at this
    exact this.symm
theorem wof_next (ws : List UInt32) (hl : ws.length = 16) (t : Nat) : wof ws (t + 16) = wof ws t + s0 (wof ws (t + 1)) + wof ws (t + 9) + s1 (wof ws (t + 14)) := by
  have e := wof_grow ws hl (t + 16) (t + 1) (by omega)
  rw [← e, grow_succ, List.getD_eq_getElem?_getD, List.getElem?_append_right (by rw [grow_length]; omega)]
  have e2 : t + 16 - (grow t ws).length = 0 := by rw [grow_length]; omega
  rw [e2]
  show next (grow t ws) = _
  unfold next
  rw [grow_length, hl, show 16 + t - 16 = t by omega, show 16 + t - 15 = t + 1 by omega, show 16 + t - 7 = t + 9 by omega, show 16 + t - 2 = t + 14 by omega]
  rw [wof_grow ws hl t t (by omega), wof_grow ws hl (t + 1) t (by omega), wof_grow ws hl (t + 9) t (by omega), wof_grow ws hl (t + 14) t (by omega)]
theorem comp_fold (s : St) (b : Bytes) : comp s b = s.plus (foldR (wof (words b)) table 0 s) := by
  unfold comp
  rw [rounds_fold (grow 48 (words b)) (wof (words b)) s 64 (Nat.le_refl _) (fun i hi => wof_grow _ (words_length b) i 48 (by omega))]
  rw [List.take_of_length_le (by rw [table_length]; omega)]

/-! Parts of a number. -/
theorem atN_low (x a : Nat) (h : a < 4294967296) : atN (shl32 x a) 0 = a := by
  show (x * 4294967296 + a) % 4294967296 = a
  omega
theorem atN_high (x a k : Nat) (h : a < 4294967296) : atN (shl32 x a) (k + 32) = atN x k := by
  show ((x * 4294967296 + a) >>> (k + 32)) % 4294967296 = (x >>> k) % 4294967296
  have e : (x * 4294967296 + a) >>> (k + 32) = x >>> k := by
    rw [Nat.add_comm k 32, Nat.shiftRight_add, Nat.shiftRight_eq_div_pow _ 32]
    congr 1
    show (x * 4294967296 + a) / 4294967296 = x
    omega
  rw [e]
theorem atN_self (a : Nat) (h : a < 4294967296) : atN a 0 = a := Nat.mod_eq_of_lt h
theorem St.val_at (s : St) : atN s.val 224 = s.a.toNat ∧ atN s.val 192 = s.b.toNat ∧ atN s.val 160 = s.c.toNat ∧ atN s.val 128 = s.d.toNat ∧ atN s.val 96 = s.e.toNat ∧ atN s.val 64 = s.f.toNat ∧ atN s.val 32 = s.g.toNat ∧ atN s.val 0 = s.h.toNat := by
  have ha := s.a.toNat_lt
  have hb := s.b.toNat_lt
  have hc := s.c.toNat_lt
  have hd := s.d.toNat_lt
  have he := s.e.toNat_lt
  have hf := s.f.toNat_lt
  have hg := s.g.toNat_lt
  have hh := s.h.toNat_lt
  unfold St.val packN
  generalize s.a.toNat = a at *
  generalize s.b.toNat = b at *
  generalize s.c.toNat = c at *
  generalize s.d.toNat = d at *
  generalize s.e.toNat = e at *
  generalize s.f.toNat = f at *
  generalize s.g.toNat = g at *
  generalize s.h.toNat = h at *
  have H := fun (x y k : Nat) (hy : y < 4294967296) => atN_high x y k hy
  refine ⟨?_, ?_, ?_, ?_, ?_, ?_, ?_, ?_⟩
  · rw [H _ h 192 hh, H _ g 160 hg, H _ f 128 hf, H _ e 96 he, H _ d 64 hd, H _ c 32 hc, H _ b 0 hb, atN_self a ha]
  · rw [H _ h 160 hh, H _ g 128 hg, H _ f 96 hf, H _ e 64 he, H _ d 32 hd, H _ c 0 hc, atN_low _ b hb]
  · rw [H _ h 128 hh, H _ g 96 hg, H _ f 64 hf, H _ e 32 he, H _ d 0 hd, atN_low _ c hc]
  · rw [H _ h 96 hh, H _ g 64 hg, H _ f 32 hf, H _ e 0 he, atN_low _ d hd]
  · rw [H _ h 64 hh, H _ g 32 hg, H _ f 0 hf, atN_low _ e he]
  · rw [H _ h 32 hh, H _ g 0 hg, atN_low _ f hf]
  · rw [H _ h 0 hh, atN_low _ g hg]
  · rw [atN_low _ h hh]
theorem beVal_append (a b : Bytes) : beVal (a ++ b) = beVal a * 256 ^ b.length + beVal b := by
  induction a with
  | nil => simp [beVal]
  | cons x a ih =>
    rw [List.cons_append, beVal_cons, beVal_cons, ih, List.length_append, Nat.pow_add, Nat.add_mul, Nat.mul_assoc, Nat.add_assoc]
theorem word4_val (a b c d : UInt8) : (word4 a b c d).toNat = a.toNat * 16777216 + b.toNat * 65536 + c.toNat * 256 + d.toNat := by
  have ha := a.toNat_lt
  have hb := b.toNat_lt
  have hc := c.toNat_lt
  have hd := d.toNat_lt
  have e24 : (a.toUInt32 <<< 24).toNat = a.toNat * 16777216 := by
    rw [UInt32.toNat_shiftLeft, Nat.shiftLeft_eq]
    show a.toNat * 16777216 % 4294967296 = _
    omega
  have e16 : (b.toUInt32 <<< 16).toNat = b.toNat * 65536 := by
    rw [UInt32.toNat_shiftLeft, Nat.shiftLeft_eq]
    show b.toNat * 65536 % 4294967296 = _
    omega
  have e8 : (c.toUInt32 <<< 8).toNat = c.toNat * 256 := by
    rw [UInt32.toNat_shiftLeft, Nat.shiftLeft_eq]
    show c.toNat * 256 % 4294967296 = _
    omega
  have e0 : d.toUInt32.toNat = d.toNat := rfl
  rw [← word4_add]
  simp only [UInt32.toNat_add, e24, e16, e8, e0]
  omega
theorem atN_word (b : Bytes) (i r : Nat) (h : b.length = 4 * i + 4 + r) : atN (beVal b) (8 * r) = (word4 (b.getD (4 * i) 0) (b.getD (4 * i + 1) 0) (b.getD (4 * i + 2) 0) (b.getD (4 * i + 3) 0)).toNat := by
  have g : ∀ k, k < b.length → b.getD k 0 :: b.drop (k + 1) = b.drop k := by
    intro k hk
    rw [List.getD_eq_getElem?_getD, List.getElem?_eq_getElem hk, Option.getD_some, List.getElem_cons_drop]
  have e : b = b.take (4 * i) ++ (b.getD (4 * i) 0 :: b.getD (4 * i + 1) 0 :: b.getD (4 * i + 2) 0 :: b.getD (4 * i + 3) 0 :: b.drop (4 * i + 4)) := by
    rw [g (4 * i + 3) (by omega), g (4 * i + 2) (by omega), g (4 * i + 1) (by omega), g (4 * i) (by omega), List.take_append_drop]
  rw [word4_val]
  have h0 := (b.getD (4 * i) 0).toNat_lt
  have h1 := (b.getD (4 * i + 1) 0).toNat_lt
  have h2 := (b.getD (4 * i + 2) 0).toNat_lt
  have h3 := (b.getD (4 * i + 3) 0).toNat_lt
  have hl : (b.drop (4 * i + 4)).length = r := by rw [List.length_drop]; omega
  have hr := beVal_lt (b.drop (4 * i + 4))
  rw [hl] at hr
  conv => lhs; rw [e]
  rw [beVal_append, beVal_cons, beVal_cons, beVal_cons, beVal_cons]
  simp only [List.length_cons, hl]
  generalize (b.getD (4 * i) 0).toNat = x0 at *
  generalize (b.getD (4 * i + 1) 0).toNat = x1 at *
  generalize (b.getD (4 * i + 2) 0).toNat = x2 at *
  generalize (b.getD (4 * i + 3) 0).toNat = x3 at *
  generalize beVal (b.take (4 * i)) = y at *
  generalize beVal (b.drop (4 * i + 4)) = z at *
  show (_ >>> (8 * r)) % 4294967296 = _
  have ep : (2 : Nat) ^ (8 * r) = 256 ^ r := by rw [Nat.pow_mul]
  rw [Nat.shiftRight_eq_div_pow, ep]
  have hp : 0 < 256 ^ r := Nat.pow_pos (by decide)
  have e5 : y * 256 ^ (r + 1 + 1 + 1 + 1) + (x0 * 256 ^ (r + 1 + 1 + 1) + (x1 * 256 ^ (r + 1 + 1) + (x2 * 256 ^ (r + 1) + (x3 * 256 ^ r + z)))) = (y * 4294967296 + (x0 * 16777216 + x1 * 65536 + x2 * 256 + x3)) * 256 ^ r + z := by
    simp only [Nat.pow_succ]
    generalize 256 ^ r = p
    simp only [Nat.add_mul, Nat.mul_assoc]
    rw [show p * (256 * (256 * (256 * 256))) = 4294967296 * p by omega, show p * (256 * (256 * 256)) = 16777216 * p by omega, show p * (256 * 256) = 65536 * p by omega, show p * 256 = 256 * p by omega]
    omega
  rw [e5, Nat.add_comm, Nat.add_mul_div_right _ _ hp, Nat.div_eq_of_lt hr]
  omega
theorem words_atq (b : Bytes) (i : Nat) (h : i < 16) : wof (words b) i = word4 (b.getD (4 * i) 0) (b.getD (4 * i + 1) 0) (b.getD (4 * i + 2) 0) (b.getD (4 * i + 3) 0) := by
  rw [← wof_grow (words b) (words_length b) i 0 (by omega), grow_zero, List.getD_eq_getElem?_getD]
  unfold words
  rw [List.getElem?_map, List.getElem?_range h]
  rfl
theorem atN_words (b : Bytes) (hb : b.length = 64) (i : Nat) (h : i < 16) : atN (beVal b) (480 - 32 * i) = (wof (words b) i).toNat := by
  rw [words_atq b i h, show 480 - 32 * i = 8 * (60 - 4 * i) by omega]
  exact atN_word b i (60 - 4 * i) (by omega)
theorem table_nats : table.map UInt32.toNat = tableN := by decide +kernel
theorem compN_ok (s : St) (b : Bytes) (hb : b.length = 64) : compN s.val (beVal b) = (comp s b).val := by
  obtain ⟨e1, e2, e3, e4, e5, e6, e7, e8⟩ := s.val_at
  have g := atN_words b hb
  unfold compN
  rw [e1, e2, e3, e4, e5, e6, e7, e8, g 0 (by omega), g 1 (by omega), g 2 (by omega), g 3 (by omega), g 4 (by omega), g 5 (by omega), g 6 (by omega), g 7 (by omega), g 8 (by omega), g 9 (by omega),
    g 10 (by omega), g 11 (by omega), g 12 (by omega), g 13 (by omega), g 14 (by omega), g 15 (by omega), ← table_nats, comp_fold]
  exact runN_ok s (wof (words b)) (wof_next (words b) (words_length b)) table 0 s
theorem wbytes_val (x : UInt32) : beVal (wbytes x) = x.toNat := by
  have h := x.toNat_lt
  have e24 : (x >>> 24).toUInt8.toNat = x.toNat / 16777216 % 256 := by
    rw [UInt32.toNat_toUInt8, UInt32.toNat_shiftRight, Nat.shiftRight_eq_div_pow]; rfl
  have e16 : (x >>> 16).toUInt8.toNat = x.toNat / 65536 % 256 := by
    rw [UInt32.toNat_toUInt8, UInt32.toNat_shiftRight, Nat.shiftRight_eq_div_pow]; rfl
  have e8 : (x >>> 8).toUInt8.toNat = x.toNat / 256 % 256 := by
    rw [UInt32.toNat_toUInt8, UInt32.toNat_shiftRight, Nat.shiftRight_eq_div_pow]; rfl
  have e0 : x.toUInt8.toNat = x.toNat % 256 := UInt32.toNat_toUInt8 x
  unfold wbytes
  simp only [beVal_cons, List.length_cons, List.length_nil, e24, e16, e8, e0]
  show _ + (_ + (_ + (_ + 0))) = _
  omega
theorem St.bytes_val (s : St) : beVal s.bytes = s.val := by
  have l : ∀ x, (wbytes x).length = 4 := fun _ => rfl
  unfold St.bytes St.list
  simp only [List.flatMap_cons, List.flatMap_nil, List.append_nil]
  rw [beVal_append, beVal_append, beVal_append, beVal_append, beVal_append, beVal_append, beVal_append]
  simp only [wbytes_val, List.length_append, l]
  unfold St.val packN shl32
  simp only [Nat.add_eq, Nat.mul_eq]
  generalize s.a.toNat = a
  generalize s.b.toNat = b
  generalize s.c.toNat = c
  generalize s.d.toNat = d
  generalize s.e.toNat = e
  generalize s.f.toNat = f
  generalize s.g.toNat = g
  generalize s.h.toNat = h
  omega
theorem iv_val : iv.val = ivN := by decide +kernel
/-- A digest of bytes that fill one block. -/
theorem sha_one (b : Bytes) (h : (pad b).length = 64) : beVal (sha b).bs = compN ivN (beVal (pad b)) := by
  have e : (sha b).bs = (hb ((pad b).length / 64) (pad b)).bytes := rfl
  rw [e, h, St.bytes_val, ← iv_val, compN_ok iv (pad b) h]
  show (comp iv (((pad b).drop (64 * 0)).take 64)).val = _
  rw [Nat.mul_zero, List.drop_zero, List.take_of_length_le (by omega)]
theorem be8_val (n : Nat) (h : n < 18446744073709551616) : beVal (be8 (n : Int)) = n := by
  have := beVal_be8 (n : Int)
  omega
theorem zeros_val (n : Nat) : beVal (zeros n) = 0 := by
  induction n with
  | zero => rfl
  | succ n ih =>
    show beVal ((0 : UInt8) :: zeros n) = 0
    rw [beVal_cons, ih]
    show 0 * _ + 0 = 0
    omega
theorem pad_val (b : Bytes) (h : 8 * b.length < 18446744073709551616) : beVal (pad b) = beVal b * 256 ^ (fillN b.length + 9) + (128 * 256 ^ (fillN b.length + 8) + 8 * b.length) := by
  unfold pad
  rw [beVal_append, beVal_cons, beVal_append, zeros_val, be8_val _ h]
  simp only [List.length_cons, List.length_append, zeros_length, be8_length, Nat.zero_mul, Nat.zero_add]
  rfl
end Go.Proofs.YtmkkfccnacodoaaDoor.WL
