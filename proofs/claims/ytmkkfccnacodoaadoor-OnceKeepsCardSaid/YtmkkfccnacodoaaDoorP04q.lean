/-
  CHAPTER 04: public halves over plain numbers; two of them that differ.
-/
import Derived.Test.YtmkkfccnacodoaaDoorP02q
namespace Go.Proofs.YtmkkfccnacodoaaDoor.WL
open Go
attribute [local irreducible] compN

noncomputable def secN (seed leaf n : Nat) : Nat := compN ivN (Nat.add (Nat.mul (Nat.add (Nat.mul (Nat.add (Nat.mul (Nat.add (Nat.mul 2 (2^256)) seed) (2^64)) leaf) (2^64)) n) (2^120)) (Nat.add (Nat.mul 128 (2^112)) 392))
noncomputable def shutN (x : Nat) : Nat := compN ivN (Nat.add (Nat.mul x (2^256)) (Nat.add (Nat.mul 128 (2^248)) 256))
noncomputable def hbN (seed leaf n : Nat) : Nat := Nat.rec (motive := fun _ => Nat) ivN (fun i ih => compN ih (Nat.add (Nat.mul (shutN (secN seed leaf (Nat.mul 2 i))) (2^256)) (shutN (secN seed leaf (Nat.add (Nat.mul 2 i) 1))))) n
noncomputable def pubN (seed leaf : Nat) : Nat := compN (hbN seed leaf 32) (Nat.add (Nat.mul (2^255) (2^256)) 16384)
set_option maxRecDepth 100000 in
theorem pub_quick : Nat.beq (pubN (2^248) 0) (pubN (2^248) 1) = false := by decide +kernel

theorem shutD_val (s : Dg) : beVal (shutD s).bs = shutN (beVal s.bs) := by
  have hl : s.bs.length = 32 := s.len
  have e : shutD s = sha s.bs := by unfold shutD; rfl
  rw [e, sha_one s.bs (by simp only [pad, List.length_append, List.length_cons, zeros_length, be8_length, fillN, hl]), pad_val s.bs (by omega), hl]
  unfold shutN
  congr 1
theorem secB_val (seed : Dg) (L n : Nat) (h1 : L < 1000000) (h2 : n < 1000000) : beVal (secB seed (L : Int) n) = ((2 * 2 ^ 256 + beVal seed.bs) * 2 ^ 64 + L) * 2 ^ 64 + n := by
  unfold secB
  rw [beVal_cons, beVal_append, beVal_append, be8_val L (by omega), be8_val n (by omega)]
  have hl : seed.bs.length = 32 := seed.len
  simp only [List.length_append, hl, be8_length]
  generalize beVal seed.bs = S
  show 2 * 256 ^ 48 + (S * 256 ^ 16 + (L * 256 ^ 8 + n)) = _
  omega
theorem secD_val (seed : Dg) (L bit is : Nat) (h1 : L < 1000000) (h2 : 2 * bit + is < 1000000) : beVal (secD seed (L : Int) bit is).bs = secN (beVal seed.bs) L (2 * bit + is) := by
  have hl := secB_len seed (L : Int) (2 * bit + is)
  have e : secD seed (L : Int) bit is = sha (secB seed (L : Int) (2 * bit + is)) := by unfold secD; rfl
  rw [e, sha_one _ (by simp only [pad, List.length_append, List.length_cons, zeros_length, be8_length, fillN, hl]), pad_val _ (by omega), hl, secB_val seed L _ h1 h2]
  unfold secN
  congr 1
theorem flatD_snoc2 (l : List Dg) (a b : Dg) : flatD (l ++ [a, b]) = flatD l ++ (a.bs ++ b.bs) := by simp [flatD]
theorem hbN_ok (seed : Dg) (L : Nat) (h1 : L < 1000000) : ∀ n, n ≤ 32 → (hb n (flatD (pubL seed (L : Int) n))).val = hbN (beVal seed.bs) L n
  | 0, _ => iv_val
  | n + 1, hn => by
    have ih := hbN_ok seed L h1 n (by omega)
    have hpl := pubL_length seed (L : Int) n
    have hfl : (flatD (pubL seed (L : Int) n)).length = 64 * n := by rw [flatD_length, hpl]; omega
    show (hb (n + 1) (flatD (pubL seed (L : Int) n ++ [shutD (secD seed (L : Int) n 0), shutD (secD seed (L : Int) n 1)]))).val = _
    have v0 : beVal (shutD (secD seed (L : Int) n 0)).bs = shutN (secN (beVal seed.bs) L (2 * n)) := by rw [shutD_val, secD_val seed L n 0 h1 (by omega)]; rfl
    have v1 : beVal (shutD (secD seed (L : Int) n 1)).bs = shutN (secN (beVal seed.bs) L (2 * n + 1)) := by rw [shutD_val, secD_val seed L n 1 h1 (by omega)]
    generalize shutD (secD seed (L : Int) n 0) = a at *
    generalize shutD (secD seed (L : Int) n 1) = b at *
    rw [flatD_snoc2]
    generalize flatD (pubL seed (L : Int) n) = x at *
    have ha : a.bs.length = 32 := a.len
    have hb' : b.bs.length = 32 := b.len
    have hz : (a.bs ++ b.bs).length = 64 := by rw [List.length_append, ha, hb']
    have e1 : hb (n + 1) (x ++ (a.bs ++ b.bs)) = comp (hb n x) (a.bs ++ b.bs) := by
      show comp (hb n (x ++ (a.bs ++ b.bs))) (((x ++ (a.bs ++ b.bs)).drop (64 * n)).take 64) = _
      rw [hb_append n x _ (by omega), List.drop_append, hfl, Nat.sub_self, List.drop_zero, List.drop_of_length_le (l := x) (by omega), List.nil_append, List.take_of_length_le (by omega)]
    rw [e1, ← compN_ok (hb n x) _ hz, ih, beVal_append, hb', v0, v1]
    rfl
theorem pubD_val (seed : Dg) (L : Nat) (h1 : L < 1000000) : beVal (pubD seed (L : Int) 32).bs = pubN (beVal seed.bs) L := by
  have hpl := pubL_length seed (L : Int) 32
  have hv := hbN_ok seed L h1 32 (Nat.le_refl _)
  have e0 : pubD seed (L : Int) 32 = sha (flatD (pubL seed (L : Int) 32)) := rfl
  rw [e0]
  have hfl : (flatD (pubL seed (L : Int) 32)).length = 2048 := by rw [flatD_length, hpl]
  generalize flatD (pubL seed (L : Int) 32) = x at *
  obtain ⟨t, ht⟩ : ∃ t : Bytes, t = 128 :: (zeros 55 ++ be8 ((16384 : Nat) : Int)) := ⟨_, rfl⟩
  have htl : t.length = 64 := by rw [ht]; simp
  have htv : beVal t = 128 * 256 ^ 63 + 16384 := by
    rw [ht, beVal_cons, beVal_append, zeros_val, be8_val 16384 (by omega)]
    simp only [List.length_append, zeros_length, be8_length]
    rfl
  have hp : pad x = x ++ t := by
    unfold pad
    rw [hfl, ht]
    rfl
  have hpn : (pad x).length / 64 = 33 := by rw [hp, List.length_append, hfl, htl]
  have e : (sha x).bs = (hb ((pad x).length / 64) (pad x)).bytes := rfl
  rw [e, hpn, hp, St.bytes_val]
  have e1 : hb 33 (x ++ t) = comp (hb 32 x) t := by
    show comp (hb 32 (x ++ t)) (((x ++ t).drop (64 * 32)).take 64) = _
    rw [hb_append 32 x _ (by omega), List.drop_append, hfl, List.drop_of_length_le (l := x) (by omega), List.nil_append]
    show comp (hb 32 x) ((t.drop 0).take 64) = _
    rw [List.drop_zero, List.take_of_length_le (by omega)]
  rw [e1, ← compN_ok (hb 32 x) t htl, hv, htv]
  rfl
theorem pub_differ (s : Dg) (hs : beVal s.bs = 2 ^ 248) : pubD s 0 32 ≠ pubD s 1 32 := by
  intro h
  have h0 := pubD_val s 0 (by omega)
  have h1 := pubD_val s 1 (by omega)
  rw [hs] at h0 h1
  have e : pubN (2 ^ 248) 0 = pubN (2 ^ 248) 1 := by rw [← h0, ← h1]; exact congrArg (fun d => beVal d.bs) h
  have hq := pub_quick
  rw [e] at hq
  have hr : ∀ n : Nat, Nat.beq n n = true := Nat.beq_refl
  rw [hr] at hq
  cases hq
end Go.Proofs.YtmkkfccnacodoaaDoor.WL
