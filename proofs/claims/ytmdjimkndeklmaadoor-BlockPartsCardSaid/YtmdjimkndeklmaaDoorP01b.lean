/-
  CHAPTER 01: what is written is read; readers that have more behind them. Without any program.
-/
import Derived.Test.YtmdjimkndeklmaaDoorP01
import Derived.Test.YtmdjimkndeklmaaDoorM09
namespace Go.Proofs.YtmdjimkndeklmaaDoor.WL
open Go

/-- A number that can be. -/
abbrev W64 (n : Int) : Prop := -9223372036854775808 ≤ n ∧ n < 9223372036854775808
theorem rd_num (pre y : Bytes) (n : Int) (h : W64 n) : (⟨pre, be8 n ++ y, false⟩ : Rd).num = n ∧ (⟨pre, be8 n ++ y, false⟩ : Rd).num' = ⟨pre ++ be8 n, y, false⟩ := by
  unfold Rd.num Rd.num'
  exact ⟨by have := Rd.got_app pre (be8 n) y 8 rfl; simp only [Int.cast_ofNat_Int] at this; rw [this, num_be8 n h], Rd.skip_app pre (be8 n) y 8 rfl⟩
theorem rd_in (pre y : Bytes) (n lo hi : Int) (h : W64 n) (hr : lo ≤ n ∧ n ≤ hi) : (⟨pre, be8 n ++ y, false⟩ : Rd).inn lo hi = n ∧ (⟨pre, be8 n ++ y, false⟩ : Rd).inn' lo hi = ⟨pre ++ be8 n, y, false⟩ := by
  have hk : (⟨pre, be8 n ++ y, false⟩ : Rd).inOk lo hi = true := by simp [Rd.inOk, rd_num pre y n h, hr]
  simp [Rd.inn, Rd.inn', hk, rd_num pre y n h]
theorem rd_in_no (pre y : Bytes) (n lo hi : Int) (h : W64 n) (hr : ¬ (lo ≤ n ∧ n ≤ hi)) : (⟨pre, be8 n ++ y, false⟩ : Rd).inn' lo hi = Rd.fault := by
  have hk : (⟨pre, be8 n ++ y, false⟩ : Rd).inOk lo hi = false := by
    simp only [Rd.inOk, rd_num pre y n h]
    rw [Bool.and_assoc, Bool.and_eq_false_iff]
    right
    simpa using hr
  simp [Rd.inn', hk]
theorem rd_text (pre y s : Bytes) (mx : Int) (h : s.length < 4294967296) (hm : (s.length : Int) ≤ mx) : (⟨pre, txt s ++ y, false⟩ : Rd).text mx = s ∧ (⟨pre, txt s ++ y, false⟩ : Rd).text' mx = ⟨pre ++ txt s, y, false⟩ := by
  have h4 := Rd.got_app pre (be4 s.length) (s ++ y) 4 rfl
  have k4 := Rd.skip_app pre (be4 s.length) (s ++ y) 4 rfl
  simp only [Int.cast_ofNat_Int] at h4 k4
  have hv : (beVal (be4 (s.length : Int)) : Int) = s.length := by rw [beVal_be4]; omega
  have hl : (⟨pre, txt s ++ y, false⟩ : Rd).len mx = (s.length : Nat) := by
    unfold Rd.len txt
    rw [List.append_assoc, h4, hv, if_neg (by omega)]
  unfold Rd.text Rd.text'
  rw [hl]
  unfold txt
  rw [List.append_assoc, k4]
  exact ⟨Rd.got_app _ s y s.length rfl, by have := Rd.skip_app (pre ++ be4 s.length) s y s.length rfl; rw [this, List.append_assoc]⟩
theorem rd_text_no (pre y s : Bytes) (mx : Int) (h : s.length < 4294967296) (hm : mx < (s.length : Int)) : (⟨pre, txt s ++ y, false⟩ : Rd).text' mx = Rd.fault := by
  have h4 := Rd.got_app pre (be4 s.length) (s ++ y) 4 rfl
  simp only [Int.cast_ofNat_Int] at h4
  have hv : (beVal (be4 (s.length : Int)) : Int) = s.length := by rw [beVal_be4]; omega
  have hl : (⟨pre, txt s ++ y, false⟩ : Rd).len mx = -1 := by
    unfold Rd.len txt
    rw [List.append_assoc, h4, hv, if_pos hm]
  unfold Rd.text'
  rw [hl]
  simp [Rd.skip, Rd.ok]
theorem rd_dg (pre y : Bytes) (d : Dg) : (⟨pre, d.bs ++ y, false⟩ : Rd).dg = d ∧ (⟨pre, d.bs ++ y, false⟩ : Rd).dg' = ⟨pre ++ d.bs, y, false⟩ := by
  have h := Rd.got_app pre d.bs y 32 (by simp)
  have k := Rd.skip_app pre d.bs y 32 (by simp)
  simp only [Int.cast_ofNat_Int] at h k
  refine ⟨Dg.ext' ?_, k⟩
  rw [Rd.dg_bs, h]
  simp [zeros]

/-! A reader with more behind it. -/
def Rd.ext (r : Rd) (t : Bytes) : Rd := ⟨r.pre, r.s ++ t, r.bad⟩
@[simp] theorem Rd.ext_bad (r : Rd) (t : Bytes) : (r.ext t).bad = r.bad := rfl
theorem ext_skip {r : Rd} {k : Int} (t : Bytes) (h : (r.skip k).bad = false) : (r.ext t).skip k = (r.skip k).ext t ∧ (r.ext t).got k = r.got k := by
  have hk : r.ok k = true := by
    unfold Rd.skip at h
    split at h
    · rename_i hk; exact hk
    · cases h
  have hk2 : (r.ext t).ok k = true := by
    simp only [Rd.ok, Rd.ext, Bool.and_eq_true, decide_eq_true_eq, List.length_append] at hk ⊢
    exact ⟨hk.1, by omega⟩
  have hle : k.toNat ≤ r.s.length := by
    simp only [Rd.ok, Bool.and_eq_true, decide_eq_true_eq] at hk
    omega
  simp only [Rd.skip, Rd.got, hk, hk2, if_true]
  simp [Rd.ext, List.take_append_of_le_length hle, List.drop_append_of_le_length hle]
theorem ext_num {r : Rd} (t : Bytes) (h : r.num'.bad = false) : (r.ext t).num' = r.num'.ext t ∧ (r.ext t).num = r.num := by
  have := ext_skip t h
  exact ⟨this.1, by unfold Rd.num; rw [this.2]⟩
theorem ext_in {r : Rd} {lo hi : Int} (t : Bytes) (h : (r.inn' lo hi).bad = false) : (r.ext t).inn' lo hi = (r.inn' lo hi).ext t ∧ (r.ext t).inn lo hi = r.inn lo hi := by
  have hk : r.inOk lo hi = true := by
    unfold Rd.inn' at h
    split at h
    · rename_i hk; exact hk
    · cases h
  have hb : r.num'.bad = false := by
    simp only [Rd.inOk, Bool.and_eq_true, Bool.not_eq_true'] at hk
    exact hk.1.1
  have hn := ext_num t hb
  have hk2 : (r.ext t).inOk lo hi = true := by
    unfold Rd.inOk at hk ⊢
    rw [hn.1, hn.2]
    exact hk
  simp only [Rd.inn', Rd.inn, hk, hk2, if_true]
  exact hn
theorem skip_bad_of {r : Rd} {k : Int} (h : (r.skip k).bad = false) : r.bad = false := by
  cases hb : r.bad
  · rfl
  · rw [r.skip_bad k hb] at h; cases h
theorem ext_text {r : Rd} {mx : Int} (t : Bytes) (h : (r.text' mx).bad = false) : (r.ext t).text' mx = (r.text' mx).ext t ∧ (r.ext t).text mx = r.text mx := by
  unfold Rd.text' at h
  have h4 := ext_skip t (skip_bad_of h)
  have hl : (r.ext t).len mx = r.len mx := by unfold Rd.len; rw [h4.2]
  have h5 := ext_skip t h
  unfold Rd.text' Rd.text
  rw [hl, h4.1]
  exact h5
theorem ext_dg {r : Rd} (t : Bytes) (h : r.dg'.bad = false) : (r.ext t).dg' = r.dg'.ext t ∧ (r.ext t).dg = r.dg := by
  have := ext_skip t h
  exact ⟨this.1, Dg.ext' (by rw [Rd.dg_bs, Rd.dg_bs, this.2])⟩

/-! Bytes tell what they are of. -/
theorem be8_app {n m : Int} {x y : Bytes} (hn : W64 n) (hm : W64 m) (h : be8 n ++ x = be8 m ++ y) : n = m ∧ x = y := by
  obtain ⟨h1, h2⟩ := List.append_inj h (by simp)
  refine ⟨?_, h2⟩
  have := num_be8 n hn
  rw [h1, num_be8 m hm] at this
  exact this.symm
theorem txt_app {a b x y : Bytes} (ha : a.length < 4294967296) (hb : b.length < 4294967296) (h : txt a ++ x = txt b ++ y) : a = b ∧ x = y := by
  unfold txt at h
  rw [List.append_assoc, List.append_assoc] at h
  obtain ⟨h1, h2⟩ := List.append_inj h (by simp)
  have hl : a.length = b.length := by
    have e1 := beVal_be4 (a.length : Int)
    have e2 := beVal_be4 (b.length : Int)
    rw [h1] at e1
    omega
  exact List.append_inj h2 hl
theorem dg_app {a b : Dg} {x y : Bytes} (h : a.bs ++ x = b.bs ++ y) : a = b ∧ x = y := by
  obtain ⟨h1, h2⟩ := List.append_inj h (by simp)
  exact ⟨Dg.ext' h1, h2⟩
theorem txts_app : ∀ {as bs : List Bytes} {x y : Bytes}, (∀ a ∈ as, a.length < 4294967296) → (∀ b ∈ bs, b.length < 4294967296) → as.length = bs.length → txts as ++ x = txts bs ++ y → as = bs ∧ x = y
  | [], [], x, y, _, _, _, h => ⟨rfl, by simpa [txts] using h⟩
  | a :: as, b :: bs, x, y, ha, hb, hl, h => by
    have e : ∀ (c : Bytes) (cs : List Bytes), txts (c :: cs) = txt c ++ txts cs := fun _ _ => by simp [txts]
    rw [e, e, List.append_assoc, List.append_assoc] at h
    obtain ⟨rfl, h2⟩ := txt_app (ha a (by simp)) (hb b (by simp)) h
    obtain ⟨rfl, h3⟩ := txts_app (fun c hc => ha c (by simp [hc])) (fun c hc => hb c (by simp [hc])) (by simpa using hl) h2
    exact ⟨rfl, h3⟩
  | [], _ :: _, _, _, _, _, hl, _ => by simp at hl
  | _ :: _, [], _, _, _, _, hl, _ => by simp at hl
end Go.Proofs.YtmdjimkndeklmaaDoor.WL
