/- Texts put together: S02c, S02e, S04a, S03a, S03b, S05c, S13s. -/
import Derived.Test.YtbmdaaehogpeeaaDoorWm8
section
/-
  CHAPTER 02: contracts: Of.
-/
namespace Go.Proofs.YtbmdaaehogpeeaaDoor.WL
open Go
set_option maxHeartbeats 4000000
attribute [local irreducible] comp hb sha

/-- Pieces of bytes. -/
def Bss (ps : List Bytes) : List AV := ps.map fun p => .sl 1 (B p)
@[simp] theorem Bss_length (ss : List Bytes) : (Bss ss).length = ss.length := by simp [Bss]
@[simp] theorem Bss_closed (ss : List Bytes) : closeds (Bss ss) = true := by simp [Bss, closeds_all]
@[simp] theorem Bss_getElem (n : Nat) (a : List Bytes) (h : n < (Bss a).length) : (Bss a)[n] = .sl 1 (B (a[n]'(by simpa using h))) := by simp [Bss]
@[simp] theorem Bss_get (n : Nat) (a : List Bytes) : (Bss a)[n]? = (a[n]?).map fun p => .sl 1 (B p) := by simp [Bss]

theorem U_iv : U iv.list = [AV.v (.int .u32 1779033703), .v (.int .u32 3144134277), .v (.int .u32 1013904242), .v (.int .u32 2773480762), .v (.int .u32 1359893119), .v (.int .u32 2600822924), .v (.int .u32 528734635), .v (.int .u32 1541459225)] := rfl
/-- Bytes laid over others. -/
def over (x p : Bytes) (r : Nat) : Bytes := x.take r ++ p ++ x.drop (r + p.length)
theorem splice_B (x p : Bytes) (r : Nat) : splice (B x) r (B p) = B (over x p r) := by simp [splice, over]
theorem over_length (x p : Bytes) (r : Nat) (h : r + p.length ≤ x.length) : (over x p r).length = x.length := by
  simp only [over, List.length_append, List.length_take, List.length_drop]
  omega
theorem over_take (x p d : Bytes) (r : Nat) (h : r + p.length ≤ x.length) (hd : x.take r = d) : (over x p r).take (r + p.length) = d ++ p := by
  have hl : d.length = r := by rw [← hd, List.length_take]; omega
  rw [over, hd, List.take_append_of_le_length (by rw [List.length_append]; omega)]
  exact List.take_of_length_le (by rw [List.length_append]; omega)

/-- Pieces, one behind the other. -/
def cat (ps : List Bytes) : Bytes := ps.flatten
@[simp] theorem cat_nil : cat [] = [] := rfl
theorem cat_snoc (ps : List Bytes) (j : Nat) (h : j < ps.length) : cat (ps.take (j + 1)) = cat (ps.take j) ++ ps[j] := flat_snoc ps j h
theorem cat_take_le (ps : List Bytes) (j : Nat) : (cat (ps.take j)).length ≤ (cat ps).length := flat_take_le ps j
def i56 (i : Nat) : Int := ((56 + i : Nat) : Int)
theorem i56_eq (i : Nat) : i56 i = 56 + (i : Int) := by simp [i56]
def r1 (i : Nat) : Int := ((i + 1 : Nat) : Int)
theorem r1_eq (i : Nat) : r1 i = (i : Int) + 1 := by simp [r1]
theorem over_mark (x d : Bytes) (r : Nat) (hx : x.length = 64) (hd : d.length = r) (h : x.take r = d) (hr : r < 64) : over (x.set r 128) (zeros (63 - r)) (r + 1) = d ++ 128 :: zeros (63 - r) := by
  have h1 : (x.set r 128).take (r + 1) = d ++ [128] := by
    rw [take_snoc _ _ (by rw [List.length_set]; omega), List.take_set_of_le (Nat.le_refl _), h]
    simp
  rw [over, h1, List.drop_of_length_le (by simp; omega)]
  simp
theorem drop_mark (d : Bytes) (r k : Nat) (hd : d.length = r) (h : r < 64 - k) : (d ++ 128 :: zeros (63 - r)).drop (64 - k) = zeros k := by
  rw [List.drop_append, List.drop_of_length_le (by omega), hd, List.nil_append, show 64 - k - r = (63 - k - r) + 1 by omega, List.drop_succ_cons, zeros_drop]
  congr 1
  omega
theorem take_mark (d : Bytes) (r : Nat) (hd : d.length = r) (h : r < 56) : (d ++ 128 :: zeros (63 - r)).take 56 = d ++ 128 :: zeros (55 - r) := by
  rw [List.take_append, List.take_of_length_le (by omega), hd, show 56 - r = (55 - r) + 1 by omega, List.take_succ_cons, zeros_take]
  congr 3
  omega
theorem bytes_at (e : St) (i : Nat) (h : i < 32) (h2 : i < e.bytes.length := by simp; omega) : e.bytes[i] = (e.list.getD (i / 4) 0 >>> UInt32.ofNat (24 - 8 * (i % 4))).toUInt8 := by
  have z : ∀ x : UInt32, x >>> UInt32.ofNat 0 = x := fun x => by simp
  match i, h, h2 with
  | 0, _, _ => rfl
  | 1, _, _ => rfl
  | 2, _, _ => rfl
  | 3, _, _ => show _ = (e.list.getD 0 0 >>> UInt32.ofNat 0).toUInt8; rw [z]; rfl
  | 4, _, _ => rfl
  | 5, _, _ => rfl
  | 6, _, _ => rfl
  | 7, _, _ => show _ = (e.list.getD 1 0 >>> UInt32.ofNat 0).toUInt8; rw [z]; rfl
  | 8, _, _ => rfl
  | 9, _, _ => rfl
  | 10, _, _ => rfl
  | 11, _, _ => show _ = (e.list.getD 2 0 >>> UInt32.ofNat 0).toUInt8; rw [z]; rfl
  | 12, _, _ => rfl
  | 13, _, _ => rfl
  | 14, _, _ => rfl
  | 15, _, _ => show _ = (e.list.getD 3 0 >>> UInt32.ofNat 0).toUInt8; rw [z]; rfl
  | 16, _, _ => rfl
  | 17, _, _ => rfl
  | 18, _, _ => rfl
  | 19, _, _ => show _ = (e.list.getD 4 0 >>> UInt32.ofNat 0).toUInt8; rw [z]; rfl
  | 20, _, _ => rfl
  | 21, _, _ => rfl
  | 22, _, _ => rfl
  | 23, _, _ => show _ = (e.list.getD 5 0 >>> UInt32.ofNat 0).toUInt8; rw [z]; rfl
  | 24, _, _ => rfl
  | 25, _, _ => rfl
  | 26, _, _ => rfl
  | 27, _, _ => show _ = (e.list.getD 6 0 >>> UInt32.ofNat 0).toUInt8; rw [z]; rfl
  | 28, _, _ => rfl
  | 29, _, _ => rfl
  | 30, _, _ => rfl
  | 31, _, _ => show _ = (e.list.getD 7 0 >>> UInt32.ofNat 0).toUInt8; rw [z]; rfl
  | n + 32, h, _ => exact absurd h (by omega)
theorem of_meets (ps : List Bytes) (hn : ps.length ≤ 1000000) (hl : (cat ps).length ≤ 100000000) : Meets Tryd.prog Gt fn_sha_Of [.sl 1 (Bss ps)] [] true (dv (sha (cat ps))) [] := by
  refine meets_of_go mix k_sha_Of ⟨by simp, by simp, by simp⟩ ?_
  simp
  have h0 : hb 0 [] = iv := by unfold hb; rfl
  refine go_up ps.length (fun j (x : Bytes) => x.length = 64 ∧ x.take (rem (cat (ps.take j))).length = rem (cat (ps.take j))) (fun j x c => ⟨[(2, .ptr 2 c 0), (3, .ptr 3 c 0), (4, .ptr 4 c 0), (5, .v (.int .i64 ((cat (ps.take j)).length : Nat))), (6, .v (.int .i64 ((rem (cat (ps.take j))).length : Nat))), (14, .sl 1 (Bss ps)), (15, .v (.int .i64 (ps.length : Nat))), (16, .v (.int .i64 (j : Nat)))],
    [(2, .var c (.arr 1 (B (zeros 32)))), (3, .var c (.arr 1 (U (hb ((cat (ps.take j)).length / 64) (cat (ps.take j))).list))), (4, .var c (.arr 1 (B x)))], c + 1⟩) (zeros 64) _ (Weak.re (by simp [h0, U_iv, rem])) (by simp [rem]) ?_ ?_
  · intro j x c hj ⟨hx, hr⟩
    have hfs := cat_snoc ps j hj
    have hft := cat_take_le ps (j + 1)
    rw [hfs, List.length_append] at hft
    have hw : IntKind.i64.wrap ((j : Int) + 1) = ((j + 1 : Nat) : Int) := w64_succ (by omega)
    generalize cat (ps.take j) = D at *
    obtain ⟨q, hq⟩ : ∃ q : Nat, q = D.length + ps[j].length := ⟨_, rfl⟩
    have hw2 : IntKind.i64.wrap ((D.length : Nat) + (ps[j].length : Nat)) = (q : Int) := by rw [w64_id (by omega)]; omega
    simp [hj, hw2]
    obtain ⟨p, hp⟩ : ∃ p, ps[j] = p := ⟨_, rfl⟩
    rw [hp] at hq hfs hft ⊢
    refine go_dec p.length (fun m (a : Bytes × Bytes × Bytes) => match a with | (d, p', x) => p'.length = m ∧ d ++ p' = D ++ p ∧ x.length = 64 ∧ x.take (rem d).length = rem d)
      (fun _ a c => ⟨[(2, .ptr 2 c 0), (3, .ptr 3 c 0), (4, .ptr 4 c 0), (5, .v (.int .i64 (q : Nat))), (6, .v (.int .i64 ((rem a.1).length : Nat))), (8, .sl 1 (B a.2.1)), (14, .sl 1 (Bss ps)), (15, .v (.int .i64 (ps.length : Nat))), (16, .v (.int .i64 (j : Nat)))],
        [(2, .var c (.arr 1 (B (zeros 32)))), (3, .var c (.arr 1 (U (hb (a.1.length / 64) a.1).list))), (4, .var c (.arr 1 (B a.2.2)))], c + 1⟩) (D, p, x) _ (Weak.re (by simp)) ⟨rfl, rfl, hx, hr⟩ ?_
    rintro m ⟨d, p', x'⟩ c' ⟨rfl, hd, hx', hr'⟩
    have hrl : (rem d).length < 64 := by rw [rem_length]; omega
    by_cases hz : p' = []
    · subst hz
      simp [hw]
      have hd' : d = D ++ p := by simpa using hd
      subst hd'
      exact ⟨x', _, Weak.re (by simp [hfs, hq]), ⟨hx', by rw [hfs]; exact hr'⟩⟩
    · have hpl : 0 < p'.length := List.length_pos_iff.2 hz
      obtain ⟨r, hre⟩ : ∃ r, (rem d).length = r := ⟨_, rfl⟩
      obtain ⟨k, hk⟩ : ∃ k, k = min p'.length (64 - r) := ⟨_, rfl⟩
      obtain ⟨t, ht⟩ : ∃ t, t = r + k := ⟨_, rfl⟩
      have hw3 : IntKind.i64.wrap ((r : Nat) + (k : Nat)) = (t : Int) := by rw [w64_id (by omega)]; omega
      have hr64 : (r : Int) ≤ 64 := by omega
      have hr64n : r ≤ 64 := by omega
      have hkl : (List.take k p').length = k := by rw [List.length_take]; omega
      have hrk : r + k ≤ 64 := by omega
      have hkp : (k : Int) ≤ p'.length := by omega
      have hkr : k ≤ 64 - r := by omega
      have hkpn : k ≤ p'.length := by omega
      have hfull := hb_full d (List.take k p')
      have hmore := hb_more d (List.take k p')
      rw [hkl, hre] at hfull hmore
      have hol := over_length x' (List.take k p') r (by omega)
      have hot := over_take x' (List.take k p') (rem d) r (by omega) (by rw [← hre]; exact hr')
      rw [hkl, ← ht] at hot
      obtain ⟨y, hy⟩ : ∃ y, over x' (List.take k p') r = y := ⟨_, rfl⟩
      rw [hy] at hol hot
      have hdd : (d ++ List.take k p') ++ List.drop k p' = D ++ p := by rw [List.append_assoc, List.take_append_drop]; exact hd
      obtain ⟨e, he⟩ : ∃ e, d ++ List.take k p' = e := ⟨_, rfl⟩
      rw [he] at hfull hmore hdd
      have hdl : (List.drop k p').length < p'.length := by rw [List.length_drop]; omega
      have hpd : List.take p'.length p' = p' := by simp
      have hyl : y.length = 64 := hol.trans hx'
      by_cases h64 : t = 64
      · have hyy : y = rem d ++ List.take k p' := by rw [← hot]; exact (List.take_of_length_le (by omega)).symm
        obtain ⟨f1, f2, f3⟩ := hfull (by omega)
        have hbk := block_meets (hb (d.length / 64) d) y hyl
        rw [← hyy] at f3
        rw [← f3] at hbk
        have hy64 : List.take 64 y = y := List.take_of_length_le (by omega)
        have h64' : (t : Int) = 64 := by omega
        simp [hpl, hre, hx', hr64, hr64n, ← hk, hkl, hrk, hkp, hkr, hkpn, hw3, splice_B, h64', hpd, hy]
        refine call_intro hbk ?_ ?_
        · simp [stM, St.av, hyl, hy64]
        simp [stM, St.av]
        exact ⟨_, (e, List.drop k p', y), _, hdl, Weak.re (by simp [f2]), rfl, hdd, hyl, by rw [f2]; rfl⟩
      · have h64' : ¬ (t : Int) = 64 := by omega
        obtain ⟨f1, f2, f3⟩ := hmore (by omega)
        have hrem : (rem e).length = t := by rw [f2, List.length_append, hkl, hre, ht]
        simp [hpl, hre, hx', hr64, hr64n, ← hk, hkl, hrk, hkp, hkr, hkpn, hw3, splice_B, h64', hpd, hy]
        exact ⟨_, (e, List.drop k p', y), _, hdl, Weak.re (by simp [hrem, f3]), rfl, hdd, hyl, by rw [hrem, f2]; exact hot⟩
  · intro x c ⟨hx, hr⟩
    simp only [List.take_length] at hr ⊢
    obtain ⟨r, hre⟩ : ∃ r, (rem (cat ps)).length = r := ⟨_, rfl⟩
    have hrm := rem_length (cat ps)
    have hr64 : r < 64 := by rw [← hre, hrm]; omega
    have hri : (r : Int) < 64 := by omega
    have hw1 : IntKind.i64.wrap ((r : Int) + 1) = r1 r := by rw [r1_eq]; exact w64_id (by omega)
    have b0 : 0 ≤ r1 r ∧ r1 r ≤ 64 ∧ (r1 r).toNat = r + 1 ∧ r + 1 ≤ 64 := by rw [r1_eq]; omega
    rw [hre] at hr
    have hz : over (x.set r 128) (zeros (63 - r)) (r + 1) = rem (cat ps) ++ 128 :: zeros (63 - r) := over_mark x (rem (cat ps)) r hx hre hr hr64
    have hol : (over (x.set r 128) (zeros (63 - r)) (r + 1)).length = 64 := by rw [hz]; simp [hre]; omega
    obtain ⟨y0, hy0⟩ : ∃ y0, over (x.set r 128) (zeros (63 - r)) (r + 1) = y0 := ⟨_, rfl⟩
    rw [hy0] at hz hol
    have h63 : 64 - (r + 1) = 63 - r := by omega
    have hle : r + 1 + (63 - r) ≤ 64 := by omega
    by_cases h56 : r < 56
    · have h56i : ¬ (56 : Int) ≤ (r : Int) := by omega
      have hsha := sha_small (cat ps) (by omega)
      rw [← hrm, hre] at hsha
      have hy56 : y0.drop 56 = zeros 8 := by rw [hz]; exact drop_mark _ r 8 hre (by omega)
      have hyt : rem (cat ps) ++ 128 :: (zeros (55 - r) ++ be8 (8 * (cat ps).length : Nat)) = y0.take 56 ++ be8 (8 * (cat ps).length : Nat) := by
        rw [hz, take_mark _ r hre (by omega)]
        simp
      rw [hyt] at hsha
      simp [hre, hri, hr64, hx, hw1, b0, h63, hle, bv_lit 128 (by decide), show u8 128 = 128 by decide, B_set, splice_B, hy0, h56i]
      generalize hb ((cat ps).length / 64) (cat ps) = h at *
      obtain ⟨y, hyy⟩ : ∃ y, y = y0 := ⟨_, rfl⟩
      subst hyy
      have hyl := hol

      refine go_up 8 (fun i (z : Bytes) => z = y.take 56 ++ ((be8 (8 * (cat ps).length : Nat)).take i ++ zeros (8 - i))) (fun i z c => ⟨[(2, .ptr 2 c 0), (3, .ptr 3 c 0), (4, .ptr 4 c 0), (5, .v (.int .i64 ((cat ps).length : Nat))), (52, .v (.int .i64 (i : Nat)))],
        [(2, .var c (.arr 1 (B (zeros 32)))), (3, .var c (.arr 1 (U h.list))), (4, .var c (.arr 1 (B z)))], c + 1⟩) y _ (Weak.re (by simp )) (by simp; exact (List.take_append_drop 56 y).symm.trans (by rw [hy56])) ?_ ?_
      · intro i z c hi hz
        have hw : IntKind.i64.wrap ((i : Int) + 1) = ((i + 1 : Nat) : Int) := w64_succ (by omega)
        have hi8 : (i : Int) < 8 := by omega
        have a1 : IntKind.i64.wrap (56 + (i : Int)) = i56 i := by rw [i56_eq]; exact w64_id (by omega)
        have a2 : IntKind.i64.wrap (8 * (i : Int)) = 8 * (i : Int) := w64_id (by omega)
        have a3 : IntKind.i64.wrap (56 - 8 * (i : Int)) = ((56 - 8 * i : Nat) : Int) := by rw [w64_id (by omega)]; omega
        obtain ⟨s, hs⟩ : ∃ s : Nat, s = 56 - 8 * i := ⟨_, rfl⟩
        rw [← hs] at a3
        have a4 : min s 64 = s := by omega
        have a5 : IntKind.u64.wrap (((cat ps).length : Nat) : Int) = ((cat ps).length : Nat) := u64_id (by omega)
        have a6 : IntKind.u64.wrap ((((cat ps).length : Nat) : Int) * 8) = ((8 * (cat ps).length : Nat) : Int) := by rw [u64_id (by omega)]; omega
        obtain ⟨N, hN⟩ : ∃ N : Nat, N = 8 * (cat ps).length := ⟨_, rfl⟩
        rw [← hN] at a6 hz ⊢
        have b1 : i56 i < 64 ∧ 0 ≤ i56 i ∧ (i56 i).toNat = 56 + i := by rw [i56_eq]; omega
        have hzl : z.length = 64 := by rw [hz]; simp; omega
        have hn64 : 56 + i < 64 := by omega
        have hset : z.set (56 + i) (u8 ((N : Int).fdiv (2 ^ s))) = y.take 56 ++ ((be8 (N : Nat)).take (i + 1) ++ zeros (8 - (i + 1))) := by
          have k1 := fill_zeros (be8 (N : Nat)) 8 i (by simp; omega) (by simp)
          have k2 := be8_get (N : Nat) i hi
          rw [List.getElem?_eq_getElem (by simp; omega)] at k2
          have k3 := Option.some.inj k2
          rw [k3] at k1
          rw [hz, List.set_append_right _ _ (by simp; omega), show 56 + i - (List.take 56 y).length = i by simp; omega, Int.fdiv_eq_ediv_of_nonneg _ (Int.le_of_lt (Int.pow_pos (by decide))), hs, k1]
        simp [hi8, a1, a2, a3, a4, a5, a6, b1, hzl, hn64, bv_u8, B_set, hw]
        exact ⟨_, _, Weak.re (by simp), hset⟩
      · intro z c hz
        have hz' : z = y.take 56 ++ be8 (8 * (cat ps).length : Nat) := by rw [hz, List.take_of_length_le (l := be8 _) (by simp)]; simp [zeros]
        have hzl : z.length = 64 := by rw [hz']; simp; omega
        rw [← hz'] at hsha
        have hz64 : List.take 64 z = z := List.take_of_length_le (by omega)
        have hbk := block_meets h z hzl
        simp
        refine call_intro hbk ?_ ?_
        · simp [stM, St.av, hzl, hz64]
        have hlen : (comp h z).list.length = 8 := rfl
        generalize comp h z = e at *
        simp [stM, St.av]
        refine go_up 32 (fun i (o : Bytes) => o = e.bytes.take i ++ zeros (32 - i)) (fun i o c => ⟨[(2, .ptr 2 c 0), (3, .ptr 3 c 0), (11, .ptr 11 c 0), (69, .v (.int .i64 (i : Nat)))],
          [(2, .var c (.arr 1 (B (zeros 32)))), (3, .var c (.arr 1 (U e.list))), (11, .var c (.arr 1 (B o)))], c + 1⟩) (zeros 32) _ (Weak.re (by simp)) (by simp) ?_ ?_
        · intro i o c hi ho
          have hw : IntKind.i64.wrap ((i : Int) + 1) = ((i + 1 : Nat) : Int) := w64_succ (by omega)
          have hi32 : (i : Int) < 32 := by omega
          have a1 : IntKind.i64.wrap ((i : Int) / (4 : Int)) = ((i / 4 : Nat) : Int) := by rw [w64_id (by omega)]; omega
          have a2 : (i : Int).tmod 4 = ((i % 4 : Nat) : Int) := rfl
          have a3 : IntKind.i64.wrap (8 * ((i % 4 : Nat) : Int)) = 8 * ((i % 4 : Nat) : Int) := w64_id (by omega)
          have a4 : IntKind.i64.wrap (24 - 8 * ((i % 4 : Nat) : Int)) = ((24 - 8 * (i % 4) : Nat) : Int) := by rw [w64_id (by omega)]; omega
          obtain ⟨k, hk⟩ : ∃ k : Nat, k = i / 4 := ⟨_, rfl⟩
          obtain ⟨m, hm⟩ : ∃ m : Nat, m = i % 4 := ⟨_, rfl⟩
          obtain ⟨s, hs⟩ : ∃ s : Nat, s = 24 - 8 * m := ⟨_, rfl⟩
          rw [← hk] at a1
          rw [← hm] at a2 a3 a4
          rw [← hs] at a4
          have b1 : (k : Int) < 8 ∧ k < 8 ∧ min s 32 = s := by omega
          have hol : o.length = 32 := by rw [ho]; simp; omega
          have g1 := getD_get e.list k (by omega)
          have e1 := (List.getElem?_eq_some_iff.1 g1).2
          have hsh := u32_shr (e.list.getD k 0) s (by omega)
          have hset : o.set i ((e.list.getD k 0 >>> UInt32.ofNat s).toUInt8) = e.bytes.take (i + 1) ++ zeros (32 - (i + 1)) := by
            have k1 := fill_zeros e.bytes 32 i (by simp; omega) (by simp)
            rw [bytes_at e i hi, ← hk, ← hm, ← hs] at k1
            rw [ho, k1]
          generalize e.list.getD k 0 = wk at *
          simp [hi32, a1, a2, a3, a4, b1, hlen, g1, e1, hsh, bv_u8, u8_word, B_set, hol, hi, hw]
          exact ⟨_, _, Weak.re (by simp), hset⟩
        · intro o c ho
          have ho' : o = (sha (cat ps)).bs := by rw [ho, hsha, List.take_of_length_le (by simp)]; simp [zeros]
          subst ho'
          simp
          refine post_end (.inr rfl) ?_
          simp
    · have h56i : (56 : Int) ≤ (r : Int) := by omega
      have hsha := sha_great (cat ps) (by omega)
      rw [← hrm, hre, ← hz] at hsha
      have hbk := block_meets (hb ((cat ps).length / 64) (cat ps)) y0 hol
      have hy64 : List.take 64 y0 = y0 := List.take_of_length_le (by omega)
      have hov : over y0 (zeros 64) 0 = zeros 64 := by simp [over, hol]
      simp [hre, hri, hr64, hx, hw1, b0, h63, hle, bv_lit 128 (by decide), show u8 128 = 128 by decide, B_set, splice_B, hy0, h56i]
      refine call_intro hbk ?_ ?_
      · simp [stM, St.av, hol, hy64]
      generalize comp (hb ((cat ps).length / 64) (cat ps)) y0 = h at *
      simp [stM, St.av, hol, splice_B, hov]
      obtain ⟨y, hyy⟩ : ∃ y, y = zeros 64 := ⟨_, rfl⟩
      have hy56 : y.drop 56 = zeros 8 := by rw [hyy]; simp
      have hyt : zeros 56 = y.take 56 := by rw [hyy]; simp
      rw [hyt] at hsha
      have hyl : y.length = 64 := by rw [hyy]; simp
      rw [← hyy]

      refine go_up 8 (fun i (z : Bytes) => z = y.take 56 ++ ((be8 (8 * (cat ps).length : Nat)).take i ++ zeros (8 - i))) (fun i z c => ⟨[(2, .ptr 2 c 0), (3, .ptr 3 c 0), (4, .ptr 4 c 0), (5, .v (.int .i64 ((cat ps).length : Nat))), (52, .v (.int .i64 (i : Nat)))],
        [(2, .var c (.arr 1 (B (zeros 32)))), (3, .var c (.arr 1 (U h.list))), (4, .var c (.arr 1 (B z)))], c + 1⟩) y _ (Weak.re (by simp )) (by simp; exact (List.take_append_drop 56 y).symm.trans (by rw [hy56])) ?_ ?_
      · intro i z c hi hz
        have hw : IntKind.i64.wrap ((i : Int) + 1) = ((i + 1 : Nat) : Int) := w64_succ (by omega)
        have hi8 : (i : Int) < 8 := by omega
        have a1 : IntKind.i64.wrap (56 + (i : Int)) = i56 i := by rw [i56_eq]; exact w64_id (by omega)
        have a2 : IntKind.i64.wrap (8 * (i : Int)) = 8 * (i : Int) := w64_id (by omega)
        have a3 : IntKind.i64.wrap (56 - 8 * (i : Int)) = ((56 - 8 * i : Nat) : Int) := by rw [w64_id (by omega)]; omega
        obtain ⟨s, hs⟩ : ∃ s : Nat, s = 56 - 8 * i := ⟨_, rfl⟩
        rw [← hs] at a3
        have a4 : min s 64 = s := by omega
        have a5 : IntKind.u64.wrap (((cat ps).length : Nat) : Int) = ((cat ps).length : Nat) := u64_id (by omega)
        have a6 : IntKind.u64.wrap ((((cat ps).length : Nat) : Int) * 8) = ((8 * (cat ps).length : Nat) : Int) := by rw [u64_id (by omega)]; omega
        obtain ⟨N, hN⟩ : ∃ N : Nat, N = 8 * (cat ps).length := ⟨_, rfl⟩
        rw [← hN] at a6 hz ⊢
        have b1 : i56 i < 64 ∧ 0 ≤ i56 i ∧ (i56 i).toNat = 56 + i := by rw [i56_eq]; omega
        have hzl : z.length = 64 := by rw [hz]; simp; omega
        have hn64 : 56 + i < 64 := by omega
        have hset : z.set (56 + i) (u8 ((N : Int).fdiv (2 ^ s))) = y.take 56 ++ ((be8 (N : Nat)).take (i + 1) ++ zeros (8 - (i + 1))) := by
          have k1 := fill_zeros (be8 (N : Nat)) 8 i (by simp; omega) (by simp)
          have k2 := be8_get (N : Nat) i hi
          rw [List.getElem?_eq_getElem (by simp; omega)] at k2
          have k3 := Option.some.inj k2
          rw [k3] at k1
          rw [hz, List.set_append_right _ _ (by simp; omega), show 56 + i - (List.take 56 y).length = i by simp; omega, Int.fdiv_eq_ediv_of_nonneg _ (Int.le_of_lt (Int.pow_pos (by decide))), hs, k1]
        simp [hi8, a1, a2, a3, a4, a5, a6, b1, hzl, hn64, bv_u8, B_set, hw]
        exact ⟨_, _, Weak.re (by simp), hset⟩
      · intro z c hz
        have hz' : z = y.take 56 ++ be8 (8 * (cat ps).length : Nat) := by rw [hz, List.take_of_length_le (l := be8 _) (by simp)]; simp [zeros]
        have hzl : z.length = 64 := by rw [hz']; simp; omega
        rw [← hz'] at hsha
        have hz64 : List.take 64 z = z := List.take_of_length_le (by omega)
        have hbk := block_meets h z hzl
        simp
        refine call_intro hbk ?_ ?_
        · simp [stM, St.av, hzl, hz64]
        have hlen : (comp h z).list.length = 8 := rfl
        generalize comp h z = e at *
        simp [stM, St.av]
        refine go_up 32 (fun i (o : Bytes) => o = e.bytes.take i ++ zeros (32 - i)) (fun i o c => ⟨[(2, .ptr 2 c 0), (3, .ptr 3 c 0), (11, .ptr 11 c 0), (69, .v (.int .i64 (i : Nat)))],
          [(2, .var c (.arr 1 (B (zeros 32)))), (3, .var c (.arr 1 (U e.list))), (11, .var c (.arr 1 (B o)))], c + 1⟩) (zeros 32) _ (Weak.re (by simp)) (by simp) ?_ ?_
        · intro i o c hi ho
          have hw : IntKind.i64.wrap ((i : Int) + 1) = ((i + 1 : Nat) : Int) := w64_succ (by omega)
          have hi32 : (i : Int) < 32 := by omega
          have a1 : IntKind.i64.wrap ((i : Int) / (4 : Int)) = ((i / 4 : Nat) : Int) := by rw [w64_id (by omega)]; omega
          have a2 : (i : Int).tmod 4 = ((i % 4 : Nat) : Int) := rfl
          have a3 : IntKind.i64.wrap (8 * ((i % 4 : Nat) : Int)) = 8 * ((i % 4 : Nat) : Int) := w64_id (by omega)
          have a4 : IntKind.i64.wrap (24 - 8 * ((i % 4 : Nat) : Int)) = ((24 - 8 * (i % 4) : Nat) : Int) := by rw [w64_id (by omega)]; omega
          obtain ⟨k, hk⟩ : ∃ k : Nat, k = i / 4 := ⟨_, rfl⟩
          obtain ⟨m, hm⟩ : ∃ m : Nat, m = i % 4 := ⟨_, rfl⟩
          obtain ⟨s, hs⟩ : ∃ s : Nat, s = 24 - 8 * m := ⟨_, rfl⟩
          rw [← hk] at a1
          rw [← hm] at a2 a3 a4
          rw [← hs] at a4
          have b1 : (k : Int) < 8 ∧ k < 8 ∧ min s 32 = s := by omega
          have hol : o.length = 32 := by rw [ho]; simp; omega
          have g1 := getD_get e.list k (by omega)
          have e1 := (List.getElem?_eq_some_iff.1 g1).2
          have hsh := u32_shr (e.list.getD k 0) s (by omega)
          have hset : o.set i ((e.list.getD k 0 >>> UInt32.ofNat s).toUInt8) = e.bytes.take (i + 1) ++ zeros (32 - (i + 1)) := by
            have k1 := fill_zeros e.bytes 32 i (by simp; omega) (by simp)
            rw [bytes_at e i hi, ← hk, ← hm, ← hs] at k1
            rw [ho, k1]
          generalize e.list.getD k 0 = wk at *
          simp [hi32, a1, a2, a3, a4, b1, hlen, g1, e1, hsh, bv_u8, u8_word, B_set, hol, hi, hw]
          exact ⟨_, _, Weak.re (by simp), hset⟩
        · intro o c ho
          have ho' : o = (sha (cat ps)).bs := by rw [ho, hsha, List.take_of_length_le (by simp)]; simp [zeros]
          subst ho'
          simp
          refine post_end (.inr rfl) ?_
          simp
end Go.Proofs.YtbmdaaehogpeeaaDoor.WL

end
section
/-
  CHAPTER 02: contracts: a pair, the reference's numbers and padding.
-/
namespace Go.Proofs.YtbmdaaehogpeeaaDoor.WL
open Go
set_option maxHeartbeats 4000000
attribute [local irreducible] comp hb sha

theorem B_one (m : UInt8) : B [m] = [bv m] := rfl
theorem pair_meets (m : UInt8) (a b : Dg) : Meets Tryd.prog Gt fn_sha_Pair [bv m, dv a, dv b] [] true (dv (sha (m :: (a.bs ++ b.bs)))) [] := by
  refine meets_of_go mix k_sha_Pair ⟨by simp, by simp, by simp⟩ ?_
  have h := of_meets [[m], a.bs, b.bs] (by simp) (by simp [cat])
  have e : cat [[m], a.bs, b.bs] = m :: (a.bs ++ b.bs) := by simp [cat]
  have ta : List.take 32 a.bs = a.bs := List.take_of_length_le (by simp)
  have tb : List.take 32 b.bs = b.bs := List.take_of_length_le (by simp)
  rw [e] at h
  simp [dv]
  refine call_intro h ?_ ?_
  · simp [Bss, B_one, ta, tb]
  simp [dv]
  refine post_end (.inr rfl) ?_
  simp [dv]
end Go.Proofs.YtbmdaaehogpeeaaDoor.WL

end
section
/-
  CHAPTER 04: contracts of the program.
-/
namespace Go.Proofs.YtbmdaaehogpeeaaDoor.WL
open Go
set_option maxHeartbeats 4000000
attribute [local irreducible] comp hb sha leafD pairD secD shutD bitD wholeD pubD ofD

@[simp] theorem le_max16 : 16 ≤ maxLen := by decide
end Go.Proofs.YtbmdaaehogpeeaaDoor.WL

end
section
/-
  CHAPTER 03: contracts of the program.
-/
namespace Go.Proofs.YtbmdaaehogpeeaaDoor.WL
open Go
set_option maxHeartbeats 4000000
attribute [local irreducible] comp hb sha leafD pairD

theorem pair1_meets (a b : Dg) : Meets Tryd.prog Gt fn_sha_Pair [.v (.int .u8 1), dv a, dv b] [] true (dv (pairD a b)) [] := by
  unfold pairD
  exact pair_meets 1 a b

theorem leaf_meets (b : Bytes) (h : b.length ≤ 1000000) : Meets Tryd.prog Gt fn_tree_Leaf [.sl 1 (B b)] [] true (dv (leafD b)) [] := by
  refine meets_of_go mix k_tree_Leaf ⟨by simp, by simp, by simp⟩ ?_
  have e : cat [[0], b] = 0 :: b := by simp [cat]
  have h1 := of_meets [[0], b] (by simp) (by rw [e, List.length_cons]; omega)
  rw [e] at h1
  have e2 : sha (0 :: b) = leafD b := by unfold leafD; rfl
  rw [e2] at h1
  simp
  refine call_intro h1 ?_ ?_
  · simp [Bss, B_one]
  simp
  refine post_end (.inr rfl) ?_
  simp

theorem up_meets (ds : List Dg) (h0 : ds ≠ []) (hn : ds.length ≤ 1000000) :
    Meets Tryd.prog Gt fn_tree_up [.sl 32 (Dgs ds)] [] true (.row 1000 32 1 0 (upD ds).length) [(1000, .rows 1 32 (Dgs (upD ds)))] := by
  refine meets_of_go mix k_tree_up ⟨by simp, by simp, by simp⟩ ?_
  simp
  have hl := upD_length ds
  have hl0 : 0 < ds.length := List.length_pos_iff.2 h0
  refine go_up (ds.length / 2) (fun j (x : List Dg) => x = (upD ds).take j ∧ x.length = j) (fun j x c => ⟨[(0, .sl 32 (Dgs ds)), (3, .row 3 32 c 0 j), (4, .v (.int .i64 ((2 * j : Nat) : Int)))], [(3, .rows c 32 (Dgs x))], c + 1⟩) [] _ (Weak.re (by simp)) (by simp) ?_ ?_
  · rintro j x c hj ⟨hx, hxl⟩
    obtain ⟨q, hq⟩ : ∃ q : Nat, q = 2 * j := ⟨_, rfl⟩
    have hq2 : q < ds.length ∧ q + 1 < ds.length := by omega
    have c1 : (q : Int) < (ds.length : Nat) := by omega
    have c2 : IntKind.i64.wrap ((q : Int) + 1) = ((q + 1 : Nat) : Int) := w64_succ (by omega)
    have c3 : IntKind.i64.wrap ((q : Int) + 2) = ((q + 2 : Nat) : Int) := by rw [w64_id (by omega)]; omega
    have c4 : ¬ ((q + 1 : Nat) : Int) = (ds.length : Nat) := by omega
    have f1 : fitsB (j + 1) 32 := fits (by omega) (by omega)
    have hp := upD_pair ds j (by omega)
    rw [← hx] at hp
    have e1 : ds[2 * j]'(by omega) = ds[q]'hq2.1 := by simp [hq]
    have e2 : ds[2 * j + 1]'(by omega) = ds[q + 1]'hq2.2 := by simp [hq]
    rw [e1, e2] at hp
    rw [← hq]
    obtain ⟨q1, hq1⟩ : ∃ q1 : Nat, q1 = q + 1 := ⟨_, rfl⟩
    have hq3 : q1 < ds.length := by omega
    have e3 : ds[q + 1]'hq2.2 = ds[q1]'hq3 := by simp [hq1]
    rw [e3] at hp
    rw [← hq1] at c2 c4
    have c5 : ¬ ((q1 : Int) = (ds.length : Nat)) := by omega
    simp [c1, c2, c4, c5, hq2, hq3]
    refine call_intro (pair1_meets ds[q] ds[q1]) ?_ ?_
    · simp
    simp [f1, hxl, c3]
    exact ⟨x ++ [pairD ds[q] ds[q1]], _, Weak.re (by simp [Dgs_snoc, hxl]; omega), hp.symm, by simp [hxl]⟩
  · rintro x c ⟨hx, hxl⟩
    obtain ⟨j, hj⟩ : ∃ j : Nat, j = ds.length / 2 := ⟨_, rfl⟩
    rw [← hj] at hx hxl ⊢
    obtain ⟨q, hq⟩ : ∃ q : Nat, q = 2 * j := ⟨_, rfl⟩
    rw [← hq]
    by_cases ho : q + 1 = ds.length
    · have hq2 : q < ds.length := by omega
      have c1 : (q : Int) < (ds.length : Nat) := by omega
      have c2 : IntKind.i64.wrap ((q : Int) + 1) = (ds.length : Nat) := by rw [w64_id (by omega)]; omega
      have f1 : fitsB (j + 1) 32 := fits (by omega) (by omega)
      have hp := upD_one ds j (by omega)
      rw [← hx] at hp
      have e1 : ds[2 * j]'(by omega) = ds[q]'hq2 := by simp [hq]
      rw [e1, List.take_of_length_le (by omega)] at hp
      simp [c1, c2, hq2, f1, hxl]
      refine post_end (.inr rfl) ?_
      simp [hp, Dgs_snoc, hxl]
    · have c1 : ¬ (q : Int) < (ds.length : Nat) := by omega
      have hp : x = upD ds := by rw [hx, upD_all ds j (by omega)]
      subst hp
      simp [c1, hxl]
      refine post_end (.inr rfl) ?_
      simp [hxl]

theorem root_meets (ds : List Dg) (hn : ds.length ≤ 1000000) : Meets Tryd.prog Gt fn_tree_Root [.sl 32 (Dgs ds)] [] true (dv (rootD ds)) [] := by
  refine meets_of_go mix k_tree_Root ⟨by simp, by simp, by simp⟩ ?_
  by_cases h0 : ds = []
  · subst h0
    have h1 := of_meets [] (by simp) (by simp)
    rw [cat_nil] at h1
    rw [rootD_nil]
    simp
    refine call_intro h1 ?_ ?_
    · simp [Bss]
    simp
    refine post_end (.inr rfl) ?_
    simp
  · have hl0 : 0 < ds.length := List.length_pos_iff.2 h0
    have f1 : fitsB ds.length 32 := fits (by omega) (by omega)
    have n0 : ¬ ds.length = 0 := by omega
    simp [n0, h0, f1]
    refine go_wh (fun l : List Dg => l.length) (fun l => 0 < l.length ∧ l.length ≤ 1000000 ∧ rootD l = rootD ds) (fun l c => ⟨[(2, .ptr 2 c 0), (3, .row 3 32 c 0 l.length)], [(2, .var c (dv Dg.zero)), (3, .rows c 32 (Dgs l))], c + 1⟩) ds _ (Weak.re (by simp)) ⟨hl0, hn, rfl⟩ ?_
    rintro l c ⟨hl, hln, hr⟩
    by_cases h1 : 1 < l.length
    · have c1 : (1 : Int) < (l.length : Nat) := by omega
      simp [c1, h1]
      refine call_intro (up_meets l (List.length_pos_iff.1 hl) hln) ?_ ?_
      · simp
      simp
      exact ⟨upD l, _, Weak.re (by simp), ⟨by rw [upD_length]; omega, by rw [upD_length]; omega, by rw [← rootD_up l h1]; exact hr⟩, by show (upD l).length < l.length; rw [upD_length]; omega⟩
    · have c1 : ¬ (1 : Int) < (l.length : Nat) := by omega
      obtain ⟨a, rfl⟩ : ∃ a, l = [a] := by
        match l, hl, h1 with
        | [a], _, _ => exact ⟨a, rfl⟩
        | a :: b :: r, _, h => simp only [List.length_cons] at h; omega
      rw [rootD_one] at hr
      subst hr
      simp [c1, h1, Dgs_one]
      refine post_end (.inr rfl) ?_
      simp
end Go.Proofs.YtbmdaaehogpeeaaDoor.WL

end
section
/-
  CHAPTER 03: contracts of the program: paths.
-/
namespace Go.Proofs.YtbmdaaehogpeeaaDoor.WL
open Go
set_option maxHeartbeats 4000000
attribute [local irreducible] comp hb sha leafD pairD

theorem pathP_meets (ds : List Dg) (at_ : Nat) (h : at_ < ds.length) (hn : ds.length ≤ 1000000) :
    Meets Tryd.prog Gt fn_tree_Path [.v (.int .i64 (at_ : Nat)), .sl 32 (Dgs ds)] [] true (.tup [.row 1000 32 1 0 (pathD ds at_).length, .v (.bool true)]) [(1000, .rows 1 32 (Dgs (pathD ds at_)))] := by
  refine meets_of_go mix k_tree_Path ⟨by simp, by simp, by simp⟩ ?_
  have c0 : ¬ (at_ : Int) < 0 := by omega
  have c1 : ¬ (ds.length : Int) ≤ (at_ : Nat) := by omega
  have f1 : fitsB ds.length 32 := fits (by omega) (by omega)
  have c2 : ¬ ds.length ≤ at_ := by omega
  simp [c0, c1, c2, f1]
  refine go_wh (fun a : List Dg × Nat × List Dg => a.1.length) (fun a => a.2.1 < a.1.length ∧ a.1.length ≤ 1000000 ∧ a.2.2.length + a.1.length ≤ 2000000 ∧ a.2.2 ++ pathD a.1 a.2.1 = pathD ds at_)
    (fun a c => ⟨[(0, .v (.int .i64 (a.2.1 : Nat))), (6, .row 6 32 c 0 a.2.2.length), (7, .row 7 32 c 0 a.1.length)], [(6, .rows c 32 (Dgs a.2.2)), (7, .rows c 32 (Dgs a.1))], c + 1⟩) (ds, at_, []) _ (Weak.re (by simp)) ⟨h, hn, by simp; omega, by simp⟩ ?_
  rintro ⟨l, i, acc⟩ c ⟨hi, hln, hac, hp⟩
  simp only at hi hln hac hp
  by_cases h1 : 1 < l.length
  · have c3 : (1 : Int) < (l.length : Nat) := by omega
    have hx := xor_sib i (by omega)
    have hd : Int.tdiv (i : Int) 2 = ((i / 2 : Nat) : Int) := by rw [Int.tdiv_eq_ediv_of_nonneg (by omega)]; omega
    have hw : IntKind.i64.wrap ((i / 2 : Nat) : Int) = ((i / 2 : Nat) : Int) := w64_id (by omega)
    have hw2 : IntKind.i64.wrap ((i : Int) / 2) = (i : Int) / 2 := w64_id (by omega)
    rw [pathD_up l i h1] at hp
    have hul := upD_length l
    obtain ⟨s, hs⟩ : ∃ s, sib i = s := ⟨_, rfl⟩
    rw [hs] at hx hp
    by_cases h2 : s < l.length
    · have c4 : (s : Int) < (l.length : Nat) := by omega
      have f2 : fitsB (acc.length + 1) 32 := fits (by omega) (by omega)
      have hg : (l[s]?).toList = [l[s]] := by rw [List.getElem?_eq_getElem h2]; rfl
      rw [hg, ← List.append_assoc] at hp
      simp [c3, h1, hx, h2, c4, f2]
      refine call_intro (up_meets l (by intro e; subst e; simp at h2) hln) ?_ ?_
      · simp
      simp [hd, hw, hw2]
      exact ⟨(upD l, i / 2, acc ++ [l[s]]), _, Weak.re (by simp [Dgs_snoc]), ⟨by dsimp only; rw [hul]; omega, by dsimp only; rw [hul]; omega, by dsimp only; rw [hul, List.length_append, List.length_singleton]; omega, hp⟩, by show (upD l).length < l.length; rw [upD_length]; omega⟩
    · have c4 : ¬ (s : Int) < (l.length : Nat) := by omega
      have hg : (l[s]?).toList = [] := by rw [List.getElem?_eq_none (by omega)]; rfl
      rw [hg, List.nil_append] at hp
      simp [c3, h1, hx, h2, c4]
      refine call_intro (up_meets l (by intro e; subst e; simp at h1) hln) ?_ ?_
      · simp
      simp [hd, hw, hw2]
      exact ⟨(upD l, i / 2, acc), _, Weak.re (by simp), ⟨by dsimp only; rw [hul]; omega, by dsimp only; rw [hul]; omega, by dsimp only; rw [hul]; omega, hp⟩, by show (upD l).length < l.length; rw [upD_length]; omega⟩
  · have c3 : ¬ (1 : Int) < (l.length : Nat) := by omega
    rw [pathD_end l i (by omega), List.append_nil] at hp
    subst hp
    simp [c3, h1]
    refine post_end (.inr rfl) ?_
    simp

theorem checkP_meets (root leaf : Dg) (at_ count : Nat) (path : List Dg) (h : at_ < count) (hc : count < 9223372036854775808) :
    Meets Tryd.prog Gt fn_tree_Check [dv root, dv leaf, .v (.int .i64 (at_ : Nat)), .v (.int .i64 (count : Nat)), .sl 32 (Dgs path)] [] true (.v (.bool (checkD root leaf at_ count path))) [] := by
  refine meets_of_go mix k_tree_Check ⟨by simp, by simp, by simp⟩ ?_
  have c0 : ¬ (at_ : Int) < 0 := by omega
  have c1 : ¬ (count : Int) ≤ (at_ : Nat) := by omega
  have c2 : ¬ count ≤ at_ := by omega
  simp [c0, c1, c2]
  refine go_wh (fun a : Dg × Nat × Nat × List Dg => a.2.2.1) (fun a => a.2.1 < a.2.2.1 ∧ a.2.2.1 < 9223372036854775808 ∧ checkD root a.1 a.2.1 a.2.2.1 a.2.2.2 = checkD root leaf at_ count path)
    (fun a c => ⟨[(2, .v (.int .i64 (a.2.1 : Nat))), (3, .v (.int .i64 (a.2.2.1 : Nat))), (4, .sl 32 (Dgs a.2.2.2)), (5, .ptr 5 c 0), (6, .ptr 6 c 0)], [(5, .var c (dv root)), (6, .var c (dv a.1))], c + 1⟩) (leaf, at_, count, path) _ (Weak.re (by simp)) ⟨h, hc, rfl⟩ ?_
  rintro ⟨lf, i, n, p⟩ c ⟨hi, hn, hr⟩
  simp only at hi hn hr
  rw [← hr]
  by_cases h1 : 1 < n
  · have c3 : (1 : Int) < (n : Nat) := by omega
    have hx := xor_sib i (by omega)
    have hd : Int.tdiv (i : Int) 2 = ((i / 2 : Nat) : Int) := by rw [Int.tdiv_eq_ediv_of_nonneg (by omega)]; omega
    have hw : IntKind.i64.wrap ((i : Int) / 2) = (i : Int) / 2 := w64_id (by omega)
    have hw1 : IntKind.i64.wrap ((n : Int) - 1) = ((n - 1 : Nat) : Int) := by rw [w64_id (by omega)]; omega
    have hd2 : Int.tdiv ((n - 1 : Nat) : Int) 2 = (((n - 1) / 2 : Nat) : Int) := by rw [Int.tdiv_eq_ediv_of_nonneg (by omega)]; omega
    have hw2 : IntKind.i64.wrap (((n - 1) / 2 : Nat) : Int) = (((n - 1) / 2 : Nat) : Int) := w64_id (by omega)
    have hw3 : IntKind.i64.wrap ((((n - 1) / 2 : Nat) : Int) + 1) = (((n + 1) / 2 : Nat) : Int) := by rw [w64_id (by omega)]; omega
    obtain ⟨s, hs⟩ : ∃ s, sib i = s := ⟨_, rfl⟩
    rw [hs] at hx
    obtain ⟨n1, hn1⟩ : ∃ n1, n - 1 = n1 := ⟨_, rfl⟩
    rw [hn1] at hw1 hd2 hw2 hw3
    obtain ⟨n2, hn2⟩ : ∃ n2, n1 / 2 = n2 := ⟨_, rfl⟩
    rw [hn2] at hd2 hw2 hw3
    by_cases h2 : n ≤ s
    · have c4 : (n : Int) ≤ (s : Nat) := by omega
      have hu := checkD_up root lf i n p h1 (by omega)
      simp [c3, h1, hx, h2, c4, hd, hw, hw1, hd2, hw2, hw3]
      exact ⟨(lf, i / 2, (n + 1) / 2, p), _, Weak.re (by simp), ⟨by show i / 2 < (n + 1) / 2; omega, by show (n + 1) / 2 < _; omega, by dsimp only; rw [← hu, hr]⟩, by show (n + 1) / 2 < n; omega⟩
    · have c4 : ¬ (n : Int) ≤ (s : Nat) := by omega
      cases p with
      | nil =>
        have hu := checkD_none root lf i n h1 (by omega)
        simp [c3, h1, hx, h2, c4]
        refine post_end (.inr rfl) ?_
        simp [hu]
      | cons q ps =>
        have hu := checkD_pair root lf i n q ps h1 (by omega)
        have hn0 : ¬ ((ps.length : Int) + 1 = 0) := by omega
        have hn3 : (0 : Int) < (ps.length : Int) + 1 := by omega
        have hn4 : (1 : Int) ≤ (ps.length : Int) + 1 := by omega
        have hDg : Dgs (q :: ps) = dv q :: Dgs ps := rfl
        by_cases h3 : i % 2 = 1
        · have h4 : s < i := by rw [← hs]; unfold sib; rw [if_pos h3]; omega
          have c5 : (s : Int) < (i : Nat) := by omega
          rw [if_pos h3] at hu
          simp [c3, h1, hx, h2, c4, hn0, hn3, c5, h4, hDg]
          refine call_intro (pair1_meets q lf) ?_ ?_
          · simp
          simp [hd, hw, hw1, hd2, hw2, hw3, hn4]
          exact ⟨(pairD q lf, i / 2, (n + 1) / 2, ps), _, Weak.re (by simp), ⟨by show i / 2 < (n + 1) / 2; omega, by show (n + 1) / 2 < _; omega, by dsimp only; rw [← hu, hr]⟩, by show (n + 1) / 2 < n; omega⟩
        · have h4 : ¬ s < i := by rw [← hs]; unfold sib; rw [if_neg h3]; omega
          have c5 : ¬ (s : Int) < (i : Nat) := by omega
          rw [if_neg h3] at hu
          simp [c3, h1, hx, h2, c4, hn0, hn3, c5, h4, hDg]
          refine call_intro (pair1_meets lf q) ?_ ?_
          · simp
          simp [hd, hw, hw1, hd2, hw2, hw3, hn4]
          exact ⟨(pairD lf q, i / 2, (n + 1) / 2, ps), _, Weak.re (by simp), ⟨by show i / 2 < (n + 1) / 2; omega, by show (n + 1) / 2 < _; omega, by dsimp only; rw [← hu, hr]⟩, by show (n + 1) / 2 < n; omega⟩
  · have c3 : ¬ (1 : Int) < (n : Nat) := by omega
    have hu := checkD_end root lf i n p (by omega)
    rw [hu]
    by_cases h5 : p = []
    · subst h5
      simp [c3, h1]
      refine post_end (.inr rfl) ?_
      simp
    · have h6 : ¬ p.length = 0 := by intro e; exact h5 (List.eq_nil_of_length_eq_zero e)
      have h7 : ¬ ((p.length : Int) = 0) := by omega
      simp [c3, h1, h6, h7, h5]
      refine post_end (.inr rfl) ?_
      simp
end Go.Proofs.YtbmdaaehogpeeaaDoor.WL

end
section
/-
  CHAPTER 05: contracts of the reference.
-/
namespace Go.Proofs.YtbmdaaehogpeeaaDoor.WL
open Go
set_option maxHeartbeats 4000000
attribute [local irreducible] comp hb sha leafD pairD secD shutD wholeD pubD ofD

def Sig.same (a b : Sig) : Bool := decide (a.leaf = b.leaf) && (decide (a.op = b.op) && decide (a.sh = b.sh)) && decide (a.path = b.path)
end Go.Proofs.YtbmdaaehogpeeaaDoor.WL

end
section
/-
  CHAPTER 13, 14, 15, 08: contracts of the reference: things are the same as themselves.
-/
namespace Go.Proofs.YtbmdaaehogpeeaaDoor.WL
open Go
set_option maxHeartbeats 4000000
variable {G : Nat → Option AV}
attribute [local irreducible] sha
attribute [local irreducible] Rd.sig Rd.sig' Rd.blk Rd.blk' Rd.inn Rd.inn' Rd.dg Rd.dg' Rd.rep Rd.rep' repR

def Sig.small (s : Sig) : Prop := s.op.length ≤ 1000 ∧ s.sh.length ≤ 1000 ∧ s.path.length ≤ 1000
def Cert.small (x : Cert) : Prop := x.votes.length ≤ 1000 ∧ ∀ v ∈ x.votes, v.sig.small
def Lnk.small (l : Lnk) : Prop := l.blk.qs.length ≤ 1000 ∧ l.cert.small ∧ l.conf.ms.length ≤ 1000
/-! What is read is small. -/
end Go.Proofs.YtbmdaaehogpeeaaDoor.WL

end
