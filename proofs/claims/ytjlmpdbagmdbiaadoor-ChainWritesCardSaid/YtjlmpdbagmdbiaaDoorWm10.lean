
import Derived.Test.YtjlmpdbagmdbiaaDoorWm9
section
namespace Go.Proofs.YtjlmpdbagmdbiaaDoor.WL
open Go
set_option maxHeartbeats 4000000
attribute [local irreducible] comp hb sha
def Bss (ps : List Bytes) : List AV := ps.map fun p => .sl 1 (B p)
@[simp] theorem JTl (ss : List Bytes) : (Bss ss).length = ss.length := by simp [Bss]
@[simp] theorem JSX (ss : List Bytes) : closeds (Bss ss) = true := by simp [Bss, closeds_all]
@[simp] theorem JRS (n : Nat) (a : List Bytes) (h : n < (Bss a).length) : (Bss a)[n] = .sl 1 (B (a[n]'(by simpa using h))) := by simp [Bss]
@[simp] theorem JWU (n : Nat) (a : List Bytes) : (Bss a)[n]? = (a[n]?).map fun p => .sl 1 (B p) := by simp [Bss]
theorem U_iv : U iv.list = [AV.v (.int .u32 1779033703), .v (.int .u32 3144134277), .v (.int .u32 1013904242), .v (.int .u32 2773480762), .v (.int .u32 1359893119), .v (.int .u32 2600822924), .v (.int .u32 528734635), .v (.int .u32 1541459225)] := rfl
def over (x p : Bytes) (r : Nat) : Bytes := x.take r ++ p ++ x.drop (r + p.length)
theorem Jxq (x p : Bytes) (r : Nat) : splice (B x) r (B p) = B (over x p r) := by simp [splice, over]
theorem JIL (x p : Bytes) (r : Nat) (h : r + p.length ≤ x.length) : (over x p r).length = x.length := by
  simp only [over, List.length_append, List.length_take, List.length_drop]
  omega
theorem JNj (x p d : Bytes) (r : Nat) (h : r + p.length ≤ x.length) (hd : x.take r = d) : (over x p r).take (r + p.length) = d ++ p := by
  have hl : d.length = r := by rw [← hd, List.length_take]; omega
  rw [over, hd, List.take_append_of_le_length (by rw [List.length_append]; omega)]
  exact List.take_of_length_le (by rw [List.length_append]; omega)
def cat (ps : List Bytes) : Bytes := ps.flatten
@[simp] theorem JWQ : cat [] = [] := rfl
theorem JON (ps : List Bytes) (j : Nat) (h : j < ps.length) : cat (ps.take (j + 1)) = cat (ps.take j) ++ ps[j] := JOk ps j h
theorem JI8 (ps : List Bytes) (j : Nat) : (cat (ps.take j)).length ≤ (cat ps).length := JHy ps j
def i56 (i : Nat) : Int := ((56 + i : Nat) : Int)
theorem JJP (i : Nat) : i56 i = 56 + (i : Int) := by simp [i56]
def r1 (i : Nat) : Int := ((i + 1 : Nat) : Int)
theorem r1_eq (i : Nat) : r1 i = (i : Int) + 1 := by simp [r1]
theorem JNi (x d : Bytes) (r : Nat) (hx : x.length = 64) (hd : d.length = r) (h : x.take r = d) (hr : r < 64) : over (x.set r 128) (zeros (63 - r)) (r + 1) = d ++ 128 :: zeros (63 - r) := by
  have h1 : (x.set r 128).take (r + 1) = d ++ [128] := by
    rw [Jbk _ _ (by rw [List.length_set]; omega), List.take_set_of_le (Nat.le_refl _), h]
    simp
  rw [over, h1, List.drop_of_length_le (by simp; omega)]
  simp
theorem JMz (d : Bytes) (r k : Nat) (hd : d.length = r) (h : r < 64 - k) : (d ++ 128 :: zeros (63 - r)).drop (64 - k) = zeros k := by
  rw [List.drop_append, List.drop_of_length_le (by omega), hd, List.nil_append, show 64 - k - r = (63 - k - r) + 1 by omega, List.drop_succ_cons, JKW]
  congr 1
  omega
theorem JNe (d : Bytes) (r : Nat) (hd : d.length = r) (h : r < 56) : (d ++ 128 :: zeros (63 - r)).take 56 = d ++ 128 :: zeros (55 - r) := by
  rw [List.take_append, List.take_of_length_le (by omega), hd, show 56 - r = (55 - r) + 1 by omega, List.take_succ_cons, JL2]
  congr 3
  omega
theorem JJX (e : St) (i : Nat) (h : i < 32) (h2 : i < e.bytes.length := by simp; omega) : e.bytes[i] = (e.list.getD (i / 4) 0 >>> UInt32.ofNat (24 - 8 * (i % 4))).toUInt8 := by
  have z : ∀ x : UInt32, x >>> UInt32.ofNat 0 = x := fun x => by simp
  match i, h, h2 with
  | 0, _, _ => rfl
  | 1, _, _ => rfl
  | 2, _, _ => rfl
  | 3, _, _ => show _ = (e.list.getD 0 0 >>> UInt32.ofNat 0).toUInt8; rw [z]; rfl
  | 4, _, _ => rfl
  | 5, _, _ => rfl
  | 6, _, _ => rfl
  | 7, _, _ => show _ = (e.list.getD 1 0 >>> UInt32.ofNat 0).toUInt8; rw [z]; rfl
  | 8, _, _ => rfl
  | 9, _, _ => rfl
  | 10, _, _ => rfl
  | 11, _, _ => show _ = (e.list.getD 2 0 >>> UInt32.ofNat 0).toUInt8; rw [z]; rfl
  | 12, _, _ => rfl
  | 13, _, _ => rfl
  | 14, _, _ => rfl
  | 15, _, _ => show _ = (e.list.getD 3 0 >>> UInt32.ofNat 0).toUInt8; rw [z]; rfl
  | 16, _, _ => rfl
  | 17, _, _ => rfl
  | 18, _, _ => rfl
  | 19, _, _ => show _ = (e.list.getD 4 0 >>> UInt32.ofNat 0).toUInt8; rw [z]; rfl
  | 20, _, _ => rfl
  | 21, _, _ => rfl
  | 22, _, _ => rfl
  | 23, _, _ => show _ = (e.list.getD 5 0 >>> UInt32.ofNat 0).toUInt8; rw [z]; rfl
  | 24, _, _ => rfl
  | 25, _, _ => rfl
  | 26, _, _ => rfl
  | 27, _, _ => show _ = (e.list.getD 6 0 >>> UInt32.ofNat 0).toUInt8; rw [z]; rfl
  | 28, _, _ => rfl
  | 29, _, _ => rfl
  | 30, _, _ => rfl
  | 31, _, _ => show _ = (e.list.getD 7 0 >>> UInt32.ofNat 0).toUInt8; rw [z]; rfl
  | n + 32, h, _ => exact absurd h (by omega)
theorem JjV (ps : List Bytes) (hn : ps.length ≤ 1000000) (hl : (cat ps).length ≤ 100000000) : Meets Tryd.prog Gt JbG [.sl 1 (Bss ps)] [] true (dv (sha (cat ps))) [] := by
  refine Jc mix JPX ⟨by simp, by simp, by simp⟩ ?_
  simp
  have h0 : hb 0 [] = iv := by unfold hb; rfl
  refine go_up ps.length (fun j (x : Bytes) => x.length = 64 ∧ x.take (rem (cat (ps.take j))).length = rem (cat (ps.take j))) (fun j x c => ⟨[(2, .ptr 2 c 0), (3, .ptr 3 c 0), (4, .ptr 4 c 0), (5, .v (.int .i64 ((cat (ps.take j)).length : Nat))), (6, .v (.int .i64 ((rem (cat (ps.take j))).length : Nat))), (14, .sl 1 (Bss ps)), (15, .v (.int .i64 (ps.length : Nat))), (16, .v (.int .i64 (j : Nat)))],
    [(2, .var c (.arr 1 (B (zeros 32)))), (3, .var c (.arr 1 (U (hb ((cat (ps.take j)).length / 64) (cat (ps.take j))).list))), (4, .var c (.arr 1 (B x)))], c + 1⟩) (zeros 64) _ (Weak.re (by simp [h0, U_iv, rem])) (by simp [rem]) ?_ ?_
  · intro j x c hj ⟨hx, hr⟩
    have hfs := JON ps j hj
    have hft := JI8 ps (j + 1)
    rw [hfs, List.length_append] at hft
    have hw : IntKind.i64.wrap ((j : Int) + 1) = ((j + 1 : Nat) : Int) := Je (by omega)
    generalize cat (ps.take j) = D at *
    obtain ⟨q, hq⟩ : ∃ q : Nat, q = D.length + ps[j].length := ⟨_, rfl⟩
    have hw2 : IntKind.i64.wrap ((D.length : Nat) + (ps[j].length : Nat)) = (q : Int) := by rw [Jq (by omega)]; omega
    simp [hj, hw2]
    obtain ⟨p, hp⟩ : ∃ p, ps[j] = p := ⟨_, rfl⟩
    rw [hp] at hq hfs hft ⊢
    refine go_dec p.length (fun m (a : Bytes × Bytes × Bytes) => match a with | (d, p', x) => p'.length = m ∧ d ++ p' = D ++ p ∧ x.length = 64 ∧ x.take (rem d).length = rem d)
      (fun _ a c => ⟨[(2, .ptr 2 c 0), (3, .ptr 3 c 0), (4, .ptr 4 c 0), (5, .v (.int .i64 (q : Nat))), (6, .v (.int .i64 ((rem a.1).length : Nat))), (8, .sl 1 (B a.2.1)), (14, .sl 1 (Bss ps)), (15, .v (.int .i64 (ps.length : Nat))), (16, .v (.int .i64 (j : Nat)))],
        [(2, .var c (.arr 1 (B (zeros 32)))), (3, .var c (.arr 1 (U (hb (a.1.length / 64) a.1).list))), (4, .var c (.arr 1 (B a.2.2)))], c + 1⟩) (D, p, x) _ (Weak.re (by simp)) ⟨rfl, rfl, hx, hr⟩ ?_
    rintro m ⟨d, p', x'⟩ c' ⟨rfl, hd, hx', hr'⟩
    have hrl : (rem d).length < 64 := by rw [Jgw]; omega
    by_cases hz : p' = []
    · subst hz
      simp [hw]
      have hd' : d = D ++ p := by simpa using hd
      subst hd'
      exact ⟨x', _, Weak.re (by simp [hfs, hq]), ⟨hx', by rw [hfs]; exact hr'⟩⟩
    · have hpl : 0 < p'.length := List.length_pos_iff.2 hz
      obtain ⟨r, hre⟩ : ∃ r, (rem d).length = r := ⟨_, rfl⟩
      obtain ⟨k, hk⟩ : ∃ k, k = min p'.length (64 - r) := ⟨_, rfl⟩
      obtain ⟨t, ht⟩ : ∃ t, t = r + k := ⟨_, rfl⟩
      have hw3 : IntKind.i64.wrap ((r : Nat) + (k : Nat)) = (t : Int) := by rw [Jq (by omega)]; omega
      have hr64 : (r : Int) ≤ 64 := by omega
      have hr64n : r ≤ 64 := by omega
      have hkl : (List.take k p').length = k := by rw [List.length_take]; omega
      have hrk : r + k ≤ 64 := by omega
      have hkp : (k : Int) ≤ p'.length := by omega
      have hkr : k ≤ 64 - r := by omega
      have hkpn : k ≤ p'.length := by omega
      have hfull := JFR d (List.take k p')
      have hmore := JQ9 d (List.take k p')
      rw [hkl, hre] at hfull hmore
      have hol := JIL x' (List.take k p') r (by omega)
      have hot := JNj x' (List.take k p') (rem d) r (by omega) (by rw [← hre]; exact hr')
      rw [hkl, ← ht] at hot
      obtain ⟨y, hy⟩ : ∃ y, over x' (List.take k p') r = y := ⟨_, rfl⟩
      rw [hy] at hol hot
      have hdd : (d ++ List.take k p') ++ List.drop k p' = D ++ p := by rw [List.append_assoc, List.take_append_drop]; exact hd
      obtain ⟨e, he⟩ : ∃ e, d ++ List.take k p' = e := ⟨_, rfl⟩
      rw [he] at hfull hmore hdd
      have hdl : (List.drop k p').length < p'.length := by rw [List.length_drop]; omega
      have hpd : List.take p'.length p' = p' := by simp
      have hyl : y.length = 64 := hol.trans hx'
      by_cases h64 : t = 64
      · have hyy : y = rem d ++ List.take k p' := by rw [← hot]; exact (List.take_of_length_le (by omega)).symm
        obtain ⟨f1, f2, f3⟩ := hfull (by omega)
        have hbk := JjT (hb (d.length / 64) d) y hyl
        rw [← hyy] at f3
        rw [← f3] at hbk
        have hy64 : List.take 64 y = y := List.take_of_length_le (by omega)
        have h64' : (t : Int) = 64 := by omega
        simp [hpl, hre, hx', hr64, hr64n, ← hk, hkl, hrk, hkp, hkr, hkpn, hw3, Jxq, h64', hpd, hy]
        refine Ja hbk ?_ ?_
        · simp [stM, St.av, hyl, hy64]
        simp [stM, St.av]
        exact ⟨_, (e, List.drop k p', y), _, hdl, Weak.re (by simp [f2]), rfl, hdd, hyl, by rw [f2]; rfl⟩
      · have h64' : ¬ (t : Int) = 64 := by omega
        obtain ⟨f1, f2, f3⟩ := hmore (by omega)
        have hrem : (rem e).length = t := by rw [f2, List.length_append, hkl, hre, ht]
        simp [hpl, hre, hx', hr64, hr64n, ← hk, hkl, hrk, hkp, hkr, hkpn, hw3, Jxq, h64', hpd, hy]
        exact ⟨_, (e, List.drop k p', y), _, hdl, Weak.re (by simp [hrem, f3]), rfl, hdd, hyl, by rw [hrem, f2]; exact hot⟩
  · intro x c ⟨hx, hr⟩
    simp only [List.take_length] at hr ⊢
    obtain ⟨r, hre⟩ : ∃ r, (rem (cat ps)).length = r := ⟨_, rfl⟩
    have hrm := Jgw (cat ps)
    have hr64 : r < 64 := by rw [← hre, hrm]; omega
    have hri : (r : Int) < 64 := by omega
    have hw1 : IntKind.i64.wrap ((r : Int) + 1) = r1 r := by rw [r1_eq]; exact Jq (by omega)
    have b0 : 0 ≤ r1 r ∧ r1 r ≤ 64 ∧ (r1 r).toNat = r + 1 ∧ r + 1 ≤ 64 := by rw [r1_eq]; omega
    rw [hre] at hr
    have hz : over (x.set r 128) (zeros (63 - r)) (r + 1) = rem (cat ps) ++ 128 :: zeros (63 - r) := JNi x (rem (cat ps)) r hx hre hr hr64
    have hol : (over (x.set r 128) (zeros (63 - r)) (r + 1)).length = 64 := by rw [hz]; simp [hre]; omega
    obtain ⟨y0, hy0⟩ : ∃ y0, over (x.set r 128) (zeros (63 - r)) (r + 1) = y0 := ⟨_, rfl⟩
    rw [hy0] at hz hol
    have h63 : 64 - (r + 1) = 63 - r := by omega
    have hle : r + 1 + (63 - r) ≤ 64 := by omega
    by_cases h56 : r < 56
    · have h56i : ¬ (56 : Int) ≤ (r : Int) := by omega
      have hsha := JN0 (cat ps) (by omega)
      rw [← hrm, hre] at hsha
      have hy56 : y0.drop 56 = zeros 8 := by rw [hz]; exact JMz _ r 8 hre (by omega)
      have hyt : rem (cat ps) ++ 128 :: (zeros (55 - r) ++ be8 (8 * (cat ps).length : Nat)) = y0.take 56 ++ be8 (8 * (cat ps).length : Nat) := by
        rw [hz, JNe _ r hre (by omega)]
        simp
      rw [hyt] at hsha
      simp [hre, hri, hr64, hx, hw1, b0, h63, hle, JMV 128 (by decide), show u8 128 = 128 by decide, B_set, Jxq, hy0, h56i]
      generalize hb ((cat ps).length / 64) (cat ps) = h at *
      obtain ⟨y, hyy⟩ : ∃ y, y = y0 := ⟨_, rfl⟩
      subst hyy
      have hyl := hol
      refine go_up 8 (fun i (z : Bytes) => z = y.take 56 ++ ((be8 (8 * (cat ps).length : Nat)).take i ++ zeros (8 - i))) (fun i z c => ⟨[(2, .ptr 2 c 0), (3, .ptr 3 c 0), (4, .ptr 4 c 0), (5, .v (.int .i64 ((cat ps).length : Nat))), (52, .v (.int .i64 (i : Nat)))],
        [(2, .var c (.arr 1 (B (zeros 32)))), (3, .var c (.arr 1 (U h.list))), (4, .var c (.arr 1 (B z)))], c + 1⟩) y _ (Weak.re (by simp )) (by simp; exact (List.take_append_drop 56 y).symm.trans (by rw [hy56])) ?_ ?_
      · intro i z c hi hz
        have hw : IntKind.i64.wrap ((i : Int) + 1) = ((i + 1 : Nat) : Int) := Je (by omega)
        have hi8 : (i : Int) < 8 := by omega
        have a1 : IntKind.i64.wrap (56 + (i : Int)) = i56 i := by rw [JJP]; exact Jq (by omega)
        have a2 : IntKind.i64.wrap (8 * (i : Int)) = 8 * (i : Int) := Jq (by omega)
        have a3 : IntKind.i64.wrap (56 - 8 * (i : Int)) = ((56 - 8 * i : Nat) : Int) := by rw [Jq (by omega)]; omega
        obtain ⟨s, hs⟩ : ∃ s : Nat, s = 56 - 8 * i := ⟨_, rfl⟩
        rw [← hs] at a3
        have a4 : min s 64 = s := by omega
        have a5 : IntKind.u64.wrap (((cat ps).length : Nat) : Int) = ((cat ps).length : Nat) := JvL (by omega)
        have a6 : IntKind.u64.wrap ((((cat ps).length : Nat) : Int) * 8) = ((8 * (cat ps).length : Nat) : Int) := by rw [JvL (by omega)]; omega
        obtain ⟨N, hN⟩ : ∃ N : Nat, N = 8 * (cat ps).length := ⟨_, rfl⟩
        rw [← hN] at a6 hz ⊢
        have b1 : i56 i < 64 ∧ 0 ≤ i56 i ∧ (i56 i).toNat = 56 + i := by rw [JJP]; omega
        have hzl : z.length = 64 := by rw [hz]; simp; omega
        have hn64 : 56 + i < 64 := by omega
        have hset : z.set (56 + i) (u8 ((N : Int).fdiv (2 ^ s))) = y.take 56 ++ ((be8 (N : Nat)).take (i + 1) ++ zeros (8 - (i + 1))) := by
          have k1 := JiA (be8 (N : Nat)) 8 i (by simp; omega) (by simp)
          have k2 := JIl (N : Nat) i hi
          rw [List.getElem?_eq_getElem (by simp; omega)] at k2
          have k3 := Option.some.inj k2
          rw [k3] at k1
          rw [hz, List.set_append_right _ _ (by simp; omega), show 56 + i - (List.take 56 y).length = i by simp; omega, Int.fdiv_eq_ediv_of_nonneg _ (Int.le_of_lt (Int.pow_pos (by decide))), hs, k1]
        simp [hi8, a1, a2, a3, a4, a5, a6, b1, hzl, hn64, bv_u8, B_set, hw]
        exact ⟨_, _, Weak.re (by simp), hset⟩
      · intro z c hz
        have hz' : z = y.take 56 ++ be8 (8 * (cat ps).length : Nat) := by rw [hz, List.take_of_length_le (l := be8 _) (by simp)]; simp [zeros]
        have hzl : z.length = 64 := by rw [hz']; simp; omega
        rw [← hz'] at hsha
        have hz64 : List.take 64 z = z := List.take_of_length_le (by omega)
        have hbk := JjT h z hzl
        simp
        refine Ja hbk ?_ ?_
        · simp [stM, St.av, hzl, hz64]
        have hlen : (comp h z).list.length = 8 := rfl
        generalize comp h z = e at *
        simp [stM, St.av]
        refine go_up 32 (fun i (o : Bytes) => o = e.bytes.take i ++ zeros (32 - i)) (fun i o c => ⟨[(2, .ptr 2 c 0), (3, .ptr 3 c 0), (11, .ptr 11 c 0), (69, .v (.int .i64 (i : Nat)))],
          [(2, .var c (.arr 1 (B (zeros 32)))), (3, .var c (.arr 1 (U e.list))), (11, .var c (.arr 1 (B o)))], c + 1⟩) (zeros 32) _ (Weak.re (by simp)) (by simp) ?_ ?_
        · intro i o c hi ho
          have hw : IntKind.i64.wrap ((i : Int) + 1) = ((i + 1 : Nat) : Int) := Je (by omega)
          have hi32 : (i : Int) < 32 := by omega
          have a1 : IntKind.i64.wrap ((i : Int) / (4 : Int)) = ((i / 4 : Nat) : Int) := by rw [Jq (by omega)]; omega
          have a2 : (i : Int).tmod 4 = ((i % 4 : Nat) : Int) := rfl
          have a3 : IntKind.i64.wrap (8 * ((i % 4 : Nat) : Int)) = 8 * ((i % 4 : Nat) : Int) := Jq (by omega)
          have a4 : IntKind.i64.wrap (24 - 8 * ((i % 4 : Nat) : Int)) = ((24 - 8 * (i % 4) : Nat) : Int) := by rw [Jq (by omega)]; omega
          obtain ⟨k, hk⟩ : ∃ k : Nat, k = i / 4 := ⟨_, rfl⟩
          obtain ⟨m, hm⟩ : ∃ m : Nat, m = i % 4 := ⟨_, rfl⟩
          obtain ⟨s, hs⟩ : ∃ s : Nat, s = 24 - 8 * m := ⟨_, rfl⟩
          rw [← hk] at a1
          rw [← hm] at a2 a3 a4
          rw [← hs] at a4
          have b1 : (k : Int) < 8 ∧ k < 8 ∧ min s 32 = s := by omega
          have hol : o.length = 32 := by rw [ho]; simp; omega
          have g1 := JDk e.list k (by omega)
          have e1 := (List.getElem?_eq_some_iff.1 g1).2
          have hsh := JDx (e.list.getD k 0) s (by omega)
          have hset : o.set i ((e.list.getD k 0 >>> UInt32.ofNat s).toUInt8) = e.bytes.take (i + 1) ++ zeros (32 - (i + 1)) := by
            have k1 := JiA e.bytes 32 i (by simp; omega) (by simp)
            rw [JJX e i hi, ← hk, ← hm, ← hs] at k1
            rw [ho, k1]
          generalize e.list.getD k 0 = wk at *
          simp [hi32, a1, a2, a3, a4, b1, hlen, g1, e1, hsh, bv_u8, JOm, B_set, hol, hi, hw]
          exact ⟨_, _, Weak.re (by simp), hset⟩
        · intro o c ho
          have ho' : o = (sha (cat ps)).bs := by rw [ho, hsha, List.take_of_length_le (by simp)]; simp [zeros]
          subst ho'
          simp
          refine Jb (.inr rfl) ?_
          simp
    · have h56i : (56 : Int) ≤ (r : Int) := by omega
      have hsha := JMI (cat ps) (by omega)
      rw [← hrm, hre, ← hz] at hsha
      have hbk := JjT (hb ((cat ps).length / 64) (cat ps)) y0 hol
      have hy64 : List.take 64 y0 = y0 := List.take_of_length_le (by omega)
      have hov : over y0 (zeros 64) 0 = zeros 64 := by simp [over, hol]
      simp [hre, hri, hr64, hx, hw1, b0, h63, hle, JMV 128 (by decide), show u8 128 = 128 by decide, B_set, Jxq, hy0, h56i]
      refine Ja hbk ?_ ?_
      · simp [stM, St.av, hol, hy64]
      generalize comp (hb ((cat ps).length / 64) (cat ps)) y0 = h at *
      simp [stM, St.av, hol, Jxq, hov]
      obtain ⟨y, hyy⟩ : ∃ y, y = zeros 64 := ⟨_, rfl⟩
      have hy56 : y.drop 56 = zeros 8 := by rw [hyy]; simp
      have hyt : zeros 56 = y.take 56 := by rw [hyy]; simp
      rw [hyt] at hsha
      have hyl : y.length = 64 := by rw [hyy]; simp
      rw [← hyy]
      refine go_up 8 (fun i (z : Bytes) => z = y.take 56 ++ ((be8 (8 * (cat ps).length : Nat)).take i ++ zeros (8 - i))) (fun i z c => ⟨[(2, .ptr 2 c 0), (3, .ptr 3 c 0), (4, .ptr 4 c 0), (5, .v (.int .i64 ((cat ps).length : Nat))), (52, .v (.int .i64 (i : Nat)))],
        [(2, .var c (.arr 1 (B (zeros 32)))), (3, .var c (.arr 1 (U h.list))), (4, .var c (.arr 1 (B z)))], c + 1⟩) y _ (Weak.re (by simp )) (by simp; exact (List.take_append_drop 56 y).symm.trans (by rw [hy56])) ?_ ?_
      · intro i z c hi hz
        have hw : IntKind.i64.wrap ((i : Int) + 1) = ((i + 1 : Nat) : Int) := Je (by omega)
        have hi8 : (i : Int) < 8 := by omega
        have a1 : IntKind.i64.wrap (56 + (i : Int)) = i56 i := by rw [JJP]; exact Jq (by omega)
        have a2 : IntKind.i64.wrap (8 * (i : Int)) = 8 * (i : Int) := Jq (by omega)
        have a3 : IntKind.i64.wrap (56 - 8 * (i : Int)) = ((56 - 8 * i : Nat) : Int) := by rw [Jq (by omega)]; omega
        obtain ⟨s, hs⟩ : ∃ s : Nat, s = 56 - 8 * i := ⟨_, rfl⟩
        rw [← hs] at a3
        have a4 : min s 64 = s := by omega
        have a5 : IntKind.u64.wrap (((cat ps).length : Nat) : Int) = ((cat ps).length : Nat) := JvL (by omega)
        have a6 : IntKind.u64.wrap ((((cat ps).length : Nat) : Int) * 8) = ((8 * (cat ps).length : Nat) : Int) := by rw [JvL (by omega)]; omega
        obtain ⟨N, hN⟩ : ∃ N : Nat, N = 8 * (cat ps).length := ⟨_, rfl⟩
        rw [← hN] at a6 hz ⊢
        have b1 : i56 i < 64 ∧ 0 ≤ i56 i ∧ (i56 i).toNat = 56 + i := by rw [JJP]; omega
        have hzl : z.length = 64 := by rw [hz]; simp; omega
        have hn64 : 56 + i < 64 := by omega
        have hset : z.set (56 + i) (u8 ((N : Int).fdiv (2 ^ s))) = y.take 56 ++ ((be8 (N : Nat)).take (i + 1) ++ zeros (8 - (i + 1))) := by
          have k1 := JiA (be8 (N : Nat)) 8 i (by simp; omega) (by simp)
          have k2 := JIl (N : Nat) i hi
          rw [List.getElem?_eq_getElem (by simp; omega)] at k2
          have k3 := Option.some.inj k2
          rw [k3] at k1
          rw [hz, List.set_append_right _ _ (by simp; omega), show 56 + i - (List.take 56 y).length = i by simp; omega, Int.fdiv_eq_ediv_of_nonneg _ (Int.le_of_lt (Int.pow_pos (by decide))), hs, k1]
        simp [hi8, a1, a2, a3, a4, a5, a6, b1, hzl, hn64, bv_u8, B_set, hw]
        exact ⟨_, _, Weak.re (by simp), hset⟩
      · intro z c hz
        have hz' : z = y.take 56 ++ be8 (8 * (cat ps).length : Nat) := by rw [hz, List.take_of_length_le (l := be8 _) (by simp)]; simp [zeros]
        have hzl : z.length = 64 := by rw [hz']; simp; omega
        rw [← hz'] at hsha
        have hz64 : List.take 64 z = z := List.take_of_length_le (by omega)
        have hbk := JjT h z hzl
        simp
        refine Ja hbk ?_ ?_
        · simp [stM, St.av, hzl, hz64]
        have hlen : (comp h z).list.length = 8 := rfl
        generalize comp h z = e at *
        simp [stM, St.av]
        refine go_up 32 (fun i (o : Bytes) => o = e.bytes.take i ++ zeros (32 - i)) (fun i o c => ⟨[(2, .ptr 2 c 0), (3, .ptr 3 c 0), (11, .ptr 11 c 0), (69, .v (.int .i64 (i : Nat)))],
          [(2, .var c (.arr 1 (B (zeros 32)))), (3, .var c (.arr 1 (U e.list))), (11, .var c (.arr 1 (B o)))], c + 1⟩) (zeros 32) _ (Weak.re (by simp)) (by simp) ?_ ?_
        · intro i o c hi ho
          have hw : IntKind.i64.wrap ((i : Int) + 1) = ((i + 1 : Nat) : Int) := Je (by omega)
          have hi32 : (i : Int) < 32 := by omega
          have a1 : IntKind.i64.wrap ((i : Int) / (4 : Int)) = ((i / 4 : Nat) : Int) := by rw [Jq (by omega)]; omega
          have a2 : (i : Int).tmod 4 = ((i % 4 : Nat) : Int) := rfl
          have a3 : IntKind.i64.wrap (8 * ((i % 4 : Nat) : Int)) = 8 * ((i % 4 : Nat) : Int) := Jq (by omega)
          have a4 : IntKind.i64.wrap (24 - 8 * ((i % 4 : Nat) : Int)) = ((24 - 8 * (i % 4) : Nat) : Int) := by rw [Jq (by omega)]; omega
          obtain ⟨k, hk⟩ : ∃ k : Nat, k = i / 4 := ⟨_, rfl⟩
          obtain ⟨m, hm⟩ : ∃ m : Nat, m = i % 4 := ⟨_, rfl⟩
          obtain ⟨s, hs⟩ : ∃ s : Nat, s = 24 - 8 * m := ⟨_, rfl⟩
          rw [← hk] at a1
          rw [← hm] at a2 a3 a4
          rw [← hs] at a4
          have b1 : (k : Int) < 8 ∧ k < 8 ∧ min s 32 = s := by omega
          have hol : o.length = 32 := by rw [ho]; simp; omega
          have g1 := JDk e.list k (by omega)
          have e1 := (List.getElem?_eq_some_iff.1 g1).2
          have hsh := JDx (e.list.getD k 0) s (by omega)
          have hset : o.set i ((e.list.getD k 0 >>> UInt32.ofNat s).toUInt8) = e.bytes.take (i + 1) ++ zeros (32 - (i + 1)) := by
            have k1 := JiA e.bytes 32 i (by simp; omega) (by simp)
            rw [JJX e i hi, ← hk, ← hm, ← hs] at k1
            rw [ho, k1]
          generalize e.list.getD k 0 = wk at *
          simp [hi32, a1, a2, a3, a4, b1, hlen, g1, e1, hsh, bv_u8, JOm, B_set, hol, hi, hw]
          exact ⟨_, _, Weak.re (by simp), hset⟩
        · intro o c ho
          have ho' : o = (sha (cat ps)).bs := by rw [ho, hsha, List.take_of_length_le (by simp)]; simp [zeros]
          subst ho'
          simp
          refine Jb (.inr rfl) ?_
          simp
end Go.Proofs.YtjlmpdbagmdbiaaDoor.WL
end
section
namespace Go.Proofs.YtjlmpdbagmdbiaaDoor.WL
open Go
set_option maxHeartbeats 4000000
attribute [local irreducible] comp hb sha
theorem B_one (m : UInt8) : B [m] = [bv m] := rfl
theorem JLW (m : UInt8) (a b : Dg) : Meets Tryd.prog Gt Jhe [bv m, dv a, dv b] [] true (dv (sha (m :: (a.bs ++ b.bs)))) [] := by
  refine Jc mix JMi ⟨by simp, by simp, by simp⟩ ?_
  have h := JjV [[m], a.bs, b.bs] (by simp) (by simp [cat])
  have e : cat [[m], a.bs, b.bs] = m :: (a.bs ++ b.bs) := by simp [cat]
  have ta : List.take 32 a.bs = a.bs := List.take_of_length_le (by simp)
  have tb : List.take 32 b.bs = b.bs := List.take_of_length_le (by simp)
  rw [e] at h
  simp [dv]
  refine Ja h ?_ ?_
  · simp [Bss, B_one, ta, tb]
  simp [dv]
  refine Jb (.inr rfl) ?_
  simp [dv]
end Go.Proofs.YtjlmpdbagmdbiaaDoor.WL
end
section
namespace Go.Proofs.YtjlmpdbagmdbiaaDoor.WL
open Go
set_option maxHeartbeats 4000000
attribute [local irreducible] comp hb sha
def bBlock : Bytes := [98, 108, 111, 99, 107]
def Blk.dg (q : Blk) : Dg := sha (bBlock ++ q.bytes)
theorem JRC : B bBlock = [AV.v (.int .u8 98), .v (.int .u8 108), .v (.int .u8 111), .v (.int .u8 99), .v (.int .u8 107)] := (rfl)
theorem JFt (q : Blk) (h : q.bytes.length ≤ 50000000) (hn : q.qs.length ≤ 1000000) : Meets Tryd.prog Gt JgY [q.avS] [] true (dv q.dg) [] := by
  refine Jc mix JEC ⟨by simp, by simp, by simp⟩ ?_
  have hrl : bBlock.length = 5 := rfl
  have e : cat [bBlock, q.bytes] = bBlock ++ q.bytes := by simp [cat]
  have m1 := JCU (G := Gt) [] q (by simp; omega) hn
  rw [List.nil_append] at m1
  have m2 := Jhg (G := Gt) q.bytes (by omega)
  have m3 := JjV [bBlock, q.bytes] (by simp) (by rw [e, List.length_append, hrl]; omega)
  rw [e] at m3
  unfold Blk.dg
  generalize sha (bBlock ++ q.bytes) = d at *
  generalize q.bytes = x at *
  have hx : List.take x.length x = x := List.take_of_length_le (by omega)
  have hB := JRC
  generalize bBlock = r at *
  have hr : List.take 5 r = r := List.take_of_length_le (by omega)
  simp [Blk.avS, dv]
  refine Ja m1 ?_ ?_
  · simp [wrM, Blk.avS, dv]
  simp [wrM, Blk.avS, dv]
  refine Ja m2 ?_ ?_
  · simp [wrM]
  simp [wrM]
  refine Ja m3 ?_ ?_
  · simp [Bss, hB, hx, hr]
  simp
  refine Jb (.inr rfl) ?_
  simp
end Go.Proofs.YtjlmpdbagmdbiaaDoor.WL
end
section
namespace Go.Proofs.YtjlmpdbagmdbiaaDoor.WL
open Go
set_option maxHeartbeats 4000000
variable {G : Nat → Option AV}
attribute [local irreducible] sha
def Mem.good (m : Mem) : Bool := decide (1 ≤ m.id) && decide (m.id ≤ 63) && decide (0 ≤ m.height) && decide (m.height ≤ 6)
def memOk (ms : List Mem) (j : Nat) : Bool := (ms[j]!).good && (decide (j = 0) || decide ((ms[j-1]!).id < (ms[j]!).id))
def Conf.good (c : Conf) : Bool := decide (0 ≤ c.epoch) && decide (c.epoch ≤ 1073741824) && decide (0 < c.ms.length) && decide (c.ms.length ≤ 10) && (List.range c.ms.length).all (memOk c.ms)
def faults (n : Nat) : Nat := (n - 1) / 3
def quorum (n : Nat) : Nat := (n + faults n) / 2 + 1
theorem JHV (m : Mem) : Meets Tryd.prog G Jg1 [m.av] [] true (.v (.bool m.good)) [] := by
  refine Jc mix JEG ⟨by simp, by simp, by simp⟩ ?_
  unfold Mem.good
  by_cases c1 : 1 ≤ m.id
  case neg =>
    simp [Mem.av, dv, c1]
    refine Jb (.inr rfl) ?_
    simp
  by_cases c2 : m.id ≤ 63
  case neg =>
    simp [Mem.av, dv, c1, c2]
    refine Jb (.inr rfl) ?_
    simp
  by_cases c3 : 0 ≤ m.height
  case neg =>
    simp [Mem.av, dv, c1, c2, c3]
    refine Jb (.inr rfl) ?_
    simp
  by_cases c4 : m.height ≤ 6
  case neg =>
    simp [Mem.av, dv, c1, c2, c3, c4]
    refine Jb (.inr rfl) ?_
    simp
  simp [Mem.av, dv, c1, c2, c3, c4]
  refine Jb (.inr rfl) ?_
  simp
theorem JIP (v : Vote) : Meets Tryd.prog G Jqh [v.av] [] true (.v (.bool v.good)) [] := by
  refine Jc mix JJm ⟨by simp, by simp, by simp⟩ ?_
  unfold Vote.good
  by_cases c1 : 1 ≤ v.kind
  case neg =>
    simp [Vote.av, dv, c1]
    refine Jb (.inr rfl) ?_
    simp
  by_cases c2 : v.kind ≤ 2
  case neg =>
    simp [Vote.av, dv, c1, c2]
    refine Jb (.inr rfl) ?_
    simp
  by_cases c3 : 0 ≤ v.epoch
  case neg =>
    simp [Vote.av, dv, c1, c2, c3]
    refine Jb (.inr rfl) ?_
    simp
  by_cases c4 : v.epoch ≤ 1073741824
  case neg =>
    simp [Vote.av, dv, c1, c2, c3, c4]
    refine Jb (.inr rfl) ?_
    simp
  by_cases c5 : 1 ≤ v.height
  case neg =>
    simp [Vote.av, dv, c1, c2, c3, c4, c5]
    refine Jb (.inr rfl) ?_
    simp
  by_cases c6 : v.height ≤ 1024
  case neg =>
    simp [Vote.av, dv, c1, c2, c3, c4, c5, c6]
    refine Jb (.inr rfl) ?_
    simp
  by_cases c7 : 0 ≤ v.round
  case neg =>
    simp [Vote.av, dv, c1, c2, c3, c4, c5, c6, c7]
    refine Jb (.inr rfl) ?_
    simp
  by_cases c8 : v.round ≤ 1024
  case neg =>
    simp [Vote.av, dv, c1, c2, c3, c4, c5, c6, c7, c8]
    refine Jb (.inr rfl) ?_
    simp
  by_cases c9 : 1 ≤ v.src
  case neg =>
    simp [Vote.av, dv, c1, c2, c3, c4, c5, c6, c7, c8, c9]
    refine Jb (.inr rfl) ?_
    simp
  by_cases c10 : v.src ≤ 63
  case neg =>
    simp [Vote.av, dv, c1, c2, c3, c4, c5, c6, c7, c8, c9, c10]
    refine Jb (.inr rfl) ?_
    simp
  simp [Vote.av, dv, c1, c2, c3, c4, c5, c6, c7, c8, c9, c10]
  refine Jb (.inr rfl) ?_
  simp
end Go.Proofs.YtjlmpdbagmdbiaaDoor.WL
end
section
namespace Go.Proofs.YtjlmpdbagmdbiaaDoor.WL
open Go
set_option maxHeartbeats 4000000
variable {G : Nat → Option AV}
attribute [local irreducible] sha
theorem JOt {ms : List Mem} {j : Nat} (hj : 0 < j) (h : j < ms.length) : memOk ms j = ((ms[j]).good && decide ((ms[j-1]).id < (ms[j]).id)) := by
  have h1 : j - 1 < ms.length := by omega
  have h0 : j ≠ 0 := by omega
  simp [memOk, h, h1, h0]
theorem Conf.good_no {c : Conf} {j : Nat} (h : j < c.ms.length) (hb : memOk c.ms j = false) : c.good = false := by
  have : (List.range c.ms.length).all (memOk c.ms) = false := by
    rw [List.all_eq_false]
    exact ⟨j, List.mem_range.2 h, by simp [hb]⟩
  simp [Conf.good, this]
theorem Jvy (c : Conf) : Meets Tryd.prog G Jbn [c.av] [] true (.v (.bool c.good)) [] := by
  refine Jc mix JFF ⟨by simp, by simp, by simp⟩ ?_
  by_cases c1 : c.epoch < 0
  · have d1 : ¬ 0 ≤ c.epoch := by omega
    simp [Conf.av, c1]
    refine Jb (.inr rfl) ?_
    simp [Conf.good, d1]
  by_cases c2 : 1073741824 < c.epoch
  · have d1 : ¬ c.epoch ≤ 1073741824 := by omega
    simp [Conf.av, c1, c2]
    refine Jb (.inr rfl) ?_
    simp [Conf.good, d1]
  by_cases c3 : c.ms = []
  · simp [Conf.av, c1, c2, c3]
    refine Jb (.inr rfl) ?_
    simp [Conf.good, c3]
  by_cases c4 : (10 : Int) < (c.ms.length : Nat)
  · have d1 : ¬ c.ms.length ≤ 10 := by omega
    simp [Conf.av, c1, c2, c3, c4]
    refine Jb (.inr rfl) ?_
    simp [Conf.good, d1]
  have c3' : 0 < c.ms.length := List.length_pos_iff.2 c3
  have hno := @Conf.good_no c
  have hyes : (∀ j, j < c.ms.length → memOk c.ms j = true) → c.good = true := by
    intro h
    have : (List.range c.ms.length).all (memOk c.ms) = true := List.all_eq_true.2 fun j hj => h j (List.mem_range.1 hj)
    simp only [Conf.good, this, Bool.and_true, Bool.and_eq_true, decide_eq_true_eq]
    omega
  generalize hr : c.good = res at *
  generalize hms : c.ms = ms at *
  generalize hep : c.epoch = ep at *
  simp [Conf.av, c1, c2, c3, c4, hms, hep]
  refine go_up ms.length (fun j (_ : Unit) => ∀ i, i < j → memOk ms i = true) (fun j (_ : Unit) q => ⟨[(1, .ptr 1 q 0), (26, .sl 34 (Mems ms)), (27, .v (.int .i64 (ms.length : Nat))), (28, .v (.int .i64 (j : Nat)))], [(1, .var q (.node [.v (.int .i64 ep), .sl 34 (Mems ms)]))], q + 1⟩) () _ (Weak.re (by simp)) (by intro i h; omega) ?_ ?_
  · intro j _ q hj hx
    have hw : IntKind.i64.wrap ((j : Int) + 1) = ((j + 1 : Nat) : Int) := Je (by omega)
    have hs : IntKind.i64.wrap ((j : Int) - 1) = (j : Int) - 1 := Jq (by omega)
    have m1 := JHV (G := G) ms[j]
    have hnext : memOk ms j = true → ∀ i, i < j + 1 → memOk ms i = true := by
      intro h i hi
      rcases (show i < j ∨ i = j by omega) with h1 | rfl
      · exact hx i h1
      · exact h
    simp [hj]
    refine Ja m1 ?_ ?_
    · simp
    simp
    cases hg : ms[j].good
    · have hb : memOk ms j = false := by simp [memOk, hj, hg]
      simp [hg]
      refine Jb (.inr rfl) ?_
      simp [hno hj hb]
    by_cases hj0 : j = 0
    · subst hj0
      have hb : memOk ms 0 = true := by simp [memOk, hj, hg]
      have hw1 : IntKind.i64.wrap 1 = 1 := Jq (by omega)
      simp [hg, hw1]
      exact ⟨(), _, Weak.re (by simp), hnext hb⟩
    · have hj1 : 0 < j := by omega
      have hj2 : (j : Int) - 1 < ms.length := by omega
      have hj3 : ((j : Int) - 1).toNat = j - 1 := by omega
      have hj4 : j - 1 < ms.length := by omega
      have hj5 : (1 : Int) ≤ (j : Int) := by omega
      have e := JOt (by omega) hj
      by_cases hl : ms[j-1].id < ms[j].id
      · have hb : memOk ms j = true := by rw [e, hg]; simp [hl]
        have hl' : ¬ ms[j].id ≤ ms[j-1].id := by omega
        simp [hg, hw, hs, hj0, hj1, hj2, hj3, hj4, hj5, hl', Mem.av]
        exact ⟨(), _, Weak.re (by simp), hnext hb⟩
      · have hb : memOk ms j = false := by rw [e, hg]; simp [hl]
        have hl' : ms[j].id ≤ ms[j-1].id := by omega
        simp [hg, hs, hj0, hj1, hj2, hj3, hj4, hj5, hl', Mem.av]
        refine Jb (.inr rfl) ?_
        simp [hno hj hb]
  · intro _ q hx
    have hb := hyes hx
    subst hb
    simp
    refine Jb (.inr rfl) ?_
    simp
end Go.Proofs.YtjlmpdbagmdbiaaDoor.WL
end
section
namespace Go.Proofs.YtjlmpdbagmdbiaaDoor.WL
open Go
set_option maxHeartbeats 4000000
attribute [local irreducible] comp hb sha leafD pairD secD shutD bitD wholeD pubD ofD
@[simp] theorem JVO : 16 ≤ maxLen := by decide
theorem JGH (x : List Dg) (p q : Dg) : Dgs x ++ [AV.arr 1 (B p.bs), AV.arr 1 (B q.bs)] = Dgs (x ++ [p, q]) := by simp [Dgs]
theorem JFS (a : Bytes) : cat [a] = a := by simp [cat]
theorem JKm (s : Dg) : Meets Tryd.prog Gt Jmg [dv s] [] true (dv (shutD s)) [] := by
  refine Jc mix JI2 ⟨by simp, by simp, by simp⟩ ?_
  have h1 := JjV [s.bs] (by simp) (by rw [JFS]; simp)
  rw [JFS] at h1
  have e2 : sha s.bs = shutD s := by unfold shutD; rfl
  rw [e2] at h1
  simp
  refine Ja h1 ?_ ?_
  · simp [Bss]
  simp
  refine Jb (.inr rfl) ?_
  simp
theorem JJB (l : List Dg) (h : l.length ≤ 100000) : Meets Tryd.prog Gt Jj3 [.sl 32 (Dgs l)] [] true (dv (wholeD l)) [] := by
  refine Jc mix JGX ⟨by simp, by simp, by simp⟩ ?_
  have hfl := Jbc l
  have h1 := JjV [flatD l] (by simp) (by rw [JFS]; omega)
  rw [JFS] at h1
  have e2 : sha (flatD l) = wholeD l := by unfold wholeD; rfl
  rw [e2] at h1
  have hw := JX (G := Gt) [] l (by simp; omega)
  have hb := Jhg (G := Gt) (flatD l) (by omega)
  rw [List.nil_append] at hw
  generalize flatD l = x at *
  generalize wholeD l = y at *
  have htx : List.take x.length x = x := List.take_of_length_le (by omega)
  simp
  refine Ja hw ?_ ?_
  · simp [wrM]
  simp [wrM]
  refine Ja hb ?_ ?_
  · simp [wrM]
  simp [wrM]
  refine Ja h1 ?_ ?_
  · simp [Bss, htx]
  simp
  refine Jb (.inr rfl) ?_
  simp
end Go.Proofs.YtjlmpdbagmdbiaaDoor.WL
end
section
namespace Go.Proofs.YtjlmpdbagmdbiaaDoor.WL
open Go
set_option maxHeartbeats 4000000
attribute [local irreducible] comp hb sha leafD pairD secD shutD wholeD pubD ofD
theorem JSH (n : Nat) (h : n < 4294967296) : bitsOp .and .i64 (n : Int) 1 = ((n % 2 : Nat) : Int) := by
  simp only [bitsOp, BitVec.toNat_and, BitVec.toNat_ofInt]
  have e1 : ((n : Int) % ((2 ^ IntKind.i64.bits : Nat) : Int)).toNat = n := by
    rw [← Int.natCast_emod, Int.toNat_natCast, Nat.mod_eq_of_lt (by simp only [IntKind.bits]; omega)]
  have e2 : ((1 : Int) % ((2 ^ IntKind.i64.bits : Nat) : Int)).toNat = 1 := by decide
  rw [e1, e2, Nat.and_one_is_mod, IntKind.wrap_i64]
  omega
theorem tdivN (j k : Nat) : Int.tdiv (j : Int) (k : Int) = ((j / k : Nat) : Int) := by
  rw [Int.tdiv_eq_ediv_of_nonneg (by omega)]
  exact (Int.natCast_ediv j k).symm
theorem tmodN (j k : Nat) : Int.tmod (j : Int) (k : Int) = ((j % k : Nat) : Int) := by
  rw [Int.tmod_eq_emod_of_nonneg (by omega)]
  exact (Int.natCast_emod j k).symm
theorem JMy {G : Nat → Option AV} (d : Dg) (i : Nat) (hi : i < 256) : Meets Tryd.prog G JvH [dv d, .v (.int .i64 (i : Nat))] [] true (.v (.int .i64 (bitD d i : Nat))) [] := by
  refine Jc mix JLQ ⟨by simp, by simp, by simp⟩ ?_
  obtain ⟨q, hq⟩ : ∃ q : Nat, i / 8 = q := ⟨_, rfl⟩
  obtain ⟨r, hr⟩ : ∃ r : Nat, i % 8 = r := ⟨_, rfl⟩
  have d1 : Int.tdiv (i : Int) 8 = (q : Int) := by have := tdivN i 8; rw [hq] at this; exact this
  have d2 : Int.tmod (i : Int) 8 = (r : Int) := by have := tmodN i 8; rw [hr] at this; exact this
  have w0 : IntKind.i64.wrap (q : Int) = (q : Int) := Jq (by omega)
  have hq32 : q < 32 := by omega
  have hq32i : (q : Int) < 32 := by omega
  have hql : q < d.bs.length := by rw [Dg.length]; omega
  obtain ⟨s, hs⟩ : ∃ s : Nat, 7 - r = s := ⟨_, rfl⟩
  have w1 : IntKind.i64.wrap (7 - (r : Int)) = (s : Int) := by rw [Jq (by omega)]; omega
  obtain ⟨b, hb⟩ : ∃ b, d.bs[q] = b := ⟨_, rfl⟩
  have hbn := b.toNat_lt
  have hmin : min s 8 = s := by omega
  obtain ⟨v, hv⟩ : ∃ v : Nat, b.toNat / 2 ^ s = v := ⟨_, rfl⟩
  have hvl : v ≤ b.toNat := by rw [← hv]; exact Nat.div_le_self _ _
  have hfd : Int.fdiv (b.toNat : Int) (2 ^ s) = (v : Int) := by
    rw [Int.fdiv_eq_ediv_of_nonneg _ (by exact Int.le_of_lt (Int.pow_pos (by decide))), ← hv, Int.natCast_ediv]
    simp
  have hfd2 : (b.toNat : Int) / (2 ^ s) = (v : Int) := by
    rw [← hv, Int.natCast_ediv]
    simp
  have w2 : IntKind.i64.wrap (v : Int) = (v : Int) := Jq (by omega)
  have ha := JSH v (by omega)
  have hbit : v % 2 = bitD d i := by
    unfold bitD
    rw [hq, hr, hs, List.getD_eq_getElem?_getD, List.getElem?_eq_getElem hql, Option.getD_some, hb, hv]
  rw [hbit] at ha
  have hget : d.bs[q]? = some b := by rw [List.getElem?_eq_getElem hql, hb]
  simp [d1, d2, w0, hq32, hq32i, w1, hget, hb, hmin, hfd, hfd2, w2, ha]
  refine Jb (.inr rfl) ?_
  simp
theorem JRs (d : Dg) (o s : List Dg) (h : ¬ (o.length = 32 ∧ s.length = 32)) : Meets Tryd.prog Gt JqB [dv d, .node [.sl 32 (Dgs o), .sl 32 (Dgs s)]] [] true (.tup [dv Dg.zero, .v (.bool false)]) [] := by
  refine Jc mix JGl ⟨by simp, by simp, by simp⟩ ?_
  by_cases h1 : o.length = 32
  · have h2 : ¬ s.length = 32 := fun e => h ⟨h1, e⟩
    have h3 : ¬ (s.length : Int) = 32 := by omega
    simp [h1, h2, h3]
    refine Jb (.inr rfl) ?_
    simp
  · have h3 : ¬ (o.length : Int) = 32 := by omega
    simp [h1, h3]
    refine Jb (.inr rfl) ?_
    simp
theorem JNS (d : Dg) (o s : List Dg) (N : Nat) (hN : N = 32) (ho : o.length = N) (hs : s.length = N) : Meets Tryd.prog Gt JqB [dv d, .node [.sl 32 (Dgs o), .sl 32 (Dgs s)]] [] true (.tup [dv (ofD d o s N), .v (.bool true)]) [] := by
  refine Jc mix JGl ⟨by simp, by simp, by simp⟩ ?_
  have hoi : (o.length : Int) = 32 := by omega
  have hsi : (s.length : Int) = 32 := by omega
  have ho32 : o.length = 32 := by omega
  have hs32 : s.length = 32 := by omega
  simp [ho32, hs32]
  refine go_up N (fun j (x : List Dg) => x = ofL d o s j) (fun j x c => ⟨[(2, .ptr 2 c 0), (3, .ptr 3 c 0), (4, .ptr 4 c 0), (6, .row 6 32 c 0 x.length), (21, .v (.int .i64 (j : Nat)))],
    [(2, .var c (dv d)), (3, .var c (.node [.sl 32 (Dgs o), .sl 32 (Dgs s)])), (4, .var c (dv Dg.zero)), (6, .rows c 32 (Dgs x))], c + 1⟩) [] _ (Weak.re (by simp)) rfl ?_ ?_
  · intro j x c hj hx
    have hw : IntKind.i64.wrap ((j : Int) + 1) = ((j + 1 : Nat) : Int) := Je (by omega)
    have hj8 : (j : Int) < 32 := by omega
    have hxl : x.length = 2 * j := by rw [hx, JFi]
    have f1 : fitsB (x.length + 2) 32 := fits (by omega) (by omega)
    have hbt := JMy (G := Gt) d j (by omega)
    have hle := JSy d j
    have hjo : j < o.length := by omega
    have hjs : j < s.length := by omega
    have hnx : x ++ two (bitD d j) (shutD o[j]) s[j] = ofL d o s (j + 1) := by
      have e1 : o.getD j Dg.zero = o[j] := by rw [List.getD_eq_getElem?_getD, List.getElem?_eq_getElem hjo]; rfl
      have e2 : s.getD j Dg.zero = s[j] := by rw [List.getD_eq_getElem?_getD, List.getElem?_eq_getElem hjs]; rfl
      rw [hx, ← e1, ← e2]
      rfl
    generalize bitD d j = b at *
    have t1 := JKm o[j]
    generalize shutD o[j] = a at *
    obtain ⟨z, hz⟩ : ∃ z, s[j] = z := ⟨_, rfl⟩
    rw [hz] at hnx
    rcases hle with rfl | rfl
    · rw [two, if_pos rfl] at hnx
      have w1 : IntKind.i64.wrap (1 - 0) = 1 := by decide
      have w2 : IntKind.i64.wrap 1 = 1 := by decide
      simp [hj8, hjo, hjs, hz]
      refine Ja t1 ?_ ?_
      · simp
      simp [hjo, hjs, hz]
      refine Ja hbt ?_ ?_
      · simp
      simp [f1, hw, w2, JGH]
      exact ⟨x ++ [a, z], _, Weak.re (by simp), hnx⟩
    · rw [two, if_neg (by omega)] at hnx
      have w1 : IntKind.i64.wrap 0 = 0 := by decide
      simp [hj8, hjo, hjs, hz]
      refine Ja t1 ?_ ?_
      · simp
      simp [hjo, hjs, hz]
      refine Ja hbt ?_ ?_
      · simp
      simp [f1, hw, w1, JGH]
      exact ⟨x ++ [z, a], _, Weak.re (by simp), hnx⟩
  · intro x c hx
    have hxl : x.length = 2 * N := by rw [hx, JFi]
    have hwh := JJB x (by omega)
    have hp : wholeD x = ofD d o s N := by rw [hx]; unfold ofD; rfl
    rw [hp] at hwh
    generalize ofD d o s N = y at *
    subst hN
    have htx : List.take x.length x = x := List.take_of_length_le (by omega)
    simp
    refine Ja hwh ?_ ?_
    · simp [htx]
    simp [htx]
    refine Jb (.inr rfl) ?_
    simp
end Go.Proofs.YtjlmpdbagmdbiaaDoor.WL
end
section
namespace Go.Proofs.YtjlmpdbagmdbiaaDoor.WL
open Go
set_option maxHeartbeats 4000000
attribute [local irreducible] comp hb sha leafD pairD
theorem JEp (a b : Dg) : Meets Tryd.prog Gt Jhe [.v (.int .u8 1), dv a, dv b] [] true (dv (pairD a b)) [] := by
  unfold pairD
  exact JLW 1 a b
theorem JK1 (b : Bytes) (h : b.length ≤ 1000000) : Meets Tryd.prog Gt Jpz [.sl 1 (B b)] [] true (dv (leafD b)) [] := by
  refine Jc mix JH6 ⟨by simp, by simp, by simp⟩ ?_
  have e : cat [[0], b] = 0 :: b := by simp [cat]
  have h1 := JjV [[0], b] (by simp) (by rw [e, List.length_cons]; omega)
  rw [e] at h1
  have e2 : sha (0 :: b) = leafD b := by unfold leafD; rfl
  rw [e2] at h1
  simp
  refine Ja h1 ?_ ?_
  · simp [Bss, B_one]
  simp
  refine Jb (.inr rfl) ?_
  simp
end Go.Proofs.YtjlmpdbagmdbiaaDoor.WL
end
