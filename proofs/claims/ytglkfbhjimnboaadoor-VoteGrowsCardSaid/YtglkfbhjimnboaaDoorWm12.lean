/- Texts put together: S13j, L13c, T02. -/
import Derived.Test.YtglkfbhjimnboaaDoorWm11
import Derived.Test.YtglkfbhjimnboaaDoorRows
import Derived.ProofKit
import Derived.LaidMore
import Derived.Lib.LaidTab
section
/-
  CHAPTER 13: Reached's contract.
-/
namespace Go.Proofs.YtglkfbhjimnboaaDoor.WL
open Go
set_option maxHeartbeats 8000000
variable {G : Nat → Option AV}

def rc0 : CCode := .region c_vote_Box_Reached_r0 none [0, 1]
def rc1 : CCode := .region c_vote_Box_Reached_r1 none [0, 1, 5]
def rc2 : CCode := .seq (.region c_vote_Box_Reached_r2 none [0, 1, 5, 12]) (.cond (.t 12) (.seq (.region c_vote_Box_Reached_r3 none [1, 5, 17]) (.block 0 (.loop (.seq (.head .next 18 (.t 17) c_vote_Box_Reached_r4 [1, 5, 17, 19]) (.seq (.cond (.t 19) (.skip) (.exit 0)) (.block 1 (.seq (.head .entry 20 (.t 17) c_vote_Box_Reached_r5 [1, 5, 6, 17]) (.seq (.region c_vote_Box_Reached_r6 none [1, 5, 6, 7, 8, 17]) (.seq (.region c_vote_Box_Reached_r7 none [1, 5, 6, 17, 36]) (.cond (.t 36) (.region c_vote_Box_Reached_r8 none [1, 5, 17]) (.skip))))))))))) (.skip))
def rc3 : CCode := .seq (.region c_vote_Box_Reached_r9 none [1, 5, 49]) (.cond (.t 49) (.seq (.region c_vote_Box_Reached_r10 none [4]) (.ret)) (.skip))
def rc5 : CCode := .seq (.region c_vote_Box_Reached_r12 none [4]) (.ret)
theorem rchk0 : chkCode Tryd.prog 60 (seqL rBody) rc0 = true := by kernel_rfl
theorem rchk1 : chkCode Tryd.prog 60 (seqL rb1) rc1 = true := by kernel_rfl
theorem rchk2 : chkCode Tryd.prog 60 (seqL rb2) rc2 = true := by kernel_rfl
theorem rchk3 : chkCode Tryd.prog 60 (seqL rb3) rc3 = true := by kernel_rfl
theorem rchk5 : chkCode Tryd.prog 60 rb5 rc5 = true := by kernel_rfl

def rS0 (B : List Vote) (n : Int) : SA := ⟨[(0, .ptr 1000 0 0), (1, .v (.int .i64 n))], boxM 0 B, 3⟩
def rS1 (B : List Vote) (n : Int) : SA := ⟨[(0, .ptr 1000 0 0), (1, .v (.int .i64 n)), (5, .oref 10 3 true)], (10, .ob 3 (.map false 1 false 1) (.node [.node [], .v (.int .i64 0)])) :: boxM 0 B, 5⟩
theorem ra0 (B : List Vote) (n : Int) : awp Tryd.prog G rc0 (fun e S => e = .normal ∧ S = rS0 B n) ⟨argsL 0 [.ptr 1000 0 0, .v (.int .i64 n)], boxM 0 B, 2⟩ := by
  refine awp_go ?_
  simp [rc0, boxM]
  rfl
theorem ra1 (B : List Vote) (n : Int) : awp Tryd.prog G rc1 (fun e S => e = .normal ∧ S = rS1 B n) (rS0 B n) := by
  refine awp_go ?_
  simp [rc1, rS0, boxM]
  rfl
theorem kv_find_none {K : List (Int × Int)} {k : Int} (h : k ∉ K.map (·.1)) : (kv K).findIdx? (fun p => decide (p.1 = k)) = none := by
  rw [List.findIdx?_eq_none_iff]
  intro p hp
  obtain ⟨q, hq, rfl⟩ := List.mem_map.1 hp
  simp only [decide_eq_false_iff_not]
  rintro rfl
  exact h (List.mem_map.2 ⟨q, hq, rfl⟩)
theorem kv_find_some {K : List (Int × Int)} {k : Int} (h : k ∈ K.map (·.1)) : ∃ i x, (kv K).findIdx? (fun p => decide (p.1 = k)) = some i ∧ K[i]? = some (k, x) := by
  obtain ⟨q, hq, rfl⟩ := List.mem_map.1 h
  have h1 : ((kv K).findIdx? fun p => decide (p.1 = q.1)).isSome = true := by
    rw [List.findIdx?_isSome, List.any_eq_true]
    exact ⟨(q.1, .int .i64 q.2), List.mem_map.2 ⟨q, hq, rfl⟩, by simp⟩
  obtain ⟨i, hi⟩ := Option.isSome_iff_exists.1 h1
  obtain ⟨hlt, hp, _⟩ := List.findIdx?_eq_some_iff_getElem.1 hi
  have hlt' : i < K.length := by simpa using hlt
  refine ⟨i, (K[i]).2, hi, ?_⟩
  rw [List.getElem?_eq_getElem hlt']
  have h2 : (kv K)[i] = ((K[i]).1, .int .i64 (K[i]).2) := by simp [kv]
  rw [h2] at hp
  simp only [decide_eq_true_eq] at hp
  exact congrArg some (Prod.ext hp rfl)

def rS2 (B : List Vote) (n : Int) (K : List (Int × Int)) (q c : Nat) (x : AV) : SA := ⟨[(1, .v (.int .i64 n)), (5, .oref 10 q true), (17, .oref 17 q false), (19, .v (.bool false))],
    (10, .ob q (.map false 1 false 1) (.node [.node (numE 0 (kv K)), .v (.int .i64 (K.length : Nat))])) :: (17, .ob q .iter x) :: boxM 0 B, c⟩
theorem ra2 (B : List Vote) (n : Int) (hn : B.length ≤ 1000) (hv : Voted B) : awp Tryd.prog G rc2 (fun e S => e = .normal ∧ ∃ K q c x, K.Perm (lastL B) ∧ S = rS2 B n K q c x) (rS1 B n) := by
  refine awp_go ?_
  have hdl : (dom B.length).length = B.length := by simp [dom]
  simp [rc2, rS1, boxM]
  refine go_wh (fun (a : List Int × List (Int × Int)) => B.length - a.1.length) (fun a => Vis (dom B.length) a.1 ∧ Mx (visV B a.1) a.2)
    (fun a q => ⟨[(1, .v (.int .i64 n)), (5, .oref 10 q true), (17, .oref 17 q false)],
    (10, .ob q (.map false 1 false 1) (.node [.node (numE 0 (kv a.2)), .v (.int .i64 (a.2.length : Nat))])) :: (17, .ob q .iter (.node [.oref 1001 0 true, .v (.int .i64 (B.length : Nat)), .v (.int .i64 (B.length : Nat)), .node (stampsA a.1)])) :: boxM 0 B, q + 1⟩) ([], []) _ (Weak.re1 1000 (by simp [boxM, numE, kv, stampsA])) ⟨Vis.nil _, Mx.nil⟩ ?_
  rintro ⟨vis, K⟩ q ⟨hvi, hM⟩
  simp only at hvi hM
  have hvV : Voted (visV B vis) := hv.sub visV_sub
  have hKl : K.length ≤ 1000 := by
    have h1 : (K.map (·.1)).length ≤ (dom 64).length := by
      have hvis : Vis (dom 64) (K.map (·.1)) := ⟨hM.nd, fun k hk => by
        obtain ⟨p, hp, rfl⟩ := List.mem_map.1 hk
        obtain ⟨⟨w, hw, h2, _⟩, _⟩ := (hM.mem p.1 p.2).1 hp
        have := hvV.src w hw
        rw [h2] at this
        exact dom_mem.2 ⟨p.1.toNat, by omega, by omega⟩⟩
      exact hvis.len
    simp [dom] at h1
    omega
  simp [boxM]
  refine go_next rfl rfl rfl (by simp) (by simp) (fun e he => ?_) ?_ ?_
  · obtain ⟨j, hj, rfl⟩ := boxE_mem B 0 e he
    exact ⟨_, rfl, by omega⟩
  · intro hall
    have hp : K.Perm (lastL B) := by
      have := hM.all visV_sub (visV_all fun j hj => by
        obtain ⟨n, hn1, hn2⟩ := hall _ (boxE_in B 0 j hj)
        have e : n = ((0 + j : Nat) : Int) := (Option.some.inj hn2).symm
        rw [e, Nat.zero_add] at hn1
        exact hn1)
      exact last_perm hv this.nd this.mem
    simp
    exact ⟨K, hp, q, _, _, rfl⟩
  · intro e i he hi hni
    obtain ⟨j, hj, rfl⟩ := boxE_mem B 0 e he
    have hij : i = (j : Int) := by
      have := Option.some.inj hi
      omega
    subst hij
    have hdj : (j : Int) ∈ dom B.length := dom_mem.2 ⟨j, hj, rfl⟩
    have hv2 := hvi.snoc hdj hni
    have hlt : vis.length < B.length := by have := hvi.lt hdj hni; omega
    have hfb := boxE_findB B 0 j hj
    rw [Nat.zero_add] at hfb
    have hsn := visV_snoc B vis hj
    have hmu : B.length - (vis ++ [(j : Int)]).length < B.length - vis.length := by rw [List.length_append, List.length_singleton]; omega
    obtain ⟨v, hvj⟩ : ∃ v, B[j] = v := ⟨_, rfl⟩
    rw [hvj] at hfb hsn
    simp [hvj]
    refine go_entry (entA (plcA v.kind v.round v.src) v.av (j : Int)) rfl rfl rfl (by simp) (fun e he => ?_) hfb rfl rfl rfl rfl ?_
    · obtain ⟨j2, hj2, rfl⟩ := boxE_mem B 0 e he
      exact ⟨_, rfl⟩
    have hcs : cmpA (.int .i64) (.v (.int .i64 v.src)) (.v (.int .i64 v.src)) = some true := by simp [cmpA]
    by_cases hk : v.src ∈ K.map (·.1)
    · obtain ⟨i, x0, hi1, hi2⟩ := kv_find_some hk
      have hfa := numE_find v.src (kv K) 0
      rw [hi1] at hfa
      have hge := numE_get (kv K) 0 i
      rw [show (kv K)[i]? = some (v.src, .int .i64 x0) by simp [kv, hi2]] at hge
      simp only [Option.map_some] at hge
      rw [Nat.zero_add] at hge
      by_cases hr : x0 < v.round
      · have hM2 := hM.up hi2 hr
        have hset := numE_set (v.src, .int .i64 v.round) (kv K) 0 i
        rw [Nat.zero_add, show (kv K).set i (v.src, .int .i64 v.round) = kv (K.set i (v.src, v.round)) by simp [kv]] at hset
        simp [plcA, hfa, hge, hcs, hr]
        exact ⟨(vis ++ [(j : Int)], K.set i (v.src, v.round)), _, Weak.re1 1000 (by simp [boxM, hset]), ⟨hv2, by rw [hsn]; exact hM2⟩, hmu⟩
      · have hM2 := hM.same hi2 (by omega)
        simp [plcA, hfa, hge, hcs, hr]
        exact ⟨(vis ++ [(j : Int)], K), _, Weak.re1 1000 (by simp [boxM]), ⟨hv2, by rw [hsn]; exact hM2⟩, hmu⟩
    · have hfa := numE_find v.src (kv K) 0
      rw [kv_find_none hk] at hfa
      have hsa := numE_snoc (v.src, .int .i64 v.round) (kv K) 0
      rw [Nat.zero_add, kv_len, show kv K ++ [(v.src, .int .i64 v.round)] = kv (K ++ [(v.src, v.round)]) by simp [kv]] at hsa
      have hM2 := hM.new hvV hk
      have hw : IntKind.i64.wrap ((K.length : Int) + 1) = ((K.length + 1 : Nat) : Int) := w64_succ (by omega)
      simp [plcA, hfa, hcs]
      exact ⟨(vis ++ [(j : Int)], K ++ [(v.src, v.round)]), _, Weak.re1 1000 (by simp [boxM, hsa]), ⟨hv2, by rw [hsn]; exact hM2⟩, hmu⟩

def rRes (B : List Vote) (n : Int) : Prop := n < 1 ∨ ((lastL B).length : Int) < n
def rS3 (B : List Vote) (n : Int) (K : List (Int × Int)) (q c : Nat) (x : AV) : SA := ⟨[(1, .v (.int .i64 n)), (5, .oref 10 q true), (49, .v (.bool false))],
    (10, .ob q (.map false 1 false 1) (.node [.node (numE 0 (kv K)), .v (.int .i64 (K.length : Nat))])) :: (17, .ob q .iter x) :: boxM 0 B, c⟩
def rS4 (B : List Vote) (n : Int) (K : List (Int × Int)) (q c : Nat) (x : AV) : SA := ⟨[(1, .v (.int .i64 n)), (9, .sl 1 (I64 (sortV K)))],
    (10, .ob q (.map false 1 false 1) (.node [.node (numE 0 (kv K)), .v (.int .i64 (K.length : Nat))])) :: (17, .ob q .iter x) :: boxM 0 B, c⟩
theorem ra3 (B : List Vote) (n : Int) (K : List (Int × Int)) (q c : Nat) (x : AV) (hK : K.Perm (lastL B)) (hl : K.length ≤ 1000) :
    awp Tryd.prog G rc3 (fun e S => (rRes B n ∧ e = .ret ∧ postA [.tmp 4] (.v (.int .i64 (-1))) (boxM 0 B) e S) ∨ (¬ rRes B n ∧ e = .normal ∧ ∃ c', S = rS3 B n K q c' x)) (rS2 B n K q c x) := by
  refine awp_go ?_
  have hlen := hK.length_eq
  by_cases h1 : n < 1
  · have hr : rRes B n := .inl h1
    simp [rc3, rS2, h1, hr, boxM]
    refine post_end (.inr rfl) ?_
    simp
  · by_cases h2 : (K.length : Int) < n
    · have hr : rRes B n := .inr (by omega)
      simp [rc3, rS2, h1, h2, hr, boxM]
      refine post_end (.inr rfl) ?_
      simp
    · have hr : ¬ rRes B n := by unfold rRes; omega
      simp [rc3, rS2, h1, h2, hr, boxM]
      exact ⟨_, rfl⟩

section
variable {w0 : World} {Ws I0 : Nat → Prop} {C0 : Ctx}
theorem r_mid {B : List Vote} {n : Int} {K : List (Int × Int)} {q c : Nat} {x : AV} (hl : K.length ≤ 1000) {a : Act} {w : World} {Q : Exit → Act → World → Prop} (hr : Rel w0 Ws I0 G C0 60 (rS3 B n K q c x) a w)
    (hK : ∀ a' w', Rel w0 Ws I0 G C0 60 (rS4 B n K q (c + 4) x) a' w' → Q .normal a' w') : (Code.region 11 opsR false).wp Tryd.prog Q a w := by
  refine wp_region ?_
  rw [opsR_size, show List.range 4 = [0, 1, 2, 3] from rfl]
  rw [wpOps_fun, wpOps_fun, wpOps_fun, wpOps_fun]
  obtain ⟨hk, C, rfl, hm⟩ := hr
  have hm0 := Rel.start (n := 4) hk hm [0, 3]
  have hc2 : 2 ≤ c := hk
  refine mid_op (rd := []) (us := []) (av := .oref 10 q true) opsR_zero opsR_chk0 (by decide) (by simp) (by simp [rS3]) (by simp [rS3]; omega) hm0 (.inr ⟨rfl, [.oref 10 q true], rfl, rfl, rfl⟩) fun a1 C1 h1 => ?_
  refine sorted_calls (K := K) (l := 10) (g := q) (by omega) h1 rfl rfl fun a3 C3 h3 => ?_
  refine mid_op (rd := []) (us := []) (av := .sl 1 (I64 (sortV K))) opsR_three opsR_chk3 (by decide) (by simp) (by simp [rS3]) (by simp [rS3]) h3 (.inr ⟨rfl, [.sl 1 (I64 (sortV K))], rfl, rfl, rfl⟩) fun a4 C4 h4 => ?_
  refine hK _ _ ⟨by simp [rS4], C4, rfl, h4.wr, h4.m, ?_, h4.gr, h4.le, h4.size, h4.defers, by simp, fun k hk => h4.top k hk, h4.one⟩
  intro t y hx
  have : t = 1 ∨ t = 9 := by
    simp only [rS4, look] at hx
    split at hx
    · omega
    · split at hx
      · omega
      · cases hx
  rcases this with rfl | rfl <;> exact h4.fr _ y hx
end
theorem ra5 (B : List Vote) (n : Int) (K : List (Int × Int)) (q c : Nat) (x : AV) (hK : K.Perm (lastL B)) (hl : K.length ≤ 1000) (hr : ¬ rRes B n) :
    awp Tryd.prog G rc5 (postA [.tmp 4] (.v (.int .i64 (reachV B n))) (boxM 0 B)) (rS4 B n K q c x) := by
  refine awp_go ?_
  unfold rS4
  have hlen := hK.length_eq
  have hsl := sortV_len K
  have hn : 1 ≤ n ∧ n ≤ (K.length : Int) := by unfold rRes at hr; omega
  have hv : reachV B n = (sortV K).getD (K.length - n.toNat) 0 := by
    unfold reachV
    unfold rRes at hr
    rw [if_neg hr, sortV_perm hK, hlen]
  have hlt : K.length - n.toNat < (sortV K).length := by omega
  have hg : (sortV K)[K.length - n.toNat]? = some (reachV B n) := by
    rw [hv, List.getD_eq_getElem?_getD, List.getElem?_eq_getElem hlt]
    rfl
  have hw : IntKind.i64.wrap ((K.length : Int) - n) = ((K.length - n.toNat : Nat) : Int) := by
    rw [w64_id (by omega)]; omega
  have hlt2 : ((K.length - n.toNat : Nat) : Int) < (K.length : Nat) := by omega
  generalize reachV B n = R at *
  generalize K.length - n.toNat = i at *
  generalize sortV K = s at *
  simp [rc5, boxM, hsl, hw, hg, hlt]
  refine post_end (.inr rfl) ?_
  simp
theorem reached_meets (B : List Vote) (n : Int) (hn : B.length ≤ 1000) (hv : Voted B) : Meets Tryd.prog G 12 [.ptr 1000 0 0, .v (.int .i64 n)] (boxM 0 B) false (.v (.int .i64 (reachV B n))) (boxM 0 B) := by
  have hf : Tryd.prog.funcs[12]? = some Tryd.f12 := by kernel_rfl
  have hnt : Tryd.f12.ntmps = 60 := by kernel_rfl
  refine meets_of_wp (rs := [.tmp 4]) hf r_body (by kernel_rfl) (by rw [hnt]; simp) ⟨by simp [boxM], by simp, by simp [boxM]⟩ fun w0 Ws I0 C0 a w hr => ?_
  rw [hnt] at hr ⊢
  rw [r_seq]
  refine wp_seq (wp_mono (awp_ok mix rchk0 (ra0 B n) hr) ?_)
  rintro e a1 w1 ⟨S1, ⟨rfl, rfl⟩, h1⟩
  refine wp_seq (wp_mono (awp_ok mix rchk1 (ra1 B n) h1) ?_)
  rintro e a2 w2 ⟨S2, ⟨rfl, rfl⟩, h2⟩
  refine wp_seq (wp_mono (awp_ok mix rchk2 (ra2 B n hn hv) h2) ?_)
  rintro e a3 w3 ⟨S3, ⟨rfl, K, q, c, x, hK, rfl⟩, h3⟩
  have hl : K.length ≤ 1000 := by
    rw [hK.length_eq]
    have := List.length_filter_le (fun f => B.any fun v => decide (v.src = f)) (dom 64)
    simp only [lastL, List.length_map, srcsL]
    have h64 : (dom 64).length = 64 := by simp [dom]
    omega
  refine wp_seq (wp_mono (awp_ok mix rchk3 (ra3 B n K q c x hK hl) h3) ?_)
  rintro e a4 w4 ⟨S4, ⟨hr1, rfl, hp⟩ | ⟨hr1, rfl, c', rfl⟩, h4⟩
  · have hR : reachV B n = -1 := if_pos hr1
    rw [hR]
    exact ⟨S4, hp, h4⟩
  · refine wp_seq (r_mid hl h4 fun a5 w5 h5 => ?_)
    exact awp_ok mix rchk5 (ra5 B n K q _ x hK hl hr1) h5
end Go.Proofs.YtglkfbhjimnboaaDoor.WL

end
section
/-
  CHAPTER 13: MORE VOTES NEVER MAKE LESS.
-/
namespace Go.Proofs.YtglkfbhjimnboaaDoor.WL
open Go
set_option maxHeartbeats 8000000
variable {G : Nat → Option AV}
attribute [local irreducible] comp hb sha leafD pairD secD shutD wholeD pubD ofD Dg.one

theorem addB_mem2 {B : List Vote} {v w : Vote} (h : w ∈ addB B v) : w ∈ B ∨ w = v := by
  unfold addB at h
  split at h
  · exact .inl h
  · rcases List.mem_append.1 h with h | h
    · exact .inl h
    · exact .inr (by simpa using h)
theorem walk_VoteGrows (vs : List Vote) (k r : Int) (d : Dg) (n : Int) (hn : vs.length ≤ reachBytes) : Meets Tryd.prog Gt fn_l13_VoteGrows [.sl 41 (Votes vs), .v (.int .i64 k), .v (.int .i64 r), dv d, .v (.int .i64 n)] [] true (.v (.bool true)) [] := by
  refine meets_of_go mix k_l13_VoteGrows ⟨by simp, by simp, by simp⟩ ?_
  have m1 := alive13_meets
  by_cases c1 : (60 : Int) < (vs.length : Nat)
  · simp
    refine call_intro m1 ?_ ?_
    · simp
    simp [c1]
    refine post_end (.inr rfl) ?_
    simp
  have d1 : vs.length ≤ 60 := by omega
  have m2 := newBox_meets (G := Gt)
  simp
  refine call_intro m1 ?_ ?_
  · simp
  simp [c1]
  refine call_intro m2 ?_ ?_
  · simp [boxM]
  simp [boxM]
  refine go_up vs.length (fun j (a : List Vote) => a.length ≤ j ∧ Voted a)
    (fun j a c => ⟨[(1, .v (.int .i64 k)), (2, .v (.int .i64 r)), (4, .v (.int .i64 n)), (8, .ptr 8 c 0), (11, .ptr 11 c 0), (12, .v (.int .i64 ((forTo a k r d 63).length : Nat))), (13, .v (.int .i64 ((whoV a r).length : Nat))), (14, .v (.int .i64 (reachV a n))), (26, .sl 41 (Votes vs)), (27, .v (.int .i64 (vs.length : Nat))), (28, .v (.int .i64 (j : Nat)))],
      [(8, .var c (dv d)), (11, .var c (.node [.oref 1001 c true])), (1001, .ob c (.map true 3 true 41) (.node [.node (boxE 0 a), .v (.int .i64 (a.length : Nat))]))], c + 1⟩) [] _ (Weak.re (by simp [boxE, reach_nil, show forTo [] k r d 63 = [] by simp [forTo, pickB, findP], show whoV [] r = [] by simp [whoV]])) ⟨by simp, ⟨by simp, by simp⟩⟩ ?_ ?_
  · rintro j B c hj ⟨i1, i2⟩
    have hw : IntKind.i64.wrap ((j : Int) + 1) = ((j + 1 : Nat) : Int) := w64_succ (by omega)
    obtain ⟨v, hv⟩ : ∃ v, vs[j] = v := ⟨_, rfl⟩
    have m3 := rvgood_meets (G := Gt) v
    have m4 := great13_meets (G := Gt) v.sig
    have m5 := add_meets (G := Gt) B v (by omega)
    cases hg : v.good with
    | false =>
      rw [hg] at m3
      simp [hj, hv]
      refine call_intro m3 ?_ ?_
      · simp
      simp [hg]
      refine post_end (.inr rfl) ?_
      simp
    | true =>
    rw [hg] at m3
    cases hgr : v.sig.greatF with
    | true =>
      rw [hgr] at m4
      simp [hj, hv]
      refine call_intro m3 ?_ ?_
      · simp
      simp [hg]
      refine call_intro m4 ?_ ?_
      · simp
      simp [hgr]
      refine post_end (.inr rfl) ?_
      simp
    | false =>
    rw [hgr] at m4
    have hs0 : (1 ≤ v.src ∧ v.src ≤ 63) ∧ 0 ≤ v.round := by
      simp only [Vote.good, Bool.and_eq_true, decide_eq_true_eq] at hg
      omega
    have ha1 := addB_len B v
    have hV : Voted (addB B v) := ⟨fun w hw => by
      rcases addB_mem2 hw with h | rfl
      · exact i2.src w h
      · exact hs0.1, fun w hw => by
      rcases addB_mem2 hw with h | rfl
      · exact i2.round w h
      · exact hs0.2⟩
    have e1 := for_mono B v k r d
    have e2 := who_mono (addB_sub B v) r
    have e3 := reach_mono i2 hV (addB_sub B v) n
    have e4 := for_who (B := addB B v) k r d
    have m6 := count_meets (G := Gt) (addB B v) k r d (by omega)
    have m7 := voters_meets (G := Gt) (addB B v) r (by omega) hV.src
    have m8 := reached_meets (G := Gt) (addB B v) n (by omega) hV
    have hlen : (addB B v).length ≤ j + 1 := by omega
    generalize addB B v = B' at *
    have q1 : ¬ (((forTo B' k r d 63).length : Nat) : Int) < ((forTo B k r d 63).length : Nat) := by omega
    have q2 : ¬ (((whoV B' r).length : Nat) : Int) < ((whoV B r).length : Nat) := by omega
    have q3 : ¬ reachV B' n < reachV B n := by omega
    have q4 : ¬ (((whoV B' r).length : Nat) : Int) < ((forTo B' k r d 63).length : Nat) := by omega
    simp [hj, hv]
    refine call_intro m3 ?_ ?_
    · simp
    simp [hg]
    refine call_intro m4 ?_ ?_
    · simp
    simp [hgr]
    refine call_intro m5 ?_ ?_
    · simp [boxM]
    simp [boxM]
    refine call_intro m6 ?_ ?_
    · simp [boxM]
    simp [boxM]
    refine call_intro m7 ?_ ?_
    · simp [boxM]
    simp [boxM]
    refine call_intro m8 ?_ ?_
    · simp [boxM]
    simp [boxM, q1, q2, q3, q4, hw]
    exact ⟨B', _, Weak.re (by simp), hlen, hV⟩
  · intro _ q _
    simp
    refine post_end (.inr rfl) ?_
    simp
end Go.Proofs.YtglkfbhjimnboaaDoor.WL

end
section
/-
  CHAPTER 02: what the row's condition gives the walks: the table in the program's variable.
-/
namespace Go.Proofs.YtglkfbhjimnboaaDoor.WL
open Go

theorem gTable : Tryd.prog.globalNamed "wapentake/sha.table" = some 0 := by kernel_rfl
def tableZ : List Int := table.map w32
theorem laid_eq {H : Type} : (Rows.laid_wapentake_sha_table : DataW H) = Lib.tabData .u32 tableZ := rfl
theorem Es_ints {C : Ctx} : ∀ ws : List UInt32, Es C 1 (U ws) (ws.map fun z => Value.int .u32 (w32 z))
  | [] => rfl
  | w :: ws => ⟨[_], _, rfl, rfl, ⟨rfl, rfl⟩, Es_ints ws⟩
theorem gr_of_laid {W : World} (h : laidMetH Tryd.prog [("wapentake/sha.table", Rows.laid_wapentake_sha_table)] W) : GR ⟨W, fun k => k < W.heap.size, fun _ => none, fun _ => none, fun g => g = 0⟩ Gt := by
  rw [MakeChecks.laidMetH_plain _ _ _ (by kernel_rfl), laid_eq] at h
  have hT : Lib.TabIs Tryd.prog W "wapentake/sha.table" .u32 tableZ := by
    refine Lib.tabIs_of_head (t := 119) (e := 101) (n := 64) gTable ?_ ?_ ?_ ?_ ?_ h
    · kernel_rfl
    · kernel_rfl
    · kernel_rfl
    · kernel_rfl
    · kernel_rfl
  intro n x hx
  unfold Gt at hx
  split at hx
  · rename_i hn
    subst hn
    cases hx
    refine ⟨by simp [closed, closeds, U, closeds_all], 0, 0, _, rfl, ?_, Es_ints table, ?_⟩
    · have h0 := hT.cell gTable 0 (by decide)
      show 0 < W.heap.size
      rcases Nat.eq_zero_or_pos W.heap.size with h1 | h1
      · simp [World.cell?, Array.getElem?_eq_none (Nat.le_of_eq h1)] at h0
      · exact h1
    · intro j u hu
      have hj : j < table.length := by
        rcases Nat.lt_or_ge j table.length with h1 | h1
        · exact h1
        · rw [List.getElem?_eq_none (by simpa using h1)] at hu
          cases hu
      have h1 := hT.cell gTable j (by simpa [tableZ] using hj)
      rw [Nat.zero_add, h1]
      simp [List.getElem?_eq_getElem hj] at hu
      rw [← hu]
      simp [tableZ, List.getD_eq_getElem?_getD, List.getElem?_eq_getElem hj]
  · cases hx
end Go.Proofs.YtglkfbhjimnboaaDoor.WL

end
