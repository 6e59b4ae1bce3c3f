/- Texts put together: S13f, S13h, S13i, P13c, P13d. -/
import Derived.Test.YtglkfbhjimnboaaDoorWm10
section
/-
  CHAPTER 13: Voters.
-/
namespace Go.Proofs.YtglkfbhjimnboaaDoor.WL
open Go
set_option maxHeartbeats 8000000
variable {G : Nat → Option AV}

theorem tk_find_some {ks : List Int} {k : Int} (h : k ∈ ks) : ∃ i, (tk ks).findIdx? (fun p => decide (p.1 = k)) = some i ∧ (tk ks)[i]? = some (k, .bool true) := by
  have h1 : ((tk ks).findIdx? fun p => decide (p.1 = k)).isSome = true := by
    rw [List.findIdx?_isSome, List.any_eq_true]
    exact ⟨(k, .bool true), List.mem_map.2 ⟨k, h, rfl⟩, by simp⟩
  obtain ⟨i, hi⟩ := Option.isSome_iff_exists.1 h1
  obtain ⟨hlt, hp, _⟩ := List.findIdx?_eq_some_iff_getElem.1 hi
  refine ⟨i, hi, ?_⟩
  rw [List.getElem?_eq_getElem hlt]
  have h2 : (tk ks)[i] = (ks[i]'(by simpa using hlt), .bool true) := by simp [tk]
  rw [h2] at hp ⊢
  simp only [decide_eq_true_eq] at hp
  rw [hp]
theorem tk_find_none {ks : List Int} {k : Int} (h : k ∉ ks) : (tk ks).findIdx? (fun p => decide (p.1 = k)) = none := by
  rw [List.findIdx?_eq_none_iff]
  intro p hp
  obtain ⟨j, hj, rfl⟩ := List.mem_map.1 hp
  simp only [decide_eq_false_iff_not]
  rintro rfl
  exact h hj
theorem voters_meets (B : List Vote) (r : Int) (hn : B.length ≤ 1000) (hs : ∀ v ∈ B, 1 ≤ v.src ∧ v.src ≤ 63) : Meets Tryd.prog G fn_vote_Box_Voters [.ptr 1000 0 0, .v (.int .i64 r)] (boxM 0 B) false (.v (.int .i64 ((whoV B r).length : Nat))) (boxM 0 B) := by
  refine meets_of_go mix k_vote_Box_Voters ⟨by simp [boxM], by simp, by simp [boxM]⟩ ?_
  have hdl : (dom B.length).length = B.length := by simp [dom]
  simp [boxM]
  refine go_wh (fun (a : List Int × List Int) => B.length - a.1.length) (fun a => Vis (dom B.length) a.1 ∧ a.2.Nodup ∧ ∀ k, k ∈ a.2 ↔ ∃ (j : Nat), (j : Int) ∈ a.1 ∧ ∃ (h : j < B.length), B[j].src = k ∧ r ≤ B[j].round)
    (fun a q => ⟨[(1, .v (.int .i64 r)), (5, .oref 7 q true), (14, .oref 14 q false)],
    (14, .ob q .iter (.node [.oref 1001 0 true, .v (.int .i64 (B.length : Nat)), .v (.int .i64 (B.length : Nat)), .node (stampsA a.1)])) :: (7, .ob q (.map false 1 false 1) (.node [.node (numE 0 (tk a.2)), .v (.int .i64 (a.2.length : Nat))])) :: boxM 0 B, q + 1⟩) ([], []) _ (Weak.re1 1000 (by simp [boxM, numE, tk, stampsA])) ⟨Vis.nil _, List.nodup_nil, by simp⟩ ?_
  rintro ⟨vis, K⟩ q ⟨hv, hK, hm⟩
  simp only at hv hK hm
  simp [boxM]
  refine go_next rfl rfl rfl (by simp) (by simp) (fun e he => ?_) ?_ ?_
  · obtain ⟨j, hj, rfl⟩ := boxE_mem B 0 e he
    exact ⟨_, rfl, by omega⟩
  · intro hall
    have hKl : K.length = (whoV B r).length := by
      refine ((List.perm_ext_iff_of_nodup hK (whoV_nodup B r)).2 fun k => ?_).length_eq
      rw [hm, whoV_mem hs]
      constructor
      · rintro ⟨j, _, hj, h⟩; exact ⟨j, hj, h⟩
      · rintro ⟨j, hj, h⟩
        obtain ⟨n, hn1, hn2⟩ := hall _ (boxE_in B 0 j hj)
        have e : n = ((0 + j : Nat) : Int) := (Option.some.inj hn2).symm
        rw [e, Nat.zero_add] at hn1
        exact ⟨j, hn1, hj, h⟩
    simp
    refine post_end (.inr rfl) ?_
    simp [hKl]
  · intro e i he hi hni
    obtain ⟨j, hj, rfl⟩ := boxE_mem B 0 e he
    have hij : i = (j : Int) := by
      have := Option.some.inj hi
      omega
    subst hij
    have hdj : (j : Int) ∈ dom B.length := dom_mem.2 ⟨j, hj, rfl⟩
    have hv2 := hv.snoc hdj hni
    have hlt : vis.length < B.length := by have := hv.lt hdj hni; omega
    have hfb := boxE_findB B 0 j hj
    rw [Nat.zero_add] at hfb
    have hm2 : ∀ j2 : Nat, ((j2 : Int) ∈ vis ++ [(j : Int)]) ↔ ((j2 : Int) ∈ vis ∨ j2 = j) := fun j2 => by
      simp only [List.mem_append, List.mem_singleton]
      constructor
      · rintro (h | h)
        · exact .inl h
        · exact .inr (by omega)
      · rintro (h | rfl)
        · exact .inl h
        · exact .inr rfl
    have hmu : B.length - (vis ++ [(j : Int)]).length < B.length - vis.length := by rw [List.length_append, List.length_singleton]; omega
    obtain ⟨v, hvj⟩ : ∃ v, B[j] = v := ⟨_, rfl⟩
    rw [hvj] at hfb
    simp [hvj]
    refine go_entry (entA (plcA v.kind v.round v.src) v.av (j : Int)) rfl rfl rfl (by simp) (fun e he => ?_) hfb rfl rfl rfl rfl ?_
    · obtain ⟨j2, hj2, rfl⟩ := boxE_mem B 0 e he
      exact ⟨_, rfl⟩
    have hcs : cmpA (.int .i64) (.v (.int .i64 v.src)) (.v (.int .i64 v.src)) = some true := by simp [cmpA]
    by_cases hr : r ≤ v.round
    · by_cases hk : v.src ∈ K
      · obtain ⟨i, hi1, hi2⟩ := tk_find_some hk
        have hfa := numE_find v.src (tk K) 0
        rw [hi1] at hfa
        have hge := numE_get (tk K) 0 i
        rw [hi2] at hge
        simp only [Option.map_some] at hge
        have hset : (numE 0 (tk K)).set i (entA (.v (.int .i64 v.src)) (.v (.bool true)) ((0 + i : Nat) : Int)) = numE 0 (tk K) := by
          obtain ⟨hlt', he'⟩ := List.getElem?_eq_some_iff.1 hge
          rw [← he', List.set_getElem_self]
        rw [Nat.zero_add] at hset hge
        simp [plcA, hr, hfa, hge, hcs]
        refine ⟨(vis ++ [(j : Int)], K), _, Weak.re1 1000 (by simp [boxM, hset]), ⟨hv2, hK, fun k => ?_⟩, hmu⟩
        rw [hm]
        constructor
        · rintro ⟨j2, h1, hj2, h2⟩
          exact ⟨j2, (hm2 j2).2 (.inl h1), hj2, h2⟩
        · rintro ⟨j2, h1, hj2, h2⟩
          rcases (hm2 j2).1 h1 with h1 | rfl
          · exact ⟨j2, h1, hj2, h2⟩
          · have := (hm v.src).1 hk
            rw [hvj] at h2
            rw [← h2.1]
            exact this
      · have hfa := numE_find v.src (tk K) 0
        rw [tk_find_none hk] at hfa
        have hsn := numE_snoc (v.src, .bool true) (tk K) 0
        rw [Nat.zero_add, tk_len] at hsn
        have htk : tk K ++ [(v.src, .bool true)] = tk (K ++ [v.src]) := by simp [tk]
        rw [htk] at hsn
        have hKd : K.length ≤ (dom 64).length := by
          have hvis : Vis (dom 64) K := ⟨hK, fun k hk' => by
            obtain ⟨j2, _, hj2, h3, _⟩ := (hm k).1 hk'
            have := hs _ (List.getElem_mem hj2)
            rw [h3] at this
            exact dom_mem.2 ⟨k.toNat, by omega, by omega⟩⟩
          exact hvis.len
        have hw : IntKind.i64.wrap ((K.length : Int) + 1) = ((K.length + 1 : Nat) : Int) := w64_succ (by simp [dom] at hKd; omega)
        simp [plcA, hr, hfa, hcs]
        refine ⟨(vis ++ [(j : Int)], K ++ [v.src]), _, Weak.re1 1000 (by simp [boxM, hsn]), ⟨hv2, ?_, fun k => ?_⟩, hmu⟩
        · rw [List.nodup_append]
          exact ⟨hK, by simp, fun x hx y hy => by rw [List.mem_singleton] at hy; subst hy; rintro rfl; exact hk hx⟩
        · rw [List.mem_append, List.mem_singleton, hm]
          constructor
          · rintro (⟨j2, h1, hj2, h2⟩ | rfl)
            · exact ⟨j2, (hm2 j2).2 (.inl h1), hj2, h2⟩
            · exact ⟨j, (hm2 j).2 (.inr rfl), hj, by rw [hvj]; exact ⟨rfl, hr⟩⟩
          · rintro ⟨j2, h1, hj2, h2⟩
            rcases (hm2 j2).1 h1 with h1 | rfl
            · exact .inl ⟨j2, h1, hj2, h2⟩
            · rw [hvj] at h2
              exact .inr h2.1.symm
    · simp [plcA, hr]
      refine ⟨(vis ++ [(j : Int)], K), _, Weak.re1 1000 (by simp [boxM]), ⟨hv2, hK, fun k => ?_⟩, hmu⟩
      rw [hm]
      constructor
      · rintro ⟨j2, h1, hj2, h2⟩
        exact ⟨j2, (hm2 j2).2 (.inl h1), hj2, h2⟩
      · rintro ⟨j2, h1, hj2, h2⟩
        rcases (hm2 j2).1 h1 with h1 | rfl
        · exact ⟨j2, h1, hj2, h2⟩
        · rw [hvj] at h2
          exact absurd h2.2 hr
end Go.Proofs.YtglkfbhjimnboaaDoor.WL

end
section
/-
  CHAPTER 13: Reached: the region that asks for the sorted values of a map, by hand.
-/
namespace Go.Proofs.YtglkfbhjimnboaaDoor.WL
open Go Go.Proofs Go.Shelf Go.RowKit Go.Lib
set_option maxHeartbeats 4000000

/-- Numbers under numbers. -/
def kv (K : List (Int × Int)) : List (Int × Value) := K.map fun p => (p.1, .int .i64 p.2)
@[simp] theorem kv_len (K : List (Int × Int)) : (kv K).length = K.length := by simp [kv]
@[simp] theorem kv_closed (K : List (Int × Int)) (i : Nat) : closeds (numE i (kv K)) = true := numE_closed _ _ fun p hp => by
  obtain ⟨k, _, rfl⟩ := List.mem_map.1 hp
  rfl
@[simp] theorem kv_all (K : List (Int × Int)) (i : Nat) : allEnt 1 1 (numE i (kv K)) = true := numE_all _ _ fun p hp => by
  obtain ⟨k, _, rfl⟩ := List.mem_map.1 hp
  rfl
/-- An entry's number. -/
def viE (x : MapEntry) : Int := match x.val with
  | .int _ n => n
  | _ => 0
def sortV (K : List (Int × Int)) : List Int := (K.map (·.2)).mergeSort fun x y => decide (x ≤ y)
theorem sortV_len (K : List (Int × Int)) : (sortV K).length = K.length := by simp [sortV]

section
variable {w0 : World} {Ws I0 : Nat → Prop} {G : Nat → Option AV} {C0 C : Ctx}

theorem numE_raw (hw : WR w0 Ws I0 C) {l g : Nat} {K : List (Int × Int)} {y : Value} (hp : SV C (.oref l g true) y) (hm : C.m l = some (.ob g (.map false 1 false 1) (.node [.node (numE 0 (kv K)), .v (.int .i64 (K.length : Nat))]))) :
    ∃ (b : Nat) (es : Array MapEntry), y = .map (some b) ∧ C.w.heap[b]? = some (.map es K.length) ∧ Borns es K.length ∧ (∀ x ∈ es.toList, x.val = .int .i64 (viE x)) ∧ es.toList.map viE = K.map (·.2) ∧ es.size = K.length ∧ b < C.w.heap.size := by
  obtain ⟨r, es, clock, ps, rfl, hb, hheap, hlist, hlens, hV, hcv⟩ := map_open hw hp hm
  obtain ⟨hlen, hent⟩ := ents_of (kv_all K 0) hlens hV
  have hck : clock = K.length := by
    have := (Value.int.inj hcv).2
    omega
  subst hck
  have hpl : ps.length = K.length := by rw [← hlen]; simp
  have hat : ∀ i (h : i < K.length), ∃ k, ps[i]? = some (k, [.int .i64 (K[i]).2], i) := fun i h => by
    have h1 : i < ps.length := by omega
    have he : (numE 0 (kv K))[i]? = some (entA (.v (.int .i64 (K[i]).1)) (.v (.int .i64 (K[i]).2)) ((0 + i : Nat) : Int)) := by
      rw [numE_get]
      simp [kv, h]
    have hv := hent i _ _ he (List.getElem?_eq_getElem h1)
    have h2 := hv.v
    have h3 := hv.b
    simp only [entV, entB, entA, V] at h2 h3
    refine ⟨(ps[i]).1, ?_⟩
    rw [List.getElem?_eq_getElem h1]
    have e2 : (ps[i]).2.1 = [.int .i64 (K[i]).2] := h2.1
    have e3 : (ps[i]).2.2 = i := by
      have := h3.1
      simp only [List.cons.injEq, Value.int.injEq, true_and, and_true] at this
      omega
    exact congrArg some (Prod.ext rfl (Prod.ext e2 e3))
  have hes : ∀ i (h : i < K.length), ∃ x, es.toList[i]? = some x ∧ x.val = .int .i64 (K[i]).2 ∧ x.born = i := fun i h => by
    obtain ⟨k, hk⟩ := hat i h
    refine ⟨entOf false false (k, [.int .i64 (K[i]).2], i), ?_, rfl, rfl⟩
    rw [hlist, List.getElem?_map, hk]
    rfl
  have hsz : es.toList.length = K.length := by rw [hlist, List.length_map, hpl]
  refine ⟨r, es, rfl, hheap, ⟨fun x hx => ?_, ?_⟩, fun x hx => ?_, ?_, by simpa using hsz, ?_⟩
  · obtain ⟨i, hi, rfl⟩ := List.getElem_of_mem hx
    obtain ⟨x, h1, _, h3⟩ := hes i (by omega)
    rw [List.getElem?_eq_getElem hi] at h1
    rw [Option.some.inj h1, h3]
    omega
  · have : es.toList.map (·.born) = List.range K.length := by
      refine List.ext_getElem (by simp [hsz]) fun i h1 h2 => ?_
      have hi : i < es.toList.length := by simpa using h1
      obtain ⟨x, h3, _, h4⟩ := hes i (by omega)
      rw [List.getElem?_eq_getElem hi] at h3
      rw [List.getElem_map, List.getElem_range, Option.some.inj h3, h4]
    rw [this]
    exact List.nodup_range
  · obtain ⟨i, hi, rfl⟩ := List.getElem_of_mem hx
    obtain ⟨x, h1, h2, _⟩ := hes i (by omega)
    rw [List.getElem?_eq_getElem hi] at h1
    rw [Option.some.inj h1]
    unfold viE
    rw [h2]
  · refine List.ext_getElem (by simp [hsz]) fun i h1 h2 => ?_
    have hi : i < es.toList.length := by simpa using h1
    obtain ⟨x, h3, h4, _⟩ := hes i (by omega)
    rw [List.getElem?_eq_getElem hi] at h3
    rw [List.getElem_map, List.getElem_map, Option.some.inj h3]
    unfold viE
    rw [h4]
  · rcases Nat.lt_or_ge r C.w.heap.size with h | h
    · exact h
    · rw [Array.getElem?_eq_none h] at hheap; cases hheap
theorem Es_I64 : ∀ (ns : List Int), Es C 1 (I64 ns) (ns.map (Value.int .i64))
  | [] => rfl
  | n :: ns => ⟨[.int .i64 n], _, rfl, rfl, ⟨rfl, rfl⟩, Es_I64 ns⟩
/-- A new slice of numbers, seen by the machine. -/
theorem WR.newNums (h : WR w0 Ws I0 C) {w' : World} (hg : C.w.grownBy w' none) {base : Nat} (hbase : C.w.heap.size ≤ base) {T : TypeId} {v : Value} {ns : List Int} (hrow : w'.ownsRow base T 1 v ns.length (ns.map (Value.int .i64))) :
    ∃ C', C.Le C' ∧ WR w0 Ws I0 C' ∧ C'.w = w' ∧ C'.m = C.m ∧ (∀ k, C'.used k ↔ C.used k) ∧ SV C' (.sl 1 (I64 ns)) v := by
  obtain ⟨_, ⟨rfl, h0⟩ | ⟨gb, cap, cur, rfl, h1, h2, h3, h4, h5, h6⟩⟩ := hrow
  · obtain ⟨k1, k2⟩ := h.world hg
    obtain rfl : ns = [] := List.length_eq_zero_iff.1 h0
    refine ⟨_, k1, k2, rfl, rfl, fun _ => Iff.rfl, none, 0, [], rfl, by simp, by simp, rfl, .inl rfl⟩
  · have hlt : gb < w'.heap.size := by
      rcases Nat.lt_or_ge gb w'.heap.size with h | h
      · exact h
      · rw [Array.getElem?_eq_none h] at h2; cases h2
    obtain ⟨k1, k2⟩ := h.newI hg (Nat.le_trans hbase h1) hlt
    refine ⟨_, k1, k2, rfl, rfl, fun _ => Iff.rfl, some ⟨gb, 0, none⟩, cap, ns.map (Value.int .i64), by simp, by simpa using h3, h4, Es_I64 ns, .inr ⟨gb, 0, rfl, .inr rfl, fun j u hu => ?_⟩⟩
    have hj : j < ns.length := by
      have := (List.getElem?_eq_some_iff.1 hu).1
      simpa using this
    have : cur.toList[j]? = some u := by
      rw [← h6, List.getElem?_take_of_lt (by omega)] at hu
      exact hu
    simp only [World.cell?, h2]
    simpa using this
end
end Go.Proofs.YtglkfbhjimnboaaDoor.WL

end
section
/-
  CHAPTER 13: Reached: the two calls.
-/
namespace Go.Proofs.YtglkfbhjimnboaaDoor.WL
open Go Go.Proofs Go.Shelf Go.RowKit Go.Lib
set_option maxHeartbeats 4000000

noncomputable def rBody : Code := match Tryd.f12.body with
  | some c => c
  | none => .skip
theorem r_body : Tryd.f12.body = some rBody := by kernel_rfl
noncomputable def rb1 : Code := seqR rBody
noncomputable def rb2 : Code := seqR rb1
noncomputable def rb3 : Code := seqR rb2
noncomputable def rb4 : Code := seqR rb3
noncomputable def rb5 : Code := seqR rb4
noncomputable def opsR : Array Oper := regOps (seqL rb4)
theorem r_seq : rBody = .seq (seqL rBody) (.seq (seqL rb1) (.seq (seqL rb2) (.seq (seqL rb3) (.seq (.region 11 opsR false) rb5)))) := by kernel_rfl
theorem opsR_size : opsR.size = 4 := by kernel_rfl
theorem opsR_zero : opsR[0]? = some (opsR[0]!) := by kernel_rfl
theorem opsR_three : opsR[3]? = some (opsR[3]!) := by kernel_rfl
theorem opsR_chk0 : chkOper Tryd.prog opsR 60 (opsR[0]!) ⟨some 50, .mov, [.t 5], none⟩ = true := by kernel_rfl
theorem opsR_chk3 : chkOper Tryd.prog opsR 60 (opsR[3]!) ⟨some 9, .mov, [.t 52], none⟩ = true := by kernel_rfl
theorem opsR_one : ∃ t p af at', opsR[1]? = some ⟨some 51, .call { callee := .value (.func 20), args := #[.tmp 50], argTypes := at' }, t, p, af, none⟩ := by
  have h : opsR[1]? = some (opsR[1]!) := by kernel_rfl
  have h2 : opsR[1]! = ⟨some 51, .call { callee := .value (.func 20), args := #[.tmp 50], argTypes := #[66] }, (opsR[1]!).type, (opsR[1]!).pos, (opsR[1]!).after, none⟩ := by kernel_rfl
  exact ⟨_, _, _, _, h.trans (congrArg some h2)⟩
theorem opsR_two : ∃ t p af at', opsR[2]? = some ⟨some 52, .call { callee := .value (.func 19), args := #[.tmp 51], argTypes := at' }, t, p, af, none⟩ := by
  have h : opsR[2]? = some (opsR[2]!) := by kernel_rfl
  have h2 : opsR[2]! = ⟨some 52, .call { callee := .value (.func 19), args := #[.tmp 51], argTypes := #[71] }, (opsR[2]!).type, (opsR[2]!).pos, (opsR[2]!).after, none⟩ := by kernel_rfl
  exact ⟨_, _, _, _, h.trans (congrArg some h2)⟩

section
variable {w0 : World} {Ws I0 : Nat → Prop} {G : Nat → Option AV} {C0 C : Ctx}

/-- The two calls: behind them the sorted numbers stand in slot 52. -/
theorem sorted_calls {K : List (Int × Int)} (hK : K.length ≤ 1000000) {l g clk : Nat} {s : AS} {a : Act} {rem : List Nat} {Q : Exit → Act → World → Prop} {Kt : Act → World → Prop}
    (hm : Mid w0 Ws I0 G C0 60 clk (clk + 4) rem s a C) (h50 : s.1 50 = some (.oref l g true)) (hl : s.2 l = some (.ob g (.map false 1 false 1) (.node [.node (numE 0 (kv K)), .v (.int .i64 (K.length : Nat))])))
    (hK2 : ∀ a' C', Mid w0 Ws I0 G C0 60 clk (clk + 4) rem (upd (upd s.1 51 none) 52 (some (.sl 1 (I64 (sortV K)))), s.2) a' C' → Kt a' C'.w) :
    wpOp Tryd.prog opsR Q 1 (wpOp Tryd.prog opsR Q 2 Kt) a C.w := by
  obtain ⟨y, e50, v50⟩ := hm.fr 50 _ h50
  have hmm : C.m l = some (.ob g (.map false 1 false 1) (.node [.node (numE 0 (kv K)), .v (.int .i64 (K.length : Nat))])) := by rw [hm.m]; exact hl
  obtain ⟨b, es, rfl, hheap, hB, hval, hmap, hsz, hbl⟩ := numE_raw hm.wr v50 hmm
  have hsize := hm.size
  obtain ⟨t1, p1, af1, at1, h1⟩ := opsR_one
  obtain ⟨t2, p2, af2, at2, h2⟩ := opsR_two
  unfold wpOp
  rw [h1]
  simp only
  rw [if_pos (by rfl)]
  left
  unfold Oper.wp
  have eg1 : ∀ args w, (callFunc 20 args).run Tryd.prog w = .ok (.enter 20 args) w := enters_of Tryd.func20 (by kernel_rfl) rfl
  have eg2 : ∀ args w, (callFunc 19 args).run Tryd.prog w = .ok (.enter 19 args) w := enters_of Tryd.func19 (by kernel_rfl) rfl
  have run1 : (execOp a.eval ⟨some 51, .call { callee := .value (.func 20), args := #[.tmp 50], argTypes := at1 }, t1, p1, af1, none⟩).run Tryd.prog C.w = .ok (.enter 20 #[.map (some b)]) C.w := by
    have e9 : a.eval (.tmp 50) = .map (some b) := by
      show Array.getD _ 50 undef = _
      rw [Array.getD_eq_getD_getElem?, e50]; rfl
    have e : execOp a.eval ⟨some 51, .call { callee := .value (.func 20), args := #[.tmp 50], argTypes := at1 }, t1, p1, af1, none⟩ = callFunc 20 (#[] ++ #[Operand.tmp 50].map a.eval) := rfl
    rw [e, eg1]
    simp [e9]
  rw [run1, Oper.upon_enter]
  refine Calls.mono ((callsIn_wide (n := 3)).1 (values_in 3 (some b) C.w)) ?_
  rintro ex w1 ⟨rfl, rfl⟩
  dsimp only
  rw [h2]
  simp only
  rw [if_pos (by rfl)]
  left
  obtain ⟨a1, ha1⟩ : ∃ a1, a.put (some 51) (.func (.func 34) #[] #[.pointer (some ⟨C.w.heap.size, 0, none⟩)]) = a1 := ⟨_, rfl⟩
  have e51 : a1.eval (.tmp 51) = .func (.func 34) #[] #[.pointer (some ⟨C.w.heap.size, 0, none⟩)] := by
    rw [← ha1]
    show Array.getD _ 51 undef = _
    rw [Array.getD_eq_getD_getElem?]
    simp only [Act.put]
    rw [Array.getElem?_setIfInBounds_self_of_lt (by omega)]; rfl
  obtain ⟨w1, hw1⟩ : ∃ w1, C.w.alloc (.cells #[.map (some b)] 66) = w1 := ⟨_, rfl⟩
  have hs1 : w1.heap.size = C.w.heap.size + 1 := by rw [← hw1]; simp
  have hb1 : Below C.w.heap.size C.w w1 := by rw [← hw1]; exact (Below.refl _ _).alloc (Nat.le_refl _) _
  have hcell : w1.cell? ⟨C.w.heap.size, 0, none⟩ = some (.map (some b)) := by 
    rw [← hw1]
    unfold World.cell?
    rw [show (C.w.alloc (Obj.cells #[Value.map (some b)] 66)).heap[C.w.heap.size]? = some (.cells #[.map (some b)] 66) from (MapKept.heap_alloc C.w _).1]
    rfl
  have hh1 : w1.heap[b]? = some (.map es K.length) := (hb1.block b hbl).trans hheap
  rw [ha1, hw1]
  have run2 : (execOp a1.eval ⟨some 52, .call { callee := .value (.func 19), args := #[.tmp 51], argTypes := at2 }, t2, p2, af2, none⟩).run Tryd.prog w1 = .ok (.enter 19 #[.func (.func 34) #[] #[.pointer (some ⟨C.w.heap.size, 0, none⟩)]]) w1 := by
    have e : execOp a1.eval ⟨some 52, .call { callee := .value (.func 19), args := #[.tmp 51], argTypes := at2 }, t2, p2, af2, none⟩ = callFunc 19 (#[] ++ #[Operand.tmp 51].map a1.eval) := rfl
    rw [e, eg2]
    simp [e51]
  show Oper.wp _ _ _ _ _ _
  unfold Oper.wp
  rw [run2, Oper.upon_enter]
  refine Calls.mono (sorted_in b es K.length hB viE hval w1 C.w.heap.size hcell (by omega) hh1 (by omega) (by omega)) ?_
  rintro ex w' ⟨v, rfl, hrow, hbel⟩
  dsimp only
  have hgr : C.w.grownBy w' none := ⟨hbel.os.trans hb1.os, hbel.tape.trans hb1.tape, hbel.output.trans hb1.output, Nat.le_trans hb1.size hbel.size, fun k hk _ => (hbel.block k (by omega)).trans (hb1.block k hk)⟩
  have hrow2 : w'.ownsRow w1.heap.size 3 1 v (sortV K).length ((sortV K).map (Value.int .i64)) := by
    rw [sortV_len, ← hsz]
    rw [hmap] at hrow
    exact hrow
  obtain ⟨C', hle, hwr, rfl, hCm, hus, hsv⟩ := hm.wr.newNums hgr (by omega) hrow2
  refine hK2 _ C' ⟨hwr, hCm.trans hm.m, ?_, hm.gr.mono hle, hm.le.trans hle, ?_, ?_, fun i hi hu => hm.fresh i hi ((hus _).1 hu), fun k hk => hm.top k ((hus k).1 hk), fun h1 => hm.one ((hus 1).1 h1)⟩
  · intro u x hx
    dsimp only at hx ⊢
    rw [← ha1]
    by_cases e11 : u = 52
    · subst e11
      simp only [upd_same, Option.some.injEq] at hx
      subst hx
      refine ⟨v, ?_, hsv⟩
      simp only [Act.put]
      rw [Array.getElem?_setIfInBounds_self_of_lt (by simp; omega)]
    · rw [upd_other _ _ e11] at hx
      by_cases e10 : u = 51
      · subst e10; simp at hx
      · rw [upd_other _ _ e10] at hx
        obtain ⟨z, h1, h2⟩ := (hm.fr.mono hle) u x hx
        refine ⟨z, ?_, h2⟩
        simp only [Act.put]
        rw [Array.getElem?_setIfInBounds_ne (fun h => e11 h.symm), Array.getElem?_setIfInBounds_ne (fun h => e10 h.symm)]
        exact h1
  · rw [← ha1]; simp [Act.put, hsize]
  · rw [← ha1]; simp [Act.put, hm.defers]
end
end Go.Proofs.YtglkfbhjimnboaaDoor.WL

end
section
/-
  CHAPTER 13: the round that so many members reached; more votes never make it less; no program.
-/
namespace Go.Proofs.YtglkfbhjimnboaaDoor.WL
open Go

def maxR : List Vote → Int → Int
  | [], _ => -1
  | v :: vs, f => if v.src = f ∧ maxR vs f < v.round then v.round else maxR vs f
theorem maxR_ge : ∀ (B : List Vote) (f : Int), -1 ≤ maxR B f
  | [], _ => by simp [maxR]
  | v :: vs, f => by
    have := maxR_ge vs f
    unfold maxR
    split
    · omega
    · exact this
theorem maxR_le : ∀ (B : List Vote) (f : Int) (v : Vote), v ∈ B → v.src = f → v.round ≤ maxR B f
  | w :: B, f, v, hv, hf => by
    unfold maxR
    rcases List.mem_cons.1 hv with rfl | hv
    · split
      · exact Int.le_refl _
      · rename_i h
        have : ¬ maxR B f < v.round := fun k => h ⟨hf, k⟩
        omega
    · have := maxR_le B f v hv hf
      split
      · rename_i h; omega
      · exact this
theorem maxR_mem : ∀ (B : List Vote) (f : Int), maxR B f = -1 ∨ ∃ v ∈ B, v.src = f ∧ v.round = maxR B f
  | [], _ => .inl rfl
  | w :: B, f => by
    unfold maxR
    split
    · rename_i h
      exact .inr ⟨w, List.mem_cons_self, h.1, rfl⟩
    · rcases maxR_mem B f with h | ⟨v, h1, h2, h3⟩
      · exact .inl h
      · exact .inr ⟨v, List.mem_cons_of_mem _ h1, h2, h3⟩
def srcsL (B : List Vote) : List Int := (dom 64).filter fun f => B.any fun v => decide (v.src = f)
theorem srcsL_nodup (B : List Vote) : (srcsL B).Nodup := (dom_nodup 64).filter _
theorem srcsL_mem {B : List Vote} (hs : ∀ v ∈ B, 1 ≤ v.src ∧ v.src ≤ 63) {f : Int} : f ∈ srcsL B ↔ ∃ v ∈ B, v.src = f := by
  unfold srcsL
  simp only [List.mem_filter, List.any_eq_true, decide_eq_true_eq]
  constructor
  · rintro ⟨_, v, hv, h1⟩; exact ⟨v, hv, h1⟩
  · rintro ⟨v, hv, h1⟩
    have := hs v hv
    exact ⟨dom_mem.2 ⟨f.toNat, by omega, by omega⟩, v, hv, h1⟩
/-- Of each member the last round. -/
def lastL (B : List Vote) : List (Int × Int) := (srcsL B).map fun f => (f, maxR B f)
structure Voted (B : List Vote) : Prop where
  src : ∀ v ∈ B, 1 ≤ v.src ∧ v.src ≤ 63
  round : ∀ v ∈ B, 0 ≤ v.round
/-- A member's last round. -/
def IsMax (B : List Vote) (k x : Int) : Prop := (∃ v ∈ B, v.src = k ∧ v.round = x) ∧ ∀ v ∈ B, v.src = k → v.round ≤ x
theorem isMax_iff {B : List Vote} (h : Voted B) {k x : Int} : (k, x) ∈ lastL B ↔ IsMax B k x := by
  unfold lastL
  simp only [List.mem_map, Prod.mk.injEq]
  constructor
  · rintro ⟨f, hf, rfl, rfl⟩
    obtain ⟨v, hv, hvf⟩ := (srcsL_mem h.src).1 hf
    refine ⟨?_, fun w hw hwf => maxR_le B f w hw hwf⟩
    rcases maxR_mem B f with k | k
    · have := maxR_le B f v hv hvf
      have := h.round v hv
      omega
    · exact k
  · rintro ⟨⟨v, hv, rfl, rfl⟩, h2⟩
    refine ⟨v.src, (srcsL_mem h.src).2 ⟨v, hv, rfl⟩, rfl, ?_⟩
    have h3 := maxR_le B v.src v hv rfl
    rcases maxR_mem B v.src with k | ⟨w, h4, h5, h6⟩
    · have := h.round v hv
      omega
    · have := h2 w h4 h5
      omega
theorem lastL_nodup (B : List Vote) : (lastL B).Nodup := by
  unfold lastL List.Nodup
  rw [List.pairwise_map]
  exact (srcsL_nodup B).imp fun h e => h (Prod.mk.inj e).1
theorem pairs_nodup {K : List (Int × Int)} (h : (K.map (·.1)).Nodup) : K.Nodup := by
  unfold List.Nodup at h ⊢
  rw [List.pairwise_map] at h
  exact h.imp fun hab e => hab (congrArg Prod.fst e)
theorem last_perm {B : List Vote} (h : Voted B) {K : List (Int × Int)} (h1 : (K.map (·.1)).Nodup) (h2 : ∀ k x, (k, x) ∈ K ↔ IsMax B k x) : K.Perm (lastL B) :=
  (List.perm_ext_iff_of_nodup (pairs_nodup h1) (lastL_nodup B)).2 fun p => by
    obtain ⟨k, x⟩ := p
    rw [h2, isMax_iff h]
def reachV (B : List Vote) (n : Int) : Int := if n < 1 ∨ ((lastL B).length : Int) < n then -1 else (sortV (lastL B)).getD ((lastL B).length - n.toNat) 0
theorem sortV_perm {K L : List (Int × Int)} (h : K.Perm L) : sortV K = sortV L := sort_perm (h.map _)

theorem sortV_pair (K : List (Int × Int)) : (sortV K).Pairwise fun a b => a ≤ b := by
  have tr : ∀ a b c : Int, decide (a ≤ b) = true → decide (b ≤ c) = true → decide (a ≤ c) = true := fun a b c h1 h2 => by simp only [decide_eq_true_eq] at *; omega
  have to : ∀ a b : Int, (decide (a ≤ b) || decide (b ≤ a)) = true := fun a b => by simp only [Bool.or_eq_true, decide_eq_true_eq]; omega
  exact (List.pairwise_mergeSort tr to (K.map (·.2))).imp fun h => by simpa using h
theorem sortV_count (K : List (Int × Int)) (z : Int) : (sortV K).countP (fun x => decide (z ≤ x)) = K.countP fun p => decide (z ≤ p.2) := by
  unfold sortV
  rw [(List.mergeSort_perm (K.map (·.2)) _).countP_eq, List.countP_map]
  rfl
theorem who_count {B : List Vote} (h : Voted B) {z : Int} (hz : 0 ≤ z) : (whoV B z).length = (sortV (lastL B)).countP fun x => decide (z ≤ x) := by
  rw [sortV_count]
  have e : whoV B z = (srcsL B).filter fun f => decide (z ≤ maxR B f) := by
    unfold whoV srcsL
    rw [List.filter_filter]
    refine List.filter_congr fun f _ => ?_
    rw [Bool.eq_iff_iff]
    simp only [List.any_eq_true, Bool.and_eq_true, decide_eq_true_eq]
    constructor
    · rintro ⟨v, hv, h1, h2⟩
      have := maxR_le B f v hv h1
      exact ⟨by omega, v, hv, h1⟩
    · rintro ⟨h1, _⟩
      rcases maxR_mem B f with k | ⟨w, h4, h5, h6⟩
      · omega
      · exact ⟨w, h4, h5, by omega⟩
  rw [e, ← List.countP_eq_length_filter]
  unfold lastL
  rw [List.countP_map]
  rfl
/-- The n-th from above is at least z just if n of them are. -/
theorem nth_from_above {s : List Int} (hs : s.Pairwise fun a b => a ≤ b) {n : Nat} (h0 : 0 < n) (hn : n ≤ s.length) (z : Int) : z ≤ s.getD (s.length - n) 0 ↔ n ≤ s.countP fun x => decide (z ≤ x) := by
  have hi : s.length - n < s.length := by omega
  have e : s.getD (s.length - n) 0 = s[s.length - n] := by simp [List.getD_eq_getElem?_getD, List.getElem?_eq_getElem hi]
  rw [e]
  rw [List.pairwise_iff_getElem] at hs
  have hsp : s.countP (fun x => decide (z ≤ x)) = (s.take (s.length - n)).countP (fun x => decide (z ≤ x)) + (s.drop (s.length - n)).countP (fun x => decide (z ≤ x)) := by
    rw [← List.countP_append, List.take_append_drop]
  constructor
  · intro h
    have : (s.drop (s.length - n)).countP (fun x => decide (z ≤ x)) = n := by
      rw [List.countP_eq_length.2, List.length_drop]
      · omega
      · intro x hx
        obtain ⟨j, hj, rfl⟩ := List.getElem_of_mem hx
        rw [List.getElem_drop]
        rw [List.length_drop] at hj
        simp only [decide_eq_true_eq]
        rcases Nat.eq_zero_or_pos j with rfl | hp
        · simpa using h
        · have := hs (s.length - n) (s.length - n + j) hi (by omega) (by omega)
          omega
    omega
  · intro h
    rcases Int.lt_or_le s[s.length - n] z with hlt | hle
    · exfalso
      have h1 : (s.take (s.length - n + 1)).countP (fun x => decide (z ≤ x)) = 0 := by
        rw [List.countP_eq_zero]
        intro x hx
        obtain ⟨j, hj, rfl⟩ := List.getElem_of_mem hx
        rw [List.length_take] at hj
        rw [List.getElem_take]
        simp only [decide_eq_true_eq]
        rcases (show j = s.length - n ∨ j < s.length - n by omega) with rfl | hp
        · omega
        · have := hs j (s.length - n) (by omega) hi hp
          omega
      have h2 : s.countP (fun x => decide (z ≤ x)) = (s.take (s.length - n + 1)).countP (fun x => decide (z ≤ x)) + (s.drop (s.length - n + 1)).countP (fun x => decide (z ≤ x)) := by
        rw [← List.countP_append, List.take_append_drop]
      have h3 := List.countP_le_length (p := fun x => decide (z ≤ x)) (l := s.drop (s.length - n + 1))
      rw [List.length_drop] at h3
      omega
    · exact hle
theorem reach_ge {B : List Vote} (h : Voted B) (n : Int) : -1 ≤ reachV B n := by
  unfold reachV
  split
  · exact Int.le_refl _
  · rename_i hc
    have hn : 1 ≤ n ∧ n ≤ ((lastL B).length : Int) := by omega
    have hl := sortV_len (lastL B)
    have := (nth_from_above (sortV_pair (lastL B)) (n := n.toNat) (by omega) (by omega) (-1)).2 (by
      have e : (sortV (lastL B)).countP (fun x => decide (-1 ≤ x)) = (sortV (lastL B)).length := by
        rw [List.countP_eq_length]
        intro x hx
        have hx' : x ∈ (lastL B).map (·.2) := (List.mergeSort_perm _ _).subset hx
        obtain ⟨p, hp, rfl⟩ := List.mem_map.1 hx'
        unfold lastL at hp
        obtain ⟨f, _, rfl⟩ := List.mem_map.1 hp
        simpa using maxR_ge B f
      rw [e, hl]
      omega)
    rw [hl] at this
    exact this
theorem reach_iff {B : List Vote} (h : Voted B) {n z : Int} (hn : 1 ≤ n) (hz : 0 ≤ z) : z ≤ reachV B n ↔ n ≤ ((whoV B z).length : Int) := by
  rw [who_count h hz]
  have hl := sortV_len (lastL B)
  unfold reachV
  split
  · rename_i hc
    have := List.countP_le_length (p := fun x => decide (z ≤ x)) (l := sortV (lastL B))
    constructor
    · intro _; omega
    · intro _; omega
  · rename_i hc
    have := nth_from_above (sortV_pair (lastL B)) (n := n.toNat) (by omega) (by omega) z
    rw [hl] at this
    rw [this]
    omega
theorem who_mono {B C : List Vote} (h : ∀ v ∈ B, v ∈ C) (z : Int) : (whoV B z).length ≤ (whoV C z).length := by
  unfold whoV
  rw [← List.countP_eq_length_filter, ← List.countP_eq_length_filter]
  refine List.countP_mono_left fun f _ hf => ?_
  rw [List.any_eq_true] at hf ⊢
  obtain ⟨v, hv, h1⟩ := hf
  exact ⟨v, h v hv, h1⟩
theorem addB_sub (B : List Vote) (v : Vote) : ∀ w ∈ B, w ∈ addB B v := fun w hw => by
  unfold addB
  split
  · exact hw
  · exact List.mem_append_left _ hw
theorem reach_mono {B C : List Vote} (hB : Voted B) (hC : Voted C) (h : ∀ v ∈ B, v ∈ C) (n : Int) : reachV B n ≤ reachV C n := by
  rcases Int.lt_or_le n 1 with h1 | h1
  · unfold reachV
    rw [if_pos (.inl h1), if_pos (.inl h1)]
    exact Int.le_refl _
  · have hg := reach_ge hC n
    rcases Int.lt_or_le (reachV B n) 0 with h2 | h2
    · omega
    · have k1 := (reach_iff hB h1 h2).1 (Int.le_refl _)
      have k2 := who_mono h (reachV B n)
      exact (reach_iff hC h1 h2).2 (by omega)
theorem reach_nil (n : Int) : reachV [] n = -1 := by
  unfold reachV
  have : lastL [] = [] := by simp [lastL, srcsL]
  rw [this]
  by_cases h : n < 1
  · rw [if_pos (.inl h)]
  · rw [if_pos (.inr (by simp; omega))]
/-- Counted votes are of members who voted. -/
theorem for_who {B : List Vote} (k r : Int) (d : Dg) : (forTo B k r d 63).length ≤ (whoV B r).length := by
  have h1 : ∀ i : Nat, (forTo B k r d i).length ≤ ((List.range i).filter fun (t : Nat) => B.any fun v => decide (v.src = (t : Int) + 1) && decide (r ≤ v.round)).length := by
    intro i
    unfold forTo
    rw [← List.countP_eq_length_filter]
    induction i with
    | zero => simp
    | succ i ih =>
      rw [List.range_succ, List.filterMap_append, List.length_append, List.countP_append]
      refine Nat.add_le_add ih ?_
      simp only [List.filterMap_cons, List.filterMap_nil, List.countP_cons, List.countP_nil, Nat.zero_add]
      unfold pickB
      cases hf : findP B k r ((i : Int) + 1) with
      | none => simp
      | some v =>
        have hm := List.mem_of_find?_eq_some hf
        have hp := plc_eq (List.find?_some hf)
        have ha : (B.any fun v => decide (v.src = (i : Int) + 1) && decide (r ≤ v.round)) = true := List.any_eq_true.2 ⟨v, hm, by simp [hp.2.2, hp.2.1]⟩
        rw [ha]
        by_cases hd : v.dg = d <;> simp [hd]
  refine Nat.le_trans (h1 63) ?_
  unfold whoV dom
  rw [List.filter_map, List.length_map]
  rw [← List.countP_eq_length_filter, ← List.countP_eq_length_filter]
  rw [show List.range 64 = 0 :: (List.range 63).map Nat.succ from List.range_succ_eq_map]
  rw [List.countP_cons, List.countP_map]
  refine Nat.le_trans (List.countP_mono_left fun t _ ht => ?_) (Nat.le_add_right _ _)
  simpa [Function.comp] using ht
theorem for_mono (B : List Vote) (v : Vote) (k r : Int) (d : Dg) : (forTo B k r d 63).length ≤ (forTo (addB B v) k r d 63).length := by
  have hp : ∀ f, (pickB B k r d f).isSome = true → (pickB (addB B v) k r d f).isSome = true := fun f h => by
    unfold pickB at h ⊢
    cases hf : findP B k r f with
    | none => rw [hf] at h; simp at h
    | some w =>
      have e : findP (addB B v) k r f = some w := by
        unfold addB
        split
        · exact hf
        · unfold findP at hf ⊢
          rw [List.find?_append, hf]
          rfl
      rw [hf] at h
      rw [e]
      exact h
  have key : ∀ i : Nat, (forTo B k r d i).length ≤ (forTo (addB B v) k r d i).length := by
    intro i
    induction i with
    | zero => simp [forTo]
    | succ i ih =>
      rw [forTo_succ, forTo_succ, List.length_append, List.length_append]
      refine Nat.add_le_add ih ?_
      cases h : pickB B k r d ((i : Int) + 1) with
      | none => simp
      | some w =>
        have h2 := hp _ (by rw [h]; rfl)
        obtain ⟨u, hu⟩ := Option.isSome_iff_exists.1 h2
        rw [hu]
        simp
  exact key 63
end Go.Proofs.YtglkfbhjimnboaaDoor.WL

end
section
/-
  CHAPTER 13: of each member the last round, vote by vote; no program.
-/
namespace Go.Proofs.YtglkfbhjimnboaaDoor.WL
open Go

theorem isMax_ne {S : List Vote} {v : Vote} {k x : Int} (h : v.src ≠ k) : IsMax (S ++ [v]) k x ↔ IsMax S k x := by
  unfold IsMax
  simp only [List.mem_append, List.mem_singleton]
  constructor
  · rintro ⟨⟨w, hw | rfl, h1, h2⟩, h3⟩
    · exact ⟨⟨w, hw, h1, h2⟩, fun u hu => h3 u (.inl hu)⟩
    · exact absurd h1 h
  · rintro ⟨⟨w, hw, h1, h2⟩, h3⟩
    refine ⟨⟨w, .inl hw, h1, h2⟩, fun u hu hk => ?_⟩
    rcases hu with hu | rfl
    · exact h3 u hu hk
    · exact absurd hk h
theorem isMax_uniq {S : List Vote} {k x y : Int} (h : IsMax S k x) (g : IsMax S k y) : x = y := by
  obtain ⟨⟨v, h1, h2, h3⟩, h4⟩ := h
  obtain ⟨⟨w, g1, g2, g3⟩, g4⟩ := g
  have := h4 w g1 g2
  have := g4 v h1 h2
  omega
theorem isMax_new {S : List Vote} {v : Vote} {x : Int} (h : ∀ w ∈ S, w.src ≠ v.src) : IsMax (S ++ [v]) v.src x ↔ x = v.round := by
  unfold IsMax
  simp only [List.mem_append, List.mem_singleton]
  constructor
  · rintro ⟨⟨w, hw | rfl, h1, h2⟩, _⟩
    · exact absurd h1 (h w hw)
    · exact h2.symm
  · rintro rfl
    refine ⟨⟨v, .inr rfl, rfl, rfl⟩, fun u hu hk => ?_⟩
    rcases hu with hu | rfl
    · exact absurd hk (h u hu)
    · exact Int.le_refl _
theorem isMax_up {S : List Vote} {v : Vote} {x0 x : Int} (h : IsMax S v.src x0) (hlt : x0 < v.round) : IsMax (S ++ [v]) v.src x ↔ x = v.round := by
  have hm : IsMax (S ++ [v]) v.src v.round := ⟨⟨v, by simp, rfl, rfl⟩, fun u hu hk => by
    rcases List.mem_append.1 hu with hu | hu
    · have := h.2 u hu hk; omega
    · rw [List.mem_singleton] at hu; subst hu; exact Int.le_refl _⟩
  exact ⟨fun k => isMax_uniq k hm, fun e => e ▸ hm⟩
theorem isMax_same {S : List Vote} {v : Vote} {x0 x : Int} (h : IsMax S v.src x0) (hle : v.round ≤ x0) : IsMax (S ++ [v]) v.src x ↔ IsMax S v.src x := by
  have hm : IsMax (S ++ [v]) v.src x0 := ⟨by
    obtain ⟨⟨w, h1, h2, h3⟩, _⟩ := h
    exact ⟨w, List.mem_append_left _ h1, h2, h3⟩, fun u hu hk => by
    rcases List.mem_append.1 hu with hu | hu
    · exact h.2 u hu hk
    · rw [List.mem_singleton] at hu; subst hu; exact hle⟩
  constructor
  · intro k
    have := isMax_uniq k hm
    subst this
    exact h
  · intro k
    have := isMax_uniq k h
    subst this
    exact hm
/-- Numbers under numbers: of each member of these votes the last round. -/
structure Mx (S : List Vote) (K : List (Int × Int)) : Prop where
  nd : (K.map (·.1)).Nodup
  mem : ∀ k x, (k, x) ∈ K ↔ IsMax S k x
theorem Mx.nil : Mx [] [] := ⟨List.nodup_nil, fun k x => by simp [IsMax]⟩
theorem Mx.key {S : List Vote} {K : List (Int × Int)} (h : Mx S K) (hv : Voted S) {w : Vote} (hw : w ∈ S) : w.src ∈ K.map (·.1) := by
  have : (w.src, maxR S w.src) ∈ lastL S := List.mem_map.2 ⟨w.src, (srcsL_mem hv.src).2 ⟨w, hw, rfl⟩, rfl⟩
  have := (h.mem _ _).2 ((isMax_iff hv).1 this)
  exact List.mem_map.2 ⟨_, this, rfl⟩
theorem Mx.new {S : List Vote} {K : List (Int × Int)} (h : Mx S K) (hv : Voted S) {v : Vote} (hn : v.src ∉ K.map (·.1)) : Mx (S ++ [v]) (K ++ [(v.src, v.round)]) := by
  have hno : ∀ w ∈ S, w.src ≠ v.src := fun w hw e => hn (e ▸ h.key hv hw)
  refine ⟨?_, fun k x => ?_⟩
  · rw [List.map_append, List.nodup_append]
    exact ⟨h.nd, by simp, fun a ha b hb => by simp at hb; subst hb; rintro rfl; exact hn ha⟩
  · rw [List.mem_append, List.mem_singleton, h.mem]
    by_cases hk : v.src = k
    · subst hk
      rw [isMax_new hno]
      constructor
      · rintro (⟨⟨w, h1, h2, _⟩, _⟩ | e)
        · exact absurd h2 (hno w h1)
        · exact (Prod.mk.inj e).2
      · rintro rfl; exact .inr rfl
    · rw [isMax_ne hk]
      constructor
      · rintro (h1 | e)
        · exact h1
        · exact absurd (Prod.mk.inj e).1.symm hk
      · exact .inl
theorem key_uniq {K : List (Int × Int)} (h : (K.map (·.1)).Nodup) {i j : Nat} (hi : i < K.length) (hj : j < K.length) (e : (K[i]).1 = (K[j]).1) : i = j := by
  unfold List.Nodup at h
  rw [List.pairwise_map, List.pairwise_iff_getElem] at h
  rcases Nat.lt_trichotomy i j with k | k | k
  · exact absurd e (h i j hi hj k)
  · exact k
  · exact absurd e.symm (h j i hj hi k)
theorem Mx.up {S : List Vote} {K : List (Int × Int)} (h : Mx S K) {v : Vote} {i : Nat} {x0 : Int} (hi : K[i]? = some (v.src, x0)) (hlt : x0 < v.round) : Mx (S ++ [v]) (K.set i (v.src, v.round)) := by
  obtain ⟨hil, hie⟩ := List.getElem?_eq_some_iff.1 hi
  have hm := (h.mem _ _).1 (List.mem_of_getElem? hi)
  refine ⟨?_, fun k x => ?_⟩
  · have : (K.set i (v.src, v.round)).map (·.1) = K.map (·.1) := by
      refine List.ext_getElem (by simp) fun j h1 h2 => ?_
      simp only [List.getElem_map, List.getElem_set]
      split
      · rename_i e; subst e; rw [hie]
      · rfl
    rw [this]; exact h.nd
  · have hset : (k, x) ∈ K.set i (v.src, v.round) ↔ ((k, x) = (v.src, v.round) ∨ (k ≠ v.src ∧ (k, x) ∈ K)) := by
      constructor
      · intro hx
        obtain ⟨j, hj, e⟩ := List.getElem_of_mem hx
        rw [List.getElem_set] at e
        rw [List.length_set] at hj
        split at e
        · exact .inl e.symm
        · rename_i hij
          refine .inr ⟨fun hk => ?_, e ▸ List.getElem_mem hj⟩
          have e1 : (K[i]).1 = (K[j]).1 := by rw [hie, e]; exact hk.symm
          exact hij (key_uniq h.nd hil hj e1)
      · rintro (e | ⟨hne, hx⟩)
        · rw [e]; exact List.mem_iff_getElem.2 ⟨i, by simpa using hil, by simp⟩
        · obtain ⟨j, hj, e⟩ := List.getElem_of_mem hx
          have hij : i ≠ j := fun e2 => by
            subst e2
            rw [hie] at e
            exact hne (Prod.mk.inj e).1.symm
          exact List.mem_iff_getElem.2 ⟨j, by simpa using hj, by rw [List.getElem_set, if_neg hij, e]⟩
    rw [hset, h.mem]
    by_cases hk : v.src = k
    · subst hk
      rw [isMax_up hm hlt]
      constructor
      · rintro (e | ⟨h1, _⟩)
        · exact (Prod.mk.inj e).2
        · exact absurd rfl h1
      · rintro rfl; exact .inl rfl
    · rw [isMax_ne hk]
      constructor
      · rintro (e | ⟨_, h1⟩)
        · exact absurd (Prod.mk.inj e).1.symm hk
        · exact h1
      · exact fun h1 => .inr ⟨fun e => hk e.symm, h1⟩
theorem Mx.same {S : List Vote} {K : List (Int × Int)} (h : Mx S K) {v : Vote} {i : Nat} {x0 : Int} (hi : K[i]? = some (v.src, x0)) (hle : v.round ≤ x0) : Mx (S ++ [v]) K := by
  have hm := (h.mem _ _).1 (List.mem_of_getElem? hi)
  refine ⟨h.nd, fun k x => ?_⟩
  rw [h.mem]
  by_cases hk : v.src = k
  · subst hk; exact (isMax_same hm hle).symm
  · exact (isMax_ne hk).symm
/-- The votes at these places. -/
def visV (B : List Vote) (vis : List Int) : List Vote := vis.filterMap fun i => B[i.toNat]?
theorem visV_snoc (B : List Vote) (vis : List Int) {j : Nat} (hj : j < B.length) : visV B (vis ++ [(j : Int)]) = visV B vis ++ [B[j]] := by
  unfold visV
  rw [List.filterMap_append]
  simp [hj]
theorem visV_sub {B : List Vote} {vis : List Int} : ∀ v ∈ visV B vis, v ∈ B := fun v hv => by
  obtain ⟨i, _, h⟩ := List.mem_filterMap.1 hv
  exact List.mem_of_getElem? h
theorem visV_all {B : List Vote} {vis : List Int} (h : ∀ j : Nat, j < B.length → (j : Int) ∈ vis) : ∀ v ∈ B, v ∈ visV B vis := fun v hv => by
  obtain ⟨j, hj, rfl⟩ := List.getElem_of_mem hv
  exact List.mem_filterMap.2 ⟨(j : Int), h j hj, by simp [hj]⟩
theorem Voted.sub {A B : List Vote} (h : Voted B) (hs : ∀ v ∈ A, v ∈ B) : Voted A := ⟨fun v hv => h.src v (hs v hv), fun v hv => h.round v (hs v hv)⟩
theorem Mx.all {A B : List Vote} {K : List (Int × Int)} (h : Mx A K) (h1 : ∀ v ∈ A, v ∈ B) (h2 : ∀ v ∈ B, v ∈ A) : Mx B K :=
  ⟨h.nd, fun k x => by
    rw [h.mem]
    unfold IsMax
    constructor
    · rintro ⟨⟨v, k1, k2, k3⟩, k4⟩; exact ⟨⟨v, h1 v k1, k2, k3⟩, fun u hu => k4 u (h2 u hu)⟩
    · rintro ⟨⟨v, k1, k2, k3⟩, k4⟩; exact ⟨⟨v, h2 v k1, k2, k3⟩, fun u hu => k4 u (h1 u hu)⟩⟩
theorem numE_set (p : Int × Value) : ∀ (ps : List (Int × Value)) (i j : Nat), (numE i ps).set j (entA (.v (.int .i64 p.1)) (.v p.2) ((i + j : Nat) : Int)) = numE i (ps.set j p)
  | [], _, _ => by simp [numE]
  | q :: ps, i, 0 => by simp [numE]
  | q :: ps, i, j + 1 => by
    have := numE_set p ps (i + 1) j
    simp only [numE, List.set_cons_succ]
    rw [← this, show i + (j + 1) = i + 1 + j by omega]
end Go.Proofs.YtglkfbhjimnboaaDoor.WL

end
