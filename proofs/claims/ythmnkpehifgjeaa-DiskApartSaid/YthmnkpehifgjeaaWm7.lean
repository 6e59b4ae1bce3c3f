/- Texts put together: S16f, S16g, L16f. -/
import Derived.Test.YthmnkpehifgjeaaWm6
import Derived.Shelf.SlIter.Sorted
import Derived.Shelf.SortM.Plain
import Derived.Shelf.SortM.SortNone
import Derived.Lib.SliceRun
section
/-
  CHAPTER 16: Names: slices.Sorted(maps.Keys(m)), by hand.
-/
namespace Go.Proofs.Ythmnkpehifgjeaa.WL
open Go Go.Proofs Go.Shelf Go.RowKit Go.Lib

def rhoSrs : Ren := ⟨fun x => if x = 6 then 22 else if x = 8 then 24 else if x = 9 then 25 else if x = 11 then 27 else if x = 13 then 29 else if x = 12 then 28 else if x = 23 then 39 else if x = 24 then 40 else if x = 14 then 30 else if x = 15 then 31 else if x = 16 then 32 else if x = 17 then 33 else if x = 18 then 34 else if x = 19 then 35 else if x = 20 then 36 else if x = 21 then 37 else if x = 22 then 38 else if x = 25 then 41 else if x = 26 then 42 else if x = 27 then 43 else if x = 28 then 44 else if x = 29 then 45 else if x = 30 then 46 else if x = 31 then 47 else x, fun x => if x = 26 then 9 else if x = 28 then 53 else if x = 24 then 40 else if x = 0 then 0 else if x = 3 then 3 else if x = 37 then 60 else if x = 48 then 71 else if x = 50 then 73 else if x = 4 then 4 else if x = 40 then 63 else if x = 39 then 62 else if x = 45 then 68 else if x = 5 then 5 else if x = 9 then 9 else if x = 51 then 74 else if x = 55 then 78 else if x = 57 then 80 else if x = 58 then 81 else if x = 33 then 56 else x, fun x => x⟩
theorem laySrs : SlLaysZ.n6 Try.prog rhoSrs where
  mixed := mix
  f6 := ⟨Try.f22.name, by kernel_rfl, by kernel_rfl⟩
  f8 := ⟨Try.f24.name, by kernel_rfl, by kernel_rfl⟩
  f11 := ⟨Try.f27.name, by kernel_rfl, by kernel_rfl⟩
  t0 := by kernel_rfl
  a0 := fun w => run_tagg (by kernel_rfl) w
  z0 := fun w => run_tsz (by kernel_rfl) w
  v0 := fun _ => by kernel_rfl
  t24 := by kernel_rfl
  a24 := fun w => run_tagg (by kernel_rfl) w
  z24 := fun w => run_tsz (by kernel_rfl) w
  v24 := fun _ => by kernel_rfl
  t26 := by kernel_rfl
  a26 := fun w => run_tagg (by kernel_rfl) w
  z26 := fun w => run_tsz (by kernel_rfl) w
  v26 := fun _ => by kernel_rfl
  t28 := by kernel_rfl
  a28 := fun w => run_tagg (by kernel_rfl) w
  z28 := fun w => run_tsz (by kernel_rfl) w
  v28 := fun _ => by kernel_rfl
  i26 := by kernel_rfl
def rhoSrx : Ren := ⟨fun x => if x = 6 then 25 else if x = 8 then 29 else if x = 9 then 28 else if x = 19 then 39 else if x = 20 then 40 else if x = 21 then 30 else if x = 22 then 31 else if x = 23 then 32 else if x = 24 then 33 else if x = 25 then 34 else if x = 26 then 35 else if x = 27 then 36 else if x = 28 then 37 else if x = 29 then 38 else if x = 36 then 41 else if x = 31 then 42 else if x = 32 then 43 else if x = 37 then 44 else if x = 38 then 45 else if x = 39 then 46 else if x = 41 then 47 else x, fun x => if x = 27 then 40 else if x = 29 then 9 else if x = 3 then 3 else if x = 32 then 60 else if x = 26 then 40 else if x = 0 then 0 else if x = 44 then 71 else if x = 46 then 73 else if x = 4 then 4 else if x = 36 then 63 else if x = 35 then 62 else if x = 41 then 68 else if x = 5 then 5 else if x = 9 then 9 else if x = 53 then 74 else if x = 57 then 78 else if x = 63 then 80 else if x = 64 then 81 else x, fun x => x⟩
theorem laySrx : SlLaysM.n6 Try.prog rhoSrx where
  mixed := mix
  f6 := ⟨Try.f25.name, by kernel_rfl, by kernel_rfl⟩
  f8 := by kernel_rfl
  f9 := ⟨Try.f28.name, by kernel_rfl, by kernel_rfl⟩
  f19 := by kernel_rfl
  f20 := by kernel_rfl
  f21 := ⟨Try.f30.name, by kernel_rfl, by kernel_rfl⟩
  f22 := ⟨Try.f31.name, by kernel_rfl, by kernel_rfl⟩
  f23 := ⟨Try.f32.name, by kernel_rfl, by kernel_rfl⟩
  f24 := ⟨Try.f33.name, by kernel_rfl, by kernel_rfl⟩
  f25 := ⟨Try.f34.name, by kernel_rfl, by kernel_rfl⟩
  f26 := ⟨Try.f35.name, by kernel_rfl, by kernel_rfl⟩
  f27 := ⟨Try.f36.name, by kernel_rfl, by kernel_rfl⟩
  f28 := ⟨Try.f37.name, by kernel_rfl, by kernel_rfl⟩
  f29 := ⟨Try.f38.name, by kernel_rfl, by kernel_rfl⟩
  f31 := by kernel_rfl
  f32 := by kernel_rfl
  f36 := ⟨Try.f41.name, by kernel_rfl, by kernel_rfl⟩
  f37 := ⟨Try.f44.name, by kernel_rfl, by kernel_rfl⟩
  f38 := ⟨Try.f45.name, by kernel_rfl, by kernel_rfl⟩
  f39 := ⟨Try.f46.name, by kernel_rfl, by kernel_rfl⟩
  f41 := ⟨Try.f47.name, by kernel_rfl, by kernel_rfl⟩
  t0 := by kernel_rfl
  a0 := fun w => run_tagg (by kernel_rfl) w
  z0 := fun w => run_tsz (by kernel_rfl) w
  v0 := fun _ => by kernel_rfl
  t3 := by kernel_rfl
  a3 := fun w => run_tagg (by kernel_rfl) w
  z3 := fun w => run_tsz (by kernel_rfl) w
  v3 := fun _ => by kernel_rfl
  t4 := by kernel_rfl
  a4 := fun w => run_tagg (by kernel_rfl) w
  z4 := fun w => run_tsz (by kernel_rfl) w
  v4 := fun _ => by kernel_rfl
  t5 := by kernel_rfl
  a5 := fun w => run_tagg (by kernel_rfl) w
  z5 := fun w => run_tsz (by kernel_rfl) w
  v5 := fun _ => by kernel_rfl
  t9 := by kernel_rfl
  a9 := fun w => run_tagg (by kernel_rfl) w
  z9 := fun w => run_tsz (by kernel_rfl) w
  v9 := fun _ => by kernel_rfl
  t26 := by kernel_rfl
  a26 := fun w => run_tagg (by kernel_rfl) w
  z26 := fun w => run_tsz (by kernel_rfl) w
  v26 := fun _ => by kernel_rfl
  t27 := by kernel_rfl
  a27 := fun w => run_tagg (by kernel_rfl) w
  z27 := fun w => run_tsz (by kernel_rfl) w
  v27 := fun _ => by kernel_rfl
  t29 := by kernel_rfl
  a29 := fun w => run_tagg (by kernel_rfl) w
  z29 := fun w => run_tsz (by kernel_rfl) w
  v29 := fun _ => by kernel_rfl
  t32 := by kernel_rfl
  a32 := fun w => run_tagg (by kernel_rfl) w
  z32 := fun w => run_tsz (by kernel_rfl) w
  v32 := fun _ => by kernel_rfl
  t35 := by kernel_rfl
  a35 := fun w => run_tagg (by kernel_rfl) w
  z35 := fun w => run_tsz (by kernel_rfl) w
  v35 := fun _ => by kernel_rfl
  t36 := by kernel_rfl
  a36 := fun w => run_tagg (by kernel_rfl) w
  z36 := fun w => run_tsz (by kernel_rfl) w
  v36 := fun _ => by kernel_rfl
  t41 := by kernel_rfl
  a41 := fun w => run_tagg (by kernel_rfl) w
  z41 := fun w => run_tsz (by kernel_rfl) w
  v41 := fun _ => by kernel_rfl
  t44 := by kernel_rfl
  a44 := fun w => run_tagg (by kernel_rfl) w
  z44 := fun w => run_tsz (by kernel_rfl) w
  v44 := fun _ => by kernel_rfl
  t46 := by kernel_rfl
  a46 := fun w => run_tagg (by kernel_rfl) w
  z46 := fun w => run_tsz (by kernel_rfl) w
  v46 := fun _ => by kernel_rfl
  t53 := by kernel_rfl
  a53 := fun w => run_tagg (by kernel_rfl) w
  z53 := fun w => run_tsz (by kernel_rfl) w
  v53 := fun _ => by kernel_rfl
  t57 := by kernel_rfl
  a57 := fun w => run_tagg (by kernel_rfl) w
  z57 := fun w => run_tsz (by kernel_rfl) w
  v57 := fun _ => by kernel_rfl
  t63 := by kernel_rfl
  a63 := fun w => run_tagg (by kernel_rfl) w
  z63 := fun w => run_tsz (by kernel_rfl) w
  v63 := fun _ => by kernel_rfl
  t64 := by kernel_rfl
  a64 := fun w => run_tagg (by kernel_rfl) w
  z64 := fun w => run_tsz (by kernel_rfl) w
  v64 := fun _ => by kernel_rfl

theorem sortsS_ok (m : Nat) : AnyZ.SortsIn Try.prog rhoSrs Fence.wide m :=
  ⟨fun blk off cap ss W hH hblk hsz => callsIn_wide.2 (AnyM.slices_Sort_string laySrx blk off cap ss W hH hblk hsz),
   fun p cap W => callsIn_wide.2 (AnyM.slices_Sort_string_none laySrx p cap W)⟩

set_option maxRecDepth 100000 in
set_option maxHeartbeats 2000000 in
/-- The iterator over a map's keys, for every loop body that keeps its word. -/
theorem keys1_in (n : Nat) (hn : 1 ≤ n) (l Bm b : Nat) (es : Array MapEntry) (clock : Nat) (hB : Borns es clock) (ki : MapEntry → List UInt8) (hki : ∀ x ∈ es.toList, x.key = encStr (ki x)) (J : List MapEntry → World → Prop)
    (hY : ∀ pre x W, J pre W → pre.length < es.size → x ∈ es.toList → YieldAt Fence.wide (n - 1) Try.prog l #[encStr (ki x)] W fun e W' => e = .returned (.bool true) ∧ J (pre ++ [x]) W' ∧ KeepsWalks W W')
    (W : World) (hJ : AbidesFrom W.heap.size J) (hm : W.cell? ⟨Bm, 0, none⟩ = some (.map (some b))) (hb : W.heap[b]? = some (.map es clock)) (h0 : J [] W) :
    CallsIn Fence.wide n Try.prog 26 #[.func (.yield l) #[] #[], .pointer (some ⟨Bm, 0, none⟩)] W fun e W' => (∃ v, e = .returned v) ∧ ∃ vis, vis.Perm es.toList ∧ J vis W' := by
  refine callsIn_of_wp Try.func26 rfl trivial ?_ rfl
  simp only [Try.ntmps26, List.size_toArray, List.length_cons, List.length_nil, Nat.reduceAdd, Nat.reduceSub, Array.replicate_succ, Array.replicate_zero, List.push_toArray, List.append_toArray, List.nil_append, List.cons_append]
  gi_wp2_with (first
    | (gi_at_range; refine wpListIn_range_raw _ rfl _ _ rfl _ _ Try.underlying43 b es clock rfl hb ?_; intro w0 hrg0 hg0 hs0)
    | gi_in)
  go_frame
  gi_loopw [3] (fun _ wr => ∃ vis, WalkAt wr b W.heap.size es clock vis ∧ J vis wr)
    (fun _ wr => es.size - seenLen wr W.heap.size)
  case atStart =>
    exact ⟨[], hrg0, hJ [] W w0 none h0 hg0 (fun r e => by cases e)⟩
  case round =>
    obtain ⟨vis, hrg, hJs⟩ := hrel
    gi_wp2_with (first
      | (gi_at_next; refine wpListIn_next_raw _ rfl _ rfl b W.heap.size es clock vis hB rfl hrg ?_ ?_)
      | gi_in)
    · -- nothing is left
      intro hperm
      gi_wp2
      go_end0
      exact ⟨⟨_, rfl⟩, vis, hperm, hJs⟩
    · -- an entry has come
      intro x w2 hx0 hrg2 hg2 hs2 hen
      have hx : x ∈ es.toList := by simpa using hx0
      have hJ2 : J vis w2 := hJ vis wr w2 (some W.heap.size) hJs hg2 (fun r e => by cases e; exact ⟨Nat.le_refl _, _, hrg.it, rfl⟩)
      have hlt : vis.length < es.size := by
        have := hrg2.len
        simp at this
        omega
      obtain ⟨fn, tmps, assign, body, hy, hR⟩ := hY vis x w2 hJ2 hlt hx
      rw [hki x hx] at hen
      clear hs2
      gi_wp2
      refine hR.mono ?_
      rintro e W3 ⟨rfl, hJ3, hk3⟩
      gi_wp2
      have hrg3 := hrg2.of_walks hk3
      go_roundw
      case rel => exact ⟨vis ++ [x], hrg3, hJ3⟩
      case measure =>
        rw [hrg3.seenLen, hrg.seenLen]
        simp
        omega

set_option maxHeartbeats 2000000 in
/-- maps.Keys: the map is boxed; the function value holds the box. -/
theorem keysS_in (n : Nat) (mb : Option Nat) (w : World) :
    CallsIn Fence.wide n Try.prog 23 #[.map mb] w fun e w' => e = .returned (.func (.func 26) #[] #[.pointer (some ⟨w.heap.size, 0, none⟩)]) ∧ w' = w.alloc (.cells #[.map mb] 43) := by
  refine callsIn_of_wp Try.func23 rfl trivial ?_ rfl
  simp only [Try.ntmps23, List.size_toArray, List.length_cons, List.length_nil, Nat.reduceAdd, Nat.reduceSub, Array.replicate_succ, Array.replicate_zero, List.push_toArray, List.append_toArray, List.nil_append, List.cons_append]
  gi_wp2
  go_ret
  exact ⟨rfl, rfl⟩

theorem keysS_gives (b : Nat) (es : Array MapEntry) (clock : Nat) (hB : Borns es clock) (ki : MapEntry → List UInt8) (hki : ∀ x ∈ es.toList, x.key = encStr (ki x)) (w : World) (Bm : Nat) (hm : w.cell? ⟨Bm, 0, none⟩ = some (.map (some b))) (hBm : Bm < w.heap.size) (hb : w.heap[b]? = some (.map es clock)) (hbl : b < w.heap.size) (n : Nat) (hn : 1 ≤ n) :
    SeqGives Fence.wide n Try.prog 26 #[.pointer (some ⟨Bm, 0, none⟩)] encStr (fun ss : List (List UInt8) => ∃ vis : List MapEntry, vis.Perm es.toList ∧ ss = vis.map ki) es.size w := by
  intro l J W hW hJ hY h0
  have h := keys1_in n hn l Bm b es clock hB ki hki (fun vis W => J (vis.map ki) W) (fun pre x W1 h1 h2 _ => by
    have := hY (pre.map ki) (ki x) W1 h1 (by simpa using h2)
    simpa using this) W (fun s W1 W2 row h1 h2 h3 => hJ (s.map ki) W1 W2 row h1 h2 h3) ((hW.cell (p := ⟨Bm, 0, none⟩) hBm).trans hm) ((hW.block b hbl).trans hb) h0
  refine h.mono ?_
  rintro e W' ⟨hv, vis, hp, hj⟩
  exact ⟨hv, _, ⟨vis, hp, rfl⟩, hj⟩

set_option maxHeartbeats 2000000 in
/-- slices.Sorted over a map's keys. -/
theorem sortedS_in (b : Nat) (es : Array MapEntry) (clock : Nat) (hB : Borns es clock) (ki : MapEntry → List UInt8) (hki : ∀ x ∈ es.toList, x.key = encStr (ki x)) (w : World) (Bm : Nat) (hm : w.cell? ⟨Bm, 0, none⟩ = some (.map (some b))) (hBm : Bm < w.heap.size) (hb : w.heap[b]? = some (.map es clock)) (hbl : b < w.heap.size) (hsz : es.size ≤ 1000000) :
    Calls Try.prog 22 #[.func (.func 26) #[] #[.pointer (some ⟨Bm, 0, none⟩)]] w fun e w' => ∃ (v : Value) (ss : List (List UInt8)), e = .returned v ∧ ss.length = es.size ∧
      w'.ownsRow w.heap.size 9 1 v ss.length (ss.map encStr) ∧ Below w.heap.size w w' := by
  refine (callsIn_wide (n := 6)).1 ?_
  have hseq := keysS_gives b es clock hB ki hki w Bm hm hBm hb hbl 3 (by omega)
  have cS := AnyZ.sorted_in laySrs Fence.wide 6 trivial trivial trivial trivial rfl (by omega) (sortsS_ok _) (enters_of Try.func25 (by kernel_rfl) rfl) 26 #[.pointer (some ⟨Bm, 0, none⟩)] trivial
    (enters_of Try.func26 (by kernel_rfl) rfl) _ es.size (by simp [maxLen]; omega) (by omega) w hseq
  refine cS.mono ?_
  rintro e w' ⟨v, ss, rfl, ⟨vis, hp, rfl⟩, hrow, _, hbel⟩
  have hl : ((vis.map ki).mergeSort (fun x y => decide (x ≤ y))).length = es.size := by
    rw [(List.mergeSort_perm _ _).length_eq, List.length_map, hp.length_eq]; simp
  refine ⟨v, _, rfl, hl, ?_, hbel⟩
  rw [hl]
  have hl2 : (vis.map ki).length = es.size := by rw [List.length_map, hp.length_eq]; simp
  rw [hl2] at hrow
  exact hrow
end Go.Proofs.Ythmnkpehifgjeaa.WL

end
section
/-
  CHAPTER 16: Names' contract.
-/
namespace Go.Proofs.Ythmnkpehifgjeaa.WL
open Go Go.Proofs Go.Shelf Go.RowKit Go.Lib
set_option maxHeartbeats 4000000

noncomputable def sqL : Code → Code
  | .seq a _ => a
  | c => c
noncomputable def sqR : Code → Code
  | .seq _ b => b
  | c => c
noncomputable def rgO : Code → Array Oper
  | .region _ ops _ => ops
  | _ => #[]
theorem wpOps_fn {P : Program} {ops : Array Oper} {Q : Exit → Act → World → Prop} (i : Nat) (rest : List Nat) : wpOps P ops Q (i :: rest) = wpOp P ops Q i (wpOps P ops Q rest) := by
  funext a w
  exact wpOps_cons i rest a w
def kiE (x : MapEntry) : List UInt8 := match x.key with
  | .string s => s.data.toList
  | _ => []
theorem dkEnts_get (nw : List Nat) : ∀ (fs : List Fl) (i j : Nat), (dkEnts nw i fs)[j]? = (fs[j]?).map fun f => entA (.v (.string (mkS f.name))) (.ptr (1010 + (i + j)) (if (i + j) ∈ nw then 1 else 0) 0) ((i + j : Nat) : Int)
  | [], _, _ => rfl
  | f :: fs, i, 0 => by simp [dkEnts]
  | f :: fs, i, j + 1 => by
    have := dkEnts_get nw fs (i + 1) j
    simp only [dkEnts, List.getElem?_cons_succ, this]
    rw [show i + 1 + j = i + (j + 1) by omega]
theorem dkEnts_len (nw : List Nat) : ∀ (fs : List Fl) (i : Nat), (dkEnts nw i fs).length = fs.length
  | [], _ => rfl
  | f :: fs, i => by simp [dkEnts, dkEnts_len nw fs (i + 1)]
theorem dkEnts_all (nw : List Nat) : ∀ (fs : List Fl) (i : Nat), allEnt 1 1 (dkEnts nw i fs) = true
  | [], _ => rfl
  | f :: fs, i => by simp [dkEnts, dkEnts_all nw fs (i + 1)]
def tops (n : Nat) : List AV := List.replicate n .top
@[simp] theorem tops_len (n : Nat) : (tops n).length = n := by simp [tops]
@[simp] theorem tops_closed : ∀ (n : Nat), closeds (tops n) = true
  | 0 => rfl
  | n + 1 => by
    have := tops_closed n
    simp only [tops, List.replicate_succ, closeds, closed, Bool.true_and] at this ⊢
    exact this

section
variable {w0 : World} {Ws I0 : Nat → Prop} {G : Nat → Option AV} {C0 C : Ctx}
theorem Es_tops : ∀ (cs : List Value), (∀ u ∈ cs, u.oneCell' = true) → Es C 1 (tops cs.length) cs
  | [], _ => rfl
  | c :: cs, h => ⟨[c], cs, rfl, rfl, ⟨c, rfl, h c List.mem_cons_self⟩, Es_tops cs (fun u hu => h u (List.mem_cons_of_mem _ hu))⟩
theorem dk_raw (hw : WR w0 Ws I0 C) {l g : Nat} {nw : List Nat} {fs : List Fl} {y : Value} (hp : SV C (.oref l g true) y) (hm : C.m l = some (.ob g (.map false 1 false 1) (.node [.node (dkEnts nw 0 fs), .v (.int .i64 (fs.length : Nat))]))) :
    ∃ (b : Nat) (es : Array MapEntry), y = .map (some b) ∧ C.w.heap[b]? = some (.map es fs.length) ∧ Borns es fs.length ∧ (∀ x ∈ es.toList, x.key = encStr (kiE x)) ∧ es.size = fs.length ∧ b < C.w.heap.size := by
  obtain ⟨r, es, clock, ps, rfl, hb, hheap, hlist, hlens, hV, hcv⟩ := map_open hw hp hm
  obtain ⟨hlen, hent⟩ := ents_of (dkEnts_all nw fs 0) hlens hV
  have hck : clock = fs.length := by
    have := (Value.int.inj hcv).2
    omega
  subst hck
  have hpl : ps.length = fs.length := by rw [← hlen]; exact dkEnts_len nw fs 0
  have hat : ∀ i (h : i < fs.length), ∃ v, ps[i]? = some ([.string (mkS (fs[i]).name)], v, i) := fun i h => by
    have h1 : i < ps.length := by omega
    have he := dkEnts_get nw fs 0 i
    rw [List.getElem?_eq_getElem h, Option.map_some] at he
    have hv := hent i _ _ he (List.getElem?_eq_getElem h1)
    have h2 := hv.k
    have h3 := hv.b
    simp only [entK, entB, entA, V] at h2 h3
    refine ⟨(ps[i]).2.1, ?_⟩
    rw [List.getElem?_eq_getElem h1]
    have e2 : (ps[i]).1 = [.string (mkS (fs[i]).name)] := h2.1
    have e3 : (ps[i]).2.2 = i := by
      have := h3.1
      simp only [List.cons.injEq, Value.int.injEq, true_and, and_true] at this
      omega
    exact congrArg some (Prod.ext e2 (Prod.ext rfl e3))
  have hes : ∀ i (h : i < fs.length), ∃ x, es.toList[i]? = some x ∧ x.key = .string (mkS (fs[i]).name) ∧ x.born = i := fun i h => by
    obtain ⟨k, hk⟩ := hat i h
    refine ⟨entOf false false ([.string (mkS (fs[i]).name)], k, i), ?_, rfl, rfl⟩
    rw [hlist, List.getElem?_map, hk]
    rfl
  have hsz : es.toList.length = fs.length := by rw [hlist, List.length_map, hpl]
  refine ⟨r, es, rfl, hheap, ⟨fun x hx => ?_, ?_⟩, fun x hx => ?_, by simpa using hsz, ?_⟩
  · obtain ⟨i, hi, rfl⟩ := List.getElem_of_mem hx
    obtain ⟨x, h1, _, h3⟩ := hes i (by omega)
    rw [List.getElem?_eq_getElem hi] at h1
    rw [Option.some.inj h1, h3]
    omega
  · have : es.toList.map (·.born) = List.range fs.length := by
      refine List.ext_getElem (by simp [hsz]) fun i h1 h2 => ?_
      have hi : i < es.toList.length := by simpa using h1
      obtain ⟨x, h3, _, h4⟩ := hes i (by omega)
      rw [List.getElem?_eq_getElem hi] at h3
      rw [List.getElem_map, List.getElem_range, Option.some.inj h3, h4]
    rw [this]
    exact List.nodup_range
  · obtain ⟨i, hi, rfl⟩ := List.getElem_of_mem hx
    obtain ⟨x, h1, h2, _⟩ := hes i (by omega)
    rw [List.getElem?_eq_getElem hi] at h1
    rw [Option.some.inj h1]
    unfold kiE
    rw [h2]
  · rcases Nat.lt_or_ge r C.w.heap.size with h | h
    · exact h
    · rw [Array.getElem?_eq_none h] at hheap; cases hheap
/-- A new slice of one-cell things, seen by the machine. -/
theorem WR.newTops (h : WR w0 Ws I0 C) {w' : World} (hg : C.w.grownBy w' none) {base : Nat} (hbase : C.w.heap.size ≤ base) {T : TypeId} {v : Value} {n : Nat} {cs : List Value} (hrow : w'.ownsRow base T 1 v n cs) (hcs : ∀ u ∈ cs, u.oneCell' = true) :
    ∃ C', C.Le C' ∧ WR w0 Ws I0 C' ∧ C'.w = w' ∧ C'.m = C.m ∧ (∀ k, C'.used k ↔ C.used k) ∧ SV C' (.sl 1 (tops n)) v := by
  obtain ⟨hcl, ⟨rfl, h0⟩ | ⟨gb, cap, cur, rfl, h1, h2, h3, h4, h5, h6⟩⟩ := hrow
  · obtain ⟨k1, k2⟩ := h.world hg
    subst h0
    refine ⟨_, k1, k2, rfl, rfl, fun _ => Iff.rfl, none, 0, [], rfl, by simp, by simp, rfl, .inl rfl⟩
  · have hlt : gb < w'.heap.size := by
      rcases Nat.lt_or_ge gb w'.heap.size with h | h
      · exact h
      · rw [Array.getElem?_eq_none h] at h2; cases h2
    obtain ⟨k1, k2⟩ := h.newI hg (Nat.le_trans hbase h1) hlt
    have hln : cs.length = n := by rw [hcl, Nat.mul_one]
    refine ⟨_, k1, k2, rfl, rfl, fun _ => Iff.rfl, some ⟨gb, 0, none⟩, cap, cs, by simp, by simpa using h3, h4, by rw [← hln]; exact Es_tops cs hcs, .inr ⟨gb, 0, rfl, .inr rfl, fun j u hu => ?_⟩⟩
    have hj : j < n := by
      have := (List.getElem?_eq_some_iff.1 hu).1
      omega
    have : cur.toList[j]? = some u := by
      rw [← h6, List.getElem?_take_of_lt (by omega)] at hu
      exact hu
    simp only [World.cell?, h2]
    simpa using this
end

noncomputable def nBody : Code := match Try.f18.body with
  | some c => c
  | none => .skip
theorem n_body : Try.f18.body = some nBody := by kernel_rfl
noncomputable def nb1 : Code := sqR nBody
noncomputable def nb2 : Code := sqR nb1
noncomputable def nb3 : Code := sqR nb2
noncomputable def opsN : Array Oper := rgO (sqL nb2)
theorem n_seq : nBody = .seq (sqL nBody) (.seq (sqL nb1) (.seq (.region 3 opsN false) nb3)) := by kernel_rfl
theorem opsN_size : opsN.size = 7 := by kernel_rfl
theorem opsN_at0 : opsN[0]? = some (opsN[0]!) := by kernel_rfl
theorem opsN_at1 : opsN[1]? = some (opsN[1]!) := by kernel_rfl
theorem opsN_at2 : opsN[2]? = some (opsN[2]!) := by kernel_rfl
theorem opsN_at3 : opsN[3]? = some (opsN[3]!) := by kernel_rfl
theorem opsN_at6 : opsN[6]? = some (opsN[6]!) := by kernel_rfl
theorem opsN_chk0 : chkOper Try.prog opsN 17 (opsN[0]!) ⟨some 11, .mov, [.t 0], none⟩ = true := by kernel_rfl
theorem opsN_chk1 : chkOper Try.prog opsN 17 (opsN[1]!) ⟨some 12, .nilc, [.t 11], none⟩ = true := by kernel_rfl
theorem opsN_chk2 : chkOper Try.prog opsN 17 (opsN[2]!) ⟨some 13, .faddr 0 1 false, [.t 12], none⟩ = true := by kernel_rfl
theorem opsN_chk3 : chkOper Try.prog opsN 17 (opsN[3]!) ⟨some 14, .load false 1, [.t 13], none⟩ = true := by kernel_rfl
theorem opsN_chk6 : chkOper Try.prog opsN 17 (opsN[6]!) ⟨some 2, .mov, [.t 16], none⟩ = true := by kernel_rfl
theorem opsN_at4 : ∃ t p af at', opsN[4]? = some ⟨some 15, .call { callee := .value (.func 23), args := #[.tmp 14], argTypes := at' }, t, p, af, none⟩ := by
  have h : opsN[4]? = some (opsN[4]!) := by kernel_rfl
  have h2 : opsN[4]! = ⟨some 15, .call { callee := .value (.func 23), args := #[.tmp 14], argTypes := #[43] }, (opsN[4]!).type, (opsN[4]!).pos, (opsN[4]!).after, none⟩ := by kernel_rfl
  exact ⟨_, _, _, _, h.trans (congrArg some h2)⟩
theorem opsN_at5 : ∃ t p af at', opsN[5]? = some ⟨some 16, .call { callee := .value (.func 22), args := #[.tmp 15], argTypes := at' }, t, p, af, none⟩ := by
  have h : opsN[5]? = some (opsN[5]!) := by kernel_rfl
  have h2 : opsN[5]! = ⟨some 16, .call { callee := .value (.func 22), args := #[.tmp 15], argTypes := #[53] }, (opsN[5]!).type, (opsN[5]!).pos, (opsN[5]!).after, none⟩ := by kernel_rfl
  exact ⟨_, _, _, _, h.trans (congrArg some h2)⟩

section
variable {w0 : World} {Ws I0 : Nat → Prop} {G : Nat → Option AV} {C0 C : Ctx}
theorem names_calls {nw : List Nat} {fs : List Fl} (hK : fs.length ≤ 1000000) {l g clk : Nat} {s : AS} {a : Act} {rem : List Nat} {Q : Exit → Act → World → Prop} {Kt : Act → World → Prop}
    (hm : Mid w0 Ws I0 G C0 17 clk (clk + 7) rem s a C) (h14 : s.1 14 = some (.oref l g true)) (hl : s.2 l = some (.ob g (.map false 1 false 1) (.node [.node (dkEnts nw 0 fs), .v (.int .i64 (fs.length : Nat))])))
    (hK2 : ∀ a' C', Mid w0 Ws I0 G C0 17 clk (clk + 7) rem (upd (upd s.1 15 none) 16 (some (.sl 1 (tops fs.length))), s.2) a' C' → Kt a' C'.w) :
    wpOp Try.prog opsN Q 4 (wpOp Try.prog opsN Q 5 Kt) a C.w := by
  obtain ⟨y, e14, v14⟩ := hm.fr 14 _ h14
  have hmm : C.m l = some (.ob g (.map false 1 false 1) (.node [.node (dkEnts nw 0 fs), .v (.int .i64 (fs.length : Nat))])) := by rw [hm.m]; exact hl
  obtain ⟨b, es, rfl, hheap, hB, hkey, hsz, hbl⟩ := dk_raw hm.wr v14 hmm
  have hsize := hm.size
  obtain ⟨t1, p1, af1, at1, h1⟩ := opsN_at4
  obtain ⟨t2, p2, af2, at2, h2⟩ := opsN_at5
  unfold wpOp
  rw [h1]
  simp only
  rw [if_pos (by rfl)]
  left
  unfold Oper.wp
  have eg1 : ∀ args w, (callFunc 23 args).run Try.prog w = .ok (.enter 23 args) w := enters_of Try.func23 (by kernel_rfl) rfl
  have eg2 : ∀ args w, (callFunc 22 args).run Try.prog w = .ok (.enter 22 args) w := enters_of Try.func22 (by kernel_rfl) rfl
  have run1 : (execOp a.eval ⟨some 15, .call { callee := .value (.func 23), args := #[.tmp 14], argTypes := at1 }, t1, p1, af1, none⟩).run Try.prog C.w = .ok (.enter 23 #[.map (some b)]) C.w := by
    have e9 : a.eval (.tmp 14) = .map (some b) := by
      show Array.getD _ 14 undef = _
      rw [Array.getD_eq_getD_getElem?, e14]; rfl
    have e : execOp a.eval ⟨some 15, .call { callee := .value (.func 23), args := #[.tmp 14], argTypes := at1 }, t1, p1, af1, none⟩ = callFunc 23 (#[] ++ #[Operand.tmp 14].map a.eval) := rfl
    rw [e, eg1]
    simp [e9]
  rw [run1, Oper.upon_enter]
  refine Calls.mono ((callsIn_wide (n := 3)).1 (keysS_in 3 (some b) C.w)) ?_
  rintro ex w1 ⟨rfl, rfl⟩
  dsimp only
  rw [h2]
  simp only
  rw [if_pos (by rfl)]
  left
  obtain ⟨a1, ha1⟩ : ∃ a1, a.put (some 15) (.func (.func 26) #[] #[.pointer (some ⟨C.w.heap.size, 0, none⟩)]) = a1 := ⟨_, rfl⟩
  have e51 : a1.eval (.tmp 15) = .func (.func 26) #[] #[.pointer (some ⟨C.w.heap.size, 0, none⟩)] := by
    rw [← ha1]
    show Array.getD _ 15 undef = _
    rw [Array.getD_eq_getD_getElem?]
    simp only [Act.put]
    rw [Array.getElem?_setIfInBounds_self_of_lt (by omega)]; rfl
  obtain ⟨w1, hw1⟩ : ∃ w1, C.w.alloc (.cells #[.map (some b)] 43) = w1 := ⟨_, rfl⟩
  have hs1 : w1.heap.size = C.w.heap.size + 1 := by rw [← hw1]; simp
  have hb1 : Below C.w.heap.size C.w w1 := by rw [← hw1]; exact (Below.refl _ _).alloc (Nat.le_refl _) _
  have hcell : w1.cell? ⟨C.w.heap.size, 0, none⟩ = some (.map (some b)) := by
    rw [← hw1]
    unfold World.cell?
    rw [show (C.w.alloc (Obj.cells #[Value.map (some b)] 43)).heap[C.w.heap.size]? = some (.cells #[.map (some b)] 43) from (MapKept.heap_alloc C.w _).1]
    rfl
  have hh1 : w1.heap[b]? = some (.map es fs.length) := (hb1.block b hbl).trans hheap
  rw [ha1, hw1]
  have run2 : (execOp a1.eval ⟨some 16, .call { callee := .value (.func 22), args := #[.tmp 15], argTypes := at2 }, t2, p2, af2, none⟩).run Try.prog w1 = .ok (.enter 22 #[.func (.func 26) #[] #[.pointer (some ⟨C.w.heap.size, 0, none⟩)]]) w1 := by
    have e : execOp a1.eval ⟨some 16, .call { callee := .value (.func 22), args := #[.tmp 15], argTypes := at2 }, t2, p2, af2, none⟩ = callFunc 22 (#[] ++ #[Operand.tmp 15].map a1.eval) := rfl
    rw [e, eg2]
    simp [e51]
  show Oper.wp _ _ _ _ _ _
  unfold Oper.wp
  rw [run2, Oper.upon_enter]
  refine Calls.mono (sortedS_in b es fs.length hB kiE hkey w1 C.w.heap.size hcell (by omega) hh1 (by omega) (by omega)) ?_
  rintro ex w' ⟨v, ss, rfl, hsl, hrow, hbel⟩
  dsimp only
  have hgr : C.w.grownBy w' none := ⟨hbel.os.trans hb1.os, hbel.tape.trans hb1.tape, hbel.output.trans hb1.output, Nat.le_trans hb1.size hbel.size, fun k hk _ => (hbel.block k (by omega)).trans (hb1.block k hk)⟩
  rw [hsl, hsz] at hrow
  obtain ⟨C', hle, hwr, rfl, hCm, hus, hsv⟩ := hm.wr.newTops hgr (by omega) hrow (fun u hu => by
    obtain ⟨x, _, rfl⟩ := List.mem_map.1 hu
    rfl)
  refine hK2 _ C' ⟨hwr, hCm.trans hm.m, ?_, hm.gr.mono hle, hm.le.trans hle, ?_, ?_, fun i hi hu => hm.fresh i hi ((hus _).1 hu), fun k hk => hm.top k ((hus k).1 hk), fun h1 => hm.one ((hus 1).1 h1)⟩
  · intro u x hx
    dsimp only at hx ⊢
    rw [← ha1]
    by_cases e11 : u = 16
    · subst e11
      simp only [upd_same, Option.some.injEq] at hx
      subst hx
      refine ⟨v, ?_, hsv⟩
      simp only [Act.put]
      rw [Array.getElem?_setIfInBounds_self_of_lt (by simp; omega)]
    · rw [upd_other _ _ e11] at hx
      by_cases e10 : u = 15
      · subst e10; simp at hx
      · rw [upd_other _ _ e10] at hx
        obtain ⟨z, h1, h2⟩ := (hm.fr.mono hle) u x hx
        refine ⟨z, ?_, h2⟩
        simp only [Act.put]
        rw [Array.getElem?_setIfInBounds_ne (fun h => e11 h.symm), Array.getElem?_setIfInBounds_ne (fun h => e10 h.symm)]
        exact h1
  · rw [← ha1]; simp [Act.put, hsize]
  · rw [← ha1]; simp [Act.put, hm.defers]
end

variable {G : Nat → Option AV}
def nc0 : CCode := .region c_disk_Disk_Names_r0 none [0]
def nc1 : CCode := .seq (.region c_disk_Disk_Names_r1 none [0, 10]) (.cond (.t 10) (.seq (.region c_disk_Disk_Names_r2 none [2]) .ret) .skip)
theorem nchk0 : chkCode Try.prog 17 (sqL nBody) nc0 = true := by kernel_rfl
theorem nchk1 : chkCode Try.prog 17 (sqL nb1) nc1 = true := by kernel_rfl
theorem nchk3 : chkCode Try.prog 17 nb3 .ret = true := by kernel_rfl
def nS0 (d : Dk) : SA := ⟨[(0, .ptr 1000 0 0)], dkM 0 [] d, 3⟩
def nS1 (d : Dk) : SA := ⟨[(0, .ptr 1000 0 0), (10, .v (.bool false))], dkM 0 [] d, 11⟩
def nS3 (d : Dk) (c : Nat) : SA := ⟨[(2, .sl 1 (tops d.fs.length))], dkM 0 [] d, c⟩
theorem na0 (f0 f1 f2 : Fl) (a c kp : Int) : awp Try.prog G nc0 (fun e S => e = .normal ∧ S = nS0 ⟨[f0, f1, f2], false, a, c, kp⟩) ⟨argsL 0 [.ptr 1000 0 0], dkM 0 [] ⟨[f0, f1, f2], false, a, c, kp⟩, 2⟩ := by
  refine awp_go ?_
  simp [nc0, dkM]
  rfl
theorem na1 (f0 f1 f2 : Fl) (a c kp : Int) : awp Try.prog G nc1 (fun e S => e = .normal ∧ S = nS1 ⟨[f0, f1, f2], false, a, c, kp⟩) (nS0 ⟨[f0, f1, f2], false, a, c, kp⟩) := by
  refine awp_go ?_
  simp [nc1, nS0, dkM]
  rfl
section
variable {w0 : World} {Ws I0 : Nat → Prop} {C0 : Ctx}
theorem n_mid {d : Dk} (hl : d.fs.length ≤ 1000) {a : Act} {w : World} {Q : Exit → Act → World → Prop} (hr : Rel w0 Ws I0 G C0 17 (nS1 d) a w)
    (hK : ∀ a' w', Rel w0 Ws I0 G C0 17 (nS3 d 18) a' w' → Q .normal a' w') : (Code.region 3 opsN false).wp Try.prog Q a w := by
  refine wp_region ?_
  rw [opsN_size, show List.range 7 = [0, 1, 2, 3, 4, 5, 6] from rfl]
  rw [wpOps_fn, wpOps_fn, wpOps_fn, wpOps_fn, wpOps_fn, wpOps_fn, wpOps_fn]
  obtain ⟨hk, C, rfl, hm⟩ := hr
  have hm0 := Rel.start (n := 7) hk hm [0, 1, 2, 3, 6]
  refine mid_op (rd := []) (us := []) (av := .ptr 1000 0 0) opsN_at0 opsN_chk0 (by decide) (by simp) (by simp [nS1]) (by simp [nS1]) hm0 (.inr ⟨rfl, [.ptr 1000 0 0], rfl, rfl, rfl⟩) fun a1 C1 h1 => ?_
  refine mid_op (rd := []) (us := []) (av := .ptr 1000 0 0) opsN_at1 opsN_chk1 (by decide) (by simp) (by simp [nS1]) (by simp [nS1]) h1 (.inr ⟨rfl, [.ptr 1000 0 0], rfl, rfl, rfl⟩) fun a2 C2 h2 => ?_
  refine mid_op (rd := []) (us := []) (av := .ptr 1000 0 0) opsN_at2 opsN_chk2 (by decide) (by simp) (by simp [nS1]) (by simp [nS1]) h2 (.inr ⟨rfl, [.ptr 1000 0 0], rfl, rfl, rfl⟩) fun a3 C3 h3 => ?_
  refine mid_op (rd := [1000]) (us := []) (av := .oref 1001 0 true) opsN_at3 opsN_chk3 (by decide) (by simp) (by simp [nS1]) (by simp [nS1]) h3 (.inr ⟨rfl, [.ptr 1000 0 0], rfl, by rfl, rfl⟩) fun a4 C4 h4 => ?_
  refine names_calls (nw := []) (fs := d.fs) (l := 1001) (g := 0) (by omega) h4 rfl rfl fun a5 C5 h5 => ?_
  refine mid_op (rd := []) (us := []) (av := .sl 1 (tops d.fs.length)) opsN_at6 opsN_chk6 (by decide) (by simp) (by simp [nS1]) (by simp [nS1]) h5 (.inr ⟨rfl, [.sl 1 (tops d.fs.length)], rfl, rfl, rfl⟩) fun a6 C6 h6 => ?_
  refine hK _ _ ⟨by simp [nS3], C6, rfl, h6.wr, h6.m, ?_, h6.gr, h6.le, h6.size, h6.defers, by simp, fun k hk => h6.top k hk, h6.one⟩
  intro t y hx
  have : t = 2 := by
    simp only [nS3, look] at hx
    split at hx
    · omega
    · cases hx
  subst this
  exact h6.fr _ y hx
end
theorem na3 (f0 f1 f2 : Fl) (a c kp : Int) : awp Try.prog G .ret (postA [.tmp 2] (.sl 1 (tops 3)) (dkM 1 [] ⟨[f0, f1, f2], false, a, c, kp⟩)) (nS3 ⟨[f0, f1, f2], false, a, c, kp⟩ 18) := by
  refine awp_go ?_
  simp [nS3, dkM]
  refine post_end (.inr rfl) ?_
  simp [dkM]
theorem names_meets3 (f0 f1 f2 : Fl) (a c kp : Int) : Meets Try.prog G 18 [.ptr 1000 0 0] (dkM 0 [] ⟨[f0, f1, f2], false, a, c, kp⟩) false (.sl 1 (tops 3)) (dkM 1 [] ⟨[f0, f1, f2], false, a, c, kp⟩) := by
  have hf : Try.prog.funcs[18]? = some Try.f18 := by kernel_rfl
  have hnt : Try.f18.ntmps = 17 := by kernel_rfl
  refine meets_of_wp (rs := [.tmp 2]) hf n_body (by kernel_rfl) (by rw [hnt]; simp) ⟨by simp [dkM], by simp, by simp [dkM]⟩ fun w0 Ws I0 C0 a w hr => ?_
  rw [hnt] at hr ⊢
  rw [n_seq]
  refine wp_seq (wp_mono (awp_ok mix nchk0 (na0 f0 f1 f2 _ _ _) hr) ?_)
  rintro e a1 w1 ⟨S1, ⟨rfl, rfl⟩, h1⟩
  refine wp_seq (wp_mono (awp_ok mix nchk1 (na1 f0 f1 f2 _ _ _) h1) ?_)
  rintro e a2 w2 ⟨S2, ⟨rfl, rfl⟩, h2⟩
  refine wp_seq (n_mid (by simp) h2 fun a5 w5 h5 => ?_)
  exact awp_ok mix nchk3 (na3 f0 f1 f2 _ _ _) h5
end Go.Proofs.Ythmnkpehifgjeaa.WL

end
section
/-
  CHAPTER 16: walks of laws: files know nothing of one another.
-/
namespace Go.Proofs.Ythmnkpehifgjeaa.WL
open Go
set_option maxHeartbeats 8000000
variable {G : Nat → Option AV}

theorem diskApart_walk (a b c : Bytes) : Meets Try.prog G fn_l16_DiskApart [.sl 1 (B a), .sl 1 (B b), .sl 1 (B c)] [] true (.v (.bool true)) [] := by
  refine meets_of_go mix k_l16_DiskApart ⟨by simp, by simp, by simp⟩ ?_
  by_cases c1 : (4096 : Int) < (a.length : Nat)
  · simp
    refine call_intro alive16_meets ?_ ?_
    · simp
    simp [c1]
    refine post_end (.inr rfl) ?_
    simp
  by_cases c2 : (4096 : Int) < (b.length : Nat)
  · simp
    refine call_intro alive16_meets ?_ ?_
    · simp
    simp [c1, c2]
    refine post_end (.inr rfl) ?_
    simp
  by_cases c3 : (4096 : Int) < (c.length : Nat)
  · simp
    refine call_intro alive16_meets ?_ ?_
    · simp
    simp [c1, c2, c3]
    refine post_end (.inr rfl) ?_
    simp
  have m1 := app_ok0_0 (G := G) [97] a 0 0 0 (by omega) (by omega) (by omega)
  have m2 := ins_ok1_1 (G := G) ⟨[97], [], a⟩ [98] b (by simp) 1 0 0 (by omega) (by omega) (by simp only [Fl.size, List.length_nil]; omega)
  have m3 := app_ok2_2 (G := G) ⟨[97], [], a⟩ ⟨[98], b, []⟩ [99] c (by simp) (by simp) 2 0 0 (by omega) (by omega) (by simp only [Fl.size, List.length_nil]; omega)
  have m4 := syn_ok3_2 (G := G) ⟨[97], [], a⟩ ⟨[98], b, []⟩ ⟨[99], [], c⟩ (by simp) (by simp) 3 0 0 (by omega) (by omega) (by simp only [Fl.size, List.length_nil]; omega)
  have m5 := ins_ok3_0 (G := G) ⟨[97], [], a⟩ ⟨[98], b, []⟩ ⟨[99], c, []⟩ c 4 0 0 (by omega) (by omega) (by simp only [Fl.size, List.length_nil]; omega)
  have m6 := read_ok3_1 (G := G) ⟨[97], c, []⟩ ⟨[98], b, []⟩ ⟨[99], c, []⟩ (by simp) 5 0 0 (by simp only [Fl.size, List.length_nil]; omega)
  have m7 := read_ok3_2 (G := G) ⟨[97], c, []⟩ ⟨[98], b, []⟩ ⟨[99], c, []⟩ (by simp) (by simp) 5 0 0 (by simp only [Fl.size, List.length_nil]; omega)
  have m8 := read_ok3_0 (G := G) ⟨[97], c, []⟩ ⟨[98], b, []⟩ ⟨[99], c, []⟩ 5 0 0 (by simp only [Fl.size, List.length_nil]; omega)
  have m9 := names_meets3 (G := G) ⟨[97], c, []⟩ ⟨[98], b, []⟩ ⟨[99], c, []⟩ 5 0 0
  dsimp only at m1 m2 m3 m4 m5 m6 m7 m8
  simp only [fz_zero, List.nil_append, List.append_nil, List.length_nil, Nat.zero_add, Nat.add_zero] at m1 m2 m3 m4 m5 m6 m7 m8
  have htb : List.take b.length b = b := List.take_of_length_le (by omega)
  have htc : List.take c.length c = c := List.take_of_length_le (by omega)
  simp
  refine call_intro alive16_meets ?_ ?_
  · simp
  simp [c1, c2, c3]
  refine call_intro new_meets ?_ ?_
  · simp
  simp
  refine call_intro m1 ?_ ?_
  · simp [dkM]
  simp [dkM]
  refine call_intro m2 ?_ ?_
  · simp [dkM]
  simp [dkM]
  refine call_intro m3 ?_ ?_
  · simp [dkM]
  simp [dkM]
  refine call_intro m4 ?_ ?_
  · simp [dkM]
  simp [dkM]
  refine call_intro m5 ?_ ?_
  · simp [dkM]
  simp [dkM]
  refine call_intro m6 ?_ ?_
  · simp [dkM]
  simp [dkM]
  refine call_intro m7 ?_ ?_
  · simp [dkM]
  simp [dkM]
  refine call_intro m8 ?_ ?_
  · simp [dkM]
  simp [dkM, htb, htc]
  refine call_intro m9 ?_ ?_
  · simp [dkM]
  simp [dkM]
  refine post_end (.inr rfl) ?_
  simp
end Go.Proofs.Ythmnkpehifgjeaa.WL

end
