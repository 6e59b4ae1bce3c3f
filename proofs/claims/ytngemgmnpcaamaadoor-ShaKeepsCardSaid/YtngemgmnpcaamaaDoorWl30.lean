/-
  A LAW: from the contract to the row's statement.
-/
import Derived.Test.YtngemgmnpcaamaaDoorWl29
import Derived.ProofKit
import Derived.Carry
import Derived.ChangeOld
import Derived.SizedLaws
namespace Go.Proofs.YtngemgmnpcaamaaDoor.WL
open Go Go.ChangeShapes Go.WideShapes Go.ChangeAt Go.RowKit

section
variable {H : Type} {enc : TypeId × Value → H} {P : Program} {W W' : World}

theorem trodAll_below (hl : laidOutB P = true) (hb : Below W.heap.size W W') : ∀ {ts : List TypeId} {vs : List Value} {ds : List (DataW H)} {ps : List MemPlace}, (∀ t ∈ ts, P.readableRec t = true ∧ t < P.types.size) →
    DataW.TrodAll enc P W 0 (fun _ => true) true ts vs ds ps → (∀ p ∈ ps, p.block < W.heap.size) → DataW.TrodAll enc P W' 0 (fun b => decide (b < W.heap.size)) true ts vs ds ps
  | [], [], [], _, _, h, _ => h
  | t :: ts, v :: vs, d :: ds, ps, ht, h, hp => by
    obtain ⟨p, q, h1, h2, rfl⟩ := h
    exact ⟨p, q, Below.trod hl (ht t List.mem_cons_self).1 (ht t List.mem_cons_self).2 h1 hb (fun x hx => hp x (List.mem_append_left _ hx)),
      trodAll_below hl hb (fun t' h' => ht t' (List.mem_cons_of_mem _ h')) h2 (fun x hx => hp x (List.mem_append_right _ hx)), rfl⟩
  | [], [], _ :: _, _, _, h, _ => h.elim
  | [], _ :: _, _, _, _, h, _ => by cases ‹List (DataW H)› <;> exact h.elim
  | _ :: _, [], _, _, _, h, _ => by cases ‹List (DataW H)› <;> exact h.elim
  | _ :: _, _ :: _, [], _, _, h, _ => h.elim

theorem trodAll_same (hb : Below W.heap.size W W') : ∀ {ts : List TypeId} {vs : List Value} {ds : List (DataW H)} {ps : List MemPlace},
    DataW.TrodAll enc P W 0 (fun _ => true) true ts vs ds ps → (∀ p ∈ ps, p.block < W.heap.size) → DataW.TrodAll enc P W' 0 (fun _ => true) true ts vs ds ps
  | [], [], [], _, h, _ => h
  | t :: ts, v :: vs, d :: ds, ps, h, hp => by
    obtain ⟨p, q, ⟨fuel, h1⟩, h2, rfl⟩ := h
    exact ⟨p, q, ⟨fuel, DataW.trod_carry _ _ _ _ h1 (fun x hx => hb.same (hp x (List.mem_append_left _ hx)))⟩, trodAll_same hb h2 (fun x hx => hp x (List.mem_append_right _ hx)), rfl⟩
  | [], [], _ :: _, _, h, _ => h.elim
  | [], _ :: _, _, _, h, _ => by cases ‹List (DataW H)› <;> exact h.elim
  | _ :: _, [], _, _, h, _ => by cases ‹List (DataW H)› <;> exact h.elim
  | _ :: _, _ :: _, [], _, h, _ => h.elim

theorem slot_of {C : Ctx} {n base : Nat} {t : TypeId} {v : Value} {av : AV} (hs : simpleT P n t = true) (hok : Value.okWide P C.w .any base t v) (hT : Typed P n t av) (hv : V C av v.cells.toList) : SV C av v := by
  cases n with
  | zero => simp [simpleT] at hs
  | succ n =>
    have one : av.isAgg = false → (∀ cs, v ≠ .agg cs) → SV C av v := fun ha hne => by
      have e : v.cells.toList = [v] := by
        cases v <;> first | rfl | exact absurd rfl (hne _)
      rw [e] at hv
      exact SV_one hv ha
    simp only [Typed] at hT
    unfold Value.okWide at hok
    split at hT
    · rename_i hu
      obtain ⟨b, rfl⟩ := hT
      rw [hu] at hok
      refine one rfl fun cs e => ?_
      subst e
      simp [Cell.okWide, Cell.ok, hu] at hok
    · rename_i k hu
      obtain ⟨b, rfl, _⟩ := hT
      rw [hu] at hok
      refine one rfl fun cs e => ?_
      subst e
      simp [Cell.okWide, Cell.ok, hu] at hok
    · rename_i hu
      obtain ⟨b, rfl, _⟩ := hT
      rw [hu] at hok
      refine one rfl fun cs e => ?_
      subst e
      simp [Cell.okWide, Cell.ok, hu] at hok
    · rename_i e hu
      obtain ⟨b, rfl, _⟩ := hT
      rw [hu] at hok
      refine one rfl fun cs e => ?_
      subst e
      simp [Cell.okWide, Cell.ok, hu] at hok
    · rename_i fs hu
      obtain ⟨as, rfl, _⟩ := hT
      rw [hu] at hok
      obtain ⟨cs, rfl, _⟩ := hok
      exact SV_agg hv rfl
    · rename_i k e hu
      obtain ⟨as, rfl, _⟩ := hT
      rw [hu] at hok
      obtain ⟨cs, rfl, _⟩ := hok
      exact SV_agg hv rfl
    · exact hT.elim

/-- The arguments, as abstract values. -/
theorem open_all {C : Ctx} (hI : ∀ k, k < C.w.heap.size → C.I k) {n base : Nat} : ∀ {ts : List TypeId} {vs : List Value} {ds : List (DataW H)} {ps : List MemPlace}, (∀ t ∈ ts, simpleT P n t = true) →
    (∀ (j : Nat) t v, ts[j]? = some t → vs[j]? = some v → Value.okWide P C.w .any base t v) → DataW.TrodAll enc P C.w 0 (fun _ => true) true ts vs ds ps → (∀ k ∈ DataW.weightsEach P ts ds, k ≤ reachBytes) →
    ∃ avs, All2 (fun t a => Typed P n t a) ts avs ∧ SVl C avs vs
  | [], [], [], _, _, _, _, _ => ⟨[], trivial, rfl⟩
  | t :: ts, v :: vs, d :: ds, ps, ht, hv, h, hwt => by
    obtain ⟨p, q, ⟨fuel, h1⟩, h2, rfl⟩ := h
    simp only [DataW.weightsEach, List.mem_append] at hwt
    obtain ⟨av, k1, k2⟩ := open_av hI n t fuel _ _ (ht t List.mem_cons_self) h1 (fun k hk => hwt k (.inl hk))
    obtain ⟨avs, k3, k4⟩ := open_all hI (fun t' h' => ht t' (List.mem_cons_of_mem _ h')) (fun j t' v' a b => hv (j + 1) t' v' (by simpa using a) (by simpa using b)) h2 (fun k hk => hwt k (.inr hk))
    exact ⟨av :: avs, ⟨k1, k3⟩, v, vs, rfl, slot_of (ht t List.mem_cons_self) (hv 0 t v rfl rfl) k1 k2, k4⟩
  | [], [], _ :: _, _, _, _, h, _ => h.elim
  | [], _ :: _, _, _, _, _, h, _ => by cases ‹List (DataW H)› <;> exact h.elim
  | _ :: _, [], _, _, _, _, h, _ => by cases ‹List (DataW H)› <;> exact h.elim
  | _ :: _, _ :: _, [], _, _, _, h, _ => h.elim

theorem weightsEach_append {k : Nat} {us : List TypeId} {es : List (DataW H)} : ∀ {ts : List TypeId} {ds : List (DataW H)}, k ∈ DataW.weightsEach P ts ds → ts.length = ds.length ∨ True → k ∈ DataW.weightsEach P (ts ++ us) (ds ++ es)
  | [], _, h, _ => by simp [DataW.weightsEach] at h
  | _ :: _, [], h, _ => by simp [DataW.weightsEach] at h
  | t :: ts, d :: ds, h, _ => by
    simp only [DataW.weightsEach, List.cons_append, List.mem_append] at *
    exact h.imp id fun h => weightsEach_append h (.inr trivial)

theorem All2_length {α β : Type} {R : α → β → Prop} : ∀ {as : List α} {bs : List β}, All2 R as bs → as.length = bs.length
  | [], [], _ => rfl
  | _ :: _, _ :: _, h => by simp [All2_length h.2]
  | [], _ :: _, h => h.elim
  | _ :: _, [], h => h.elim

/-- A LAW THAT ANSWERS true, AND TURNS NOTHING: what the row asks behind the call. -/
theorem law_callsG {f : FuncId} {fn : Func} {s : ChangeSpec} {apart fresh handsOn again keep : Bool} {n base : Nat} {args : Array Value} {ds gs : List (DataW H)} {before : List MemPlace}
    (hlaid : laidOutB P = true) (hp : fn.params.toList.all (fun t => simpleT P n t && P.readableRec t && decide (t < P.types.size)) = true) {tb : TypeId} (hrt : fn.resultTypes = #[tb]) (htb : P.underlying tb = some .bool)
    (hvars : s.vars = []) (hspec : ∀ ds : List (DataW H), ds.length = fn.params.size → s.fn H ds = { results := [.lit (.bool true)], args := ds })
    {G : Nat → Option AV} (hG : GR ⟨W, fun k => k < W.heap.size, fun _ => none, fun _ => none, fun g => g = 0⟩ G)
    (hM : ∀ avs, All2 (fun t a => Typed P n t a) fn.params.toList avs → Meets P G f avs [] keep (.v (.bool true)) [])
    (hval : ∀ (j : Nat) t v, fn.params[j]? = some t → args[j]? = some v → Value.okWide P W .any base t v) (hwt : (DataW.weightsEach P (fn.params.toList ++ s.plain.varTypes P) (ds ++ gs)).all (· ≤ reachBytes) = true) (hW : DataW.Whole enc P fn.params.toList s.vars apart W args.toList ds gs before) :
    Calls P f args W fun e W' => ∃ v, e = .returned v ∧ s.post enc P fn apart fresh handsOn again W args v W' := by
  have hW0 := hW
  obtain ⟨p, q, hA, hV, rfl, hfz, hnd⟩ := hW
  rw [hvars] at hV
  obtain ⟨rfl, rfl⟩ := trodVars_none hV
  have hpt : ∀ t ∈ fn.params.toList, simpleT P n t = true ∧ P.readableRec t = true ∧ t < P.types.size := fun t ht => by
    have := (List.all_eq_true.1 hp) t ht
    simpa [Bool.and_eq_true, and_assoc] using this
  let C : Ctx := ⟨W, fun k => k < W.heap.size, fun _ => none, fun _ => none, fun g => g = 0⟩
  obtain ⟨avs, h1, h2⟩ := open_all (C := C) (fun k hk => hk) (fun t ht => (hpt t ht).1) (fun j t v a b => hval j t v (by simpa using a) (by simpa using b)) hA (fun k hk => by
    have := (List.all_eq_true.1 hwt) k (weightsEach_append hk (.inr trivial))
    simpa using this)
  have hwr : WR W (fun _ => False) C.I C := ⟨(fun l c h => by cases h), (fun l l' c c' b h => by cases h), (fun l c b h => by cases h), fun k hk => ⟨hk, .inl hk⟩, fun _ h => h, (fun l c h => by cases h), rfl, rfl, rfl, Nat.le_refl _, fun _ _ _ => rfl⟩
  have hcall := (hM avs h1).2 C (fun _ => False) args.toList hwr rfl (fun _ => Iff.rfl) hG h2
  have ha : args.toList.toArray = args := by simp
  rw [ha] at hcall
  refine Calls.mono hcall ?_
  rintro e W' ⟨y, C', rfl, rfl, hle, hw', _, hy⟩
  obtain rfl := SV_v hy
  have hb : Below W.heap.size W C'.w := ⟨hw'.os, hw'.tape, hw'.output, hw'.size, fun k hk => hw'.block k hk (fun h => h)⟩
  have hlt : ∀ x ∈ p, x.block < W.heap.size := fun x hx => hW0.lt x (by simpa using hx)
  have hlen : (ds ++ []).length = fn.params.size := by
    have : ∀ {ts : List TypeId} {vs : List Value} {ds : List (DataW H)} {ps : List MemPlace}, DataW.TrodAll enc P W 0 (fun _ => true) true ts vs ds ps → ds.length = ts.length := by
      intro ts
      induction ts with
      | nil => intro vs ds ps h; cases vs <;> cases ds <;> first | rfl | exact h.elim
      | cons t ts ih =>
        intro vs ds ps h
        cases vs <;> cases ds <;> first | exact h.elim | skip
        obtain ⟨_, _, _, h2, _⟩ := h
        simp [ih h2]
    simpa using this hA
  have hsp := hspec (ds ++ []) hlen
  have hres : ∀ (b : Nat) (sp : Nat → Bool) (hd : Bool), DataW.TrodAll enc P C'.w b sp hd fn.resultTypes.toList ((Value.bool true).resultList fn.resultTypes.size) [.lit (.bool true)] [] := by
    intro b sp hd
    rw [hrt]
    exact ⟨[], [], ⟨1, by simp [DataW.trod, Value.cells, htb]⟩, rfl, rfl⟩
  refine ⟨_, rfl, ds, [], p, [], p, [], by simpa using hW0, ?_, ?_, ?_, ?_, fun _ => ?_⟩
  · rw [hsp]
    exact hres _ _ _
  · rw [hsp]
    have := trodAll_below hlaid hb (fun t ht => (hpt t ht).2) hA hlt
    simpa using this
  · rw [hsp, hvars]
    exact rfl
  · exact hb.frame _
  · refine ⟨ok_one hrt rfl ?_, _, [], ([] ++ p) ++ [], ⟨[] ++ p, [], trodAll_append (trodAll_same hb hA hlt) (hres _ _ _), ?_, rfl, ?_, ?_⟩, ?_⟩
    · unfold Value.okWide
      rw [htb]
      simp [Cell.okWide, Cell.ok, htb]
    · rw [hvars]; exact rfl
    · intro b off hpp
      have hp' : (.cell b off : MemPlace) ∈ p := by simpa using hpp
      rw [hb.frozen (hlt _ hp')]
      exact hfz b off (by simpa using hp')
    · intro ha'
      simpa using hnd ha'
    · intro x hx _
      simpa using hx
theorem law_calls {f : FuncId} {fn : Func} {s : ChangeSpec} {apart fresh handsOn again keep : Bool} {n base : Nat} {args : Array Value} {ds gs : List (DataW H)} {before : List MemPlace}
    (hlaid : laidOutB P = true) (hp : fn.params.toList.all (fun t => simpleT P n t && P.readableRec t && decide (t < P.types.size)) = true) {tb : TypeId} (hrt : fn.resultTypes = #[tb]) (htb : P.underlying tb = some .bool)
    (hvars : s.vars = []) (hspec : ∀ ds : List (DataW H), ds.length = fn.params.size → s.fn H ds = { results := [.lit (.bool true)], args := ds })
    (hM : ∀ avs, All2 (fun t a => Typed P n t a) fn.params.toList avs → Meets P (fun _ => none) f avs [] keep (.v (.bool true)) [])
    (hval : ∀ (j : Nat) t v, fn.params[j]? = some t → args[j]? = some v → Value.okWide P W .any base t v) (hwt : (DataW.weightsEach P (fn.params.toList ++ s.plain.varTypes P) (ds ++ gs)).all (· ≤ reachBytes) = true) (hW : DataW.Whole enc P fn.params.toList s.vars apart W args.toList ds gs before) :
    Calls P f args W fun e W' => ∃ v, e = .returned v ∧ s.post enc P fn apart fresh handsOn again W args v W' :=
  law_callsG hlaid hp hrt htb hvars hspec (fun n x h => (by cases h)) hM hval hwt hW
end
end Go.Proofs.YtngemgmnpcaamaaDoor.WL
