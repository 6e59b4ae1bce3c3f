/-
  A LAW's ARGUMENTS: what is read of them, as abstract values.
-/
import Derived.Test.YtngemgmnpcaamaaDoorWl28
import Derived.Deep.Slices
import GoSem.ClaimJoined
import Derived.OpenShut
import Derived.ChangeArms
namespace Go.Proofs.YtngemgmnpcaamaaDoor.WL
open Go

def fieldsOk (P : Program) : Nat → List Field → Nat → Bool
  | off, [], total => off == total
  | off, f :: fs, total => f.offset == off && fieldsOk P (off + P.cellsOf f.type) fs total

/-- Types of numbers, texts, slices, structs, arrays. -/
def simpleT (P : Program) : Nat → TypeId → Bool
  | 0, _ => false
  | n + 1, t => match P.underlying t with
    | some .bool => true
    | some (.int _) => true
    | some .string => true
    | some (.slice e) => decide (0 < P.cellsOf e) && simpleT P n e
    | some (.struct fs) => fieldsOk P 0 fs.toList (P.cellsOf t) && fs.toList.all fun f => simpleT P n f.type
    | some (.array k e) => decide (P.cellsOf t = k * P.cellsOf e) && simpleT P n e
    | _ => false

def All2 {α β : Type} (R : α → β → Prop) : List α → List β → Prop
  | [], [] => True
  | a :: as, b :: bs => R a b ∧ All2 R as bs
  | _, _ => False

/-- A value of this type. -/
def Typed (P : Program) : Nat → TypeId → AV → Prop
  | 0, _, _ => False
  | n + 1, t, av => match P.underlying t with
    | some .bool => ∃ b, av = .v (.bool b)
    | some (.int k) => ∃ i, av = .v (.int k i) ∧ (Lit.int k i).wf = true
    | some .string => ∃ s, av = .v (.string s) ∧ s.size ≤ reachBytes
    | some (.slice e) => ∃ xs, av = .sl (P.cellsOf e) xs ∧ (xs.length ≤ maxLen ∧ xs.length * P.bytesOf e ≤ reachBytes) ∧ ∀ x ∈ xs, Typed P n e x
    | some (.struct fs) => ∃ as, av = .node as ∧ All2 (fun (f : Field) a => Typed P n f.type a) fs.toList as
    | some (.array k e) => ∃ xs, av = .arr (P.cellsOf e) xs ∧ xs.length = k ∧ ∀ x ∈ xs, Typed P n e x
    | _ => False

theorem All2_closed {α : Type} {R : α → AV → Prop} (h : ∀ x a, R x a → closed a = true) : ∀ {xs : List α} {as : List AV}, All2 R xs as → closeds as = true
  | [], [], _ => rfl
  | _ :: _, _ :: _, hr => by simp only [closeds, Bool.and_eq_true]; exact ⟨h _ _ hr.1, All2_closed h hr.2⟩
  | [], _ :: _, hr => hr.elim
  | _ :: _, [], hr => hr.elim

theorem Typed_closed {P : Program} : ∀ (n : Nat) (t : TypeId) (av : AV), Typed P n t av → closed av = true := by
  intro n
  induction n with
  | zero => intro t av h; exact h.elim
  | succ n ih =>
    intro t av h
    simp only [Typed] at h
    split at h
    · obtain ⟨b, rfl⟩ := h; rfl
    · obtain ⟨i, rfl, _⟩ := h; rfl
    · obtain ⟨s, rfl, _⟩ := h; rfl
    · obtain ⟨xs, rfl, _, hx⟩ := h
      simp only [closed]
      exact closeds_all.2 fun a ha => ih _ _ (hx a ha)
    · obtain ⟨as, rfl, ha⟩ := h
      simp only [closed]
      exact All2_closed (fun f a hfa => ih _ _ hfa) ha
    · obtain ⟨xs, rfl, _, hx⟩ := h
      simp only [closed]
      exact closeds_all.2 fun a ha => ih _ _ (hx a ha)
    · exact h.elim

section
variable {H : Type} {enc : TypeId × Value → H} {P : Program} {base : Nat} {spare : Nat → Bool} {held : Bool} {C : Ctx}

/-- Pieces side by side are elements. -/
theorem Es_pieces {sz : Nat} {Q : AV → Prop} : ∀ (n : Nat) (cs : List Value), cs.length = n * sz → (∀ i, i < n → ∃ av, Q av ∧ V C av ((cs.drop (i * sz)).take sz)) →
    ∃ xs, xs.length = n ∧ (∀ x ∈ xs, Q x) ∧ Es C sz xs cs
  | 0, cs, hl, _ => ⟨[], rfl, (fun x hx => by cases hx), by simp only [Es]; exact List.eq_nil_of_length_eq_zero (by simpa using hl)⟩
  | n + 1, cs, hl, h => by
    rw [Nat.succ_mul] at hl
    obtain ⟨a, ha, hv⟩ := h 0 (by omega)
    rw [Nat.zero_mul, List.drop_zero] at hv
    obtain ⟨xs, h1, h2, h3⟩ := Es_pieces (sz := sz) (Q := Q) n (cs.drop sz) (by rw [List.length_drop]; omega) (fun i hi => by
      obtain ⟨b, hb, hv⟩ := h (i + 1) (by omega)
      refine ⟨b, hb, ?_⟩
      rw [List.drop_drop, show sz + i * sz = (i + 1) * sz by rw [Nat.succ_mul]; omega]
      exact hv)
    refine ⟨a :: xs, by simp [h1], fun x hx => ?_, ?_⟩
    · rcases List.mem_cons.1 hx with rfl | hx
      · exact ha
      · exact h2 x hx
    · simp only [Es]
      exact ⟨cs.take sz, cs.drop sz, (List.take_append_drop sz cs).symm, by rw [List.length_take]; omega, hv, h3⟩

theorem Vs_fields {R : Field → AV → Prop} : ∀ (fs : List Field) (off total : Nat) (cs : List Value), fieldsOk P off fs total = true → cs.length = total → (∀ f ∈ fs, ∃ av, R f av ∧ V C av ((cs.drop f.offset).take (P.cellsOf f.type)) ) →
    ∃ as, All2 R fs as ∧ Vs C as (cs.drop off)
  | [], off, total, cs, hf, hl, _ => by
    simp only [fieldsOk, beq_iff_eq] at hf
    subst hf
    refine ⟨[], trivial, ?_⟩
    simp only [Vs]
    exact List.drop_of_length_le (by omega)
  | f :: fs, off, total, cs, hf, hl, h => by
    simp only [fieldsOk, Bool.and_eq_true, beq_iff_eq] at hf
    obtain ⟨rfl, hf⟩ := hf
    obtain ⟨a, ha, hv⟩ := h f List.mem_cons_self
    obtain ⟨as, h1, h2⟩ := Vs_fields fs _ total cs hf hl (fun g hg => h g (List.mem_cons_of_mem _ hg))
    refine ⟨a :: as, ⟨ha, h1⟩, ?_⟩
    simp only [Vs]
    refine ⟨_, cs.drop (f.offset + P.cellsOf f.type), ?_, hv, h2⟩
    rw [← List.drop_drop, List.take_append_drop]

theorem addr_add_add (a : Addr) (i j : Nat) : (a.add i).add j = a.add (i + j) := by
  unfold Addr.add
  by_cases hi : i = 0 <;> by_cases hj : j = 0 <;> simp [hi, hj, Nat.add_assoc]

/-- Elements that lie one behind the other. -/
theorem Es_cells {sz : Nat} {a : Addr} {Q : AV → Prop} : ∀ (n k : Nat), (∀ i, k ≤ i → i < k + n → ∃ cs av, C.w.cells? base (a.add (i * sz)) sz = some cs ∧ Q av ∧ V C av cs) →
    ∃ xs body, xs.length = n ∧ (∀ x ∈ xs, Q x) ∧ Es C sz xs body ∧ ∀ j u, body[j]? = some u → C.w.cell? (a.add (k * sz + j)) = some u
  | 0, k, _ => ⟨[], [], rfl, (fun x hx => by cases hx), by simp [Es], fun j u h => by simp at h⟩
  | n + 1, k, h => by
    obtain ⟨cs, av, h1, h2, h3⟩ := h k (Nat.le_refl _) (by omega)
    obtain ⟨xs, body, k1, k2, k3, k4⟩ := Es_cells (sz := sz) (a := a) (Q := Q) n (k + 1) (fun i hi hj => h i (by omega) (by omega))
    obtain ⟨_, hl, hc⟩ := World.cells?_some h1
    refine ⟨av :: xs, cs ++ body, by simp [k1], fun x hx => ?_, ?_, fun j u hj => ?_⟩
    · rcases List.mem_cons.1 hx with rfl | hx
      · exact h2
      · exact k2 x hx
    · simp only [Es]
      exact ⟨cs, body, rfl, hl, h3, k3⟩
    · by_cases hlt : j < sz
      · rw [List.getElem?_append_left (by omega)] at hj
        have := hc j hlt
        rw [addr_add_add] at this
        rw [this, hj]
      · rw [List.getElem?_append_right (by omega), hl] at hj
        have := k4 (j - sz) u hj
        rw [Nat.succ_mul] at this
        rw [show k * sz + j = k * sz + sz + (j - sz) by omega]
        exact this

theorem weightsAll_mem {e : TypeId} {d : DataW H} {n : Nat} : ∀ {l : List (DataW H)}, d ∈ l → n ∈ d.weights P e → n ∈ DataW.weightsAll P e l
  | [], h, _ => by cases h
  | c :: l, h, hn => by
    simp only [DataW.weightsAll]
    rcases List.mem_cons.1 h with rfl | h
    · exact List.mem_append_left _ hn
    · exact List.mem_append_right _ (weightsAll_mem h hn)
theorem weightsEach_get {d : DataW H} {t : TypeId} {n : Nat} : ∀ {ts : List TypeId} {l : List (DataW H)} {i : Nat}, ts[i]? = some t → l[i]? = some d → n ∈ d.weights P t → n ∈ DataW.weightsEach P ts l
  | [], _, _, h, _, _ => by simp at h
  | _ :: _, [], _, _, h, _ => by simp at h
  | t' :: ts, c :: l, 0, h1, h2, hn => by
    simp only [List.getElem?_cons_zero, Option.some.injEq] at h1 h2
    subst h1 h2
    simp only [DataW.weightsEach]
    exact List.mem_append_left _ hn
  | t' :: ts, c :: l, i + 1, h1, h2, hn => by
    simp only [DataW.weightsEach]
    exact List.mem_append_right _ (weightsEach_get (i := i) (by simpa using h1) (by simpa using h2) hn)

/-- WHAT IS READ IS THERE. -/
theorem open_av (hI : ∀ k, k < C.w.heap.size → C.I k) : ∀ (n : Nat) (t : TypeId) (fuel : Nat) (cs : List Value) (x : DataW H × List MemPlace), simpleT P n t = true → DataW.trod enc P C.w base spare held fuel t cs = some x → (∀ k ∈ x.1.weights P t, k ≤ reachBytes) →
    ∃ av, Typed P n t av ∧ V C av cs := by
  intro n
  induction n with
  | zero => intro t fuel cs x h; simp [simpleT] at h
  | succ n ih =>
    intro t fuel cs x hs h hwt
    simp only [simpleT] at hs
    simp only [Typed]
    split at hs
    · rename_i hu
      obtain ⟨b, rfl, _⟩ := DataW.trod_bool hu h
      exact ⟨_, ⟨b, rfl⟩, by simp [V, Value.oneCell']⟩
    · rename_i k hu
      obtain ⟨i, rfl, _, hw⟩ := DataW.trod_int hu h
      exact ⟨_, ⟨i, rfl, hw⟩, by simp [V, Value.oneCell']⟩
    · rename_i hu
      obtain ⟨s, rfl, rfl, hw⟩ := DataW.trod_string hu h
      have hr : s.size ≤ reachBytes := hwt s.size (by simp [DataW.weights])
      exact ⟨_, ⟨s, rfl, hr⟩, by simp [V, Value.oneCell']⟩
    · rename_i e hu
      simp only [Bool.and_eq_true, decide_eq_true_eq] at hs
      rcases Deep.open_slice hu h with ⟨rfl, _⟩ | ⟨a, len, cap, m, m', D, Pl, rfl, hb, hl, hm, hmm, rfl, hx⟩
      · refine ⟨_, ⟨[], rfl, ⟨by simp, by simp⟩, (fun x hx => by cases hx)⟩, ?_⟩
        simp only [V]
        exact ⟨none, 0, [], rfl, by simp, by simp [maxLen], by simp [Es], .inl trivial⟩
      · have hle : len ≤ m := by rw [hmm]; split <;> omega
        obtain ⟨xs, body, k1, k2, k3, k4⟩ := Es_cells (C := C) (base := base) (a := a) (sz := P.cellsOf e) (Q := Typed P n e) len 0 (fun i _ hi => by
          obtain ⟨cs', h1, h2⟩ := hx i (by omega)
          obtain ⟨av, h3, h4⟩ := ih e _ cs' _ hs.2 h2 (fun k hk => hwt k (by
            simp only [DataW.weights, hu]
            refine List.mem_cons_of_mem _ (List.mem_append_left _ (weightsAll_mem (d := D i) ?_ hk))
            exact List.mem_map.2 ⟨i, List.mem_range.2 (by omega), rfl⟩))
          exact ⟨cs', av, h1, h3, h4⟩)
        have hwl : xs.length * P.bytesOf e ≤ reachBytes := by
          have h0 := hwt ((((List.range len).map D).length + ((List.range (m - len)).map fun j => D (len + j)).length) * P.bytesOf e) (by simp only [DataW.weights, hu]; exact List.mem_cons_self)
          refine Nat.le_trans ?_ h0
          refine Nat.mul_le_mul_right _ ?_
          simp only [List.length_map, List.length_range]
          omega
        refine ⟨_, ⟨xs, rfl, ⟨by omega, hwl⟩, k2⟩, ?_⟩
        simp only [V]
        refine ⟨some a, cap, body, by rw [k1], by omega, hm, k3, ?_⟩
        by_cases h0 : len = 0
        · left; exact List.eq_nil_of_length_eq_zero (by omega)
        · right
          have hbl := Es_length k3
          have hpos : 0 < body.length := by rw [hbl, k1]; exact Nat.mul_pos (by omega) hs.1
          have hc0 := k4 0 body[0] (List.getElem?_eq_getElem hpos)
          simp only [Nat.zero_mul, Nat.zero_add] at hc0
          obtain ⟨b, o, sp⟩ := a
          have hsp : sp = none := by
            cases sp with
            | none => rfl
            | some q => simp [World.cell?, Addr.add] at hc0; split at hc0 <;> simp at hc0
          subst hsp
          have hlt : b < C.w.heap.size := by
            rcases Nat.lt_or_ge b C.w.heap.size with h | h
            · exact h
            · simp [World.cell?, Addr.add, Array.getElem?_eq_none h] at hc0
          refine ⟨b, o, rfl, hI b hlt, fun j u hj => ?_⟩
          have := k4 j u hj
          rwa [Nat.zero_mul, Nat.zero_add, add_at] at this
    · rename_i fs hu
      simp only [Bool.and_eq_true, List.all_eq_true] at hs
      obtain ⟨xs, m, _, rfl, hl, hxl, hx⟩ := DataW.trod_struct hu h
      have key := Vs_fields (P := P) (C := C) (R := fun f a => Typed P n f.type a) fs.toList 0 (P.cellsOf t) cs hs.1 hl (fun f hf => by
        obtain ⟨i, hi, rfl⟩ := List.getElem_of_mem hf
        have hi' : i < fs.size := by simpa using hi
        have h1 := hx i fs[i] (Array.getElem?_eq_getElem hi')
        rw [List.getElem?_eq_getElem (by omega)] at h1
        obtain ⟨av, h2, h3⟩ := ih _ _ _ _ (hs.2 _ hf) h1 (fun k hk => hwt k (by
          simp only [DataW.weights, hu]
          refine weightsEach_get (i := i) (d := (xs[i]'(by omega)).1) (t := fs[i].type) ?_ ?_ (by simpa using hk)
          · simp [hi']
          · simp [List.getElem?_eq_getElem (show i < xs.length by omega)]))
        exact ⟨av, by simpa using h2, by simpa using h3⟩)
      obtain ⟨as, h1, h2⟩ := key
      rw [List.drop_zero] at h2
      exact ⟨_, ⟨as, rfl, h1⟩, by simp only [V]; exact h2⟩
    · rename_i k e hu
      simp only [Bool.and_eq_true, decide_eq_true_eq] at hs
      obtain ⟨xs, m, _, rfl, hl, hxl, hx⟩ := DataW.trod_array hu h
      obtain ⟨ys, h1, h2, h3⟩ := Es_pieces (C := C) (sz := P.cellsOf e) (Q := Typed P n e) k cs (by rw [hl, hs.1]) (fun i hi => by
        have h1 := hx i hi
        rw [List.getElem?_eq_getElem (by omega)] at h1
        obtain ⟨av, h2, h3⟩ := ih _ _ _ _ hs.2 h1 (fun k hk => hwt k (by
          simp only [DataW.weights, hu]
          refine weightsAll_mem (d := (xs[i]'(by omega)).1) ?_ (by simpa using hk)
          exact List.mem_map.2 ⟨_, List.getElem_mem (by omega), rfl⟩))
        exact ⟨av, h2, h3⟩)
      exact ⟨_, ⟨ys, rfl, h1, h2⟩, by simp only [V]; exact h3⟩
    · cases hs
end
end Go.Proofs.YtngemgmnpcaamaaDoor.WL
