/-
  RUNNING THE ABSTRACT MACHINE by rewriting: what comes next is data (a stack), so that nothing is looked into before its turn.
-/
import Derived.Test.YtngemgmnpcaamaaDoorWl25
namespace Go.Proofs.YtngemgmnpcaamaaDoor.WL
open Go

inductive Kont where
  | seq (b : CCode)
  | blk (id : Nat)
  | scp (l : Nat) (r : CCode)
  | nog

def evB : Option AV → Option Bool
  | some (.v (.bool b)) => some b
  | _ => none
/-- Whether the guard lets it run. -/
def wantB : Option AV → Bool → Option Bool
  | some (.v (.bool x)), b => some (x == b)
  | some (.tup []), _ => some false
  | _, _ => none
@[simp] theorem wantB_bool (x b : Bool) : wantB (some (.v (.bool x))) b = some (x == b) := (rfl)
@[simp] theorem wantB_off (b : Bool) : wantB (some (.tup [])) b = some false := (rfl)
@[simp] theorem evB_bool (b : Bool) : evB (some (.v (.bool b))) = some b := (rfl)

section
variable (P : Program) (G : Nat → Option AV) (Q : Exit → SA → Prop)

def unK : List Kont → Exit → SA → Prop
  | [] => Q
  | .seq b :: k => thenA (awp P G b (unK k)) (unK k)
  | .blk id :: k => inBlockA id (unK k)
  | .scp l r :: k => jumpA l (fun S' => awp P G r (noGotoA (unK k)) S') (unK k)
  | .nog :: k => noGotoA (unK k)

/-- Run this code, then the stack. -/
def go (c : CCode) (k : List Kont) (S : SA) : Prop := awp P G c (unK P G Q k) S
/-- Leave so, into the stack. -/
def goX (e : Exit) (k : List Kont) (S : SA) : Prop := unK P G Q k e S
def goR (clk : Nat) (cs : List COper) (i : Nat) (fr : List (Nat × AV)) (m : List (Nat × Loc)) (lg : Log) (dr : Option (List Nat × List (Nat × Nat))) (keep : List Nat) (n : Nat) (k : List Kont) : Prop :=
  regW P G clk cs i fr m lg fun fr m lg => (match dr with | none => True | some (_, D) => dynOk lg D) ∧ goX P G Q .normal k ⟨keepL keep fr, m, clk + n⟩
/-- The operands are known. -/
def goV (o : Option (List AV)) (op : COp) (d : Option Nat) (clk : Nat) (r : List COper) (i : Nat) (fr : List (Nat × AV)) (m : List (Nat × Loc)) (lg : Log) (dr : Option (List Nat × List (Nat × Nat))) (keep : List Nat) (n : Nat) (k : List Kont) : Prop :=
  match o with
  | some vals => opEW P G (clk + i) op (d.getD 0) vals m fun av us rd => goR P G Q clk r (i + 1) (setL fr d av) (upsL m us) (lg ++ [(i, rd, us.map (·.1))]) dr keep n k
  | none => False
/-- The effect is known. -/
def goS (o : Option (AV × List (Nat × Option Loc))) (rd : List Nat) (d : Option Nat) (clk : Nat) (r : List COper) (i : Nat) (fr : List (Nat × AV)) (m : List (Nat × Loc)) (lg : Log) (dr : Option (List Nat × List (Nat × Nat))) (keep : List Nat) (n : Nat) (k : List Kont) : Prop :=
  match o with
  | some (av, us) => goR P G Q clk r (i + 1) (setL fr d av) (upsL m us) (lg ++ [(i, rd, us.map (·.1))]) dr keep n k
  | none => False
/-- The guard is known. -/
def goG (x : Option Bool) (d : Option Nat) (op : COp) (xs : List COpd) (clk : Nat) (r : List COper) (i : Nat) (fr : List (Nat × AV)) (m : List (Nat × Loc)) (lg : Log) (dr : Option (List Nat × List (Nat × Nat))) (keep : List Nat) (n : Nat) (k : List Kont) : Prop :=
  match x with
  | some x => if x = true then goV P G Q (evs G (look fr) xs) op d clk r i fr m lg dr keep n k else goR P G Q clk r (i + 1) (setL fr d (.tup [])) m (lg ++ [(i, [], [])]) dr keep n k
  | none => False
/-- The condition is known. -/
def goC (x : Option Bool) (a b : CCode) (k : List Kont) (S : SA) : Prop :=
  match x with
  | some x => if x = true then go P G Q a k S else go P G Q b k S
  | none => False
end

section
variable {P : Program} {G : Nat → Option AV} {Q : Exit → SA → Prop}

theorem awp_go {c : CCode} {S : SA} (h : go P G Q c [] S) : awp P G c Q S := h

@[simp] theorem go_skip (k : List Kont) (S : SA) : go P G Q .skip k S = goX P G Q .normal k S := (rfl)
@[simp] theorem go_ret (k : List Kont) (S : SA) : go P G Q .ret k S = goX P G Q .ret k S := (rfl)
@[simp] theorem go_exit (id : Nat) (k : List Kont) (S : SA) : go P G Q (.exit id) k S = goX P G Q (.exit id) k S := (rfl)
@[simp] theorem go_label (l : Nat) (k : List Kont) (S : SA) : go P G Q (.label l) k S = goX P G Q .normal k S := (rfl)
@[simp] theorem go_goto (l : Nat) (k : List Kont) (S : SA) : go P G Q (.goto l) k S = goX P G Q (.goto l) k S := (rfl)
@[simp] theorem go_seq (a b : CCode) (k : List Kont) (S : SA) : go P G Q (.seq a b) k S = go P G Q a (.seq b :: k) S := (rfl)
@[simp] theorem go_block (id : Nat) (c : CCode) (k : List Kont) (S : SA) : go P G Q (.block id c) k S = go P G Q c (.blk id :: k) S := (rfl)
@[simp] theorem go_scope (l : Nat) (c r : CCode) (k : List Kont) (S : SA) : go P G Q (.scope l c r) k S = go P G Q c (.scp l r :: k) S := (rfl)
theorem go_region (cs : List COper) (dr : Option (List Nat × List (Nat × Nat))) (keep : List Nat) (k : List Kont) (fr : List (Nat × AV)) (m : List (Nat × Loc)) (clk : Nat) :
    go P G Q (.region cs dr keep) k ⟨fr, m, clk⟩ = goR P G Q clk cs 0 fr m [] dr keep cs.length k := rfl
/-- A region's name and its text. -/
class Reg (cs : List COper) (as : outParam (List COper)) (n : outParam Nat) : Prop where
  eq : cs = as
  len : cs.length = n
@[simp] theorem go_reg (cs as : List COper) (n : Nat) [r : Reg cs as n] (dr : Option (List Nat × List (Nat × Nat))) (keep : List Nat) (k : List Kont) (fr : List (Nat × AV)) (m : List (Nat × Loc)) (clk : Nat) :
    go P G Q (.region cs dr keep) k ⟨fr, m, clk⟩ = goR P G Q clk as 0 fr m [] dr keep n k := by
  rw [go_region, r.len]
  have := r.eq
  subst this
  rfl
theorem go_ghost {c : CCode} {k : List Kont} {S : SA} (S0 : SA) (hw : Weak S S0) (h : go P G Q c k S0) : go P G Q (.ghost c) k S := ⟨S0, hw, h⟩
@[simp] theorem go_cond (c : COpd) (x y : CCode) (k : List Kont) (fr : List (Nat × AV)) (m : List (Nat × Loc)) (clk : Nat) : go P G Q (.cond c x y) k ⟨fr, m, clk⟩ = goC P G Q (evB (ev G (look fr) c)) x y k ⟨fr, m, clk⟩ := by
  apply propext
  show (∃ b, ev G (look fr) c = some (.v (.bool b)) ∧ _) ↔ _
  constructor
  · rintro ⟨b, h1, h2⟩
    rw [h1]
    exact h2
  · intro h
    cases hq : evB (ev G (look fr) c) with
    | none => rw [hq] at h; exact h.elim
    | some b =>
      rw [hq] at h
      refine ⟨b, ?_, h⟩
      unfold evB at hq
      split at hq
      · rename_i b' e; rw [e]; simpa using hq
      · cases hq
/-- What a round must show. -/
def Again (I : SA → Prop) (μ : SA → Nat) (n : Nat) (S : SA) : Prop := ∃ S3, Weak S S3 ∧ I S3 ∧ μ S3 < n
theorem go_loop {c : CCode} {k : List Kont} {S : SA} (I : SA → Prop) (μ : SA → Nat) (S0 : SA) (hw : Weak S S0) (h0 : I S0) (h : ∀ S', I S' → go P G (thenA (Again I μ (μ S')) (unK P G Q k)) c [] S') : go P G Q (.loop c) k S := by
  refine ⟨fun n S => I S ∧ μ S = n, ⟨_, S0, hw, h0, rfl⟩, ?_⟩
  rintro n S' ⟨h1, rfl⟩
  have h2 := h S' h1
  have e : (fun S'' => ∃ n' S3, Weak S'' S3 ∧ (I S3 ∧ μ S3 = n') ∧ n' < μ S') = Again I μ (μ S') := by
    funext S''
    apply propext
    constructor
    · rintro ⟨n', S3, a, ⟨b, rfl⟩, d⟩; exact ⟨S3, a, b, d⟩
    · rintro ⟨S3, a, b, d⟩; exact ⟨_, S3, a, ⟨b, rfl⟩, d⟩
  rw [e]
  exact h2

/-- The next round's state. -/
def Nxt {α : Type} (inv : Nat → α → Prop) (st : Nat → α → Nat → SA) (j : Nat) (S : SA) : Prop := ∃ a c, Weak S (st j a c) ∧ inv j a
/-- A loop that counts to n. -/
theorem go_up {c : CCode} {k : List Kont} {S : SA} {α : Type} (n : Nat) (inv : Nat → α → Prop) (st : Nat → α → Nat → SA) (a0 : α) (c0 : Nat) (hw : Weak S (st 0 a0 c0)) (h0 : inv 0 a0)
    (h : ∀ j a c', j < n → inv j a → go P G (thenA (Nxt inv st (j + 1)) (unK P G Q k)) c [] (st j a c')) (hend : ∀ a c', inv n a → go P G (thenA (fun _ => False) (unK P G Q k)) c [] (st n a c')) : go P G Q (.loop c) k S := by
  refine ⟨fun q S => ∃ j a c, j ≤ n ∧ q = n - j ∧ inv j a ∧ S = st j a c, ⟨n, _, hw, 0, a0, c0, Nat.zero_le _, rfl, h0, rfl⟩, ?_⟩
  rintro q S' ⟨j, a, c', hj, rfl, hi, rfl⟩
  rcases Nat.lt_or_ge j n with hlt | hge
  · refine awp_mono (h j a c' hlt hi) ?_
    rintro e S'' h1
    cases e <;> first | exact h1 | skip
    obtain ⟨a1, c1, h2, h3⟩ := h1
    exact ⟨_, _, h2, ⟨j + 1, a1, c1, hlt, rfl, h3, rfl⟩, by omega⟩
  · have : j = n := by omega
    subst this
    refine awp_mono (hend a c' hi) ?_
    rintro e S'' h1
    cases e <;> first | exact h1 | exact h1.elim
/-- The next round's state, of a loop with a measure. -/
def NxtW {α : Type} (μ : α → Nat) (inv : α → Prop) (st : α → Nat → SA) (n : Nat) (S : SA) : Prop := ∃ a c, Weak S (st a c) ∧ inv a ∧ μ a < n
/-- A loop with a measure. -/
theorem go_wh {c : CCode} {k : List Kont} {S : SA} {α : Type} (μ : α → Nat) (inv : α → Prop) (st : α → Nat → SA) (a0 : α) (c0 : Nat) (hw : Weak S (st a0 c0)) (h0 : inv a0)
    (h : ∀ a c', inv a → go P G (thenA (NxtW μ inv st (μ a)) (unK P G Q k)) c [] (st a c')) : go P G Q (.loop c) k S := by
  refine ⟨fun q S => ∃ a c, q = μ a ∧ inv a ∧ S = st a c, ⟨_, _, hw, a0, c0, rfl, h0, rfl⟩, ?_⟩
  rintro q S' ⟨a, c', rfl, hi, rfl⟩
  refine awp_mono (h a c' hi) ?_
  rintro e S'' h1
  cases e <;> first | exact h1 | skip
  obtain ⟨a1, c1, h2, h3, h4⟩ := h1
  exact ⟨_, _, h2, ⟨a1, c1, rfl, h3, rfl⟩, h4⟩
theorem Nxt.mk' {α : Type} {inv : Nat → α → Prop} {st : Nat → α → Nat → SA} {j : Nat} {fr : List (Nat × AV)} {m : List (Nat × Loc)} {c : Nat} (a : α) (hi : inv j a) (h : ⟨fr, m, c⟩ = st j a c) : Nxt inv st j ⟨fr, m, c⟩ := ⟨a, c, h ▸ Weak.refl _, hi⟩
theorem Weak.keep (ks : List Nat) (fr : List (Nat × AV)) (m : List (Nat × Loc)) (c : Nat) : Weak ⟨fr, m, c⟩ ⟨fr, keepL ks m, c⟩ := Less.weak ⟨fun _ _ h => h, fun _ _ h => look_keepL h, Nat.le_refl _⟩
theorem Nxt.keep {α : Type} {inv : Nat → α → Prop} {st : Nat → α → Nat → SA} {j : Nat} {fr : List (Nat × AV)} {m : List (Nat × Loc)} {c : Nat} (ks : List Nat) (a : α) (hi : inv j a) (h : ⟨fr, keepL ks m, c⟩ = st j a c) : Nxt inv st j ⟨fr, m, c⟩ := ⟨a, c, h ▸ Weak.keep ks fr m c, hi⟩
theorem Nxt.weak {α : Type} {inv : Nat → α → Prop} {st : Nat → α → Nat → SA} {j : Nat} {S S0 : SA} (hw : Weak S S0) (h : Nxt inv st j S0) : Nxt inv st j S := by
  obtain ⟨a, c, h1, h2⟩ := h
  exact ⟨a, c, hw.trans h1, h2⟩

@[simp] theorem goC_true (a b : CCode) (k : List Kont) (S : SA) : goC P G Q (some true) a b k S = go P G Q a k S := (rfl)
@[simp] theorem goC_false (a b : CCode) (k : List Kont) (S : SA) : goC P G Q (some false) a b k S = go P G Q b k S := (rfl)
theorem goC_split {x : Bool} {a b : CCode} {k : List Kont} {S : SA} (h1 : x = true → go P G Q a k S) (h2 : x = false → go P G Q b k S) : goC P G Q (some x) a b k S := by
  cases x
  · exact h2 rfl
  · exact h1 rfl

@[simp] theorem goX_nil (e : Exit) (S : SA) : goX P G Q e [] S = Q e S := (rfl)
@[simp] theorem goX_seq (b : CCode) (k : List Kont) (S : SA) : goX P G Q .normal (.seq b :: k) S = go P G Q b k S := (rfl)
@[simp] theorem goX_seq_ret (b : CCode) (k : List Kont) (S : SA) : goX P G Q .ret (.seq b :: k) S = goX P G Q .ret k S := (rfl)
@[simp] theorem goX_seq_exit (b : CCode) (k : List Kont) (id : Nat) (S : SA) : goX P G Q (.exit id) (.seq b :: k) S = goX P G Q (.exit id) k S := (rfl)
@[simp] theorem goX_seq_goto (b : CCode) (k : List Kont) (l : Nat) (S : SA) : goX P G Q (.goto l) (.seq b :: k) S = goX P G Q (.goto l) k S := (rfl)
@[simp] theorem goX_blk (id : Nat) (k : List Kont) (S : SA) : goX P G Q .normal (.blk id :: k) S = goX P G Q .normal k S := (rfl)
@[simp] theorem goX_blk_ret (id : Nat) (k : List Kont) (S : SA) : goX P G Q .ret (.blk id :: k) S = goX P G Q .ret k S := (rfl)
@[simp] theorem goX_blk_goto (id l : Nat) (k : List Kont) (S : SA) : goX P G Q (.goto l) (.blk id :: k) S = goX P G Q (.goto l) k S := (rfl)
@[simp] theorem goX_blk_same (id : Nat) (k : List Kont) (S : SA) : goX P G Q (.exit id) (.blk id :: k) S = goX P G Q .normal k S := by
  show (if id = id then _ else _) = _
  rw [if_pos rfl]; rfl
@[simp] theorem goX_blk_other (id id' : Nat) (k : List Kont) (S : SA) (h : id' ≠ id) : goX P G Q (.exit id') (.blk id :: k) S = goX P G Q (.exit id') k S := by
  show (if id' = id then _ else _) = _
  rw [if_neg h]; rfl
@[simp] theorem goX_scp (l : Nat) (r : CCode) (k : List Kont) (S : SA) : goX P G Q .normal (.scp l r :: k) S = goX P G Q .normal k S := (rfl)
@[simp] theorem goX_scp_ret (l : Nat) (r : CCode) (k : List Kont) (S : SA) : goX P G Q .ret (.scp l r :: k) S = goX P G Q .ret k S := (rfl)
@[simp] theorem goX_scp_exit (l id : Nat) (r : CCode) (k : List Kont) (S : SA) : goX P G Q (.exit id) (.scp l r :: k) S = goX P G Q (.exit id) k S := (rfl)
@[simp] theorem goX_scp_goto (l : Nat) (r : CCode) (k : List Kont) (S : SA) : goX P G Q (.goto l) (.scp l r :: k) S = go P G Q r (.nog :: k) S := by
  show (l = l ∧ _) = _
  simp only [true_and]; rfl
@[simp] theorem goX_nog (k : List Kont) (S : SA) : goX P G Q .normal (.nog :: k) S = goX P G Q .normal k S := (rfl)
@[simp] theorem goX_nog_ret (k : List Kont) (S : SA) : goX P G Q .ret (.nog :: k) S = goX P G Q .ret k S := (rfl)
@[simp] theorem goX_nog_exit (id : Nat) (k : List Kont) (S : SA) : goX P G Q (.exit id) (.nog :: k) S = goX P G Q (.exit id) k S := (rfl)
@[simp] theorem thenA_normal (next : SA → Prop) (S : SA) : thenA next Q .normal S = next S := (rfl)
@[simp] theorem thenA_exit (next : SA → Prop) (id : Nat) (S : SA) : thenA next Q (.exit id) S = Q (.exit id) S := (rfl)
@[simp] theorem thenA_ret (next : SA → Prop) (S : SA) : thenA next Q .ret S = Q .ret S := (rfl)
@[simp] theorem unK_goX (k : List Kont) (e : Exit) (S : SA) : unK P G Q k e S = goX P G Q e k S := (rfl)

section
variable (clk i n : Nat) (r : List COper) (fr : List (Nat × AV)) (m : List (Nat × Loc)) (lg : Log) (dr : Option (List Nat × List (Nat × Nat))) (keep : List Nat) (k : List Kont)
@[simp] theorem goR_nil : goR P G Q clk [] i fr m lg none keep n k = goX P G Q .normal k ⟨keepL keep fr, m, clk + n⟩ := by simp [goR, regW]
@[simp] theorem goR_nil_draw (A : List Nat) (D : List (Nat × Nat)) : goR P G Q clk [] i fr m lg (some (A, D)) keep n k = (dynOk lg D ∧ goX P G Q .normal k ⟨keepL keep fr, m, clk + n⟩) := (rfl)
@[simp] theorem goR_cons (d : Option Nat) (op : COp) (xs : List COpd) : goR P G Q clk (⟨d, op, xs, none⟩ :: r) i fr m lg dr keep n k = goV P G Q (evs G (look fr) xs) op d clk r i fr m lg dr keep n k := by
  unfold goR goV
  simp only [regW, opW, wantV]
  cases evs G (look fr) xs <;> rfl
@[simp] theorem goR_guard (d : Option Nat) (op : COp) (xs : List COpd) (t : Nat) (b : Bool) : goR P G Q clk (⟨d, op, xs, some (t, b)⟩ :: r) i fr m lg dr keep n k = goG P G Q (wantB (look fr t) b) d op xs clk r i fr m lg dr keep n k := by
  unfold goR goG
  simp only [regW, opW, wantV]
  cases h : look fr t with
  | none => rfl
  | some v =>
    cases v with
    | v y =>
      cases y with
      | bool x =>
        simp only [wantB_bool]
        cases hx : x == b
        · rfl
        · simp only [goV]
          cases evs G (look fr) xs <;> rfl
      | _ => rfl
    | tup as =>
      cases as with
      | nil => rfl
      | cons a as => rfl
    | _ => rfl
@[simp] theorem goG_on (d : Option Nat) (op : COp) (xs : List COpd) : goG P G Q (some true) d op xs clk r i fr m lg dr keep n k = goV P G Q (evs G (look fr) xs) op d clk r i fr m lg dr keep n k := by simp [goG]
@[simp] theorem goG_off (d : Option Nat) (op : COp) (xs : List COpd) : goG P G Q (some false) d op xs clk r i fr m lg dr keep n k = goR P G Q clk r (i + 1) (setL fr d (.tup [])) m (lg ++ [(i, [], [])]) dr keep n k := (rfl)
theorem goG_split {x : Bool} {d : Option Nat} {op : COp} {xs : List COpd} (h1 : x = true → goV P G Q (evs G (look fr) xs) op d clk r i fr m lg dr keep n k) (h2 : x = false → goR P G Q clk r (i + 1) (setL fr d (.tup [])) m (lg ++ [(i, [], [])]) dr keep n k) : goG P G Q (some x) d op xs clk r i fr m lg dr keep n k := by
  cases x
  · exact h2 rfl
  · exact h1 rfl
@[simp] theorem goV_step {op : COp} (h : ∀ f, op ≠ .call f) (vals : List AV) (d : Option Nat) : goV P G Q (some vals) op d clk r i fr m lg dr keep n k = goS P G Q (step op vals (look m) (clk + i) (d.getD 0)) (reads op vals) d clk r i fr m lg dr keep n k := by
  unfold goV goS
  cases op <;> first
    | (exact absurd rfl (h _))
    | (simp only [opEW]; split <;> simp_all)
@[simp] theorem goS_some (av : AV) (us : List (Nat × Option Loc)) (rd : List Nat) (d : Option Nat) : goS P G Q (some (av, us)) rd d clk r i fr m lg dr keep n k = goR P G Q clk r (i + 1) (setL fr d av) (upsL m us) (lg ++ [(i, rd, us.map (·.1))]) dr keep n k := (rfl)
@[simp] theorem goS_none (rd : List Nat) (d : Option Nat) : goS P G Q none rd d clk r i fr m lg dr keep n k = False := (rfl)
@[simp] theorem goV_none (op : COp) (d : Option Nat) : goV P G Q none op d clk r i fr m lg dr keep n k = False := (rfl)
end
end

end Go.Proofs.YtngemgmnpcaamaaDoor.WL
