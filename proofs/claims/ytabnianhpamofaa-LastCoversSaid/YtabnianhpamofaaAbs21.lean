/- The rules of a walk: calls by contract; loops; states that say less. -/
import Derived.Test.YtabnianhpamofaaAbs20
set_option linter.unusedSectionVars false
set_option linter.unusedSimpArgs false
set_option linter.unusedVariables false
namespace Abs
open Go Go.RowKit
variable [DMode]

section
variable {P : Program}

theorem callN_of {f : FuncId} {vs : List V} {s : S} {K : V → Hp → Prop} (h : CallSem P f vs s.view fun x h' => ∃ hp, hgetF hp = h' ∧ K x hp) : CallN P f vs s K := by
  unfold CallN; exact h
theorem Does.mono {f : FuncId} {args : Array Value} {w : World} {R R' : Value → World → Prop} (h : Does P f args w R) (hR : ∀ v w', R v w' → R' v w') : Does P f args w R' := by
  rcases h with ⟨he, hc⟩ | ⟨v, w', h1, h2⟩
  · exact .inl ⟨he, Calls.mono hc fun e w' ⟨v, hv, hh⟩ => ⟨v, hv, hR _ _ hh⟩⟩
  · exact .inr ⟨v, w', h1, hR _ _ h2⟩
/-- A call by contract: what is lent must not come back. -/
theorem callN_pure {f : FuncId} {vs : List V} {s : S} {K : V → Hp → Prop} (xs : List PV) (r : PV) (b : Bool) (hl : lendsK s.acc.hd vs (fun ys b' => ys = xs ∧ b' = b)) (h : Fn P f xs r)
    (hb : (!b || r.flat) = true) (hK : K (.pv r) s.h) : CallN P f vs s K := by
  rw [acc_view] at hl
  obtain ⟨xs', l, ⟨e1, e2⟩, h2⟩ := lendsK_elim (.refl _) hl
  subst e1; subst e2
  refine callN_of fun w0 F0 G ρ a w R us hu => (does_pure h (fun e => by rw [e] at hb; simpa using hb) h2 R hu).mono fun v w' ⟨G', h3, h4⟩ => ?_
  exact ⟨.pv r, hgetF s.h, ⟨s.h, rfl, hK⟩, G', ρ, h3, by unfold VRep; exact h4⟩

theorem loopN_intro {w : (Exit → S → Prop) → S → Prop} {Q : Exit → S → Prop} {s : S} (h : ∀ I : S → Prop, (∀ s s', Le s s' → I s' → I s) → (∀ s, LoopF w Q I s → I s) → I s) : LoopN w Q s := by
  unfold LoopN; exact h
theorem condP {g : Bool} {A B : Prop} (h1 : g = true → A) (h2 : g = false → B) : cond g A B := by
  cases g
  · exact h2 rfl
  · exact h1 rfl
/-- Counting up to n. -/
theorem up_ind {p : Nat → Prop} (n : Nat) (h : ∀ i, i ≤ n → (∀ j, i < j → j ≤ n → p j) → p i) : ∀ i, i ≤ n → p i := by
  have key : ∀ k i, i ≤ n → n - i ≤ k → p i := by
    intro k
    induction k with
    | zero => exact fun i hi hk => h i hi fun j hj hn => by omega
    | succ k ih => exact fun i hi hk => h i hi fun j hj hn => ih j hn (by omega)
  exact fun i hi => key (n - i) i hi (Nat.le_refl _)

mutual
theorem Same.refl : ∀ x : PV, Same x x
  | .slice _ _ _ => by simp [Same]
  | .nil => by simp [Same]
  | .tup xs => by simp only [Same]; exact SameL.refl xs
  | .agg xs => by simp only [Same]; exact SameL.refl xs
  | .unit | .bool _ | .int _ _ | .str _ | .nilp | .fn _ _ | .box _ | .map _ => by simp [Same]
theorem SameL.refl : ∀ xs : List PV, SameL xs xs
  | [] => by simp [SameL]
  | [x] => by simp only [SameL]; exact Same.refl x
  | x :: y :: xs => by
    have h1 := Same.refl x
    have h2 := SameL.refl (y :: xs)
    simp only [SameL]
    exact ⟨h1, h2⟩
end
/-- A state of 'n' slots, most of them of no account. -/
def slotK : Nat → List (Nat × V) → (V → Prop) → Prop
  | _, [], K => K .junk
  | i, (j, v) :: r, K => cond (Nat.beq i j) (K v) (slotK i r K)
def slotsK (u : List (Nat × V)) : Nat → Nat → (List V → Prop) → Prop
  | 0, _, K => K []
  | n + 1, i, K => slotK i u fun v => slotsK u n (i + 1) fun t => K (v :: t)
def stK (n : Nat) (u : List (Nat × V)) (h : Hp) (I : S → Prop) : Prop := slotsK u n 0 fun t => I ⟨t, h⟩

/-! ### States that say less -/
def kept (h h' : Hp) (id : Nat) (K : Nat → Nat → Prop) : Prop :=
  hgetK h id fun w b => hgetK h' id fun w' b' => match b, b' with
    | .gone, _ => False
    | _, .gone => False
    | _, _ => K w w'
mutual
def leV (h h' : Hp) : V → V → List Prop → (List Prop → Prop) → Prop
  | _, .junk, acc, K => K acc
  | .pv .nil, .sl id ver _ _ len, acc, K => hgetK h' id fun w' _ => cond (Nat.beq w' ver) (K ((len = 0) :: acc)) False
  | .pv x, .pv y, acc, K => K (Same x y :: acc)
  | .ptr id ver off, .ptr id' ver' off', acc, K => cond (Nat.beq id id') (kept h h' id fun w w' => cond (Nat.beq w ver && Nat.beq w' ver') (K ((off = off') :: acc)) False) False
  | .eptr id ver sz i j, .eptr id' ver' sz' i' j', acc, K => cond (Nat.beq id id' && Nat.beq sz sz') (kept h h' id fun w w' => cond (Nat.beq w ver && Nat.beq w' ver') (K ((i = i') :: (j = j') :: acc)) False) False
  | .sl id ver sz lo len, .sl id' ver' sz' lo' len', acc, K => cond (Nat.beq id id' && Nat.beq sz sz') (kept h h' id fun w w' => cond (Nat.beq w ver && Nat.beq w' ver') (K ((lo = lo') :: (len = len') :: acc)) False) False
  | .csl id ver sz lo len, .csl id' ver' sz' lo' len', acc, K => cond (Nat.beq id id' && Nat.beq sz sz') (kept h h' id fun w w' => cond (Nat.beq w ver && Nat.beq w' ver') (K ((lo = lo') :: (len = len') :: acc)) False) False
  | .mp id ver, .mp id' ver', acc, K => cond (Nat.beq id id') (kept h h' id fun w w' => cond (Nat.beq w ver && Nat.beq w' ver') (K acc) False) False
  | .fn f cs, .fn f' cs', acc, K => cond (Nat.beq f f') (leVs h h' cs cs' acc K) False
  | .tup cs, .tup cs', acc, K => leVs h h' cs cs' acc K
  | _, _, _, _ => False
def leVs (h h' : Hp) : List V → List V → List Prop → (List Prop → Prop) → Prop
  | [], [], acc, K => K acc
  | x :: xs, y :: ys, acc, K => leV h h' x y acc fun acc => leVs h h' xs ys acc K
  | _, _, _, _ => False
end
def leB (h h' : Hp) : Blk → Blk → List Prop → (List Prop → Prop) → Prop
  | _, .gone, acc, K => K acc
  | .gone, .arr _ n _, acc, K => K ((n = 0) :: acc)
  | .cells cs, .cells cs', acc, K => leVs h h' cs cs' acc K
  | .arr sz n f, .arr sz' n' f', acc, K => cond (Nat.beq sz sz') (K ((n = n') :: (∀ i, i < n → f i = f' i) :: acc)) False
  | .map es, .map es', acc, K => K ((es = es') :: acc)
  | _, _, _, _ => False
def leBs (h h' : Hp) : Hp → List Prop → (List Prop → Prop) → Prop
  | [], acc, K => K acc
  | (id, _, b') :: r, acc, K => hgetK h id fun _ b => leB h h' b b' acc fun acc => leBs h h' r acc K
def leK (s s' : S) : Prop := match s, s' with
  | ⟨t, h⟩, ⟨t', h'⟩ => leVs h h' t t' [] fun acc => leBs h h' h' acc fun acc => AllP acc

/-- Is this block kept? -/
def keptB (h h' : Hp) (id : Nat) : Bool := match (hgetF h id).2, (hgetF h' id).2 with
  | .gone, _ => false
  | _, .gone => false
  | _, _ => true
theorem kept_elim {h h' : Hp} {id : Nat} {K : Nat → Nat → Prop} (hh : kept h h' id K) : keptB h h' id = true ∧ K (hgetF h id).1 (hgetF h' id).1 := by
  unfold kept at hh
  rw [hgetK_eq, hgetK_eq] at hh
  unfold keptB
  split at hh
  · exact hh.elim
  · exact hh.elim
  · rename_i b b' h1 h2
    refine ⟨?_, hh⟩
    generalize (hgetF h id).2 = x at h1 h2
    generalize (hgetF h' id).2 = y at h1 h2
    cases x <;> cases y <;> first | rfl | exact absurd rfl h1 | exact absurd rfl h2 | exact (h1 rfl).elim | exact (h2 rfl).elim

/-- What is shown of two slots. -/
def VLe (h h' : Hp) (x y : V) : Prop := ∀ (w : World) (G : Nat → Prop) (ρ ρ' : Nat → Option Nat) (v : Value), (∀ id, keptB h h' id = true → ρ' id = ρ id) →
  VRep w G ρ (hgetF h) x v → VRep w G ρ' (hgetF h') y v
def VLes (h h' : Hp) (xs ys : List V) : Prop := xs.length = ys.length ∧ ∀ (w : World) (G : Nat → Prop) (ρ ρ' : Nat → Option Nat), (∀ id, keptB h h' id = true → ρ' id = ρ id) →
  (∀ vs, VReps w G ρ (hgetF h) xs vs → VReps w G ρ' (hgetF h') ys vs) ∧ ∀ i v, VRep w G ρ (hgetF h) (xs.getD i .junk) v → VRep w G ρ' (hgetF h') (ys.getD i .junk) v

theorem vrep_junk {w : World} {G : Nat → Prop} {ρ : Nat → Option Nat} {h : Nat → Nat × Blk} {v : Value} : VRep w G ρ h .junk v := by unfold VRep; trivial

mutual
theorem leV_elim {h h' : Hp} : ∀ (x y : V) {acc : List Prop} {K : List Prop → Prop}, leV h h' x y acc K → ∃ acc', K acc' ∧ (AllL acc' → AllL acc ∧ VLe h h' x y)
  | x, .junk, acc, K, hh => by
    have : K acc := by cases x <;> simpa only [leV] using hh
    exact ⟨acc, this, fun ha => ⟨ha, fun w G ρ ρ' v _ _ => vrep_junk⟩⟩
  | .pv x, .sl id ver sz lo len, acc, K, hh => by
    cases x <;> simp only [leV] at hh
    rw [hgetK_eq] at hh
    simp only [cond_prop] at hh
    split at hh
    · rename_i hv
      have hv := Nat.eq_of_beq_eq_true hv
      refine ⟨_, hh, fun ha => ?_⟩
      obtain ⟨e0, ha⟩ := allL_cons ha
      refine ⟨ha, fun w G ρ ρ' v _ hx => ?_⟩
      unfold VRep at hx ⊢
      cases hx
      exact ⟨rfl, by omega, fun _ => .inl ⟨e0, none, rfl⟩⟩
    · exact hh.elim
  | .pv x, .pv y, acc, K, hh => by
    have : K (Same x y :: acc) := by cases x <;> simpa only [leV] using hh
    refine ⟨_, this, fun ha => ?_⟩
    obtain ⟨e0, ha⟩ := allL_cons ha
    refine ⟨ha, fun w G ρ ρ' v _ hx => ?_⟩
    unfold VRep at hx ⊢
    exact prep_same x y e0 hx
  | .ptr id ver off, .ptr id' ver' off', acc, K, hh => by
    simp only [leV, cond_prop] at hh
    split at hh
    · rename_i hi
      have hi := Nat.eq_of_beq_eq_true hi
      subst hi
      obtain ⟨hk, hh⟩ := kept_elim hh
      split at hh
      · rename_i hv
        rw [Bool.and_eq_true] at hv
        have h1 := Nat.eq_of_beq_eq_true hv.1
        have h2 := Nat.eq_of_beq_eq_true hv.2
        refine ⟨_, hh, fun ha => ?_⟩
        obtain ⟨e0, ha⟩ := allL_cons ha
        refine ⟨ha, fun w G ρ ρ' v hρ hx => ?_⟩
        unfold VRep at hx ⊢
        refine ⟨hx.1, by omega, fun _ => ?_⟩
        rw [hρ id hk, ← e0]; exact hx.2.2 h1
      · exact hh.elim
    · exact hh.elim
  | .eptr id ver sz i j, .eptr id' ver' sz' i' j', acc, K, hh => by
    simp only [leV, cond_prop] at hh
    split at hh
    · rename_i hi
      rw [Bool.and_eq_true] at hi
      have hi1 := Nat.eq_of_beq_eq_true hi.1
      have hi2 := Nat.eq_of_beq_eq_true hi.2
      subst hi1; subst hi2
      obtain ⟨hk, hh⟩ := kept_elim hh
      split at hh
      · rename_i hv
        rw [Bool.and_eq_true] at hv
        have h1 := Nat.eq_of_beq_eq_true hv.1
        have h2 := Nat.eq_of_beq_eq_true hv.2
        refine ⟨_, hh, fun ha => ?_⟩
        obtain ⟨e0, ha⟩ := allL_cons ha
        obtain ⟨e1, ha⟩ := allL_cons ha
        refine ⟨ha, fun w G ρ ρ' v hρ hx => ?_⟩
        unfold VRep at hx ⊢
        refine ⟨hx.1, by omega, fun _ => ?_⟩
        rw [hρ id hk, ← e0, ← e1]; exact hx.2.2 h1
      · exact hh.elim
    · exact hh.elim
  | .sl id ver sz lo len, .sl id' ver' sz' lo' len', acc, K, hh => by
    simp only [leV, cond_prop] at hh
    split at hh
    · rename_i hi
      rw [Bool.and_eq_true] at hi
      have hi1 := Nat.eq_of_beq_eq_true hi.1
      have hi2 := Nat.eq_of_beq_eq_true hi.2
      subst hi1; subst hi2
      obtain ⟨hk, hh⟩ := kept_elim hh
      split at hh
      · rename_i hv
        rw [Bool.and_eq_true] at hv
        have h1 := Nat.eq_of_beq_eq_true hv.1
        have h2 := Nat.eq_of_beq_eq_true hv.2
        refine ⟨_, hh, fun ha => ?_⟩
        obtain ⟨e0, ha⟩ := allL_cons ha
        obtain ⟨e1, ha⟩ := allL_cons ha
        refine ⟨ha, fun w G ρ ρ' v hρ hx => ?_⟩
        unfold VRep at hx ⊢
        refine ⟨hx.1, by omega, fun _ => ?_⟩
        rw [hρ id hk, ← e0, ← e1]; exact hx.2.2 h1
      · exact hh.elim
    · exact hh.elim
  | .csl id ver sz lo len, .csl id' ver' sz' lo' len', acc, K, hh => by
    simp only [leV, cond_prop] at hh
    split at hh
    · rename_i hi
      rw [Bool.and_eq_true] at hi
      have hi1 := Nat.eq_of_beq_eq_true hi.1
      have hi2 := Nat.eq_of_beq_eq_true hi.2
      subst hi1; subst hi2
      obtain ⟨hk, hh⟩ := kept_elim hh
      split at hh
      · rename_i hv
        rw [Bool.and_eq_true] at hv
        have h1 := Nat.eq_of_beq_eq_true hv.1
        have h2 := Nat.eq_of_beq_eq_true hv.2
        refine ⟨_, hh, fun ha => ?_⟩
        obtain ⟨e0, ha⟩ := allL_cons ha
        obtain ⟨e1, ha⟩ := allL_cons ha
        refine ⟨ha, fun w G ρ ρ' v hρ hx => ?_⟩
        unfold VRep at hx ⊢
        refine ⟨hx.1, by omega, fun _ => ?_⟩
        rw [hρ id hk, ← e0, ← e1]; exact hx.2.2 h1
      · exact hh.elim
    · exact hh.elim
  | .mp id ver, .mp id' ver', acc, K, hh => by
    simp only [leV, cond_prop] at hh
    split at hh
    · rename_i hi
      have hi := Nat.eq_of_beq_eq_true hi
      subst hi
      obtain ⟨hk, hh⟩ := kept_elim hh
      split at hh
      · rename_i hv
        rw [Bool.and_eq_true] at hv
        have h1 := Nat.eq_of_beq_eq_true hv.1
        have h2 := Nat.eq_of_beq_eq_true hv.2
        refine ⟨_, hh, fun ha => ⟨ha, fun w G ρ ρ' v hρ hx => ?_⟩⟩
        unfold VRep at hx ⊢
        refine ⟨hx.1, by omega, fun _ => ?_⟩
        rw [hρ id hk]; exact hx.2.2 h1
      · exact hh.elim
    · exact hh.elim
  | .fn f cs, .fn f' cs', acc, K, hh => by
    simp only [leV, cond_prop] at hh
    split at hh
    · rename_i hi
      have hi := Nat.eq_of_beq_eq_true hi
      subst hi
      obtain ⟨acc', h1, h2⟩ := leVs_elim cs cs' hh
      refine ⟨acc', h1, fun ha => ⟨(h2 ha).1, fun w G ρ ρ' v hρ hx => ?_⟩⟩
      unfold VRep at hx ⊢
      obtain ⟨vs, e, h3⟩ := hx
      exact ⟨vs, e, (((h2 ha).2.2 w G ρ ρ' hρ).1 vs h3)⟩
    · exact hh.elim
  | .tup cs, .tup cs', acc, K, hh => by
    simp only [leV] at hh
    obtain ⟨acc', h1, h2⟩ := leVs_elim cs cs' hh
    refine ⟨acc', h1, fun ha => ⟨(h2 ha).1, fun w G ρ ρ' v hρ hx => ?_⟩⟩
    unfold VRep at hx ⊢
    obtain ⟨vs, e, h3⟩ := hx
    exact ⟨vs, e, (((h2 ha).2.2 w G ρ ρ' hρ).1 vs h3)⟩
  | x, .cond _ _, acc, K, hh => by cases x <;> (first | (rename_i z; cases z) | skip) <;> simp only [leV] at hh
  | .junk, .pv _, _, _, hh | .junk, .ptr _ _ _, _, _, hh | .junk, .eptr _ _ _ _ _, _, _, hh | .junk, .sl _ _ _ _ _, _, _, hh | .junk, .csl _ _ _ _ _, _, _, hh | .junk, .mp _ _, _, _, hh
  | .junk, .fn _ _, _, _, hh | .junk, .tup _, _, _, hh => by simp only [leV] at hh
  | .cond _ _, .pv _, _, _, hh | .cond _ _, .ptr _ _ _, _, _, hh | .cond _ _, .eptr _ _ _ _ _, _, _, hh | .cond _ _, .sl _ _ _ _ _, _, _, hh | .cond _ _, .csl _ _ _ _ _, _, _, hh | .cond _ _, .mp _ _, _, _, hh
  | .cond _ _, .fn _ _, _, _, hh | .cond _ _, .tup _, _, _, hh => by simp only [leV] at hh
  | .pv z, .ptr _ _ _, _, _, hh | .pv z, .eptr _ _ _ _ _, _, _, hh | .pv z, .csl _ _ _ _ _, _, _, hh | .pv z, .mp _ _, _, _, hh
  | .pv z, .fn _ _, _, _, hh | .pv z, .tup _, _, _, hh => by cases z <;> simp only [leV] at hh
  | .ptr _ _ _, .pv _, _, _, hh | .ptr _ _ _, .eptr _ _ _ _ _, _, _, hh | .ptr _ _ _, .sl _ _ _ _ _, _, _, hh | .ptr _ _ _, .csl _ _ _ _ _, _, _, hh | .ptr _ _ _, .mp _ _, _, _, hh
  | .ptr _ _ _, .fn _ _, _, _, hh | .ptr _ _ _, .tup _, _, _, hh => by simp only [leV] at hh
  | .eptr _ _ _ _ _, .pv _, _, _, hh | .eptr _ _ _ _ _, .ptr _ _ _, _, _, hh | .eptr _ _ _ _ _, .sl _ _ _ _ _, _, _, hh | .eptr _ _ _ _ _, .csl _ _ _ _ _, _, _, hh | .eptr _ _ _ _ _, .mp _ _, _, _, hh
  | .eptr _ _ _ _ _, .fn _ _, _, _, hh | .eptr _ _ _ _ _, .tup _, _, _, hh => by simp only [leV] at hh
  | .sl _ _ _ _ _, .pv _, _, _, hh | .sl _ _ _ _ _, .ptr _ _ _, _, _, hh | .sl _ _ _ _ _, .eptr _ _ _ _ _, _, _, hh | .sl _ _ _ _ _, .csl _ _ _ _ _, _, _, hh | .sl _ _ _ _ _, .mp _ _, _, _, hh
  | .sl _ _ _ _ _, .fn _ _, _, _, hh | .sl _ _ _ _ _, .tup _, _, _, hh => by simp only [leV] at hh
  | .csl _ _ _ _ _, .pv _, _, _, hh | .csl _ _ _ _ _, .ptr _ _ _, _, _, hh | .csl _ _ _ _ _, .eptr _ _ _ _ _, _, _, hh | .csl _ _ _ _ _, .sl _ _ _ _ _, _, _, hh | .csl _ _ _ _ _, .mp _ _, _, _, hh
  | .csl _ _ _ _ _, .fn _ _, _, _, hh | .csl _ _ _ _ _, .tup _, _, _, hh => by simp only [leV] at hh
  | .mp _ _, .pv _, _, _, hh | .mp _ _, .ptr _ _ _, _, _, hh | .mp _ _, .eptr _ _ _ _ _, _, _, hh | .mp _ _, .sl _ _ _ _ _, _, _, hh | .mp _ _, .csl _ _ _ _ _, _, _, hh
  | .mp _ _, .fn _ _, _, _, hh | .mp _ _, .tup _, _, _, hh => by simp only [leV] at hh
  | .fn _ _, .pv _, _, _, hh | .fn _ _, .ptr _ _ _, _, _, hh | .fn _ _, .eptr _ _ _ _ _, _, _, hh | .fn _ _, .sl _ _ _ _ _, _, _, hh | .fn _ _, .csl _ _ _ _ _, _, _, hh | .fn _ _, .mp _ _, _, _, hh
  | .fn _ _, .tup _, _, _, hh => by simp only [leV] at hh
  | .tup _, .pv _, _, _, hh | .tup _, .ptr _ _ _, _, _, hh | .tup _, .eptr _ _ _ _ _, _, _, hh | .tup _, .sl _ _ _ _ _, _, _, hh | .tup _, .csl _ _ _ _ _, _, _, hh | .tup _, .mp _ _, _, _, hh
  | .tup _, .fn _ _, _, _, hh => by simp only [leV] at hh
theorem leVs_elim {h h' : Hp} : ∀ (xs ys : List V) {acc : List Prop} {K : List Prop → Prop}, leVs h h' xs ys acc K → ∃ acc', K acc' ∧ (AllL acc' → AllL acc ∧ VLes h h' xs ys)
  | [], [], acc, K, hh => by
    simp only [leVs] at hh
    exact ⟨acc, hh, fun ha => ⟨ha, rfl, fun w G ρ ρ' _ => ⟨fun vs hv => by unfold VReps at hv ⊢; exact hv, fun i v _ => by simpa using vrep_junk⟩⟩⟩
  | x :: xs, y :: ys, acc, K, hh => by
    simp only [leVs] at hh
    obtain ⟨acc1, h1, h2⟩ := leV_elim x y hh
    obtain ⟨acc2, h3, h4⟩ := leVs_elim xs ys h1
    refine ⟨acc2, h3, fun ha => ?_⟩
    obtain ⟨ha1, hl, h5⟩ := h4 ha
    obtain ⟨ha0, h6⟩ := h2 ha1
    refine ⟨ha0, by simp [hl], fun w G ρ ρ' hρ => ⟨fun vs hv => ?_, fun i v hv => ?_⟩⟩
    · unfold VReps at hv ⊢
      obtain ⟨u, us, e, h7, h8⟩ := hv
      exact ⟨u, us, e, h6 w G ρ ρ' u hρ h7, (h5 w G ρ ρ' hρ).1 us h8⟩
    · cases i with
      | zero => simpa using h6 w G ρ ρ' v hρ (by simpa using hv)
      | succ i => simpa using (h5 w G ρ ρ' hρ).2 i v (by simpa using hv)
  | [], _ :: _, _, _, hh => by simp only [leVs] at hh
  | _ :: _, [], _, _, hh => by simp only [leVs] at hh
end

def kb : Blk → Blk → Bool
  | .gone, _ => false
  | _, .gone => false
  | _, _ => true
theorem keptB_eq (h h' : Hp) (id : Nat) : keptB h h' id = kb (hgetF h id).2 (hgetF h' id).2 := by
  unfold keptB kb
  cases (hgetF h id).2 <;> cases (hgetF h' id).2 <;> rfl
def BLe (h h' : Hp) (b b' : Blk) : Prop := ∀ (w : World) (G : Nat → Prop) (ρ ρ' : Nat → Option Nat) (ob : Option Nat), (∀ id, keptB h h' id = true → ρ' id = ρ id) →
  BRep w G ρ (hgetF h) ob b → BRep w G ρ' (hgetF h') (if kb b b' then ob else none) b'

theorem leB_elim {h h' : Hp} {b b' : Blk} {acc : List Prop} {K : List Prop → Prop} (hh : leB h h' b b' acc K) : ∃ acc', K acc' ∧ (AllL acc' → AllL acc ∧ BLe h h' b b') := by
  cases b' with
  | gone =>
    have : K acc := by cases b <;> simpa only [leB] using hh
    exact ⟨acc, this, fun ha => ⟨ha, fun w G ρ ρ' ob _ _ => by unfold BRep; trivial⟩⟩
  | cells cs' =>
    cases b <;> simp only [leB] at hh
    rename_i cs
    obtain ⟨acc', h1, h2⟩ := leVs_elim cs cs' hh
    refine ⟨acc', h1, fun ha => ⟨(h2 ha).1, fun w G ρ ρ' ob hρ hb => ?_⟩⟩
    obtain ⟨_, hl, h3⟩ := h2 ha
    unfold BRep at hb ⊢
    obtain ⟨b, c, e, e1, h4, h5, h6⟩ := hb
    exact ⟨b, c, e, by simpa [kb] using e1, h4, by omega, fun j hj => (h3 w G ρ ρ' hρ).2 j _ (h6 j (by omega))⟩
  | arr sz' n' f' =>
    cases b <;> simp only [leB] at hh
    · refine ⟨_, hh, fun ha => ?_⟩
      obtain ⟨e0, ha⟩ := allL_cons ha
      refine ⟨ha, fun w G ρ ρ' ob _ _ => ?_⟩
      unfold BRep
      exact .inl ⟨by simp [kb], e0⟩
    · rename_i sz n f
      simp only [cond_prop] at hh
      split at hh
      · rename_i hs
        have hs := Nat.eq_of_beq_eq_true hs
        subst hs
        refine ⟨_, hh, fun ha => ?_⟩
        obtain ⟨e0, ha1⟩ := allL_cons ha
        obtain ⟨e1, ha2⟩ := allL_cons ha1
        refine ⟨ha2, fun w G ρ ρ' ob _ hb => ?_⟩
        subst e0
        unfold BRep at hb ⊢
        rcases hb with ⟨h1, h2⟩ | ⟨b, c, e, h1, h2, h3, h4, h5, h6, h7, h8⟩
        · exact .inl ⟨by simpa [kb] using h1, h2⟩
        · exact .inr ⟨b, c, e, by simpa [kb] using h1, h2, h3, h4, h5, fun i hi => by rw [← e1 i hi]; exact h6 i hi, h7, fun i j hi hj => by rw [← e1 i hi]; exact h8 i j hi hj⟩
      · exact hh.elim
  | map es' =>
    cases b <;> simp only [leB] at hh
    refine ⟨_, hh, fun ha => ?_⟩
    obtain ⟨e0, ha1⟩ := allL_cons ha
    refine ⟨ha1, fun w G ρ ρ' ob _ hb => ?_⟩
    subst e0
    unfold BRep at hb ⊢
    obtain ⟨b, ents, clk, h1, h2⟩ := hb
    exact ⟨b, ents, clk, by simpa [kb] using h1, h2⟩

theorem leBs_elim {h h' : Hp} : ∀ {r : Hp} {acc : List Prop} {K : List Prop → Prop}, leBs h h' r acc K → ∃ acc', K acc' ∧ (AllL acc' → AllL acc ∧ ∀ id, BLe h h' (hgetF h id).2 (hgetF r id).2)
  | [], acc, K, hh => by
    simp only [leBs] at hh
    exact ⟨acc, hh, fun ha => ⟨ha, fun id w G ρ ρ' ob _ _ => by show BRep _ _ _ _ _ Blk.gone; unfold BRep; trivial⟩⟩
  | (i, v, b') :: r, acc, K, hh => by
    simp only [leBs] at hh
    rw [hgetK_eq] at hh
    obtain ⟨acc1, h1, h2⟩ := leB_elim hh
    obtain ⟨acc2, h3, h4⟩ := leBs_elim h1
    refine ⟨acc2, h3, fun ha => ?_⟩
    obtain ⟨ha1, h5⟩ := h4 ha
    obtain ⟨ha0, h6⟩ := h2 ha1
    refine ⟨ha0, fun id => ?_⟩
    simp only [hgetF]
    split
    · rename_i e; subst e; exact h6
    · exact h5 id

theorem le_of {s s' : S} (h : leK s s') : Le s s' := by
  obtain ⟨t, hp⟩ := s
  obtain ⟨t', hp'⟩ := s'
  simp only [leK] at h
  obtain ⟨acc1, h1, h2⟩ := leVs_elim t t' h
  obtain ⟨acc2, h3, h4⟩ := leBs_elim h1
  have hall := (allP_iff _).1 h3
  obtain ⟨ha1, hB⟩ := h4 hall
  obtain ⟨_, hl, hV⟩ := h2 ha1
  intro w0 F0 a w ⟨G, ρ, R⟩
  let ρ' : Nat → Option Nat := fun id => if keptB hp hp' id then ρ id else none
  have hρ : ∀ id, keptB hp hp' id = true → ρ' id = ρ id := fun id hk => by simp only [ρ', hk, if_true]
  have hρ2 : ∀ id b, ρ' id = some b → ρ id = some b := fun id b hb => by
    simp only [ρ'] at hb
    split at hb
    · exact hb
    · cases hb
  exact ⟨G, ρ', {
    defers := ⟨fun d hd => by
      obtain ⟨D, h1, h2, h3, h4, h5⟩ := R.defers.1 d hd
      exact ⟨D, h1, h2, h3, h4, fun i hi => h5 i (hρ2 i D hi)⟩, R.defers.2.1, fun D o hz => by
      obtain ⟨h2, h3, h4, h5⟩ := R.defers.2.2.1 D o hz
      exact ⟨h2, h3, h4, fun i hi => h5 i (hρ2 i D hi)⟩, fun D o hz => by
      obtain ⟨h3, h5⟩ := R.defers.2.2.2 D o hz
      exact ⟨h3, fun i hi => h5 i (hρ2 i D hi)⟩⟩
    size := by rw [R.size]; exact hl
    below := R.below
    foot := R.foot
    own := fun i b hb => R.own i b (hρ2 i b hb)
    inj := fun i j b hi hj => R.inj i j b (hρ2 i b hi) (hρ2 j b hj)
    blk := fun i => by
      have := hB i w G ρ ρ' (ρ i) hρ (R.blk i)
      rw [← keptB_eq] at this
      exact this
    slot := fun i => (hV w G ρ ρ' hρ).2 i _ (R.slot i) }⟩

/-! ### Contracts for arguments that say more -/
theorem Fn.args {f : FuncId} {xs ys : List PV} {r : PV} (h : Fn P f ys r) (hs : SameL xs ys) : Fn P f xs r := by
  intro w F vs hF hp hk
  obtain ⟨h1, h2⟩ := prep_sames xs ys hs
  exact h w F vs hF ⟨hp.1.trans h1, fun i hi => h2 i (by omega) (hp.2 i (by omega))⟩ hk
theorem Fn.res {f : FuncId} {xs : List PV} {r r' : PV} (h : Fn P f xs r) (hs : Same r r') : Fn P f xs r' :=
  fun w F vs hF hp hk => (h w F vs hF hp hk).mono fun _ _ hh => ⟨hh.1, prep_same r r' hs hh.2⟩
end
end Abs
