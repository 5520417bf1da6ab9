/- The machine's states last: what a change of one block, and a call, leave of a state's meaning; the readers hand on what the slots hold. -/
import Derived.Test.YtabnianhpamofaaAbs3
import Derived.Laws.Sem
import Derived.Laws.World
set_option linter.unusedSectionVars false
set_option linter.unusedSimpArgs false
set_option linter.unusedVariables false
namespace Abs
open Go Go.RowKit
variable [DMode]

/-! ### The readers, as functions -/
theorem getK_eq (l : List V) (i : Nat) (K : V → Prop) : getK l i K = K (l.getD i .junk) := by
  induction l generalizing i with
  | nil => cases i <;> rfl
  | cons x xs ih => cases i with
    | zero => rfl
    | succ n => simpa [getK] using ih n
theorem setK_eq (l : List V) (i : Nat) (v : V) (K : List V → Prop) : setK l i v K = K (l.set i v) := by
  induction l generalizing i K with
  | nil => cases i <;> rfl
  | cons x xs ih => cases i with
    | zero => rfl
    | succ n => simpa [setK] using ih n _
theorem cond_prop (b : Bool) (p q : Prop) : cond b p q = if b = true then p else q := by cases b <;> simp
theorem hgetK_eq (h : Hp) (id : Nat) (K : Nat → Blk → Prop) : hgetK h id K = K (hgetF h id).1 (hgetF h id).2 := by
  induction h with
  | nil => rfl
  | cons x r ih =>
    obtain ⟨i, v, b⟩ := x
    simp only [hgetK, hgetF, cond_prop, ih]
    by_cases e : i = id <;> simp [e]
def updF (h : Nat → Nat × Blk) (id ver : Nat) (b : Blk) : Nat → Nat × Blk := fun i => if i = id then (ver, b) else h i
theorem hsetK_eq (h : Hp) (id ver : Nat) (b : Blk) (K : Hp → Prop) : ∃ h', hsetK h id ver b K = K h' ∧ hgetF h' = updF (hgetF h) id ver b := by
  induction h generalizing K with
  | nil =>
    refine ⟨[(id, ver, b)], rfl, ?_⟩
    funext i
    simp only [hgetF, updF, eq_comm (a := id)]
  | cons x r ih =>
    obtain ⟨i, v, c⟩ := x
    by_cases e : i = id
    · refine ⟨(i, ver, b) :: r, by simp [hsetK, e], ?_⟩
      funext j
      simp only [hgetF, updF]
      by_cases h1 : i = j <;> by_cases h2 : j = id <;> simp_all
    · obtain ⟨h', h1, h2⟩ := ih (fun r' => K ((i, v, c) :: r'))
      refine ⟨(i, v, c) :: h', by simp only [hsetK, cond_prop]; rw [if_neg (by simpa using e)]; exact h1, ?_⟩
      funext j
      simp only [hgetF, updF, h2]
      by_cases h3 : i = j
      · subst h3; simp [e]
      · simp [h3]

def valK (t : Nat → V) : Operand → (V → Prop) → Prop
  | .tmp i, K => K (t i)
  | .const v, K => match constPV v with
    | some x => K (.pv x)
    | none => False
  | .func f, K => K (.pv (.fn f []))
  | .global _, _ => False
def SS.acc (s : SS) : Acc := ⟨valK s.t, fun id K => K (s.h id).1 (s.h id).2⟩
theorem acc_view (s : S) : s.acc = s.view.acc := by
  obtain ⟨t, h⟩ := s
  have h1 : rdS t = valK (fun i => t.getD i .junk) := by
    funext x K
    cases x <;> first | rfl | exact getK_eq _ _ _
  have h2 : hgetK h = fun id K => K (hgetF h id).1 (hgetF h id).2 := by
    funext id K; exact hgetK_eq _ _ _
  show (⟨rdS t, hgetK h⟩ : Acc) = ⟨valK (fun i => t.getD i .junk), fun id K => K (hgetF h id).1 (hgetF h id).2⟩
  rw [h1, h2]

/-! ### What lasts -/
structure Keeps (w w' : World) (G G' : Nat → Prop) (ρ ρ' : Nat → Option Nat) (h h' : Nat → Nat × Blk) : Prop where
  heap : ∀ b, G b → w'.heap[b]? = w.heap[b]?
  foot : ∀ b, G b → G' b
  ver : ∀ id, (h id).1 ≤ (h' id).1
  place : ∀ id, (h' id).1 = (h id).1 → ρ' id = ρ id
  size : ∀ id b c e, ρ id = some b → (h' id).1 = (h id).1 → w.heap[b]? = some (.cells c e (0, 0)) → ∃ c', w'.heap[b]? = some (.cells c' e (0, 0)) ∧ c'.size = c.size

section
variable {w w' : World} {G G' : Nat → Prop} {ρ ρ' : Nat → Option Nat} {h h' : Nat → Nat × Blk}
mutual
theorem VRep.keep (k : Keeps w w' G G' ρ ρ' h h') : ∀ (x : V) (v : Value), VRep w G ρ h x v → VRep w' G' ρ' h' x v
  | .junk, _, _ => by simp only [VRep]
  | .pv x, v, hh => by simp only [VRep] at hh ⊢; exact hh.mono k.heap k.foot
  | .cond g x, v, hh => by simp only [VRep] at hh ⊢; exact ⟨fun e => VRep.keep k x v (hh.1 e), hh.2⟩
  | .ptr id ver off, v, hh => by
    simp only [VRep] at hh ⊢
    refine ⟨hh.1, Nat.le_trans hh.2.1 (k.ver id), fun e => ?_⟩
    have e2 : (h id).1 = ver := by have := k.ver id; omega
    rw [k.place id (by omega)]; exact hh.2.2 e2
  | .eptr id ver sz i j, v, hh => by
    simp only [VRep] at hh ⊢
    refine ⟨hh.1, Nat.le_trans hh.2.1 (k.ver id), fun e => ?_⟩
    have e2 : (h id).1 = ver := by have := k.ver id; omega
    rw [k.place id (by omega)]; exact hh.2.2 e2
  | .sl id ver sz lo len, v, hh => by
    simp only [VRep] at hh ⊢
    refine ⟨hh.1, Nat.le_trans hh.2.1 (k.ver id), fun e => ?_⟩
    have e2 : (h id).1 = ver := by have := k.ver id; omega
    rw [k.place id (by omega)]
    rcases hh.2.2 e2 with h1 | ⟨b, cap, c, e', h1, h2, h3, h4, h5⟩
    · exact .inl h1
    · obtain ⟨c', h6, h7⟩ := k.size id b c e' h1 (by omega) h4
      exact .inr ⟨b, cap, c', e', h1, h2, h3, h6, by rw [h7]; exact h5⟩
  | .csl id ver sz off len, v, hh => by
    simp only [VRep] at hh ⊢
    refine ⟨hh.1, Nat.le_trans hh.2.1 (k.ver id), fun e => ?_⟩
    have e2 : (h id).1 = ver := by have := k.ver id; omega
    rw [k.place id (by omega)]; exact hh.2.2 e2
  | .mp id ver, v, hh => by
    simp only [VRep] at hh ⊢
    refine ⟨hh.1, Nat.le_trans hh.2.1 (k.ver id), fun e => ?_⟩
    have e2 : (h id).1 = ver := by have := k.ver id; omega
    rw [k.place id (by omega)]; exact hh.2.2 e2
  | .fn f caps, v, hh => by
    simp only [VRep] at hh ⊢
    obtain ⟨vs, e, h1⟩ := hh
    exact ⟨vs, e, VReps.keep k caps vs h1⟩
  | .tup xs, v, hh => by
    simp only [VRep] at hh ⊢
    obtain ⟨vs, e, h1⟩ := hh
    exact ⟨vs, e, VReps.keep k xs vs h1⟩
theorem VReps.keep (k : Keeps w w' G G' ρ ρ' h h') : ∀ (xs : List V) (vs : List Value), VReps w G ρ h xs vs → VReps w' G' ρ' h' xs vs
  | [], _, hh => by simp only [VReps] at hh ⊢; exact hh
  | x :: xs, vs, hh => by
    simp only [VReps] at hh ⊢
    obtain ⟨u, us, e, h1, h2⟩ := hh
    exact ⟨u, us, e, VRep.keep k x u h1, VReps.keep k xs us h2⟩
end

theorem BRep.keep (k : Keeps w w' G G' ρ ρ' h h') {ob : Option Nat} (hb : ∀ b, ob = some b → w'.heap[b]? = w.heap[b]?) : ∀ (x : Blk), BRep w G ρ h ob x → BRep w' G' ρ' h' ob x
  | .gone, _ => by simp only [BRep]
  | .cells cs, hh => by
    simp only [BRep] at hh ⊢
    obtain ⟨b, c, e, h1, h2, h3, h4⟩ := hh
    exact ⟨b, c, e, h1, by rw [hb b h1]; exact h2, h3, fun j hj => VRep.keep k _ _ (h4 j hj)⟩
  | .arr sz n f, hh => by
    simp only [BRep] at hh ⊢
    rcases hh with h0 | ⟨b, c, e, h1, h2, h3, h4, h5, h6, h8, h7⟩
    · exact .inl h0
    · exact .inr ⟨b, c, e, h1, by rw [hb b h1]; exact h2, h3, h4, h5, h6, h8, fun i j hi hj => (h7 i j hi hj).mono k.heap k.foot⟩
  | .map es, hh => by
    simp only [BRep] at hh ⊢
    obtain ⟨b, ents, clk, h1, h2, h3, h4, h5⟩ := hh
    exact ⟨b, ents, clk, h1, by rw [hb b h1]; exact h2, h3, fun i hi => (h4 i hi).mono k.heap k.foot, fun i hi => (h5 i hi).mono k.heap k.foot⟩
end

def updR (ρ : Nat → Option Nat) (id : Nat) (ob : Option Nat) : Nat → Option Nat := fun i => if i = id then ob else ρ i
theorem updF_same (h : Nat → Nat × Blk) (id ver : Nat) (b : Blk) : updF h id ver b id = (ver, b) := by simp [updF]
theorem updF_ne (h : Nat → Nat × Blk) {id i : Nat} (ver : Nat) (b : Blk) (e : i ≠ id) : updF h id ver b i = h i := by simp [updF, e]
theorem updR_same (ρ : Nat → Option Nat) (id : Nat) (ob : Option Nat) : updR ρ id ob id = ob := by simp [updR]
theorem updR_ne (ρ : Nat → Option Nat) {id i : Nat} (ob : Option Nat) (e : i ≠ id) : updR ρ id ob i = ρ i := by simp [updR, e]

section
variable {w0 : World} {F0 : Env} {G : Nat → Prop} {ρ : Nat → Option Nat} {s : SS} {a : Act} {w : World}
/-- What lasts when one block changes. -/
theorem RelX.keeps (R : RelX w0 F0 G ρ s a w) {w' : World} {id ver : Nat} {blk : Blk} {ob : Option Nat} (hver : (s.h id).1 ≤ ver)
    (hold : ∀ b, b < w.heap.size → ρ id ≠ some b → w'.heap[b]? = w.heap[b]?)
    (hsame : ver = (s.h id).1 → ob = ρ id ∧ ∀ b c e, ρ id = some b → w.heap[b]? = some (.cells c e (0, 0)) → ∃ c', w'.heap[b]? = some (.cells c' e (0, 0)) ∧ c'.size = c.size) :
    Keeps w w' G G ρ (updR ρ id ob) s.h (updF s.h id ver blk) where
  heap := fun b hb => hold b (R.foot b hb).1 (fun e => (R.own id b e).2.2 hb)
  foot := fun _ hb => hb
  ver := fun i => by
    by_cases e : i = id
    · subst e; rw [updF_same]; exact hver
    · rw [updF_ne _ _ _ e]; exact Nat.le_refl _
  place := fun i hi => by
    by_cases e : i = id
    · subst e; rw [updF_same] at hi; rw [updR_same]; exact (hsame hi).1
    · rw [updR_ne _ _ e]
  size := fun i b c e hb hi hc => by
    by_cases ee : i = id
    · subst ee; rw [updF_same] at hi; exact (hsame hi).2 b c e hb hc
    · have h1 := R.own i b hb
      exact ⟨c, by rw [hold b h1.2.1 (fun e => ee (R.inj i id b hb e))]; exact hc, rfl⟩

theorem RelX.change (R : RelX w0 F0 G ρ s a w) {w' : World} {id ver : Nat} {blk : Blk} {ob : Option Nat}
    (hb : Bel w0.heap.size w w') (hver : (s.h id).1 ≤ ver)
    (hold : ∀ b, b < w.heap.size → ρ id ≠ some b → w'.heap[b]? = w.heap[b]?)
    (hown : ∀ b, ob = some b → w0.heap.size ≤ b ∧ b < w'.heap.size ∧ (ρ id = some b ∨ w.heap.size ≤ b))
    (hsame : ver = (s.h id).1 → ob = ρ id ∧ ∀ b c e, ρ id = some b → w.heap[b]? = some (.cells c e (0, 0)) → ∃ c', w'.heap[b]? = some (.cells c' e (0, 0)) ∧ c'.size = c.size)
    (hblk : BRep w' G (updR ρ id ob) (updF s.h id ver blk) ob blk) :
    RelX w0 F0 G (updR ρ id ob) ⟨s.n, s.t, updF s.h id ver blk⟩ a w' where
  defers := ⟨fun d hd => by
    obtain ⟨D, h1, h2, h3, h4, h5⟩ := R.defers.1 d hd
    have hlt : D < w.heap.size := (Array.getElem?_eq_some_iff.1 h3).1
    refine ⟨D, h1, h2, by rw [hold D hlt (h5 id)]; exact h3, h4, fun i => ?_⟩
    by_cases e : i = id
    · subst e
      rw [updR_same]
      intro he
      rcases (hown D he).2.2 with h6 | h6
      · exact h5 i h6
      · omega
    · rw [updR_ne _ _ e]; exact h5 i, R.defers.2.1, fun D o hz => by
    obtain ⟨h2, h3, h4, h5⟩ := R.defers.2.2.1 D o hz
    have hlt : D < w.heap.size := (Array.getElem?_eq_some_iff.1 h3).1
    refine ⟨h2, by rw [hold D hlt (h5 id)]; exact h3, h4, fun i => ?_⟩
    by_cases e : i = id
    · subst e
      rw [updR_same]
      intro he
      rcases (hown D he).2.2 with h6 | h6
      · exact h5 i h6
      · omega
    · rw [updR_ne _ _ e]; exact h5 i, fun D o hz => by
    obtain ⟨h3, h5⟩ := R.defers.2.2.2 D o hz
    have hlt : D < w.heap.size := (Array.getElem?_eq_some_iff.1 h3).1
    refine ⟨by rw [hold D hlt (h5 id)]; exact h3, fun i => ?_⟩
    by_cases e : i = id
    · subst e
      rw [updR_same]
      intro he
      rcases (hown D he).2.2 with h6 | h6
      · exact h5 i h6
      · omega
    · rw [updR_ne _ _ e]; exact h5 i⟩
  size := R.size
  below := R.below.trans hb
  foot := fun b h => ⟨Nat.lt_of_lt_of_le (R.foot b h).1 hb.size, (R.foot b h).2⟩
  own := fun i b h => by
    by_cases e : i = id
    · subst e
      rw [updR_same] at h
      obtain ⟨h1, h2, h3⟩ := hown b h
      refine ⟨h1, h2, fun hg => ?_⟩
      rcases h3 with h3 | h3
      · exact (R.own i b h3).2.2 hg
      · have := (R.foot b hg).1; omega
    · rw [updR_ne _ _ e] at h
      have := R.own i b h
      exact ⟨this.1, Nat.lt_of_lt_of_le this.2.1 hb.size, this.2.2⟩
  inj := fun i j b hi hj => by
    by_cases e : i = id <;> by_cases e' : j = id
    · omega
    · subst e
      rw [updR_same] at hi; rw [updR_ne _ _ e'] at hj
      rcases (hown b hi).2.2 with h3 | h3
      · exact R.inj _ _ b h3 hj
      · have := (R.own j b hj).2.1; omega
    · subst e'
      rw [updR_same] at hj; rw [updR_ne _ _ e] at hi
      rcases (hown b hj).2.2 with h3 | h3
      · exact R.inj _ _ b hi h3
      · have := (R.own i b hi).2.1; omega
    · rw [updR_ne _ _ e] at hi; rw [updR_ne _ _ e'] at hj; exact R.inj i j b hi hj
  blk := fun i => by
    by_cases e : i = id
    · subst e; show BRep w' G _ _ (updR ρ i ob i) (updF s.h i ver blk i).2; rw [updR_same, updF_same]; exact hblk
    · show BRep w' G _ _ (updR ρ id ob i) (updF s.h id ver blk i).2
      rw [updR_ne _ _ e, updF_ne _ _ _ e]
      exact BRep.keep (R.keeps hver hold hsame) (fun b h => hold b (R.own i b h).2.1 (fun h' => e (R.inj i id b h h'))) _ (R.blk i)
  slot := fun i => VRep.keep (R.keeps hver hold hsame) _ _ (R.slot i)

/-- A call that leaves what was there alone. -/
theorem RelX.ext (R : RelX w0 F0 G ρ s a w) {w' : World} (hb : Bel w.heap.size w w') :
    RelX w0 F0 (fun b => G b ∨ (w.heap.size ≤ b ∧ b < w'.heap.size)) ρ s a w' := by
  have hk : Keeps w w' G (fun b => G b ∨ (w.heap.size ≤ b ∧ b < w'.heap.size)) ρ ρ s.h s.h :=
    ⟨fun b h => hb.block b (R.foot b h).1, fun _ h => .inl h, fun _ => Nat.le_refl _, fun _ _ => rfl, fun i b c e h1 _ h2 => ⟨c, by rw [hb.block b (R.own i b h1).2.1]; exact h2, rfl⟩⟩
  exact {
    defers := ⟨fun d hd => by
      obtain ⟨D, h1, h2, h3, h4, h5⟩ := R.defers.1 d hd
      have hlt : D < w.heap.size := (Array.getElem?_eq_some_iff.1 h3).1
      refine ⟨D, h1, h2, by rw [hb.block D hlt]; exact h3, fun hg => ?_, h5⟩
      rcases hg with hg | hg
      · exact h4 hg
      · omega, R.defers.2.1, fun D o hz => by
      obtain ⟨h2, h3, h4, h5⟩ := R.defers.2.2.1 D o hz
      have hlt : D < w.heap.size := (Array.getElem?_eq_some_iff.1 h3).1
      refine ⟨h2, by rw [hb.block D hlt]; exact h3, fun hg => ?_, h5⟩
      rcases hg with hg | hg
      · exact h4 hg
      · omega, fun D o hz => by
      obtain ⟨h3, h5⟩ := R.defers.2.2.2 D o hz
      have hlt : D < w.heap.size := (Array.getElem?_eq_some_iff.1 h3).1
      exact ⟨by rw [hb.block D hlt]; exact h3, h5⟩⟩
    size := R.size
    below := R.below.trans (hb.mono R.below.size)
    foot := fun b h => by
      rcases h with h | h
      · exact ⟨Nat.lt_of_lt_of_le (R.foot b h).1 hb.size, (R.foot b h).2⟩
      · exact ⟨h.2, .inr (Nat.le_trans R.below.size h.1)⟩
    own := fun i b h => by
      have := R.own i b h
      exact ⟨this.1, Nat.lt_of_lt_of_le this.2.1 hb.size, fun hg => by
        rcases hg with hg | hg
        · exact this.2.2 hg
        · omega⟩
    inj := R.inj
    blk := fun i => BRep.keep hk (fun b h => hb.block b (R.own i b h).2.1) _ (R.blk i)
    slot := fun i => VRep.keep hk _ _ (R.slot i) }

/-- A slot is written. -/
theorem getD_put (a : Act) (d i : Nat) (v : Value) : (a.put (some d) v).tmps.getD i undef = if i = d ∧ d < a.tmps.size then v else a.tmps.getD i undef := by
  simp only [Act.put]
  by_cases e : i = d
  · subst e
    by_cases h : i < a.tmps.size
    · simp [h]
    · simp [h]
  · have : ¬ d = i := fun h => e h.symm
    simp [e, Array.getD_eq_getD_getElem?, this]
def SS.put (s : SS) (d : Option Nat) (v : V) : SS :=
  match d with
  | none => s
  | some d => ⟨s.n, fun i => if i = d ∧ d < s.n then v else s.t i, s.h⟩
theorem RelX.put (R : RelX w0 F0 G ρ s a w) {d : Option Nat} {v : V} {x : Value} (h : VRep w G ρ s.h v x) : RelX w0 F0 G ρ (s.put d v) (a.put d x) w := by
  cases d with
  | none => exact R
  | some d =>
    exact {
      defers := R.defers
      size := by simp only [Act.put, SS.put, Array.size_setIfInBounds]; exact R.size
      below := R.below
      foot := R.foot
      own := R.own
      inj := R.inj
      blk := R.blk
      slot := fun i => by
        rw [getD_put, R.size]
        simp only [SS.put]
        by_cases e : i = d ∧ d < s.n
        · rw [if_pos e, if_pos e]; exact h
        · rw [if_neg e, if_neg e]; exact R.slot i }
end

/-! ### The lists' operations, seen as the functions' -/
theorem view_set (s : S) (d : Nat) (v : V) : (⟨s.t.set d v, s.h⟩ : S).view = s.view.put (some d) v := by
  simp only [S.view, SS.put, List.length_set]
  congr 1
  funext i
  by_cases e : i = d
  · subst e
    by_cases h : i < s.t.length
    · simp [h, List.getD]
    · simp [h, List.getD]
  · have : ¬ d = i := fun h => e h.symm
    simp [e, List.getD, this]
theorem putS_eq (s : S) (d : Option Nat) (v : V) (K : S → Prop) : ∃ s', putS s d v K = K s' ∧ s'.view = s.view.put d v := by
  obtain ⟨t, h⟩ := s
  cases d with
  | none => exact ⟨⟨t, h⟩, rfl, rfl⟩
  | some d => exact ⟨⟨t.set d v, h⟩, by simp only [putS, setK_eq], view_set ⟨t, h⟩ d v⟩
theorem putHS_eq (s : S) (h : Hp) (d : Option Nat) (v : V) (K : S → Prop) : ∃ s', putHS s h d v K = K s' ∧ s'.view = SS.put ⟨s.view.n, s.view.t, hgetF h⟩ d v := by
  obtain ⟨t, h0⟩ := s
  cases d with
  | none => exact ⟨⟨t, h⟩, rfl, rfl⟩
  | some d => exact ⟨⟨t.set d v, h⟩, by simp only [putHS, setK_eq], view_set ⟨t, h⟩ d v⟩
def SS.upd (s : SS) (u : Option (Nat × Nat × Blk)) : SS :=
  match u with
  | none => s
  | some (id, ver, b) => ⟨s.n, s.t, updF s.h id ver b⟩
theorem updS_eq (s : S) (u : Option (Nat × Nat × Blk)) (K : S → Prop) : ∃ s', updS s u K = K s' ∧ s'.view = s.view.upd u := by
  obtain ⟨t, h⟩ := s
  cases u with
  | none => exact ⟨⟨t, h⟩, rfl, rfl⟩
  | some x =>
    obtain ⟨id, ver, b⟩ := x
    obtain ⟨h', h1, h2⟩ := hsetK_eq h id ver b (fun h => K ⟨t, h⟩)
    exact ⟨⟨t, h'⟩, h1, by simp only [S.view, SS.upd, h2]⟩
end Abs
