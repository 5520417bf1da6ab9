/- Two structs or arrays of integers and bools, compared. -/
import Derived.Test.YtabnianhpamofaaAbs8
import Derived.Laws.StructEq
import Derived.ChangeKeysEq
set_option linter.unusedSectionVars false
set_option linter.unusedSimpArgs false
set_option linter.unusedVariables false
namespace Abs
open Go Go.RowKit
variable [DMode]

def cellEq (x y : Value) : Bool :=
  match x, y with
  | .int _ a, .int _ b => a == b
  | .bool a, .bool b => a == b
  | _, _ => false
def flagOK : Bool → Value → Value → Prop
  | false, x, y => ∃ k a c, x = .int k a ∧ y = .int k c
  | true, x, y => ∃ a c, x = .bool a ∧ y = .bool c
def flagsOK (fl : List Bool) (xs ys : Array Value) (off : Nat) : Prop :=
  off + fl.length ≤ xs.size ∧ off + fl.length ≤ ys.size ∧ ∀ i, i < fl.length → flagOK (fl.getD i false) (xs.getD (off + i) undef) (ys.getD (off + i) undef)
def eqR (n : Nat) (xs ys : Array Value) (off : Nat) : Bool := (List.range n).all fun i => cellEq (xs.getD (off + i) undef) (ys.getD (off + i) undef)

theorem eqR_add (a b : Nat) (xs ys : Array Value) (off : Nat) : eqR (a + b) xs ys off = (eqR a xs ys off && eqR b xs ys (off + a)) := by
  unfold eqR
  rw [List.range_add, List.all_append, List.all_map]
  congr 2
  funext i
  simp [Nat.add_assoc]
theorem eqR_zero (xs ys : Array Value) (off : Nat) : eqR 0 xs ys off = true := rfl
theorem getD_extract (xs : Array Value) {off n i : Nat} (h : i < n) (hb : off + n ≤ xs.size) : (xs.extract off (off + n)).getD i undef = xs.getD (off + i) undef := by
  have : i < min (off + n) xs.size - off := by omega
  simp [Array.getD_eq_getD_getElem?, show off + i < xs.size by omega, Array.getElem?_extract, this]
theorem eqR_extract (n : Nat) (xs ys : Array Value) (off : Nat) (hx : off + n ≤ xs.size) (hy : off + n ≤ ys.size) : eqR n (xs.extract off (off + n)) (ys.extract off (off + n)) 0 = eqR n xs ys off := by
  unfold eqR
  have : ∀ i ∈ List.range n, cellEq ((xs.extract off (off + n)).getD (0 + i) undef) ((ys.extract off (off + n)).getD (0 + i) undef) = cellEq (xs.getD (off + i) undef) (ys.getD (off + i) undef) := by
    intro i hi
    have hi : i < n := List.mem_range.1 hi
    rw [Nat.zero_add, getD_extract xs hi hx, getD_extract ys hi hy]
  rw [Bool.eq_iff_iff]
  simp only [List.all_eq_true]
  exact ⟨fun h i hi => by rw [← this i hi]; exact h i hi, fun h i hi => by rw [this i hi]; exact h i hi⟩
theorem flagsOK_extract {fl : List Bool} {xs ys : Array Value} {off : Nat} (h : flagsOK fl xs ys off) : flagsOK fl (xs.extract off (off + fl.length)) (ys.extract off (off + fl.length)) 0 := by
  obtain ⟨h1, h2, h3⟩ := h
  refine ⟨by simp; omega, by simp; omega, fun i hi => ?_⟩
  rw [Nat.zero_add, getD_extract xs hi h1, getD_extract ys hi h2]
  exact h3 i hi
theorem flagsOK_part {a b c : List Bool} {xs ys : Array Value} {off : Nat} (h : flagsOK (a ++ b ++ c) xs ys off) : flagsOK b xs ys (off + a.length) := by
  obtain ⟨h1, h2, h3⟩ := h
  simp only [List.length_append] at h1 h2 h3
  refine ⟨by omega, by omega, fun i hi => ?_⟩
  have := h3 (a.length + i) (by omega)
  rw [← Nat.add_assoc] at this
  have e : (a ++ b ++ c).getD (a.length + i) false = b.getD i false := by
    rw [List.getD_eq_getElem?_getD, List.append_assoc, List.getElem?_append_right (by omega), Nat.add_sub_cancel_left, List.getElem?_append_left hi, List.getD_eq_getElem?_getD]
  rw [e] at this
  exact this

section
variable {P : Program}
theorem eqFields_prefix : ∀ {n : Nat} {fs : List Field} {acc fl : List Bool}, eqFields P n fs acc = some fl → ∃ r, fl = acc ++ r
  | n, [], acc, fl, h => by
    cases n <;> simp only [eqFields, Option.some.injEq] at h <;> exact ⟨[], by simp [h]⟩
  | 0, f :: fs, acc, fl, h => by simp only [eqFields] at h; cases h
  | n + 1, f :: fs, acc, fl, h => by
    simp only [eqFields] at h
    split at h
    · rename_i fl' sz h1 h2
      cases hb : (Nat.beq f.offset acc.length && Nat.beq fl'.length sz) with
      | false => rw [hb] at h; cases h
      | true =>
        rw [hb] at h
        obtain ⟨r, hr⟩ := eqFields_prefix (n := n) (fs := fs) (acc := acc ++ fl') h
        exact ⟨fl' ++ r, by rw [hr, List.append_assoc]⟩
    · cases h
theorem repFlags_length (fl : List Bool) (n : Nat) : (repFlags fl n).length = n * fl.length := by
  induction n with
  | zero => simp [repFlags]
  | succ n ih => simp only [repFlags, List.length_append, ih, Nat.succ_mul]; omega
theorem repFlags_split (fl : List Bool) : ∀ (n i : Nat), i < n → ∃ a c, repFlags fl n = a ++ fl ++ c ∧ a.length = i * fl.length
  | n + 1, 0, _ => ⟨[], repFlags fl n, by simp [repFlags], by simp⟩
  | n + 1, i + 1, h => by
    obtain ⟨a, c, e1, e2⟩ := repFlags_split fl n i (by omega)
    exact ⟨fl ++ a, c, by simp only [repFlags, e1, List.append_assoc], by simp only [List.length_append, e2, Nat.succ_mul]; omega⟩

/-- What the induction shows of a type: its parts, compared. -/
def EqT (P : Program) (n t : Nat) (fl : List Bool) : Prop :=
  ∀ (d : Nat) (xs ys : Array Value) (off : Nat) (w : World), szOf P t = some fl.length → flagsOK fl xs ys off →
    ∃ a b, (part t xs off).run P w = .ok a w ∧ (part t ys off).run P w = .ok b w ∧ (Op.equalIn (d + n) t a b).run P w = .ok (eqR fl.length xs ys off) w

theorem eqItems_run {n e : Nat} {fl : List Bool} (hE : EqT P n e fl) (hs : szOf P e = some fl.length) (hi : P.cellsOf e = fl.length) (d : Nat) (xs ys : Array Value) (w : World) :
    ∀ (k lo : Nat), (∀ i, lo ≤ i → i < lo + k → flagsOK fl xs ys (i * fl.length)) → (Op.eqItems (d + n) e (P.cellsOf e) xs ys (List.range' lo k)).run P w = .ok (eqR (k * fl.length) xs ys (lo * fl.length)) w
  | 0, lo, _ => by simp [Op.eqItems, eqR]
  | k + 1, lo, h => by
    obtain ⟨a, b, h1, h2, h3⟩ := hE d xs ys (lo * fl.length) w hs (h lo (Nat.le_refl _) (by omega))
    have ih := eqItems_run hE hs hi d xs ys w k (lo + 1) (fun i h4 h5 => h i (by omega) (by omega))
    rw [hi] at ih ⊢
    simp only [List.range'_succ, Op.eqItems, Sem.run_bind, h1, h2, h3, Result.andThen_ok]
    rw [show (k + 1) * fl.length = fl.length + k * fl.length by rw [Nat.succ_mul]; omega, eqR_add]
    rw [show lo * fl.length + fl.length = (lo + 1) * fl.length by rw [Nat.succ_mul]]
    cases eqR fl.length xs ys (lo * fl.length)
    · simp
    · simpa using ih

theorem heldStruct {m t : Nat} {fs : Array Field} (h : eqHeld P m t = true) (hu : und P t = some (.struct fs)) : P.stoodInHeld t = false ∧ ∀ f, f ∈ fs.toList → f.name ≠ "_" ∧ ∃ m', eqHeld P m' f.type = true := by
  cases m with
  | zero => simp [eqHeld] at h
  | succ m =>
    simp only [eqHeld, hu, Bool.and_eq_true, Bool.not_eq_true', List.all_eq_true, bne_iff_ne, ne_eq] at h
    exact ⟨h.1, fun f hf => ⟨(h.2 f hf).1, m, (h.2 f hf).2⟩⟩
theorem heldArray {m t e len : Nat} (h : eqHeld P m t = true) (hu : und P t = some (.array len e)) : ∃ m', eqHeld P m' e = true := by
  cases m with
  | zero => simp [eqHeld] at h
  | succ m => simp only [eqHeld, hu] at h; exact ⟨m, h⟩

mutual
theorem eqT_of : ∀ {n t : Nat} {fl : List Bool}, eqFlags P n t = some fl → ∀ {m : Nat}, eqHeld P m t = true → EqT P n t fl
  | 0, t, fl, h, _, _ => by simp only [eqFlags] at h; cases h
  | n + 1, t, fl, h, m, hm => by
    intro d xs ys off w hs hfl
    have h0 := h
    simp only [eqFlags] at h
    split at h
    · rename_i k hu
      simp only [Option.some.injEq] at h; subst h
      obtain ⟨h1, h2, h3⟩ := hfl
      obtain ⟨k', p, q, e1, e2⟩ := h3 0 (by simp)
      simp only [List.length_singleton, Nat.add_zero] at h1 h2 e1 e2
      refine ⟨.int k' p, .int k' q, ?_, ?_, ?_⟩
      · rw [run_part' (P := P) (n := 1) hu hs (fun e => by cases e) (fun _ => by omega)]; simp [aggB, e1]
      · rw [run_part' (P := P) (n := 1) hu hs (fun e => by cases e) (fun _ => by omega)]; simp [aggB, e2]
      · rw [← Nat.add_assoc, run_equalIn_int w (d + n) t k' k p q (und_eq hu)]
        have : eqR [false].length xs ys off = (p == q) := by simp only [List.length_singleton, eqR, List.range_one, List.all_cons, List.all_nil, Nat.add_zero, e1, e2, cellEq, Bool.and_true]
        rw [this]
    · rename_i hu
      simp only [Option.some.injEq] at h; subst h
      obtain ⟨h1, h2, h3⟩ := hfl
      obtain ⟨p, q, e1, e2⟩ := h3 0 (by simp)
      simp only [List.length_singleton, Nat.add_zero] at h1 h2 e1 e2
      refine ⟨.bool p, .bool q, ?_, ?_, ?_⟩
      · rw [run_part' (P := P) (n := 1) hu hs (fun e => by cases e) (fun _ => by omega)]; simp [aggB, e1]
      · rw [run_part' (P := P) (n := 1) hu hs (fun e => by cases e) (fun _ => by omega)]; simp [aggB, e2]
      · rw [← Nat.add_assoc, run_equalIn_bool' w (d + n) t p q (und_eq hu)]
        have : eqR [true].length xs ys off = (p == q) := by simp only [List.length_singleton, eqR, List.range_one, List.all_cons, List.all_nil, Nat.add_zero, e1, e2, cellEq, Bool.and_true]
        rw [this]
    · rename_i len e hu
      refine ⟨.agg (xs.extract off (off + fl.length)), .agg (ys.extract off (off + fl.length)), ?_, ?_, ?_⟩
      · simp [part, run_agg hu, aggB, run_siz hs]
      · simp [part, run_agg hu, aggB, run_siz hs]
      · rw [eqA_of h0 hm (Or.inl ⟨len, e, hu⟩) d _ _ w (flagsOK_extract hfl), eqR_extract _ _ _ _ hfl.1 hfl.2.1]
    · rename_i fs hu
      refine ⟨.agg (xs.extract off (off + fl.length)), .agg (ys.extract off (off + fl.length)), ?_, ?_, ?_⟩
      · simp [part, run_agg hu, aggB, run_siz hs]
      · simp [part, run_agg hu, aggB, run_siz hs]
      · rw [eqA_of h0 hm (Or.inr ⟨fs, hu⟩) d _ _ w (flagsOK_extract hfl), eqR_extract _ _ _ _ hfl.1 hfl.2.1]
    · cases h
  termination_by n => (n, 1)
theorem eqA_of : ∀ {n t : Nat} {fl : List Bool}, eqFlags P n t = some fl → ∀ {m : Nat}, eqHeld P m t = true → ((∃ len e, und P t = some (.array len e)) ∨ ∃ fs, und P t = some (.struct fs)) →
    ∀ (d : Nat) (xs ys : Array Value) (w : World), flagsOK fl xs ys 0 → (Op.equalIn (d + n) t (.agg xs) (.agg ys)).run P w = .ok (eqR fl.length xs ys 0) w
  | 0, t, fl, h, _, _, _ => by simp only [eqFlags] at h; cases h
  | n + 1, t, fl, h, m, hm, hk => by
    intro d xs ys w hfl
    rcases hk with ⟨len, e, hu⟩ | ⟨fs, hu⟩
    · simp only [eqFlags, hu] at h
      split at h
      · rename_i fl' sz h1 h2
        cases hb : Nat.beq fl'.length sz with
        | false => rw [hb] at h; cases h
        | true =>
          rw [hb] at h
          simp only [cond_true, Option.some.injEq] at h
          subst h
          have hsz := Nat.eq_of_beq_eq_true hb
          obtain ⟨m', hm'⟩ := heldArray hm hu
          obtain ⟨i, hi1, hi2⟩ := szOf_eq h2
          have hcell : P.cellsOf e = fl'.length := by simp [Program.cellsOf, hi1, hi2, hsz]
          have := eqItems_run (eqT_of h1 hm') (by rw [h2, hsz]) hcell d xs ys w len 0 (fun i _ hi => by
            obtain ⟨a, c, e1, e2⟩ := repFlags_split fl' len i (by omega)
            rw [e1] at hfl
            have := flagsOK_part hfl
            rwa [Nat.zero_add, e2] at this)
          rw [← Nat.add_assoc, run_equalIn_array w (d + n) xs ys (und_eq hu) hi1, List.range_eq_range', this, repFlags_length]
          simp
      · cases h
    · simp only [eqFlags, hu] at h
      obtain ⟨hp, hfs⟩ := heldStruct hm hu
      have hfo : P.fieldsOf t = fs := by simp [Program.fieldsOf, und_eq hu]
      rw [← Nat.add_assoc, run_equalIn_struct w (d + n) t xs ys (by rw [hfo]; exact und_eq hu) hp, hfo]
      have := eqF_of h hfs d xs ys w hfl
      simpa using this
  termination_by n => (n, 0)
theorem eqF_of : ∀ {n : Nat} {fs : List Field} {acc fl : List Bool}, eqFields P n fs acc = some fl → (∀ f, f ∈ fs → f.name ≠ "_" ∧ ∃ m', eqHeld P m' f.type = true) →
    ∀ (d : Nat) (xs ys : Array Value) (w : World), flagsOK fl xs ys 0 → (Op.eqFields (d + n) xs ys fs).run P w = .ok (eqR (fl.length - acc.length) xs ys acc.length) w
  | n, [], acc, fl, h, _ => by
    intro d xs ys w hfl
    have : fl = acc := by cases n <;> simp only [eqFields, Option.some.injEq] at h <;> exact h.symm
    subst this
    simp [Op.eqFields, eqR]
  | 0, f :: fs, acc, fl, h, _ => by simp only [eqFields] at h; cases h
  | n + 1, f :: fs, acc, fl, h, hfs => by
    intro d xs ys w hfl
    simp only [eqFields] at h
    split at h
    · rename_i fl' sz h1 h2
      cases hb : (Nat.beq f.offset acc.length && Nat.beq fl'.length sz) with
      | false => rw [hb] at h; cases h
      | true =>
        rw [hb] at h
        simp only [cond_true] at h
        rw [Bool.and_eq_true] at hb
        have ho := Nat.eq_of_beq_eq_true hb.1
        have hsz := Nat.eq_of_beq_eq_true hb.2
        obtain ⟨hn, m', hm'⟩ := hfs f (by simp)
        obtain ⟨r, hr⟩ := eqFields_prefix h
        have hpart : flagsOK fl' xs ys f.offset := by
          rw [hr] at hfl
          have := flagsOK_part hfl
          rwa [Nat.zero_add, ← ho] at this
        obtain ⟨a, b, p1, p2, p3⟩ := eqT_of h1 hm' (d + 1) xs ys f.offset w (by rw [h2, hsz]) hpart
        have ih := eqF_of h (fun g hg => hfs g (by simp [hg])) (d + 1) xs ys w hfl
        rw [show d + 1 + n = d + (n + 1) by omega] at p3 ih
        simp only [Op.eqFields, hn, ne_eq, not_false_eq_true, if_true, Sem.run_bind, p1, p2, p3, Result.andThen_ok]
        have e1 : fl.length - acc.length = fl'.length + (fl.length - (acc ++ fl').length) := by rw [hr]; simp; omega
        rw [e1, eqR_add, ho, List.length_append] at *
        cases eqR fl'.length xs ys acc.length
        · simp
        · simpa using ih
    · cases h
  termination_by n => (n, 1)
end

/-- The machine's own comparison, held against the cells'. -/
theorem aggEqK_elim : ∀ {fl : List Bool} {xs ys : List PV} {K : Bool → Prop}, aggEqK fl xs ys K → ∃ e, K e ∧
    ∀ w F (us vs : List Value), us.length = xs.length → vs.length = ys.length → (∀ i, i < xs.length → PRep w F (us.getD i undef) (xs.getD i .unit)) → (∀ i, i < ys.length → PRep w F (vs.getD i undef) (ys.getD i .unit)) →
      flagsOK fl us.toArray vs.toArray 0 ∧ fl.length = xs.length ∧ eqR fl.length us.toArray vs.toArray 0 = e
  | [], [], [], K, h => ⟨true, h, fun w F us vs hu hv _ _ => ⟨⟨by simp, by simp, fun i hi => by simp at hi⟩, rfl, rfl⟩⟩
  | false :: fl, .int k a :: r, .int k' b :: s, K, h => by
    simp only [aggEqK] at h
    obtain ⟨e, h1, h2⟩ := aggEqK_elim h
    simp only [cond_prop] at h1
    split at h1
    · rename_i hk
      have hk := kEq_eq hk
      subst hk
      refine ⟨_, h1, fun w F us vs hu hv hpu hpv => ?_⟩
      cases us with
      | nil => simp at hu
      | cons u us =>
        cases vs with
        | nil => simp at hv
        | cons v vs =>
          have eu := hpu 0 (by simp)
          have ev := hpv 0 (by simp)
          simp only [List.getD_cons_zero] at eu ev
          cases eu; cases ev
          obtain ⟨f1, f2, f3⟩ := h2 w F us vs (by simpa using hu) (by simpa using hv) (fun i hi => by simpa using hpu (i + 1) (by simpa using hi)) (fun i hi => by simpa using hpv (i + 1) (by simpa using hi))
          refine ⟨⟨by have := f1.1; simp at this ⊢; omega, by have := f1.2.1; simp at this ⊢; omega, fun i hi => ?_⟩, by simp [f2], ?_⟩
          · cases i with
            | zero => exact ⟨k, a, b, by simp, by simp⟩
            | succ i => have := f1.2.2 i (by simpa using hi); simpa using this
          · rw [List.length_cons, Nat.add_comm, eqR_add]
            have e1 : eqR 1 (Value.int k a :: us).toArray (Value.int k b :: vs).toArray 0 = decide (a = b) := by simp [eqR, cellEq]; rfl
            have e2 : eqR fl.length (Value.int k a :: us).toArray (Value.int k b :: vs).toArray (0 + 1) = eqR fl.length us.toArray vs.toArray 0 := by
              unfold eqR
              congr 1
              funext i
              simp [Nat.add_comm 1 i]
            rw [e1, e2, f3]
            cases decide (a = b) <;> rfl
    · exact h1.elim
  | true :: fl, .bool a :: r, .bool b :: s, K, h => by
    simp only [aggEqK] at h
    obtain ⟨e, h1, h2⟩ := aggEqK_elim h
    refine ⟨_, h1, fun w F us vs hu hv hpu hpv => ?_⟩
    cases us with
    | nil => simp at hu
    | cons u us =>
      cases vs with
      | nil => simp at hv
      | cons v vs =>
        have eu := hpu 0 (by simp)
        have ev := hpv 0 (by simp)
        simp only [List.getD_cons_zero] at eu ev
        cases eu; cases ev
        obtain ⟨f1, f2, f3⟩ := h2 w F us vs (by simpa using hu) (by simpa using hv) (fun i hi => by simpa using hpu (i + 1) (by simpa using hi)) (fun i hi => by simpa using hpv (i + 1) (by simpa using hi))
        refine ⟨⟨by have := f1.1; simp at this ⊢; omega, by have := f1.2.1; simp at this ⊢; omega, fun i hi => ?_⟩, by simp [f2], ?_⟩
        · cases i with
          | zero => exact ⟨a, b, by simp, by simp⟩
          | succ i => have := f1.2.2 i (by simpa using hi); simpa using this
        · rw [List.length_cons, Nat.add_comm, eqR_add]
          have e1 : eqR 1 (Value.bool a :: us).toArray (Value.bool b :: vs).toArray 0 = beqBool a b := by cases a <;> cases b <;> rfl
          have e2 : eqR fl.length (Value.bool a :: us).toArray (Value.bool b :: vs).toArray (0 + 1) = eqR fl.length us.toArray vs.toArray 0 := by
            unfold eqR
            congr 1
            funext i
            simp [Nat.add_comm 1 i]
          rw [e1, e2, f3]
          cases beqBool a b <;> rfl
end
end Abs
