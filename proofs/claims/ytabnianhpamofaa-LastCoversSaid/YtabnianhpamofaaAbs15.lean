/- Single operations, tenth part: maps. -/
import Derived.Test.YtabnianhpamofaaAbs14
set_option linter.unusedSectionVars false
set_option linter.unusedSimpArgs false
set_option linter.unusedVariables false
namespace Abs
open Go Go.RowKit
variable [DMode]

/-! ### A key of integers and bools is no key that panics -/
section
variable {P : Program}
def ChkT (P : Program) (em : Bool) (n t : Nat) (fl : List Bool) : Prop :=
  ∀ (d : Nat) (xs : Array Value) (off : Nat) (w : World), szOf P t = some fl.length → flagsOK fl xs xs off →
    ∃ a, (part t xs off).run P w = .ok a w ∧ (Instr.checkKey em (d + n) t a).run P w = .ok () w

theorem run_checkKey_int {em : Bool} {d t : Nat} {k' : IntKind} {v : Value} {w : World} (hu : und P t = some (.int k')) (hv : ∃ k n, v = .int k n) : (Instr.checkKey em (d + 1) t v).run P w = .ok () w := by
  obtain ⟨k, n, rfl⟩ := hv
  simp [Instr.checkKey, run_und hu]
theorem run_checkKey_bool {em : Bool} {d t : Nat} {v : Value} {w : World} (hu : und P t = some .bool) (hv : ∃ n, v = .bool n) : (Instr.checkKey em (d + 1) t v).run P w = .ok () w := by
  obtain ⟨n, rfl⟩ := hv
  simp [Instr.checkKey, run_und hu]

mutual
theorem chkT_of {em : Bool} : ∀ {n t : Nat} {fl : List Bool}, eqFlags P n t = some fl → ∀ {m : Nat}, eqHeld P m t = true → ChkT P em n t fl
  | 0, t, fl, h, _, _ => by simp only [eqFlags] at h; cases h
  | n + 1, t, fl, h, m, hm => by
    intro d xs off w hs hfl
    have h0 := h
    simp only [eqFlags] at h
    split at h
    · rename_i k hu
      simp only [Option.some.injEq] at h; subst h
      obtain ⟨h1, h2, h3⟩ := hfl
      obtain ⟨k', p, q, e1, e2⟩ := h3 0 (by simp)
      simp only [List.length_singleton, Nat.add_zero] at h1 h2 e1 e2
      refine ⟨.int k' p, ?_, ?_⟩
      · rw [run_part' (P := P) (n := 1) hu hs (fun e => by cases e) (fun _ => by omega)]; simp [aggB, e1]
      · rw [← Nat.add_assoc]; exact run_checkKey_int hu ⟨_, _, rfl⟩
    · rename_i hu
      simp only [Option.some.injEq] at h; subst h
      obtain ⟨h1, h2, h3⟩ := hfl
      obtain ⟨p, q, e1, e2⟩ := h3 0 (by simp)
      simp only [List.length_singleton, Nat.add_zero] at h1 h2 e1 e2
      refine ⟨.bool p, ?_, ?_⟩
      · rw [run_part' (P := P) (n := 1) hu hs (fun e => by cases e) (fun _ => by omega)]; simp [aggB, e1]
      · rw [← Nat.add_assoc]; exact run_checkKey_bool hu ⟨_, rfl⟩
    · rename_i len e hu
      exact ⟨.agg (xs.extract off (off + fl.length)), by simp [part, run_agg hu, aggB, run_siz hs], chkA_of h0 hm (Or.inl ⟨len, e, hu⟩) d _ w (flagsOK_extract hfl)⟩
    · rename_i fs hu
      exact ⟨.agg (xs.extract off (off + fl.length)), by simp [part, run_agg hu, aggB, run_siz hs], chkA_of h0 hm (Or.inr ⟨fs, hu⟩) d _ w (flagsOK_extract hfl)⟩
    · cases h
  termination_by n => (n, 1)
theorem chkA_of {em : Bool} : ∀ {n t : Nat} {fl : List Bool}, eqFlags P n t = some fl → ∀ {m : Nat}, eqHeld P m t = true → ((∃ len e, und P t = some (.array len e)) ∨ ∃ fs, und P t = some (.struct fs)) →
    ∀ (d : Nat) (xs : Array Value) (w : World), flagsOK fl xs xs 0 → (Instr.checkKey em (d + n) t (.agg xs)).run P w = .ok () w
  | 0, t, fl, h, _, _, _ => by simp only [eqFlags] at h; cases h
  | n + 1, t, fl, h, m, hm, hk => by
    intro d xs w hfl
    rcases hk with ⟨len, e, hu⟩ | ⟨fs, hu⟩
    · simp only [eqFlags, hu] at h
      split at h
      · rename_i fl' sz h1 h2
        cases hb : Nat.beq fl'.length sz with
        | false => rw [hb] at h; cases h
        | true =>
          rw [hb] at h
          simp only [cond_true, Option.some.injEq] at h
          subst h
          have hsz := Nat.eq_of_beq_eq_true hb
          obtain ⟨m', hm'⟩ := heldArray hm hu
          have each : ∀ i, i < len → ∃ a, (part e xs (i * sz)).run P w = .ok a w ∧ (Instr.checkKey em (d + n) e a).run P w = .ok () w := fun i hi => by
            obtain ⟨a, c, e1, e2⟩ := repFlags_split fl' len i hi
            rw [e1] at hfl
            have h3 := flagsOK_part hfl
            rw [Nat.zero_add, e2, hsz] at h3
            exact chkT_of h1 hm' d xs (i * sz) w (by rw [h2, hsz]) h3
          rw [← Nat.add_assoc, Instr.checkKey]
          simp only [Sem.run_bind, run_und hu, Result.andThen_ok]
          simp only [Std.Legacy.Range.forIn_eq_forIn_range', Std.Legacy.Range.size, Nat.sub_zero, Nat.add_one_sub_one, Nat.div_one]
          have each' : ∀ i, i ∈ List.range' 0 len → ∃ a, (part e xs (i * sz)).run P w = .ok a w ∧ (Instr.checkKey em (d + n) e a).run P w = .ok () w := fun i hi => each i (by simpa using hi)
          clear hfl each
          generalize List.range' 0 len = is at each'
          induction is with
          | nil => simp
          | cons j is ih =>
            obtain ⟨a, p1, p2⟩ := each' j (by simp)
            simp only [List.forIn_cons, Sem.run_bind, run_siz h2, Result.andThen_ok, p1, p2, Sem.run_pure]
            exact ih (fun y hy => each' y (by simp [hy]))
      · cases h
    · simp only [eqFlags, hu] at h
      obtain ⟨_, hfs⟩ := heldStruct hm hu
      rw [← Nat.add_assoc, Instr.checkKey]
      simp only [Sem.run_bind, run_und hu, Result.andThen_ok]
      rw [← Array.forIn_toList]
      have := chkF_of (em := em) h hfs d xs w hfl
      simp only [Sem.run_bind, Sem.run_pure] at this ⊢
      simp only [this, Result.andThen_ok]
  termination_by n => (n, 0)
theorem chkF_of {em : Bool} : ∀ {n : Nat} {fs : List Field} {acc fl : List Bool}, eqFields P n fs acc = some fl → (∀ f, f ∈ fs → f.name ≠ "_" ∧ ∃ m', eqHeld P m' f.type = true) →
    ∀ (d : Nat) (xs : Array Value) (w : World), flagsOK fl xs xs 0 →
      (forIn (m := Sem) fs PUnit.unit fun (f : Field) (_ : PUnit) => if f.name ≠ "_" then do
          Instr.checkKey em (d + n) f.type (← part f.type xs f.offset)
          pure (ForInStep.yield PUnit.unit)
        else pure (ForInStep.yield PUnit.unit)).run P w = .ok PUnit.unit w
  | n, [], acc, fl, h, _ => by intro d xs w hfl; simp
  | 0, f :: fs, acc, fl, h, _ => by simp only [eqFields] at h; cases h
  | n + 1, f :: fs, acc, fl, h, hfs => by
    intro d xs w hfl
    simp only [eqFields] at h
    split at h
    · rename_i fl' sz h1 h2
      cases hb : (Nat.beq f.offset acc.length && Nat.beq fl'.length sz) with
      | false => rw [hb] at h; cases h
      | true =>
        rw [hb] at h
        simp only [cond_true] at h
        rw [Bool.and_eq_true] at hb
        have ho := Nat.eq_of_beq_eq_true hb.1
        have hsz := Nat.eq_of_beq_eq_true hb.2
        obtain ⟨hn, m', hm'⟩ := hfs f (by simp)
        obtain ⟨r, hr⟩ := eqFields_prefix h
        have hpart : flagsOK fl' xs xs f.offset := by
          rw [hr] at hfl
          have := flagsOK_part hfl
          rwa [Nat.zero_add, ← ho] at this
        obtain ⟨a, p1, p3⟩ := chkT_of (em := em) h1 hm' (d + 1) xs f.offset w (by rw [h2, hsz]) hpart
        have ih := chkF_of (em := em) h (fun g hg => hfs g (by simp [hg])) (d + 1) xs w hfl
        rw [show d + 1 + n = d + (n + 1) by omega] at p3 ih
        simp only [List.forIn_cons, hn, ne_eq, not_false_eq_true, if_true, Sem.run_bind, p1, p3, Result.andThen_ok, Sem.run_pure]
        exact ih
    · cases h
  termination_by n => (n, 1)
end

/-! ### Keys compared -/
theorem keyEq_agg (xs ys : List PV) : keyEq (.agg xs) (.agg ys) = keyEqs xs ys := rfl
theorem agg_like : ∀ {fl : List Bool} {xs ys : List PV}, flagsFit fl xs = true → like0s xs ys = true → aggEqK fl xs ys (fun e => e = keyEqs xs ys)
  | [], [], [], _, _ => rfl
  | [], [], _ :: _, _, h => by simp [like0s] at h
  | [], _ :: _, _, h, _ => by simp [flagsFit] at h
  | _ :: _, [], _, h, _ => by simp [flagsFit] at h
  | false :: fl, x :: r, ys, h, h' => by
    cases x <;> simp only [flagsFit] at h <;> try cases h
    rename_i k a
    cases ys with
    | nil => simp [like0s] at h'
    | cons y s =>
      rw [like0s, Bool.and_eq_true] at h'
      cases y <;> simp [like0] at h'
      rename_i k' b
      have ih := agg_like h h'.2
      simp only [aggEqK]
      obtain ⟨e, he, _⟩ := aggEqK_elim ih
      refine aggEqK_mono ih fun e he => ?_
      simp only [h'.1, cond_true]
      rw [he]
      simp only [keyEqs, keyEq0]
      cases decide (a = b) <;> rfl
  | true :: fl, x :: r, ys, h, h' => by
    cases x <;> simp only [flagsFit] at h <;> try cases h
    rename_i a
    cases ys with
    | nil => simp [like0s] at h'
    | cons y s =>
      rw [like0s, Bool.and_eq_true] at h'
      cases y <;> simp [like0] at h'
      rename_i b
      have ih := agg_like h h'
      simp only [aggEqK]
      refine aggEqK_mono ih fun e he => ?_
      rw [he]
      simp only [keyEqs, keyEq0]
      cases a <;> cases b <;> rfl
where
  aggEqK_mono : ∀ {fl : List Bool} {xs ys : List PV} {K K' : Bool → Prop}, aggEqK fl xs ys K → (∀ e, K e → K' e) → aggEqK fl xs ys K'
  | [], [], [], K, K', h, hk => hk _ h
  | false :: fl, .int k a :: r, .int k' b :: s, K, K', h, hk => by
    simp only [aggEqK] at h ⊢
    refine aggEqK_mono h fun e he => ?_
    simp only [cond_prop] at he ⊢
    split at he
    · rename_i hh; rw [if_pos hh]; exact hk _ he
    · exact he.elim
  | true :: fl, .bool a :: r, .bool b :: s, K, K', h, hk => by
    simp only [aggEqK] at h ⊢
    exact aggEqK_mono h fun e he => hk _ he

theorem flagOK_same {f : Bool} {x y : Value} (h : flagOK f x y) (e : cellEq x y = true) : ∃ n : Nat, x = y ∧ ∀ m, Instr.sameBits (m + 1) y x = true := by
  cases f with
  | false =>
    obtain ⟨k, a, c, rfl, rfl⟩ := h
    simp only [cellEq, beq_iff_eq] at e
    subst e
    exact ⟨0, rfl, fun m => by simp [Instr.sameBits]⟩
  | true =>
    obtain ⟨a, c, rfl, rfl⟩ := h
    simp only [cellEq, beq_iff_eq] at e
    subst e
    exact ⟨0, rfl, fun m => by simp [Instr.sameBits]⟩

/-- What is known of a key. -/
structure KeyOK (P : Program) (kt : Nat) (key : PV) : Prop where
  check : ∀ (w : World) (F : Nat → Prop) (x : Value) (em : Bool), PRep w F x key → (Instr.checkKey em 10000 kt x).run P w = .ok () w
  under : ∃ d, und P kt = some d
  eql : ∀ (w : World) (F : Nat → Prop) (x x' : Value) (k' : PV), PRep w F x key → PRep w F x' k' → likeKey key k' = true →
    (Op.equal kt x x').run P w = .ok (keyEq key k') w ∧ (∀ d, und P kt = some d → ∀ r, Instr.sameNow d x x' = some r → r = keyEq key k') ∧ (keyEq key k' = true → Instr.sameBits 10000 x' x = true)

theorem keyK_elim {kt : Nat} {key : PV} {acc : List Prop} {K : List Prop → Prop} (h : keyK P kt key acc K) : ∃ ob, K ob ∧ (AllL ob → AllL acc ∧ KeyOK P kt key) := by
  unfold keyK at h
  split at h
  · rename_i kk hu
    split at h
    · rename_i k n
      refine ⟨_, h, fun ha => ⟨ha, ⟨fun w F x em hx => ?_, ⟨_, hu⟩, fun w F x x' k' hx hx' hl => ?_⟩⟩⟩
      · cases hx; exact run_checkKey_int hu ⟨_, _, rfl⟩
      · cases hx
        cases k' <;> simp only [likeKey, like0] at hl <;> try cases hl
        cases hx'
        rename_i k2 n2
        have hk := kEq_eq hl
        subst hk
        refine ⟨?_, fun d hd r hr => ?_, fun he => ?_⟩
        · simp only [Op.equal, Op.maxDepth]
          rw [run_equalIn_int w 9999 kt k kk n n2 (und_eq hu)]
          rfl
        · rw [hu] at hd; cases hd
          simp only [Instr.sameNow, if_true, Option.some.injEq] at hr
          rw [← hr]; rfl
        · simp only [keyEq, keyEq0, decide_eq_true_eq] at he
          subst he
          simp [Instr.sameBits]
    · exact h.elim
  · rename_i hu
    split at h
    · rename_i n
      refine ⟨_, h, fun ha => ⟨ha, ⟨fun w F x em hx => ?_, ⟨_, hu⟩, fun w F x x' k' hx hx' hl => ?_⟩⟩⟩
      · cases hx; exact run_checkKey_bool hu ⟨_, rfl⟩
      · cases hx
        cases k' <;> simp only [likeKey, like0] at hl <;> try cases hl
        cases hx'
        rename_i n2
        refine ⟨?_, fun d hd r hr => ?_, fun he => ?_⟩
        · simp only [Op.equal, Op.maxDepth]
          rw [run_equalIn_bool' w 9999 kt n n2 (und_eq hu)]
          rfl
        · rw [hu] at hd; cases hd
          simp only [Instr.sameNow, Option.some.injEq] at hr
          rw [← hr]; rfl
        · simp only [keyEq, keyEq0, beq_iff_eq] at he
          subst he
          simp [Instr.sameBits]
    · exact h.elim
  · rename_i u hni hnb hu
    split at h
    · rename_i xs
      split at h
      · rename_i fl hfl
        simp only [cond_prop] at h
        split at h
        · rename_i hc
          rw [Bool.and_eq_true] at hc
          refine ⟨_, h, fun ha => ?_⟩
          obtain ⟨hh, ha⟩ := allL_cons ha
          have two : (∃ len el, und P kt = some (.array len el)) ∨ ∃ fs, und P kt = some (.struct fs) := by
            have := hc.1
            cases u <;> first | exact .inl ⟨_, _, hu⟩ | exact .inr ⟨_, hu⟩ | cases this
          have selfLike : ∀ {fl : List Bool} {xs : List PV}, flagsFit fl xs = true → like0s xs xs = true := by
            intro fl
            induction fl with
            | nil => intro xs h; cases xs with
              | nil => rfl
              | cons => simp [flagsFit] at h
            | cons f fl ih =>
              intro xs h
              cases xs with
              | nil => cases f <;> simp [flagsFit] at h
              | cons x xs =>
                cases f <;> cases x <;> simp only [flagsFit] at h <;> first | cases h | (simp only [like0s, like0, ih h, Bool.and_true]; try rfl)
                rename_i k _; cases k <;> rfl
          refine ⟨ha, ⟨fun w F x em hx => ?_, ⟨_, hu⟩, fun w F x x' k' hx hx' hl => ?_⟩⟩
          · cases hx with
            | @agg us _ hl hr =>
              obtain ⟨e, _, h5⟩ := aggEqK_elim (agg_like hc.2 (selfLike hc.2))
              exact chkA_of hfl hh two 9988 us.toArray w (h5 w F us us hl hl hr hr).1
          · cases k' <;> simp only [likeKey, like0] at hl <;> try cases hl
            rename_i ys
            cases hx with
            | @agg us _ hlen hr =>
              cases hx' with
              | @agg vs _ hlen' hr' =>
                obtain ⟨e, he, h5⟩ := aggEqK_elim (agg_like hc.2 hl)
                obtain ⟨f1, f2, f3⟩ := h5 w F us vs hlen hlen' hr hr'
                have hke : keyEq (.agg xs) (.agg ys) = e := by rw [he, keyEq_agg]
                refine ⟨?_, fun d hd r hr => ?_, fun ht => ?_⟩
                · have := eqA_of hfl hh two 9988 us.toArray vs.toArray w f1
                  rw [f3] at this
                  rw [hke]
                  exact this
                · rw [hu] at hd; cases hd
                  rcases two with ⟨_, _, h6⟩ | ⟨_, h6⟩ <;> (rw [hu] at h6; cases h6; simp [Instr.sameNow] at hr)
                · rw [hke, ← f3] at ht
                  have hlike : ∀ {xs ys : List PV}, like0s xs ys = true → xs.length = ys.length := by
                    intro xs
                    induction xs with
                    | nil => intro ys h; cases ys with
                      | nil => rfl
                      | cons => simp [like0s] at h
                    | cons x xs ih => intro ys h; cases ys with
                      | nil => simp [like0s] at h
                      | cons y ys => simp only [like0s, Bool.and_eq_true] at h; simp [ih h.2]
                  have hll := hlike hl
                  have hall : ∀ i, i < fl.length → cellEq (us.toArray.getD (0 + i) undef) (vs.toArray.getD (0 + i) undef) = true := fun i hi => List.all_eq_true.1 ht i (List.mem_range.2 hi)
                  have hcell : ∀ i, i < fl.length → us.getD i undef = vs.getD i undef ∧ ∀ m, Instr.sameBits (m + 1) (vs.getD i undef) (us.getD i undef) = true := fun i hi => by
                    obtain ⟨_, h7, h8⟩ := flagOK_same (f1.2.2 i hi) (hall i hi)
                    rw [Nat.zero_add] at h7 h8
                    have q1 : us.toArray.getD i undef = us.getD i undef := by simp [List.getD_eq_getElem?_getD, Array.getD_eq_getD_getElem?]
                    have q2 : vs.toArray.getD i undef = vs.getD i undef := by simp [List.getD_eq_getElem?_getD, Array.getD_eq_getD_getElem?]
                    rw [q1, q2] at h7 h8
                    exact ⟨h7, h8⟩
                  have hsz : vs.toArray.size = us.toArray.size := by simp; omega
                  show (vs.toArray.size == us.toArray.size && (vs.toArray.toList.zip us.toArray.toList).all fun (x, y) => Instr.sameBits 9999 x y) = true
                  rw [hsz]
                  simp only [beq_self_eq_true, Bool.true_and]
                  rw [List.all_eq_true]
                  intro p hp
                  obtain ⟨i, hi, rfl⟩ := List.getElem_of_mem hp
                  simp only [List.length_zip] at hi
                  have hi1 : i < vs.length := by omega
                  have hi2 : i < us.length := by omega
                  have := (hcell i (by omega)).2 9998
                  simpa [List.getD_eq_getElem?_getD, hi1, hi2] using this
        · exact h.elim
      · exact h.elim
    · exact h.elim
  · exact h.elim

/-! ### Finding a key -/
/-- Entries that read as 'es'. -/
def EntsRep (w : World) (G : Nat → Prop) : List MapEntry → List (PV × PV) → Prop
  | [], [] => True
  | e :: ents, p :: es => PRep w G e.key p.1 ∧ PRep w G e.val p.2 ∧ EntsRep w G ents es
  | _, _ => False
theorem entsRep_of {w : World} {G : Nat → Prop} : ∀ {ents : List MapEntry} {es : List (PV × PV)}, ents.length = es.length →
    (∀ i, i < es.length → PRep w G ((ents.map (·.key)).getD i undef) ((es.map (·.1)).getD i .unit)) →
    (∀ i, i < es.length → PRep w G ((ents.map (·.val)).getD i undef) ((es.map (·.2)).getD i .unit)) → EntsRep w G ents es
  | [], [], _, _, _ => trivial
  | [], _ :: _, h, _, _ => by simp at h
  | _ :: _, [], h, _, _ => by simp at h
  | e :: ents, p :: es, h, hk, hv => ⟨by simpa using hk 0 (by simp), by simpa using hv 0 (by simp),
      entsRep_of (by simpa using h) (fun i hi => by simpa using hk (i + 1) (by simpa using hi)) (fun i hi => by simpa using hv (i + 1) (by simpa using hi))⟩
theorem EntsRep.out {w : World} {G : Nat → Prop} : ∀ {ents : List MapEntry} {es : List (PV × PV)}, EntsRep w G ents es → ents.length = es.length ∧
    (∀ i, i < es.length → PRep w G ((ents.map (·.key)).getD i undef) ((es.map (·.1)).getD i .unit)) ∧
    (∀ i, i < es.length → PRep w G ((ents.map (·.val)).getD i undef) ((es.map (·.2)).getD i .unit))
  | [], [], _ => ⟨rfl, fun i hi => by simp at hi, fun i hi => by simp at hi⟩
  | [], _ :: _, h => h.elim
  | _ :: _, [], h => h.elim
  | e :: ents, p :: es, h => by
    obtain ⟨h1, h2, h3⟩ := h
    obtain ⟨h4, h5, h6⟩ := h3.out
    refine ⟨by simp [h4], fun i hi => ?_, fun i hi => ?_⟩
    · cases i with
      | zero => simpa using h1
      | succ i => simpa using h5 i (by simpa using hi)
    · cases i with
      | zero => simpa using h2
      | succ i => simpa using h6 i (by simpa using hi)

theorem find_run {w : World} {G : Nat → Prop} {kt : Nat} {key : PV} {x : Value} (hK : KeyOK P kt key) (hx : PRep w G x key) : ∀ {ents : List MapEntry} {es : List (PV × PV)} (i : Nat), EntsRep w G ents es → likeAll key es →
    ∃ r, (Instr.findAsking kt x ents i).run P w = .ok r w ∧ (∀ d, und P kt = some d → ∀ r', Instr.findNow d x ents i = some r' → r' = r) ∧
      ((r = none ∧ mlook es key = none ∧ ∀ y, mset es key y = es ++ [(key, y)]) ∨
        ∃ j e p, r = some (i + j, e.val) ∧ ents[j]? = some e ∧ es[j]? = some p ∧ Instr.sameBits 10000 e.key x = true ∧ mlook es key = some p.2 ∧ PRep w G e.val p.2 ∧ ∀ y, mset es key y = es.set j (key, y))
  | [], [], i, _, _ => ⟨none, by simp [Instr.findAsking], fun d _ r' hr => by simpa [Instr.findNow] using hr.symm, .inl ⟨rfl, rfl, fun y => rfl⟩⟩
  | [], _ :: _, i, h, _ => h.elim
  | _ :: _, [], i, h, _ => h.elim
  | e :: ents, p :: es, i, h, hl => by
    obtain ⟨h1, h2, h3⟩ := h
    obtain ⟨k', v'⟩ := p
    simp only [likeAll, List.all_cons, Bool.and_eq_true] at hl
    obtain ⟨q1, q2, q3⟩ := hK.eql w G x e.key k' hx h1 hl.1
    cases hb : keyEq key k' with
    | true =>
      rw [hb] at q1 q2
      refine ⟨some (i, e.val), by simp [Instr.findAsking, q1], fun d hd r' hr => ?_, .inr ⟨0, e, (k', v'), rfl, rfl, rfl, q3 hb, by simp [mlook, hb], h2, fun y => by simp [mset, hb]⟩⟩
      simp only [Instr.findNow] at hr
      split at hr
      · simpa using hr.symm
      · rename_i hs; have := q2 d hd _ hs; cases this
      · cases hr
    | false =>
      rw [hb] at q1 q2
      obtain ⟨r, f1, f2, f3⟩ := find_run hK hx (i + 1) h3 hl.2
      refine ⟨r, by simp [Instr.findAsking, q1, f1], fun d hd r' hr => ?_, ?_⟩
      · simp only [Instr.findNow] at hr
        split at hr
        · rename_i hs; have := q2 d hd _ hs; cases this
        · exact f2 d hd r' hr
        · cases hr
      · rcases f3 with ⟨g1, g2, g3⟩ | ⟨j, e', p', g1, g2, g3, g4, g5, g6, g7⟩
        · exact .inl ⟨g1, by simp [mlook, hb, g2], fun y => by simp [mset, hb, g3]⟩
        · exact .inr ⟨j + 1, e', p', by rw [g1]; congr 2; omega, by simpa using g2, by simpa using g3, g4, by simp [mlook, hb, g5], g6, fun y => by simp [mset, hb, g7]⟩

theorem findKey_run {w : World} {G : Nat → Prop} {kt : Nat} {key : PV} {x : Value} (hK : KeyOK P kt key) (hx : PRep w G x key) {ents : List MapEntry} {es : List (PV × PV)} (h : EntsRep w G ents es) (hl : likeAll key es) :
    ∃ r, (Instr.findKey kt x ents).run P w = .ok r w ∧
      ((r = none ∧ mlook es key = none ∧ ∀ y, mset es key y = es ++ [(key, y)]) ∨
        ∃ j e p, r = some (j, e.val) ∧ ents[j]? = some e ∧ es[j]? = some p ∧ Instr.sameBits 10000 e.key x = true ∧ mlook es key = some p.2 ∧ PRep w G e.val p.2 ∧ ∀ y, mset es key y = es.set j (key, y)) := by
  obtain ⟨r, f1, f2, f3⟩ := find_run hK hx 0 h hl
  obtain ⟨d, hd⟩ := hK.under
  refine ⟨r, ?_, by simpa using f3⟩
  simp only [Instr.findKey, Sem.run_bind, run_und hd, Result.andThen_ok]
  cases hn : Instr.findNow d x ents 0 with
  | none => simpa using f1
  | some r' => simp [f2 d hd r' hn]
end

section
variable {P : Program} {s : SS} {m : Bool} {d : Option Nat} {K : V → Option (Nat × Nat × Blk) → List Prop → Prop}
theorem zeroPV_elim {t : Nat} {zv : PV} (h : zeroPV P t = some zv) : ∃ z, (∀ w, (zeroValue t).run P w = .ok z w) ∧ ∀ w G, PRep w G z zv := by
  unfold zeroPV at h
  split at h
  · rename_i i hi
    split at h
    · rename_i z hz
      exact ⟨z, fun w => by simp [zeroValue, run_typ (tyi_eq hi), hz], fun w G => constPV_rep h w G⟩
    · cases h
  · cases h

theorem run_getObj' {w : World} {r : Nat} {es : Array MapEntry} {clock : Nat} (hb : w.heap[r]? = some (.map es clock)) : (getObj r).run P w = .ok (.map es clock) w := by
  simp only [getObj, Sem.run, hb]
theorem run_setObj' {w : World} {r : Nat} {es : Array MapEntry} {clock : Nat} (o : Obj) (hb : w.heap[r]? = some (.map es clock)) : (setObj r o).run P w = .ok () { w with heap := w.heap.setIfInBounds r o } := by
  simp only [setObj, Sem.run, hb]
theorem el_lookup {t : Nat} {x i : Operand} {ok : Bool} {A : Acc} (hA : Sub A s) (h : opK P m A d (.lookup t x i ok) K) : Elim P s (.lookup t x i ok) K := by
  simp only [opK] at h
  split at h
  · rename_i kt e hu
    split at h
    · rename_i zv hz
      obtain ⟨vx, ob1, h1, hs1, hr1⟩ := rduK_elim hA h
      obtain ⟨vi, ob2, h2, hs2, hr2⟩ := rduK_elim hA h1
      split at h2
      · rename_i key
        obtain ⟨ob3, h3, hk3⟩ := keyK_elim h2
        obtain ⟨es, h4, hmap⟩ := mapOfK_elim hA h3
        obtain ⟨z, hz1, hz2⟩ := zeroPV_elim hz
        -- the run, in common
        have run : AllL ob3 → likeAll key es → ∀ {w0 F0 G ρ a w}, RelX w0 F0 G ρ s a w → ∃ v b, PRep w G v ((mlook es key).getD zv) ∧ (b = (mlook es key).isSome) ∧
            (Instr.lookup t (a.eval x) (a.eval i) ok).run P w = .ok (if ok then .tuple #[v, .bool b] else v) w := by
          intro ha hl w0 F0 G ρ a w R
          obtain ⟨ha2, hK⟩ := hk3 ha
          have hx := hmap w0 F0 G ρ a w (a.eval x) R (hr1 (hs2 ha2) w0 F0 G ρ a w R)
          have hi := hr2 ha2 w0 F0 G ρ a w R
          simp only [VRep] at hi
          rcases hx with ⟨e1, e2⟩ | ⟨b, ents, clk, e1, hb, hl1, hkk, hvv⟩
          · subst e2
            obtain ⟨r, f1, f2⟩ := findKey_run hK hi (ents := []) (es := []) trivial hl
            rcases f2 with ⟨g1, g2, _⟩ | ⟨j, e', p', g1, g3, _⟩
            · subst g1
              exact ⟨z, false, by rw [g2]; exact hz2 w G, by rw [g2]; rfl, by simp [Instr.lookup, run_und hu, e1, hK.check w G _ true hi, f1, hz1 w]⟩
            · simp at g3
          · obtain ⟨r, f1, f2⟩ := findKey_run hK hi (entsRep_of (by simpa using hl1) hkk hvv) hl
            have hg := run_getObj' (P := P) hb
            rcases f2 with ⟨g1, g2, _⟩ | ⟨j, e', p', g1, _, _, _, g5, g6, _⟩
            · subst g1
              exact ⟨z, false, by rw [g2]; exact hz2 w G, by rw [g2]; rfl, by simp [Instr.lookup, run_und hu, e1, hg, hK.check w G _ ents.isEmpty hi, f1, hz1 w]⟩
            · subst g1
              exact ⟨e'.val, true, by rw [g5]; exact g6, by rw [g5]; rfl, by simp [Instr.lookup, run_und hu, e1, hg, hK.check w G _ ents.isEmpty hi, f1]⟩
        cases ok with
        | false =>
          obtain ⟨r, hr, h5⟩ := h4
          refine ⟨_, none, _, h5, fun ha dst ty pos af g => .pure fun w0 F0 G ρ a w R => ?_⟩
          obtain ⟨hl, ha⟩ := allL_cons ha
          obtain ⟨v, b, g1, _, g3⟩ := run ha hl R
          rw [hr] at g1
          exact ⟨v, by simp only [execOp, Sem.run_bind, g3, Result.andThen_ok, Sem.run_pure]; rfl, by simp only [VRep]; exact g1⟩
        | true =>
          obtain ⟨r, b0, hr, h5⟩ := h4
          refine ⟨_, none, _, h5, fun ha dst ty pos af g => .pure fun w0 F0 G ρ a w R => ?_⟩
          obtain ⟨hl, ha⟩ := allL_cons ha
          obtain ⟨v, b, g1, g2, g3⟩ := run ha hl R
          have hrb : (mlook es key).getD zv = r ∧ (mlook es key).isSome = b0 := by
            split at hr
            · rename_i y hy; rw [hy]; exact ⟨hr.1, hr.2.symm⟩
            · rename_i hy; rw [hy]; exact ⟨hr.1, hr.2.symm⟩
          rw [hrb.1] at g1
          rw [hrb.2] at g2
          subst g2
          refine ⟨.tuple #[v, .bool b], by simp only [execOp, Sem.run_bind, g3, Result.andThen_ok, Sem.run_pure]; rfl, ?_⟩
          simp only [VRep]
          refine PRep.tup (vs := [v, .bool b]) rfl fun k hk => ?_
          match k, hk with
          | 0, _ => exact g1
          | 1, _ => exact .bool b
      · exact h2.elim
    · exact h.elim
  · exact h.elim

theorem entsRep_set {w : World} {G : Nat → Prop} {key y : PV} {x u : Value} (hk : PRep w G x key) (hy : PRep w G u y) : ∀ {ents : List MapEntry} {es : List (PV × PV)} {j : Nat} (f : MapEntry → MapEntry), EntsRep w G ents es →
    (∀ e, (f e).key = x ∧ (f e).val = u) → EntsRep w G (ents.modify j f) (es.set j (key, y))
  | [], [], j, f, _, _ => by rw [List.modify_nil]; exact trivial
  | [], _ :: _, _, _, h, _ => h.elim
  | _ :: _, [], _, _, h, _ => h.elim
  | e :: ents, p :: es, 0, f, h, hf => by
    obtain ⟨h1, h2, h3⟩ := h
    simp only [List.modify_zero_cons, List.set_cons_zero, EntsRep]
    rw [(hf e).1, (hf e).2]
    exact ⟨hk, hy, h3⟩
  | e :: ents, p :: es, j + 1, f, h, hf => by
    obtain ⟨h1, h2, h3⟩ := h
    simp only [List.modify_succ_cons, List.set_cons_succ, EntsRep]
    exact ⟨h1, h2, entsRep_set hk hy f h3 hf⟩
theorem entsRep_push {w : World} {G : Nat → Prop} {key y : PV} {e : MapEntry} (hk : PRep w G e.key key) (hy : PRep w G e.val y) : ∀ {ents : List MapEntry} {es : List (PV × PV)}, EntsRep w G ents es → EntsRep w G (ents ++ [e]) (es ++ [(key, y)])
  | [], [], _ => ⟨hk, hy, trivial⟩
  | [], _ :: _, h => h.elim
  | _ :: _, [], h => h.elim
  | _ :: ents, _ :: es, h => ⟨h.1, h.2.1, entsRep_push hk hy h.2.2⟩
theorem EntsRep.mono {w w' : World} {G : Nat → Prop} (hw : ∀ b, G b → w'.heap[b]? = w.heap[b]?) : ∀ {ents : List MapEntry} {es : List (PV × PV)}, EntsRep w G ents es → EntsRep w' G ents es
  | [], [], _ => trivial
  | [], _ :: _, h => h.elim
  | _ :: _, [], h => h.elim
  | _ :: ents, _ :: es, h => ⟨h.1.mono hw (fun _ h => h), h.2.1.mono hw (fun _ h => h), h.2.2.mono hw⟩

theorem below_set {B : Nat} (w : World) (g : Nat) (o : Obj) (h : B ≤ g) : Bel B w { w with heap := w.heap.setIfInBounds g o } :=
  ⟨⟨rfl, rfl, rfl, by simp, fun k hk => by
    show (w.heap.setIfInBounds g o)[k]? = _
    rw [Array.getElem?_setIfInBounds_ne (by omega)]⟩, fun _ => Nat.le_refl _⟩

theorem el_mapUpdate {t : Nat} {x i y : Operand} {A : Acc} (hA : Sub A s) (h : opK P m A d (.mapUpdate t x i y) K) : Elim P s (.mapUpdate t x i y) K := by
  simp only [opK] at h
  split at h
  · rename_i kt e hu
    obtain ⟨vx, ob1, h1, hs1, hr1⟩ := rduK_elim hA h
    obtain ⟨vi, ob2, h2, hs2, hr2⟩ := rduK_elim hA h1
    obtain ⟨vy, ob3, h3, hs3, hr3⟩ := rduK_elim hA h2
    split at h3
    · rename_i id ver key yy
      obtain ⟨ob4, h4, hk4⟩ := keyK_elim h3
      replace h4 := hA.hd _ _ h4
      simp only [SS.acc] at h4
      split at h4
      · rename_i es hes
        simp only [cond_prop] at h4
        split at h4
        · rename_i hv
          have hv := Nat.eq_of_beq_eq_true hv
          refine ⟨_, _, _, h4, fun ha dst ty pos af g => fun w0 F0 G ρ a w R => ?_⟩
          obtain ⟨hl, ha⟩ := allL_cons ha
          obtain ⟨ha, hK⟩ := hk4 ha
          have hx := hr1 (hs2 (hs3 ha)) w0 F0 G ρ a w R
          have hi := hr2 (hs3 ha) w0 F0 G ρ a w R
          have hy := hr3 ha w0 F0 G ρ a w R
          simp only [VRep] at hx hi hy
          obtain ⟨b, hb, hx⟩ := hx.2.2 hv
          have hbl := R.blk id
          rw [hes, hb] at hbl
          simp only [BRep] at hbl
          obtain ⟨b', ents, clk, e1, hc, hl1, hkk, hvv⟩ := hbl
          cases e1
          have hE := entsRep_of (by simpa using hl1) hkk hvv
          obtain ⟨r, f1, f2⟩ := findKey_run hK hi hE hl
          have hg := run_getObj' (P := P) hc
          have hown := R.own id b hb
          have fin : ∀ (ents' : Array MapEntry) (clk' : Nat), (Instr.mapUpdate t (a.eval x) (a.eval i) (a.eval y)).run P w = .ok () { w with heap := w.heap.setIfInBounds b (.map ents' clk') } →
              EntsRep w G ents'.toList (mset es key yy) → ∃ v w' G' ρ', Runs P ⟨dst, .mapUpdate t x i y, ty, pos, af, g⟩ a w v w' ∧ RelX w0 F0 G' ρ' (s.upd (some (id, (s.h id).1, .map (mset es key yy)))) a w' ∧
                VRep w' G' ρ' (s.upd (some (id, (s.h id).1, .map (mset es key yy)))).h .junk v := by
            intro ents' clk' hrun hE'
            have hold : ∀ k, k < w.heap.size → ρ id ≠ some k → ({ w with heap := w.heap.setIfInBounds b (.map ents' clk') } : World).heap[k]? = w.heap[k]? := fun k _ hk => by
              show (w.heap.setIfInBounds b (.map ents' clk'))[k]? = _
              rw [Array.getElem?_setIfInBounds_ne (fun e => hk (by rw [hb, e]))]
            refine ⟨undef, _, G, updR ρ id (some b), .inr ⟨?_, rfl⟩, R.change (ob := some b) (below_set w b _ hown.1) (Nat.le_refl _) hold ?_ ?_ ?_, by simp only [VRep]⟩
            · simp only [execOp, Sem.run_bind, hrun, Result.andThen_ok, Sem.run_pure]
            · intro k hk
              cases hk
              exact ⟨hown.1, by simpa using hown.2.1, .inl hb⟩
            · intro _
              refine ⟨hb.symm, fun k c e hk hc' => ?_⟩
              rw [hb] at hk; cases hk
              rw [hc] at hc'; cases hc'
            · simp only [BRep]
              have hE2 := EntsRep.mono (w' := { w with heap := w.heap.setIfInBounds b (.map ents' clk') }) (fun k hk => hold k (R.foot k hk).1 (fun e => (R.own id k e).2.2 hk)) hE'
              obtain ⟨q1, q2, q3⟩ := hE2.out
              exact ⟨b, ents', clk', rfl, by
                have hlt : b < w.heap.size := (Array.getElem?_eq_some_iff.1 hc).1
                show (w.heap.setIfInBounds b (.map ents' clk'))[b]? = _
                rw [Array.getElem?_setIfInBounds_self_of_lt hlt], by simpa using q1, q2, q3⟩
          rcases f2 with ⟨g1, g2, g3⟩ | ⟨j, e', p', g1, g3, g4, g5, _, _, g7⟩
          · subst g1
            refine fin (ents.push { key := a.eval i, val := a.eval y, born := clk }) (clk + 1) ?_ ?_
            · simp [Instr.mapUpdate, run_und hu, hx, hg, hK.check w G _ false hi, f1, run_setObj' _ hc]
            · rw [g3, Array.toList_push]
              exact entsRep_push hi hy hE
          · subst g1
            have hj : ents[j]? = some e' := by simpa using g3
            refine fin (ents.modify j fun e => { e with key := a.eval i, val := a.eval y }) clk ?_ ?_
            · simp [Instr.mapUpdate, run_und hu, hx, hg, hK.check w G _ false hi, f1, hj, Instr.keyThatStays, g5, run_setObj' _ hc]
            · rw [g7, Array.toList_modify]
              exact entsRep_set hi hy _ hE (fun e => ⟨rfl, rfl⟩)
        · exact h4.elim
      · exact h4.elim
    · exact h3.elim
  · exact h.elim
end
end Abs
