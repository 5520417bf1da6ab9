/- Regions that leave their order open. -/
import Derived.Test.YtabnianhpamofaaAbs18
set_option linter.unusedSectionVars false
set_option linter.unusedSimpArgs false
set_option linter.unusedVariables false
namespace Abs
open Go Go.RowKit
variable [DMode]

section
variable {P : Program}

theorem memN_iff {x : Nat} : ∀ {l : List Nat}, memN x l = true ↔ x ∈ l
  | [] => by simp [memN]
  | y :: r => by
    unfold memN
    cases hb : Nat.beq x y with
    | true => have := Nat.eq_of_beq_eq_true hb; simp [this]
    | false =>
      have hne : x ≠ y := fun e => by rw [e] at hb; simp at hb
      simp [hne, memN_iff (l := r)]
theorem meets_false {a b : List Nat} (h : meets a b = false) : ∀ x, x ∈ a → ¬ x ∈ b := by
  intro x hx hb
  have : meets a b = true := List.any_eq_true.2 ⟨x, hx, memN_iff.2 hb⟩
  rw [h] at this; cases this

/-- What an operation does to a state. -/
structure Eff where
  v : V
  u : Option (Nat × Nat × Blk)
  ft : Foot
def app (s : SS) (o : Oper) (e : Eff) : SS := (s.upd e.u).put o.dst e.v
def Agree (ft : Foot) (s s2 : SS) : Prop := s2.n = s.n ∧ (∀ t, t ∈ ft.us → s2.t t = s.t t) ∧ ∀ id, id ∈ ft.ids → s2.h id = s.h id
theorem racc_agree {us ids : List Nat} {wr : Option Nat} {s s2 : SS} (h : Agree ⟨us, ids, wr⟩ s s2) : racc s.acc us ids = racc s2.acc us ids := by
  obtain ⟨_, h1, h2⟩ := h
  unfold racc
  congr 1
  · funext x K
    cases x with
    | tmp t =>
      simp only
      cases hm : memN t us with
      | false => rfl
      | true =>
        show K (s.t t) = K (s2.t t)
        rw [h1 t (memN_iff.1 hm)]
    | _ => rfl
  · funext id K
    cases hm : memN id ids with
    | false => rfl
    | true =>
      show K (s.h id).1 (s.h id).2 = K (s2.h id).1 (s2.h id).2
      rw [h2 id (memN_iff.1 hm)]
theorem racc_sub (s : SS) (us ids : List Nat) : Sub (racc s.acc us ids) s :=
  ⟨fun x K h => by
    cases x with
    | tmp t =>
      simp only [racc, cond_prop] at h
      split at h
      · exact h
      · exact h.elim
    | _ => exact h,
   fun id K h => by
    simp only [racc, cond_prop] at h
    split at h
    · exact h
    · exact h.elim⟩

/-- What is known of an operation's effect. -/
structure EffOK (P : Program) (ops : List Oper) (o : Oper) (s : SS) (e : Eff) : Prop where
  wrote : ∀ id, id ∈ e.ft.wrote.toList ↔ ∃ ver b, e.u = some (id, ver, b)
  seen : ∀ id, id ∈ e.ft.wrote.toList → id ∈ e.ft.ids
  step : ∀ s2, Agree e.ft s s2 → StepOK P ops.toArray o s2 (app s2 o e)

theorem usesK_elim {ops : List Oper} {o : Oper} {K : List Nat → Prop} (h : usesK ops o K) : ∃ us, K us := by
  unfold usesK at h
  have key : ∀ (l : List Operand) (acc : List Nat), opersK l acc K → ∃ us, K us := by
    intro l
    induction l with
    | nil => intro acc h; exact ⟨acc, h⟩
    | cons x r ih => intro acc h; cases x <;> exact ih _ h
  exact key _ _ h
theorem idsK_elim {s : SS} : ∀ {l : List Operand} {acc : List Nat} {K : List Nat → Prop}, idsK s.acc l acc K → ∃ ids, K ids
  | [], acc, K, h => ⟨acc, h⟩
  | x :: r, acc, K, h => by
    unfold idsK at h
    obtain ⟨v, h1, _⟩ := valK_elim (s := s) (x := x) h
    obtain ⟨v', _, h2, _⟩ := uncs_elim _ v [] _ h1
    have key : ∀ (v : V) (acc : List Nat) (K : List Nat → Prop), refsK v acc K → ∃ ids, K ids := by
      intro v acc K h
      have hc : ∀ (l : List V) (acc : List Nat), refsK.refsCK l acc K → ∃ ids, K ids := by
        intro l
        induction l with
        | nil => intro acc h; exact ⟨acc, h⟩
        | cons x r ih => intro acc h; cases x <;> (unfold refsK.refsCK at h; exact ih _ h)
      cases v <;> unfold refsK at h <;> first | exact ⟨_, h⟩ | exact hc _ _ h
    obtain ⟨ids, h3⟩ := key _ _ _ h2
    exact idsK_elim h3

theorem stepDK_elim {m : Bool} {ops : List Oper} {o : Oper} {s : S} {K : S → List Prop → Foot → Prop} (h : stepDK P m ops o s K) :
    ∃ s' ob e, K s' ob e.ft ∧ s'.view = app s.view o e ∧ (AllL ob → EffOK P ops o s.view e) := by
  unfold stepDK at h
  obtain ⟨us, h⟩ := usesK_elim h
  rw [acc_view] at h
  obtain ⟨ids, g, hg, h⟩ := idsK_elim h
  -- the guard, wherever it is looked at
  have guard : ∀ s2, Agree ⟨us, ids, none⟩ s.view s2 → (g = none → o.guard = none) ∧ ∀ b, g = some b → ∃ j want, o.guard = some (j, want) ∧ ∀ w0 F0 G ρ a w, RelX w0 F0 G ρ s2 a w → (yielded ops.toArray a.tmps j == some want) = b := by
    intro s2 ha
    rw [racc_agree ha] at hg
    obtain ⟨r, e1, h1, h2⟩ := gdK_elim (racc_sub s2 us ids) hg
    subst e1
    exact ⟨h1, h2⟩
  cases g with
  | none =>
    simp only at h
    split at h
    · obtain ⟨v, ob, h1, h2⟩ := h
      obtain ⟨s', e1, e2⟩ := putS_eq s o.dst v (fun s' => K s' ob ⟨us, ids, none⟩)
      rw [e1] at h2
      refine ⟨s', ob, ⟨v, none, ⟨us, ids, none⟩⟩, h2, e2, fun ha => ⟨fun id => ⟨fun h => by simp at h, fun ⟨_, _, e⟩ => by cases e⟩, fun id h => by simp at h, fun s2 hag => ?_⟩⟩
      rw [racc_agree hag] at h1
      obtain ⟨r, ob', ⟨e3, e4⟩, h3⟩ := callFnK_elim (racc_sub s2 us ids) h1
      subst e3; subst e4
      exact stepOK_call0 ((guard s2 hag).1 rfl) (h3 ha trivial)
    · obtain ⟨v, u, ob, h1, h2⟩ := h
      have step : AllL ob → ∀ wr s2, Agree ⟨us, ids, wr⟩ s.view s2 → StepOK P ops.toArray o s2 ((s2.upd u).put o.dst v) := by
        intro ha wr s2 hag
        rw [racc_agree hag] at h1
        obtain ⟨v', u', ob', ⟨e5, e6, e7⟩, h3⟩ := opK_elim (racc_sub s2 us ids) h1
        subst e5; subst e6; subst e7
        exact stepOK_op ((guard s2 hag).1 rfl) (h3 ha o.dst o.type o.pos o.after o.guard)
      cases u with
      | none =>
        obtain ⟨s1, e1, e2⟩ := updS_eq s none (fun s' => putS s' o.dst v fun s' => K s' ob ⟨us, ids, none⟩)
        replace h2 := e1.mp h2
        obtain ⟨s', e3, e4⟩ := putS_eq s1 o.dst v (fun s' => K s' ob ⟨us, ids, none⟩)
        rw [e3] at h2
        exact ⟨s', ob, ⟨v, none, ⟨us, ids, none⟩⟩, h2, by rw [e4, e2]; rfl, fun ha => ⟨fun id => ⟨fun h => by simp at h, fun ⟨_, _, e⟩ => by cases e⟩, fun id h => by simp at h, step ha none⟩⟩
      | some x =>
        obtain ⟨id, ver, b⟩ := x
        obtain ⟨s1, e1, e2⟩ := updS_eq s (some (id, ver, b)) (fun s' => putS s' o.dst v fun s' => cond (memN id ids) (K s' ob ⟨us, ids, some id⟩) False)
        replace h2 := e1.mp h2
        obtain ⟨s', e3, e4⟩ := putS_eq s1 o.dst v (fun s' => cond (memN id ids) (K s' ob ⟨us, ids, some id⟩) False)
        rw [e3] at h2
        simp only [cond_prop] at h2
        split at h2
        · rename_i hm
          refine ⟨s', ob, ⟨v, some (id, ver, b), ⟨us, ids, some id⟩⟩, h2, by rw [e4, e2]; rfl, fun ha => ⟨fun id' => ⟨fun h => ?_, fun ⟨_, _, e⟩ => ?_⟩, fun id' h => ?_, step ha (some id)⟩⟩
          · simp at h; subst h; exact ⟨_, _, rfl⟩
          · cases e; simp
          · simp at h; subst h; exact memN_iff.1 hm
        · exact h2.elim
  | some b =>
    simp only at h
    split at h
    · obtain ⟨v, ob, h1, h2⟩ := h
      obtain ⟨s', e1, e2⟩ := putS_eq s o.dst (.cond b v) (fun s' => K s' (under b ob) ⟨us, ids, none⟩)
      rw [e1] at h2
      refine ⟨s', _, ⟨.cond b v, none, ⟨us, ids, none⟩⟩, h2, e2, fun ha => ⟨fun id => ⟨fun h => by simp at h, fun ⟨_, _, e⟩ => by cases e⟩, fun id h => by simp at h, fun s2 hag => ?_⟩⟩
      rw [racc_agree hag] at h1
      obtain ⟨r, ob', ⟨e3, e4⟩, h3⟩ := callFnK_elim (racc_sub s2 us ids) h1
      subst e3; subst e4
      obtain ⟨j, want, hg', hy⟩ := (guard s2 hag).2 b rfl
      exact stepOK_call hg' hy fun hb => h3 (under_elim ha hb) hb
    · obtain ⟨v, ob, h1, h2⟩ := h
      obtain ⟨s', e1, e2⟩ := putS_eq s o.dst (.cond b v) (fun s' => K s' (under b ob) ⟨us, ids, none⟩)
      rw [e1] at h2
      refine ⟨s', _, ⟨.cond b v, none, ⟨us, ids, none⟩⟩, h2, e2, fun ha => ⟨fun id => ⟨fun h => by simp at h, fun ⟨_, _, e⟩ => by cases e⟩, fun id h => by simp at h, fun s2 hag => ?_⟩⟩
      rw [racc_agree hag] at h1
      obtain ⟨v', u', ob', ⟨e5, e6, e7⟩, h3⟩ := opK_elim (racc_sub s2 us ids) h1
      subst e5; subst e6; subst e7
      obtain ⟨j, want, hg', hy⟩ := (guard s2 hag).2 b rfl
      exact stepOK_guarded hg' hy fun hb => h3 (under_elim ha hb) o.dst o.type o.pos o.after o.guard

/-! ### The operations' effects, some of them -/
def runL (L : Nat → Bool) : Nat → List (Oper × Eff) → SS → SS
  | _, [], s => s
  | k, (o, e) :: r, s => runL L (k + 1) r (if L k then app s o e else s)

/-- Every effect is right where the ones before it are done. -/
def Chain (P : Program) (ops : List Oper) : List (Oper × Eff) → SS → Prop
  | [], _ => True
  | (o, e) :: r, s => EffOK P ops o s e ∧ Chain P ops r (app s o e)

theorem wopsD_elim {m : Bool} {ops : List Oper} {K : S → List Prop → List Foot → Prop} : ∀ {l : List Oper} {obs : List Prop} {tr : List Foot} {s : S}, wopsD P m ops l obs tr K s →
    ∃ (es : List Eff) (s' : S) (obs' : List Prop), es.length = l.length ∧ K s' obs' ((es.map (·.ft)).reverse ++ tr) ∧ s'.view = runL (fun _ => true) 0 (l.zip es) s.view ∧ (AllL obs' → AllL obs ∧ Chain P ops (l.zip es) s.view)
  | [], obs, tr, s, h => ⟨[], s, obs, rfl, h, rfl, fun ha => ⟨ha, trivial⟩⟩
  | o :: os, obs, tr, s, h => by
    unfold wopsD at h
    obtain ⟨s1, ob, e, h1, e1, h2⟩ := stepDK_elim h
    obtain ⟨acc', h3, h4⟩ := addK_elim h1
    obtain ⟨es, s', obs', hl, h5, e2, h6⟩ := wopsD_elim h3
    have shift : ∀ (l : List (Oper × Eff)) (k k' : Nat) (s : SS), runL (fun _ => true) k l s = runL (fun _ => true) k' l s := by
      intro l
      induction l with
      | nil => intro k k' s; rfl
      | cons x r ih => intro k k' s; obtain ⟨o, e⟩ := x; exact ih _ _ _
    refine ⟨e :: es, s', obs', by simp [hl], by simpa using h5, ?_, fun ha => ?_⟩
    · rw [e2, e1]
      exact shift _ _ _ _
    · obtain ⟨h7, h8⟩ := h6 ha
      obtain ⟨h9, h10⟩ := h4.1 h7
      refine ⟨h10, h2 h9, ?_⟩
      rw [e1] at h8; exact h8

/-! ### Any order -/
def NoTouch (o : Oper) (e : Eff) (ft : Foot) : Prop := (∀ d, o.dst = some d → d ∉ ft.us) ∧ ∀ id ver b, e.u = some (id, ver, b) → id ∉ ft.ids
theorem put_n (s : SS) (d : Option Nat) (v : V) : (s.put d v).n = s.n := by cases d <;> rfl
theorem put_h (s : SS) (d : Option Nat) (v : V) : (s.put d v).h = s.h := by cases d <;> rfl
theorem upd_n (s : SS) (u : Option (Nat × Nat × Blk)) : (s.upd u).n = s.n := by cases u <;> rfl
theorem upd_t (s : SS) (u : Option (Nat × Nat × Blk)) : (s.upd u).t = s.t := by cases u <;> rfl
theorem app_n (s : SS) (o : Oper) (e : Eff) : (app s o e).n = s.n := by unfold app; rw [put_n, upd_n]
theorem app_t (s : SS) (o : Oper) (e : Eff) (t : Nat) : (app s o e).t t = match o.dst with
    | some d => if t = d ∧ d < s.n then e.v else s.t t
    | none => s.t t := by
  unfold app
  cases o.dst with
  | none => show (s.upd e.u).t t = _; rw [upd_t]
  | some d => simp only [SS.put, upd_n, upd_t]
theorem app_h (s : SS) (o : Oper) (e : Eff) (id : Nat) : (app s o e).h id = match e.u with
    | some (i, ver, b) => if id = i then (ver, b) else s.h id
    | none => s.h id := by
  unfold app
  rw [put_h]
  cases e.u with
  | none => rfl
  | some x => rfl
theorem agree_app {ft : Foot} {s s' : SS} (h : Agree ft s s') (o : Oper) (e : Eff) : Agree ft (app s o e) (app s' o e) := by
  obtain ⟨h1, h2, h3⟩ := h
  refine ⟨by rw [app_n, app_n, h1], fun t ht => ?_, fun id hid => ?_⟩
  · rw [app_t, app_t, h1, h2 t ht]
  · rw [app_h, app_h, h3 id hid]
theorem agree_skip {ft : Foot} {s s' : SS} (h : Agree ft s s') {o : Oper} {e : Eff} (hn : NoTouch o e ft) : Agree ft (app s o e) s' ∧ Agree ft s (app s' o e) := by
  obtain ⟨h1, h2, h3⟩ := h
  refine ⟨⟨by rw [app_n, h1], fun t ht => ?_, fun id hid => ?_⟩, ⟨by rw [app_n, h1], fun t ht => ?_, fun id hid => ?_⟩⟩
  · rw [app_t, h2 t ht]
    cases hd : o.dst with
    | none => rfl
    | some d =>
      have : t ≠ d := fun e => hn.1 d hd (e ▸ ht)
      simp [this]
  · rw [app_h, h3 id hid]
    cases hu : e.u with
    | none => rfl
    | some x =>
      obtain ⟨i, ver, b⟩ := x
      have : id ≠ i := fun e => hn.2 i ver b hu (e ▸ hid)
      simp [this]
  · rw [app_t, h2 t ht]
    cases hd : o.dst with
    | none => rfl
    | some d =>
      have : t ≠ d := fun e => hn.1 d hd (e ▸ ht)
      simp [this]
  · rw [app_h, h3 id hid]
    cases hu : e.u with
    | none => rfl
    | some x =>
      obtain ⟨i, ver, b⟩ := x
      have : id ≠ i := fun e => hn.2 i ver b hu (e ▸ hid)
      simp [this]
theorem agree_runL {ft : Foot} {L L' : Nat → Bool} : ∀ (les : List (Oper × Eff)) (k : Nat) {s s' : SS}, Agree ft s s' →
    (∀ idx x, les[idx]? = some x → L (k + idx) = L' (k + idx) ∨ NoTouch x.1 x.2 ft) → Agree ft (runL L k les s) (runL L' k les s')
  | [], k, s, s', h, _ => h
  | (o, e) :: r, k, s, s', h, hh => by
    unfold runL
    refine agree_runL r (k + 1) ?_ fun idx x hx => by have := hh (idx + 1) x (by simpa using hx); rwa [show k + (idx + 1) = k + 1 + idx by omega] at this
    have h0 := hh 0 (o, e) rfl
    rw [Nat.add_zero] at h0
    rcases h0 with h0 | h0
    · rw [← h0]
      cases L k with
      | true => exact agree_app h o e
      | false => exact h
    · obtain ⟨q1, q2⟩ := agree_skip h h0
      cases L k <;> cases L' k
      · exact h
      · exact q2
      · exact q1
      · exact agree_app h o e

/-- Two effects that may change places. -/
def Swap (o : Oper) (e : Eff) (o' : Oper) (e' : Eff) : Prop := (∀ d, o.dst = some d → o'.dst ≠ some d) ∧ ∀ i ver b i' ver' b', e.u = some (i, ver, b) → e'.u = some (i', ver', b') → i ≠ i'
theorem ss_ext {s s' : SS} (h1 : s.n = s'.n) (h2 : ∀ t, s.t t = s'.t t) (h3 : ∀ id, s.h id = s'.h id) : s = s' := by
  obtain ⟨n, t, h⟩ := s
  obtain ⟨n', t', h'⟩ := s'
  simp only at h1 h2 h3
  rw [h1, funext h2, funext h3]
theorem app_swap {o o' : Oper} {e e' : Eff} (h : Swap o e o' e') (s : SS) : app (app s o e) o' e' = app (app s o' e') o e := by
  refine ss_ext (by simp only [app_n]) (fun t => ?_) (fun id => ?_)
  · simp only [app_t, app_n]
    cases hd : o.dst with
    | none => cases hd' : o'.dst <;> simp
    | some d =>
      cases hd' : o'.dst with
      | none => simp
      | some d' =>
        have hne : d' ≠ d := fun e => h.1 d hd (by rw [hd', e])
        simp only
        by_cases h1 : t = d ∧ d < s.n
        · have h2 : ¬ (t = d' ∧ d' < s.n) := fun h2 => hne (h2.1.symm.trans h1.1)
          rw [if_neg h2, if_pos h1, if_pos h1]
        · by_cases h2 : t = d' ∧ d' < s.n
          · rw [if_pos h2, if_neg h1, if_pos h2]
          · rw [if_neg h2, if_neg h1, if_neg h1, if_neg h2]
  · simp only [app_h]
    cases hu : e.u with
    | none => cases hu' : e'.u <;> simp
    | some x =>
      obtain ⟨i, ver, b⟩ := x
      cases hu' : e'.u with
      | none => simp
      | some x' =>
        obtain ⟨i', ver', b'⟩ := x'
        have hne := h.2 i ver b i' ver' b' hu hu'
        simp only
        by_cases h1 : id = i
        · have h2 : ¬ id = i' := fun h2 => hne (h1.symm.trans h2)
          rw [if_neg h2, if_pos h1, if_pos h1]
        · by_cases h2 : id = i'
          · rw [if_pos h2, if_neg h1, if_pos h2]
          · rw [if_neg h2, if_neg h1, if_neg h1, if_neg h2]

theorem runL_app {L : Nat → Bool} {o : Oper} {e : Eff} : ∀ (r : List (Oper × Eff)) (k : Nat) (s : SS), (∀ idx x, r[idx]? = some x → L (k + idx) = true → Swap o e x.1 x.2) →
    runL L k r (app s o e) = app (runL L k r s) o e
  | [], k, s, _ => rfl
  | (o', e') :: r, k, s, h => by
    unfold runL
    have ih := fun s => runL_app r (k + 1) s fun idx x hx hl => h (idx + 1) x (by simpa using hx) (by rwa [show k + (idx + 1) = k + 1 + idx by omega])
    cases hL : L k with
    | false => exact ih s
    | true =>
      simp only [if_true]
      rw [app_swap (h 0 (o', e') rfl hL)]
      exact ih _
theorem runL_congr {L L' : Nat → Bool} : ∀ (r : List (Oper × Eff)) (k : Nat) (s : SS), (∀ idx, idx < r.length → L (k + idx) = L' (k + idx)) → runL L k r s = runL L' k r s
  | [], k, s, _ => rfl
  | (o, e) :: r, k, s, h => by
    unfold runL
    have h0 := h 0 (by simp)
    rw [Nat.add_zero] at h0
    rw [h0]
    exact runL_congr r (k + 1) _ fun idx hi => by have := h (idx + 1) (by simpa using hi); rwa [show k + (idx + 1) = k + 1 + idx by omega] at this
theorem runL_add {L : Nat → Bool} {i : Nat} {x : Oper × Eff} : ∀ (les : List (Oper × Eff)) (k idx : Nat) (s : SS), les[idx]? = some x → k + idx = i → L i = false →
    (∀ j y, les[j]? = some y → i < k + j → L (k + j) = true → Swap x.1 x.2 y.1 y.2) → runL (fun j => L j || j == i) k les s = app (runL L k les s) x.1 x.2
  | [], k, idx, s, h, _, _, _ => by simp at h
  | (o, e) :: r, k, 0, s, h, hk, hL, hs => by
    simp only [List.getElem?_cons_zero, Option.some.injEq] at h
    subst h
    rw [Nat.add_zero] at hk
    subst hk
    unfold runL
    simp only [hL, Bool.false_or, beq_self_eq_true, if_true, Bool.false_eq_true, if_false]
    rw [runL_congr (L' := L) r (k + 1) _ fun idx _ => by
      have : ¬ (k + 1 + idx = k) := by omega
      simp [this]]
    exact runL_app r (k + 1) s fun idx y hy hl => hs (idx + 1) y (by simpa using hy) (by omega) (by rwa [show k + (idx + 1) = k + 1 + idx by omega])
  | (o, e) :: r, k, idx + 1, s, h, hk, hL, hs => by
    unfold runL
    have hne : ¬ (k = i) := by omega
    have : (L k || k == i) = L k := by simp [hne]
    rw [this]
    exact runL_add r (k + 1) idx _ (by simpa using h) (by omega) hL fun j y hy hj hl => hs (j + 1) y (by simpa using hy) (by omega) (by rwa [show k + (j + 1) = k + 1 + j by omega])
theorem chain_at {ops : List Oper} {x : Oper × Eff} : ∀ (les : List (Oper × Eff)) (k idx : Nat) (s : SS), Chain P ops les s → les[idx]? = some x → EffOK P ops x.1 (runL (fun j => decide (j < k + idx)) k les s) x.2
  | [], k, idx, s, _, h => by simp at h
  | (o, e) :: r, k, 0, s, hc, h => by
    simp only [List.getElem?_cons_zero, Option.some.injEq] at h
    subst h
    have none : ∀ (r : List (Oper × Eff)) (k' : Nat) (s : SS), k ≤ k' → runL (fun j => decide (j < k + 0)) k' r s = s := by
      intro r
      induction r with
      | nil => intro k' s _; rfl
      | cons y r ih =>
        intro k' s hk
        obtain ⟨o', e'⟩ := y
        unfold runL
        have : ¬ (k' < k + 0) := by omega
        simp only [this, decide_false, Bool.false_eq_true, if_false]
        exact ih (k' + 1) s (by omega)
    rw [none _ k s (Nat.le_refl _)]
    exact hc.1
  | (o, e) :: r, k, idx + 1, s, hc, h => by
    unfold runL
    have : k < k + (idx + 1) := by omega
    simp only [this, decide_true, if_true]
    have := chain_at r (k + 1) idx (app s o e) hc.2 (by simpa using h)
    rwa [show k + 1 + idx = k + (idx + 1) by omega] at this

theorem waits_down {ops : List Oper} {L : Nat → Bool} (hL : ∀ j o, L j = true → ops[j]? = some o → ∀ e ∈ o.after, Region.binds .any e = true → L e.on = true) : ∀ (n i j : Nat), waits ops n i j = true → L j = true → L i = true
  | 0, i, j, h, _ => by simp [waits] at h
  | n + 1, i, j, h, hj => by
    unfold waits at h
    rw [getL_eq] at h
    split at h
    · rename_i o ho
      rw [Bool.or_eq_true] at h
      rcases h with h | h
      · unfold direct at h
        obtain ⟨e, he, hb⟩ := List.any_eq_true.1 h
        rw [Bool.and_eq_true] at hb
        have := Nat.eq_of_beq_eq_true hb.2
        rw [← this]
        exact hL j o hj ho e (Array.mem_toList_iff.1 he) hb.1
      · obtain ⟨e, he, hb⟩ := List.any_eq_true.1 h
        rw [Bool.and_eq_true] at hb
        exact waits_down hL n i e.on hb.2 (hL j o hj ho e (Array.mem_toList_iff.1 he) hb.1)
    · cases h

theorem countP_lt {p q : Nat → Bool} : ∀ (l : List Nat) (i : Nat), (∀ x, q x = true → p x = true) → i ∈ l → p i = true → q i = false → l.countP q < l.countP p
  | [], i, _, h, _, _ => by cases h
  | x :: l, i, hpq, h, hp, hq => by
    have hle : ∀ l : List Nat, l.countP q ≤ l.countP p := fun l => List.countP_mono_left fun x _ hx => hpq x hx
    rw [List.countP_cons, List.countP_cons]
    rcases List.mem_cons.1 h with rfl | h
    · rw [hp, hq]
      have := hle l
      simp only [Bool.false_eq_true, if_false, if_true]; omega
    · have := countP_lt l i hpq h hp hq
      cases hqx : q x with
      | true => rw [hpq x hqx]; simp only [if_true]; omega
      | false => simp only [Bool.false_eq_true, if_false]; omega
/-- What is to be shown of a region that leaves its order open. -/
def DrawOK (P : Program) : Prop := ∀ (m : Bool) (ops : List Oper) (Fin : S → Prop) (s : S), wopsD P m ops ops [] [] (fun s' obs tr => chkD ops tr.reverse = true ∧ owe obs (Fin s')) s →
  ∀ w0 F0 a w (id : Nat), Rel w0 F0 s.view a w → ∀ (Q : Exit → Act → World → Prop), (∀ s' a' w', Fin s' → Rel w0 F0 s'.view a' w' → Q .normal a' w') → (Code.region id ops.toArray true).wp P Q a w


theorem RelX.drew {w0 : World} {F0 : Env} {G : Nat → Prop} {ρ : Nat → Option Nat} {s : SS} {a : Act} {w : World} (R : RelX w0 F0 G ρ s a w) : RelX w0 F0 G ρ s a { w with drawn := w.drawn + 1 } := by
  have hk : Keeps w { w with drawn := w.drawn + 1 } G G ρ ρ s.h s.h := ⟨fun _ _ => rfl, fun _ h => h, fun _ => Nat.le_refl _, fun _ _ => rfl, fun _ b c e _ _ h => ⟨c, h, rfl⟩⟩
  exact {
    defers := ⟨fun d hd => R.defers.1 d hd, R.defers.2⟩
    size := R.size
    below := R.below.trans (Bel.refl _ w).drew
    foot := R.foot
    own := R.own
    inj := R.inj
    blk := fun i => BRep.keep hk (fun _ _ => rfl) _ (R.blk i)
    slot := fun i => VRep.keep hk _ _ (R.slot i) }

theorem meets_of {a b : List Nat} (h : (!meets a b) = true) : ∀ x, x ∈ a → ¬ x ∈ b := meets_false (by simpa using h)

/-- Two effects apart. -/
theorem apart_elim {ops : List Oper} {o o' : Oper} {e e' : Eff} {s s' : SS} (h : apart o o' e.ft e'.ft = true) (he : EffOK P ops o s e) (he' : EffOK P ops o' s' e') :
    NoTouch o e e'.ft ∧ NoTouch o' e' e.ft ∧ Swap o e o' e' ∧ Swap o' e' o e := by
  unfold apart at h
  simp only [Bool.and_eq_true] at h
  obtain ⟨⟨⟨⟨h1, h2⟩, h3⟩, h4⟩, h5⟩ := h
  have w1 := meets_of h4
  have w2 := meets_of h5
  have hu : ∀ id ver b, e.u = some (id, ver, b) → id ∈ e.ft.wrote.toList := fun id ver b hh => (he.wrote id).2 ⟨ver, b, hh⟩
  have hu' : ∀ id ver b, e'.u = some (id, ver, b) → id ∈ e'.ft.wrote.toList := fun id ver b hh => (he'.wrote id).2 ⟨ver, b, hh⟩
  have d : ∀ {o : Oper} {d : Nat}, o.dst = some d → d ∈ dstO o := fun hd => by unfold dstO; rw [hd]; simp
  refine ⟨⟨fun t ht => meets_of h1 t (d ht), fun id ver b hh => w1 id (hu id ver b hh)⟩, ⟨fun t ht => meets_of h2 t (d ht), fun id ver b hh => w2 id (hu' id ver b hh)⟩,
    ⟨fun t ht ht' => meets_of h3 t (d ht) (d ht'), fun i ver b i' ver' b' hh hh' e0 => ?_⟩, ⟨fun t ht ht' => meets_of h3 t (d ht') (d ht), fun i ver b i' ver' b' hh hh' e0 => ?_⟩⟩
  · subst e0
    exact w2 i (hu' i ver' b' hh') (he.seen i (hu i ver b hh))
  · subst e0
    exact w1 i (hu i ver' b' hh') (he'.seen i (hu' i ver b hh))

theorem draw_ok (hm : P.follows .mixedOrders = true) : DrawOK P := by
  intro m ops Fin s h w0 F0 a w id hR Q hQ
  obtain ⟨es, s', obs', hl, ⟨hchk, howe⟩, hview, hch⟩ := wopsD_elim h
  obtain ⟨hobs, hfin⟩ := owe_elim howe
  have hchain := (hch hobs).2
  simp only [List.append_nil, List.reverse_reverse] at hchk
  unfold chkD at hchk
  simp only [Bool.and_eq_true, List.all_eq_true, List.mem_range] at hchk
  obtain ⟨_, hc⟩ := hchk
  -- the operations with their effects
  have hat : ∀ (i : Nat) (o : Oper), ops[i]? = some o → ∃ e : Eff, es[i]? = some e ∧ (ops.zip es)[i]? = some (o, e) := by
    intro i o ho
    have hi : i < es.length := by rw [hl]; exact (List.getElem?_eq_some_iff.1 ho).1
    refine ⟨es[i], List.getElem?_eq_getElem hi, ?_⟩
    rw [List.getElem?_zip_eq_some]
    exact ⟨ho, List.getElem?_eq_getElem hi⟩
  have hback : ∀ (j : Nat) (o : Oper), ops[j]? = some o → ∀ e ∈ o.after, Region.binds .any e = true → e.on < j := by
    intro j o ho e he hb
    have hj := (List.getElem?_eq_some_iff.1 ho).1
    have h1 := (hc j hj).1
    rw [getL_eq, ho] at h1
    simp only [List.all_eq_true, Bool.or_eq_true, Bool.not_eq_true'] at h1
    rcases h1 e (Array.mem_toList_iff.2 he) with h2 | h2
    · rw [hb] at h2; cases h2
    · simpa using h2
  have hpair : ∀ (i j : Nat) (x y : Oper × Eff), i < j → (ops.zip es)[i]? = some x → (ops.zip es)[j]? = some y → waits ops j i j = false →
      NoTouch x.1 x.2 y.2.ft ∧ NoTouch y.1 y.2 x.2.ft ∧ Swap x.1 x.2 y.1 y.2 ∧ Swap y.1 y.2 x.1 x.2 := by
    intro i j x y hij hx hy hw
    have hx' := List.getElem?_zip_eq_some.1 hx
    have hy' := List.getElem?_zip_eq_some.1 hy
    have hj : j < ops.length := (List.getElem?_eq_some_iff.1 hy'.1).1
    have h1 := (hc j hj).2 i hij
    rw [Bool.or_eq_true, hw] at h1
    have h2 := h1.resolve_right (by simp)
    simp only [getL_eq, hx'.1, hy'.1, List.getElem?_map, hx'.2, hy'.2, Option.map_some] at h2
    exact apart_elim h2 (chain_at _ 0 i _ hchain hx) (chain_at _ 0 j _ hchain hy)
  refine wp_region_any hm ?_
  have main : ∀ (fuel : Nat) (listed : Array Bool) (a : Act) (w : World), listed.size = ops.length →
      (∀ (j : Nat) (o : Oper), listed.getD j false = true → ops[j]? = some o → ∀ e ∈ o.after, Region.binds .any e = true → listed.getD e.on false = true) →
      (List.range ops.length).countP (fun j => !listed.getD j false) ≤ fuel → Rel w0 F0 (runL (fun j => listed.getD j false) 0 (ops.zip es) s.view) a w → wpAny P .any ops.toArray Q fuel listed a w := by
    intro fuel
    induction fuel with
    | zero =>
      intro listed a w hsz hdown hcnt hrel
      have hall : ∀ j, j < ops.length → listed.getD j false = true := by
        intro j hj
        have := List.countP_eq_zero.1 (Nat.le_zero.1 hcnt) j (List.mem_range.2 hj)
        simpa using this
      refine ⟨List.eq_nil_iff_forall_not_mem.2 fun j hj => ?_, hQ s' a w hfin ?_⟩
      · obtain ⟨h1, o, h2, _⟩ := mem_ready.1 hj
        have hj' : j < ops.length := by simpa using (Array.getElem?_eq_some_iff.1 h2).1
        have h3 := hall j hj'
        have hlt : j < listed.size := by omega
        simp [hlt] at h1 h3
        rw [h1] at h3; cases h3
      · rw [hview]
        rw [runL_congr (L' := fun _ => true)] at hrel
        · exact hrel
        · intro idx hi
          rw [Nat.zero_add]
          exact hall idx (by simp at hi; omega)
    | succ fuel ih =>
      intro listed a w hsz hdown hcnt hrel
      refine ⟨fun hr => ?_, fun i hi => ?_⟩
      · have hall : ∀ j, j < ops.length → listed.getD j false = true := by
          intro j
          induction j using Nat.strongRecOn with
          | _ j ihj =>
            intro hj
            cases hlj : listed.getD j false with
            | true => rfl
            | false =>
              have : j ∈ Region.ready .any ops.toArray listed := by
                refine mem_ready.2 ⟨?_, ops[j], by simp [hj], fun e he hb => ?_⟩
                · have hlt : j < listed.size := by omega
                  simp [hlt] at hlj ⊢; exact hlj
                · have hlt := hback j ops[j] (List.getElem?_eq_getElem hj) e he hb
                  exact ihj e.on hlt (by omega)
              rw [hr] at this; cases this
        refine hQ s' a w hfin ?_
        rw [hview]
        rw [runL_congr (L' := fun _ => true)] at hrel
        · exact hrel
        · intro idx hi
          rw [Nat.zero_add]
          exact hall idx (by simp at hi; omega)
      · obtain ⟨h1, o, h2, h3⟩ := mem_ready.1 hi
        have hoi : ops[i]? = some o := by simpa using h2
        have hil : i < ops.length := (List.getElem?_eq_some_iff.1 hoi).1
        obtain ⟨e, he1, he2⟩ := hat i o hoi
        have hLi : listed.getD i false = false := by
          have hlt : i < listed.size := by omega
          simp [hlt] at h1 ⊢; exact h1
        -- what is listed already and comes later is apart; what comes before and is not listed too
        have later : ∀ (j : Nat) (y : Oper × Eff), (ops.zip es)[j]? = some y → i < j → listed.getD j false = true → NoTouch y.1 y.2 e.ft ∧ Swap o e y.1 y.2 := by
          intro j y hy hij hlj
          have hw : waits ops j i j = false := by
            cases hw : waits ops j i j with
            | false => rfl
            | true =>
              have := waits_down (L := fun j => listed.getD j false) hdown j i j hw hlj
              rw [hLi] at this; cases this
          have := hpair i j (o, e) y hij he2 hy hw
          exact ⟨this.2.1, this.2.2.1⟩
        have before : ∀ (j : Nat) (y : Oper × Eff), (ops.zip es)[j]? = some y → j < i → listed.getD j false = false → NoTouch y.1 y.2 e.ft := by
          intro j y hy hij hlj
          have hw : waits ops i j i = false := by
            cases hw : waits ops i j i with
            | false => rfl
            | true =>
              have hd2 : ∀ (k : Nat) (o' : Oper), (listed.getD k false || k == i) = true → ops[k]? = some o' → ∀ e ∈ o'.after, Region.binds .any e = true → (listed.getD e.on false || e.on == i) = true := by
                intro k o' hk ho' e' he' hb'
                by_cases hki : k = i
                · subst hki
                  rw [hoi] at ho'; cases ho'
                  rw [h3 e' he' hb']; rfl
                · have : listed.getD k false = true := by simpa [hki] using hk
                  rw [hdown k o' this ho' e' he' hb']; rfl
              have := waits_down (L := fun j => listed.getD j false || j == i) hd2 i j i hw (by simp)
              have hji : ¬ (j = i) := by omega
              simp only [hlj, Bool.false_or, beq_iff_eq] at this
              exact absurd this hji
          exact (hpair j i y (o, e) hij hy he2 hw).1
        have hE := chain_at _ 0 i _ hchain he2
        have hag : Agree e.ft (runL (fun j => decide (j < 0 + i)) 0 (ops.zip es) s.view) (runL (fun j => listed.getD j false) 0 (ops.zip es) s.view) := by
          refine agree_runL _ 0 ⟨rfl, fun _ _ => rfl, fun _ _ => rfl⟩ fun idx x hx => ?_
          rw [Nat.zero_add, Nat.zero_add]
          rcases Nat.lt_trichotomy idx i with hlt | heq | hgt
          · cases hlj : listed.getD idx false with
            | true => left; simp [hlt]
            | false => right; exact before idx x hx hlt hlj
          · subst heq; left; rw [hLi]; simp
          · cases hlj : listed.getD idx false with
            | true => right; exact (later idx x hx hgt hlj).1
            | false => left; simp; omega
        have hstep := hE.step _ hag w0 F0 a w hrel Q (wpAny P .any ops.toArray Q fuel (listed.setIfInBounds i true)) fun a' w' R' => by
          refine ih (listed.setIfInBounds i true) a' w' (by simpa using hsz) ?_ ?_ ?_
          · intro j o' hlj ho' e' he' hb'
            by_cases hji : j = i
            · subst hji
              rw [hoi] at ho'; cases ho'
              exact getD_set_true (h3 e' he' hb')
            · rw [getD_set_ne false (fun e => hji e.symm)] at hlj
              exact getD_set_true (hdown j o' hlj ho' e' he' hb')
          · have hlt := countP_lt (p := fun j => !listed.getD j false) (q := fun j => !(listed.setIfInBounds i true).getD j false) (List.range ops.length) i (fun x hx => by
              have hx : (listed.setIfInBounds i true).getD x false = false := by simpa using hx
              cases hlx : listed.getD x false with
              | false => rfl
              | true => rw [getD_set_true hlx] at hx; cases hx) (List.mem_range.2 hil) (by rw [hLi]; rfl) (by
              have hlt : i < listed.size := by omega
              simp [hlt])
            omega
          · have hadd := runL_add (L := fun j => listed.getD j false) (i := i) (x := (o, e)) (ops.zip es) 0 i s.view he2 (Nat.zero_add i) hLi fun j y hy hij hlj => by
              rw [Nat.zero_add] at hij hlj
              exact (later j y hy hij hlj).2
            rw [← hadd] at R'
            rw [runL_congr (L' := fun j => (listed.setIfInBounds i true).getD j false)] at R'
            · exact R'
            · intro idx _
              rw [Nat.zero_add]
              by_cases hji : idx = i
              · subst hji
                have hlt : idx < listed.size := by omega
                simp [hlt]
              · rw [getD_set_ne false (fun e => hji e.symm)]
                simp [hji]
        unfold Go.wpOp
        rw [h2]
        simp only
        split
        · rename_i hh; rw [if_pos hh] at hstep; exact .inl hstep
        · rename_i hh; rw [if_neg hh] at hstep; exact hstep
  refine main _ _ a _ (by simp) (fun j o hj ho => ?_) ?_ ?_
  · rw [Array.getD_eq_getD_getElem?] at hj
    by_cases hjn : j < ops.length
    · simp [hjn] at hj
    · simp [hjn] at hj
  · exact Nat.le_trans List.countP_le_length (by simp)
  · obtain ⟨G, ρ, R⟩ := hR
    rw [runL_congr (L' := fun _ => false)]
    · have nil : ∀ (r : List (Oper × Eff)) (k : Nat) (s : SS), runL (fun _ => false) k r s = s := by
        intro r
        induction r with
        | nil => intro k s; rfl
        | cons x r ih => intro k s; obtain ⟨o, e⟩ := x; exact ih _ _
      rw [nil]
      exact ⟨G, ρ, R.drew⟩
    · intro idx hi
      rw [Array.getD_eq_getD_getElem?]
      by_cases hjn : idx < ops.length
      · simp [Array.getElem?_replicate, hjn]
      · simp [Array.getElem?_replicate, hjn]
end
end Abs
