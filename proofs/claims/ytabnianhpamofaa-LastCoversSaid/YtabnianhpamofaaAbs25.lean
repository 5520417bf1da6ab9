/- The rule of a loop that ranges over a function. -/
import Derived.Test.YtabnianhpamofaaAbs24
set_option linter.unusedSectionVars false
set_option linter.unusedSimpArgs false
set_option linter.unusedVariables false
namespace Abs
open Go Go.RowKit
section
variable [DMode] {P : Program}

/-- An iterator that reads no more than what it has captured, and hands over xs 0, xs 1, .., n in all. -/
def IterOK (P : Program) (gf : FuncId) (caps : List PV) (n : Nat) (xs : Nat → List PV) : Prop :=
  ∀ (w : World) (F : Nat → Prop) (vs : List Value), (∀ b, F b → b < w.heap.size) → PReps w F vs caps →
  ∀ (l m : Nat) (J : Nat → World → Prop) (W : World), (∀ k W1, J k W1 → ∀ b, F b → W1.heap[b]? = w.heap[b]?) → (∀ k W1, J k W1 → KeepsW W1) →
    (∀ k W1 us, k < n → J k W1 → PReps W1 F us (xs k) → YieldAt Fence.wide m P l us.toArray W1 fun e W' => e = .returned (.bool true) ∧ J (k + 1) W') →
    J 0 W → CallsIn Fence.wide (m + 1) P gf (#[.func (.yield l) #[] #[]] ++ vs.toArray) W fun e W' => (∃ v, e = .returned v) ∧ J n W'

theorem RelX.env {w0 : World} {F0 E : Env} {G : Nat → Prop} {ρ : Nat → Option Nat} {s : SS} {a : Act} {w w' : World} (R : RelX w0 F0 G ρ s a w) (hE : E.F = F0.F) (hb : Bel w0.heap.size w w') (hG : ∀ b, G b → w'.heap[b]? = w.heap[b]?)
    (hρ : ∀ i b, ρ i = some b → w'.heap[b]? = w.heap[b]?) {ds : List Deferred} (hm : Marks E.Z E.Y w0.heap.size G ρ w' ds) : RelX w0 E G ρ s ⟨a.tmps, ds⟩ w' := by
  have hk : Keeps w w' G G ρ ρ s.h s.h := ⟨hG, fun _ h => h, fun _ => Nat.le_refl _, fun _ _ => rfl, fun i b c e h1 _ h2 => ⟨c, by rw [hρ i b h1]; exact h2, rfl⟩⟩
  exact {
    defers := hm
    size := R.size
    below := R.below.trans hb
    foot := fun b h => ⟨Nat.lt_of_lt_of_le (R.foot b h).1 hb.size, by rw [hE]; exact (R.foot b h).2⟩
    own := fun i b h => ⟨(R.own i b h).1, Nat.lt_of_lt_of_le (R.own i b h).2.1 hb.size, (R.own i b h).2.2⟩
    inj := R.inj
    blk := fun i => BRep.keep hk (fun b h => hρ i b h) _ (R.blk i)
    slot := fun i => VRep.keep hk _ _ (R.slot i) }

/-- Slots written, one after the other. -/
def putPsK : List V → List Nat → List PV → (List V → Prop) → Prop
  | t, [], [], K => K t
  | t, p :: ps, x :: xs, K => setK t p (.pv x) fun t' => putPsK t' ps xs K
  | _, _, _, _ => False
def putPs : List V → List Nat → List PV → List V
  | t, p :: ps, x :: xs => putPs (t.set p (.pv x)) ps xs
  | t, _, _ => t
theorem putPsK_eq : ∀ {ps : List Nat} {t : List V} {xs : List PV} {K : List V → Prop}, putPsK t ps xs K → xs.length = ps.length ∧ K (putPs t ps xs)
  | [], t, [], K, h => ⟨rfl, h⟩
  | [], t, _ :: _, K, h => h.elim
  | _ :: _, t, [], K, h => h.elim
  | p :: ps, t, x :: xs, K, h => by
    simp only [putPsK, setK_eq] at h
    obtain ⟨h1, h2⟩ := putPsK_eq h
    exact ⟨by simp [h1], h2⟩
theorem len_putPs : ∀ (ps : List Nat) (t : List V) (xs : List PV), (putPs t ps xs).length = t.length
  | [], t, [] => rfl
  | [], t, _ :: _ => rfl
  | _ :: _, t, [] => rfl
  | p :: ps, t, x :: xs => by simp only [putPs]; rw [len_putPs ps]; simp
/-- The frame of a round. -/
theorem put_round {w0 : World} {F0 : Env} {G : Nat → Prop} {ρ : Nat → Option Nat} {h : Hp} {w : World} : ∀ (ps : List Nat) (t : List V) (xs : List PV) (us : List Value) (tm : Array Value), xs.length = ps.length → us.length = xs.length →
    (∀ i, i < xs.length → PRep w G (us.getD i undef) (xs.getD i .unit)) → RelX w0 F0 G ρ (S.view ⟨t, h⟩) ⟨tm, []⟩ w →
    RelX w0 F0 G ρ (S.view ⟨putPs t ps xs, h⟩) ⟨(ps.zip us).foldl (fun tmps (p, v) => tmps.setIfInBounds p v) tm, []⟩ w ∧
      ∀ i, i ∉ ps → ((ps.zip us).foldl (fun tmps (p, v) => tmps.setIfInBounds p v) tm).getD i undef = tm.getD i undef
  | [], t, [], [], tm, _, _, _, R => ⟨R, fun _ _ => rfl⟩
  | [], t, _ :: _, _, tm, h1, _, _, _ => by simp at h1
  | _ :: _, t, [], _, tm, h1, _, _, _ => by simp at h1
  | _, t, _ :: _, [], tm, _, h2, _, _ => by simp at h2
  | _, t, [], _ :: _, tm, _, h2, _, _ => by simp at h2
  | p :: ps, t, x :: xs, u :: us, tm, h1, h2, hp, R => by
    have R1 : RelX w0 F0 G ρ (S.view ⟨t.set p (.pv x), h⟩) ⟨tm.setIfInBounds p u, []⟩ w := by
      rw [view_set ⟨t, h⟩ p]
      exact R.put (d := some p) (v := .pv x) (x := u) (by unfold VRep; simpa using hp 0 (by simp))
    obtain ⟨h3, h4⟩ := put_round ps (t.set p (.pv x)) xs us (tm.setIfInBounds p u) (by simpa using h1) (by simpa using h2) (fun i hi => by simpa using hp (i + 1) (by simpa using hi)) R1
    refine ⟨h3, fun i hi => ?_⟩
    simp only [List.mem_cons, not_or] at hi
    simp only [List.zip_cons_cons, List.foldl_cons]
    rw [h4 i hi.2]
    simp only [Array.getD_eq_getD_getElem?]
    rw [Array.getElem?_setIfInBounds_ne (fun e => hi.1 e.symm)]

def junkB : V → Bool
  | .junk => true
  | _ => false
theorem codeN_le {c : Code} {Q : Exit → S → Prop} {s s' : S} (hl : Le s s') (h : CodeN P c Q s') : CodeN P c Q s := by
  unfold CodeN; exact (codeN_unfold h).le hl

theorem codeN_range {m : Mode} {g : Operand} {ps : Array Tmp} {assign body : Code} {Q : Exit → S → Prop} {t : List V} (H : Nat → Hp) {gf : FuncId} {caps : List PV} {n : Nat} {xs : Nat → List PV}
    (hg : rdS t g (fun v => v = .pv (.fn gf caps))) (hit : IterOK P gf caps n xs) (hen : Enters P gf) (hok : (roundOk assign && roundOk body) = true)
    (hclear : ((ps.toList ++ (writes assign ++ writes body)).all fun i => junkB (t.getD i .junk)) = true)
    (hround : ∀ k, k < n → putPsK t ps.toList (xs k) fun t' => W P m assign (fun e s' => match e with
      | .normal => W P m body (fun e s'' => match e with | .normal => Le s'' ⟨t, H (k + 1)⟩ | _ => False) s'
      | _ => False) ⟨t', H k⟩)
    (hend : Q .normal ⟨t, H n⟩) : CodeN P (.rangeFunc g ps assign body) Q ⟨t, H 0⟩ := by
  unfold CodeN
  intro w0 F0 a w ⟨G, ρ, R⟩
  simp only [Bool.and_eq_true] at hok
  have hslot : ∃ lb : List Value, a.eval g = .func (.func gf) #[] lb.toArray ∧ PReps w G lb caps := by
    have key : ∀ v, VRep w G ρ (hgetF (H 0)) (.pv (.fn gf caps)) v → ∃ lb : List Value, v = .func (.func gf) #[] lb.toArray ∧ PReps w G lb caps := by
      intro v hv
      unfold VRep at hv
      cases hv with
      | @fn _ vs _ hl h => exact ⟨vs, rfl, hl, h⟩
    cases g with
    | tmp i =>
      simp only [rdS, getK_eq] at hg
      have h1 := R.slot i
      have h2 : (S.view ⟨t, H 0⟩).t i = .pv (.fn gf caps) := hg
      rw [h2] at h1
      obtain ⟨lb, h3, h4⟩ := key _ h1
      refine ⟨lb, ?_, h4⟩
      rw [← h3]
      simp [Act.eval, Array.getD_eq_getD_getElem?]
    | const v =>
      simp only [rdS] at hg
      split at hg
      · rename_i x hx
        cases hg
        have : ∀ v, constPV v ≠ some (.fn gf caps) := by
          intro v hv
          unfold constPV at hv
          split at hv
          · split at hv <;> cases hv
          · unfold scalarPV at hv
            split at hv <;> cases hv
        exact absurd hx (this v)
      · exact hg.elim
    | func f =>
      simp only [rdS] at hg
      cases hg
      exact ⟨[], rfl, rfl, fun i hi => by simp at hi⟩
    | global x => exact hg.elim
  obtain ⟨lb, hev, hlb⟩ := hslot
  have hgl : ∀ b, G b → b < w.heap.size := fun b hb => (R.foot b hb).1
  refine (wpIn_wide (n := 3)).1 (wpIn_rangeFunc ?_)
  intro fn _
  obtain ⟨rec, hrec⟩ : ∃ rec : LoopState → Loop, rec = fun st => { state := st, pending := none, fn, tmps := a.tmps, params := ps, assign, body, defers := w.heap.size } := ⟨_, rfl⟩
  obtain ⟨W1, hW1⟩ : ∃ W1, (w.alloc (.deferred (some []))).alloc (.loop (rec .ready)) = W1 := ⟨_, rfl⟩
  have hbase : w0.heap.size ≤ w.heap.size := R.below.size
  have hL1 : W1.heap[w.heap.size + 1]? = some (.loop (rec .ready)) := by
    rw [← hW1]; have := World.alloc_heap_new (w.alloc (.deferred (some []))) (.loop (rec .ready)); rwa [World.size_alloc] at this
  have hK1 : W1.heap[w.heap.size]? = some (.deferred (some [])) := by
    rw [← hW1]; exact (Below.heap_alloc _ _ _ (by simp)).trans (World.alloc_heap_new w _)
  have hold1 : ∀ b, b < w.heap.size → W1.heap[b]? = w.heap[b]? := fun b hb => by
    rw [← hW1]; exact (Below.heap_alloc _ _ _ (by simp; omega)).trans (Below.heap_alloc _ _ _ hb)
  let l := w.heap.size + 1
  let mk : Deferred := { target := .collected w.heap.size, args := #[] }
  -- what lies besides, in whichever state the record is
  let E : LoopState → Env := fun st => ⟨F0.F, fun b o => F0.Z b o ∨ (b = l ∧ o = .loop (rec st)) ∨ (o = .deferred (some []) ∧ { target := .collected b, args := #[] } ∈ mk :: a.defers), fun b o => F0.Y b o ∨ (G b ∧ w.heap[b]? = some o), fun b o h => .inl (F0.sub b o h)⟩
  have hmkI : ∀ {d : Deferred} {D : Nat}, d = { target := .collected D, args := #[] } → d ∈ a.defers → ({ target := .collected D, args := #[] } : Deferred) ∈ mk :: a.defers := fun e h => by rw [← e]; exact List.mem_cons_of_mem _ h
  -- the ghosts do not lie in G, nor in the own blocks: from one memory to another
  have step : ∀ {st st' : LoopState} {G' : Nat → Prop} {ρ' : Nat → Option Nat} {s : SS} {b : Act} {W : World}, RelX w0 (E st) G' ρ' s b W → RelX w0 (E st') G' ρ' s b (W.putObj l (.loop (rec st'))) := by
    intro st st' G' ρ' s b W R'
    have hl := R'.defers.2.2.1 l _ (.inr (.inl ⟨rfl, rfl⟩))
    have hne : ∀ c, c ≠ l → (W.putObj l (.loop (rec st'))).heap[c]? = W.heap[c]? := fun c hc => World.putObj_heap_other hc
    refine RelX.env (E := E st') R' rfl ((Bel.refl _ _).putObj hl.1 _) (fun c hc => hne c (fun e => hl.2.2.1 (e ▸ hc))) (fun i c hc => hne c (fun e => hl.2.2.2 i (e ▸ hc))) (ds := b.defers) ⟨fun d hd => ?_, R'.defers.2.1, fun c o hz => ?_, fun c o hy => ?_⟩
    · obtain ⟨D, h1, h2, h3, h4, h5⟩ := R'.defers.1 d hd
      refine ⟨D, h1, h2, ?_, h4, h5⟩
      rw [hne D (fun e => by rw [e, hl.2.1] at h3; cases h3)]
      exact h3
    · rcases hz with hz | ⟨rfl, rfl⟩ | hz
      · have h1 := R'.defers.2.2.1 c o (.inl hz)
        by_cases e : c = l
        · subst e
          have h2 : F0.Z l o := hz
          have h3 := (R.defers.2.2.1 l o h2).2.1
          have : l < w.heap.size := (Array.getElem?_eq_some_iff.1 h3).1
          omega
        · exact ⟨h1.1, by rw [hne c e]; exact h1.2.1, h1.2.2⟩
      · exact ⟨hl.1, World.putObj_heap_same (Array.getElem?_eq_some_iff.1 hl.2.1).1, hl.2.2⟩
      · have h1 := R'.defers.2.2.1 c o (.inr (.inr hz))
        refine ⟨h1.1, ?_, h1.2.2⟩
        rw [hne c (fun e => ?_)]
        · exact h1.2.1
        · have h4 := h1.2.1
          rw [e, hl.2.1, hz.1] at h4
          cases h4
    · have h1 := R'.defers.2.2.2 c o hy
      refine ⟨?_, h1.2⟩
      rw [hne c (fun e => ?_)]
      · exact h1.1
      · have h4 := h1.1
        rcases hy with hy | ⟨hy, h5⟩
        · have h3 := (R.defers.2.2.2 c o hy).1
          have : c < w.heap.size := (Array.getElem?_eq_some_iff.1 h3).1
          omega
        · have : c < w.heap.size := hgl c hy
          omega
  let J : Nat → World → Prop := fun k W => ∃ G' ρ', RelX w0 (E .ready) G' ρ' (S.view ⟨t, H k⟩) ⟨a.tmps, []⟩ W
  have hJF : ∀ k W1, J k W1 → ∀ b, G b → W1.heap[b]? = w.heap[b]? := by
    rintro k W ⟨G', ρ', R'⟩ b hb
    have hlt := hgl b hb
    have h1 := R'.defers.2.2.2 b w.heap[b] (.inr ⟨hb, Array.getElem?_eq_getElem hlt⟩)
    rw [h1.1, Array.getElem?_eq_getElem hlt]
  have hJ0 : J 0 W1 := by
    refine ⟨G, ρ, ?_⟩
    refine RelX.env (E := E .ready) R rfl (by rw [← hW1]; exact ((Bel.refl _ _).alloc hbase _).alloc (by simp; omega) _) (fun b hb => hold1 b (hgl b hb)) (fun i b hb => hold1 b (R.own i b hb).2.1) ⟨fun d hd => by simp at hd, List.nodup_nil, fun c o hz => ?_, fun c o hy => ?_⟩
    · have big : ∀ c, w.heap.size ≤ c → ¬ G c ∧ ∀ i, ρ i ≠ some c := fun c hc => ⟨fun hg => by have := hgl c hg; omega, fun i hi => by have := (R.own i c hi).2.1; omega⟩
      rcases hz with hz | ⟨rfl, rfl⟩ | ⟨rfl, hz⟩
      · have h1 := R.defers.2.2.1 c o hz
        exact ⟨h1.1, by rw [hold1 c (Array.getElem?_eq_some_iff.1 h1.2.1).1]; exact h1.2.1, h1.2.2⟩
      · exact ⟨by omega, hL1, big _ (by omega)⟩
      · rcases List.mem_cons.1 hz with e | hz
        · have : c = w.heap.size := by
            have := congrArg Deferred.target e
            simp [mk] at this
            exact this
          subst this
          exact ⟨hbase, hK1, big _ (Nat.le_refl _)⟩
        · obtain ⟨D, h1, h2, h3, h4, h5⟩ := R.defers.1 _ hz
          have : c = D := by
            have := congrArg Deferred.target h1
            simpa using this
          subst this
          exact ⟨h2, by rw [hold1 c (Array.getElem?_eq_some_iff.1 h3).1]; exact h3, h4, h5⟩
    · rcases hy with hy | ⟨hy, h5⟩
      · have h1 := R.defers.2.2.2 c o hy
        exact ⟨by rw [hold1 c (Array.getElem?_eq_some_iff.1 h1.1).1]; exact h1.1, h1.2⟩
      · exact ⟨by rw [hold1 c (hgl c hy)]; exact h5, fun i hi => (R.own i c hi).2.2 hy⟩
  refine ⟨l, [mk], W1, { target := .fn (.func gf) lb.toArray, args := #[.func (.yield l) #[] #[]] }, W1, gf, #[.func (.yield l) #[] #[]] ++ lb.toArray, W1, ?_, ?_, fun _ _ => trivial, ?_, fun e => (by cases e), ?_⟩
  · rw [← hW1, hrec]; exact run_enterLoop_outer _ _ _ _ _
  · simp only [resolve, hev]
    simp [go_sem, Act.eval]
  · simp only [invoke]
    exact run_enters hen
  · refine (hit w G lb hgl hlb l 1 J W1 hJF (fun _ _ ⟨_, _, R'⟩ => R'.kept) ?_ hJ0).mono ?_
    · -- a round
      rintro k W us hk ⟨G0, ρ', R0⟩ hus
      obtain ⟨G', hGG, R'⟩ : ∃ G', (∀ b, G b → G' b) ∧ RelX w0 (E .ready) G' ρ' (S.view ⟨t, H k⟩) ⟨a.tmps, []⟩ W := by
        refine ⟨fun b => G0 b ∨ G b, fun b hb => .inr hb, ?_⟩
        have hk : Keeps W W G0 (fun b => G0 b ∨ G b) ρ' ρ' (S.view ⟨t, H k⟩).h (S.view ⟨t, H k⟩).h := ⟨fun _ _ => rfl, fun _ h => .inl h, fun _ => Nat.le_refl _, fun _ _ => rfl, fun i b c e h1 _ h2 => ⟨c, h2, rfl⟩⟩
        have hY : ∀ b, G b → W.heap[b]? = w.heap[b]? ∧ ∀ i, ρ' i ≠ some b := fun b hb => by
          have hlt := hgl b hb
          have h1 := R0.defers.2.2.2 b w.heap[b] (.inr ⟨hb, Array.getElem?_eq_getElem hlt⟩)
          exact ⟨by rw [h1.1, Array.getElem?_eq_getElem hlt], h1.2⟩
        exact {
          defers := ⟨fun d hd => by simp at hd, List.nodup_nil, fun c o hz => by
            have h1 := R0.defers.2.2.1 c o hz
            refine ⟨h1.1, h1.2.1, fun hg => hg.elim h1.2.2.1 (fun hg => ?_), h1.2.2.2⟩
            have hlt := hgl c hg
            rcases hz with hz | ⟨e, _⟩ | ⟨_, hz⟩
            · exact (R.defers.2.2.1 c o hz).2.2.1 hg
            · omega
            · rcases List.mem_cons.1 hz with e | hz
              · have := congrArg Deferred.target e
                simp [mk] at this
                omega
              · obtain ⟨D, h1, h2, h3, h4, h5⟩ := R.defers.1 _ hz
                have : c = D := by
                  have := congrArg Deferred.target h1
                  simpa using this
                exact h4 (this ▸ hg), R0.defers.2.2.2⟩
          size := R0.size
          below := R0.below
          foot := fun b hb => hb.elim (R0.foot b) (fun hb => ⟨(Array.getElem?_eq_some_iff.1 ((hY b hb).1.trans (Array.getElem?_eq_getElem (hgl b hb)))).1, (R.foot b hb).2⟩)
          own := fun i b hb => ⟨(R0.own i b hb).1, (R0.own i b hb).2.1, fun hg => hg.elim (R0.own i b hb).2.2 (fun hg => (hY b hg).2 i hb)⟩
          inj := R0.inj
          blk := fun i => BRep.keep hk (fun _ _ => rfl) _ (R0.blk i)
          slot := fun i => VRep.keep hk _ _ (R0.slot i) }
      have hL := (R'.defers.2.2.1 l _ (.inr (.inl ⟨rfl, rfl⟩))).2.1
      obtain ⟨hxl, hW⟩ := putPsK_eq (hround k hk)
      have hsz : us.toArray.size = (rec .ready).params.size := by rw [hrec, List.size_toArray, hus.1, hxl]; simp
      have hy := run_yield (P := P) (args := us.toArray) hL hsz
      refine ⟨_, _, _, _, hy, ?_⟩
      have hfold : ((rec .ready).params.zip us.toArray).foldl (fun tmps (t, a) => tmps.setIfInBounds t a) (rec .ready).tmps = (ps.toList.zip us).foldl (fun tmps (p, v) => tmps.setIfInBounds p v) a.tmps := by
        rw [hrec]
        simp only
        rw [← Array.foldl_toList]
        simp
      obtain ⟨R1, hp1⟩ := put_round ps.toList t (xs k) us a.tmps hxl hus.1 (fun i hi => (hus.2 i hi).mono (fun _ _ => rfl) hGG) R'
      rw [hfold, show (rec .ready).assign = assign by rw [hrec], show (rec .ready).body = body by rw [hrec]]
      refine roundIn_of_wpIn (F := Fence.wide) (n := 1) trivial ?_
      refine wpIn_mono (round_sound m assign _ _ hok.1 hW (fun s hs => hs) w0 (E .ready) _ W ⟨G', ρ', R1⟩) fun e a1 w1 ⟨⟨s1, h1, R2⟩, hp2⟩ => ?_
      cases e with
      | normal =>
        obtain ⟨G2, ρ2, R2⟩ := R2
        have hL2 := (R2.defers.2.2.1 l _ (.inr (.inl ⟨rfl, rfl⟩))).2.1
        have hbr := run_beginRound (P := P) hL2 (by rw [hrec])
        have hbusy : ({ rec .ready with state := .busy } : Loop) = rec .busy := by rw [hrec]
        rw [hbusy] at hbr
        refine ⟨_, hbr, ?_⟩
        have R3 := step (st' := .busy) R2
        refine wpIn_mono (round_sound m body _ _ hok.2 h1 (fun s hs => hs) w0 (E .busy) _ _ ⟨G2, ρ2, R3⟩) fun e a2 w2 ⟨⟨s2, h2, R4⟩, hp3⟩ => ?_
        cases e with
        | normal =>
          obtain ⟨G5, ρ5, R5⟩ := h2 w0 (E .busy) a2 w2 R4
          have hL5 := (R5.defers.2.2.1 l _ (.inr (.inl ⟨rfl, rfl⟩))).2.1
          have her := run_endRound (P := P) none hL5
          have hready : ({ rec .busy with state := if (none : Option Code).isNone then .ready else .done, pending := none } : Loop) = rec .ready := by rw [hrec]; rfl
          rw [hready] at her
          have R6 := step (st' := .ready) R5
          refine ⟨_, _, her, rfl, G5, ρ5, ?_⟩
          have hsl : ∀ i, VRep (w2.putObj l (.loop (rec .ready))) G5 ρ5 (hgetF (H (k + 1))) (t.getD i .junk) (a.tmps.getD i undef) := by
            intro i
            by_cases hi : i ∈ ps.toList ++ (writes assign ++ writes body)
            · have hj := List.all_eq_true.1 hclear i hi
              have : t.getD i .junk = .junk := by
                generalize t.getD i .junk = x at hj
                cases x <;> first | rfl | (simp [junkB] at hj)
              rw [this]; exact vrep_junk
            · simp only [List.mem_append, not_or] at hi
              have h7 := R6.slot i
              rw [hp3 i hi.2.2, hp2 i hi.2.1] at h7
              rw [← hp1 i hi.1]
              exact h7
          exact {
            defers := ⟨fun d hd => by simp at hd, List.nodup_nil, R6.defers.2.2.1, R6.defers.2.2.2⟩
            size := R.size
            below := R6.below
            foot := R6.foot
            own := R6.own
            inj := R6.inj
            blk := R6.blk
            slot := hsl }
        | _ => exact h2.elim
      | _ => exact h1.elim
    · rintro e W2 ⟨⟨v, rfl⟩, G2, ρ2, R2⟩
      have hL2 := R2.defers.2.2.1 l _ (.inr (.inl ⟨rfl, rfl⟩))
      have hel := run_endLoop (P := P) hL2.2.1 (by rw [hrec]; simp)
      have hpend : (rec .ready).pending = none := by rw [hrec]
      have hfin : RelX w0 F0 G2 ρ2 (S.view ⟨t, H n⟩) ⟨a.tmps, mk :: a.defers⟩ (W2.putObj l (.loop { rec .ready with state := .exhausted })) := ?fin
      · refine ⟨(rec .ready).pending, _, hel, ?_⟩
        generalize W2.putObj l (.loop { rec .ready with state := .exhausted }) = W4 at hfin
        rw [hpend]
        exact ⟨⟨t, H n⟩, hend, G2, ρ2, hfin⟩
      have hne : ∀ c, c ≠ l → (W2.putObj l (.loop { rec .ready with state := .exhausted })).heap[c]? = W2.heap[c]? := fun c hc => World.putObj_heap_other hc
      refine RelX.env (E := F0) R2 rfl ((Bel.refl _ _).putObj hL2.1 _) (fun c hc => hne c (fun e => hL2.2.2.1 (e ▸ hc))) (fun i c hc => hne c (fun e => hL2.2.2.2 i (e ▸ hc))) (ds := mk :: a.defers) ⟨fun d hd => ?_, ?_, fun c o hz => ?_, fun c o hy => ?_⟩
      · have key : ∀ D, d = { target := .collected D, args := #[] } → ∃ D, d = { target := .collected D, args := #[] } ∧ w0.heap.size ≤ D ∧ (W2.putObj l (.loop { rec .ready with state := .exhausted })).heap[D]? = some (.deferred (some [])) ∧ ¬ G2 D ∧ ∀ i, ρ2 i ≠ some D := by
          intro D e
          have h1 := R2.defers.2.2.1 D (.deferred (some [])) (.inr (.inr ⟨rfl, by rw [← e]; exact hd⟩))
          exact ⟨D, e, h1.1, by rw [hne D (fun e => by have h2 := h1.2.1; rw [e, hL2.2.1] at h2; cases h2)]; exact h1.2.1, h1.2.2⟩
        rcases List.mem_cons.1 hd with e | hd'
        · exact key _ e
        · obtain ⟨D, e, _⟩ := R.defers.1 d hd'
          exact key D e
      · refine List.nodup_cons.2 ⟨fun hm => ?_, R.defers.2.1⟩
        obtain ⟨D, e, _, h3, _⟩ := R.defers.1 _ hm
        have h4 : w.heap.size = D := by
          have := congrArg Deferred.target e
          simpa [mk] using this
        have := (Array.getElem?_eq_some_iff.1 h3).1
        omega
      · have h1 := R2.defers.2.2.1 c o (.inl hz)
        have hlt := (Array.getElem?_eq_some_iff.1 (R.defers.2.2.1 c o hz).2.1).1
        exact ⟨h1.1, by rw [hne c (by omega)]; exact h1.2.1, h1.2.2⟩
      · have h1 := R2.defers.2.2.2 c o (.inl hy)
        have hlt := (Array.getElem?_eq_some_iff.1 (R.defers.2.2.2 c o hy).1).1
        exact ⟨by rw [hne c (by omega)]; exact h1.1, h1.2⟩
end
end Abs
