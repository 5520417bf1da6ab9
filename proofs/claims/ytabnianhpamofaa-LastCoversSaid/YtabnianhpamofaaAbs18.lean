/- Calls by contract, memory lent; a region in its own order. -/
import Derived.Test.YtabnianhpamofaaAbs17
set_option linter.unusedSectionVars false
set_option linter.unusedSimpArgs false
set_option linter.unusedVariables false
namespace Abs
open Go Go.RowKit
variable [DMode]

section
/-- A block of the machine's own is given to the plain values. -/
def GF (G : Nat → Prop) (ρ : Nat → Option Nat) (id : Nat) : Nat → Prop := fun b => G b ∨ ρ id = some b
theorem RelX.freeze {w0 : World} {F0 : Env} {G : Nat → Prop} {ρ : Nat → Option Nat} {s : SS} {a : Act} {w : World} (R : RelX w0 F0 G ρ s a w) (id : Nat) :
    RelX w0 F0 (GF G ρ id) (updR ρ id none) ⟨s.n, s.t, updF s.h id ((s.h id).1 + 1) .gone⟩ a w := by
  have hk : Keeps w w G (GF G ρ id) ρ (updR ρ id none) s.h (updF s.h id ((s.h id).1 + 1) .gone) := by
    refine ⟨fun _ _ => rfl, fun _ hb => .inl hb, fun i => ?_, fun i hi => ?_, fun i b c e _ _ hc => ⟨c, hc, rfl⟩⟩
    · by_cases e : i = id
      · subst e; rw [updF_same]; exact Nat.le_succ _
      · rw [updF_ne _ _ _ e]; exact Nat.le_refl _
    · by_cases e : i = id
      · subst e; rw [updF_same] at hi; simp at hi
      · rw [updR_ne _ _ e]
  exact {
    defers := ⟨fun d hd => by
      obtain ⟨D, h1, h2, h3, h4, h5⟩ := R.defers.1 d hd
      refine ⟨D, h1, h2, h3, fun hg => hg.elim h4 (h5 id), fun i => ?_⟩
      by_cases e : i = id
      · subst e; rw [updR_same]; exact nofun
      · rw [updR_ne _ _ e]; exact h5 i, R.defers.2.1, fun D o hz => by
      obtain ⟨h2, h3, h4, h5⟩ := R.defers.2.2.1 D o hz
      refine ⟨h2, h3, fun hg => hg.elim h4 (h5 id), fun i => ?_⟩
      by_cases e : i = id
      · subst e; rw [updR_same]; exact nofun
      · rw [updR_ne _ _ e]; exact h5 i, fun D o hz => by
      obtain ⟨h3, h5⟩ := R.defers.2.2.2 D o hz
      refine ⟨h3, fun i => ?_⟩
      by_cases e : i = id
      · subst e; rw [updR_same]; exact nofun
      · rw [updR_ne _ _ e]; exact h5 i⟩
    size := R.size
    below := R.below
    foot := fun b hb => by
      rcases hb with hb | hb
      · exact R.foot b hb
      · exact ⟨(R.own id b hb).2.1, .inr (R.own id b hb).1⟩
    own := fun i b hb => by
      by_cases e : i = id
      · subst e; rw [updR_same] at hb; cases hb
      · rw [updR_ne _ _ e] at hb
        refine ⟨(R.own i b hb).1, (R.own i b hb).2.1, fun hg => ?_⟩
        rcases hg with hg | hg
        · exact (R.own i b hb).2.2 hg
        · exact e (R.inj i id b hb hg)
    inj := fun i j b hi hj => by
      by_cases e : i = id
      · subst e; rw [updR_same] at hi; cases hi
      · by_cases e' : j = id
        · subst e'; rw [updR_same] at hj; cases hj
        · rw [updR_ne _ _ e] at hi; rw [updR_ne _ _ e'] at hj; exact R.inj i j b hi hj
    blk := fun i => by
      by_cases e : i = id
      · subst e; show BRep w _ _ _ (updR ρ i none i) (updF s.h i _ .gone i).2; rw [updF_same]; unfold BRep; trivial
      · show BRep w _ _ _ (updR ρ id none i) (updF s.h id _ .gone i).2
        rw [updR_ne _ _ e, updF_ne _ _ _ e]
        exact BRep.keep hk (fun _ _ => rfl) _ (R.blk i)
    slot := fun i => VRep.keep hk _ _ (R.slot i) }

theorem put_self (a : Act) (slot : Nat) : a.put (some slot) (a.tmps.getD slot undef) = a := by
  obtain ⟨tm, df⟩ := a
  simp only [Act.put]
  congr 1
  apply Array.ext_getElem?
  intro i
  rw [Array.getElem?_setIfInBounds]
  split
  · rename_i e
    subst e
    split
    · rename_i hlt; simp [hlt]
    · rename_i hlt; rw [Array.getElem?_eq_none (by omega)]
  · rfl

theorem freeze_slot {t : List V} {hp hp' : Hp} {slot id : Nat} {x : PV} (e2 : hgetF hp' = updF (hgetF hp) id ((hgetF hp id).1 + 1) .gone)
    (hx : ∀ w0 F0 G ρ a w, RelX w0 F0 G ρ (S.view ⟨t, hp⟩) a w → PRep w (GF G ρ id) (a.tmps.getD slot undef) x) : Le ⟨t, hp⟩ ⟨t.set slot (.pv x), hp'⟩ := by
  intro w0 F0 a w ⟨G, ρ, R⟩
  have hview : (S.view ⟨t.set slot (.pv x), hp'⟩) = SS.put ⟨t.length, fun i => t.getD i .junk, updF (hgetF hp) id ((hgetF hp id).1 + 1) .gone⟩ (some slot) (.pv x) := by
    rw [view_set ⟨t, hp'⟩ slot]
    simp only [S.view, e2]
  rw [hview]
  have h1 := (R.freeze id).put (d := some slot) (v := .pv x) (x := a.tmps.getD slot undef) (by unfold VRep; exact hx w0 F0 G ρ a w R)
  rw [put_self] at h1
  exact ⟨_, _, h1⟩

theorem freeze1_elim {slot : Nat} {s : S} {K : S → Prop} (h : freeze1 slot s K) : ∃ s', K s' ∧ Le s s' := by
  obtain ⟨t, hp⟩ := s
  simp only [freeze1, getK_eq] at h
  split at h
  · rename_i id ver sz lo len hv0
    rw [hgetK_eq] at h
    split at h
    · rename_i sz' n f hcs
      simp only [cond_prop] at h
      split at h
      · rename_i hs
        rw [Bool.and_eq_true] at hs
        have hv := Nat.eq_of_beq_eq_true hs.1
        have hsz := Nat.eq_of_beq_eq_true hs.2
        subst hsz
        obtain ⟨hln, h⟩ := h
        rw [setK_eq] at h
        obtain ⟨hp', e1, e2⟩ := hsetK_eq hp id ((hgetF hp id).1 + 1) .gone (fun h => K ⟨t.set slot (.pv (.slice sz len fun i => f (lo + i))), h⟩)
        rw [e1] at h
        refine ⟨_, h, freeze_slot e2 fun w0 F0 G ρ a w R => ?_⟩
        have hslot := R.slot slot
        have hts : (S.view ⟨t, hp⟩).t slot = .sl id ver sz lo len := hv0
        rw [hts] at hslot
        unfold VRep at hslot
        have hbl := R.blk id
        have hhs : ((S.view ⟨t, hp⟩).h id).2 = .arr sz n f := hcs
        rw [hhs] at hbl
        rcases hslot.2.2 hv with ⟨e0, aa, he⟩ | ⟨b, cap, c, e, hb, he, hcap, hc, hcsz⟩
        · rw [e0, he]; exact .empty _ _ _ _
        · rw [hb] at hbl
          unfold BRep at hbl
          rcases hbl with ⟨e1, _⟩ | ⟨b', c', e2, e1, hc', hsz, hln2, h0', hcl, hone, hcells⟩
          · cases e1
          cases e1
          rw [hc] at hc'
          cases hc'
          have pl : ∀ i j, lo * sz + i * sz + j = (lo + i) * sz + j := fun i j => by rw [Nat.add_mul]
          rw [he]
          refine PRep.slice (fun i j => c.getD ((lo + i) * sz + j) undef) (.inr hb) hcap (by omega) (fun i hi => hcl _ (by omega)) (fun i j hi hj => ?_) (fun i j hi hj => hone _ _ (by omega) hj) (fun i j hi hj => (hcells _ _ (by omega) hj).mono (fun _ _ => rfl) (fun _ hb => .inl hb))
          rw [pl]
          exact cell_of hc (Nat.lt_of_lt_of_le (flat_lt (n := n) (by omega) hj) hsz)
      · exact h.elim
    · exact h.elim
  · rename_i id ver off hv0
    rw [hgetK_eq] at h
    split at h
    · rename_i cs hcs
      simp only [cond_prop] at h
      split at h
      · rename_i hs
        have hv := Nat.eq_of_beq_eq_true hs
        obtain ⟨xs, h3, h⟩ := pvsK_elim h
        rw [dropL_eq] at h3
        rw [setK_eq] at h
        obtain ⟨hp', e1, e2⟩ := hsetK_eq hp id ((hgetF hp id).1 + 1) .gone (fun h => K ⟨t.set slot (.pv (.box xs)), h⟩)
        rw [e1] at h
        refine ⟨_, h, freeze_slot e2 fun w0 F0 G ρ a w R => ?_⟩
        have hslot := R.slot slot
        have hts : (S.view ⟨t, hp⟩).t slot = .ptr id ver off := hv0
        rw [hts] at hslot
        unfold VRep at hslot
        have hbl := R.blk id
        have hhs : ((S.view ⟨t, hp⟩).h id).2 = .cells cs := hcs
        rw [hhs] at hbl
        obtain ⟨b, hb', he⟩ := hslot.2.2 hv
        rw [hb'] at hbl
        unfold BRep at hbl
        obtain ⟨b', c, e, e1, hc, hsz, hcells⟩ := hbl
        cases e1
        have hxl : xs.length = cs.length - off := by have := congrArg List.length h3; simp at this; omega
        rw [he]
        refine PRep.box (fun j => c.getD (off + j) undef) (.inr hb') (fun j hj => cell_of hc (by omega)) (fun j hj => ?_)
        have h5 := hcells (off + j) (by omega)
        have h6 : cs.getD (off + j) .junk = .pv (xs.getD j .unit) := by
          have h7 : (cs.drop off)[j]? = (xs.map V.pv)[j]? := by rw [h3]
          rw [List.getElem?_drop] at h7
          rw [List.getD_eq_getElem?_getD, h7]
          simp [hj]
        rw [h6] at h5
        unfold VRep at h5
        exact h5.mono (fun _ _ => rfl) (fun _ hb => .inl hb)
      · exact h.elim
    · exact h.elim
  · exact ⟨_, h, fun _ _ _ _ h => h⟩
  · exact h.elim
theorem Le.refl (s : S) : Le s s := fun _ _ _ _ h => h
theorem Le.trans {s s' s'' : S} (h : Le s s') (h' : Le s' s'') : Le s s'' := fun w0 F0 a w hr => h' w0 F0 a w (h w0 F0 a w hr)
theorem freezeK_elim : ∀ {l : List (Nat × Nat)} {id : Nat} {s : S} {K : S → Prop}, freezeK l id s K → ∃ s', K s' ∧ Le s s'
  | [], id, s, K, h => ⟨s, h, .refl s⟩
  | (r, slot) :: l, id, s, K, h => by
    simp only [freezeK, cond_prop] at h
    split at h
    · obtain ⟨s1, h1, h2⟩ := freeze1_elim h
      obtain ⟨s2, h3, h4⟩ := freezeK_elim h1
      exact ⟨s2, h3, h2.trans h4⟩
    · exact freezeK_elim h

end
section
variable {P : Program} {s : SS} {m : Bool} {d : Option Nat}

/-- The blocks that may be led to when own memory is lent. -/
def FL (G : Nat → Prop) (ρ : Nat → Option Nat) (lent : Bool) : Nat → Prop := fun b => G b ∨ (lent = true ∧ ∃ i, ρ i = some b)
theorem FL.mono {G : Nat → Prop} {ρ : Nat → Option Nat} {l l' : Bool} (h : l = true → l' = true) : ∀ b, FL G ρ l b → FL G ρ l' b :=
  fun _ hb => hb.imp id fun ⟨e, i⟩ => ⟨h e, i⟩

theorem lendK_elim {v : V} {K : PV → Bool → Prop} {A : Acc} (hA : Sub A s) (h : lendK A.hd v K) : ∃ x l, K x l ∧ ∀ {w0 F0 G ρ a w u}, RelX w0 F0 G ρ s a w → VRep w G ρ s.h v u → PRep w (FL G ρ l) u x := by
  unfold lendK at h
  split at h
  · rename_i x
    refine ⟨x, false, h, fun {w0 F0 G ρ a w u} R hu => ?_⟩
    unfold VRep at hu
    exact hu.mono (fun _ _ => rfl) (fun _ hb => .inl hb)
  · rename_i id ver sz lo len
    replace h := hA.hd _ _ h
    simp only [SS.acc] at h
    split at h
    · rename_i sz' n f hcs
      simp only [cond_prop] at h
      split at h
      · rename_i hs
        rw [Bool.and_eq_true] at hs
        have hv := Nat.eq_of_beq_eq_true hs.1
        have hsz := Nat.eq_of_beq_eq_true hs.2
        subst hsz
        refine ⟨_, _, h.2, fun {w0 F0 G ρ a w u} R hu => ?_⟩
        unfold VRep at hu
        rcases hu.2.2 hv with ⟨e0, aa, he⟩ | ⟨b, cap, c, e, hb, he, hcap, hc, hcsz⟩
        · rw [e0, he]; exact .empty _ _ _ _
        · have hbl := R.blk id
          rw [hcs, hb] at hbl
          unfold BRep at hbl
          rcases hbl with ⟨e1, _⟩ | ⟨b', c', e2, e1, hc', hsz, hln2, h0', hcl, hone, hcells⟩
          · cases e1
          cases e1
          rw [hc] at hc'
          cases hc'
          have hln := h.1
          have pl : ∀ i j, lo * sz + i * sz + j = (lo + i) * sz + j := fun i j => by rw [Nat.add_mul]
          rw [he]
          refine PRep.slice (fun i j => c.getD ((lo + i) * sz + j) undef) (.inr ⟨rfl, id, hb⟩) hcap (by omega) (fun i hi => hcl _ (by omega)) (fun i j hi hj => ?_) (fun i j hi hj => hone _ _ (by omega) hj) (fun i j hi hj => (hcells _ _ (by omega) hj).mono (fun _ _ => rfl) (fun _ hb => .inl hb))
          rw [pl]
          exact cell_of hc (Nat.lt_of_lt_of_le (flat_lt (n := n) (by omega) hj) hsz)
      · exact h.elim
    · exact h.elim
  · rename_i id ver sz off len
    replace h := hA.hd _ _ h
    simp only [SS.acc] at h
    split at h
    · rename_i cs hcs
      simp only [cond_prop] at h
      split at h
      · rename_i hs
        rw [Bool.and_eq_true] at hs
        have hv := Nat.eq_of_beq_eq_true hs.1
        obtain ⟨h1, h2⟩ := takeK_elim h
        obtain ⟨xs, h3, h4⟩ := pvsK_elim h2
        split at h4
        · rename_i hb
          rw [Bool.and_eq_true] at hb
          have hl1 := Nat.le_of_ble_eq_true hb.1
          rw [dropL_eq] at h1 h3
          have hxl : xs.length = len := by have := congrArg List.length h3; simp at this h1; omega
          refine ⟨_, _, h4, fun {w0 F0 G ρ a w u} R hu => ?_⟩
          unfold VRep at hu
          obtain ⟨b, cap, hb', he, hcap⟩ := hu.2.2 hv
          have hbl := R.blk id
          rw [hcs, hb'] at hbl
          unfold BRep at hbl
          obtain ⟨b', c, e, e1, hc, hsz, hcells⟩ := hbl
          cases e1
          rw [he]
          have hx : ∀ i, i < len → PRep w G (c.getD (off + i) undef) (xs.getD i .unit) := fun i hi => by
            have h5 := hcells (off + i) (by simp at h1; omega)
            have h6 : cs.getD (off + i) .junk = .pv (xs.getD i .unit) := by
              have h7 : ((cs.drop off).take len)[i]? = (xs.map V.pv)[i]? := by rw [h3]
              rw [List.getElem?_take_of_lt hi, List.getElem?_drop] at h7
              rw [List.getD_eq_getElem?_getD, h7]
              simp [hxl, hi]
            rw [h6] at h5
            unfold VRep at h5; exact h5
          have hmem : ∀ i, i < len → (xs.getD i .unit).oneB = true := fun i hi => by
            have : i < xs.length := by omega
            refine List.all_eq_true.1 hb.2 _ ?_
            rw [List.getD_eq_getElem?_getD, List.getElem?_eq_getElem this]; exact List.getElem_mem this
          refine PRep.slice (fun i _ => c.getD (off + i) undef) (.inr ⟨rfl, id, hb'⟩) hcap (by omega) (fun i hi => by rw [cells_of_oneB (hmem i hi)]; rfl) (fun i j hi hj => ?_) (fun i j hi hj => oneCell_of_oneB (hx i hi) (hmem i hi)) (fun i j hi hj => ?_)
          · have : j = 0 := by omega
            subst this
            rw [Nat.mul_one, Nat.add_zero]
            exact cell_of hc (by simp at h1; omega)
          · have : j = 0 := by omega
            subst this
            rw [cells_of_oneB (hmem i hi)]
            exact (hx i hi).mono (fun _ _ => rfl) (fun _ hb => .inl hb)
        · exact h4.elim
      · exact h.elim
    · exact h.elim
  · rename_i id ver off
    replace h := hA.hd _ _ h
    simp only [SS.acc] at h
    split at h
    · rename_i cs hcs
      simp only [cond_prop] at h
      split at h
      · rename_i hs
        have hv := Nat.eq_of_beq_eq_true hs
        obtain ⟨xs, h3, h4⟩ := pvsK_elim h
        rw [dropL_eq] at h3
        have hxl : xs.length = cs.length - off := by have := congrArg List.length h3; simp at this; omega
        refine ⟨_, _, h4, fun {w0 F0 G ρ a w u} R hu => ?_⟩
        unfold VRep at hu
        obtain ⟨b, hb', he⟩ := hu.2.2 hv
        have hbl := R.blk id
        rw [hcs, hb'] at hbl
        unfold BRep at hbl
        obtain ⟨b', c, e, e1, hc, hsz, hcells⟩ := hbl
        cases e1
        rw [he]
        refine PRep.box (fun j => c.getD (off + j) undef) (.inr ⟨rfl, id, hb'⟩) (fun j hj => cell_of hc (by omega)) (fun j hj => ?_)
        have h5 := hcells (off + j) (by omega)
        have h6 : cs.getD (off + j) .junk = .pv (xs.getD j .unit) := by
          have h7 : (cs.drop off)[j]? = (xs.map V.pv)[j]? := by rw [h3]
          rw [List.getElem?_drop] at h7
          rw [List.getD_eq_getElem?_getD, h7]
          simp [hj]
        rw [h6] at h5
        unfold VRep at h5
        exact h5.mono (fun _ _ => rfl) (fun _ hb => .inl hb)
      · exact h.elim
    · exact h.elim
  · rename_i id ver
    replace h := hA.hd _ _ h
    simp only [SS.acc] at h
    split at h
    · rename_i es hcs
      simp only [cond_prop] at h
      split at h
      · rename_i hs
        have hv := Nat.eq_of_beq_eq_true hs
        refine ⟨_, _, h, fun {w0 F0 G ρ a w u} R hu => ?_⟩
        unfold VRep at hu
        obtain ⟨b, hb', he⟩ := hu.2.2 hv
        have hbl := R.blk id
        rw [hcs, hb'] at hbl
        unfold BRep at hbl
        obtain ⟨b', ents, clk, e1, hc, hl, hk, hvv⟩ := hbl
        cases e1
        rw [he]
        exact PRep.map (.inr ⟨rfl, id, hb'⟩) hc hl (fun i hi => (hk i hi).mono (fun _ _ => rfl) (fun _ hb => .inl hb)) (fun i hi => (hvv i hi).mono (fun _ _ => rfl) (fun _ hb => .inl hb))
      · exact h.elim
    · exact h.elim
  · exact h.elim

/-- Values that read so, one by one. -/
def PRL (w : World) (F : Nat → Prop) : List Value → List PV → Prop
  | [], [] => True
  | u :: us, x :: xs => PRep w F u x ∧ PRL w F us xs
  | _, _ => False
theorem PRL.out {w : World} {F : Nat → Prop} : ∀ {us : List Value} {xs : List PV}, PRL w F us xs → PReps w F us xs
  | [], [], _ => ⟨rfl, fun i hi => by simp at hi⟩
  | [], _ :: _, h => h.elim
  | _ :: _, [], h => h.elim
  | u :: us, x :: xs, h => by
    obtain ⟨h1, h2⟩ := PRL.out h.2
    refine ⟨by simp [h1], fun i hi => ?_⟩
    cases i with
    | zero => simpa using h.1
    | succ i => simpa using h2 i (by simpa using hi)
theorem PRL.mono {w : World} {F F' : Nat → Prop} (hF : ∀ b, F b → F' b) : ∀ {us : List Value} {xs : List PV}, PRL w F us xs → PRL w F' us xs
  | [], [], _ => trivial
  | [], _ :: _, h => h.elim
  | _ :: _, [], h => h.elim
  | _ :: us, _ :: xs, h => ⟨h.1.mono (fun _ _ => rfl) hF, PRL.mono hF h.2⟩

theorem lendsCK_elim {A : Acc} (hA : Sub A s) : ∀ {vs : List V} {K : List PV → Bool → Prop}, lendsK.lendsCK A.hd vs K → ∃ xs l, K xs l ∧ ∀ {w0 F0 G ρ a w us}, RelX w0 F0 G ρ s a w → VReps w G ρ s.h vs us → PRL w (FL G ρ l) us xs
  | [], K, h => ⟨[], false, h, fun {w0 F0 G ρ a w us} R hu => by unfold VReps at hu; subst hu; trivial⟩
  | v :: vs, K, h => by
    unfold lendsK.lendsCK at h
    obtain ⟨x, l1, h1, h2⟩ := lendK_elim hA h
    obtain ⟨xs, l2, h3, h4⟩ := lendsCK_elim hA h1
    refine ⟨x :: xs, l1 || l2, h3, fun {w0 F0 G ρ a w us} R hu => ?_⟩
    unfold VReps at hu
    obtain ⟨u, us', rfl, h5, h6⟩ := hu
    exact ⟨(h2 R h5).mono (fun _ _ => rfl) (FL.mono (by intro e; simp [e])), (h4 R h6).mono (FL.mono (by intro e; simp [e]))⟩
theorem lendsK_elim {A : Acc} (hA : Sub A s) : ∀ {vs : List V} {K : List PV → Bool → Prop}, lendsK A.hd vs K → ∃ xs l, K xs l ∧ ∀ {w0 F0 G ρ a w us}, RelX w0 F0 G ρ s a w → VReps w G ρ s.h vs us → PRL w (FL G ρ l) us xs
  | [], K, h => ⟨[], false, h, fun {w0 F0 G ρ a w us} R hu => by unfold VReps at hu; subst hu; trivial⟩
  | v :: vs, K, h => by
    have plain : (lendK A.hd v fun x b => lendsK A.hd vs fun ys b' => K (x :: ys) (b || b')) → ∃ xs l, K xs l ∧ ∀ {w0 F0 G ρ a w us}, RelX w0 F0 G ρ s a w → VReps w G ρ s.h (v :: vs) us → PRL w (FL G ρ l) us xs := by
      intro h
      obtain ⟨x, l1, h1, h2⟩ := lendK_elim hA h
      obtain ⟨xs, l2, h3, h4⟩ := lendsK_elim hA h1
      refine ⟨x :: xs, l1 || l2, h3, fun {w0 F0 G ρ a w us} R hu => ?_⟩
      unfold VReps at hu
      obtain ⟨u, us', rfl, h5, h6⟩ := hu
      exact ⟨(h2 R h5).mono (fun _ _ => rfl) (FL.mono (by intro e; simp [e])), (h4 R h6).mono (FL.mono (by intro e; simp [e]))⟩
    cases v with
    | fn f caps =>
      unfold lendsK at h
      obtain ⟨cs, l1, h1, h2⟩ := lendsCK_elim hA h
      obtain ⟨xs, l2, h3, h4⟩ := lendsK_elim hA h1
      refine ⟨.fn f cs :: xs, l1 || l2, h3, fun {w0 F0 G ρ a w us} R hu => ?_⟩
      unfold VReps at hu
      obtain ⟨u, us', rfl, h5, h6⟩ := hu
      unfold VRep at h5
      obtain ⟨us2, rfl, h7⟩ := h5
      have h8 := (h2 R h7).out
      refine ⟨PRep.fn f h8.1 (fun i hi => (h8.2 i hi).mono (fun _ _ => rfl) (FL.mono (by intro e; simp [e]))), (h4 R h6).mono (FL.mono (by intro e; simp [e]))⟩
    | _ => exact plain h

theorem flat0_any {w w' : World} {F F' : Nat → Prop} {v : Value} {x : PV} (h : PRep w F v x) (hx : x.flat0 = true) : PRep w' F' v x := by
  cases h <;> first | exact .unit | exact .bool _ | exact .int _ _ | exact .str _ | (simp [PV.flat0] at hx)
theorem flat1_any {w w' : World} {F F' : Nat → Prop} {v : Value} {x : PV} (h : PRep w F v x) (hx : x.flat1 = true) : PRep w' F' v x := by
  cases h with
  | @agg vs cs hl hc =>
    refine .agg hl fun i hi => flat0_any (hc i hi) ?_
    simp only [PV.flat1, List.all_eq_true] at hx
    refine hx _ ?_
    rw [List.getD_eq_getElem?_getD, List.getElem?_eq_getElem hi]; exact List.getElem_mem hi
  | unit => exact .unit
  | bool b => exact .bool b
  | int k n => exact .int k n
  | str s => exact .str s
  | _ => simp [PV.flat1, PV.flat0] at hx
theorem flat_any {w w' : World} {F F' : Nat → Prop} {v : Value} {x : PV} (h : PRep w F v x) (hx : x.flat = true) : PRep w' F' v x := by
  cases h with
  | @tup vs cs hl hc =>
    refine .tup hl fun i hi => flat1_any (hc i hi) ?_
    simp only [PV.flat, List.all_eq_true] at hx
    refine hx _ ?_
    rw [List.getD_eq_getElem?_getD, List.getElem?_eq_getElem hi]; exact List.getElem_mem hi
  | agg hl hc => exact flat1_any (.agg hl hc) hx
  | unit => exact .unit
  | bool b => exact .bool b
  | int k n => exact .int k n
  | str s => exact .str s
  | _ => simp [PV.flat, PV.flat1, PV.flat0] at hx

/-- A call with values that read as plain ones, by contract. -/
theorem does_pure {f : FuncId} {vs : List V} {xs : List PV} {l : Bool} {r : PV} (hf : Fn P f xs r) (hr : l = true → r.flat = true)
    (hl : ∀ {w0 F0 G ρ a w us}, RelX w0 F0 G ρ s a w → VReps w G ρ s.h vs us → PRL w (FL G ρ l) us xs) {w0 F0 G ρ a w us} (R : RelX w0 F0 G ρ s a w) (hu : VReps w G ρ s.h vs us) :
    Does P f us.toArray w fun v w' => ∃ G', RelX w0 F0 G' ρ s a w' ∧ PRep w' G' v r := by
  have h1 := hf w (FL G ρ l) us (fun b hb => by
    rcases hb with hb | ⟨_, i, hb⟩
    · exact (R.foot b hb).1
    · exact (R.own i b hb).2.1) (hl R hu).out R.kept
  have fin : ∀ (v : Value) (w' : World), Bel w.heap.size w w' ∧ PRep w' (fun b => FL G ρ l b ∨ (w.heap.size ≤ b ∧ b < w'.heap.size)) v r → ∃ G', RelX w0 F0 G' ρ s a w' ∧ PRep w' G' v r := by
    rintro v w' ⟨h2, h3⟩
    refine ⟨_, R.ext h2, ?_⟩
    cases l with
    | true => exact flat_any h3 (hr rfl)
    | false => exact h3.mono (fun _ _ => rfl) (fun b hb => hb.imp (fun h => h.elim id (fun h => by cases h.1)) id)
  rcases h1 with ⟨he, hc⟩ | ⟨v, w', h2, h3⟩
  · exact .inl ⟨he, Calls.mono hc fun e w' ⟨v, hv, hh⟩ => ⟨v, hv, fin v w' hh⟩⟩
  · exact .inr ⟨v, w', h2, fin v w' h3⟩

/-- What is to be shown of a call by contract. -/
def CallOK (P : Program) (op : Op) (s : SS) (r : PV) : Prop :=
  ∀ w0 F0 G ρ a w, RelX w0 F0 G ρ s a w → ∀ (dst : Option Tmp) (ty : TypeId) (pos : String) (af : Array Edge) (g : Option (Nat × Bool)) (Q : Exit → Act → World → Prop) (N : Act → World → Prop),
    (∀ v w' G', RelX w0 F0 G' ρ s a w' → PRep w' G' v r → N (a.put dst v) w') → (⟨dst, op, ty, pos, af, g⟩ : Oper).wp P a w N Q
theorem callFnK_elim {op : Op} {g : Prop} {K : V → List Prop → Prop} {A : Acc} (hA : Sub A s) (h : callFnK P A op g K) : ∃ r ob, K (.pv r) ob ∧ (AllL ob → g → CallOK P op s r) := by
  unfold callFnK at h
  obtain ⟨f, vs, ob, h1, h2⟩ := calleeK_elim (P := P) hA h
  obtain ⟨xs, l, ⟨r, hf, h3⟩, h4⟩ := lendsK_elim hA h1
  simp only [cond_prop] at h3
  have key : (l = true → r.flat = true) → AllL ob → g → CallOK P op s r := by
    intro hr ha hg w0 F0 G ρ a w R dst ty pos af gg Q N hN
    obtain ⟨us, hu, he⟩ := h2 ha w0 F0 G ρ a w R
    refine wp_of_does (he dst ty pos af gg) (does_pure (hf hg) hr h4 R hu) fun v w' hh => ?_
    obtain ⟨G', h5, h6⟩ := hh
    exact hN v w' G' h5 h6
  split at h3
  · split at h3
    · rename_i hl hr
      exact ⟨r, ob, h3, key fun _ => hr⟩
    · exact h3.elim
  · rename_i hl
    exact ⟨r, ob, h3, key fun e => absurd e hl⟩

theorem stepOK_call {ops : List Oper} {o : Oper} {r : PV} {b : Bool} {j : Nat} {want : Bool} (hg : o.guard = some (j, want))
    (hy : ∀ w0 F0 G ρ a w, RelX w0 F0 G ρ s a w → (yielded ops.toArray a.tmps j == some want) = b) (h : b = true → CallOK P o.op s r) : StepOK P ops.toArray o s (s.put o.dst (.cond b (.pv r))) := by
  intro w0 F0 a w ⟨G, ρ, R⟩ Q N hN
  have hw : Region.wanted o (yielded ops.toArray a.tmps) = b := by simp only [Region.wanted, hg]; exact hy w0 F0 G ρ a w R
  rw [hw]
  cases b with
  | true =>
    rw [if_pos rfl]
    refine h rfl w0 F0 G ρ a w R o.dst o.type o.pos o.after o.guard Q N fun v w' G' h2 h3 => ?_
    exact hN _ _ ⟨G', ρ, RelX.put h2 (by unfold VRep; exact ⟨fun _ => by unfold VRep; exact h3, fun e => by cases e⟩)⟩
  | false =>
    rw [if_neg (by simp)]
    exact hN _ _ ⟨G, ρ, R.put (by unfold VRep; exact ⟨nofun, fun _ => rfl⟩)⟩
theorem stepOK_call0 {ops : Array Oper} {o : Oper} {r : PV} (hg : o.guard = none) (h : CallOK P o.op s r) : StepOK P ops o s (s.put o.dst (.pv r)) := by
  intro w0 F0 a w ⟨G, ρ, R⟩ Q N hN
  have hw : Region.wanted o (yielded ops a.tmps) = true := by simp [Region.wanted, hg]
  rw [if_pos hw]
  refine h w0 F0 G ρ a w R o.dst o.type o.pos o.after o.guard Q N fun v w' G' h2 h3 => ?_
  exact hN _ _ ⟨G', ρ, RelX.put h2 (by unfold VRep; exact h3)⟩

theorem stepK_elim {s : S} {ops : List Oper} {o : Oper} {K : S → List Prop → Prop} (h : stepK P m ops o s K) : ∃ s' ob, K s' ob ∧ (AllL ob → StepOK P ops.toArray o s.view s'.view) := by
  unfold stepK at h
  rw [acc_view] at h
  obtain ⟨r, h1, h2, h3⟩ := gdK_elim (.refl _) h
  split at h1
  · obtain ⟨v, u, ob, h4, h5⟩ := opK_elim (.refl _) h1
    obtain ⟨s1, e1, e2⟩ := updS_eq s u (fun s' => putS s' o.dst v fun s' => K s' ob)
    rw [e1] at h4
    obtain ⟨s2, e3, e4⟩ := putS_eq s1 o.dst v (fun s' => K s' ob)
    rw [e3] at h4
    refine ⟨s2, ob, h4, fun ha => ?_⟩
    rw [e4, e2]
    exact stepOK_op (h2 rfl) (h5 ha o.dst o.type o.pos o.after o.guard)
  · rename_i b
    obtain ⟨j, want, hg, hy⟩ := h3 b rfl
    split at h1
    · obtain ⟨r, ob, h4, h5⟩ := callFnK_elim (.refl _) h1
      obtain ⟨s2, e3, e4⟩ := putS_eq s o.dst (.cond b (.pv r)) (fun s' => K s' (under b ob))
      rw [e3] at h4
      refine ⟨s2, _, h4, fun ha => ?_⟩
      rw [e4]
      exact stepOK_call hg hy fun hb => h5 (under_elim ha hb) hb
    · obtain ⟨v, u, ob, h4, h5⟩ := opK_elim (.refl _) h1
      split at h4
      · obtain ⟨s2, e3, e4⟩ := putS_eq s o.dst (.cond b v) (fun s' => K s' (under b ob))
        rw [e3] at h4
        refine ⟨s2, _, h4, fun ha => ?_⟩
        rw [e4]
        exact stepOK_guarded hg hy fun hb => h5 (under_elim ha hb) o.dst o.type o.pos o.after o.guard
      · rename_i u
        obtain ⟨hb, h4⟩ := h4
        obtain ⟨s1, e1, e2⟩ := updS_eq s (some u) (fun s' => putS s' o.dst v fun s' => K s' ob)
        rw [e1] at h4
        obtain ⟨s2, e3, e4⟩ := putS_eq s1 o.dst v (fun s' => K s' ob)
        rw [e3] at h4
        refine ⟨s2, ob, h4, fun ha => ?_⟩
        rw [e4, e2]
        intro w0 F0 a w ⟨G, ρ, R⟩ Q N hN
        have hw : Region.wanted o (yielded ops.toArray a.tmps) = true := by simp only [Region.wanted, hg]; rw [hy w0 F0 G ρ a w R]; exact hb
        rw [if_pos hw]
        obtain ⟨x, w', G', ρ', h1, h2, h3⟩ := (h5 ha o.dst o.type o.pos o.after o.guard) w0 F0 G ρ a w R
        exact wp_of_runs h1 (hN _ _ ⟨G', ρ', h2.put h3⟩)

/-! ### A region in its own order -/
theorem callN_unfold {f : FuncId} {vs : List V} {s : S} {K : V → Hp → Prop} (h : CallN P f vs s K) : CallSem P f vs s.view fun x h' => ∃ hp, hgetF hp = h' ∧ K x hp := by
  unfold CallN at h; exact h
theorem opN_unfold {o : Oper} {s : S} {K : S → Prop} (h : OpN P o s K) : OpSem P o s.view fun ss => ∃ s', s'.view = ss ∧ K s' := by
  unfold OpN at h; exact h

theorem wops_sound {cz : List (Nat × Nat)} {ops : List Oper} {Fin : S → Prop} : ∀ {l : List Oper} {k : Nat} {acc : List Prop} {s : S}, ops.drop k = l → wops P m cz ops l acc (fun s' obs => owe obs (Fin s')) s →
    AllL acc ∧ ∀ {w0 F0 a w}, Rel w0 F0 s.view a w → ∀ (Q : Exit → Act → World → Prop), (∀ s' a' w', Fin s' → Rel w0 F0 s'.view a' w' → Q .normal a' w') → wpOps P ops.toArray Q (List.range' k l.length) a w
  | [], k, acc, s, hk, h => by
    unfold wops at h
    obtain ⟨h1, h2⟩ := owe_elim h
    exact ⟨h1, fun {w0 F0 a w} R Q hQ => by simpa [wpOps] using hQ s a w h2 R⟩
  | o :: os, k, acc, s, hk, h => by
    have hk1 : ops.drop (k + 1) = os := by
      have : (ops.drop k).drop 1 = os := by rw [hk]; rfl
      rwa [List.drop_drop] at this
    have hko : ops.toArray[k]? = some o := by
      have : (ops.drop k)[0]? = some o := by rw [hk]; rfl
      rw [List.getElem?_drop] at this
      simpa using this
    -- one step and the rest
    have step : ∀ {s' : S} {acc' : List Prop}, StepOK P ops.toArray o s.view s'.view → wops P m cz ops os acc' (fun s' obs => owe obs (Fin s')) s' →
        ∀ {w0 F0 a w}, Rel w0 F0 s.view a w → ∀ (Q : Exit → Act → World → Prop), (∀ s' a' w', Fin s' → Rel w0 F0 s'.view a' w' → Q .normal a' w') → wpOps P ops.toArray Q (List.range' k (o :: os).length) a w := by
      intro s' acc' hs hw w0 F0 a w R Q hQ
      simp only [List.length_cons, List.range'_succ, wpOps, hko]
      have h1 := hs w0 F0 a w R Q (wpOps P ops.toArray Q (List.range' (k + 1) os.length)) fun a' w' R' => (wops_sound hk1 hw).2 R' Q hQ
      split
      · rename_i hh; rw [if_pos hh] at h1; exact .inl h1
      · rename_i hh; rw [if_neg hh] at h1; exact h1
    have plain : (stepK P m ops o s fun s' ob => addK ob acc fun obs => wops P m cz ops os obs (fun s' obs => owe obs (Fin s')) s') →
        AllL acc ∧ ∀ {w0 F0 a w}, Rel w0 F0 s.view a w → ∀ (Q : Exit → Act → World → Prop), (∀ s' a' w', Fin s' → Rel w0 F0 s'.view a' w' → Q .normal a' w') → wpOps P ops.toArray Q (List.range' k (o :: os).length) a w := by
      intro h
      obtain ⟨s', ob, h1, h2⟩ := stepK_elim h
      obtain ⟨acc', h3, h4⟩ := addK_elim h1
      have h5 := h4.1 (wops_sound hk1 h3).1
      exact ⟨h5.2, fun {w0 F0 a w} R Q hQ => step (h2 h5.1) h3 R Q hQ⟩
    unfold wops at h
    split at h
    · rename_i hg hc
      obtain ⟨s0, h, hle⟩ := freezeK_elim h
      rw [acc_view] at h
      obtain ⟨f, vs, ob, h1, h2⟩ := calleeK_elim (P := P) (.refl _) h
      obtain ⟨acc', h3, h4⟩ := addK_elim h1
      obtain ⟨h5, h6⟩ := owe_elim h3
      have h7 := h4.1 h5
      refine ⟨h7.2, fun {w0 F0 a w} R Q hQ => ?_⟩
      obtain ⟨G, ρ, R⟩ := hle w0 F0 a w R
      obtain ⟨us, hu, he⟩ := h2 h7.1 w0 F0 G ρ a w R
      have hw : Region.wanted o (yielded ops.toArray a.tmps) = true := by simp [Region.wanted, hg]
      simp only [List.length_cons, List.range'_succ, wpOps, hko]
      rw [if_pos hw]
      refine .inl (wp_of_does (he o.dst o.type o.pos o.after o.guard) (callN_unfold h6 w0 F0 G ρ a w R us hu) fun v w' hh => ?_)
      obtain ⟨x, h', ⟨hp, e1, h8⟩, G', ρ', h9, h10⟩ := hh
      obtain ⟨s1, e2, e3⟩ := putHS_eq s0 hp o.dst x (fun s' => wops P m cz ops os [] (fun s' obs => owe obs (Fin s')) s')
      rw [e2] at h8
      refine (wops_sound hk1 h8).2 ?_ Q hQ
      rw [e3, e1]
      exact ⟨G', ρ', RelX.put h9 h10⟩
    · rename_i hg hc ho
      obtain ⟨h5, h6⟩ := owe_elim h
      refine ⟨h5, fun {w0 F0 a w} R Q hQ => ?_⟩
      have hw : Region.wanted o (yielded ops.toArray a.tmps) = true := by simp [Region.wanted, hg]
      simp only [List.length_cons, List.range'_succ, wpOps, hko]
      rw [if_pos hw]
      refine .inl (opN_unfold h6 w0 F0 a w R _ Q fun ss a' w' ⟨s', e1, h7⟩ R' => ?_)
      rw [← e1] at R'
      exact (wops_sound hk1 h7).2 R' Q hQ
    · exact plain h
end
end Abs
