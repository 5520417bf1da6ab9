/- Calls that hand back a slice of new memory; calls that change a slice of the caller's own. -/
import Derived.Test.YtabnianhpamofaaAbs22
set_option linter.unusedSectionVars false
set_option linter.unusedSimpArgs false
set_option linter.unusedVariables false
namespace Abs
open Go Go.RowKit
variable [DMode]

/-- Elements that hold no address. -/
def FlatEl (g : Nat → PV) (n : Nat) : Prop := ∀ i, i < n → (g i).cells.all PV.flat0 = true
theorem prep_flat0 {w w' : World} {F F' : Nat → Prop} {v : Value} {x : PV} (h : PRep w F v x) (hx : x.flat0 = true) : PRep w' F' v x := by
  cases h <;> first | (simp [PV.flat0] at hx; done) | constructor
theorem flatEl_cell {g : Nat → PV} {n i j : Nat} (h : FlatEl g n) (hi : i < n) (hj : j < (g i).cells.length) : ((g i).cells.getD j .unit).flat0 = true := by
  have := List.all_eq_true.1 (h i hi) ((g i).cells[j]) (List.getElem_mem _)
  simpa [List.getD, List.getElem?_eq_getElem hj] using this

/-- The cells of a row read so. -/
def RowIs (c : Array Value) (sz n : Nat) (g : Nat → PV) : Prop :=
  (∀ i, i < n → (g i).cells.length = sz) ∧ FlatEl g n ∧ ∀ i j, i < n → j < sz → (c.getD (i * sz + j) undef).oneCell' = true ∧ ∀ w F, PRep w F (c.getD (i * sz + j) undef) ((g i).cells.getD j .unit)

/-- A new slice: it lies alone in a block of its own. -/
def NewSl (w : World) (base sz n : Nat) (g : Nat → PV) (v : Value) : Prop :=
  (n = 0 ∧ ∃ a, v = .slice a 0 0) ∨ ∃ b cap c e, v = .slice (some ⟨b, 0, none⟩) n cap ∧ n ≤ cap ∧ base ≤ b ∧ w.heap[b]? = some (.cells c e (0, 0)) ∧ cap * sz = c.size ∧ n ≤ 140737488355328 ∧ 0 < sz ∧ RowIs c sz n g

/-- A contract: what comes back is a new slice. -/
def FnNew (P : Program) (f : FuncId) (args : List PV) (sz n : Nat) (g : Nat → PV) : Prop :=
  ∀ (w : World) (F : Nat → Prop) (vs : List Value), (∀ b, F b → b < w.heap.size) → PReps w F vs args → KeepsW w →
    Does P f vs.toArray w fun v w' => Bel w.heap.size w w' ∧ NewSl w' w.heap.size sz n g v

theorem cells_lt {w : World} {b : Nat} {o : Obj} (h : w.heap[b]? = some o) : b < w.heap.size := (Array.getElem?_eq_some_iff.1 h).1

section
variable {P : Program}
theorem FL_foot {w0 : World} {F0 : Env} {G : Nat → Prop} {ρ : Nat → Option Nat} {s : SS} {a : Act} {w : World} (R : RelX w0 F0 G ρ s a w) (l : Bool) : ∀ b, FL G ρ l b → b < w.heap.size := fun b hb => by
  rcases hb with hb | ⟨_, i, hb⟩
  · exact (R.foot b hb).1
  · exact (R.own i b hb).2.1

theorem callN_new {f : FuncId} {vs : List V} {s : S} {K : V → Hp → Prop} (id : Nat) (xs : List PV) {sz n : Nat} {g : Nat → PV} (b : Bool) (hl : lendsK s.acc.hd vs (fun ys b' => ys = xs ∧ b' = b)) (h : FnNew P f xs sz n g)
    (hK : hgetK s.h id fun w _ => hsetK s.h id (w + 1) (.arr sz n g) fun h' => K (.sl id (w + 1) sz 0 n) h') : CallN P f vs s K := by
  rw [acc_view] at hl
  obtain ⟨xs', l, ⟨e1, e2⟩, h2⟩ := lendsK_elim (.refl _) hl
  subst e1; subst e2
  rw [hgetK_eq] at hK
  obtain ⟨hp', e1, e2⟩ := hsetK_eq s.h id ((hgetF s.h id).1 + 1) (.arr sz n g) (fun h' => K (.sl id ((hgetF s.h id).1 + 1) sz 0 n) h')
  rw [e1] at hK
  refine callN_of fun w0 F0 G ρ a w R us hu => (h w (FL G ρ l) us (FL_foot R l) (h2 R hu).out R.kept).mono fun v w' ⟨hb, hn⟩ => ?_
  refine ⟨_, hgetF hp', ⟨hp', rfl, hK⟩, G, ?_⟩
  rw [e2]
  have hsh : s.view.h = hgetF s.h := rfl
  rcases hn with ⟨h0, aa, rfl⟩ | ⟨bb, cap, c, e, rfl, hcap, hbase, hc, hcs, hn47, hs0, hrow⟩
  · refine ⟨updR ρ id none, R.change (ob := none) (hb.mono R.below.size) (Nat.le_succ _) (fun b' hb' _ => hb.block b' hb') (fun b' e => by cases e) (fun e => absurd e (Nat.succ_ne_self _)) ?_, ?_⟩
    · unfold BRep; exact .inl ⟨rfl, h0⟩
    · unfold VRep
      exact ⟨rfl, by rw [updF_same]; exact Nat.le_refl _, fun _ => .inl ⟨h0, aa, rfl⟩⟩
  · refine ⟨updR ρ id (some bb), R.change (ob := some bb) (hb.mono R.below.size) (Nat.le_succ _) (fun b' hb' _ => hb.block b' hb') (fun b' e => by cases e; exact ⟨Nat.le_trans R.below.size hbase, cells_lt hc, .inr hbase⟩) (fun e => absurd e (Nat.succ_ne_self _)) ?_, ?_⟩
    · unfold BRep
      refine .inr ⟨bb, c, e, rfl, hc, ?_, hn47, hs0, hrow.1, fun i j hi hj => (hrow.2.2 i j hi hj).1, fun i j hi hj => (hrow.2.2 i j hi hj).2 _ _⟩
      rw [← hcs]; exact Nat.mul_le_mul_right _ hcap
    · unfold VRep
      refine ⟨rfl, by rw [updF_same]; exact Nat.le_refl _, fun _ => .inr ⟨bb, cap, c, e, updR_same _ _ _, by simp, hcap, hc, by simpa using hcs⟩⟩

/-- As Below, but one block may have turned. -/
structure BelBut (b : Nat) (w w' : World) : Prop where
  os : w'.os = w.os
  tape : w'.tape = w.tape
  output : w'.output = w.output
  size : w.heap.size ≤ w'.heap.size
  block : ∀ k, k < w.heap.size → k ≠ b → w'.heap[k]? = w.heap[k]?
  drawn : DMode.d = true → w.drawn ≤ w'.drawn
/-- A contract of a call that writes the elements of a slice anew. -/
def FnRow (P : Program) (f : FuncId) (rest : List PV) (sz n : Nat) (g : Nat → PV) (post : (Nat → PV) → Prop) : Prop :=
  ∀ (w : World) (F : Nat → Prop) (vs : List Value), (∀ b, F b → b < w.heap.size) → PReps w F vs rest → KeepsW w →
    (∀ a, n = 0 → Does P f (.slice a 0 0 :: vs).toArray w fun v w' => v = .tuple #[] ∧ Bel w.heap.size w w' ∧ ∃ g', post g') ∧
    ∀ b cap c e, ¬ F b → n ≤ cap → w.heap[b]? = some (.cells c e (0, 0)) → cap * sz = c.size → n ≤ 140737488355328 → 0 < sz → RowIs c sz n g →
      Does P f (.slice (some ⟨b, 0, none⟩) n cap :: vs).toArray w fun v w' => v = .tuple #[] ∧ BelBut b w w' ∧ ∃ g' c', post g' ∧ w'.heap[b]? = some (.cells c' e (0, 0)) ∧ c'.size = c.size ∧ RowIs c' sz n g'

theorem callN_row {f : FuncId} {vs : List V} {s : S} {K : V → Hp → Prop} (id ver sz n : Nat) (g : Nat → PV) (xs : List PV) {post : (Nat → PV) → Prop} (hl : lendsK s.acc.hd vs (fun ys b' => ys = xs ∧ b' = false)) (h : FnRow P f xs sz n g post)
    (hlive : hgetK s.h id fun w b => w = ver ∧ b = .arr sz n g) (hfl : FlatEl g n)
    (hK : ∀ g', post g' → hsetK s.h id ver (.arr sz n g') fun h' => K (.pv (.tup [])) h') : CallN P f (.sl id ver sz 0 n :: vs) s K := by
  rw [acc_view] at hl
  obtain ⟨xs', l, ⟨e1, e2⟩, h2⟩ := lendsK_elim (.refl _) hl
  subst e1; subst e2
  rw [hgetK_eq] at hlive
  obtain ⟨hv, hblk⟩ := hlive
  refine callN_of fun w0 F0 G ρ a w R us hu => ?_
  unfold VReps at hu
  obtain ⟨u, us, rfl, hu0, hu⟩ := hu
  obtain ⟨hemp, hrow⟩ := h w (FL G ρ false) us (FL_foot R false) (h2 R hu).out R.kept
  have hsh : s.view.h = hgetF s.h := rfl
  unfold VRep at hu0
  have hR := R.blk id
  rw [hsh, hblk] at hR
  unfold BRep at hR
  have ext0 : ∀ {w' : World}, Bel w.heap.size w w' → ρ id = none ∨ n = 0 → ∀ g', post g' → ∃ x h', (∃ hp, hgetF hp = h' ∧ K x hp) ∧ ∃ G' ρ', RelX w0 F0 G' ρ' ⟨s.view.n, s.view.t, h'⟩ a w' ∧ VRep w' G' ρ' h' x (.tuple #[]) := by
    intro w' hb h0 g' hp
    have hK' := hK g' hp
    obtain ⟨hp', e1, e2⟩ := hsetK_eq s.h id ver (.arr sz n g') (fun h' => K (.pv (.tup [])) h')
    rw [e1] at hK'
    refine ⟨_, hgetF hp', ⟨hp', rfl, hK'⟩, G, updR ρ id (ρ id), ?_, ?_⟩
    · rw [e2]
      refine R.change (ob := ρ id) (hb.mono R.below.size) (by rw [hsh, hv]; exact Nat.le_refl _) (fun b' hb' _ => hb.block b' hb') (fun b' e => ⟨(R.own id b' e).1, Nat.lt_of_lt_of_le (R.own id b' e).2.1 hb.size, .inl e⟩) (fun _ => ⟨rfl, fun b c e hb' hc => ⟨c, by rw [hb.block b (cells_lt hc)]; exact hc, rfl⟩⟩) ?_
      unfold BRep
      rcases hR with ⟨e3, e4⟩ | ⟨bb, c, e, e3, hc, hcs, hn47, hs0, hcl, hone, hcells⟩
      · exact .inl ⟨e3, e4⟩
      · rcases h0 with h0 | h0
        · rw [h0] at e3; cases e3
        · refine .inr ⟨bb, c, e, e3, by rw [hb.block bb (cells_lt hc)]; exact hc, by rw [h0]; omega, by omega, hs0, fun i hi => by omega, fun i j hi => by omega, fun i j hi => by omega⟩
    · unfold VRep; exact PRep.tup (vs := []) (cs := []) rfl (fun i hi => by simp at hi)
  rcases hu0.2.2 (by rw [hsh, hv]) with ⟨h0, aa, rfl⟩ | ⟨bb, cap, c, e, hρ, rfl, hcap, hc, hcs⟩
  · refine (hemp aa h0).mono fun v w' ⟨e, hb, g', hp⟩ => ?_
    subst e
    exact ext0 hb (.inr h0) g' hp
  · rcases hR with ⟨e3, e4⟩ | ⟨bb', c', e', e3, hc', hcs', hn47, hs0, hcl, hone, hcells⟩
    · rw [hρ] at e3; cases e3
    · rw [hρ] at e3; cases e3
      rw [hc] at hc'; cases hc'
      have hnG : ¬ FL G ρ false bb := fun hF => by
        rcases hF with hF | ⟨hF, _⟩
        · exact (R.own id bb hρ).2.2 hF
        · cases hF
      have hrow0 : RowIs c sz n g := ⟨hcl, hfl, fun i j hi hj => ⟨hone i j hi hj, fun w' F' => prep_flat0 (hcells i j hi hj) (flatEl_cell hfl hi (by rw [hcl i hi]; exact hj))⟩⟩
      have := hrow bb cap c e hnG hcap hc (by simpa using hcs) hn47 hs0 hrow0
      simp only [Nat.zero_mul] 
      refine this.mono fun v w' ⟨e5, hb, g', c', hp, hc', hsz', hrow'⟩ => ?_
      subst e5
      have hK' := hK g' hp
      obtain ⟨hp', e1, e2⟩ := hsetK_eq s.h id ver (.arr sz n g') (fun h' => K (.pv (.tup [])) h')
      rw [e1] at hK'
      refine ⟨_, hgetF hp', ⟨hp', rfl, hK'⟩, G, updR ρ id (some bb), ?_, ?_⟩
      · rw [e2]
        have hw0b := (R.own id bb hρ).1
        refine R.change (ob := some bb) ⟨⟨hb.os, hb.tape, hb.output, hb.size, fun k hk => hb.block k (Nat.lt_of_lt_of_le hk R.below.size) (by omega)⟩, hb.drawn⟩ (by rw [hsh, hv]; exact Nat.le_refl _)
          (fun b' hb' hne => hb.block b' hb' (fun e => hne (by rw [e]; exact hρ))) (fun b' e => by cases e; exact ⟨hw0b, Nat.lt_of_lt_of_le (R.own id bb hρ).2.1 hb.size, .inl hρ⟩) (fun _ => ⟨hρ.symm, fun b c0 e0 hb' hc0 => ?_⟩) ?_
        · rw [hρ] at hb'; cases hb'
          rw [hc] at hc0; cases hc0
          exact ⟨c', hc', hsz'⟩
        · unfold BRep
          refine .inr ⟨bb, c', e, rfl, hc', by rw [hsz']; exact hcs', hn47, hs0, hrow'.1, fun i j hi hj => (hrow'.2.2 i j hi hj).1, fun i j hi hj => (hrow'.2.2 i j hi hj).2 _ _⟩
      · unfold VRep; exact PRep.tup (vs := []) (cs := []) rfl (fun i hi => by simp at hi)
end
end Abs
