/- Single operations, second part: memory of cells: boxes, structs, arrays; loads and stores. -/
import Derived.Test.YtabnianhpamofaaAbs5
set_option linter.unusedSectionVars false
set_option linter.unusedSimpArgs false
set_option linter.unusedVariables false
namespace Abs
open Go Go.RowKit
variable [DMode]

theorem add_at (b off i : Nat) : (⟨b, off, none⟩ : Addr).add i = ⟨b, off + i, none⟩ := by
  unfold Addr.add
  split
  · simp_all
  · rfl
theorem oneCell_of_oneB {w : World} {F : Nat → Prop} {v : Value} {x : PV} (h : PRep w F v x) (hx : x.oneB = true) : v.oneCell' = true := by
  cases h <;> first | rfl | simp [PV.oneB] at hx
theorem takeK_elim {α : Type} : ∀ {l : List α} {n : Nat} {K : List α → Prop}, takeK l n K → n ≤ l.length ∧ K (l.take n)
  | l, 0, K, h => ⟨Nat.zero_le _, by simpa [takeK] using h⟩
  | [], n + 1, K, h => h.elim
  | x :: xs, n + 1, K, h => by
    simp only [takeK] at h
    obtain ⟨h1, h2⟩ := takeK_elim h
    exact ⟨by simpa using h1, by simpa using h2⟩
theorem pvsK_elim : ∀ {l : List V} {K : List PV → Prop}, pvsK l K → ∃ xs, l = xs.map V.pv ∧ K xs
  | [], K, h => ⟨[], rfl, h⟩
  | .pv x :: r, K, h => by
    simp only [pvsK] at h
    obtain ⟨xs, h1, h2⟩ := pvsK_elim h
    exact ⟨x :: xs, by simp [h1], h2⟩
  | .junk :: _, _, h | .cond _ _ :: _, _, h | .ptr _ _ _ :: _, _, h | .eptr _ _ _ _ _ :: _, _, h | .sl _ _ _ _ _ :: _, _, h | .csl _ _ _ _ _ :: _, _, h | .mp _ _ :: _, _, h
  | .fn _ _ :: _, _, h | .tup _ :: _, _, h => by simp only [pvsK] at h
theorem mapPvK_elim {l : List PV} {K : List V → Prop} (h : mapPvK l K) : K (l.map V.pv) := by
  induction l generalizing K with
  | nil => exact h
  | cons x xs ih => simp only [mapPvK] at h; exact ih h
theorem setCK_elim {α : Type} : ∀ {l : List α} {n : Nat} {v : α} {K : List α → Prop}, setCK l n v K → n < l.length ∧ K (l.set n v)
  | [], _, _, _, h => by simp only [setCK] at h
  | x :: xs, 0, v, K, h => ⟨by simp, by simpa [setCK] using h⟩
  | x :: xs, n + 1, v, K, h => by
    simp only [setCK] at h
    obtain ⟨h1, h2⟩ := setCK_elim h
    exact ⟨by simpa using h1, by simpa using h2⟩
/-- The list with 'vs' laid over it from 'off' on. -/
def lay {α : Type} (l : List α) (off : Nat) (vs : List α) : List α := l.take off ++ vs ++ l.drop (off + vs.length)
theorem lay_nil {α : Type} (l : List α) (off : Nat) : lay l off [] = l := by simp [lay]
theorem lay_cons {α : Type} (l : List α) (off : Nat) (v : α) (vs : List α) (h : off < l.length) : lay (l.set off v) (off + 1) vs = lay l off (v :: vs) := by
  unfold lay
  have h1 : (l.set off v).take (off + 1) = l.take off ++ [v] := by
    rw [List.take_set, List.take_succ_eq_append_getElem h, List.set_append_right _ _ (by simp; omega)]
    simp [Nat.min_eq_left (Nat.le_of_lt h)]
  have h2 : (l.set off v).drop (off + 1 + vs.length) = l.drop (off + (vs.length + 1)) := by
    rw [List.drop_set]
    simp [show off < off + 1 + vs.length from by omega]
    congr 1; omega
  rw [h1, h2]
  simp
theorem putCK_elim : ∀ {cs : List V} {off : Nat} {vs : List V} {K : List V → Prop}, putCK cs off vs K → (vs = [] ∨ off + vs.length ≤ cs.length) ∧ K (lay cs off vs)
  | cs, off, [], K, h => ⟨.inl rfl, by rw [lay_nil]; simpa [putCK] using h⟩
  | cs, off, v :: vs, K, h => by
    simp only [putCK] at h
    obtain ⟨h1, h2⟩ := setCK_elim h
    obtain ⟨h3, h4⟩ := putCK_elim h2
    refine ⟨.inr ?_, by rw [lay_cons _ _ _ _ h1] at h4; exact h4⟩
    rcases h3 with rfl | h3
    · simp; omega
    · simp at h3 ⊢; omega
theorem lay_getD {α : Type} (l : List α) (off : Nat) (vs : List α) (d : α) (i : Nat) (h : off + vs.length ≤ l.length) :
    (lay l off vs).getD i d = if off ≤ i ∧ i < off + vs.length then vs.getD (i - off) d else l.getD i d := by
  unfold lay
  by_cases h1 : i < off
  · rw [List.getD_eq_getElem?_getD, List.append_assoc, List.getElem?_append_left (by simp; omega), List.getElem?_take_of_lt h1, if_neg (by omega), List.getD_eq_getElem?_getD]
  · by_cases h2 : i < off + vs.length
    · rw [List.getD_eq_getElem?_getD, List.append_assoc, List.getElem?_append_right (by simp; omega), List.getElem?_append_left (by simp; omega), if_pos (by omega), List.getD_eq_getElem?_getD]
      congr 2; simp; omega
    · rw [List.getD_eq_getElem?_getD, List.getElem?_append_right (by simp; omega), if_neg (by omega), List.getD_eq_getElem?_getD, List.getElem?_drop]
      congr 2; simp; omega
theorem lay_length {α : Type} (l : List α) (off : Nat) (vs : List α) (h : off + vs.length ≤ l.length) : (lay l off vs).length = l.length := by
  unfold lay; simp; omega

section
variable {w : World} {G : Nat → Prop} {ρ : Nat → Option Nat} {h : Nat → Nat × Blk}
/-- Values cell by cell. -/
def CellsRep (w : World) (G : Nat → Prop) (ρ : Nat → Option Nat) (h : Nat → Nat × Blk) (cs : List V) (vs : List Value) : Prop :=
  vs.length = cs.length ∧ (∀ j, j < cs.length → VRep w G ρ h (cs.getD j .junk) (vs.getD j undef)) ∧ ∀ v, v ∈ vs → v.oneCell' = true
theorem cellsOfV_elim {v : V} {K : List V → Prop} (hh : cellsOfV v K) : ∃ cs, K cs ∧ ∀ w G ρ h x, VRep w G ρ h v x → CellsRep w G ρ h cs x.cells.toList := by
  cases v with
  | junk => exact hh.elim
  | cond g v => exact hh.elim
  | tup vs => exact hh.elim
  | pv x =>
    cases x with
    | agg cs =>
      simp only [cellsOfV, cond_prop] at hh
      split at hh
      · rename_i hall
        refine ⟨_, mapPvK_elim hh, fun w G ρ h x hx => ?_⟩
        simp only [VRep] at hx
        cases hx with
        | agg hl hc =>
          simp only [Value.cells]
          refine ⟨by simpa using hl, fun j hj => ?_, fun v hv => ?_⟩
          · have hj' : j < cs.length := by simpa using hj
            have := hc j hj'
            simp only [List.getD_eq_getElem?_getD, List.getElem?_map, List.getElem?_eq_getElem hj', Option.map_some, Option.getD_some, VRep] at this ⊢
            exact this
          · obtain ⟨j, hj, rfl⟩ := List.getElem_of_mem hv
            have hj' : j < cs.length := by simpa [← hl] using hj
            have h1 := hc j hj'
            have h2 := List.all_eq_true.1 hall (cs.getD j .unit) (by simp [List.getD_eq_getElem?_getD, List.getElem?_eq_getElem hj'])
            have h3 := oneCell_of_oneB h1 h2
            simpa [List.getD_eq_getElem?_getD, hj] using h3
      · exact hh.elim
    | _ =>
      simp only [cellsOfV, cond_prop] at hh
      split at hh
      · rename_i hone
        refine ⟨_, hh, fun w G ρ h x hx => ?_⟩
        have hx' := hx
        simp only [VRep] at hx
        have h1 := oneCell_of_oneB hx hone
        have h2 : x.cells = #[x] := by cases x <;> first | rfl | simp [Value.oneCell'] at h1
        rw [h2]
        refine ⟨rfl, fun j hj => ?_, fun v hv => by simp at hv; subst hv; exact h1⟩
        have : j = 0 := by simpa using hj
        subst this
        simpa using hx'
      · exact hh.elim
  | ptr id ver off =>
    refine ⟨_, hh, fun w G ρ h x hx => ?_⟩
    have hx' := hx
    simp only [VRep] at hx
    have h2 : x.cells = #[x] := by cases x <;> first | rfl | simp [Value.oneCell'] at hx
    rw [h2]
    refine ⟨rfl, fun j hj => ?_, fun v hv => by simp at hv; subst hv; exact hx.1⟩
    have : j = 0 := by simpa using hj
    subst this
    simpa using hx'
  | eptr id ver sz i j =>
    refine ⟨_, hh, fun w G ρ h x hx => ?_⟩
    have hx' := hx
    simp only [VRep] at hx
    have h2 : x.cells = #[x] := by cases x <;> first | rfl | simp [Value.oneCell'] at hx
    rw [h2]
    refine ⟨rfl, fun j hj => ?_, fun v hv => by simp at hv; subst hv; exact hx.1⟩
    have : j = 0 := by simpa using hj
    subst this
    simpa using hx'
  | sl id ver sz lo len =>
    refine ⟨_, hh, fun w G ρ h x hx => ?_⟩
    have hx' := hx
    simp only [VRep] at hx
    have h2 : x.cells = #[x] := by cases x <;> first | rfl | simp [Value.oneCell'] at hx
    rw [h2]
    refine ⟨rfl, fun j hj => ?_, fun v hv => by simp at hv; subst hv; exact hx.1⟩
    have : j = 0 := by simpa using hj
    subst this
    simpa using hx'
  | csl id ver sz lo len =>
    refine ⟨_, hh, fun w G ρ h x hx => ?_⟩
    have hx' := hx
    simp only [VRep] at hx
    have h2 : x.cells = #[x] := by cases x <;> first | rfl | simp [Value.oneCell'] at hx
    rw [h2]
    refine ⟨rfl, fun j hj => ?_, fun v hv => by simp at hv; subst hv; exact hx.1⟩
    have : j = 0 := by simpa using hj
    subst this
    simpa using hx'
  | mp id ver =>
    refine ⟨_, hh, fun w G ρ h x hx => ?_⟩
    have hx' := hx
    simp only [VRep] at hx
    have h2 : x.cells = #[x] := by cases x <;> first | rfl | simp [Value.oneCell'] at hx
    rw [h2]
    refine ⟨rfl, fun j hj => ?_, fun v hv => by simp at hv; subst hv; exact hx.1⟩
    have : j = 0 := by simpa using hj
    subst this
    simpa using hx'
  | fn f caps =>
    refine ⟨_, hh, fun w G ρ h x hx => ?_⟩
    have hx' := hx
    simp only [VRep] at hx
    obtain ⟨vs, rfl, _⟩ := hx
    refine ⟨rfl, fun j hj => ?_, fun v hv => by simp [Value.cells] at hv; subst hv; rfl⟩
    have : j = 0 := by simpa using hj
    subst this
    simpa [Value.cells] using hx'

/-- What a load of cells that read so gives. -/
theorem loadK_elim {agg : Bool} {n : Nat} {cs : List V} {K : V → Prop} (hh : loadK agg n cs K) : ∃ r, K r ∧ (agg = true → n ≤ cs.length) ∧ (agg = false → 0 < cs.length) ∧
    ∀ w G ρ h (u : Nat → Value), (∀ j, j < cs.length → VRep w G ρ h (cs.getD j .junk) (u j)) → VRep w G ρ h r (if agg then .agg ((List.range n).map u).toArray else u 0) := by
  cases agg with
  | true =>
    simp only [loadK] at hh
    obtain ⟨h1, h2⟩ := takeK_elim hh
    obtain ⟨xs, h3, h4⟩ := pvsK_elim h2
    refine ⟨_, h4, fun _ => h1, (fun e => by cases e), fun w G ρ h u hu => ?_⟩
    simp only [if_true, VRep]
    have hlen : xs.length = n := by have := congrArg List.length h3; simp at this; omega
    refine PRep.agg (by simp [hlen]) fun i hi => ?_
    have hi' : i < cs.length := by omega
    have h5 := hu i hi'
    have h6 : cs.getD i .junk = .pv (xs.getD i .unit) := by
      have h7 : (cs.take n)[i]? = (xs.map V.pv)[i]? := by rw [h3]
      rw [List.getElem?_take_of_lt (by omega)] at h7
      rw [List.getD_eq_getElem?_getD, h7]
      simp [hi]
    rw [h6] at h5
    simp only [VRep] at h5
    rw [hlen] at hi
    simpa [List.getD_eq_getElem?_getD, hi] using h5
  | false =>
    cases cs with
    | nil => exact hh.elim
    | cons c r => exact ⟨c, hh, (fun e => by cases e), fun _ => by simp, fun w G ρ h u hu => by simpa using hu 0 (by simp)⟩
theorem loadPK_elim {agg : Bool} {n : Nat} {cs : List PV} {K : V → Prop} (hh : loadPK agg n cs K) : ∃ r, K (.pv r) ∧ (agg = true → n ≤ cs.length) ∧ (agg = false → 0 < cs.length) ∧
    ∀ w F (u : Nat → Value), (∀ j, j < cs.length → PRep w F (u j) (cs.getD j .unit)) → PRep w F (if agg then .agg ((List.range n).map u).toArray else u 0) r := by
  cases agg with
  | true =>
    simp only [loadPK] at hh
    obtain ⟨h1, h2⟩ := takeK_elim hh
    refine ⟨_, h2, fun _ => h1, (fun e => by cases e), fun w F u hu => ?_⟩
    simp only [if_true]
    refine PRep.agg (by simp [h1]) fun i hi => ?_
    have hi' : i < n := by simp at hi; omega
    have h5 := hu i (by omega)
    have : (cs.take n).getD i .unit = cs.getD i .unit := by rw [List.getD_eq_getElem?_getD, List.getElem?_take_of_lt hi', List.getD_eq_getElem?_getD]
    rw [this]
    simpa [List.getD_eq_getElem?_getD, hi'] using h5
  | false =>
    cases cs with
    | nil => exact hh.elim
    | cons c r => exact ⟨c, hh, (fun e => by cases e), fun _ => by simp, fun w F u hu => by simpa using hu 0 (by simp)⟩
end

theorem run_loadVar' {P : Program} {w : World} {t n b off : Nat} {d : TypeDesc} (u : Nat → Value) (hu : und P t = some d) (hs : szOf P t = some n)
    (h : aggB d = true → ∀ j, j < n → w.cell? ⟨b, off + j, none⟩ = some (u j)) (h' : aggB d = false → w.cell? ⟨b, off, none⟩ = some (u 0)) :
    (loadVar t ⟨b, off, none⟩).run P w = .ok (if aggB d then .agg ((List.range n).map u).toArray else u 0) w := by
  simp only [loadVar, Sem.run_bind, run_agg hu, Result.andThen_ok]
  cases hd : aggB d with
  | true =>
    have := run_loadCells (P := P) w ⟨b, off, none⟩ n u (fun j hj => by rw [add_at]; exact h hd j hj)
    simp [run_siz hs, this]
  | false =>
    simp [h' hd]

theorem cell_of {w : World} {b : Nat} {c : Array Value} {e : TypeId} {fz : Nat × Nat} (h : w.heap[b]? = some (.cells c e fz)) {j : Nat} (hj : j < c.size) : w.cell? ⟨b, j, none⟩ = some (c.getD j undef) := by
  simp [World.cell?, h, hj, Array.getD_eq_getD_getElem?]

section
variable {P : Program} {s : SS} {m : Bool} {d : Option Nat} {K : V → Option (Nat × Nat × Blk) → List Prop → Prop}
/-- A new block. -/
theorem RelX.new {w0 : World} {F0 : Env} {G : Nat → Prop} {ρ : Nat → Option Nat} {s : SS} {a : Act} {w : World} (R : RelX w0 F0 G ρ s a w) (id : Nat) (o : Obj) (blk : Blk)
    (hblk : BRep (w.alloc o) G (updR ρ id (some w.heap.size)) (updF s.h id ((s.h id).1 + 1) blk) (some w.heap.size) blk) :
    RelX w0 F0 G (updR ρ id (some w.heap.size)) ⟨s.n, s.t, updF s.h id ((s.h id).1 + 1) blk⟩ a (w.alloc o) := by
  refine R.change (ob := some w.heap.size) ((Bel.refl _ _).alloc R.below.size o) (by omega) (fun b hb _ => Below.heap_alloc _ _ _ hb) ?_ (fun e => by omega) hblk
  intro b hb
  cases hb
  exact ⟨R.below.size, by simp, .inr (Nat.le_refl _)⟩
theorem RelX.keepsNew {w0 : World} {F0 : Env} {G : Nat → Prop} {ρ : Nat → Option Nat} {s : SS} {a : Act} {w : World} (R : RelX w0 F0 G ρ s a w) (id : Nat) (o : Obj) (blk : Blk) :
    Keeps w (w.alloc o) G G ρ (updR ρ id (some w.heap.size)) s.h (updF s.h id ((s.h id).1 + 1) blk) :=
  R.keeps (by omega) (fun b hb _ => Below.heap_alloc _ _ _ hb) (fun e => by omega)
theorem alloc_heap (w : World) (o : Obj) : (w.alloc o).heap[w.heap.size]? = some o := by show (w.heap.push o)[w.heap.size]? = _; simp
theorem ptr_new {w : World} {G : Nat → Prop} {ρ : Nat → Option Nat} {h : Nat → Nat × Blk} {id ver : Nat} {blk : Blk} {b : Nat} :
    VRep w G (updR ρ id (some b)) (updF h id ver blk) (.ptr id ver 0) (.pointer (some ⟨b, 0, none⟩)) := by
  simp only [VRep, updF_same]
  exact ⟨rfl, Nat.le_refl _, fun _ => ⟨b, updR_same _ _ _, rfl⟩⟩

theorem cells_new {w0 : World} {F0 : Env} {G : Nat → Prop} {ρ : Nat → Option Nat} {s : SS} {a : Act} {w : World} (R : RelX w0 F0 G ρ s a w) (id : Nat) (e : TypeId) {cs : List V} {vs : Array Value}
    (hc : CellsRep w G ρ s.h cs vs.toList) :
    RelX w0 F0 G (updR ρ id (some w.heap.size)) ⟨s.n, s.t, updF s.h id ((s.h id).1 + 1) (.cells cs)⟩ a (w.alloc (.cells vs e)) := by
  refine R.new id _ _ ?_
  simp only [BRep]
  refine ⟨_, vs, e, rfl, alloc_heap _ _, by simpa using hc.1, fun j hj => ?_⟩
  have h1 := VRep.keep (R.keepsNew id (.cells vs e) (.cells cs)) _ _ (hc.2.1 j hj)
  have : vs.getD j undef = vs.toList.getD j undef := by simp [List.getD_eq_getElem?_getD, Array.getD_eq_getD_getElem?]
  rw [this]; exact h1

theorem zeroCs_elim {P : Program} {t : Nat} {cs : List PV} (h : zeroCs P t = some cs) : ∃ z, (∀ w, (zeroValue t).run P w = .ok z w) ∧
    ∀ w G ρ hh, CellsRep w G ρ hh (cs.map V.pv) z.cells.toList := by
  unfold zeroCs at h
  split at h
  · rename_i i hi
    split at h
    · rename_i z hz
      refine ⟨z, fun w => by simp [zeroValue, run_typ (tyi_eq hi), hz], fun w G ρ hh => ?_⟩
      split at h
      · rename_i xs hx
        have hr := constPV_rep hx w G
        have : cellsOfV (.pv (.agg xs)) (fun c => c = cs.map V.pv) := by
          simp only [cellsOfV, cond_prop]
          split
          · rename_i hall
            simp only [hall, cond_true, Option.some.injEq] at h
            subst h
            have : ∀ (l : List PV) (K : List V → Prop), K (l.map V.pv) → mapPvK l K := by
              intro l
              induction l with
              | nil => intro K h; exact h
              | cons x xs ih => intro K h; simp only [mapPvK]; exact ih _ h
            exact this _ _ rfl
          · rename_i hall
            have : xs.all PV.oneB = false := by simpa using hall
            rw [this] at h; cases h
        obtain ⟨cs', e1, e2⟩ := cellsOfV_elim this
        subst e1
        exact e2 w G ρ hh z (by simp only [VRep]; exact hr)
      · rename_i x hnot hx
        have hr := constPV_rep hx w G
        have hone : x.oneB = true := by
          cases ho : x.oneB with
          | true => rfl
          | false => rw [ho] at h; cases h
        have e0 : cs = [x] := by rw [hone] at h; simpa using h.symm
        subst e0
        have h1 := oneCell_of_oneB hr hone
        have h2 : z.cells = #[z] := by cases z <;> first | rfl | simp [Value.oneCell'] at h1
        rw [h2]
        refine ⟨rfl, fun j hj => ?_, fun v hv => by simp at hv; subst hv; exact h1⟩
        have : j = 0 := by simpa using hj
        subst this
        simpa [VRep] using hr
      · cases h
    · cases h
  · cases h

theorem el_alloc {t : TypeId} {A : Acc} (hA : Sub A s) (h : opK P m A d (.alloc t) K) : Elim P s (.alloc t) K := by
  simp only [opK] at h
  split at h
  · rename_i d cs hz
    have h := mapPvK_elim h
    obtain ⟨z, hz1, hz2⟩ := zeroCs_elim hz
    replace h := hA.hd _ _ h
    refine ⟨_, _, _, h, fun ha dst ty pos af g => fun w0 F0 G ρ a w R => ?_⟩
    refine ⟨.pointer (some ⟨w.heap.size, 0, none⟩), w.alloc (.cells z.cells t), G, _, .inl ?_, cells_new R d t (hz2 w G ρ s.h), ptr_new⟩
    simp [execOp, Instr.alloc, hz1 w, newVar, newRow]
  · exact h.elim
theorem el_box {t : TypeId} {x : Operand} {A : Acc} (hA : Sub A s) (h : opK P m A d (.box t x) K) : Elim P s (.box t x) K := by
  simp only [opK] at h
  split at h
  · rename_i d
    obtain ⟨v, ob, h1, _, h3⟩ := rduK_elim hA h
    obtain ⟨cs, h4, h5⟩ := cellsOfV_elim h1
    replace h4 := hA.hd _ _ h4
    refine ⟨_, _, _, h4, fun ha dst ty pos af g => fun w0 F0 G ρ a w R => ?_⟩
    refine ⟨.pointer (some ⟨w.heap.size, 0, none⟩), w.alloc (.cells (a.eval x).cells t), G, _, .inl ?_, cells_new R d t (h5 w G ρ s.h _ (h3 ha w0 F0 G ρ a w R)), ptr_new⟩
    simp [execOp, Instr.box, newVar, newRow]
  · exact h.elim

theorem el_load {t : TypeId} {x : Operand} {A : Acc} (hA : Sub A s) (h : opK P m A d (.load t x) K) : Elim P s (.load t x) K := by
  simp only [opK] at h
  split at h
  · rename_i n u hn hu
    obtain ⟨v, ob, h1, _, hr⟩ := rduK_elim hA h
    split at h1
    · rename_i id ver off
      replace h1 := hA.hd _ _ h1
      simp only [SS.acc] at h1
      split at h1
      · rename_i cs hcs
        simp only [cond_prop] at h1
        split at h1
        · rename_i hv
          have hv : (s.h id).1 = ver := by simpa using hv
          obtain ⟨r, h2, h3, h3', h4⟩ := loadK_elim h1
          refine ⟨r, none, ob, h2, fun ha dst ty pos af g => .pure fun w0 F0 G ρ a w R => ?_⟩
          have hx := hr ha w0 F0 G ρ a w R
          simp only [VRep] at hx
          obtain ⟨b, hb, hx⟩ := hx.2.2 hv
          have hbl := R.blk id
          rw [hcs, hb] at hbl
          simp only [BRep] at hbl
          obtain ⟨b', c, e, e1, hc, hsz, hcells⟩ := hbl
          cases e1
          rw [dropL_eq] at h3 h3' h4
          have hread : ∀ j, j < (cs.drop off).length → w.cell? ⟨b, off + j, none⟩ = some (c.getD (off + j) undef) := fun j hj => cell_of hc (by simp at hj; omega)
          refine ⟨_, ?_, h4 w G ρ s.h (fun j => c.getD (off + j) undef) (fun j hj => ?_)⟩
          · have := run_loadVar' (P := P) (w := w) (b := b) (off := off) (fun j => c.getD (off + j) undef) hu hn (fun e j hj => hread j (by have := h3 e; omega)) (fun e => by have := hread 0 (h3' e); simpa using this)
            simp [execOp, Instr.loadAt, hx, Instr.sureAddr, this]
          · have := hcells (off + j) (by simp at hj; omega)
            simpa [List.getD_eq_getElem?_getD, List.getElem?_drop] using this
        · exact h1.elim
      · exact h1.elim
    · rename_i id ver sz i j
      replace h1 := hA.hd _ _ h1
      simp only [SS.acc] at h1
      split at h1
      · rename_i sz' len f hcs
        simp only [cond_prop] at h1
        split at h1
        · rename_i hv
          rw [Bool.and_eq_true] at hv
          obtain ⟨hv, hsz'⟩ := hv
          have hv := Nat.eq_of_beq_eq_true hv
          have hsz' := Nat.eq_of_beq_eq_true hsz'
          subst hsz'
          obtain ⟨r, h2, h3, h3', h4⟩ := loadPK_elim h1
          refine ⟨.pv r, none, _, h2, fun ha dst ty pos af g => .pure fun w0 F0 G ρ a w R => ?_⟩
          obtain ⟨hi, ha⟩ := allL_cons ha
          have hx := hr ha w0 F0 G ρ a w R
          simp only [VRep] at hx
          obtain ⟨b, hb, hx⟩ := hx.2.2 hv
          have hbl := R.blk id
          rw [hcs, hb] at hbl
          simp only [BRep] at hbl
          rcases hbl with ⟨e1, _⟩ | ⟨b', c, e, e1, hc, hsz, hln, h0, hcl, _, hcells⟩
          · cases e1
          cases e1
          rw [dropL_eq] at h3 h3' h4
          have hlen := hcl i hi
          have hb2 : i * sz + sz ≤ c.size := by
            have : (i + 1) * sz ≤ len * sz := Nat.mul_le_mul_right _ hi
            rw [Nat.succ_mul] at this; omega
          have hread : ∀ k, k < ((f i).cells.drop j).length → w.cell? ⟨b, i * sz + j + k, none⟩ = some (c.getD (i * sz + j + k) undef) := fun k hk => cell_of hc (by simp at hk; omega)
          refine ⟨if aggB u = true then Value.agg ((List.range n).map fun k => c.getD (i * sz + j + k) undef).toArray else c.getD (i * sz + j + 0) undef, ?_, ?_⟩
          · have := run_loadVar' (P := P) (w := w) (b := b) (off := i * sz + j) (fun k => c.getD (i * sz + j + k) undef) hu hn (fun e k hk => hread k (by have := h3 e; omega)) (fun e => by have := hread 0 (h3' e); simpa using this)
            simp [execOp, Instr.loadAt, hx, Instr.sureAddr, this]
          · simp only [VRep]
            refine h4 w G (fun k => c.getD (i * sz + j + k) undef) (fun k hk => ?_)
            have := hcells i (j + k) hi (by simp at hk; omega)
            simpa [List.getD_eq_getElem?_getD, List.getElem?_drop, Nat.add_assoc] using this
        · exact h1.elim
      · exact h1.elim
    · rename_i cs
      obtain ⟨r, h2, h3, h3', h4⟩ := loadPK_elim h1
      refine ⟨.pv r, none, ob, h2, fun ha dst ty pos af g => .pure fun w0 F0 G ρ a w R => ?_⟩
      have hx := hr ha w0 F0 G ρ a w R
      simp only [VRep] at hx
      generalize he : a.eval x = xv at hx
      cases hx with
      | @box b off _ gg hF hc hh =>
        refine ⟨if aggB u = true then Value.agg ((List.range n).map gg).toArray else gg 0, ?_, by simp only [VRep]; exact h4 w G gg hh⟩
        have := run_loadVar' (P := P) (w := w) (b := b) (off := off) gg hu hn (fun e k hk => hc k (by have := h3 e; omega)) (fun e => by have := hc 0 (h3' e); simpa using this)
        simp [execOp, Instr.loadAt, he, Instr.sureAddr, this]
    · exact h1.elim
  · exact h.elim
end
end Abs
