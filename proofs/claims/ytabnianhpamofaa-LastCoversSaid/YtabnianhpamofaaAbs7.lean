/- Single operations, third part: stores, addresses, parts of values, slices of slices. -/
import Derived.Test.YtabnianhpamofaaAbs6
import Derived.Laws.Tables
set_option linter.unusedSectionVars false
set_option linter.unusedSimpArgs false
set_option linter.unusedVariables false
namespace Abs
open Go Go.RowKit
variable [DMode]

theorem heap_setRow_ne (w : World) (g : Nat) (cs : Array Value) {k : Nat} (h : k ≠ g) : (w.setRow g cs).heap[k]? = w.heap[k]? := by
  simp only [World.setRow, Array.getElem?_modify]
  rw [if_neg (by omega)]
theorem size_setRow (w : World) (g : Nat) (cs : Array Value) : (w.setRow g cs).heap.size = w.heap.size := by simp [World.setRow]
theorem below_setRow {B : Nat} (w : World) (g : Nat) (cs : Array Value) (h : B ≤ g) : Bel B w (w.setRow g cs) :=
  ⟨⟨rfl, rfl, rfl, by rw [size_setRow]; exact Nat.le_refl _, fun k hk => heap_setRow_ne _ _ _ (by omega)⟩, fun _ => Nat.le_refl _⟩

section
variable {P : Program} {s : SS} {m : Bool} {d : Option Nat} {K : V → Option (Nat × Nat × Blk) → List Prop → Prop}

/-- A row of the machine's own is written, its size kept. -/
theorem RelX.row {w0 : World} {F0 : Env} {G : Nat → Prop} {ρ : Nat → Option Nat} {s : SS} {a : Act} {w : World} (R : RelX w0 F0 G ρ s a w) {id b : Nat} {blk : Blk} {c cs : Array Value} {e : TypeId}
    (hb : ρ id = some b) (hc : w.heap[b]? = some (.cells c e (0, 0))) (hsz : cs.size = c.size)
    (hblk : Keeps w (w.setRow b cs) G G ρ (updR ρ id (some b)) s.h (updF s.h id (s.h id).1 blk) → BRep (w.setRow b cs) G (updR ρ id (some b)) (updF s.h id (s.h id).1 blk) (some b) blk) :
    RelX w0 F0 G (updR ρ id (some b)) ⟨s.n, s.t, updF s.h id (s.h id).1 blk⟩ a (w.setRow b cs) := by
  have hown := R.own id b hb
  have hold : ∀ k, k < w.heap.size → ρ id ≠ some k → (w.setRow b cs).heap[k]? = w.heap[k]? := fun k _ hk => heap_setRow_ne _ _ _ (fun e => hk (by rw [hb, e]))
  have hsame : (s.h id).1 = (s.h id).1 → some b = ρ id ∧ ∀ k c' e', ρ id = some k → w.heap[k]? = some (.cells c' e' (0, 0)) → ∃ c'', (w.setRow b cs).heap[k]? = some (.cells c'' e' (0, 0)) ∧ c''.size = c'.size := by
    intro _
    refine ⟨hb.symm, fun k c' e' hk hc' => ?_⟩
    rw [hb] at hk; cases hk
    rw [hc] at hc'; cases hc'
    exact ⟨cs, setRow_heap w b c cs e (0, 0) hc, hsz⟩
  refine R.change (ob := some b) (below_setRow w b cs hown.1) (Nat.le_refl _) hold ?_ hsame (hblk (R.keeps (Nat.le_refl _) hold hsame))
  intro k hk
  cases hk
  exact ⟨hown.1, by rw [size_setRow]; exact hown.2.1, .inl hb⟩

theorem run_storeAt {P : Program} {w : World} {t n b off : Nat} {x : Value} {c : Array Value} {e : TypeId} (hs : szOf P t = some n) (hn : x.cells.size = n)
    (hc : w.heap[b]? = some (.cells c e (0, 0))) (hfit : off + n ≤ c.size) (h1 : ∀ v, v ∈ x.cells.toList → v.oneCell' = true) :
    (Instr.storeAt t (.pointer (some ⟨b, off, none⟩)) x).run P w = .ok () (w.setRow b (lay c.toList off x.cells.toList).toArray) := by
  have := run_storeCells_at P b off e x.cells.toList 0 c w hc (by simpa [hn] using hfit) h1
  simp only [Instr.storeAt, Instr.sureAddr, Sem.run_bind, Sem.run_pure, Result.andThen_ok, storeVar, run_siz hs, hn]
  simpa [lay] using this

theorem prep_cells {w : World} {F : Nat → Prop} {x : Value} {y : PV} (h : PRep w F x y) (hall : y.cells.all PV.oneB = true) :
    x.cells.toList.length = y.cells.length ∧ (∀ k, k < y.cells.length → PRep w F (x.cells.toList.getD k undef) (y.cells.getD k .unit)) ∧ ∀ v, v ∈ x.cells.toList → v.oneCell' = true := by
  have single : ∀ {x : Value} {y : PV}, PRep w F x y → y.oneB = true → y.cells = [y] → x.cells.toList.length = y.cells.length ∧ (∀ k, k < y.cells.length → PRep w F (x.cells.toList.getD k undef) (y.cells.getD k .unit)) ∧ ∀ v, v ∈ x.cells.toList → v.oneCell' = true := by
    intro x y h hone hc
    have h1 := oneCell_of_oneB h hone
    have h2 : x.cells = #[x] := by cases x <;> first | rfl | simp [Value.oneCell'] at h1
    rw [h2, hc]
    refine ⟨rfl, fun k hk => ?_, fun v hv => by simp at hv; subst hv; exact h1⟩
    have : k = 0 := by simpa using hk
    subst this
    simpa using h
  cases y with
  | agg cs =>
    cases h with
    | @agg vs _ hl hc =>
      simp only [Value.cells, PV.cells] at hall ⊢
      refine ⟨hl, hc, fun v hv => ?_⟩
      obtain ⟨j, hj, rfl⟩ := List.getElem_of_mem hv
      have hj2 : j < vs.length := hj
      have hj' : j < cs.length := by omega
      have h1 := hc j hj'
      have h2 := List.all_eq_true.1 hall (cs.getD j .unit) (by simp [List.getD_eq_getElem?_getD, List.getElem?_eq_getElem hj'])
      have h3 := oneCell_of_oneB h1 h2
      simpa [List.getD_eq_getElem?_getD, hj2] using h3
  | _ => exact single h (by simpa [PV.cells] using hall) rfl

theorem el_store {t : TypeId} {p x : Operand} {A : Acc} (hA : Sub A s) (h : opK P m A d (.store t p x) K) : Elim P s (.store t p x) K := by
  simp only [opK] at h
  split at h
  · rename_i n hn
    obtain ⟨vp, ob1, h1, hs1, hr1⟩ := rduK_elim hA h
    obtain ⟨vx, ob2, h2, hs2, hr2⟩ := rduK_elim hA h1
    split at h2
    · rename_i id ver off
      replace h2 := hA.hd _ _ h2
      simp only [SS.acc] at h2
      split at h2
      · rename_i cs hcs
        simp only [cond_prop] at h2
        split at h2
        · rename_i hv
          have hv : (s.h id).1 = ver := by simpa using hv
          obtain ⟨vs, h3, h4⟩ := cellsOfV_elim h2
          split at h3
          · rename_i hlen
            have hlen : vs.length = n := by simpa using hlen
            obtain ⟨h5, h6⟩ := putCK_elim h3
            refine ⟨_, _, _, h6, fun ha dst ty pos af g => fun w0 F0 G ρ a w R => ?_⟩
            have hp := hr1 (hs2 ha) w0 F0 G ρ a w R
            have hx := h4 w G ρ s.h _ (hr2 ha w0 F0 G ρ a w R)
            simp only [VRep] at hp
            obtain ⟨b, hb, hp⟩ := hp.2.2 hv
            have hbl := R.blk id
            rw [hcs, hb] at hbl
            simp only [BRep] at hbl
            obtain ⟨b', c, e, e1, hc, hsz, hcells⟩ := hbl
            cases e1
            obtain ⟨hx1, hx2, hx3⟩ := hx
            have hfit : off + n ≤ c.size ∨ n = 0 := by
              rcases h5 with h5 | h5
              · right; rw [← hlen, h5]; rfl
              · left; rw [hsz]; omega
            by_cases hn0 : n = 0
            · -- nothing is stored
              have hvs : vs = [] := List.length_eq_zero_iff.1 (by omega)
              have hxe : (a.eval x).cells.toList = [] := List.length_eq_zero_iff.1 (by rw [hx1, hvs]; rfl)
              have hxs : (a.eval x).cells.size = n := by rw [← Array.length_toList, hxe, hn0]; rfl
              have hup : s.upd (some (id, (s.h id).1, .cells (lay cs off vs))) = s := by
                rw [hvs, lay_nil]
                simp only [SS.upd]
                have : updF s.h id (s.h id).1 (.cells cs) = s.h := by
                  funext i
                  by_cases e : i = id
                  · subst e; rw [updF_same, ← hcs]
                  · rw [updF_ne _ _ _ e]
                rw [this]
              refine ⟨undef, w, G, ρ, .inr ⟨?_, rfl⟩, by rw [hup]; exact R, by simp only [VRep]⟩
              simp [execOp, hp, Instr.storeAt, Instr.sureAddr, storeVar, run_siz hn, hxs, hxe, storeCells]
            · have hfit : off + n ≤ c.size := by omega
              have hxs : (a.eval x).cells.size = n := by rw [← Array.length_toList, hx1, hlen]
              have hlay : (lay c.toList off (a.eval x).cells.toList).length = c.toList.length := lay_length _ _ _ (by simp; omega)
              have hcl : off + vs.length ≤ cs.length := by rw [← hsz]; omega
              refine ⟨undef, _, G, _, .inr ⟨?_, rfl⟩, R.row (blk := .cells (lay cs off vs)) hb hc (cs := (lay c.toList off (a.eval x).cells.toList).toArray) (by simpa using hlay) ?_, by simp only [VRep]⟩
              · have := run_storeAt (P := P) (w := w) (b := b) (off := off) hn hxs hc hfit hx3
                simp [execOp, hp, this]
              · intro k
                simp only [BRep]
                refine ⟨b, _, e, rfl, setRow_heap w b c _ e (0, 0) hc, by rw [lay_length _ _ _ hcl, ← hsz]; simpa using hlay, fun j hj => ?_⟩
                have e1 : (lay c.toList off (a.eval x).cells.toList).toArray.getD j undef = (lay c.toList off (a.eval x).cells.toList).getD j undef := by simp [List.getD_eq_getElem?_getD, Array.getD_eq_getD_getElem?]
                have e2 : (a.eval x).cells.toList.length = vs.length := hx1
                have e4 : off + (a.eval x).cells.toList.length ≤ c.toList.length := by have e5 : c.toList.length = c.size := Array.length_toList; rw [e2, e5, hlen]; exact hfit
                rw [e1, lay_getD (l := cs) _ _ _ _ hcl, lay_getD (l := c.toList) _ _ _ _ e4, e2]
                split
                · exact VRep.keep k _ _ (hx2 _ (by omega))
                · have := VRep.keep k _ _ (hcells j (by rwa [lay_length _ _ _ hcl] at hj))
                  have e3 : c.toList.getD j undef = c.getD j undef := by simp [List.getD_eq_getElem?_getD, Array.getD_eq_getD_getElem?]
                  rw [e3]; exact this
          · exact h3.elim
        · exact h2.elim
      · exact h2.elim
    · rename_i id ver sz i j
      replace h2 := hA.hd _ _ h2
      simp only [SS.acc] at h2
      split at h2
      · rename_i sz' len f hcs
        split at h2
        · rename_i y
          simp only [cond_prop] at h2
          split at h2
          · rename_i hv
            simp only [Bool.and_eq_true] at hv
            obtain ⟨hv, hsz', hyl, hnsz, hj, hall⟩ := hv
            have hv := Nat.eq_of_beq_eq_true hv
            have hsz' := Nat.eq_of_beq_eq_true hsz'
            have hyl := Nat.eq_of_beq_eq_true hyl
            have hnsz := Nat.eq_of_beq_eq_true hnsz
            have hj := Nat.eq_of_beq_eq_true hj
            subst hsz'; subst hnsz; subst hj
            refine ⟨_, _, _, h2, fun ha dst ty pos af g => fun w0 F0 G ρ a w R => ?_⟩
            obtain ⟨hi, ha⟩ := allL_cons ha
            have hp := hr1 (hs2 ha) w0 F0 G ρ a w R
            have hx := hr2 ha w0 F0 G ρ a w R
            simp only [VRep] at hp hx
            obtain ⟨b, hb, hp⟩ := hp.2.2 hv
            have hbl := R.blk id
            rw [hcs, hb] at hbl
            simp only [BRep] at hbl
            rcases hbl with ⟨e1, _⟩ | ⟨b', c, e, e1, hc, hsz, hln, h0, hcl, hone, hcells⟩
            · cases e1
            cases e1
            obtain ⟨y1, y2, y3⟩ := prep_cells hx hall
            have hxs : (a.eval x).cells.size = n := by rw [← Array.length_toList, y1, hyl]
            have hb2 : i * n + n ≤ c.size := by
              have : (i + 1) * n ≤ len * n := Nat.mul_le_mul_right _ hi
              rw [Nat.succ_mul] at this; omega
            have e4 : i * n + (a.eval x).cells.toList.length ≤ c.toList.length := by rw [y1, hyl, Array.length_toList]; omega
            have hlay : (lay c.toList (i * n) (a.eval x).cells.toList).length = c.toList.length := lay_length _ _ _ e4
            refine ⟨undef, _, G, _, .inr ⟨?_, rfl⟩, R.row (blk := .arr n len fun k => cond (Nat.beq k i) y (f k)) hb hc (cs := (lay c.toList (i * n) (a.eval x).cells.toList).toArray) (by simpa using hlay) ?_, by simp only [VRep]⟩
            · have := run_storeAt (P := P) (w := w) (b := b) (off := i * n) hn hxs hc hb2 y3
              simp only [Nat.add_zero] at hp
              simp [execOp, hp, this]
            · intro k
              simp only [BRep]
              have gd : ∀ i' j', i' < len → j' < n → ((lay c.toList (i * n) (a.eval x).cells.toList).toArray.getD (i' * n + j') undef = if i' = i then (a.eval x).cells.toList.getD j' undef else c.getD (i' * n + j') undef) := by
                intro i' j' hi' hj'
                have e1 : (lay c.toList (i * n) (a.eval x).cells.toList).toArray.getD (i' * n + j') undef = (lay c.toList (i * n) (a.eval x).cells.toList).getD (i' * n + j') undef := by simp [List.getD_eq_getElem?_getD, Array.getD_eq_getD_getElem?]
                rw [e1, lay_getD (l := c.toList) _ _ _ _ e4, y1, hyl]
                by_cases ei : i' = i
                · subst ei
                  rw [if_pos ⟨by omega, by omega⟩, if_pos rfl, show i' * n + j' - i' * n = j' by omega]
                · rw [if_neg ?_, if_neg ei]
                  · simp [List.getD_eq_getElem?_getD, Array.getD_eq_getD_getElem?]
                  · intro hh
                    rcases Nat.lt_or_ge i' i with hlt | hge
                    · have : (i' + 1) * n ≤ i * n := Nat.mul_le_mul_right _ hlt
                      rw [Nat.succ_mul] at this; omega
                    · have : (i + 1) * n ≤ i' * n := Nat.mul_le_mul_right _ (by omega)
                      rw [Nat.succ_mul] at this; omega
              have beq : ∀ i', Nat.beq i' i = decide (i' = i) := fun i' => by
                cases hb' : Nat.beq i' i with
                | true => have := Nat.eq_of_beq_eq_true hb'; simp [this]
                | false => have : i' ≠ i := fun e => by rw [e] at hb'; simp at hb'
                           simp [this]
              refine .inr ⟨b, _, e, rfl, setRow_heap w b c _ e (0, 0) hc, by simpa using (by rw [hlay]; simpa using hsz : len * n ≤ (lay c.toList (i * n) (a.eval x).cells.toList).length), hln, h0, fun i' hi' => ?_, fun i' j' hi' hj' => ?_, fun i' j' hi' hj' => ?_⟩
              · rw [beq i']
                by_cases ei : i' = i
                · simpa [ei] using hyl
                · simpa [ei] using hcl i' hi'
              · rw [gd i' j' hi' hj']
                by_cases ei : i' = i
                · rw [if_pos ei]
                  have hj2 : j' < (a.eval x).cells.toList.length := by omega
                  have hm : (a.eval x).cells.toList.getD j' undef ∈ (a.eval x).cells.toList := by
                    rw [List.getD_eq_getElem?_getD, List.getElem?_eq_getElem hj2]; exact List.getElem_mem hj2
                  exact y3 _ hm
                · rw [if_neg ei]; exact hone i' j' hi' hj'
              · rw [gd i' j' hi' hj', beq i']
                by_cases ei : i' = i
                · rw [if_pos ei, decide_eq_true ei]
                  exact (y2 j' (by omega)).mono k.heap k.foot
                · rw [if_neg ei, decide_eq_false ei]
                  exact (hcells i' j' hi' hj').mono k.heap k.foot
          · exact h2.elim
        · exact h2.elim
      · exact h2.elim
    · exact h2.elim
  · exact h.elim
end
end Abs
