/- The world behind a sort of the kit's shelf, as a row that is written anew. -/
import Derived.Test.YtabnianhpamofaaAbs23
import Derived.Shelf.SortM.Plain
import Derived.Shelf.SortM.SortNone
set_option linter.unusedSectionVars false
set_option linter.unusedSimpArgs false
set_option linter.unusedVariables false
namespace Abs
open Go Go.RowKit Go.Sort
/-- The numbers of a row, as a list. -/
def rowL (f : Nat → Int) (n : Nat) : List Int := (List.range n).map f
theorem rowL_length (f : Nat → Int) (n : Nat) : (rowL f n).length = n := by simp [rowL]
theorem rowL_get (f : Nat → Int) (n i : Nat) (h : i < n) : (rowL f n).getD i 0 = f i := by simp [rowL, List.getD, h]
theorem rowL_getD {l : List Int} {n : Nat} (h : l.length = n) : rowL (fun i => l.getD i 0) n = l := by
  refine List.ext_getElem (by rw [rowL_length, h]) fun i h1 h2 => ?_
  simp only [rowL, List.getElem_map, List.getElem_range]
  rw [List.getD, List.getElem?_eq_getElem h2]; rfl
def sortL (l : List Int) : List Int := l.mergeSort fun x y => decide (x ≤ y)
def intsPV (f : Nat → Int) : Nat → PV := fun i => .int .i64 (f i)
theorem rowIs_ints {c : Array Value} {n : Nat} {f : Nat → Int} (h : ∀ t, t < n → c.getD t undef = .int .i64 (f t)) : RowIs c 1 n (intsPV f) :=
  ⟨fun _ _ => rfl, fun _ _ => rfl, fun i j hi hj => by
    have : j = 0 := by omega
    subst this
    rw [Nat.mul_one, Nat.add_zero, h i hi]
    exact ⟨rfl, fun _ _ => .int _ _⟩⟩
theorem ints_row {c : Array Value} {n : Nat} {f : Nat → Int} (h : RowIs c 1 n (intsPV f)) (w : World) : ∀ t, t < n → c.getD t undef = .int .i64 (f t) := fun t ht => by
  have := (h.2.2 t 0 ht Nat.one_pos).2 w (fun _ => False)
  rw [Nat.mul_one, Nat.add_zero] at this
  simp only [intsPV, PV.cells, List.getD_cons_zero] at this
  generalize c.getD t undef = v at this
  cases this; rfl
variable [DMode]

theorem rowWorld {α : Type} [Inhabited α] (enc : α → Value) {w : World} {b e : Nat} {c : Array Value} (k : Nat) (D : Array α) (os : Array Obj) (hc : w.heap[b]? = some (.cells c e (0, 0))) (hD : D.size ≤ c.size) :
    BelBut b w (grow (putRow enc (Sort.ahead w k) b 0 D) os) ∧ ∃ c', (grow (putRow enc (Sort.ahead w k) b 0 D) os).heap[b]? = some (.cells c' e (0, 0)) ∧ c'.size = c.size ∧ ∀ t, t < D.size → c'.getD t undef = enc D[t]! := by
  have hb := cells_lt hc
  have hsz : (putRow enc (Sort.ahead w k) b 0 D).heap.size = w.heap.size := by simp [Sort.ahead]
  have hget : ∀ j, (putRow enc (Sort.ahead w k) b 0 D).heap[j]? = if b = j then (w.heap[j]?).map (onCells (putCells enc 0 D)) else w.heap[j]? := fun j => by
    simp only [putRow, mapBlock, Sort.ahead, Array.getElem?_modify]
  refine ⟨⟨rfl, rfl, rfl, ?_, fun j hj hne => ?_, fun _ => ?_⟩, putCells enc 0 D c, ?_, ?_, fun t ht => ?_⟩
  · show w.heap.size ≤ ((putRow enc (Sort.ahead w k) b 0 D).heap ++ os).size
    rw [Array.size_append, hsz]; omega
  · rw [heap_grow_old _ _ (by rw [hsz]; exact hj), hget, if_neg (fun e => hne e.symm)]
  · show w.drawn ≤ (Sort.ahead w k).drawn
    simp [Sort.ahead]
  · rw [heap_grow_old _ _ (by rw [hsz]; exact hb), hget, if_pos rfl, hc]; rfl
  · simp [putCells]
  · simp only [putCells, Array.getD_eq_getD_getElem?, Array.getElem?_mapIdx]
    rw [Array.getElem?_eq_getElem (by omega)]
    simp [ht]

end Abs
