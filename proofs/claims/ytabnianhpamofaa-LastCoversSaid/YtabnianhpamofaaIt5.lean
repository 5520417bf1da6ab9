/- last.Stab; the sanity check of the statements. -/
import Derived.Test.YtabnianhpamofaaIt4
import Derived.Test.YtabnianhpamofaaWalk6
import Derived.Test.YtabnianhpamofaaWalk11
import Derived.Shelf.SlicesG.Reverse
import Derived.Ground.SlgnProg
set_option linter.unusedSectionVars false
set_option linter.unusedSimpArgs false
set_option linter.unusedVariables false
set_option maxRecDepth 100000
set_option maxHeartbeats 4000000
namespace Abs
open Go Go.Proofs Go.RowKit Go.Sort Go.Shelf
def Try.revA_ren : Go.Shelf.Ren := ⟨fun | 35 => 41 | n => n, fun | 22 => 32 | 23 => 3 | 3 => 3 | 4 => 4 | 0 => 0 | n => n, fun | n => n⟩
theorem Try.revA : Go.Proofs.SlLaysN.n35 Try.prog Try.revA_ren := {
  mixed := by kernel_rfl
  f35 := ⟨Try.f41.name, by decide, Try.func41.trans (congrArg some (by kernel_rfl))⟩
  t0 := Try.underlying0
  a0 := Try.isAgg0
  z0 := Try.sizeOf0
  v0 := Try.zeroValue0
  t3 := Try.underlying3
  a3 := Try.isAgg3
  z3 := Try.sizeOf3
  v3 := Try.zeroValue3
  t4 := Try.underlying4
  a4 := Try.isAgg4
  z4 := Try.sizeOf4
  v4 := Try.zeroValue4
  t22 := Try.underlying32
  a22 := Try.isAgg32
  z22 := Try.sizeOf32
  v22 := Try.zeroValue32
  t23 := Try.underlying3
  a23 := Try.isAgg3
  z23 := Try.sizeOf3
  v23 := Try.zeroValue3 }

variable [DMode]
theorem enters_rev : Enters Try.prog 41 := ⟨Try.f41, Try.func41, by decide +kernel, rfl⟩
theorem holds_ints {w : World} {b e n : Nat} {c : Array Value} {f : Nat → Int} (hc : w.heap[b]? = some (.cells c e (0, 0))) (hn : n ≤ c.size) (hrow : RowIs c 1 n (intsPV f)) : Holds (Value.int .i64) w b 0 (rowL f n).toArray := fun j hj => by
  have hj : j < n := by simpa [rowL] using hj
  have hjc : j < c.size := by omega
  refine ⟨?_, by simp [World.frozen?, hc]⟩
  have h1 := ints_row hrow w j hj
  rw [Array.getD_eq_getD_getElem?, Array.getElem?_eq_getElem hjc] at h1
  simp only [World.cell?, hc, Nat.zero_add]
  rw [Array.getElem?_eq_getElem hjc]
  simp only [Option.getD_some] at h1
  simp [h1, rowL, hj]
theorem reverse_row (f : Nat → Int) (n : Nat) : FnRow Try.prog 41 [] 1 n (intsPV f) (fun g' => ∃ f', g' = intsPV f' ∧ rowL f' n = (rowL f n).reverse) := by
  intro w F vs hF hP _
  obtain ⟨hl, _⟩ := hP
  obtain rfl : vs = [] := List.length_eq_zero_iff.1 hl
  refine ⟨fun a h0 => .inl ⟨enters_rev, ?_⟩, fun b cap c e hnF hcap hc hsz hn47 _ hrow => .inl ⟨enters_rev, ?_⟩⟩
  · subst h0
    refine (AnyG.slices_Reverse_int_empty Try.revA a 0 w).mono ?_
    rintro e w' ⟨rfl, rfl⟩
    exact ⟨_, rfl, rfl, Bel.refl _ _, _, f, rfl, by simp [rowL]⟩
  · have hH := holds_ints hc (by rw [← hsz]; omega) hrow
    have h := AnyG.slices_Reverse_int Try.revA b 0 cap (rowL f n) w hH (by rw [rowL_length]; omega)
    rw [rowL_length] at h
    refine h.mono ?_
    rintro ee w' ⟨rfl, k, rfl⟩
    have hlen : (rowL f n).reverse.length = n := by rw [List.length_reverse, rowL_length]
    obtain ⟨h1, c', h2, h3, h4⟩ := rowWorld (Value.int .i64) k (rowL f n).reverse.toArray #[] hc (by simp [rowL]; rw [← hsz]; omega)
    rw [grow_empty] at h1 h2
    refine ⟨_, rfl, rfl, h1, intsPV (fun i => (rowL f n).reverse.getD i 0), c', ⟨_, rfl, rowL_getD hlen⟩, h2, h3, rowIs_ints fun t ht => ?_⟩
    rw [h4 t (by simp [rowL]; exact ht)]
    congr 1
    have : t < (rowL f n).reverse.length := by rw [hlen]; exact ht
    simp [this]
theorem f40_ok (f : Nat → Int) (n : Nat) : Fn Try.prog 40 [.slice 1 n (intsPV f)] (.fn 62 [.box [.slice 1 n (intsPV f)]]) := by
  refine fn_of (m := {}) (k := Try.f40.ntmps - 1) fol Try.func40 rfl rfl ?_
  exact rfl
theorem enters_bw : Enters Try.prog 62 := ⟨Try.f62, Try.func62, by decide +kernel, rfl⟩
/-- Slots, most of them of no account. -/
def slotL (i : Nat) : List (Nat × V) → V
  | [] => .junk
  | (j, v) :: r => cond (Nat.beq i j) v (slotL i r)
def slotsL (u : List (Nat × V)) : Nat → Nat → List V
  | 0, _ => []
  | n + 1, i => slotL i u :: slotsL u n (i + 1)
/-- One value more, from the greatest one down. -/
def stabStep (w : Int) (out : IL) (v : Int) : IL := cond (cond (decide ((out.k : Int) = 0)) true (decide (v < out.a (out.k - 1)))) (out.add (v - w)) out
def stabs (w : Int) (f : Nat → Int) (n : Nat) : Nat → IL
  | 0 => ⟨0, fun _ => 0⟩
  | k + 1 => stabStep w (stabs w f n k) (f (n - 1 - k))
theorem stabs_le (w : Int) (f : Nat → Int) (n : Nat) : ∀ k, (stabs w f n k).k ≤ k
  | 0 => Nat.le_refl _
  | k + 1 => by
    have := stabs_le w f n k
    unfold stabs stabStep IL.add
    generalize stabs w f n k = s at *
    cases cond (decide ((s.k : Int) = 0)) true (decide (f (n - 1 - k) < s.a (s.k - 1))) <;> simp <;> omega
def stabHp (w : Int) (L : IL) : Hp := [(3, 1, .cells [.pv (.int .i64 w)]), (8, 1, .cells [.sl 42 1 1 0 L.k]), (42, 1, .arr 1 L.k fun i => .int .i64 (L.a i))]
def stabR (f : Nat → Int) (n : Nat) (w : Int) : PV :=
  if valsE f n w = 0 then .tup [.slice 1 (stabs w (sortedF f n) n n).k (intsPV fun i => (stabs w (sortedF f n) n n).a ((stabs w (sortedF f n) n n).k - 1 - i)), .int .i64 0] else .tup [.nil, .int .i64 (valsE f n w)]
theorem idxF_iff (p : Nat → Bool) : ∀ k i, idxF p i k ≥ 0 ↔ ∃ j, i ≤ j ∧ j < i + k ∧ p j = true
  | 0, i => ⟨fun h => by simp [idxF] at h, fun ⟨j, h1, h2, _⟩ => by omega⟩
  | k + 1, i => by
    unfold idxF
    by_cases h : p i = true
    · rw [if_pos h]
      exact ⟨fun _ => ⟨i, Nat.le_refl _, by omega, h⟩, fun _ => by omega⟩
    · rw [if_neg h, idxF_iff p k (i + 1)]
      refine ⟨fun ⟨j, h1, h2, h3⟩ => ⟨j, by omega, by omega, h3⟩, fun ⟨j, h1, h2, h3⟩ => ⟨j, ?_, by omega, h3⟩⟩
      rcases Nat.eq_or_lt_of_le h1 with e | e
      · subst e; exact absurd h3 h
      · omega
theorem anyF_iff (p : Nat → Bool) (n : Nat) : anyF p n = true ↔ ∃ j, j < n ∧ p j = true := by
  unfold anyF
  rw [decide_eq_true_iff, idxF_iff]
  exact ⟨fun ⟨j, _, h2, h3⟩ => ⟨j, by omega, h3⟩, fun ⟨j, h2, h3⟩ => ⟨j, by omega, by omega, h3⟩⟩
theorem sorted_mem (f : Nat → Int) (n i : Nat) (h : i < n) : ∃ j, j < n ∧ sortedF f n i = f j := by
  have h1 : (sortL (rowL f n)).getD i 0 ∈ sortL (rowL f n) := by
    have : i < (sortL (rowL f n)).length := by rw [sortL_len]; exact h
    simp [List.getD, List.getElem?_eq_getElem this]
  rw [sortL, List.mem_mergeSort] at h1
  simp only [rowL, List.mem_map, List.mem_range] at h1
  obtain ⟨j, h2, h3⟩ := h1
  exact ⟨j, h2, h3.symm⟩
theorem vals_bnd {f : Nat → Int} {n : Nat} {w : Int} (he : valsE f n w = 0) : n ≤ 200 ∧ 0 ≤ w ∧ w ≤ 1000000 ∧ ∀ i, i < n → -1000000 ≤ sortedF f n i ∧ sortedF f n i ≤ 1000000 := by
  unfold valsE at he
  split at he
  · cases he
  · rename_i h1
    split at he
    · cases he
    · rename_i h2
      simp only [Bool.or_eq_true, not_or, anyF_iff, not_exists, not_and] at h2
      simp only [btw, cond_false, Bool.not_eq_true', Bool.and_eq_false_iff, decide_eq_false_iff_not, Bool.not_eq_false'] at h2
      refine ⟨by omega, by simp at h2; omega, by simp at h2; omega, fun i hi => ?_⟩
      obtain ⟨j, h3, h4⟩ := sorted_mem f n i hi
      have := h2.2 j h3
      simp at this
      rw [h4]; omega
theorem f25_ok (hd : DMode.d = false) (f : Nat → Int) (n : Nat) (hn : n ≤ 140737488355328) (w : Int) : Fn Try.prog 25 [.slice 1 n (intsPV f), .int .i64 w] (stabR f n w) := by
  refine fn_of (m := {}) (k := Try.f25.ntmps - 2) fol Try.func25 rfl rfl ?_
  refine callN_pure _ _ _ ⟨rfl, rfl⟩ (f39_ok hd f n hn w) rfl ?_
  unfold valsR stabR
  by_cases he : valsE f n w = 0
  · rw [if_pos he, if_pos he]
    refine callN_pure _ _ _ ⟨rfl, rfl⟩ (f40_ok (sortedF f n) n) rfl ?_
    refine codeN_le (s' := ⟨slotsL [(3, .ptr 3 1 0), (8, .ptr 8 1 0), (21, .pv (.fn 62 [.box [.slice 1 n (intsPV (sortedF f n))]]))] 46 0, stabHp w (stabs w (sortedF f n) n 0)⟩) (le_of ?le0) ?_
    case le0 => repeat' (first | exact Same.refl _ | exact rfl | refine And.intro ?_ ?_ | (intro j hj; exact absurd hj (Nat.not_lt_zero j)))
    obtain ⟨hn200, hw0, hw1, hs⟩ := vals_bnd he
    refine codeN_range (m := {}) (fun k => stabHp w (stabs w (sortedF f n) n k)) rfl (backward_iter _ _) enters_bw rfl rfl (fun k hk => ?_) ?_
    · have hLk := stabs_le w (sortedF f n) n k
      refine ⟨?_, ?_⟩
      · generalize stabs w (sortedF f n) n k = L at hLk
        rcases Nat.eq_zero_or_pos L.k with h0 | h0
        · simp [AllP, h0]
        · have h1 : ¬ L.k = 0 := by omega
          have h2 := wrap_small (n := (L.k : Int) - 1) (by omega) (by omega)
          simp [AllP, h1, h2]
          omega
      refine condP (fun c => ?_) (fun c => ?_)
      · refine ⟨?_, ?_⟩
        · have hb8 : bounded ((stabs w (sortedF f n) n k).k + 1) (Nat.max Try.t3.bytes Try.t3.size) := show ((stabs w (sortedF f n) n k).k + 1) * 8 ≤ 70368744177664 by omega
          have hv := hs (n - 1 - k) (by omega)
          have h2 := wrap_small (n := sortedF f n (n - 1 - k) - w) (by omega) (by omega)
          simp only [AllP]
          refine ⟨?_, ?_, ?_, ?_, ?_⟩ <;> first | exact hb8 | exact h2 | omega | rfl | trivial | (simp; done)
        have hst : stabs w (sortedF f n) n (k + 1) = (stabs w (sortedF f n) n k).add (sortedF f n (n - 1 - k) - w) := by
          have c := c
          have e : 0 + (((stabs w (sortedF f n) n k).k : Int) - 1).toNat = (stabs w (sortedF f n) n k).k - 1 := by omega
          rw [e] at c
          simp only [stabs, stabStep]
          rw [c]; rfl
        refine (show Le _ ⟨_, stabHp w (stabs w (sortedF f n) n (k + 1))⟩ from ?_)
        rw [hst]
        refine le_of ?_
        repeat' (first | exact Same.refl _ | exact rfl | refine And.intro ?_ ?_ | (intro j hj; simp only [IL.add]; split <;> rfl))
      · have hst : stabs w (sortedF f n) n (k + 1) = stabs w (sortedF f n) n k := by
          have c := c
          have e : 0 + (((stabs w (sortedF f n) n k).k : Int) - 1).toNat = (stabs w (sortedF f n) n k).k - 1 := by omega
          rw [e] at c
          simp only [stabs, stabStep]
          rw [c]; rfl
        refine (show Le _ ⟨_, stabHp w (stabs w (sortedF f n) n (k + 1))⟩ from ?_)
        rw [hst]
        refine le_of ?_
        repeat' (first | exact Same.refl _ | exact rfl | refine And.intro ?_ ?_ | (intro j hj; rfl))
    · refine callN_row 42 1 1 _ (intsPV (stabs w (sortedF f n) n n).a) [] ⟨rfl, rfl⟩ (reverse_row _ _) ⟨rfl, rfl⟩ (fun _ _ => rfl) (fun g' hp => ?_)
      obtain ⟨f', rfl, hf⟩ := hp
      refine ⟨?_, ?_⟩
      · omega
      refine ⟨⟨rfl, rfl, fun i hi => ?_⟩, rfl⟩
      have h1 := congrArg (fun l => List.getD l i 0) hf
      simp only [rowL_get f' _ i hi] at h1
      have h2 : ((rowL (stabs w (sortedF f n) n n).a (stabs w (sortedF f n) n n).k).reverse).getD i 0 = (stabs w (sortedF f n) n n).a ((stabs w (sortedF f n) n n).k - 1 - i) := by
        simp [rowL, List.getD, List.getElem?_reverse, hi]
      simp only [Nat.zero_add, intsPV, h1, h2]
  · rw [if_neg he, if_neg he]
    refine condP (fun _ => ?_) (fun c => ?_)
    · exact ⟨rfl, rfl⟩
    · simp [he] at c
end Abs
