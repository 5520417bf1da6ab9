/- The iterator of slices.Backward at []int. -/
import Derived.Test.YtabnianhpamofaaIt3
import Derived.Test.YtabnianhpamofaaAbs25
set_option linter.unusedSectionVars false
set_option linter.unusedSimpArgs false
set_option linter.unusedVariables false
namespace Abs
open Go Go.Proofs Go.RowKit Go.Maps Go.Sort Go.Shelf

attribute [local go_sem] Oper.semAt_some

set_option maxRecDepth 100000 in
set_option maxHeartbeats 2000000 in
theorem backward1_in (m l Bs o b off n cap : Nat) (f : Nat → Int) (hn : n ≤ 140737488355328) (J : Nat → World → Prop)
    (hB : ∀ k W, J k W → W.cell? ⟨Bs, o, none⟩ = some (.slice (some ⟨b, off, none⟩) n cap))
    (hJ : ∀ k W, J k W → ∀ j, j < n → W.cell? ⟨b, off + j, none⟩ = some (.int .i64 (f j)))
    (hY : ∀ k W, k < n → J k W → YieldAt Fence.wide m Try.prog l #[.int .i64 (n - 1 - (k : Int)), .int .i64 (f (n - 1 - k))] W fun e W' => e = .returned (.bool true) ∧ J (k + 1) W')
    (W : World) (h0 : J 0 W) :
    CallsIn Fence.wide (m + 1) Try.prog 62 #[.func (.yield l) #[] #[], .pointer (some ⟨Bs, o, none⟩)] W fun e W' => (∃ v, e = .returned v) ∧ J n W' := by
  refine callsIn_of_wp Try.func62 rfl trivial ?_ rfl
  simp only [Try.ntmps62, List.size_toArray, List.length_cons, List.length_nil, Nat.reduceAdd, Nat.reduceSub, Array.replicate_succ, Array.replicate_zero, List.push_toArray, List.append_toArray, List.nil_append, List.cons_append]
  have hB0 := hB _ _ h0
  gi_wp2
  gi_loopw [3] (fun i wr => ∃ k : Nat, k ≤ n ∧ i = .int .i64 ((n : Int) - 1 - k) ∧ J k wr)
    (fun i _ => (Go.RowKit.intOf i + 1).toNat)
  case atStart => exact ⟨0, Nat.zero_le _, by simp, h0⟩
  case round =>
    obtain ⟨k, hk, rfl, hJs⟩ := hrel
    by_cases hlt : k < n
    · obtain ⟨fn, tmps, assign, body, hy, hR⟩ := hY k wr hlt hJs
      have hcx' := hJ _ wr hJs (n - 1 - k) (by omega)
      have hBx := hB _ wr hJs
      gi_wp2
      refine hR.mono ?_
      rintro e W3 ⟨rfl, hJ3⟩
      gi_wp2
      go_roundw
      case rel => exact ⟨k + 1, by omega, by simp; omega, hJ3⟩
      case measure => simp [Go.RowKit.intOf]; omega
    · obtain rfl : k = n := by omega
      gi_wp2
      go_end0
      exact ⟨⟨_, rfl⟩, hJs⟩

set_option maxRecDepth 100000 in
set_option maxHeartbeats 1000000 in
theorem backward1_nil_in (m l Bs o cap : Nat) (a : Option Addr) (J : Nat → World → Prop) (W : World) (hB0 : W.cell? ⟨Bs, o, none⟩ = some (.slice a 0 cap)) (h0 : J 0 W) :
    CallsIn Fence.wide (m + 1) Try.prog 62 #[.func (.yield l) #[] #[], .pointer (some ⟨Bs, o, none⟩)] W fun e W' => (∃ v, e = .returned v) ∧ J 0 W' := by
  refine callsIn_of_wp Try.func62 rfl trivial ?_ rfl
  simp only [Try.ntmps62, List.size_toArray, List.length_cons, List.length_nil, Nat.reduceAdd, Nat.reduceSub, Array.replicate_succ, Array.replicate_zero, List.push_toArray, List.append_toArray, List.nil_append, List.cons_append]
  gi_wp2
  gi_loopw [3] (fun i wr => i = .int .i64 (-1) ∧ J 0 wr) (fun _ _ => 0)
  case atStart => exact ⟨by simp, h0⟩
  case round =>
    obtain ⟨rfl, hJs⟩ := hrel
    gi_wp2
    go_end0
    exact ⟨⟨_, rfl⟩, hJs⟩
variable [DMode]
theorem cell_same {w W : World} {b off : Nat} (h : W.heap[b]? = w.heap[b]?) : W.cell? ⟨b, off, none⟩ = w.cell? ⟨b, off, none⟩ := cell_of_heap h
theorem box_inv {w : World} {F : Nat → Prop} {x : PV} {vs : List Value} (hP : PReps w F vs [.box [x]]) : ∃ Bs o sv, vs = [.pointer (some ⟨Bs, o, none⟩)] ∧ F Bs ∧ w.cell? ⟨Bs, o, none⟩ = some sv ∧ PRep w F sv x := by
  obtain ⟨hl, hh⟩ := hP
  match vs, hl with
  | [u], _ =>
    have h3 := hh 0 (by simp)
    simp only [List.getD_cons_zero] at h3
    cases h3 with
    | @box b o _ g hF hc h4 => exact ⟨b, o, g 0, rfl, hF, by simpa using hc 0 (by simp), by simpa using h4 0 (by simp)⟩
theorem backward_iter (f : Nat → Int) (n : Nat) : IterOK Try.prog 62 [.box [.slice 1 n (intsPV f)]] n (fun k => [.int .i64 (n - 1 - (k : Int)), .int .i64 (f (n - 1 - k))]) := by
  intro w F vs hF hP l m J W hJF _ hY h0
  obtain ⟨Bs, o, sv, rfl, hB, hc, hsv⟩ := box_inv hP
  have hcell : ∀ {k : Nat} {W : World}, J k W → W.cell? ⟨Bs, o, none⟩ = some sv := fun h => (cell_same (hJF _ _ h _ hB)).trans hc
  cases hsv with
  | empty a cap => exact backward1_nil_in m l Bs o cap a J W (hcell h0) h0
  | @slice b off _ cap _ _ g hFb hcap hn47 hl hcs h1 hh =>
    have hg : ∀ j, j < n → g j 0 = .int .i64 (f j) := fun j hj => by
      have := hh j 0 hj (by omega)
      simp only [intsPV, PV.cells, List.getD_cons_zero] at this
      generalize g j 0 = v at this
      cases this; rfl
    refine backward1_in m l Bs o b off n cap f hn47 J (fun k W hj => hcell hj) (fun k W hj j hjn => ?_) (fun k W hk hj => ?_) W h0
    · have := hcs j 0 hjn (by omega)
      rw [hg j hjn, Nat.mul_one, Nat.add_zero] at this
      exact (cell_same (hJF _ _ hj _ hFb)).trans this
    · exact hY k W [_, _] hk hj ⟨rfl, fun i hi => by
        match i, hi with
        | 0, _ => exact .int _ _
        | 1, _ => exact .int _ _⟩
end Abs
