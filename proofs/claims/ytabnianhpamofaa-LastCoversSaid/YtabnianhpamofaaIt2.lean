/- slices.Collect(slices.Values(l)), slices.Sort, slices.Sorted(slices.Values(l)) at []int: contracts. -/
import Derived.Test.YtabnianhpamofaaIt1
import Derived.Test.YtabnianhpamofaaSrt
set_option linter.unusedSectionVars false
set_option linter.unusedSimpArgs false
set_option linter.unusedVariables false
namespace Abs
open Go Go.Proofs Go.RowKit Go.Maps Go.Sort Go.Shelf

def upto {α : Type} (f : Nat → α) (k : Nat) : List α := (List.range k).map f
theorem upto_succ {α : Type} (f : Nat → α) (k : Nat) : upto f (k + 1) = upto f k ++ [f k] := by simp [upto, List.range_succ]
theorem upto_length {α : Type} (f : Nat → α) (k : Nat) : (upto f k).length = k := by simp [upto]

attribute [local go_sem] Oper.semAt_some

set_option maxRecDepth 100000 in
set_option maxHeartbeats 2000000 in
theorem values1_in (m l Bs o b off n cap : Nat) (f : Nat → Int) (hm : 1 ≤ m) (hn : n ≤ 140737488355328) (J : List Int → World → Prop)
    (hJ : ∀ pre W, J pre W → ∀ j, j < n → W.cell? ⟨b, off + j, none⟩ = some (.int .i64 (f j)))
    (hY : ∀ pre x W, J pre W → pre.length < n → YieldAt Fence.wide (m - 1) Try.prog l #[.int .i64 x] W fun e W' => e = .returned (.bool true) ∧ J (pre ++ [x]) W' ∧ KeepsWalks W W')
    (W : World) (hBs : W.cell? ⟨Bs, o, none⟩ = some (.slice (some ⟨b, off, none⟩) n cap)) (h0 : J [] W) :
    CallsIn Fence.wide m Try.prog 69 #[.func (.yield l) #[] #[], .pointer (some ⟨Bs, o, none⟩)] W fun e W' => (∃ v, e = .returned v) ∧ J (upto f n) W' := by
  refine callsIn_of_wp Try.func69 rfl trivial ?_ rfl
  simp only [Try.ntmps69, List.size_toArray, List.length_cons, List.length_nil, Nat.reduceAdd, Nat.reduceSub, Array.replicate_succ, Array.replicate_zero, List.push_toArray, List.append_toArray, List.nil_append, List.cons_append]
  gi_wp2
  gi_loopw [7] (fun i wr => ∃ k : Nat, k ≤ n ∧ i = .int .i64 k ∧ J (upto f k) wr)
    (fun i _ => n - (Go.RowKit.intOf i).toNat)
  case atStart => exact ⟨0, Nat.zero_le _, rfl, h0⟩
  case round =>
    obtain ⟨k, hk, rfl, hJs⟩ := hrel
    by_cases hlt : k < n
    · obtain ⟨fn, tmps, assign, body, hy, hR⟩ := hY _ (f k) wr hJs (by rw [upto_length]; exact hlt)
      have hcx' := hJ _ wr hJs k hlt
      gi_wp2
      refine hR.mono ?_
      rintro e W3 ⟨rfl, hJ3, hk3⟩
      gi_wp2
      go_roundw
      case rel => exact ⟨k + 1, by omega, by simp, by rw [upto_succ]; exact hJ3⟩
      case measure => simp [Go.RowKit.intOf]; omega
    · obtain rfl : k = n := by omega
      gi_wp2
      go_end0
      exact ⟨⟨_, rfl⟩, hJs⟩

set_option maxRecDepth 100000 in
set_option maxHeartbeats 1000000 in
theorem values1_nil_in (m l Bs o cap : Nat) (a : Option Addr) (J : List Int → World → Prop) (W : World) (hBs : W.cell? ⟨Bs, o, none⟩ = some (.slice a 0 cap)) (h0 : J [] W) :
    CallsIn Fence.wide m Try.prog 69 #[.func (.yield l) #[] #[], .pointer (some ⟨Bs, o, none⟩)] W fun e W' => (∃ v, e = .returned v) ∧ J [] W' := by
  refine callsIn_of_wp Try.func69 rfl trivial ?_ rfl
  simp only [Try.ntmps69, List.size_toArray, List.length_cons, List.length_nil, Nat.reduceAdd, Nat.reduceSub, Array.replicate_succ, Array.replicate_zero, List.push_toArray, List.append_toArray, List.nil_append, List.cons_append]
  gi_wp2
  gi_loopw [7] (fun i wr => i = .int .i64 0 ∧ J [] wr) (fun _ _ => 0)
  case atStart => exact ⟨rfl, h0⟩
  case round =>
    obtain ⟨rfl, hJs⟩ := hrel
    gi_wp2
    go_end0
    exact ⟨⟨_, rfl⟩, hJs⟩

def Try.sortedA_ren : Go.Shelf.Ren := ⟨fun | 6 => 60 | 8 => 67 | 9 => 68 | 11 => 70 | 13 => 72 | 12 => 71 | 23 => 82 | 24 => 83 | 14 => 73 | 15 => 74 | 16 => 75 | 17 => 76 | 18 => 77 | 19 => 78 | 20 => 79 | 21 => 80 | 22 => 81 | 25 => 84 | 26 => 85 | 27 => 86 | 28 => 87 | 29 => 88 | 30 => 89 | 31 => 90 | n => n, fun | 26 => 3 | 28 => 80 | 24 => 32 | 0 => 0 | 3 => 3 | 37 => 85 | 48 => 100 | 50 => 54 | 4 => 4 | 40 => 93 | 39 => 92 | 45 => 97 | 5 => 5 | 9 => 9 | 51 => 101 | 55 => 105 | 57 => 107 | 58 => 108 | 33 => 67 | n => n, fun | n => n⟩
theorem Try.sortedA : Go.Proofs.SlLaysZI.n6 Try.prog Try.sortedA_ren := {
  mixed := by kernel_rfl
  f6 := ⟨Try.f60.name, by decide, Try.func60.trans (congrArg some (by kernel_rfl))⟩
  f8 := ⟨Try.f67.name, by decide, Try.func67.trans (congrArg some (by kernel_rfl))⟩
  f11 := ⟨Try.f70.name, by decide, Try.func70.trans (congrArg some (by kernel_rfl))⟩
  t0 := Try.underlying0
  a0 := Try.isAgg0
  z0 := Try.sizeOf0
  v0 := Try.zeroValue0
  t24 := Try.underlying32
  a24 := Try.isAgg32
  z24 := Try.sizeOf32
  v24 := Try.zeroValue32
  t26 := Try.underlying3
  a26 := Try.isAgg3
  z26 := Try.sizeOf3
  v26 := Try.zeroValue3
  t28 := Try.underlying80
  a28 := Try.isAgg80
  z28 := Try.sizeOf80
  v28 := Try.zeroValue80
  i26 := by kernel_rfl }

def Try.sortA_ren : Go.Shelf.Ren := ⟨fun | 5 => 68 | 8 => 72 | 7 => 71 | 19 => 82 | 20 => 83 | 10 => 73 | 11 => 74 | 12 => 75 | 13 => 76 | 14 => 77 | 15 => 78 | 16 => 79 | 17 => 80 | 18 => 81 | 30 => 84 | 31 => 85 | 32 => 86 | 33 => 87 | 34 => 88 | 35 => 89 | 40 => 90 | n => n, fun | 23 => 32 | 25 => 3 | 3 => 3 | 32 => 85 | 22 => 32 | 0 => 0 | 44 => 100 | 46 => 54 | 4 => 4 | 36 => 93 | 35 => 92 | 41 => 97 | 5 => 5 | 9 => 9 | 53 => 101 | 57 => 105 | 63 => 107 | 64 => 108 | n => n, fun | n => n⟩
theorem Try.sortA : Go.Proofs.SlLaysM.n5 Try.prog Try.sortA_ren := {
  mixed := by kernel_rfl
  f5 := ⟨Try.f68.name, by decide, Try.func68.trans (congrArg some (by kernel_rfl))⟩
  f7 := ⟨Try.f71.name, by decide, Try.func71.trans (congrArg some (by kernel_rfl))⟩
  f8 := Try.func72.trans (congrArg some (by kernel_rfl))
  f10 := ⟨Try.f73.name, by decide, Try.func73.trans (congrArg some (by kernel_rfl))⟩
  f11 := ⟨Try.f74.name, by decide, Try.func74.trans (congrArg some (by kernel_rfl))⟩
  f12 := ⟨Try.f75.name, by decide, Try.func75.trans (congrArg some (by kernel_rfl))⟩
  f13 := ⟨Try.f76.name, by decide, Try.func76.trans (congrArg some (by kernel_rfl))⟩
  f14 := ⟨Try.f77.name, by decide, Try.func77.trans (congrArg some (by kernel_rfl))⟩
  f15 := ⟨Try.f78.name, by decide, Try.func78.trans (congrArg some (by kernel_rfl))⟩
  f16 := ⟨Try.f79.name, by decide, Try.func79.trans (congrArg some (by kernel_rfl))⟩
  f17 := ⟨Try.f80.name, by decide, Try.func80.trans (congrArg some (by kernel_rfl))⟩
  f18 := ⟨Try.f81.name, by decide, Try.func81.trans (congrArg some (by kernel_rfl))⟩
  f19 := Try.func82.trans (congrArg some (by kernel_rfl))
  f20 := Try.func83.trans (congrArg some (by kernel_rfl))
  f30 := ⟨Try.f84.name, by decide, Try.func84.trans (congrArg some (by kernel_rfl))⟩
  f31 := Try.func85.trans (congrArg some (by kernel_rfl))
  f32 := Try.func86.trans (congrArg some (by kernel_rfl))
  f33 := ⟨Try.f87.name, by decide, Try.func87.trans (congrArg some (by kernel_rfl))⟩
  f34 := ⟨Try.f88.name, by decide, Try.func88.trans (congrArg some (by kernel_rfl))⟩
  f35 := ⟨Try.f89.name, by decide, Try.func89.trans (congrArg some (by kernel_rfl))⟩
  f40 := ⟨Try.f90.name, by decide, Try.func90.trans (congrArg some (by kernel_rfl))⟩
  t0 := Try.underlying0
  a0 := Try.isAgg0
  z0 := Try.sizeOf0
  v0 := Try.zeroValue0
  t3 := Try.underlying3
  a3 := Try.isAgg3
  z3 := Try.sizeOf3
  v3 := Try.zeroValue3
  t4 := Try.underlying4
  a4 := Try.isAgg4
  z4 := Try.sizeOf4
  v4 := Try.zeroValue4
  t5 := Try.underlying5
  a5 := Try.isAgg5
  z5 := Try.sizeOf5
  v5 := Try.zeroValue5
  t9 := Try.underlying9
  a9 := Try.isAgg9
  z9 := Try.sizeOf9
  v9 := Try.zeroValue9
  t22 := Try.underlying32
  a22 := Try.isAgg32
  z22 := Try.sizeOf32
  v22 := Try.zeroValue32
  t23 := Try.underlying32
  a23 := Try.isAgg32
  z23 := Try.sizeOf32
  v23 := Try.zeroValue32
  t25 := Try.underlying3
  a25 := Try.isAgg3
  z25 := Try.sizeOf3
  v25 := Try.zeroValue3
  t32 := Try.underlying85
  a32 := Try.isAgg85
  z32 := Try.sizeOf85
  v32 := Try.zeroValue85
  t35 := Try.underlying92
  a35 := Try.isAgg92
  z35 := Try.sizeOf92
  v35 := Try.zeroValue92
  t36 := Try.underlying93
  a36 := Try.isAgg93
  z36 := Try.sizeOf93
  v36 := Try.zeroValue93
  t41 := Try.underlying97
  a41 := Try.isAgg97
  z41 := Try.sizeOf97
  v41 := Try.zeroValue97
  t44 := Try.underlying100
  a44 := Try.isAgg100
  z44 := Try.sizeOf100
  v44 := Try.zeroValue100
  t46 := Try.underlying54
  a46 := Try.isAgg54
  z46 := Try.sizeOf54
  v46 := Try.zeroValue54
  t53 := Try.underlying101
  a53 := Try.isAgg101
  z53 := Try.sizeOf101
  v53 := Try.zeroValue101
  t57 := Try.underlying105
  a57 := Try.isAgg105
  z57 := Try.sizeOf105
  v57 := Try.zeroValue105
  t63 := Try.underlying107
  a63 := Try.isAgg107
  z63 := Try.sizeOf107
  v63 := Try.zeroValue107
  t64 := Try.underlying108
  a64 := Try.isAgg108
  z64 := Try.sizeOf108
  v64 := Try.zeroValue108 }

variable [DMode]
theorem Bel.of {B : Nat} {w w' : World} (hd : DMode.d = false) (h : Below B w w') : Bel B w w' := ⟨h, fun e => by rw [hd] at e; cases e⟩

/-- What ownsRow says, as NewSl. -/
theorem newSl_of {w : World} {base e : Nat} {v : Value} {n : Nat} {f : Nat → Int} {xs : List Value} (hn : n ≤ 140737488355328) (h : w.ownsRow base e 1 v n xs) (hx : ∀ i, i < n → xs.getD i undef = .int .i64 (f i)) :
    NewSl w base 1 n (fun i => .int .i64 (f i)) v := by
  rcases h.2 with ⟨rfl, h0⟩ | ⟨g, cap, cur, rfl, hg, hc, hcap, _, hsz, htk⟩
  · exact .inl ⟨h0, none, rfl⟩
  · refine .inr ⟨g, cap, cur, e, rfl, hcap, hg, hc, by omega, hn, Nat.one_pos, fun _ _ => rfl, fun _ _ => rfl, fun i j hi hj => ?_⟩
    have hj0 : j = 0 := by omega
    subst hj0
    have h1 : cur.getD (i * 1 + 0) undef = .int .i64 (f i) := by
      rw [← hx i hi, ← htk]
      simp [Array.getD_eq_getD_getElem?, List.getD, List.getElem?_take, hi]
    rw [h1]
    exact ⟨rfl, fun w F => .int _ _⟩

/-- The value of a closure over a slice of ints. -/
theorem closure_inv {w : World} {F : Nat → Prop} {g : FuncId} {n : Nat} {f : Nat → Int} {vs : List Value} (hP : PReps w F vs [.fn g [.box [.slice 1 n fun i => .int .i64 (f i)]]]) :
    ∃ Bs o sv, vs = [.func (.func g) #[] #[.pointer (some ⟨Bs, o, none⟩)]] ∧ F Bs ∧ w.cell? ⟨Bs, o, none⟩ = some sv ∧ PRep w F sv (.slice 1 n fun i => .int .i64 (f i)) := by
  obtain ⟨hl, hh⟩ := hP
  match vs, hl with
  | [v], _ =>
    have h0 := hh 0 (by simp)
    simp only [List.getD_cons_zero] at h0
    cases h0 with
    | @fn _ us _ hl2 h2 =>
      match us, hl2 with
      | [u], _ =>
        have h3 := h2 0 (by simp)
        simp only [List.getD_cons_zero] at h3
        cases h3 with
        | @box b o _ g hF hc h4 => exact ⟨b, o, g 0, rfl, hF, by simpa using hc 0 (by simp), by simpa using h4 0 (by simp)⟩

theorem collect_in {w w0 : World} (hw0 : Below w0.heap.size w0 w) {Bs o : Nat} {g : FuncId} (eg : ∀ args w, (callFunc g args).run Try.prog w = .ok (.enter g args) w) (S : List Int → Prop) (N : Nat) (hN : N ≤ 17592186044415)
    (hcall : ∀ (fn : FuncId) (W1 : World), Below w.heap.size w W1 → ApJ Try.sortedA_ren w0 w g #[.pointer (some ⟨Bs, o, none⟩)] fn [] W1 →
      (∀ pre x W, ApJ Try.sortedA_ren w0 w g #[.pointer (some ⟨Bs, o, none⟩)] fn pre W → pre.length < N → YieldAt Fence.wide 2 Try.prog (w.heap.size + 2) #[encZ x] W fun e W' => e = .returned (.bool true) ∧ ApJ Try.sortedA_ren w0 w g #[.pointer (some ⟨Bs, o, none⟩)] fn (pre ++ [x]) W' ∧ KeepsWalks W W') →
      CallsIn Fence.wide 3 Try.prog g (#[.func (.yield (w.heap.size + 2)) #[] #[]] ++ #[.pointer (some ⟨Bs, o, none⟩)]) W1 fun e W' => (∃ v, e = .returned v) ∧ ∃ ss, S ss ∧ ApJ Try.sortedA_ren w0 w g #[.pointer (some ⟨Bs, o, none⟩)] fn ss W') :
    Calls Try.prog 67 #[.func (.func g) #[] #[.pointer (some ⟨Bs, o, none⟩)]] w fun e w' => ∃ (v : Value) (ss : List Int), e = .returned v ∧ S ss ∧ w'.ownsRow w0.heap.size 3 1 v ss.length (ss.map encZ) ∧ Below w0.heap.size w0 w' := by
  refine (callsIn_wide (n := 5)).1 ?_
  have cA := appendSeqX (L := { Try.sortedA with }) (ρ := Try.sortedA_ren) (P := Try.prog) Fence.wide 4 trivial rfl (by omega) g #[.pointer (some ⟨Bs, o, none⟩)] trivial eg S N (by unfold maxLen; omega) (by omega) w0 w hw0 hcall
  change CallsIn _ _ Try.prog 70 _ _ _ at cA
  have hfA : Fence.wide.fn 70 := trivial
  refine callsIn_of_wp Try.func67 rfl trivial ?_ rfl
  simp only [Try.ntmps67, List.size_toArray, List.length_cons, List.length_nil, Nat.reduceAdd, Nat.reduceSub, Array.replicate_succ, Array.replicate_zero, List.push_toArray, List.append_toArray, List.nil_append, List.cons_append]
  gi_wp2_with (gi_at_call 70; refine cA.mono ?_; rintro e w' ⟨v, ss, rfl, hS, hrow, hnil, hb⟩)
  go_ret
  exact ⟨v, ss, rfl, hS, hrow, hb⟩

theorem enters_val : Enters Try.prog 67 := ⟨Try.f67, Try.func67, by decide +kernel, rfl⟩

theorem collect_values (hd : DMode.d = false) (f : Nat → Int) (n : Nat) (hn : n ≤ 17592186044415) :
    FnNew Try.prog 67 [.fn 69 [.box [.slice 1 n fun i => .int .i64 (f i)]]] 1 n (fun i => .int .i64 (f i)) := by
  intro w F vs hF hP _
  obtain ⟨Bs, o, sv, rfl, hB, hc, hsv⟩ := closure_inv hP
  refine .inl ⟨enters_val, ?_⟩
  have key : Calls Try.prog 67 #[.func (.func 69) #[] #[.pointer (some ⟨Bs, o, none⟩)]] w fun e w' => ∃ (v : Value) (ss : List Int), e = .returned v ∧ ss = upto f n ∧ w'.ownsRow w.heap.size 3 1 v ss.length (ss.map encZ) ∧ Below w.heap.size w w' := by
    refine collect_in (Below.refl _ _) (enters_of Try.func69 (by kernel_rfl) rfl) (fun ss => ss = upto f n) n hn fun fn W1 hW1 hJ1 hY => ?_
    have hcell : ∀ {W : World}, Below w.heap.size w W → W.cell? ⟨Bs, o, none⟩ = some sv := fun h => (h.cell (p := ⟨Bs, o, none⟩) (hF _ hB)).trans hc
    cases hsv with
    | empty a cap =>
      refine (values1_nil_in 3 (w.heap.size + 2) Bs o cap a _ W1 (hcell hW1) hJ1).mono ?_
      rintro e W' ⟨he, hj⟩
      exact ⟨he, [], rfl, hj⟩
    | @slice b off _ cap _ _ g hFb hcap _ hl hcs h1 hh =>
      have hg : ∀ j, j < n → g j 0 = .int .i64 (f j) := fun j hj => by
        have := hh j 0 hj (by omega)
        simp only [PV.cells, List.getD_cons_zero] at this
        generalize g j 0 = v at this
        cases this; rfl
      refine (values1_in 3 (w.heap.size + 2) Bs o b off n cap f (by omega) (by omega) _ (fun pre W hJ j hj => ?_) hY W1 (hcell hW1) hJ1).mono ?_
      · have hb := hJ.below
        have := hcs j 0 hj (by omega)
        rw [hg j hj, Nat.mul_one, Nat.add_zero] at this
        exact (hb.cell (p := ⟨b, off + j, none⟩) (hF _ hFb)).trans this
      · rintro e W' ⟨he, hj⟩
        exact ⟨he, _, rfl, hj⟩
  refine key.mono fun e w' ⟨v, ss, he, hs, hrow, hb⟩ => ⟨v, he, Bel.of hd hb, ?_⟩
  subst hs
  rw [upto_length] at hrow
  refine newSl_of (by omega) hrow fun i hi => ?_
  simp [upto, List.getD, hi, encZ]

theorem enters_sort : Enters Try.prog 68 := ⟨Try.f68, Try.func68, by decide +kernel, rfl⟩
/-- slices.Sort at []int. -/
theorem sort_row (f : Nat → Int) (n : Nat) : FnRow Try.prog 68 [] 1 n (intsPV f) (fun g' => ∃ f', g' = intsPV f' ∧ rowL f' n = sortL (rowL f n)) := by
  intro w F vs hF hP _
  obtain ⟨hl, _⟩ := hP
  obtain rfl : vs = [] := List.length_eq_zero_iff.1 hl
  refine ⟨fun a h0 => .inl ⟨enters_sort, ?_⟩, fun b cap c e hnF hcap hc hsz hn47 _ hrow => .inl ⟨enters_sort, ?_⟩⟩
  · subst h0
    refine (AnyM.slices_Sort_int_none Try.sortA a 0 w).mono ?_
    rintro e w' ⟨rfl, rfl⟩
    exact ⟨_, rfl, rfl, Bel.refl _ _, _, f, rfl, by simp [rowL, sortL]⟩
  · have hcs := ints_row hrow w
    have hH : Holds (Value.int .i64) w b 0 (rowL f n).toArray := fun j hj => by
      have hj : j < n := by simpa [rowL] using hj
      have hjc : j < c.size := by rw [← hsz]; omega
      refine ⟨?_, by simp [World.frozen?, hc]⟩
      have h1 := hcs j hj
      rw [Array.getD_eq_getD_getElem?, Array.getElem?_eq_getElem hjc] at h1
      simp only [World.cell?, hc, Nat.zero_add]
      rw [Array.getElem?_eq_getElem hjc]
      simp only [Option.getD_some] at h1
      simp [h1, rowL, hj]
    have h := AnyM.slices_Sort_int Try.sortA b 0 cap (rowL f n) w hH (cells_lt hc) (by rw [rowL_length]; omega)
    rw [rowL_length] at h
    refine h.mono ?_
    rintro ee w' ⟨rfl, k, os, rfl⟩
    have hlen : (sortL (rowL f n)).length = n := by rw [sortL, List.length_mergeSort, rowL_length]
    obtain ⟨h1, c', h2, h3, h4⟩ := rowWorld (Value.int .i64) k (sortL (rowL f n)).toArray os hc (by simp [hlen]; rw [← hsz]; omega)
    refine ⟨_, rfl, rfl, h1, intsPV (fun i => (sortL (rowL f n)).getD i 0), c', ⟨_, rfl, ?_⟩, h2, h3, rowIs_ints fun t ht => ?_⟩
    · exact rowL_getD hlen
    · rw [h4 t (by simp [hlen]; exact ht)]
      congr 1
      have : t < (sortL (rowL f n)).length := by rw [hlen]; exact ht
      simp [this]
end Abs
