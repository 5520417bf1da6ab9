/- Walks: layer 3: the law LastCovers. -/
import Derived.Test.YtabnianhpamofaaCv5
import Derived.Test.YtabnianhpamofaaIt6
import Derived.Test.YtabnianhpamofaaShp
set_option linter.unusedSectionVars false
set_option linter.unusedSimpArgs false
set_option linter.unusedVariables false
set_option maxRecDepth 100000
set_option maxHeartbeats 4000000
namespace Abs
open Go Go.Proofs
variable [DMode]
theorem f5_ok (hd : DMode.d = false) (S : Nat → Sz) (n : Nat) (hn : n ≤ 140737488355328) (H : Nat → Hd) (m : Nat) (hm : m ≤ 140737488355328) (l : Nat → Int) (k : Nat) (hk : k ≤ 140737488355328) :
    Fn Try.prog 5 [.slice 17 n (fun i => (S i).enc), .slice 6 m (fun i => (H i).enc), .slice 1 k (fun i => .int .i64 (l i))] (.bool true) := by
  refine fn_of (m := {}) (k := Try.f5.ntmps - 3) fol Try.func5 rfl rfl ?_
  refine callN_pure _ _ _ ⟨rfl, rfl⟩ (f15_ok S n hn H m hm l k hk) rfl ?_
  refine callN_pure _ _ _ ⟨rfl, rfl⟩ (f16_ok S n hn H m hm l k hk) rfl ?_
  refine ⟨by simp [AllP, under], ?_⟩
  refine condP (fun c => ?_) (fun c => ?_)
  · simp [beqBool_eq] at c
  refine callN_pure _ _ _ ⟨rfl, rfl⟩ (f17_ok S n hn H m hm l k hk) rfl ?_
  refine callN_pure _ _ _ ⟨rfl, rfl⟩ (f18_ok S n hn H m hm l k hk) rfl ?_
  refine ⟨_, fun _ => f13_ok hd, ?_⟩
  refine ⟨by simp [AllP, under, beqBool_eq], ?_⟩
  refine congrArg PV.bool ?_
  simp [beqBool_eq]
theorem szs_of {x : PV} (h : (Sh.slice (shInts 17)).ok x) : ∃ (S : Nat → Sz) (n : Nat) (f : Nat → PV), n ≤ 140737488355328 ∧ x = .slice 17 n f ∧ ∀ i, i < n → f i = (S i).enc := by
  obtain ⟨n, f, rfl, hn, hf⟩ := h
  refine ⟨fun i => if h : i < n then (sz_of (hf i h)).choose else ⟨0, 0, 0, 0, 0, 0, 0, 0, 0, 0, 0, 0, 0, 0, 0, 0, 0⟩, n, f, hn, rfl, fun i hi => ?_⟩
  simp only [dif_pos hi]
  exact (sz_of (hf i hi)).choose_spec
theorem hds_of {x : PV} (h : (Sh.slice (shInts 6)).ok x) : ∃ (S : Nat → Hd) (n : Nat) (f : Nat → PV), n ≤ 140737488355328 ∧ x = .slice 6 n f ∧ ∀ i, i < n → f i = (S i).enc := by
  obtain ⟨n, f, rfl, hn, hf⟩ := h
  refine ⟨fun i => if h : i < n then (hd_of (hf i h)).choose else ⟨0, 0, 0, 0, 0, 0⟩, n, f, hn, rfl, fun i hi => ?_⟩
  simp only [dif_pos hi]
  exact (hd_of (hf i hi)).choose_spec
theorem ints_of {x : PV} (h : (Sh.slice (.flat false [.int .i64])).ok x) : ∃ (S : Nat → Int) (n : Nat) (f : Nat → PV), n ≤ 140737488355328 ∧ x = .slice 1 n f ∧ ∀ i, i < n → f i = .int .i64 (S i) := by
  obtain ⟨n, f, rfl, hn, hf⟩ := h
  refine ⟨fun i => if h : i < n then (int_of (hf i h)).choose else 0, n, f, hn, rfl, fun i hi => ?_⟩
  simp only [dif_pos hi]
  exact (int_of (hf i hi)).choose_spec
theorem f5_any (hd : DMode.d = false) {a b c : PV} (h1 : (Sh.slice (shInts 17)).ok a) (h2 : (Sh.slice (shInts 6)).ok b) (h3 : (Sh.slice (.flat false [.int .i64])).ok c) : Fn Try.prog 5 [a, b, c] (.bool true) := by
  obtain ⟨S, n, f, hn, rfl, hf⟩ := szs_of h1
  obtain ⟨H, m, g, hm, rfl, hg⟩ := hds_of h2
  obtain ⟨l, k, e, hk, rfl, he⟩ := ints_of h3
  exact (f5_ok hd S n hn H m hm l k hk).args ⟨⟨rfl, rfl, hf⟩, ⟨rfl, rfl, hg⟩, ⟨rfl, rfl, he⟩⟩
end Abs
