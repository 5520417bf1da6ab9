/- Walks: layer 3: Covers, Apart. -/
import Derived.Test.YtabnianhpamofaaCv4
set_option linter.unusedSectionVars false
set_option linter.unusedSimpArgs false
set_option linter.unusedVariables false
set_option maxRecDepth 100000
set_option maxHeartbeats 4000000
namespace Abs
open Go Go.Proofs
variable [DMode]
/-- The error of sizes, heads and a list of indexes below n. -/
@[irreducible] def listE (S : Nat → Sz) (n : Nat) (H : Nat → Hd) (m : Nat) (l : Nat → Int) (k : Nat) (top : Int) : Int := if checkE S n H m = 0 then (if pickB l k top then 0 else 2) else checkE S n H m
@[irreducible] def coversB (S : Nat → Sz) (n : Nat) (H : Nat → Hd) (m : Nat) (l : Nat → Int) (k : Nat) : Bool := decide (listE S n H m l k n = 0) && coverB S H l m k
@[irreducible] def apartB (S : Nat → Sz) (n : Nat) (H : Nat → Hd) (m : Nat) (l : Nat → Int) (k : Nat) : Bool := decide (listE S n H m l k m = 0) && apF S H l m k 0 n
theorem res_of {b b' : Bool} {e e' : Int} (hb : b' = b) (he : e' = e) : (PV.tup [.bool b, .int .i64 e]) = .tup [.bool b', .int .i64 e'] := by rw [hb, he]
section
variable (S : Nat → Sz) (n : Nat) (hn : n ≤ 140737488355328) (H : Nat → Hd) (m : Nat) (hm : m ≤ 140737488355328) (l : Nat → Int) (k : Nat) (hk : k ≤ 140737488355328)
include hn hm hk
theorem f15_ok : Fn Try.prog 15 [.slice 17 n (fun i => (S i).enc), .slice 6 m (fun i => (H i).enc), .slice 1 k (fun i => .int .i64 (l i))] (.tup [.bool (coversB S n H m l k), .int .i64 (listE S n H m l k n)]) := by
  refine fn_of (m := {}) (k := Try.f15.ntmps - 3) fol Try.func15 rfl rfl ?_
  refine callN_pure _ _ _ ⟨rfl, rfl⟩ (f19_ok S n hn H m hm) rfl ?_
  refine condP (fun h1 => ?_) (fun h1 => ?_)
  · have h1 : ¬ checkE S n H m = 0 := by simpa using h1
    have e : listE S n H m l k n = checkE S n H m := by unfold listE; rw [if_neg h1]
    rw [res_of (b' := false) (e' := checkE S n H m) (by unfold coversB; rw [e, decide_eq_false h1]; rfl) e.symm]
    exact ⟨rfl, rfl⟩
  have h1 : checkE S n H m = 0 := by simpa using h1
  obtain ⟨n20, m40, hs⟩ := check_zero h1
  have hb : ∀ j, j < n → ∀ i, i < m → Bnd (S j) (H i) := fun j hj i hi => bnd_of (hs j hj i hi)
  refine callN_pure _ _ _ ⟨rfl, rfl⟩ (f28_ok l k hk n) rfl ?_
  refine condP (fun h2 => ?_) (fun h2 => ?_)
  · have h2 : pickB l k n = false := by simpa using h2
    have e : listE S n H m l k n = 2 := by unfold listE; rw [if_pos h1, h2]; rfl
    rw [res_of (b' := false) (e' := 2) (by unfold coversB; rw [e]; rfl) e.symm]
    exact ⟨rfl, rfl⟩
  have h2 : pickB l k n = true := by simpa using h2
  have e : listE S n H m l k n = 0 := by unfold listE; rw [if_pos h1, h2]; rfl
  rw [res_of (b' := coverB S H l m k) (e' := 0) (by unfold coversB; rw [e]; rfl) e.symm]
  obtain ⟨hl, hd⟩ := pick_in h2
  refine callN_pure _ _ _ ⟨rfl, rfl⟩ (f29_ok S n n20 H m m40 hb) rfl ?_
  refine loopN_intro fun I hle hI => ?_
  have key : ∀ i, i ≤ k → stK 45 [(1, .pv (.slice 6 m (fun i => (H i).enc))), (6, .pv (.bool false)), (7, .pv (.int .i64 0)), (9, .pv (.int .u64 (haveN S H l m i : Nat))), (10, .pv (.slice 1 n (fun j => .int .u64 (fitN S H m j : Nat)))), (27, .pv (.slice 1 k (fun i => .int .i64 (l i)))), (28, .pv (.int .i64 k)), (29, .pv (.int .i64 i))] [] I := by
    refine up_ind k fun i hi ih => ?_
    refine hI _ ?_
    refine condP (fun hc => ?_) (fun hc => ?_)
    · have hlt : i < k := by simpa using hc
      have hli := hl i hlt
      refine ⟨by simp [AllP]; omega, ?_⟩
      refine ⟨by simp [AllP]; omega, ?_⟩
      refine ⟨wrap_small (by omega) (by omega), ?_⟩
      refine hle _ _ (le_of ?_) (ih (i + 1) (Nat.lt_succ_self i) hlt)
      repeat' (first | exact Same.refl _ | exact rfl | exact congrArg (PV.int IntKind.u64) (haveN_next S H l m i m40) | refine And.intro ?_ ?_)
    · have hik : i = k := by simp at hc; omega
      subst hik
      refine callN_pure _ _ _ ⟨rfl, rfl⟩ (f30_ok _ (haveN_lt S H l m _ m40)) rfl ?_
      exact ⟨rfl, rfl⟩
  refine hle _ _ (le_of ?_) (key 0 (Nat.zero_le _))
  have hz : PV.int .u64 0 = PV.int .u64 (haveN S H l m 0 : Nat) := by rw [haveN_zero]; rfl
  repeat' (first | exact Same.refl _ | exact rfl | exact hz | refine And.intro ?_ ?_)
theorem f16_ok : Fn Try.prog 16 [.slice 17 n (fun i => (S i).enc), .slice 6 m (fun i => (H i).enc), .slice 1 k (fun i => .int .i64 (l i))] (.tup [.bool (coversB S n H m l k), .int .i64 (listE S n H m l k n)]) := by
  refine fn_of (m := {}) (k := Try.f16.ntmps - 3) fol Try.func16 rfl rfl ?_
  refine callN_pure _ _ _ ⟨rfl, rfl⟩ (f31_ok S n hn H m hm) rfl ?_
  refine condP (fun h1 => ?_) (fun h1 => ?_)
  · have h1 : ¬ checkE S n H m = 0 := by simpa using h1
    have e : listE S n H m l k n = checkE S n H m := by unfold listE; rw [if_neg h1]
    rw [res_of (b' := false) (e' := checkE S n H m) (by unfold coversB; rw [e, decide_eq_false h1]; rfl) e.symm]
    exact ⟨rfl, rfl⟩
  have h1 : checkE S n H m = 0 := by simpa using h1
  obtain ⟨n20, m40, hs⟩ := check_zero h1
  have hb : ∀ j, j < n → ∀ i, i < m → Bnd (S j) (H i) := fun j hj i hi => bnd_of (hs j hj i hi)
  refine callN_pure _ _ _ ⟨rfl, rfl⟩ (f32_ok l k hk n) rfl ?_
  rw [lst_pick]
  refine condP (fun h2 => ?_) (fun h2 => ?_)
  · have h2 : pickB l k n = false := by simpa using h2
    have e : listE S n H m l k n = 2 := by unfold listE; rw [if_pos h1, h2]; rfl
    rw [res_of (b' := false) (e' := 2) (by unfold coversB; rw [e]; rfl) e.symm]
    exact ⟨rfl, rfl⟩
  have h2 : pickB l k n = true := by simpa using h2
  have e : listE S n H m l k n = 0 := by unfold listE; rw [if_pos h1, h2]; rfl
  rw [res_of (b' := coverB S H l m k) (e' := 0) (by unfold coversB; rw [e]; rfl) e.symm]
  obtain ⟨hl, hd⟩ := pick_in h2
  refine callN_pure _ _ _ ⟨rfl, rfl⟩ (f33_ok S n hn H m hm l k hk hl hb) rfl ?_
  rw [cover_law S H l m k m40]
  exact ⟨rfl, rfl⟩
theorem f17_ok : Fn Try.prog 17 [.slice 17 n (fun i => (S i).enc), .slice 6 m (fun i => (H i).enc), .slice 1 k (fun i => .int .i64 (l i))] (.tup [.bool (apartB S n H m l k), .int .i64 (listE S n H m l k m)]) := by
  refine fn_of (m := {}) (k := Try.f17.ntmps - 3) fol Try.func17 rfl rfl ?_
  refine callN_pure _ _ _ ⟨rfl, rfl⟩ (f19_ok S n hn H m hm) rfl ?_
  refine condP (fun h1 => ?_) (fun h1 => ?_)
  · have h1 : ¬ checkE S n H m = 0 := by simpa using h1
    have e : listE S n H m l k m = checkE S n H m := by unfold listE; rw [if_neg h1]
    rw [res_of (b' := false) (e' := checkE S n H m) (by unfold apartB; rw [e, decide_eq_false h1]; rfl) e.symm]
    exact ⟨rfl, rfl⟩
  have h1 : checkE S n H m = 0 := by simpa using h1
  obtain ⟨n20, m40, hs⟩ := check_zero h1
  have hb : ∀ j, j < n → ∀ i, i < m → Bnd (S j) (H i) := fun j hj i hi => bnd_of (hs j hj i hi)
  refine callN_pure _ _ _ ⟨rfl, rfl⟩ (f28_ok l k hk m) rfl ?_
  refine condP (fun h2 => ?_) (fun h2 => ?_)
  · have h2 : pickB l k m = false := by simpa using h2
    have e : listE S n H m l k m = 2 := by unfold listE; rw [if_pos h1, h2]; rfl
    rw [res_of (b' := false) (e' := 2) (by unfold apartB; rw [e]; rfl) e.symm]
    exact ⟨rfl, rfl⟩
  have h2 : pickB l k m = true := by simpa using h2
  have e : listE S n H m l k m = 0 := by unfold listE; rw [if_pos h1, h2]; rfl
  rw [res_of (b' := apF S H l m k 0 n) (e' := 0) (by unfold apartB; rw [e]; rfl) e.symm]
  obtain ⟨hl, hd⟩ := pick_in h2
  refine loopN_intro fun I hle hI => ?_
  have key : ∀ i, i ≤ k → stK 50 [(0, .pv (.slice 17 n (fun i => (S i).enc))), (1, .pv (.slice 6 m (fun i => (H i).enc))), (6, .pv (.bool false)), (7, .pv (.int .i64 0)), (9, .pv (.int .u64 (someN l m i : Nat))), (25, .pv (.slice 1 k (fun i => .int .i64 (l i)))), (26, .pv (.int .i64 k)), (27, .pv (.int .i64 i))] [] I := by
    refine up_ind k fun i hi ih => ?_
    refine hI _ ?_
    refine condP (fun hc => ?_) (fun hc => ?_)
    · have hlt : i < k := by simpa using hc
      have hli := hl i hlt
      refine ⟨by simp [AllP]; omega, ?_⟩
      refine ⟨by simp [AllP]; omega, ?_⟩
      refine ⟨wrap_small (by omega) (by omega), ?_⟩
      refine hle _ _ (le_of ?_) (ih (i + 1) (Nat.lt_succ_self i) hlt)
      repeat' (first | exact Same.refl _ | exact rfl | exact congrArg (PV.int IntKind.u64) (someN_next l m i m40 hli) | refine And.intro ?_ ?_)
    · have hik : i = k := by simp at hc; omega
      subst hik
      refine callN_pure _ _ _ ⟨rfl, rfl⟩ (f29_ok S n n20 H m m40 hb) rfl ?_
      refine loopN_intro fun I2 hle2 hI2 => ?_
      have key2 : ∀ j, j ≤ n → apF S H l m i 0 n = apF S H l m i j (n - j) → stK 50 [(6, .pv (.bool false)), (7, .pv (.int .i64 0)), (9, .pv (.int .u64 (someN l m i : Nat))), (38, .pv (.slice 1 n (fun j => .int .u64 (fitN S H m j : Nat)))), (39, .pv (.int .i64 n)), (40, .pv (.int .i64 j))] [] I2 := by
        refine up_ind n fun j hj jh he => ?_
        refine hI2 _ ?_
        refine condP (fun hc2 => ?_) (fun hc2 => ?_)
        · have hlt2 : j < n := by simpa using hc2
          refine ⟨by simp [AllP]; omega, ?_⟩
          refine callN_pure _ _ _ ⟨rfl, rfl⟩ ((f30_ok _ (bothN_lt S H l m i j m40)).args (congrArg (PV.int IntKind.u64) (bothN_eq S H l m i j m40))) rfl ?_
          refine condP (fun hp => ?_) (fun hp => ?_)
          · refine ⟨congrArg PV.bool ?_, rfl⟩
            rw [he, show n - j = (n - j - 1) + 1 by omega, apF, hp]
            rfl
          · refine ⟨wrap_small (by omega) (by omega), ?_⟩
            refine hle2 _ _ (le_of ?_) (jh (j + 1) (Nat.lt_succ_self j) hlt2 ?_)
            · repeat' (first | exact Same.refl _ | exact rfl | refine And.intro ?_ ?_)
            · rw [he, show n - j = (n - j - 1) + 1 by omega, apF, hp]
              rfl
        · refine ⟨congrArg PV.bool ?_, rfl⟩
          have : j = n := by simp at hc2; omega
          rw [he, this, Nat.sub_self]
          rfl
      refine hle2 _ _ (le_of ?_) (key2 0 (Nat.zero_le _) rfl)
      repeat' (first | exact Same.refl _ | exact rfl | refine And.intro ?_ ?_)
  refine hle _ _ (le_of ?_) (key 0 (Nat.zero_le _))
  have hz : PV.int .u64 0 = PV.int .u64 (someN l m 0 : Nat) := by rw [someN_zero]; rfl
  repeat' (first | exact Same.refl _ | exact rfl | exact hz | refine And.intro ?_ ?_)
theorem f18_ok : Fn Try.prog 18 [.slice 17 n (fun i => (S i).enc), .slice 6 m (fun i => (H i).enc), .slice 1 k (fun i => .int .i64 (l i))] (.tup [.bool (apartB S n H m l k), .int .i64 (listE S n H m l k m)]) := by
  refine fn_of (m := {}) (k := Try.f18.ntmps - 3) fol Try.func18 rfl rfl ?_
  refine callN_pure _ _ _ ⟨rfl, rfl⟩ (f31_ok S n hn H m hm) rfl ?_
  refine condP (fun h1 => ?_) (fun h1 => ?_)
  · have h1 : ¬ checkE S n H m = 0 := by simpa using h1
    have e : listE S n H m l k m = checkE S n H m := by unfold listE; rw [if_neg h1]
    rw [res_of (b' := false) (e' := checkE S n H m) (by unfold apartB; rw [e, decide_eq_false h1]; rfl) e.symm]
    exact ⟨rfl, rfl⟩
  have h1 : checkE S n H m = 0 := by simpa using h1
  obtain ⟨n20, m40, hs⟩ := check_zero h1
  have hb : ∀ j, j < n → ∀ i, i < m → Bnd (S j) (H i) := fun j hj i hi => bnd_of (hs j hj i hi)
  refine callN_pure _ _ _ ⟨rfl, rfl⟩ (f32_ok l k hk m) rfl ?_
  rw [lst_pick]
  refine condP (fun h2 => ?_) (fun h2 => ?_)
  · have h2 : pickB l k m = false := by simpa using h2
    have e : listE S n H m l k m = 2 := by unfold listE; rw [if_pos h1, h2]; rfl
    rw [res_of (b' := false) (e' := 2) (by unfold apartB; rw [e]; rfl) e.symm]
    exact ⟨rfl, rfl⟩
  have h2 : pickB l k m = true := by simpa using h2
  have e : listE S n H m l k m = 0 := by unfold listE; rw [if_pos h1, h2]; rfl
  obtain ⟨hl, hd⟩ := pick_in h2
  rw [res_of (b' := aptF S H l n 0 k) (e' := 0) (by unfold apartB; rw [e, apart_law S H l n m k m40 hl hd]; rfl) e.symm]
  refine loopN_intro fun I hle hI => ?_
  have key : ∀ i, i ≤ k → aptF S H l n 0 k = aptF S H l n i (k - i) → stK 64 [(0, .pv (.slice 17 n (fun i => (S i).enc))), (1, .pv (.slice 6 m (fun i => (H i).enc))), (2, .pv (.slice 1 k (fun i => .int .i64 (l i)))), (6, .pv (.bool false)), (7, .pv (.int .i64 0)), (26, .pv (.slice 1 k (fun i => .int .i64 (l i)))), (27, .pv (.int .i64 k)), (28, .pv (.int .i64 i))] [] I := by
    refine up_ind k fun i hi ih he => ?_
    refine hI _ ?_
    refine condP (fun hc => ?_) (fun hc => ?_)
    · have hlt : i < k := by simpa using hc
      have hli := hl i hlt
      refine ⟨by simp [AllP]; omega, ?_⟩
      refine ⟨by simp [AllP]; omega, ?_⟩
      refine loopN_intro fun I2 hle2 hI2 => ?_
      have key2 : ∀ j, j ≤ i → rowF S H l n i 0 i = rowF S H l n i j (i - j) → stK 64 [(0, .pv (.slice 17 n (fun i => (S i).enc))), (1, .pv (.slice 6 m (fun i => (H i).enc))), (2, .pv (.slice 1 k (fun i => .int .i64 (l i)))), (6, .pv (.bool false)), (7, .pv (.int .i64 0)), (10, .pv (.int .i64 (l i))), (26, .pv (.slice 1 k (fun i => .int .i64 (l i)))), (27, .pv (.int .i64 k)), (28, .pv (.int .i64 i)), (35, .pv (.slice 1 i (fun j => .int .i64 (l (0 + j))))), (36, .pv (.int .i64 i)), (37, .pv (.int .i64 j))] [] I2 := by
        refine up_ind i fun j hj jh hr => ?_
        refine hI2 _ ?_
        refine condP (fun hc2 => ?_) (fun hc2 => ?_)
        · have hlt2 : j < i := by simpa using hc2
          have hlj := hl j (by omega)
          refine ⟨by simp [AllP]; omega, ?_⟩
          refine loopN_intro fun I3 hle3 hI3 => ?_
          have key3 : ∀ t, t ≤ n → twoF S (H (l i).toNat) (H (l (0 + j)).toNat) 0 n = twoF S (H (l i).toNat) (H (l (0 + j)).toNat) t (n - t) → stK 64 [(0, .pv (.slice 17 n (fun i => (S i).enc))), (1, .pv (.slice 6 m (fun i => (H i).enc))), (2, .pv (.slice 1 k (fun i => .int .i64 (l i)))), (6, .pv (.bool false)), (7, .pv (.int .i64 0)), (10, .pv (.int .i64 (l i))), (12, .pv (.int .i64 (l (0 + j)))), (26, .pv (.slice 1 k (fun i => .int .i64 (l i)))), (27, .pv (.int .i64 k)), (28, .pv (.int .i64 i)), (35, .pv (.slice 1 i (fun j => .int .i64 (l (0 + j))))), (36, .pv (.int .i64 i)), (37, .pv (.int .i64 j)), (41, .pv (.slice 17 n (fun i => (S i).enc))), (42, .pv (.int .i64 n)), (43, .pv (.int .i64 t))] [] I3 := by
            refine up_ind n fun t ht th hw => ?_
            refine hI3 _ ?_
            refine condP (fun hc3 => ?_) (fun hc3 => ?_)
            · have hlt3 : t < n := by simpa using hc3
              have hlj0 : 0 ≤ l (0 + j) ∧ l (0 + j) < m := by rw [Nat.zero_add]; exact hlj
              refine ⟨by simp [AllP]; omega, ?_⟩
              iterate 5 refine ⟨_, rfl, _, _, _, ⟨rfl, rfl, rfl⟩, ?_⟩
              refine ⟨_, rfl, _, _, ⟨_, fun _ => f34_ok (S t) (H (l i).toNat) (hb t hlt3 _ (by omega)), rfl, rfl⟩, ?_⟩
              refine ⟨_, rfl, _, _, _, ⟨rfl, rfl, rfl⟩, ?_⟩
              iterate 5 refine ⟨_, rfl, _, _, ⟨rfl, rfl, rfl⟩, ?_⟩
              refine ⟨_, rfl, _, _, ⟨_, fun _ => f34_ok (S t) (H (l (0 + j)).toNat) (hb t hlt3 _ (by omega)), rfl, rfl⟩, ?_⟩
              refine ⟨_, rfl, _, _, _, ⟨rfl, rfl, rfl⟩, ?_⟩
              refine ⟨by decide +kernel, ?_⟩
              refine ⟨by simp [AllP, under, hli.1, hli.2, hlj.1, hlj.2], ?_⟩
              refine condP (fun hp => ?_) (fun hp => ?_)
              · refine ⟨congrArg PV.bool ?_, rfl⟩
                have hp : (fitB (S t) (H (l i).toNat) && fitB (S t) (H (l (0 + j)).toNat)) = true := by simpa [cond_false] using hp
                have hr2 : rowF S H l n i 0 i = true := by
                  rw [hr, show i - j = (i - j - 1) + 1 by omega, rowF]
                  rw [Nat.zero_add] at hw hp
                  rw [hw, show n - t = (n - t - 1) + 1 by omega, twoF, hp]
                  rfl
                rw [he, show k - i = (k - i - 1) + 1 by omega, aptF, hr2]
                rfl
              · have hp : (fitB (S t) (H (l i).toNat) && fitB (S t) (H (l (0 + j)).toNat)) = false := by simpa [cond_false] using hp
                refine ⟨wrap_small (by omega) (by omega), ?_⟩
                refine hle3 _ _ (le_of ?_) (th (t + 1) (Nat.lt_succ_self t) hlt3 ?_)
                · repeat' (first | exact Same.refl _ | exact rfl | refine And.intro ?_ ?_)
                · rw [hw, show n - t = (n - t - 1) + 1 by omega, twoF, hp]
                  rfl
            · have htn : t = n := by simp at hc3; omega
              rw [htn, Nat.sub_self] at hw
              refine ⟨wrap_small (by omega) (by omega), ?_⟩
              refine hle2 _ _ (le_of ?_) (jh (j + 1) (Nat.lt_succ_self j) hlt2 ?_)
              · repeat' (first | exact Same.refl _ | exact rfl | refine And.intro ?_ ?_)
              · rw [hr, show i - j = (i - j - 1) + 1 by omega, rowF]
                rw [Nat.zero_add] at hw
                rw [hw]
                rfl
          refine hle3 _ _ (le_of ?_) (key3 0 (Nat.zero_le _) rfl)
          repeat' (first | exact Same.refl _ | exact rfl | refine And.intro ?_ ?_)
        · have hji : j = i := by simp at hc2; omega
          rw [hji, Nat.sub_self] at hr
          refine ⟨wrap_small (by omega) (by omega), ?_⟩
          refine hle _ _ (le_of ?_) (ih (i + 1) (Nat.lt_succ_self i) hlt ?_)
          · repeat' (first | exact Same.refl _ | exact rfl | refine And.intro ?_ ?_)
          · rw [he, show k - i = (k - i - 1) + 1 by omega, aptF, hr]
            rfl
      refine hle2 _ _ (le_of ?_) (key2 0 (Nat.zero_le _) rfl)
      repeat' (first | exact Same.refl _ | exact rfl | refine And.intro ?_ ?_)
    · refine ⟨congrArg PV.bool ?_, rfl⟩
      have : i = k := by simp at hc; omega
      rw [he, this, Nat.sub_self]
      rfl
  refine hle _ _ (le_of ?_) (key 0 (Nat.zero_le _) rfl)
  repeat' (first | exact Same.refl _ | exact rfl | refine And.intro ?_ ?_)
end
end Abs
