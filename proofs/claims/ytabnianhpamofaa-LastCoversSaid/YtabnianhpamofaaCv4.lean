/- Layer 3: what covers, and what is apart: said in two ways. -/
import Derived.Test.YtabnianhpamofaaCv3
set_option linter.unusedSectionVars false
set_option linter.unusedSimpArgs false
set_option linter.unusedVariables false
set_option maxRecDepth 100000
set_option maxHeartbeats 4000000
namespace Abs
open Go Go.Proofs
theorem idxF_none (p : Nat → Bool) : ∀ k i, ¬ idxF p i k ≥ 0 → ∀ j, i ≤ j → j < i + k → p j = false
  | 0, _, _, _, _, _ => by omega
  | k + 1, i, h, j, h1, h2 => by
    unfold idxF at h
    by_cases hp : p i = true
    · rw [if_pos hp] at h
      exact absurd (Int.natCast_nonneg i) h
    · rw [if_neg hp] at h
      by_cases hj : j = i
      · subst hj; simpa using hp
      · exact idxF_none p k (i + 1) h j (by omega) (by omega)
theorem anyF_none {p : Nat → Bool} {n : Nat} (h : anyF p n = false) : ∀ j, j < n → p j = false := by
  intro j hj
  exact idxF_none p n 0 (by simpa [anyF] using h) j (Nat.zero_le _) (by omega)
theorem disF_ne (num : Nat → Int) : ∀ k i, disF num i k = true → ∀ j, i ≤ j → j < i + k → ∀ q, q < j → num j ≠ num q
  | 0, _, _, _, _, _ => by omega
  | k + 1, i, h, j, h1, h2 => by
    unfold disF at h
    simp only [Bool.and_eq_true, Bool.not_eq_true'] at h
    by_cases hj : j = i
    · subst hj
      intro q hq e
      have h3 := h.1
      unfold seenB at h3
      rw [List.any_eq_false] at h3
      exact h3 q (by simpa using hq) (by simpa using e)
    · exact disF_ne num k (i + 1) h.2 j (by omega) (by omega)
theorem check_zero {S : Nat → Sz} {n : Nat} {H : Nat → Hd} {m : Nat} (h : checkE S n H m = 0) : n ≤ 20 ∧ m ≤ 40 ∧ ∀ j, j < n → ∀ i, i < m → single (S j) (H i) = 0 := by
  unfold checkE at h
  split at h
  · rename_i h1
    split at h
    · rename_i h2
      unfold validSzs at h1
      unfold validHds at h2
      simp only [Bool.and_eq_true, decide_eq_true_eq, Bool.not_eq_true'] at h1 h2
      refine ⟨by omega, by omega, fun j hj i hi => ?_⟩
      have e1 := anyF_none h1.2.1 j hj
      have e2 := anyF_none h2.2.1 i hi
      have e1 : (S j).okb = true := by simpa using e1
      have e2 : (H i).okb = true := by simpa using e2
      simp [single, e1, e2]
    · cases h
  · cases h
theorem pick_in {l : Nat → Int} {k : Nat} {n : Int} (h : pickB l k n = true) : (∀ i, i < k → 0 ≤ l i ∧ l i < n) ∧ ∀ i, i < k → ∀ q, q < i → l i ≠ l q := by
  unfold pickB at h
  simp only [Bool.and_eq_true, Bool.not_eq_true'] at h
  refine ⟨fun i hi => ?_, fun i hi => disF_ne l k 0 h.2 i (Nat.zero_le _) (by omega)⟩
  have := anyF_none h.1 i hi
  simp [outB] at this
  omega
/-- Whether one of the first i sizes of a list fits a head. -/
def covP (S : Nat → Sz) (H : Nat → Hd) (l : Nat → Int) : Nat → Nat → Bool
  | 0, _ => false
  | i + 1, q => covP S H l i q || fitB (S (l i).toNat) (H q)
theorem covP_iff (S : Nat → Sz) (H : Nat → Hd) (l : Nat → Int) (q : Nat) : ∀ i, covP S H l i q = true ↔ ∃ j, j < i ∧ fitB (S (l j).toNat) (H q) = true
  | 0 => by simp [covP]
  | i + 1 => by
    simp only [covP, Bool.or_eq_true, covP_iff S H l q i]
    constructor
    · rintro (⟨j, h1, h2⟩ | h)
      · exact ⟨j, by omega, h2⟩
      · exact ⟨i, by omega, h⟩
    · rintro ⟨j, h1, h2⟩
      by_cases hj : j = i
      · subst hj; exact .inr h2
      · exact .inl ⟨j, by omega, h2⟩
theorem cvF_iff (S : Nat → Sz) (h : Hd) (l : Nat → Int) : ∀ k i, cvF S h l i k = true ↔ ∃ j, i ≤ j ∧ j < i + k ∧ fitB (S (l j).toNat) h = true
  | 0, i => by simp [cvF]; omega
  | k + 1, i => by
    simp only [cvF, Bool.or_eq_true, cvF_iff S h l k (i + 1)]
    constructor
    · rintro (h1 | ⟨j, h1, h2, h3⟩)
      · exact ⟨i, Nat.le_refl _, by omega, h1⟩
      · exact ⟨j, by omega, by omega, h3⟩
    · rintro ⟨j, h1, h2, h3⟩
      by_cases hj : j = i
      · subst hj; exact .inl h3
      · exact .inr ⟨j, by omega, by omega, h3⟩
theorem cvsF_iff (S : Nat → Sz) (H : Nat → Hd) (l : Nat → Int) (k : Nat) : ∀ m i, cvsF S H l k i m = true ↔ ∀ q, i ≤ q → q < i + m → cvF S (H q) l 0 k = true
  | 0, i => by simp [cvsF]; omega
  | m + 1, i => by
    simp only [cvsF, Bool.and_eq_true, cvsF_iff S H l k m (i + 1)]
    constructor
    · rintro ⟨h1, h2⟩ q h3 h4
      by_cases hq : q = i
      · subst hq; exact h1
      · exact h2 q (by omega) (by omega)
    · intro h
      exact ⟨h i (Nat.le_refl _) (by omega), fun q h3 h4 => h q (by omega) (by omega)⟩
@[irreducible] def haveN (S : Nat → Sz) (H : Nat → Hd) (l : Nat → Int) (m i : Nat) : Nat := setOf (covP S H l i) m
theorem haveN_zero (S : Nat → Sz) (H : Nat → Hd) (l : Nat → Int) (m : Nat) : haveN S H l m 0 = 0 := by
  unfold haveN
  exact setOf_false m
theorem set_lt64 (p : Nat → Bool) {m : Nat} (hm : m ≤ 40) : setOf p m < 2 ^ 64 := Nat.lt_of_lt_of_le (setOf_lt p m) (Nat.pow_le_pow_right (by decide) (by omega))
theorem haveN_lt (S : Nat → Sz) (H : Nat → Hd) (l : Nat → Int) (m i : Nat) (hm : m ≤ 40) : haveN S H l m i < 2 ^ 64 := by
  unfold haveN
  exact set_lt64 _ hm
theorem haveN_next (S : Nat → Sz) (H : Nat → Hd) (l : Nat → Int) (m i : Nat) (hm : m ≤ 40) : bitop .or .u64 (haveN S H l m i : Nat) (fitN S H m (l i).toNat : Nat) = (haveN S H l m (i + 1) : Nat) := by
  unfold haveN fitN
  rw [or_u64 _ _ (set_lt64 _ hm) (set_lt64 _ hm), setOf_or]
  rfl
def coverB (S : Nat → Sz) (H : Nat → Hd) (l : Nat → Int) (m k : Nat) : Bool := decide ((pop (haveN S H l m k) : Int) = m)
theorem cover_law (S : Nat → Sz) (H : Nat → Hd) (l : Nat → Int) (m k : Nat) (hm : m ≤ 40) : cvsF S H l k 0 m = coverB S H l m k := by
  rw [Bool.eq_iff_iff, cvsF_iff]
  unfold coverB haveN
  rw [decide_eq_true_iff, pop_setOf _ _ (by omega)]
  have h1 := cnt_all (covP S H l k) m
  constructor
  · intro h
    have := h1.2 fun q hq => by
      have h2 := (cvF_iff S (H q) l k 0).1 (h q (Nat.zero_le _) (by omega))
      obtain ⟨j, _, h4, h5⟩ := h2
      exact (covP_iff S H l q k).2 ⟨j, by omega, h5⟩
    omega
  · intro h q _ hq
    have := h1.1 (by omega) q (by omega)
    obtain ⟨j, h4, h5⟩ := (covP_iff S H l q k).1 this
    exact (cvF_iff S (H q) l k 0).2 ⟨j, Nat.zero_le _, by omega, h5⟩
/-- Whether a number is among the first i of a list. -/
def inL (l : Nat → Int) (i q : Nat) : Bool := (List.range i).any fun j => decide (q = (l j).toNat)
@[irreducible] def someN (l : Nat → Int) (m i : Nat) : Nat := setOf (inL l i) m
theorem someN_zero (l : Nat → Int) (m : Nat) : someN l m 0 = 0 := by
  unfold someN
  exact setOf_false m
theorem someN_lt (l : Nat → Int) (m i : Nat) (hm : m ≤ 40) : someN l m i < 2 ^ 64 := by
  unfold someN
  exact set_lt64 _ hm
theorem someN_next (l : Nat → Int) (m i : Nat) (hm : m ≤ 40) (h : 0 ≤ l i ∧ l i < m) : bitop .or .u64 (someN l m i : Nat) (shlop .u64 1 (l i)) = (someN l m (i + 1) : Nat) := by
  have hl : l i = ((l i).toNat : Int) := by omega
  have h2 : (l i).toNat < m := by omega
  unfold someN
  rw [hl, shl_u64 _ (by omega), or_u64 _ _ (set_lt64 _ hm) (Nat.pow_lt_pow_right (by decide) (by omega)), setOf_bit _ _ _ h2]
  congr 2
  funext q
  unfold inL
  rw [List.range_succ, List.any_append]
  simp
@[irreducible] def bothN (S : Nat → Sz) (H : Nat → Hd) (l : Nat → Int) (m k j : Nat) : Nat := setOf (fun q => fitB (S j) (H q) && inL l k q) m
theorem bothN_eq (S : Nat → Sz) (H : Nat → Hd) (l : Nat → Int) (m k j : Nat) (hm : m ≤ 40) : bitop .and .u64 (fitN S H m j : Nat) (someN l m k : Nat) = (bothN S H l m k j : Nat) := by
  unfold fitN someN bothN
  rw [and_u64 _ _ (set_lt64 _ hm) (set_lt64 _ hm), setOf_and]
theorem bothN_lt (S : Nat → Sz) (H : Nat → Hd) (l : Nat → Int) (m k j : Nat) (hm : m ≤ 40) : bothN S H l m k j < 2 ^ 64 := by
  unfold bothN
  exact set_lt64 _ hm
def apF (S : Nat → Sz) (H : Nat → Hd) (l : Nat → Int) (m k : Nat) : Nat → Nat → Bool
  | _, 0 => true
  | j, n + 1 => !decide ((pop (bothN S H l m k j) : Int) > 1) && apF S H l m k (j + 1) n
theorem apF_iff (S : Nat → Sz) (H : Nat → Hd) (l : Nat → Int) (m k : Nat) : ∀ n j, apF S H l m k j n = true ↔ ∀ t, j ≤ t → t < j + n → ¬ (1 < pop (bothN S H l m k t))
  | 0, j => by simp [apF]; omega
  | n + 1, j => by
    simp only [apF, Bool.and_eq_true, apF_iff S H l m k n (j + 1), Bool.not_eq_true', decide_eq_false_iff_not]
    constructor
    · rintro ⟨h1, h2⟩ t h3 h4
      by_cases ht : t = j
      · subst ht; omega
      · exact h2 t (by omega) (by omega)
    · intro h
      refine ⟨?_, fun t h3 h4 => h t (by omega) (by omega)⟩
      have := h j (Nat.le_refl _) (by omega)
      omega
/-- Whether a size of those from t on fits the heads a and b. -/
def twoF (S : Nat → Sz) (a b : Hd) : Nat → Nat → Bool
  | _, 0 => false
  | t, n + 1 => (fitB (S t) a && fitB (S t) b) || twoF S a b (t + 1) n
theorem twoF_iff (S : Nat → Sz) (a b : Hd) : ∀ n t, twoF S a b t n = true ↔ ∃ u, t ≤ u ∧ u < t + n ∧ fitB (S u) a = true ∧ fitB (S u) b = true
  | 0, t => by simp [twoF]; omega
  | n + 1, t => by
    simp only [twoF, Bool.or_eq_true, Bool.and_eq_true, twoF_iff S a b n (t + 1)]
    constructor
    · rintro (⟨h1, h2⟩ | ⟨u, h1, h2, h3⟩)
      · exact ⟨t, Nat.le_refl _, by omega, h1, h2⟩
      · exact ⟨u, by omega, by omega, h3⟩
    · rintro ⟨u, h1, h2, h3⟩
      by_cases hu : u = t
      · subst hu; exact .inl h3
      · exact .inr ⟨u, by omega, by omega, h3⟩
def rowF (S : Nat → Sz) (H : Nat → Hd) (l : Nat → Int) (n i : Nat) : Nat → Nat → Bool
  | _, 0 => false
  | j, d + 1 => twoF S (H (l i).toNat) (H (l j).toNat) 0 n || rowF S H l n i (j + 1) d
theorem rowF_iff (S : Nat → Sz) (H : Nat → Hd) (l : Nat → Int) (n i : Nat) : ∀ d j, rowF S H l n i j d = true ↔ ∃ u, j ≤ u ∧ u < j + d ∧ twoF S (H (l i).toNat) (H (l u).toNat) 0 n = true
  | 0, t => by simp [rowF]; omega
  | d + 1, t => by
    simp only [rowF, Bool.or_eq_true, rowF_iff S H l n i d (t + 1)]
    constructor
    · rintro (h1 | ⟨u, h1, h2, h3⟩)
      · exact ⟨t, Nat.le_refl _, by omega, h1⟩
      · exact ⟨u, by omega, by omega, h3⟩
    · rintro ⟨u, h1, h2, h3⟩
      by_cases hu : u = t
      · subst hu; exact .inl h3
      · exact .inr ⟨u, by omega, by omega, h3⟩
def aptF (S : Nat → Sz) (H : Nat → Hd) (l : Nat → Int) (n : Nat) : Nat → Nat → Bool
  | _, 0 => true
  | i, d + 1 => !rowF S H l n i 0 i && aptF S H l n (i + 1) d
theorem aptF_iff (S : Nat → Sz) (H : Nat → Hd) (l : Nat → Int) (n : Nat) : ∀ d i, aptF S H l n i d = true ↔ ∀ u, i ≤ u → u < i + d → rowF S H l n u 0 u = false
  | 0, t => by simp [aptF]; omega
  | d + 1, t => by
    simp only [aptF, Bool.and_eq_true, aptF_iff S H l n d (t + 1), Bool.not_eq_true']
    constructor
    · rintro ⟨h1, h2⟩ u h3 h4
      by_cases hu : u = t
      · subst hu; exact h1
      · exact h2 u (by omega) (by omega)
    · intro h
      exact ⟨h t (Nat.le_refl _) (by omega), fun u h3 h4 => h u (by omega) (by omega)⟩
theorem inL_iff (l : Nat → Int) (i q : Nat) : inL l i q = true ↔ ∃ j, j < i ∧ q = (l j).toNat := by
  unfold inL
  rw [List.any_eq_true]
  constructor
  · rintro ⟨j, h1, h2⟩
    exact ⟨j, by simpa using h1, by simpa using h2⟩
  · rintro ⟨j, h1, h2⟩
    exact ⟨j, by simpa using h1, by simpa using h2⟩
theorem apart_law (S : Nat → Sz) (H : Nat → Hd) (l : Nat → Int) (n m k : Nat) (hm : m ≤ 40) (hl : ∀ i, i < k → 0 ≤ l i ∧ l i < m) (hd : ∀ i, i < k → ∀ q, q < i → l i ≠ l q) :
    aptF S H l n 0 k = apF S H l m k 0 n := by
  rw [Bool.eq_iff_iff, aptF_iff, apF_iff]
  constructor
  · intro h t _ ht h1
    unfold bothN at h1
    rw [pop_setOf _ _ (by omega), cnt_two] at h1
    obtain ⟨a, b, hab, hbm, ha, hb⟩ := h1
    simp only [Bool.and_eq_true, inL_iff] at ha hb
    obtain ⟨fa, i, hi, ei⟩ := ha
    obtain ⟨fb, j, hj, ej⟩ := hb
    subst ei ej
    rcases Nat.lt_trichotomy i j with h3 | h3 | h3
    · have := h j (Nat.zero_le _) (by omega)
      rw [← Bool.not_eq_true] at this
      exact this ((rowF_iff S H l n j j 0).2 ⟨i, Nat.zero_le _, by omega, (twoF_iff S _ _ n 0).2 ⟨t, Nat.zero_le _, ht, fb, fa⟩⟩)
    · subst h3; omega
    · have := h i (Nat.zero_le _) (by omega)
      rw [← Bool.not_eq_true] at this
      exact this ((rowF_iff S H l n i i 0).2 ⟨j, Nat.zero_le _, by omega, (twoF_iff S _ _ n 0).2 ⟨t, Nat.zero_le _, ht, fa, fb⟩⟩)
  · intro h i _ hi
    rw [← Bool.not_eq_true]
    intro h1
    obtain ⟨j, _, hj, h2⟩ := (rowF_iff S H l n i i 0).1 h1
    obtain ⟨t, _, ht, fa, fb⟩ := (twoF_iff S _ _ n 0).1 h2
    refine h t (Nat.zero_le _) ht ?_
    unfold bothN
    rw [pop_setOf _ _ (by omega), cnt_two]
    have hne := hd i (by omega) j (by omega)
    have li := hl i (by omega)
    have lj := hl j (by omega)
    have ia : inL l k (l i).toNat = true := (inL_iff _ _ _).2 ⟨i, by omega, rfl⟩
    have ja : inL l k (l j).toNat = true := (inL_iff _ _ _).2 ⟨j, by omega, rfl⟩
    rcases Nat.lt_or_ge (l i).toNat (l j).toNat with h3 | h3
    · exact ⟨_, _, h3, by omega, by simp [fa, ia], by simp [fb, ja]⟩
    · exact ⟨_, _, (by omega : (l j).toNat < (l i).toNat), by omega, by simp [fb, ja], by simp [fa, ia]⟩
end Abs
