/- Single operations, eighth part: slices' literals, makes, appends. -/
import Derived.Test.YtabnianhpamofaaAbs12
import Derived.Deep.Upon
import Derived.Room.Entries
set_option linter.unusedSectionVars false
set_option linter.unusedSimpArgs false
set_option linter.unusedVariables false
namespace Abs
open Go Go.RowKit
variable [DMode]

section
variable {P : Program} {s : SS} {m : Bool} {d : Option Nat} {K : V → Option (Nat × Nat × Blk) → List Prop → Prop}

theorem zeroCs_info {t : Nat} {cs : List PV} (h : zeroCs P t = some cs) : ∃ i z, P.info? t = some i ∧ i.zero = some z ∧ (∀ w, (zeroValue t).run P w = .ok z w) ∧ ∀ w G ρ hh, CellsRep w G ρ hh (cs.map V.pv) z.cells.toList := by
  obtain ⟨z', h1, h2⟩ := zeroCs_elim h
  unfold zeroCs at h
  split at h
  · rename_i i hi
    split at h
    · rename_i z hz
      have h3 : ∀ w : World, (zeroValue t).run P w = .ok z w := fun w => by simp [zeroValue, run_typ (tyi_eq hi), hz]
      have h4 : z = z' := by
        have := (h3 default).symm.trans (h1 default)
        injection this
      subst h4
      exact ⟨i, z, tyi_eq hi, hz, h1, h2⟩
    · cases h
  · cases h
theorem zeroCs_oneB {t : Nat} {cs : List PV} (h : zeroCs P t = some cs) : cs.all PV.oneB = true := by
  unfold zeroCs at h
  split at h
  · split at h
    · split at h
      · rename_i xs _
        cases ha : xs.all PV.oneB with
        | true => rw [ha] at h; simp only [cond_true, Option.some.injEq] at h; rw [← h]; exact ha
        | false => rw [ha] at h; cases h
      · rename_i x _ _
        cases ha : x.oneB with
        | true => rw [ha] at h; simp only [cond_true, Option.some.injEq] at h; rw [← h]; simp [ha]
        | false => rw [ha] at h; cases h
      · cases h
    · cases h
  · cases h
theorem cells_of_oneB {x : PV} (h : x.oneB = true) : x.cells = [x] := by cases x <;> first | rfl | simp [PV.oneB] at h

/-- The cells of a new array, element by element. -/
theorem litElems_elim {sz : Nat} (h0 : 0 < sz) : ∀ {i0 : Nat} {vs : List (Nat × V)} {xs : List PV}, litElems sz i0 vs = some xs →
    (∀ i, i < xs.length → (xs.getD i .unit).cells.length = sz) ∧ ∀ w G ρ h (cells : Array Value) (us : List Value), VReps w G ρ h (vs.map (·.2)) us → (i0 + xs.length) * sz ≤ cells.size →
      ∃ cells', Instr.fill (fun i => some (i * sz, sz)) cells ((vs.map (·.1)).zip us) = some cells' ∧ cells'.size = cells.size ∧ (∀ k, k < i0 * sz → cells'.getD k undef = cells.getD k undef) ∧
        ∀ i j, i < xs.length → j < sz → PRep w G (cells'.getD ((i0 + i) * sz + j) undef) ((xs.getD i .unit).cells.getD j .unit) ∧ (cells'.getD ((i0 + i) * sz + j) undef).oneCell' = true
  | i0, [], xs, hh => by
    simp only [litElems, Option.some.injEq] at hh
    subst hh
    refine ⟨fun i hi => by simp at hi, fun w G ρ h cells us hu _ => ?_⟩
    simp only [List.map_nil, VReps] at hu
    subst hu
    exact ⟨cells, by simp [Instr.fill], rfl, fun k _ => rfl, fun i j hi => by simp at hi⟩
  | i0, (kk, .pv x) :: r, xs, hh => by
    simp only [litElems] at hh
    split at hh
    · rename_i ys hb hr
      cases hh
      simp only [Bool.and_eq_true] at hb
      obtain ⟨hk, hl, hall⟩ := hb
      have hk := Nat.eq_of_beq_eq_true hk
      have hl := Nat.eq_of_beq_eq_true hl
      subst hk
      obtain ⟨ih1, ih2⟩ := litElems_elim h0 hr
      refine ⟨fun i hi => ?_, fun w G ρ h cells us hu hsz => ?_⟩
      · cases i with
        | zero => simpa using hl
        | succ i => simpa using ih1 i (by simpa using hi)
      · simp only [List.map_cons, VReps] at hu
        obtain ⟨u, us', rfl, hu1, hu2⟩ := hu
        simp only [VRep] at hu1
        obtain ⟨y1, y2, y3⟩ := prep_cells hu1 hall
        have husz : u.cells.size = sz := by rw [← Array.length_toList, y1, hl]
        simp only [List.length_cons] at hsz
        have hb2 : i0 * sz + sz ≤ cells.size := by
          have : (i0 + 1) * sz ≤ (i0 + (ys.length + 1)) * sz := Nat.mul_le_mul_right _ (by omega)
          rw [Nat.succ_mul] at this; omega
        have hul : u.cells.toList.length = sz := by rw [y1, hl]
        have e4 : i0 * sz + u.cells.toList.length ≤ cells.toList.length := by simp only [Array.length_toList] at hul ⊢; omega
        have hlay : (u.cells.zipIdx.foldl (fun (cs : Array Value) (p : Value × Nat) => cs.setIfInBounds (i0 * sz + p.2) p.1) cells) = (lay cells.toList (i0 * sz) u.cells.toList).toArray := by
          have := fold_lay u.cells.toList 0 (i0 * sz) cells (by omega)
          rw [← Array.foldl_toList]
          simpa using this
        have hlen : (lay cells.toList (i0 * sz) u.cells.toList).length = cells.size := by rw [lay_length _ _ _ e4, Array.length_toList]
        obtain ⟨cells', f1, f2, f3, f4⟩ := ih2 w G ρ h (lay cells.toList (i0 * sz) u.cells.toList).toArray us' hu2 (by
          show (i0 + 1 + ys.length) * sz ≤ (lay cells.toList (i0 * sz) u.cells.toList).length
          rw [hlen, show i0 + 1 + ys.length = i0 + (ys.length + 1) by omega]; exact hsz)
        have gd : ∀ k, (lay cells.toList (i0 * sz) u.cells.toList).toArray.getD k undef = if i0 * sz ≤ k ∧ k < i0 * sz + sz then u.cells.toList.getD (k - i0 * sz) undef else cells.getD k undef := by
          intro k
          have e1 : (lay cells.toList (i0 * sz) u.cells.toList).toArray.getD k undef = (lay cells.toList (i0 * sz) u.cells.toList).getD k undef := by simp [List.getD_eq_getElem?_getD, Array.getD_eq_getD_getElem?]
          rw [e1, lay_getD (l := cells.toList) _ _ _ _ e4, hul]
          split
          · rfl
          · simp [List.getD_eq_getElem?_getD, Array.getD_eq_getD_getElem?]
        have hms : (i0 + 1) * sz = i0 * sz + sz := Nat.succ_mul _ _
        refine ⟨cells', ?_, by rw [f2]; simpa using hlen, fun k hk => ?_, fun i j hi hj => ?_⟩
        · simp only [List.map_cons, List.zip_cons_cons, Instr.fill, husz, ne_eq, not_true_eq_false]
          simp only [decide_false, Bool.false_or, gt_iff_lt, decide_eq_true_eq]
          rw [if_neg (by omega)]
          rw [hlay]; exact f1
        · rw [f3 k (by omega), gd k, if_neg (by omega)]
        · cases i with
          | zero =>
            have e1 := f3 (i0 * sz + j) (by omega)
            rw [Nat.add_zero, e1, gd, if_pos ⟨by omega, by omega⟩, show i0 * sz + j - i0 * sz = j by omega]
            refine ⟨by simpa using y2 j (by omega), y3 _ ?_⟩
            have hj2 : j < u.cells.toList.length := by omega
            rw [List.getD_eq_getElem?_getD, List.getElem?_eq_getElem hj2]
            exact List.getElem_mem hj2
          | succ i =>
            have := f4 i j (by simpa using hi) hj
            rw [show i0 + (i + 1) = i0 + 1 + i by omega]
            simpa using this
    · cases hh
  | _, (_, .junk) :: _, _, hh => by simp only [litElems] at hh; cases hh
  | _, (_, .cond _ _) :: _, _, hh => by simp only [litElems] at hh; cases hh
  | _, (_, .ptr _ _ _) :: _, _, hh => by simp only [litElems] at hh; cases hh
  | _, (_, .eptr _ _ _ _ _) :: _, _, hh => by simp only [litElems] at hh; cases hh
  | _, (_, .sl _ _ _ _ _) :: _, _, hh => by simp only [litElems] at hh; cases hh
  | _, (_, .csl _ _ _ _ _) :: _, _, hh => by simp only [litElems] at hh; cases hh
  | _, (_, .mp _ _) :: _, _, hh => by simp only [litElems] at hh; cases hh
  | _, (_, .fn _ _) :: _, _, hh => by simp only [litElems] at hh; cases hh
  | _, (_, .tup _) :: _, _, hh => by simp only [litElems] at hh; cases hh

theorem ofElems_getD {xs : List PV} {i : Nat} (h : i < xs.length) : ofElems xs i = xs.getD i .unit := by
  unfold ofElems
  split
  · have : i = 0 := by simpa using h
    subst this; rfl
  · rfl

theorem sl_new {w : World} {G : Nat → Prop} {ρ : Nat → Option Nat} {h : Nat → Nat × Blk} {id ver sz n cap : Nat} {blk : Blk} {b : Nat} {c : Array Value} {e : TypeId} (hc : w.heap[b]? = some (.cells c e (0, 0))) (hle : n ≤ cap) (hsz : cap * sz = c.size) :
    VRep w G (updR ρ id (some b)) (updF h id ver blk) (.sl id ver sz 0 n) (.slice (some ⟨b, 0, none⟩) n cap) := by
  simp only [VRep, updF_same]
  exact ⟨rfl, Nat.le_refl _, fun _ => .inr ⟨b, cap, c, e, updR_same _ _ _, by rw [Nat.zero_mul], hle, hc, by rw [Nat.zero_add]; exact hsz⟩⟩

theorem el_buildSlice {t len : Nat} {parts : Array (Nat × Operand)} {A : Acc} (hA : Sub A s) (h : opK P m A d (.buildSlice t len parts) K) : Elim P s (.buildSlice t len parts) K := by
  simp only [opK] at h
  split at h
  · rename_i d e hu
    split at h
    · rename_i sz hsz
      obtain ⟨vs, ob, h1, _, hi, hr⟩ := rduPartsK_elim hA h
      split at h1
      · rename_i xs hxs
        simp only [cond_prop] at h1
        split at h1
        · rename_i hc
          simp only [Bool.and_eq_true] at hc
          obtain ⟨hl, hbig, h0, hz⟩ := hc
          have hl := Nat.eq_of_beq_eq_true hl
          have hbig := Nat.le_of_ble_eq_true hbig
          have h0 : 0 < sz := by simpa using h0
          obtain ⟨zs, hz⟩ := Option.isSome_iff_exists.1 hz
          obtain ⟨i, z, z1, z2, z3, z4⟩ := zeroCs_info hz
          replace h1 := hA.hd _ _ h1
          refine ⟨_, _, ob, h1, fun ha dst ty pos af g => fun w0 F0 G ρ a w R => ?_⟩
          obtain ⟨l1, l2⟩ := litElems_elim h0 hxs
          have hms : (0 + xs.length) * sz = len * sz := by rw [Nat.zero_add, hl]
          obtain ⟨cells', f1, f2, _, f4⟩ := l2 w G ρ s.h ((Array.range (len * sz)).map (fun k => (if len * sz = 0 then #[] else z.cells)[k % (if len * sz = 0 then #[] else z.cells).size]!)) _ (hr ha w0 F0 G ρ a w R) (by rw [hms]; simp)
          have hparts : (vs.map (·.1)).zip ((parts.toList.map (·.2)).map a.eval) = (parts.map fun x => (x.1, a.eval x.2)).toList := by
            rw [hi]
            simp only [Array.toList_map]
            generalize parts.toList = l
            clear h h1 hi hr
            induction l with
            | nil => rfl
            | cons x l ih => simp only [List.map_cons, List.zip_cons_cons, ih]
          rw [hparts] at f1
          simp only [Array.toList_map] at f1
          have hcs : cells'.size = len * sz := by rw [f2]; simp
          have hrun : (Instr.buildSlice t len (parts.map fun x => (x.1, a.eval x.2))).run P w = .ok (.slice (some ⟨w.heap.size, 0, none⟩) len len) (w.alloc (.cells cells' e)) := by
            have nb : ¬ (16777216 < len * sz) := by omega
            by_cases hlen : len * sz = 0
            · have hr0 : ((Array.range (len * sz)).map (fun k => (if len * sz = 0 then #[] else z.cells)[k % (if len * sz = 0 then #[] else z.cells).size]!)) = #[] := by rw [hlen]; apply Array.ext'; simp
              rw [hr0] at f1
              have hr1 : ((Array.range (len * sz)).map (fun k => (#[] : Array Value)[k % (#[] : Array Value).size]!)) = #[] := by rw [hlen]; apply Array.ext'; simp
              simp only [Instr.buildSlice, Sem.run_bind, run_und hu, Result.andThen_ok, run_siz hsz, nb, gt_iff_lt, if_false]
              rw [if_pos hlen]
              simp only [Sem.run_bind, Sem.run_pure, Result.andThen_ok, hr1]
              simp [f1, newRow]
            · simp only [hlen, if_false] at f1
              simp only [Instr.buildSlice, Sem.run_bind, run_und hu, Result.andThen_ok, run_siz hsz, nb, gt_iff_lt, hlen, if_false, z3 w]
              simp [f1, newRow, nb, hlen, z3 w]
          refine ⟨.slice (some ⟨w.heap.size, 0, none⟩) len len, w.alloc (.cells cells' e), G, _, .inl ?_, R.new d (.cells cells' e) (.arr sz len (ofElems xs)) ?_, sl_new (alloc_heap _ _) (Nat.le_refl _) hcs.symm⟩
          · simp only [execOp, Sem.run_bind, hrun, Result.andThen_ok, Sem.run_pure]
          · simp only [BRep]
            refine .inr ⟨_, cells', e, rfl, alloc_heap _ _, by omega, ?_, h0, fun i hi => ?_, fun i j hi hj => ?_, fun i j hi hj => ?_⟩
            · have : len * 1 ≤ len * sz := Nat.mul_le_mul_left _ h0
              omega
            · rw [ofElems_getD (by omega)]; exact l1 i (by omega)
            · have := (f4 i j (by omega) hj).2
              rwa [Nat.zero_add] at this
            · have := (f4 i j (by omega) hj).1
              rw [Nat.zero_add] at this
              rw [ofElems_getD (by omega)]
              exact this.mono (R.keepsNew d (.cells cells' e) (.arr sz len (ofElems xs))).heap (fun _ hb => hb)
        · exact h1.elim
      · exact h1.elim
    · exact h.elim
  · exact h.elim

theorem el_makeMap {t : Nat} {A : Acc} (hA : Sub A s) (h : opK P m A d (.makeMap t none) K) : Elim P s (.makeMap t none) K := by
  simp only [opK] at h
  split at h
  · rename_i d
    replace h := hA.hd _ _ h
    refine ⟨_, _, _, h, fun ha dst ty pos af g => fun w0 F0 G ρ a w R => ?_⟩
    refine ⟨.map (some w.heap.size), w.alloc (.map #[] 0), G, _, .inl (by simp [execOp, Instr.makeMap]), R.new d (.map #[] 0) (.map []) ?_, ?_⟩
    · simp only [BRep]
      exact ⟨_, #[], 0, rfl, alloc_heap _ _, rfl, fun i hi => by simp at hi, fun i hi => by simp at hi⟩
    · simp only [VRep, SS.upd, updF_same]
      exact ⟨rfl, Nat.le_refl _, fun _ => ⟨_, updR_same _ _ _, rfl⟩⟩
  · exact h.elim

theorem zeroOf_cells {agg : Bool} {cs : List PV} {sz : Nat} (hone : cs.all PV.oneB = true) (h1 : cs.length = sz) (h2 : (zeroOf agg cs).cells.length = sz) (h0 : 0 < sz) : (zeroOf agg cs).cells = cs := by
  cases agg with
  | true => rfl
  | false =>
    cases cs with
    | nil => simp at h1; omega
    | cons x r =>
      simp only [List.all_cons, Bool.and_eq_true] at hone
      simp only [zeroOf] at h2 ⊢
      rw [cells_of_oneB hone.1] at h2 ⊢
      simp at h1 h2
      have : r = [] := List.length_eq_zero_iff.1 (by omega)
      rw [this]

theorem madeCells_getD {z : Array Value} {n i j sz : Nat} (hz : z.size = sz) (hj : j < sz) (hi : i * sz + j < n) : (madeCells z n).getD (i * sz + j) undef = z.getD j undef := by
  have h1 : (i * sz + j) % sz = j := by rw [Nat.mul_comm, Nat.mul_add_mod]; exact Nat.mod_eq_of_lt hj
  have h2 : j < z.size := by omega
  simp [madeCells, Array.getD_eq_getD_getElem?, hi, hz, h1]
  rw [getElem!_pos z j h2, getElem?_pos z j h2]; rfl

theorem bounded_le {n B : Nat} (h : bounded n B) (hB : 0 < B) : n ≤ 70368744177664 := by
  unfold bounded most at h
  have : n * 1 ≤ n * B := Nat.mul_le_mul_left _ hB
  omega

theorem el_makeSlice {t : Nat} {l c : Operand} {A : Acc} (hA : Sub A s) (h : opK P m A d (.makeSlice t l c) K) : Elim P s (.makeSlice t l c) K := by
  simp only [opK] at h
  split at h
  · rename_i d e hu
    split at h
    · rename_i cs sz ti u hz hsz hti hue
      obtain ⟨vl, ob1, h1, hs1, hr1⟩ := rduK_elim hA h
      obtain ⟨vc, ob2, h2, hs2, hr2⟩ := rduK_elim hA h1
      split at h2
      · rename_i ka x kb y
        simp only [cond_prop] at h2
        replace h2 := hA.hd _ _ h2
        simp only [SS.acc] at h2
        split at h2
        · rename_i hc
          simp only [Bool.and_eq_true] at hc
          obtain ⟨hl, h0, hzl⟩ := hc
          have hl := Nat.eq_of_beq_eq_true hl
          have hzl := Nat.eq_of_beq_eq_true hzl
          have h0 : 0 < sz := by simpa using h0
          obtain ⟨i, z, z1, z2, z3, z4⟩ := zeroCs_info hz
          have hi : i = ti := by have := tyi_eq hti; rw [z1] at this; simpa using this
          subst hi
          have hone := zeroCs_oneB hz
          have hzc := zeroOf_cells hone hl hzl h0
          refine ⟨_, _, _, h2, fun ha dst ty pos af g => fun w0 F0 G ρ a w R => ?_⟩
          obtain ⟨hab, ha⟩ := allL_cons ha
          obtain ⟨ha0, ha⟩ := allL_cons ha
          obtain ⟨hbd, ha⟩ := allL_cons ha
          have e1 := vint (hr1 (hs2 ha) w0 F0 G ρ a w R)
          have e2 := vint (hr2 ha w0 F0 G ρ a w R)
          have hsi : i.size = sz := by obtain ⟨i', q1, q2⟩ := szOf_eq hsz; rw [z1] at q1; cases q1; exact q2
          have hB : sz ≤ Nat.max i.bytes sz := Nat.le_max_right _ _
          have hyn := bounded_le hbd (by omega)
          have hby : i.bytes * y.toNat ≤ 70368744177664 := by
            have h3 : y.toNat * i.bytes ≤ y.toNat * Nat.max i.bytes sz := Nat.mul_le_mul_left _ (Nat.le_max_left _ _)
            unfold bounded most at hbd
            rw [Nat.mul_comm]; omega
          have hyy : ((y.toNat : Nat) : Int) = y := by omega
          have hrun := run_make (P := P) w t e i z (und_eq hu) z1 z2 ka kb x y ha0 hab (by rw [← hyy]; have : ((i.bytes * y.toNat : Nat) : Int) ≤ 281474976710656 := by omega
                                                                                           rwa [Int.natCast_mul] at this) (by omega)
          rw [hsi] at hrun
          have hzsz : z.cells.size = sz := by
            have := (z4 w G ρ s.h).1
            rw [Array.length_toList] at this
            rw [this]; simpa using hl
          have hxy : x.toNat ≤ y.toNat := by omega
          have hle : x.toNat * sz ≤ y.toNat * sz := Nat.mul_le_mul_right _ hxy
          refine ⟨_, w.alloc (.cells (madeCells z.cells (y.toNat * sz)) e), G, _, .inl ?_, R.new d (.cells (madeCells z.cells (y.toNat * sz)) e) (.arr sz x.toNat fun _ => zeroOf (aggB u) cs) ?_, sl_new (alloc_heap _ _) hxy (size_madeCells _ _).symm⟩
          · simp only [execOp, e1, e2, Sem.run_bind, hrun, Result.andThen_ok, Sem.run_pure]
          · simp only [BRep]
            have gd : ∀ i' j, i' < x.toNat → j < sz → (madeCells z.cells (y.toNat * sz)).getD (i' * sz + j) undef = z.cells.getD j undef := fun i' j hi' hj => madeCells_getD hzsz hj (by
              have : (i' + 1) * sz ≤ x.toNat * sz := Nat.mul_le_mul_right _ hi'
              rw [Nat.succ_mul] at this; omega)
            have zc : ∀ j, j < sz → VRep w G ρ s.h (.pv (cs.getD j .unit)) (z.cells.getD j undef) := fun j hj => by
              have h5 := (z4 w G ρ s.h).2.1 j (by simpa [hl] using hj)
              have h6 : (cs.map V.pv).getD j .junk = .pv (cs.getD j .unit) := by
                have : j < cs.length := by omega
                simp [List.getD_eq_getElem?_getD, this]
              rw [h6] at h5
              have h7 : z.cells.toList.getD j undef = z.cells.getD j undef := by simp [List.getD_eq_getElem?_getD, Array.getD_eq_getD_getElem?]
              rwa [h7] at h5
            refine .inr ⟨_, _, e, rfl, alloc_heap _ _, by rw [size_madeCells]; exact hle, by omega, h0, fun i _ => hzl, fun i' j hi' hj => ?_, fun i' j hi' hj => ?_⟩
            · rw [gd i' j hi' hj]
              have h5 := zc j hj
              simp only [VRep] at h5
              refine oneCell_of_oneB h5 ?_
              have : j < cs.length := by omega
              have hm : cs.getD j .unit ∈ cs := by rw [List.getD_eq_getElem?_getD, List.getElem?_eq_getElem this]; exact List.getElem_mem this
              exact List.all_eq_true.1 hone _ hm
            · rw [gd i' j hi' hj, hzc]
              have h5 := zc j hj
              simp only [VRep] at h5
              exact h5.mono (R.keepsNew d (.cells (madeCells z.cells (y.toNat * sz)) e) (.arr sz x.toNat fun _ => zeroOf (aggB u) cs)).heap (fun _ hb => hb)
        · exact h2.elim
      · exact h2.elim
    · exact h.elim
  · exact h.elim
end
end Abs
