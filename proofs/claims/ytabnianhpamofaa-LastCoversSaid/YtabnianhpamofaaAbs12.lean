/- Single operations, seventh part: literals, makes, appends. -/
import Derived.Test.YtabnianhpamofaaAbs11
set_option linter.unusedSectionVars false
set_option linter.unusedSimpArgs false
set_option linter.unusedVariables false
namespace Abs
open Go Go.RowKit
variable [DMode]

section
variable {P : Program} {s : SS} {m : Bool} {d : Option Nat} {K : V → Option (Nat × Nat × Blk) → List Prop → Prop}

/-! ### Literals of structs and arrays -/
theorem fold_lay (vs : List Value) : ∀ (k off : Nat) (cells : Array Value), off + k + vs.length ≤ cells.size →
    (vs.zipIdx k).foldl (fun (cs : Array Value) (p : Value × Nat) => cs.setIfInBounds (off + p.2) p.1) cells = (lay cells.toList (off + k) vs).toArray := by
  induction vs with
  | nil => intro k off cells _; simp [lay_nil]
  | cons v vs ih =>
    intro k off cells h
    simp only [List.length_cons] at h
    simp only [List.zipIdx_cons, List.foldl_cons]
    rw [ih (k + 1) off _ (by simp; omega)]
    have : (cells.setIfInBounds (off + k) v).toList = cells.toList.set (off + k) v := by simp
    rw [this, ← Nat.add_assoc, lay_cons _ _ _ _ (by simp; omega)]

theorem cellsRep_lay {w : World} {G : Nat → Prop} {ρ : Nat → Option Nat} {h : Nat → Nat × Blk} {cs vs : List V} {cells us : List Value} {off : Nat} (hc : CellsRep w G ρ h cs cells) (hv : CellsRep w G ρ h vs us)
    (hfit : off + vs.length ≤ cs.length) : CellsRep w G ρ h (lay cs off vs) (lay cells off us) := by
  obtain ⟨c1, c2, c3⟩ := hc
  obtain ⟨v1, v2, v3⟩ := hv
  have hf2 : off + us.length ≤ cells.length := by omega
  refine ⟨by rw [lay_length _ _ _ hfit, lay_length _ _ _ hf2]; exact c1, fun j hj => ?_, fun v hv => ?_⟩
  · rw [lay_length _ _ _ hfit] at hj
    rw [lay_getD _ _ _ _ _ hfit, lay_getD _ _ _ _ _ hf2, v1]
    split
    · exact v2 _ (by omega)
    · exact c2 j hj
  · unfold lay at hv
    rcases List.mem_append.1 hv with hv | hv
    · rcases List.mem_append.1 hv with hv | hv
      · exact c3 v (List.mem_of_mem_take hv)
      · exact v3 v hv
    · exact c3 v (List.mem_of_mem_drop hv)

theorem fillK_elim {place : Nat → Option (Nat × Nat)} {w : World} {G : Nat → Prop} {ρ : Nat → Option Nat} {h : Nat → Nat × Blk} : ∀ {parts : List (Nat × V)} {cs : List V} {K : List V → Prop}, fillK place cs parts K →
    ∃ cs', K cs' ∧ ∀ w G ρ h (cells : Array Value) (us : List Value), CellsRep w G ρ h cs cells.toList → VReps w G ρ h (parts.map (·.2)) us →
      ∃ cells', Instr.fill place cells ((parts.map (·.1)).zip us) = some cells' ∧ CellsRep w G ρ h cs' cells'.toList
  | [], cs, K, hh => ⟨cs, hh, fun w G ρ h cells us hc hu => by
      simp only [List.map_nil, VReps] at hu
      subst hu
      exact ⟨cells, by simp [Instr.fill], hc⟩⟩
  | (i, v) :: r, cs, K, hh => by
    simp only [fillK] at hh
    split at hh
    · rename_i off n hp
      obtain ⟨vs, h1, h2⟩ := cellsOfV_elim hh
      simp only [cond_prop] at h1
      split at h1
      · rename_i hn
        rw [Bool.and_eq_true] at hn
        have hn0 : 0 < n := by simpa using hn.2
        have hn := Nat.eq_of_beq_eq_true hn.1
        obtain ⟨h3, h4⟩ := putCK_elim h1
        obtain ⟨cs', h5, h6⟩ := fillK_elim (place := place) (w := w) (G := G) (ρ := ρ) (h := h) h4
        refine ⟨cs', h5, fun w G ρ h cells us hc hu => ?_⟩
        simp only [List.map_cons, VReps] at hu
        obtain ⟨u, us', rfl, hu1, hu2⟩ := hu
        have hcell := h2 w G ρ h u hu1
        have husz : u.cells.size = n := by rw [← Array.length_toList, hcell.1, hn]
        · have h0 : vs ≠ [] := fun e => by rw [e] at hn; simp at hn; omega
          have h3 : off + vs.length ≤ cs.length := h3.resolve_left h0
          have hsz : cells.size = cs.length := by rw [← Array.length_toList]; exact hc.1
          have hul : u.cells.toList.length = n := by rw [Array.length_toList]; exact husz
          have hlay : (u.cells.zipIdx.foldl (fun (cs : Array Value) (p : Value × Nat) => cs.setIfInBounds (off + p.2) p.1) cells) = (lay cells.toList off u.cells.toList).toArray := by
            have := fold_lay u.cells.toList 0 off cells (by omega)
            rw [← Array.foldl_toList]
            simpa using this
          obtain ⟨cells', e1, e2⟩ := h6 w G ρ h (lay cells.toList off u.cells.toList).toArray us' (by simpa using cellsRep_lay hc hcell h3) hu2
          refine ⟨cells', ?_, e2⟩
          simp only [List.map_cons, List.zip_cons_cons, Instr.fill, hp, husz, ne_eq, not_true_eq_false]
          simp only [decide_false, Bool.false_or, gt_iff_lt, decide_eq_true_eq]
          rw [if_neg (by omega)]
          rw [hlay]; exact e1
      · exact h1.elim
    · exact hh.elim

theorem run_places {fs : Array Field} {w : World} (h : fs.toList.all (fun f => (szOf P f.type).isSome) = true) :
    (fs.mapM fun f => do pure (f.offset, ← Go.sizeOf f.type) : Sem (Array (Nat × Nat))).run P w = .ok (fs.map fun f => (f.offset, (szOf P f.type).getD 0)) w := by
  have key : ∀ (l : List Field), l.all (fun f => (szOf P f.type).isSome) = true → (l.mapM fun f => (do pure (f.offset, ← Go.sizeOf f.type) : Sem (Nat × Nat))).run P w = .ok (l.map fun f => (f.offset, (szOf P f.type).getD 0)) w := by
    intro l
    induction l with
    | nil => intro _; rfl
    | cons f l ih =>
      intro hl
      simp only [List.all_cons, Bool.and_eq_true] at hl
      obtain ⟨n, hn⟩ := Option.isSome_iff_exists.1 hl.1
      rw [List.mapM_cons]
      simp only [Sem.run_bind, run_siz hn, Sem.run_pure, Result.andThen_ok, ih hl.2, List.map_cons, hn, Option.getD_some]
  rw [Array.mapM_eq_mapM_toList, Sem.run_map, key fs.toList h, Result.andThen_ok]
  congr 1
  apply Array.ext'
  simp

theorem el_build {t : Nat} {parts : Array (Nat × Operand)} {A : Acc} (hA : Sub A s) (h : opK P m A d (.build t parts) K) : Elim P s (.build t parts) K := by
  simp only [opK] at h
  split at h
  · rename_i cs u hz hu
    simp only [cond_prop] at h
    split at h
    · rename_i hag
      rw [Bool.and_eq_true] at hag
      obtain ⟨hag, hall⟩ := hag
      have h := mapPvK_elim h
      obtain ⟨vs, ob, h1, _, hi, hr⟩ := rduPartsK_elim hA h
      obtain ⟨z, hz1, hz2⟩ := zeroCs_elim hz
      obtain ⟨cs', h2, h3⟩ := fillK_elim (w := default) (G := fun _ => False) (ρ := fun _ => none) (h := fun _ => (0, .gone)) h1
      obtain ⟨xs, e1, h4⟩ := pvsK_elim h2
      refine ⟨_, none, ob, h4, fun ha dst ty pos af g => .pure fun w0 F0 G ρ a w R => ?_⟩
      obtain ⟨cells', e2, e3⟩ := h3 w G ρ s.h z.cells _ (hz2 w G ρ s.h) (hr ha w0 F0 G ρ a w R)
      have hparts : (vs.map (·.1)).zip ((parts.toList.map (·.2)).map a.eval) = (parts.map fun x => (x.1, a.eval x.2)).toList := by
        rw [hi]
        simp only [Array.toList_map]
        generalize parts.toList = l
        clear h h1 hi hr
        induction l with
        | nil => rfl
        | cons x l ih => simp only [List.map_cons, List.zip_cons_cons, ih]
      rw [hparts] at e2
      refine ⟨.agg cells', ?_, ?_⟩
      · simp only [execOp, Instr.build, Sem.run_bind, hz1 w, Result.andThen_ok, run_und hu]
        cases u with
        | struct fs =>
          simp only [Sem.run_bind, run_places hall, Result.andThen_ok]
          have hpl : placeOf P t = fun i => (fs.map fun f => (f.offset, (szOf P f.type).getD 0))[i]? := by
            funext i
            simp only [placeOf, hu, getL_eq, Array.getElem?_toList, Array.getElem?_map]
            cases hf : fs[i]? with
            | none => rfl
            | some f =>
              have : (szOf P f.type).isSome = true := List.all_eq_true.1 hall f (Array.mem_toList_iff.2 (Array.mem_of_getElem? hf))
              obtain ⟨n, hn⟩ := Option.isSome_iff_exists.1 this
              simp [hn]
          rw [hpl] at e2
          simp only [Array.getElem?_map, Array.toList_map] at e2
          simp [e2]
        | array len e =>
          obtain ⟨n, hn⟩ := Option.isSome_iff_exists.1 hall
          have hpl : placeOf P t = fun i => some (i * n, n) := by
            funext i
            simp only [placeOf, hu, hn]
          rw [hpl] at e2
          simp only [Array.toList_map] at e2
          simp [run_siz hn, e2]
        | _ => cases hag
      · simp only [VRep]
        have : (Value.agg cells') = .agg cells'.toList.toArray := by simp
        rw [this]
        have hlen : cells'.toList.length = xs.length := by rw [e3.1, e1]; simp
        refine PRep.agg hlen fun i hi => ?_
        have h5 := e3.2.1 i (by rw [e1]; simpa using hi)
        rw [e1] at h5
        have h6 : (xs.map V.pv).getD i .junk = .pv (xs.getD i .unit) := by
          simp [List.getD_eq_getElem?_getD, hi]
        rw [h6] at h5
        simpa only [VRep] using h5
    · exact h.elim
  · exact h.elim
end
end Abs
