/- What the arguments of a law read as; a law's statement out of its contract. -/
import Derived.Test.YtabnianhpamofaaAbs21
import Derived.ProofKit
import Derived.OpenShut
import Derived.SizedLaws
import Derived.Deep.Slices
set_option linter.unusedSectionVars false
set_option linter.unusedSimpArgs false
set_option linter.unusedVariables false
namespace Abs
open Go Go.RowKit Go.ChangeShapes Go.WideShapes Go.ChangeAt
variable [DMode]

/-- The kind of a cell of plain data. -/
inductive CK
  | int (k : IntKind)
  | bool
def CK.ok : CK → PV → Prop
  | .int k, x => ∃ n, x = .int k n ∧ (Lit.int k n).wf = true
  | .bool, x => ∃ b, x = .bool b
def repCK (ks : List CK) : Nat → List CK
  | 0 => []
  | n + 1 => ks ++ repCK ks n
mutual
/-- The cells of a type of plain data. -/
def ckOf (P : Program) : Nat → TypeId → Option (List CK)
  | 0, _ => none
  | n + 1, t => match und P t with
    | some (.int k) => some [.int k]
    | some .bool => some [.bool]
    | some (.array len e) => match ckOf P n e, szOf P e, szOf P t with
      | some ks, some sz, some st => cond (Nat.beq ks.length sz && Nat.beq st (len * sz)) (some (repCK ks len)) none
      | _, _, _ => none
    | some (.struct fs) => match ckFields P n fs.toList [], szOf P t with
      | some ks, some st => cond (Nat.beq ks.length st) (some ks) none
      | _, _ => none
    | _ => none
def ckFields (P : Program) : Nat → List Field → List CK → Option (List CK)
  | _, [], acc => some acc
  | 0, _ :: _, _ => none
  | n + 1, f :: fs, acc => match ckOf P n f.type, szOf P f.type with
    | some ks, some sz => cond (Nat.beq f.offset acc.length && Nat.beq ks.length sz) (ckFields P n fs (acc ++ ks)) none
    | _, _ => none
end
/-- What an argument looks like. -/
inductive Sh
  | flat (agg : Bool) (ks : List CK)
  | slice (e : Sh)
def Sh.sz : Sh → Nat
  | .flat _ ks => ks.length
  | .slice _ => 1
def shOf (P : Program) : Nat → TypeId → Option Sh
  | 0, _ => none
  | n + 1, t => match und P t with
    | some (.slice e) => match shOf P n e, tyi P e with
      | some s, some i => cond (Nat.blt 0 i.bytes && (Nat.beq i.size s.sz && Nat.blt 0 s.sz)) (some (.slice s)) none
      | _, _ => none
    | some u => match ckOf P 12 t with
      | some ks => cond (aggB u || Nat.beq ks.length 1) (some (.flat (aggB u) ks)) none
      | none => none
    | none => none
def Sh.ok : Sh → PV → Prop
  | .flat false ks, x => ∃ k, ks = [k] ∧ k.ok x
  | .flat true ks, x => ∃ xs, x = .agg xs ∧ xs.length = ks.length ∧ ∀ j, j < ks.length → (ks.getD j .bool).ok (xs.getD j .unit)
  | .slice e, x => ∃ n f, x = .slice e.sz n f ∧ n ≤ 140737488355328 ∧ ∀ i, i < n → e.ok (f i)
def CK.okV : CK → Value → Prop
  | .int k, v => ∃ n, v = .int k n ∧ (Lit.int k n).wf = true
  | .bool, v => ∃ b, v = .bool b

theorem len_repCK (ks : List CK) : ∀ n, (repCK ks n).length = n * ks.length
  | 0 => by simp [repCK]
  | n + 1 => by simp [repCK, len_repCK ks n, Nat.succ_mul, Nat.add_comm]
theorem get_repCK (ks : List CK) : ∀ n i j, i < n → j < ks.length → (repCK ks n).getD (i * ks.length + j) .bool = ks.getD j .bool
  | 0, i, j, hi, _ => by omega
  | n + 1, 0, j, hi, hj => by simp [repCK, List.getD, List.getElem?_append_left hj]
  | n + 1, i + 1, j, hi, hj => by
    have := get_repCK ks n i j (by omega) hj
    simp only [repCK]
    rw [List.getD, List.getElem?_append_right (by rw [Nat.succ_mul]; omega)]
    rw [show (i + 1) * ks.length + j - ks.length = i * ks.length + j by rw [Nat.succ_mul]; omega]
    exact this

section
variable {H : Type} {enc : TypeId × Value → H} {P : Program} {w : World} {sp : Nat → Bool} {held : Bool}

theorem cellsOf_of {t n : Nat} (h : szOf P t = some n) : P.cellsOf t = n := by
  obtain ⟨i, h1, h2⟩ := szOf_eq h
  simp [Program.cellsOf, h1, h2]

def CkT (enc : TypeId × Value → H) (P : Program) (w : World) (sp : Nat → Bool) (held : Bool) (t : TypeId) (ks : List CK) : Prop :=
  ∀ (fuel : Nat) (cs : List Value) (x : DataW H × List MemPlace), DataW.trod enc P w 0 sp held fuel t cs = some x → cs.length = ks.length ∧ ∀ j, j < ks.length → (ks.getD j .bool).okV (cs.getD j undef)

mutual
theorem ckT_of : ∀ {n t : Nat} {ks : List CK}, ckOf P n t = some ks → CkT enc P w sp held t ks
  | 0, _, _, h => by simp [ckOf] at h
  | n + 1, t, ks, h => by
    intro fuel cs x hx
    unfold ckOf at h
    split at h
    · rename_i k hu
      cases h
      obtain ⟨m, rfl, _, hw⟩ := DataW.trod_int (und_eq hu) hx
      exact ⟨rfl, fun j hj => by
        have : j = 0 := by simp at hj; exact hj
        subst this
        exact ⟨m, rfl, hw⟩⟩
    · rename_i hu
      cases h
      obtain ⟨b, rfl, _⟩ := DataW.trod_bool (und_eq hu) hx
      exact ⟨rfl, fun j hj => by
        have : j = 0 := by simp at hj; exact hj
        subst this
        exact ⟨b, rfl⟩⟩
    · rename_i len e hu
      split at h
      · rename_i ks' sz st h1 h2 h3
        simp only [cond_eq_ite] at h
        split at h
        · rename_i hb
          rw [Bool.and_eq_true] at hb
          have b1 := Nat.eq_of_beq_eq_true hb.1
          have b2 := Nat.eq_of_beq_eq_true hb.2
          cases h
          obtain ⟨xs, m, _, _, hl, hxl, hel⟩ := DataW.trod_array (und_eq hu) hx
          rw [cellsOf_of h3] at hl
          rw [cellsOf_of h2] at hel
          refine ⟨by rw [len_repCK, hl, b2, b1], fun j hj => ?_⟩
          rw [len_repCK] at hj
          have hs0 : 0 < ks'.length := by
            rcases Nat.eq_zero_or_pos ks'.length with h0 | h0
            · rw [h0] at hj; omega
            · exact h0
          have hi : j / ks'.length < len := by
            rw [Nat.div_lt_iff_lt_mul hs0]; exact hj
          have hr : j % ks'.length < ks'.length := Nat.mod_lt _ hs0
          have hj' : j = j / ks'.length * ks'.length + j % ks'.length := by
            have := Nat.div_add_mod j ks'.length
            rw [Nat.mul_comm] at this; exact this.symm
          have h4 := hel _ hi
          rw [List.getElem?_eq_getElem (by omega)] at h4
          obtain ⟨h5, h6⟩ := ckT_of h1 _ _ _ h4
          have h7 := h6 _ hr
          rw [hj', get_repCK ks' len _ _ hi hr]
          have h8 : ((cs.drop (j / ks'.length * sz)).take sz).getD (j % ks'.length) undef = cs.getD (j / ks'.length * ks'.length + j % ks'.length) undef := by
            rw [b1] at hr ⊢
            simp only [List.getD, List.getElem?_take, List.getElem?_drop]
            rw [if_pos hr]
          rw [← h8]; exact h7
        · cases h
      · cases h
    · rename_i fs hu
      split at h
      · rename_i ks' st h1 h2
        simp only [cond_eq_ite] at h
        split at h
        · rename_i hb
          have b1 := Nat.eq_of_beq_eq_true hb
          cases h
          obtain ⟨xs, m, _, _, hl, hxl, hel⟩ := DataW.trod_struct (und_eq hu) hx
          rw [cellsOf_of h2] at hl
          refine ⟨by rw [hl, b1], ?_⟩
          have := ckF_of h1 (cs := cs) (fun f hf => ?_) (by intro j hj; simp at hj)
          · exact this
          · obtain ⟨i, hi, he⟩ := List.getElem_of_mem hf
            have h3 := hel i f (by rw [← he]; simp)
            have hix : i < xs.length := by rw [hxl]; simpa using hi
            rw [List.getElem?_eq_getElem hix] at h3
            exact ⟨m, _, h3⟩
        · cases h
      · cases h
    · cases h
theorem ckF_of : ∀ {n : Nat} {fs : List Field} {acc ks : List CK}, ckFields P n fs acc = some ks → ∀ {cs : List Value},
    (∀ f ∈ fs, ∃ fuel x, DataW.trod enc P w 0 sp held fuel f.type ((cs.drop f.offset).take (P.cellsOf f.type)) = some x) → (∀ j, j < acc.length → (acc.getD j .bool).okV (cs.getD j undef)) →
    ∀ j, j < ks.length → (ks.getD j .bool).okV (cs.getD j undef)
  | n, [], acc, ks, h, cs, _, ha => by
    unfold ckFields at h
    cases h
    exact ha
  | 0, _ :: _, _, _, h, _, _, _ => by simp [ckFields] at h
  | n + 1, f :: fs, acc, ks, h, cs, hf, ha => by
    unfold ckFields at h
    split at h
    · rename_i kf sz h1 h2
      simp only [cond_eq_ite] at h
      split at h
      · rename_i hb
        rw [Bool.and_eq_true] at hb
        have b1 := Nat.eq_of_beq_eq_true hb.1
        have b2 := Nat.eq_of_beq_eq_true hb.2
        refine ckF_of h (fun g hg => hf g (by simp [hg])) (fun j hj => ?_)
        by_cases hj' : j < acc.length
        · rw [List.getD, List.getElem?_append_left hj']; exact ha j hj'
        · obtain ⟨fuel, x, hx⟩ := hf f (by simp)
          rw [cellsOf_of h2] at hx
          obtain ⟨_, h4⟩ := ckT_of h1 _ _ _ hx
          have hjk : j - acc.length < kf.length := by simp at hj; omega
          have h5 := h4 _ hjk
          rw [List.getD, List.getElem?_append_right (by omega)]
          have h6 : ((cs.drop f.offset).take sz).getD (j - acc.length) undef = cs.getD j undef := by
            simp only [List.getD, List.getElem?_take, List.getElem?_drop]
            rw [if_pos (by omega), b1, show acc.length + (j - acc.length) = j by omega]
          rw [h6] at h5
          exact h5
      · cases h
    · cases h
end

theorem CK.prep {k : CK} {v : Value} (h : k.okV v) (F : Nat → Prop) : v.oneCell' = true ∧ ∃ x, k.ok x ∧ x.cells.length = 1 ∧ x.cells.getD 0 .unit = x ∧ PRep w F v x := by
  cases k with
  | int k => obtain ⟨n, rfl, hw⟩ := h; exact ⟨rfl, _, ⟨n, rfl, hw⟩, rfl, rfl, .int _ _⟩
  | bool => obtain ⟨b, rfl⟩ := h; exact ⟨rfl, _, ⟨b, rfl⟩, rfl, rfl, .bool _⟩

/-- Cells that read so. -/
def CellsOf (w : World) (sh : Sh) (cs : List Value) (x : PV) : Prop :=
  sh.ok x ∧ cs.length = sh.sz ∧ x.cells.length = sh.sz ∧ ∀ j, j < sh.sz → (cs.getD j undef).oneCell' = true ∧ PRep w (fun b => b < w.heap.size) (cs.getD j undef) (x.cells.getD j .unit)

theorem flat_cells {ag : Bool} {ks : List CK} {cs : List Value} (ha : (ag || Nat.beq ks.length 1) = true) (hl : cs.length = ks.length) (h : ∀ j, j < ks.length → (ks.getD j .bool).okV (cs.getD j undef)) :
    ∃ x, CellsOf w (.flat ag ks) cs x := by
  cases ag with
  | false =>
    have h1 : ks.length = 1 := Nat.eq_of_beq_eq_true (by simpa using ha)
    match ks, h1 with
    | [k], _ =>
      have h0 := h 0 (by simp)
      obtain ⟨h2, x, h3, h4, h5, h6⟩ := CK.prep (w := w) h0 (fun b => b < w.heap.size)
      refine ⟨x, ⟨k, rfl, h3⟩, hl, h4, fun j hj => ?_⟩
      have : j = 0 := by simp [Sh.sz] at hj; exact hj
      subst this
      exact ⟨h2, by rw [h5]; exact h6⟩
  | true =>
    have key : ∀ ks : List CK, ∀ cs : List Value, cs.length = ks.length → (∀ j, j < ks.length → (ks.getD j .bool).okV (cs.getD j undef)) →
        ∃ xs : List PV, xs.length = ks.length ∧ (∀ j, j < ks.length → (ks.getD j .bool).ok (xs.getD j .unit)) ∧ ∀ j, j < ks.length → (cs.getD j undef).oneCell' = true ∧ PRep w (fun b => b < w.heap.size) (cs.getD j undef) (xs.getD j .unit) := by
      intro ks
      induction ks with
      | nil => intro cs _ _; exact ⟨[], rfl, fun j hj => by simp at hj, fun j hj => by simp at hj⟩
      | cons k ks ih =>
        intro cs hl h
        match cs, hl with
        | c :: cs, hl =>
          obtain ⟨xs, h1, h2, h3⟩ := ih cs (by simpa using hl) (fun j hj => by simpa using h (j + 1) (by simpa using hj))
          obtain ⟨h4, x, h5, _, _, h8⟩ := CK.prep (w := w) (h 0 (by simp)) (fun b => b < w.heap.size)
          refine ⟨x :: xs, by simp [h1], fun j hj => ?_, fun j hj => ?_⟩
          · cases j with
            | zero => simpa using h5
            | succ j => simpa using h2 j (by simpa using hj)
          · cases j with
            | zero => exact ⟨by simpa using h4, by simpa using h8⟩
            | succ j => simpa using h3 j (by simpa using hj)
    obtain ⟨xs, h1, h2, h3⟩ := key ks cs hl h
    exact ⟨.agg xs, ⟨xs, rfl, h1, h2⟩, hl, h1, h3⟩

theorem add_spot {a : Addr} {w : World} {n : Nat} {v : Value} (h : w.cell? (a.add n) = some v) : w.cell? ⟨a.block, a.off + n, none⟩ = some v ∧ (n = 0 → a.spot = none) ∧ a.block < w.heap.size := by
  have hsome : ∀ b : Addr, w.cell? b = some v → b.spot = none ∧ b.block < w.heap.size := by
    intro b hb
    unfold World.cell? at hb
    split at hb
    · rename_i c _ _ hc
      split at hb
      · cases hb
      · rename_i hs
        exact ⟨by simpa using hs, (Array.getElem?_eq_some_iff.1 hc).1⟩
    · cases hb
  obtain ⟨h1, h2⟩ := hsome _ h
  unfold Addr.add at h h1 h2
  split at h
  · rename_i h0
    rw [if_pos h0] at h1 h2
    subst h0
    refine ⟨?_, fun _ => h1, h2⟩
    obtain ⟨b, o, s⟩ := a
    simp at h1
    subst h1
    simpa using h
  · rename_i h0
    rw [if_neg h0] at h1 h2
    exact ⟨by simpa using h, fun e => absurd e h0, h2⟩

theorem sh_open : ∀ {n t : Nat} {sh : Sh}, shOf P n t = some sh → ∀ (fuel : Nat) (cs : List Value) (d : DataW H) (ps : List MemPlace), DataW.trod enc P w 0 sp held fuel t cs = some (d, ps) →
    (∀ m ∈ d.weights P t, m ≤ reachBytes) → ∃ x, CellsOf w sh cs x
  | 0, _, _, h => by simp [shOf] at h
  | n + 1, t, sh, h => by
    intro fuel cs d ps hx hw
    unfold shOf at h
    split at h
    · rename_i e hu
      split at h
      · rename_i s i h1 h2
        simp only [cond_eq_ite] at h
        split at h
        · rename_i hb
          rw [Bool.and_eq_true, Bool.and_eq_true] at hb
          have b1 : 0 < i.bytes := by have := hb.1; simpa [Nat.blt_eq] using this
          have b2 := Nat.eq_of_beq_eq_true hb.2.1
          have b3 : 0 < s.sz := by have := hb.2.2; simpa [Nat.blt_eq] using this
          cases h
          have hszo : szOf P e = some s.sz := by simp [szOf, h2, b2]
          have hce := cellsOf_of hszo
          have hby : P.bytesOf e = i.bytes := by
            have := tyi_eq h2
            simp [Program.bytesOf, this]
          rcases Go.Deep.open_slice (und_eq hu) hx with ⟨rfl, _⟩ | ⟨a, len, cap, m, n', D, Pl, rfl, _, hlc, hcm, hm, hxx, hel⟩
          · exact ⟨.slice s.sz 0 fun _ => .unit, ⟨0, _, rfl, by omega, fun i hi => by omega⟩, rfl, rfl, fun j hj => by
              have : j = 0 := by simp [Sh.sz] at hj; exact hj
              subst this
              exact ⟨rfl, .empty _ _ _ _⟩⟩
          · have hlm : len ≤ m := by rw [hm]; split <;> omega
            have hd : d = .slice ((List.range len).map D) ((List.range (m - len)).map fun j => D (len + j)) := (Prod.mk.inj hxx).1
            have hwt : ∀ z, z = (((List.range len).map D).length + ((List.range (m - len)).map fun j => D (len + j)).length) * P.bytesOf e ∨ z ∈ DataW.weightsAll P e ((List.range len).map D) → z ≤ reachBytes := by
              intro z hz
              refine hw z ?_
              rw [hd]
              simp only [DataW.weights, und_eq hu, List.mem_cons, List.mem_append]
              rcases hz with h | h
              · exact .inl h
              · exact .inr (.inl h)
            have hlen : len ≤ 140737488355328 := by
              have h3 := hwt _ (.inl rfl)
              simp only [List.length_map, List.length_range] at h3
              rw [hby] at h3
              have h4 : len + (m - len) ≤ (len + (m - len)) * i.bytes := Nat.le_mul_of_pos_right _ b1
              have h5 : reachBytes = 140737488351232 := rfl
              omega
            have wall : ∀ (l : List (DataW H)) (i : Nat) (hi : i < l.length), ∀ z ∈ (l[i]).weights P e, z ∈ DataW.weightsAll P e l := by
              intro l
              induction l with
              | nil => intro i hi; simp at hi
              | cons y ys ih =>
                intro i hi z hz
                simp only [DataW.weightsAll, List.mem_append]
                cases i with
                | zero => exact .inl hz
                | succ i => exact .inr (ih i (by simpa using hi) z (by simpa using hz))
            have each : ∀ i, i < len → ∃ y : List Value × PV, w.cells? 0 (a.add (i * P.cellsOf e)) (P.cellsOf e) = some y.1 ∧ CellsOf w s y.1 y.2 := by
              intro i hi
              obtain ⟨cs', h3, h4⟩ := hel i (by omega)
              obtain ⟨x, hxo⟩ := sh_open h1 _ _ _ _ h4 (fun z hz => hwt z (.inr (wall _ i (by simpa using hi) z (by simpa using hz))))
              exact ⟨⟨cs', x⟩, h3, hxo⟩
            have : Inhabited (List Value × PV) := ⟨⟨[], .unit⟩⟩
            obtain ⟨Y, hY⟩ := Go.Deep.choose_lt each
            have cellY : ∀ i j, i < len → j < s.sz → w.cell? ⟨a.block, a.off + i * s.sz + j, none⟩ = some ((Y i).1.getD j undef) ∧ (i * s.sz + j = 0 → a.spot = none) ∧ a.block < w.heap.size := by
              intro i j hi hj
              obtain ⟨h3, h4⟩ := hY i hi
              obtain ⟨_, hl1, hc1⟩ := World.cells?_some h3
              rw [hce] at hl1 hc1
              have h5 := hc1 j hj
              rw [Go.Deep.add_add, List.getElem?_eq_getElem (by omega)] at h5
              obtain ⟨h6, h7⟩ := add_spot h5
              refine ⟨?_, h7⟩
              rw [show a.off + i * s.sz + j = a.off + (i * s.sz + j) by omega, h6]
              simp [List.getD, List.getElem?_eq_getElem (show j < (Y i).1.length by omega)]
            refine ⟨.slice s.sz len fun i => (Y i).2, ⟨len, _, rfl, hlen, fun i hi => (hY i hi).2.1⟩, rfl, rfl, fun j hj => ?_⟩
            have : j = 0 := by simp [Sh.sz] at hj; exact hj
            subst this
            refine ⟨rfl, ?_⟩
            by_cases h0 : len = 0
            · subst h0; exact .empty _ _ _ _
            · have hsp0 := (cellY 0 0 (by omega) b3).2.1 (by omega)
              have hab := (cellY 0 0 (by omega) b3).2.2
              obtain ⟨ab, ao, as⟩ := a
              simp at hsp0
              subst hsp0
              exact PRep.slice (fun i j => (Y i).1.getD j undef) (F := fun b => b < w.heap.size) (b := ab) (off := ao) hab hlc hlen (fun i hi => (hY i hi).2.2.2.1) (fun i j hi hj => (cellY i j hi hj).1) (fun i j hi hj => ((hY i hi).2.2.2.2 j hj).1) (fun i j hi hj => ((hY i hi).2.2.2.2 j hj).2)
        · cases h
      · cases h
    · rename_i u hne hu
      split at h
      · rename_i ks h1
        simp only [cond_eq_ite] at h
        split at h
        · rename_i hb
          cases h
          obtain ⟨h2, h3⟩ := ckT_of h1 _ _ _ hx
          exact flat_cells hb h2 h3
        · cases h
      · cases h
    · cases h

theorem val_cells {sh : Sh} {n t : Nat} (h : shOf P n t = some sh) {base : Nat} {v : Value} {x : PV} (hv : Value.okWide P w .any base t v) (hc : CellsOf w sh v.cells.toList x) : PRep w (fun b => b < w.heap.size) v x := by
  obtain ⟨h1, h2, h3, h4⟩ := hc
  cases n with
  | zero => simp [shOf] at h
  | succ n =>
    unfold shOf at h
    split at h
    · rename_i e hu
      split at h
      · simp only [cond_eq_ite] at h
        split at h
        · cases h
          obtain ⟨a, l, c, rfl⟩ := okWide_slice (und_eq hu) hv
          obtain ⟨m, f, rfl, _⟩ := h1
          simpa [Value.cells, PV.cells] using (h4 0 (by simp [Sh.sz])).2
        · cases h
      · cases h
    · rename_i u hne hu
      split at h
      · rename_i ks hk
        simp only [cond_eq_ite] at h
        split at h
        · rename_i hb
          cases h
          have hund := und_eq hu
          cases hag : aggB u with
          | true =>
            rw [hag] at h1
            obtain ⟨xs, rfl, h5, _⟩ := h1
            have : ∃ cs, v = .agg cs := by
              unfold Value.okWide at hv
              rw [hund] at hv
              cases u <;> simp [aggB] at hag <;> (obtain ⟨cs, e, _⟩ := hv; exact ⟨cs, e⟩)
            obtain ⟨cs, rfl⟩ := this
            simp only [Value.cells] at h2 h4
            have := PRep.agg (w := w) (F := fun b => b < w.heap.size) (vs := cs.toList) (cs := xs) (by rw [h2]; exact h5.symm) (fun i hi => (h4 i (by simp [Sh.sz]; omega)).2)
            simpa using this
          | false =>
            rw [hag] at h1 hb
            obtain ⟨k, rfl, hk1⟩ := h1
            have hcx : x.cells.getD 0 .unit = x := by
              cases k with
              | int k => obtain ⟨n, rfl, _⟩ := hk1; rfl
              | bool => obtain ⟨n, rfl⟩ := hk1; rfl
            have h6 := h4 0 (by simp [Sh.sz])
            rw [hcx] at h6
            have : v.cells.toList.getD 0 undef = v := by
              unfold Value.okWide at hv
              rw [hund] at hv
              cases u <;> simp [aggB] at hag <;> (cases v <;> first | rfl | (simp [Cell.okWide, Cell.ok, hund] at hv))
            rw [this] at h6
            exact h6.2
        · cases h
      · cases h
    · cases h

def AllOk : List Sh → List PV → Prop
  | [], [] => True
  | s :: ss, x :: xs => s.ok x ∧ AllOk ss xs
  | _, _ => False

theorem args_open : ∀ {ts : List TypeId} {shs : List Sh} {vs : List Value} {ds : List (DataW H)} {ps : List MemPlace}, ts.map (shOf P 4) = shs.map some →
    DataW.TrodAll enc P w 0 sp held ts vs ds ps → (DataW.weightsEach P ts ds).all (· ≤ reachBytes) = true → (∀ (j : Nat) t v, ts[j]? = some t → vs[j]? = some v → ∃ base, Value.okWide P w .any base t v) →
    ∃ xs, AllOk shs xs ∧ PReps w (fun b => b < w.heap.size) vs xs
  | [], shs, vs, ds, ps, hs, h, _, _ => by
    obtain ⟨rfl, rfl, rfl⟩ := trodAll_nil h
    cases shs with
    | nil => exact ⟨[], trivial, rfl, fun i hi => by simp at hi⟩
    | cons => simp at hs
  | t :: ts, shs, vs, ds, ps, hs, h, hw, hv => by
    obtain ⟨v, vs', d, ds', p, q, rfl, rfl, rfl, h1, h2⟩ := trodAll_cons h
    cases shs with
    | nil => simp at hs
    | cons s ss =>
      simp only [List.map_cons, List.cons.injEq] at hs
      simp only [DataW.weightsEach, List.all_append, Bool.and_eq_true] at hw
      obtain ⟨xs, h3, h4⟩ := args_open hs.2 h2 hw.2 (fun j t v ht hvv => hv (j + 1) t v (by simpa using ht) (by simpa using hvv))
      obtain ⟨fuel, h5⟩ := h1
      obtain ⟨x, h6⟩ := sh_open hs.1 _ _ _ _ h5 (fun m hm => by have := List.all_eq_true.1 hw.1 m hm; simpa using this)
      obtain ⟨base, h7⟩ := hv 0 t v (by simp) (by simp)
      have h8 := val_cells hs.1 h7 h6
      refine ⟨x :: xs, ⟨h6.1, h3⟩, by simp [h4.1], fun i hi => ?_⟩
      cases i with
      | zero => simpa using h8
      | succ i => simpa using h4.2 i (by simpa using hi)

theorem trods_keep (hl : laidOutB P = true) {W W' : World} (hb : Below W.heap.size W W') : ∀ {ts : List TypeId} {vs : List Value} {ds : List (DataW H)} {ps : List MemPlace}, (ts.all fun t => P.readableRec t && decide (t < P.types.size)) = true →
    DataW.TrodAll enc P W 0 (fun _ => true) true ts vs ds ps → (∀ x ∈ ps, x.block < W.heap.size) → ∀ {s : Nat → Bool}, (∀ p ∈ ps, s p.block = true) → DataW.TrodAll enc P W' 0 s true ts vs ds ps
  | [], vs, ds, ps, _, h, _, s, _ => by
    obtain ⟨rfl, rfl, rfl⟩ := trodAll_nil h
    rfl
  | t :: ts, vs, ds, ps, hr, h, hlt, s, hs => by
    obtain ⟨v, vs', d, ds', p, q, rfl, rfl, rfl, h1, h2⟩ := trodAll_cons h
    simp only [List.all_cons, Bool.and_eq_true, decide_eq_true_eq] at hr
    exact trodAll_cons_mk (WideElems.Trod_stays hl hr.1.1 hr.1.2 h1 (fun x hx => hb.same (hlt x (List.mem_append.2 (.inl hx)))) (fun x hx => hs x (List.mem_append.2 (.inl hx))))
      (trods_keep hl hb hr.2 h2 (fun x hx => hlt x (List.mem_append.2 (.inr hx))) (fun x hx => hs x (List.mem_append.2 (.inr hx))))

/-- The law's call, out of its contract. -/
theorem law_call {f : FuncId} {fn : Func} {s : ChangeSpec} {shs : List Sh} {tb : TypeId} {W : World} {base : Nat} {args : Array Value} {ds gs : List (DataW H)} {before : List MemPlace}
    (hl : laidOutB P = true) (hr : (fn.params.toList.all fun t => P.readableRec t && decide (t < P.types.size)) = true) (hsh : fn.params.toList.map (shOf P 4) = shs.map some)
    (hres : fn.resultTypes = #[tb]) (htb : P.underlying tb = some .bool)
    (hspec : ∀ ds : List (DataW H), ds.length = shs.length → (s.fn H (ds ++ gs)).results = [.lit (.bool true)] ∧ (s.fn H (ds ++ gs)).args = ds ∧ (s.fn H (ds ++ gs)).vars = gs)
    (he : Enters P f) (law : ∀ xs, AllOk shs xs → Fn P f xs (.bool true))
    (hval : ∀ (j : Nat) t v, fn.params[j]? = some t → args[j]? = some v → Value.okWide P W .any base t v) (hW : DataW.Whole enc P fn.params.toList s.vars false W args.toList ds gs before)
    (hw : (DataW.weightsEach P (fn.params.toList ++ s.plain.varTypes P) (ds ++ gs)).all (· ≤ reachBytes) = true)
    (hkp : KeepsW W)
    (hvars : ∀ {W' : World}, Below W.heap.size W W' → ∀ {pv : List MemPlace}, DataW.TrodVars enc P W (fun _ => true) s.vars gs pv → ∀ {sp : Nat → Bool}, (∀ p ∈ pv, sp p.block = true) → DataW.TrodVars enc P W' sp s.vars gs pv) :
    Calls P f args W fun e W' => ∃ v, e = .returned v ∧ s.post enc P fn false true false false W args v W' := by
  have hW' := hW
  obtain ⟨p, q, hA, hV, rfl, hfz, _⟩ := hW
  have hlt : ∀ x ∈ p ++ q, x.block < W.heap.size := fun x hx => hW'.lt x hx
  have len_of : ∀ {ts : List TypeId} {vs : List Value} {ds : List (DataW H)} {ps : List MemPlace}, DataW.TrodAll enc P W 0 (fun _ => true) true ts vs ds ps → ds.length = ts.length := by
    intro ts
    induction ts with
    | nil => intro vs ds ps h; obtain ⟨_, rfl, _⟩ := trodAll_nil h; rfl
    | cons t ts ih => intro vs ds ps h; obtain ⟨_, _, _, _, _, _, _, rfl, _, _, h2⟩ := trodAll_cons h; simp [ih h2]
  have hdl : ds.length = shs.length := by
    have h1 := len_of hA
    have h2 := congrArg List.length hsh
    simp at h2
    simpa [h1] using h2
  have wsplit : ∀ (ts us : List TypeId) (xs ys : List (DataW H)), xs.length = ts.length → DataW.weightsEach P (ts ++ us) (xs ++ ys) = DataW.weightsEach P ts xs ++ DataW.weightsEach P us ys := by
    intro ts
    induction ts with
    | nil => intro us xs ys h; cases xs with
      | nil => rfl
      | cons => simp at h
    | cons t ts ih => intro us xs ys h; cases xs with
      | nil => simp at h
      | cons x xs => simp only [List.cons_append, DataW.weightsEach, ih us xs ys (by simpa using h), List.append_assoc]
  rw [wsplit _ _ _ _ (len_of hA), List.all_append, Bool.and_eq_true] at hw
  obtain ⟨xs, hok, hP⟩ := args_open hsh hA hw.1 (fun j t v ht hv => ⟨base, hval j t v (by simpa using ht) (by simpa using hv)⟩)
  have hD := law xs hok W (fun b => b < W.heap.size) args.toList (fun b hb => hb) hP hkp
  have hC : Calls P f args W fun e W' => ∃ v, e = .returned v ∧ (Bel W.heap.size W W' ∧ PRep W' (fun b => b < W.heap.size ∨ (W.heap.size ≤ b ∧ b < W'.heap.size)) v (.bool true)) := by
    rcases hD with ⟨_, h⟩ | ⟨v, w', h, _⟩
    · simpa using h
    · have := run_enters (w := W) (args := args.toList.toArray) he
      rw [this] at h
      cases h
  refine hC.mono fun e W' ⟨v, hv, hb0, hp⟩ => ⟨v, hv, ?_⟩
  have hvb : v = .bool true := by cases hp; rfl
  have hb := hb0.out
  subst hvb
  obtain ⟨s1, s2, s3⟩ := hspec ds hdl
  have hold : ∀ x ∈ p ++ q, (fun b => decide (b < W.heap.size)) x.block = true := fun x hx => by simpa using hlt x hx
  have hargs : ∀ {t : Nat → Bool}, (∀ x ∈ p ++ q, t x.block = true) → DataW.TrodAll enc P W' 0 t true fn.params.toList args.toList (s.fn H (ds ++ gs)).args p := fun hs => by
    rw [s2]; exact trods_keep hl hb hr hA (fun x hx => hlt x (List.mem_append.2 (.inl hx))) (fun x hx => hs x (List.mem_append.2 (.inl hx)))
  have hvrs : ∀ {t : Nat → Bool}, (∀ x ∈ p ++ q, t x.block = true) → DataW.TrodVars enc P W' t s.vars (s.fn H (ds ++ gs)).vars q := fun hs => by
    rw [s3]; exact hvars hb hV (fun x hx => hs x (List.mem_append.2 (.inr hx)))
  have hrs : ∀ (b : Nat) (t : Nat → Bool) (hd : Bool), DataW.TrodAll enc P W' b t hd fn.resultTypes.toList ((Value.bool true).resultList fn.resultTypes.size) (s.fn H (ds ++ gs)).results [] := fun b t hd => by
    rw [s1, hres]; exact trodAll_mk1 (shut_bool htb _)
  refine ⟨ds, gs, p ++ q, [], p, q, hW', hrs _ _ _, hargs hold, hvrs hold, hb.frame _, fun _ => ⟨ok_one hres rfl (okWide_bool_mk htb _), _, _, ([] ++ p) ++ q, ⟨[] ++ p, q, trodAll_append (hargs fun _ _ => rfl) (hrs _ _ _), hvrs fun _ _ => rfl, rfl, ?_, nofun⟩, ?_⟩⟩
  · intro b off hx
    rw [hb.frozen (hlt _ (by simpa using hx))]
    exact hfz b off (by simpa using hx)
  · intro x hx _
    simpa using hx
end
end Abs
