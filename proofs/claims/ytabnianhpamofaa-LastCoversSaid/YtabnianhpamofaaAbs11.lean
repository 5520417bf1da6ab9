/- Single operations, sixth part: lengths, cuts of slices, literals, maps. -/
import Derived.Test.YtabnianhpamofaaAbs10
set_option linter.unusedSectionVars false
set_option linter.unusedSimpArgs false
set_option linter.unusedVariables false
namespace Abs
open Go Go.RowKit
variable [DMode]

section
variable {P : Program} {s : SS} {m : Bool} {d : Option Nat} {K : V → Option (Nat × Nat × Blk) → List Prop → Prop}

/-- A map, as the machine reads it. -/
def MapIs (w : World) (G : Nat → Prop) (es : List (PV × PV)) (x : Value) : Prop :=
  (x = .map none ∧ es = []) ∨ ∃ b ents clk, x = .map (some b) ∧ w.heap[b]? = some (.map ents clk) ∧ ents.size = es.length ∧
    (∀ i, i < es.length → PRep w G ((ents.toList.map (·.key)).getD i undef) ((es.map (·.1)).getD i .unit)) ∧
    (∀ i, i < es.length → PRep w G ((ents.toList.map (·.val)).getD i undef) ((es.map (·.2)).getD i .unit))
theorem mapOfK_elim {v : V} {K : List (PV × PV) → Prop} {A : Acc} (hA : Sub A s) (h : mapOfK A.hd v K) : ∃ es, K es ∧ ∀ w0 F0 G ρ a w x, RelX w0 F0 G ρ s a w → VRep w G ρ s.h v x → MapIs w G es x := by
  unfold mapOfK at h
  split at h
  · rename_i es
    refine ⟨es, h, fun w0 F0 G ρ a w x R hx => ?_⟩
    simp only [VRep] at hx
    cases hx with
    | nomap => exact .inl ⟨rfl, rfl⟩
    | map hF hb hl hk hv => exact .inr ⟨_, _, _, rfl, hb, hl, hk, hv⟩
  · rename_i id ver
    replace h := hA.hd _ _ h
    simp only [SS.acc] at h
    split at h
    · rename_i es hes
      simp only [cond_prop] at h
      split at h
      · rename_i hv
        have hv := Nat.eq_of_beq_eq_true hv
        refine ⟨es, h, fun w0 F0 G ρ a w x R hx => ?_⟩
        simp only [VRep] at hx
        obtain ⟨b, hb, hx⟩ := hx.2.2 hv
        have hbl := R.blk id
        rw [hes, hb] at hbl
        simp only [BRep] at hbl
        obtain ⟨b', ents, clk, e1, h2, h3, h4, h5⟩ := hbl
        cases e1
        exact .inr ⟨b, ents, clk, hx, h2, h3, h4, h5⟩
      · exact h.elim
    · exact h.elim
  · exact h.elim

theorem run_len {args : Array Operand} {ats : Array TypeId} {x : Operand} {t : TypeId} {ts : List TypeId} {a : Act} {w : World} {dst ty pos af g} (h1 : args.toList = [x]) (h2 : ats.toList = t :: ts) (v : Value)
    (hv : (Builtin.len_ #[t] ty #[a.eval x]).run P w = .ok v w) : (execOp a.eval ⟨dst, .call { callee := .builtin .len, args, argTypes := ats }, ty, pos, af, g⟩).run P w = .ok (.value v) w := by
  have e1 : args = #[x] := by apply Array.ext'; simpa using h1
  have e2 : ats[0]? = some t := by rw [← Array.getElem?_toList, h2]; rfl
  have e3 : Builtin.len_ ats ty #[a.eval x] = Builtin.len_ #[t] ty #[a.eval x] := by simp only [Builtin.len_, e2]; rfl
  subst e1
  have e4 : (#[x] : Array Operand).map a.eval = #[a.eval x] := by simp
  simp only [execOp, resolve, pure_bind, invoke, builtin, e4, e3, Sem.run_bind, hv, Result.andThen_ok, Sem.run_pure]

theorem el_len {args : Array Operand} {ats : Array TypeId} {A : Acc} (hA : Sub A s) (h : opK P m A d (.call { callee := .builtin .len, args, argTypes := ats }) K) : Elim P s (.call { callee := .builtin .len, args, argTypes := ats }) K := by
  simp only [opK] at h
  split at h
  · rename_i x t ts hx ht
    split at h
    · rename_i e hu
      obtain ⟨v, ob, h1, _, hr⟩ := rduK_elim hA h
      have fin : ∀ {n : Nat} {a : Act} {w : World} {ty dst pos af g}, (∃ base cap, a.eval x = .slice base n cap) → (execOp a.eval ⟨dst, .call { callee := .builtin .len, args, argTypes := ats }, ty, pos, af, g⟩).run P w = .ok (.value (.int .i64 n)) w := by
        rintro n a w ty dst pos af g ⟨base, cap, he⟩
        exact run_len hx ht _ (by simp [Builtin.len_, run_und hu, he, goInt])
      split at h1
      · refine ⟨_, none, ob, h1, fun ha dst ty pos af g => .pure fun w0 F0 G ρ a w R => ?_⟩
        have hh := hr ha w0 F0 G ρ a w R
        simp only [VRep] at hh
        generalize he : a.eval x = xv at hh
        cases hh
        exact ⟨.int .i64 0, fin (n := 0) ⟨_, _, he⟩, vint'⟩
      · rename_i sz n f
        refine ⟨_, none, ob, h1, fun ha dst ty pos af g => .pure fun w0 F0 G ρ a w R => ?_⟩
        have hh := hr ha w0 F0 G ρ a w R
        simp only [VRep] at hh
        generalize he : a.eval x = xv at hh
        refine ⟨.int .i64 n, fin ?_, vint'⟩
        cases hh
        · exact ⟨_, _, he⟩
        · exact ⟨_, _, he⟩
      · rename_i id ver sz lo len
        obtain ⟨hv, h1⟩ := liveK_elim hA h1
        refine ⟨_, none, ob, h1, fun ha dst ty pos af g => .pure fun w0 F0 G ρ a w R => ?_⟩
        have hh := hr ha w0 F0 G ρ a w R
        simp only [VRep] at hh
        refine ⟨.int .i64 len, fin ?_, vint'⟩
        rcases hh.2.2 hv with ⟨e0, aa, e1⟩ | ⟨b, cap, c, e', hb, hx, _⟩
        · rw [e0]; exact ⟨_, _, e1⟩
        · exact ⟨_, _, hx⟩
      · rename_i id ver sz off len
        obtain ⟨hv, h1⟩ := liveK_elim hA h1
        refine ⟨_, none, ob, h1, fun ha dst ty pos af g => .pure fun w0 F0 G ρ a w R => ?_⟩
        have hh := hr ha w0 F0 G ρ a w R
        simp only [VRep] at hh
        refine ⟨.int .i64 len, fin ?_, vint'⟩
        obtain ⟨b, cap, hb, hx, _⟩ := hh.2.2 hv
        exact ⟨_, _, hx⟩
      · exact h1.elim
    · rename_i k e hu
      obtain ⟨v, ob, h1, _, hr⟩ := rduK_elim hA h
      obtain ⟨es, h2, h3⟩ := mapOfK_elim hA h1
      refine ⟨_, none, ob, h2, fun ha dst ty pos af g => .pure fun w0 F0 G ρ a w R => ?_⟩
      refine ⟨.int .i64 es.length, ?_, vint'⟩
      rcases h3 w0 F0 G ρ a w _ R (hr ha w0 F0 G ρ a w R) with ⟨e1, e2⟩ | ⟨b, ents, clk, e1, hb, hl, _⟩
      · exact run_len hx ht _ (by simp [Builtin.len_, run_und hu, e1, e2, goInt])
      · exact run_len hx ht _ (by
          have hg : (getObj b).run P w = .ok (.map ents clk) w := by simp [getObj, Sem.run, hb]
          simp [Builtin.len_, run_und hu, e1, hg, goInt, hl])
    · exact h.elim
  · exact h.elim

/-! ### Cuts -/
def LoIs : Option V → Nat → Prop
  | none, l => l = 0
  | some v, l => ∃ k i, v = .pv (.int k i) ∧ 0 ≤ i ∧ l = i.toNat
def HiIs (n : Nat) : Option V → Nat → Prop
  | none, l => l = n
  | some v, l => ∃ k i, v = .pv (.int k i) ∧ 0 ≤ i ∧ l = i.toNat
theorem loNat_elim {x : Option V} {acc : List Prop} {K : Nat → List Prop → Prop} (h : loNat x acc K) : ∃ l ob, K l ob ∧ (AllL ob → AllL acc ∧ LoIs x l) := by
  unfold loNat at h
  split at h
  · exact ⟨0, acc, h, fun ha => ⟨ha, rfl⟩⟩
  · exact ⟨_, _, h, fun ha => ⟨(allL_cons ha).2, _, _, rfl, (allL_cons ha).1, rfl⟩⟩
  · exact h.elim
theorem hiNat_elim {n : Nat} {x : Option V} {acc : List Prop} {K : Nat → List Prop → Prop} (h : hiNat n x acc K) : ∃ l ob, K l ob ∧ (AllL ob → AllL acc ∧ HiIs n x l) := by
  unfold hiNat at h
  split at h
  · exact ⟨n, acc, h, fun ha => ⟨ha, rfl⟩⟩
  · exact ⟨_, _, h, fun ha => ⟨(allL_cons ha).2, _, _, rfl, (allL_cons ha).1, rfl⟩⟩
  · exact h.elim
def ReadsO (s : SS) : Option Operand → Option V → Prop
  | none, none => True
  | some x, some v => Reads s x v
  | _, _ => False
theorem rdoK_elim {x : Option Operand} {acc : List Prop} {K : Option V → List Prop → Prop} {A : Acc} (hA : Sub A s) (h : rdoK A x acc K) : ∃ v ob, K v ob ∧ (AllL ob → AllL acc) ∧ (AllL ob → ReadsO s x v) := by
  unfold rdoK at h
  split at h
  · exact ⟨none, acc, h, fun h => h, fun _ => trivial⟩
  · obtain ⟨v, ob, h1, h2, h3⟩ := rduK_elim hA h
    exact ⟨some v, ob, h1, h2, h3⟩

/-- The bounds of a cut, run. -/
theorem run_bounds {lo hi : Option Operand} {vl vh : Option V} {l h len cap n : Nat} {w0 : World} {F0 : Env} {G : Nat → Prop} {ρ : Nat → Option Nat} {a : Act} {w : World} (R : RelX w0 F0 G ρ s a w)
    (hl : ReadsO s lo vl) (hh : ReadsO s hi vh) (h1 : LoIs vl l) (h2 : HiIs n vh h) (hn : vh = none → n = len) (h3 : l ≤ h) (h4 : h ≤ cap) :
    (Instr.sliceBounds true len cap (lo.map a.eval) (hi.map a.eval) none).run P w = .ok (l, h, cap) w := by
  have sb : ∀ (k : IntKind) (i : Int) (y : Nat) (c : BoundsCode), 0 ≤ i → i.toNat ≤ y → (Instr.sliceBound (.int k i) y c).run P w = .ok i.toNat w := fun k i y c h0 h1 => run_sliceBound w k i y c h0 (by omega)
  have eh : (hi = none ∧ h = len) ∨ ∃ x k i, hi = some x ∧ a.eval x = .int k i ∧ 0 ≤ i ∧ h = i.toNat := by
    cases hi with
    | none =>
      cases vh with
      | none => exact .inl ⟨rfl, by have := hn rfl; simp only [HiIs] at h2; omega⟩
      | some v => exact hh.elim
    | some x =>
      cases vh with
      | none => exact hh.elim
      | some v => obtain ⟨k, i, rfl, h0, h5⟩ := h2; exact .inr ⟨x, k, i, rfl, vint (hh w0 F0 G ρ a w R), h0, h5⟩
  have el : (lo = none ∧ l = 0) ∨ ∃ x k i, lo = some x ∧ a.eval x = .int k i ∧ 0 ≤ i ∧ l = i.toNat := by
    cases lo with
    | none =>
      cases vl with
      | none => exact .inl ⟨rfl, h1⟩
      | some v => exact hl.elim
    | some x =>
      cases vl with
      | none => exact hl.elim
      | some v => obtain ⟨k, i, rfl, h0, h5⟩ := h1; exact .inr ⟨x, k, i, rfl, vint (hl w0 F0 G ρ a w R), h0, h5⟩
  rcases eh with ⟨rfl, rfl⟩ | ⟨x, k, i, rfl, e1, e2, rfl⟩ <;> rcases el with ⟨rfl, rfl⟩ | ⟨y, k', j, rfl, e3, e4, rfl⟩
  · simp [Instr.sliceBounds]
  · simp [Instr.sliceBounds, e3, sb _ _ _ _ e4 h3]
  · simp [Instr.sliceBounds, e1, sb _ _ _ _ e2 h4]
  · simp [Instr.sliceBounds, e1, e3, sb _ _ _ _ e2 h4, sb _ _ _ _ e4 h3]
theorem run_cut {t e sz l h len cap : Nat} {base : Option Addr} {lo hi : Option Value} {w : World} (hu : und P t = some (.slice e)) (hs : szOf P e = some sz)
    (hb : (Instr.sliceBounds true len cap lo hi none).run P w = .ok (l, h, cap) w) :
    (Instr.sliceAt t (.slice base len cap) lo hi none).run P w = .ok (.slice (if cap = l then base else base.map (·.add (l * sz))) (h - l) (cap - l)) w := by
  simp only [Instr.sliceAt, Instr.slice, Sem.run_bind, run_und hu, Result.andThen_ok, hb, run_siz hs, Sem.run_pure]

theorem el_slice {t : Nat} {x : Operand} {lo hi mx : Option Operand} {A : Acc} (hA : Sub A s) (h : opK P m A d (.slice t x lo hi mx) K) : Elim P s (.slice t x lo hi mx) K := by
  cases mx with
  | some _ => simp only [opK] at h
  | none =>
    simp only [opK] at h
    obtain ⟨v, ob0, h1, hs0, hr⟩ := rduK_elim hA h
    obtain ⟨vl, ob1, h2, hs1, hrl⟩ := rdoK_elim hA h1
    obtain ⟨vh, ob2, h3, hs2, hrh⟩ := rdoK_elim hA h2
    split at h3
    · rename_i e hu
      split at h3
      · rename_i se hse
        split at h3
        · obtain ⟨l, ob3, h4, h5⟩ := loNat_elim h3
          obtain ⟨hh, ob4, h6, h7⟩ := hiNat_elim h4
          refine ⟨_, none, _, h6, fun ha dst ty pos af g => .pure fun w0 F0 G ρ a w R => ?_⟩
          obtain ⟨el, ha4⟩ := allL_cons ha
          obtain ⟨eh, ha4⟩ := allL_cons ha4
          obtain ⟨ha3, hi7⟩ := h7 ha4
          obtain ⟨ha2, lo5⟩ := h5 ha3
          have hx := hr (hs1 (hs2 ha2)) w0 F0 G ρ a w R
          simp only [VRep] at hx
          generalize he : a.eval x = xv at hx
          cases hx
          subst el; subst eh
          have hb := run_bounds (P := P) (len := 0) (cap := 0) R (hrl (hs2 ha2)) (hrh ha2) lo5 hi7 (fun _ => rfl) (Nat.le_refl _) (Nat.le_refl _)
          exact ⟨.slice none 0 0, by simp [execOp, he, run_cut hu hse hb], by simp only [VRep]; exact .nil⟩
        · rename_i sz n f
          simp only [cond_prop] at h3
          split at h3
          · rename_i hsz
            have hsz := Nat.eq_of_beq_eq_true hsz
            subst hsz
            obtain ⟨l, ob3, h4, h5⟩ := loNat_elim h3
            obtain ⟨hh, ob4, h6, h7⟩ := hiNat_elim h4
            refine ⟨_, none, _, h6, fun ha dst ty pos af g => .pure fun w0 F0 G ρ a w R => ?_⟩
            obtain ⟨el, ha4⟩ := allL_cons ha
            obtain ⟨eh, ha4⟩ := allL_cons ha4
            obtain ⟨ha3, hi7⟩ := h7 ha4
            obtain ⟨ha2, lo5⟩ := h5 ha3
            have hx := hr (hs1 (hs2 ha2)) w0 F0 G ρ a w R
            simp only [VRep] at hx
            generalize he : a.eval x = xv at hx
            cases hx with
            | empty base cap =>
              have e1 : l = 0 := by omega
              have e2 : hh = 0 := by omega
              subst e1; subst e2
              have hb := run_bounds (P := P) (len := 0) (cap := cap) R (hrl (hs2 ha2)) (hrh ha2) lo5 hi7 (fun _ => rfl) (Nat.le_refl _) (Nat.zero_le _)
              exact ⟨_, by simp [execOp, he, run_cut hu hse hb]; rfl, by simp only [VRep]; exact .empty _ _ _ _⟩
            | @slice b off _ cap _ _ gg hF hcap hnn hl hc h1c hhh =>
              have hb := run_bounds (P := P) (len := n) (cap := cap) R (hrl (hs2 ha2)) (hrh ha2) lo5 hi7 (fun _ => rfl) el (by omega)
              refine ⟨_, by simp only [execOp, he, Option.map_none, Sem.run_bind, run_cut hu hse hb, Result.andThen_ok, Sem.run_pure]; rfl, ?_⟩
              simp only [VRep]
              by_cases h0 : hh - l = 0
              · rw [h0]; exact .empty _ _ _ _
              · rw [if_neg (by omega)]
                simp only [Option.map_some, add_at]
                refine PRep.slice (fun i j => gg (l + i) j) hF (by omega) (by omega) (fun i hi => hl _ (by omega)) (fun i j hi hj => ?_) (fun i j hi hj => h1c _ _ (by omega) hj) (fun i j hi hj => hhh _ _ (by omega) hj)
                have := hc (l + i) j (by omega) hj
                rw [Nat.add_mul] at this
                rw [show off + l * sz + i * sz + j = off + (l * sz + i * sz) + j by omega]
                exact this
          · exact h3.elim
        · rename_i id ver sz o n
          simp only [cond_prop] at h3
          split at h3
          · rename_i hsz
            have hsz := Nat.eq_of_beq_eq_true hsz
            subst hsz
            obtain ⟨hv, h3⟩ := liveK_elim hA h3
            obtain ⟨l, ob3, h4, h5⟩ := loNat_elim h3
            obtain ⟨hh, ob4, h6, h7⟩ := hiNat_elim h4
            refine ⟨_, none, _, h6, fun ha dst ty pos af g => .pure fun w0 F0 G ρ a w R => ?_⟩
            obtain ⟨el, ha4⟩ := allL_cons ha
            obtain ⟨eh, ha4⟩ := allL_cons ha4
            obtain ⟨ha3, hi7⟩ := h7 ha4
            obtain ⟨ha2, lo5⟩ := h5 ha3
            have hx := hr (hs1 (hs2 ha2)) w0 F0 G ρ a w R
            simp only [VRep] at hx
            rcases hx.2.2 hv with ⟨e0, aa, he⟩ | ⟨b, cap, c, e', hb, he, hcap, hc, hcs⟩
            · subst e0
              have e1 : l = 0 := by omega
              have e2 : hh = 0 := by omega
              subst e1; subst e2
              have hb := run_bounds (P := P) (len := 0) (cap := 0) R (hrl (hs2 ha2)) (hrh ha2) lo5 hi7 (fun _ => rfl) (Nat.le_refl _) (Nat.zero_le _)
              refine ⟨_, by simp [execOp, he, run_cut hu hse hb]; rfl, ?_⟩
              simp only [VRep]
              exact ⟨by trivial, by omega, fun _ => .inl ⟨by trivial, _, rfl⟩⟩
            · have hb' := run_bounds (P := P) (len := n) (cap := cap) R (hrl (hs2 ha2)) (hrh ha2) lo5 hi7 (fun _ => rfl) el (by omega)
              refine ⟨_, by simp only [execOp, he, Option.map_none, Sem.run_bind, run_cut hu hse hb', Result.andThen_ok, Sem.run_pure]; rfl, ?_⟩
              simp only [VRep]
              refine ⟨rfl, by omega, fun _ => ?_⟩
              by_cases h0 : cap = l
              · left
                exact ⟨by omega, _, by rw [show hh - l = 0 by omega, show cap - l = 0 by omega]⟩
              · right
                refine ⟨b, cap - l, c, e', hb, ?_, by omega, hc, ?_⟩
                · rw [if_neg h0]; simp only [Option.map_some, add_at, Nat.add_mul]
                · rw [← hcs]; congr 1; omega
          · exact h3.elim
        · exact h3.elim
      · exact h3.elim
    · rename_i n e hu
      split at h3
      · rename_i id ver off hse
        obtain ⟨hv, h3⟩ := liveK_elim hA h3
        refine ⟨_, none, _, h3, fun ha dst ty pos af g => .pure fun w0 F0 G ρ a w R => ?_⟩
        have hx := hr (hs1 (hs2 ha)) w0 F0 G ρ a w R
        simp only [VRep] at hx
        obtain ⟨b, hb, he⟩ := hx.2.2 hv
        refine ⟨.slice (some ⟨b, off, none⟩) n n, by simp [execOp, he, Instr.sliceAt, run_und hu, Instr.sureAddr, Instr.sliceBounds, run_siz hse, add_at], ?_⟩
        simp only [VRep]
        exact ⟨by trivial, by omega, fun _ => ⟨b, n, hb, rfl, Nat.le_refl _⟩⟩
      · rename_i cs hse
        obtain ⟨h4, h5⟩ := takeK_elim h3
        simp only [cond_prop] at h5
        split at h5
        · rename_i hn
          rw [Bool.and_eq_true] at hn
          have hn1 : n ≤ 1000 := Nat.le_of_ble_eq_true hn.1
          refine ⟨_, none, _, h5, fun ha dst ty pos af g => .pure fun w0 F0 G ρ a w R => ?_⟩
          have hx := hr (hs1 (hs2 ha)) w0 F0 G ρ a w R
          simp only [VRep] at hx
          generalize he : a.eval x = xv at hx
          cases hx with
          | @box b off _ gg hF hc hh =>
            refine ⟨.slice (some ⟨b, off, none⟩) n n, by simp [execOp, he, Instr.sliceAt, run_und hu, Instr.sureAddr, Instr.sliceBounds, run_siz hse, add_at], ?_⟩
            simp only [VRep]
            have ht : ∀ i, i < n → (cs.take n).getD i .unit = cs.getD i .unit := fun i hi => by rw [List.getD_eq_getElem?_getD, List.getElem?_take_of_lt hi, List.getD_eq_getElem?_getD]
            have hone : ∀ i, i < n → ((cs.take n).getD i .unit).cells = [(cs.take n).getD i .unit] := fun i hi => by
              have hm : (cs.take n).getD i .unit ∈ cs.take n := by
                have : i < (cs.take n).length := by simp; omega
                rw [List.getD_eq_getElem?_getD, List.getElem?_eq_getElem this]
                exact List.getElem_mem this
              have h1 := List.all_eq_true.1 hn.2 _ hm
              generalize (cs.take n).getD i .unit = y at h1
              cases y <;> first | rfl | simp [PV.oneB] at h1
            refine PRep.slice (fun i _ => gg i) hF (Nat.le_refl _) (by omega) (fun i hi => by rw [hone i hi]; rfl) (fun i j hi hj => ?_) (fun i j hi hj => ?_) (fun i j hi hj => ?_)
            · have : j = 0 := by omega
              subst this
              rw [Nat.mul_one, Nat.add_zero]; exact hc i (by omega)
            · have hm : (cs.take n).getD i .unit ∈ cs.take n := by
                have : i < (cs.take n).length := by simp; omega
                rw [List.getD_eq_getElem?_getD, List.getElem?_eq_getElem this]
                exact List.getElem_mem this
              have h8 := hh i (by omega)
              rw [← ht i hi] at h8
              exact oneCell_of_oneB h8 (List.all_eq_true.1 hn.2 _ hm)
            · have : j = 0 := by omega
              subst this
              have h8 := hh i (by omega)
              rw [← ht i hi] at h8
              rw [hone i hi]; exact h8
        · exact h5.elim
      · exact h3.elim
    · exact h3.elim
end
end Abs
