/- Single operations, fourth part: addresses, parts, cuts of slices, arithmetic. -/
import Derived.Test.YtabnianhpamofaaAbs7
import Derived.Laws.Slices
set_option linter.unusedSectionVars false
set_option linter.unusedSimpArgs false
set_option linter.unusedVariables false
namespace Abs
open Go Go.RowKit
variable [DMode]

section
variable {P : Program} {s : SS} {m : Bool} {d : Option Nat} {K : V → Option (Nat × Nat × Blk) → List Prop → Prop}

theorem liveK_elim {id ver : Nat} {Q : Prop} {A : Acc} (hA : Sub A s) (h : liveK A.hd id ver Q) : (s.h id).1 = ver ∧ Q := by
  have h := hA.hd _ _ h
  simp only [SS.acc, cond_prop] at h
  split at h
  · rename_i hv; exact ⟨Nat.eq_of_beq_eq_true hv, h⟩
  · exact h.elim

theorem el_nilCheck {x : Operand} {A : Acc} (hA : Sub A s) (h : opK P m A d (.nilCheck x) K) : Elim P s (.nilCheck x) K := by
  obtain ⟨v, ob, h1, _, hr⟩ := rduK_elim hA h
  split at h1
  · obtain ⟨hv, h1⟩ := liveK_elim hA h1
    refine ⟨_, none, ob, h1, fun ha dst ty pos af g => .pure fun w0 F0 G ρ a w R => ⟨a.eval x, ?_, hr ha w0 F0 G ρ a w R⟩⟩
    have hx := hr ha w0 F0 G ρ a w R
    simp only [VRep] at hx
    obtain ⟨b, hb, hx⟩ := hx.2.2 hv
    simp [execOp, hx]
  · obtain ⟨hv, h1⟩ := liveK_elim hA h1
    refine ⟨_, none, ob, h1, fun ha dst ty pos af g => .pure fun w0 F0 G ρ a w R => ⟨a.eval x, ?_, hr ha w0 F0 G ρ a w R⟩⟩
    have hx := hr ha w0 F0 G ρ a w R
    simp only [VRep] at hx
    obtain ⟨b, hb, hx⟩ := hx.2.2 hv
    simp [execOp, hx]
  · refine ⟨_, none, ob, h1, fun ha dst ty pos af g => .pure fun w0 F0 G ρ a w R => ⟨a.eval x, ?_, hr ha w0 F0 G ρ a w R⟩⟩
    have hx := hr ha w0 F0 G ρ a w R
    simp only [VRep] at hx
    generalize he : a.eval x = xv at hx
    cases hx with
    | box g hF hc hh => simp [execOp, he]
  · exact h1.elim

theorem fieldK_elim {t i : Nat} {K : Nat → Nat → Bool → Prop} (h : fieldK P t i K) :
    ∃ (fs : Array Field) (f : Field) (n : Nat) (u : TypeDesc), und P t = some (.struct fs) ∧ fs[i]? = some f ∧ szOf P f.type = some n ∧ und P f.type = some u ∧ K f.offset n (aggB u) := by
  unfold fieldK at h
  split at h
  · rename_i fl hfl
    unfold structOf at hfl
    split at hfl
    · rename_i fs hfs
      simp only [Option.some.injEq] at hfl
      subst hfl
      split at h
      · rename_i f hf
        split at h
        · rename_i n u hn hu
          exact ⟨fs, f, n, u, hfs, by rw [getL_eq, Array.getElem?_toList] at hf; exact hf, hn, hu, h⟩
        · exact h.elim
      · exact h.elim
    · cases hfl
  · exact h.elim
theorem run_fieldAt {t i : Nat} {fs : Array Field} {f : Field} {n b off : Nat} {w : World} (hu : und P t = some (.struct fs)) (hf : fs[i]? = some f) (hn : szOf P f.type = some n) (h0 : 0 < n) :
    (Instr.fieldAt t (.pointer (some ⟨b, off, none⟩)) i).run P w = .ok (.pointer (some ⟨b, off + f.offset, none⟩)) w := by
  have : ¬ n = 0 := by omega
  simp [Instr.fieldAt, run_und hu, hf, Instr.sureAddr, fieldPlace, run_siz hn, this, add_at]

theorem drop_box {w : World} {G : Nat → Prop} {b off k : Nat} {cs : List PV} (g : Nat → Value) (hF : G b) (hc : ∀ j, j < cs.length → w.cell? ⟨b, off + j, none⟩ = some (g j))
    (hh : ∀ j, j < cs.length → PRep w G (g j) (cs.getD j .unit)) : PRep w G (.pointer (some ⟨b, off + k, none⟩)) (.box (dropL cs k)) := by
  rw [dropL_eq]
  refine PRep.box (fun j => g (k + j)) hF (fun j hj => ?_) (fun j hj => ?_)
  · rw [Nat.add_assoc]; exact hc _ (by simp at hj; omega)
  · have := hh (k + j) (by simp at hj; omega)
    simpa [List.getD_eq_getElem?_getD, List.getElem?_drop] using this
theorem vptr {w : World} {G : Nat → Prop} {ρ : Nat → Option Nat} {h : Nat → Nat × Blk} {id ver off b : Nat} (hv : (h id).1 = ver) (hb : ρ id = some b) :
    VRep w G ρ h (.ptr id ver off) (.pointer (some ⟨b, off, none⟩)) := by
  simp only [VRep]; exact ⟨rfl, by omega, fun _ => ⟨b, hb, rfl⟩⟩
theorem veptr {w : World} {G : Nat → Prop} {ρ : Nat → Option Nat} {h : Nat → Nat × Blk} {id ver sz i j b : Nat} (hv : (h id).1 = ver) (hb : ρ id = some b) :
    VRep w G ρ h (.eptr id ver sz i j) (.pointer (some ⟨b, i * sz + j, none⟩)) := by
  simp only [VRep]; exact ⟨rfl, by omega, fun _ => ⟨b, hb, rfl⟩⟩

theorem el_fieldAddr {t i : Nat} {x : Operand} {A : Acc} (hA : Sub A s) (h : opK P m A d (.fieldAddr t x i) K) : Elim P s (.fieldAddr t x i) K := by
  simp only [opK] at h
  obtain ⟨fs, f, n, u, hu, hf, hn, _, h1⟩ := fieldK_elim h
  simp only [cond_prop] at h1
  split at h1
  · rename_i h0
    have h0 : 0 < n := by simpa using h0
    obtain ⟨v, ob, h2, _, hr⟩ := rduK_elim hA h1
    split at h2
    · rename_i id ver o
      obtain ⟨hv, h2⟩ := liveK_elim hA h2
      refine ⟨_, none, ob, h2, fun ha dst ty pos af g => .pure fun w0 F0 G ρ a w R => ?_⟩
      have hx := hr ha w0 F0 G ρ a w R
      simp only [VRep] at hx
      obtain ⟨b, hb, hx⟩ := hx.2.2 hv
      exact ⟨_, by simp [execOp, hx, run_fieldAt hu hf hn h0], vptr hv hb⟩
    · rename_i id ver sz k j
      obtain ⟨hv, h2⟩ := liveK_elim hA h2
      refine ⟨_, none, ob, h2, fun ha dst ty pos af g => .pure fun w0 F0 G ρ a w R => ?_⟩
      have hx := hr ha w0 F0 G ρ a w R
      simp only [VRep] at hx
      obtain ⟨b, hb, hx⟩ := hx.2.2 hv
      exact ⟨_, by simp [execOp, hx, run_fieldAt hu hf hn h0, Nat.add_assoc], veptr hv hb⟩
    · rename_i cs
      refine ⟨_, none, ob, h2, fun ha dst ty pos af g => .pure fun w0 F0 G ρ a w R => ?_⟩
      have hx := hr ha w0 F0 G ρ a w R
      simp only [VRep] at hx
      generalize he : a.eval x = xv at hx
      cases hx with
      | @box b off _ gg hF hc hh =>
        exact ⟨.pointer (some ⟨b, off + f.offset, none⟩), by simp [execOp, he, run_fieldAt hu hf hn h0], by simp only [VRep]; exact drop_box gg hF hc hh⟩
    · exact h2.elim
  · exact h1.elim

/-- A part of a struct's or an array's value. -/
theorem run_part' {t n off : Nat} {u : TypeDesc} {cs : Array Value} {w : World} (hu : und P t = some u) (hn : szOf P t = some n) (h : aggB u = true → n ≤ cs.size - off) (h' : aggB u = false → off < cs.size) :
    (part t cs off).run P w = .ok (if aggB u then .agg ((List.range n).map fun j => cs.getD (off + j) undef).toArray else cs.getD (off + 0) undef) w := by
  simp only [part, Sem.run_bind, run_agg hu, Result.andThen_ok]
  cases hd : aggB u with
  | true =>
    simp only [if_true, Sem.run_bind, run_siz hn, Result.andThen_ok, Sem.run_pure]
    have hb := h hd
    congr 2
    apply Array.ext'
    apply List.ext_getElem?
    intro j
    by_cases hj : j < n
    · simp [hj, List.getElem?_take_of_lt, Array.getD_eq_getD_getElem?, show off + j < cs.size by omega]
    · have h1 : ((List.range n).map fun j => cs.getD (off + j) undef).toArray.toList[j]? = none := by simp; omega
      rw [h1]
      simp; omega
  | false =>
    have hb := h' hd
    simp [hb, Array.getD_eq_getD_getElem?]

theorem el_field {t i : Nat} {x : Operand} {A : Acc} (hA : Sub A s) (h : opK P m A d (.field t x i) K) : Elim P s (.field t x i) K := by
  simp only [opK] at h
  obtain ⟨fs, f, n, u, hu, hf, hn, hfu, h1⟩ := fieldK_elim h
  obtain ⟨v, ob, h2, _, hr⟩ := rduK_elim hA h1
  split at h2
  · rename_i cs
    obtain ⟨r, h3, h4, h5, h6⟩ := loadPK_elim h2
    rw [dropL_eq] at h4 h5 h6
    refine ⟨_, none, ob, h3, fun ha dst ty pos af g => .pure fun w0 F0 G ρ a w R => ?_⟩
    have hx := hr ha w0 F0 G ρ a w R
    simp only [VRep] at hx
    generalize he : a.eval x = xv at hx
    cases hx with
    | @agg vs _ hl hc =>
      have := run_part' (P := P) (cs := vs.toArray) (off := f.offset) (w := w) hfu hn (fun e => by have := h4 e; simp at this ⊢; omega) (fun e => by have := h5 e; simp at this ⊢; omega)
      refine ⟨_, by simp only [execOp, he, Instr.field, Sem.run_bind, run_und hu, Result.andThen_ok, hf, asAgg, Sem.run_pure, this]; rfl, ?_⟩
      simp only [VRep]
      refine h6 w G (fun j => vs.toArray.getD (f.offset + j) undef) (fun j hj => ?_)
      have := hc (f.offset + j) (by simp at hj; omega)
      simpa [List.getD_eq_getElem?_getD, List.getElem?_drop, Array.getD_eq_getD_getElem?] using this
  · exact h2.elim

theorem el_index {t : Nat} {x i : Operand} {A : Acc} (hA : Sub A s) (h : opK P m A d (.index t x i) K) : Elim P s (.index t x i) K := by
  simp only [opK] at h
  split at h
  · rename_i n e hu
    split at h
    · rename_i sz u hn hfu
      obtain ⟨v, ob, h2, hs2, hr⟩ := rduK_elim hA h
      obtain ⟨vi, ob', h3, hs3, hri⟩ := rduK_elim hA h2
      split at h3
      · rename_i cs kk k
        obtain ⟨r, h3, h4, h5, h6⟩ := loadPK_elim h3
        rw [dropL_eq] at h4 h5 h6
        refine ⟨_, none, _, h3, fun ha dst ty pos af g => .pure fun w0 F0 G ρ a w R => ?_⟩
        obtain ⟨hk0, ha⟩ := allL_cons ha
        obtain ⟨hk1, ha⟩ := allL_cons ha
        have hx := hr (hs3 ha) w0 F0 G ρ a w R
        have hi := vint (hri ha w0 F0 G ρ a w R)
        simp only [VRep] at hx
        generalize he : a.eval x = xv at hx
        cases hx with
        | @agg vs _ hl hc =>
          have := run_part' (P := P) (cs := vs.toArray) (off := k.toNat * sz) (w := w) hfu hn (fun e => by have := h4 e; simp at this ⊢; omega) (fun e => by have := h5 e; simp at this ⊢; omega)
          refine ⟨_, by simp only [execOp, he, hi, Instr.index, Sem.run_bind, run_und hu, Result.andThen_ok, asIntOf, Sem.run_pure, hk0, hk1, and_self, if_true, run_siz hn, this]; rfl, ?_⟩
          simp only [VRep]
          refine h6 w G (fun j => vs.toArray.getD (k.toNat * sz + j) undef) (fun j hj => ?_)
          have := hc (k.toNat * sz + j) (by simp at hj; omega)
          simpa [List.getD_eq_getElem?_getD, List.getElem?_drop, Array.getD_eq_getD_getElem?] using this
      · exact h3.elim
    · exact h.elim
  · exact h.elim

theorem run_indexArr {t n e sz b off : Nat} {k : IntKind} {i : Int} {w : World} (hu : und P t = some (.array n e)) (hs : szOf P e = some sz) (h0 : 0 ≤ i) (h1 : i < n) :
    (Instr.indexAt t (.pointer (some ⟨b, off, none⟩)) (.int k i)).run P w = .ok (.pointer (some ⟨b, off + i.toNat * sz, none⟩)) w := by
  simp [Instr.indexAt, asIntOf, run_und hu, Instr.sureAddr, h0, h1, run_siz hs, add_at]
theorem run_indexSl {t e sz b off len cap : Nat} {k : IntKind} {i : Int} {w : World} (hu : und P t = some (.slice e)) (hs : szOf P e = some sz) (h0 : 0 ≤ i) (h1 : i < len) :
    (Instr.indexAt t (.slice (some ⟨b, off, none⟩) len cap) (.int k i)).run P w = .ok (.pointer (some ⟨b, off + i.toNat * sz, none⟩)) w := by
  simp [Instr.indexAt, asIntOf, run_und hu, h0, h1, run_siz hs, add_at]

theorem el_indexAddr {t : Nat} {x i : Operand} {A : Acc} (hA : Sub A s) (h : opK P m A d (.indexAddr t x i) K) : Elim P s (.indexAddr t x i) K := by
  simp only [opK] at h
  split at h
  · rename_i n e hu
    split at h
    · rename_i sz hn
      obtain ⟨v, ob, h2, hs2, hr⟩ := rduK_elim hA h
      obtain ⟨vi, ob', h3, hs3, hri⟩ := rduK_elim hA h2
      split at h3
      · rename_i kk k
        split at h3
        · rename_i id ver off
          obtain ⟨hv, h3⟩ := liveK_elim hA h3
          refine ⟨_, none, _, h3, fun ha dst ty pos af g => .pure fun w0 F0 G ρ a w R => ?_⟩
          obtain ⟨hk0, ha⟩ := allL_cons ha
          obtain ⟨hk1, ha⟩ := allL_cons ha
          have hx := hr (hs3 ha) w0 F0 G ρ a w R
          have hi := vint (hri ha w0 F0 G ρ a w R)
          simp only [VRep] at hx
          obtain ⟨b, hb, hx⟩ := hx.2.2 hv
          exact ⟨_, by simp [execOp, hx, hi, run_indexArr hu hn hk0 hk1], vptr hv hb⟩
        · rename_i id ver sz' e' j
          obtain ⟨hv, h3⟩ := liveK_elim hA h3
          refine ⟨_, none, _, h3, fun ha dst ty pos af g => .pure fun w0 F0 G ρ a w R => ?_⟩
          obtain ⟨hk0, ha⟩ := allL_cons ha
          obtain ⟨hk1, ha⟩ := allL_cons ha
          have hx := hr (hs3 ha) w0 F0 G ρ a w R
          have hi := vint (hri ha w0 F0 G ρ a w R)
          simp only [VRep] at hx
          obtain ⟨b, hb, hx⟩ := hx.2.2 hv
          exact ⟨_, by simp [execOp, hx, hi, run_indexArr hu hn hk0 hk1, Nat.add_assoc], veptr hv hb⟩
        · rename_i cs
          refine ⟨_, none, _, h3, fun ha dst ty pos af g => .pure fun w0 F0 G ρ a w R => ?_⟩
          obtain ⟨hk0, ha⟩ := allL_cons ha
          obtain ⟨hk1, ha⟩ := allL_cons ha
          have hx := hr (hs3 ha) w0 F0 G ρ a w R
          have hi := vint (hri ha w0 F0 G ρ a w R)
          simp only [VRep] at hx
          generalize he : a.eval x = xv at hx
          cases hx with
          | @box b off _ gg hF hc hh =>
            exact ⟨_, by simp [execOp, he, hi, run_indexArr hu hn hk0 hk1]; rfl, by simp only [VRep]; exact drop_box gg hF hc hh⟩
        · exact h3.elim
      · exact h3.elim
    · exact h.elim
  · rename_i e hu
    split at h
    · rename_i sz hn
      obtain ⟨v, ob, h2, hs2, hr⟩ := rduK_elim hA h
      obtain ⟨vi, ob', h3, hs3, hri⟩ := rduK_elim hA h2
      split at h3
      · rename_i kk k
        split at h3
        · rename_i sz' n f
          simp only [cond_prop] at h3
          split at h3
          · rename_i hsz
            have hsz := Nat.eq_of_beq_eq_true hsz
            subst hsz
            refine ⟨_, none, _, h3, fun ha dst ty pos af g => .pure fun w0 F0 G ρ a w R => ?_⟩
            obtain ⟨hk0, ha⟩ := allL_cons ha
            obtain ⟨hk1, ha⟩ := allL_cons ha
            have hx := hr (hs3 ha) w0 F0 G ρ a w R
            have hi := vint (hri ha w0 F0 G ρ a w R)
            simp only [VRep] at hx
            generalize he : a.eval x = xv at hx
            cases hx with
            | empty a cap => omega
            | @slice b off _ cap _ _ gg hF hcap hnn hl hc h1c hh =>
              have hkn : k.toNat < n := by omega
              refine ⟨.pointer (some ⟨b, off + k.toNat * sz, none⟩), by simp [execOp, he, hi, run_indexSl hu hn hk0 hk1], ?_⟩
              simp only [VRep]
              exact PRep.box (gg k.toNat) hF (fun j hj => by rw [hl _ hkn] at hj; exact hc _ j hkn hj) (fun j hj => by rw [hl _ hkn] at hj; exact hh _ j hkn hj)
          · exact h3.elim
        · exact ⟨_, none, _, h3, fun ha => absurd (ha False (by simp)) id⟩
        · rename_i id ver sz' lo len
          simp only [cond_prop] at h3
          split at h3
          · rename_i hsz
            have hsz := Nat.eq_of_beq_eq_true hsz
            subst hsz
            obtain ⟨hv, h3⟩ := liveK_elim hA h3
            refine ⟨_, none, _, h3, fun ha dst ty pos af g => .pure fun w0 F0 G ρ a w R => ?_⟩
            obtain ⟨hk0, ha⟩ := allL_cons ha
            obtain ⟨hk1, ha⟩ := allL_cons ha
            have hx := hr (hs3 ha) w0 F0 G ρ a w R
            have hi := vint (hri ha w0 F0 G ρ a w R)
            simp only [VRep] at hx
            rcases hx.2.2 hv with ⟨e0, _⟩ | ⟨b, cap, c, e', hb, hx, hcap, hc, hsz⟩
            · omega
            · refine ⟨_, by simp [execOp, hx, hi, run_indexSl hu hn hk0 hk1]; rfl, ?_⟩
              have := veptr (w := w) (G := G) (ρ := ρ) (h := s.h) (sz := sz) (i := lo + k.toNat) (j := 0) hv hb
              rw [Nat.add_mul, Nat.add_zero] at this
              exact this
          · exact h3.elim
        · rename_i id ver sz' off len
          simp only [cond_prop] at h3
          split at h3
          · rename_i hsz
            have hsz := Nat.eq_of_beq_eq_true hsz
            subst hsz
            obtain ⟨hv, h3⟩ := liveK_elim hA h3
            refine ⟨_, none, _, h3, fun ha dst ty pos af g => .pure fun w0 F0 G ρ a w R => ?_⟩
            obtain ⟨hk0, ha⟩ := allL_cons ha
            obtain ⟨hk1, ha⟩ := allL_cons ha
            have hx := hr (hs3 ha) w0 F0 G ρ a w R
            have hi := vint (hri ha w0 F0 G ρ a w R)
            simp only [VRep] at hx
            obtain ⟨b, cap, hb, hx, hcap⟩ := hx.2.2 hv
            exact ⟨_, by simp [execOp, hx, hi, run_indexSl hu hn hk0 hk1], vptr hv hb⟩
          · exact h3.elim
        · exact h3.elim
      · exact h3.elim
    · exact h.elim
  · exact h.elim

/-! ### Arithmetic -/
theorem arith_elim {m : Bool} {k : IntKind} {n : Int} {acc : List Prop} {K : V → List Prop → Prop} (h : arith m k n acc K) :
    ∃ n' ob, K (.pv (.int k n')) ob ∧ (AllL ob → AllL acc ∧ k.wrap n = n') := by
  cases m with
  | true => exact ⟨_, acc, h, fun ha => ⟨ha, rfl⟩⟩
  | false => exact ⟨n, _, h, fun ha => ⟨(allL_cons ha).2, (allL_cons ha).1⟩⟩
theorem kEq_eq {k k' : IntKind} (h : kEq k k' = true) : k = k' := by
  cases k <;> cases k' <;> first | rfl | (simp [kEq, kNum] at h)

theorem el_convert {t u : Nat} {x : Operand} {A : Acc} (hA : Sub A s) (h : opK P m A d (.convert t u x) K) : Elim P s (.convert t u x) K := by
  simp only [opK] at h
  split at h
  · rename_i k0 k hs ht
    obtain ⟨v, ob, h1, hs1, hr⟩ := rduK_elim hA h
    split at h1
    · rename_i kk n
      obtain ⟨n', ob', h2, h3⟩ := arith_elim h1
      refine ⟨_, none, _, h2, fun ha dst ty pos af g => .pure fun w0 F0 G ρ a w R => ?_⟩
      obtain ⟨ha, hn⟩ := h3 ha
      have hx := vint (hr ha w0 F0 G ρ a w R)
      exact ⟨.int k n', by simp [execOp, hx, convert, run_und hs, run_und ht, Conv.intToInt, hn], vint'⟩
    · exact h1.elim
  · exact h.elim
theorem el_unOp {op : UnOp} {t : Nat} {x : Operand} {A : Acc} (hA : Sub A s) (h : opK P m A d (.unOp op t x) K) : Elim P s (.unOp op t x) K := by
  obtain ⟨v, ob, h1, hs1, hr⟩ := rduK_elim hA h
  split at h1
  · rename_i b
    refine ⟨_, none, _, h1, fun ha dst ty pos af g => .pure fun w0 F0 G ρ a w R => ?_⟩
    have hx := vbool (hr ha w0 F0 G ρ a w R)
    exact ⟨.bool (!b), by simp [execOp, hx, Op.unary], vbool'⟩
  · rename_i k n
    obtain ⟨n', ob', h2, h3⟩ := arith_elim h1
    refine ⟨_, none, _, h2, fun ha dst ty pos af g => .pure fun w0 F0 G ρ a w R => ?_⟩
    obtain ⟨ha, hn⟩ := h3 ha
    have hx := vint (hr ha w0 F0 G ρ a w R)
    exact ⟨.int k n', by simp only [execOp, hx, Op.unary, Op.intArith, Sem.run_bind, Sem.run_pure, Result.andThen_ok, hn], vint'⟩
  · exact h1.elim
end
end Abs
