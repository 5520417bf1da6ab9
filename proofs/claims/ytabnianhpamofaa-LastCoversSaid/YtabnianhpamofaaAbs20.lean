/- Code and functions: what the generator says holds of the model. -/
import Derived.Test.YtabnianhpamofaaAbs19
import Derived.RangeFuncLeaves
import Derived.RangeFuncRecord
set_option linter.unusedSectionVars false
set_option linter.unusedSimpArgs false
set_option linter.unusedVariables false
namespace Abs
open Go Go.RowKit
variable [DMode]

section
variable {P : Program}

theorem codeN_unfold {c : Code} {Q : Exit → S → Prop} {s : S} (h : CodeN P c Q s) : CodeSem P c Q s := by
  unfold CodeN at h; exact h
theorem CodeSem.le {c : Code} {Q : Exit → S → Prop} {s s' : S} (h : CodeSem P c Q s') (hl : Le s s') : CodeSem P c Q s :=
  fun w0 F0 a w R => h w0 F0 a w (hl w0 F0 a w R)
theorem loopN_unfold {w : (Exit → S → Prop) → S → Prop} {Q : Exit → S → Prop} {s : S} (h : LoopN w Q s) : ∀ I : S → Prop, (∀ s s', Le s s' → I s' → I s) → (∀ s, LoopF w Q I s → I s) → I s := by
  unfold LoopN at h; exact h

theorem W_sound (hm : P.follows .mixedOrders = true) (m : Mode) : ∀ (c : Code) (Q : Exit → S → Prop) (s : S), W P m c Q s → CodeSem P c Q s
  | .skip, Q, s, h => fun w0 F0 a w R => wp_skip ⟨s, h, R⟩
  | .region id ops false, Q, s, h => by
    simp only [W] at h
    obtain ⟨s1, h1, h2⟩ := freezeK_elim h
    refine CodeSem.le (fun w0 F0 a w R => ?_) h2
    refine wp_region ?_
    have := (wops_sound (k := 0) (by simp) h1).2 R (fun e a' w' => ∃ s', Q e s' ∧ Rel w0 F0 s'.view a' w') (fun s' a' w' hf R' => ⟨s', hf, R'⟩)
    rw [List.range_eq_range']
    simpa using this
  | .region id ops true, Q, s, h => by
    simp only [W] at h
    obtain ⟨s1, h1, h2⟩ := freezeK_elim h
    refine CodeSem.le (fun w0 F0 a w R => ?_) h2
    have := draw_ok hm m.wrap ops.toList (fun s' => Q .normal s') s1 h1 w0 F0 a w id R (fun e a' w' => ∃ s', Q e s' ∧ Rel w0 F0 s'.view a' w') (fun s' a' w' hf R' => ⟨s', hf, R'⟩)
    simpa using this
  | .seq x y, Q, s, h => fun w0 F0 a w R => by
    refine wp_seq (wp_mono (W_sound hm m x _ s h w0 F0 a w R) fun e a' w' ⟨s', h1, R'⟩ => ?_)
    cases e with
    | normal => exact W_sound hm m y Q s' h1 w0 F0 a' w' R'
    | _ => exact ⟨s', h1, R'⟩
  | .cond c x y, Q, s, h => fun w0 F0 a w R => by
    simp only [W] at h
    rw [acc_view] at h
    obtain ⟨v, ob, h1, _, h3⟩ := rduK_elim (.refl _) h
    split at h1
    · rename_i g
      obtain ⟨ho, h1⟩ := owe_elim h1
      obtain ⟨G, ρ, R0⟩ := R
      have he := vbool (h3 ho w0 F0 G ρ a w R0)
      refine wp_cond he ?_
      cases g with
      | true => exact W_sound hm m x Q s h1 w0 F0 a w ⟨G, ρ, R0⟩
      | false => exact W_sound hm m y Q s h1 w0 F0 a w ⟨G, ρ, R0⟩
    · exact h1.elim
  | .block id c, Q, s, h => fun w0 F0 a w R => by
    refine wp_block (wp_mono (W_sound hm m c _ s h w0 F0 a w R) fun e a' w' ⟨s', h1, R'⟩ => ?_)
    cases e with
    | exit i =>
      simp only [cond_prop] at h1
      simp only [Exit.inBlock]
      split at h1
      · rename_i hi
        rw [if_pos (Nat.eq_of_beq_eq_true hi)]; exact ⟨s', h1, R'⟩
      · rename_i hi
        rw [if_neg (fun e => hi (by rw [e]; simp))]; exact ⟨s', h1, R'⟩
    | _ => exact ⟨s', h1, R'⟩
  | .loop c, Q, s, h => by
    simp only [W] at h
    let I : S → Prop := fun s => ∀ w0 F0 a w, Rel w0 F0 s.view a w → ∀ (b : Frame) (k : List Item) (cs : List Frame),
      ∃ e a' w', (∃ s', Q e s' ∧ Rel w0 F0 s'.view a' w') ∧ Arrives P (lone (b.at a (.code c :: .inLoop c :: k)) cs w) b k cs e a' w'
    have hI : I s := by
      refine loopN_unfold h I (fun s s' hl hi w0 F0 a w R => hi w0 F0 a w (hl w0 F0 a w R)) fun s hs w0 F0 a w R b k cs => ?_
      obtain ⟨e, a₁, w₁, ⟨s', hq, R'⟩, harr⟩ := W_sound hm m c _ s hs w0 F0 a w R b (.inLoop c :: k) cs
      cases e with
      | normal =>
        obtain ⟨e₂, a₂, w₂, hq₂, harr₂⟩ := hq w0 F0 a₁ w₁ R' b k cs
        exact ⟨e₂, a₂, w₂, hq₂, .of_steps (Steps.trans harr (.one step_inLoop)) harr₂⟩
      | exit id => exact ⟨_, a₁, w₁, ⟨s', hq, R'⟩, .pass (x := .inLoop c) rfl (fun _ _ => .inl (by simp)) harr⟩
      | goto l => exact ⟨_, a₁, w₁, ⟨s', hq, R'⟩, .pass (x := .inLoop c) rfl (fun _ _ => .inl (by simp)) harr⟩
      | ret => exact ⟨_, a₁, w₁, ⟨s', hq, R'⟩, .pass (x := .inLoop c) rfl (fun _ _ => .inl (by simp)) harr⟩
      | panic ch => exact ⟨_, a₁, w₁, ⟨s', hq, R'⟩, .pass (x := .inLoop c) rfl (fun _ _ => .inl (by simp)) harr⟩
      | outgrown => exact ⟨_, a₁, w₁, ⟨s', hq, R'⟩, .pass (x := .inLoop c) rfl (fun _ _ => .inl (by simp)) harr⟩
    intro w0 F0 a w R b k cs
    obtain ⟨e, a', w', hq, harr⟩ := hI w0 F0 a w R b k cs
    exact ⟨e, a', w', hq, .of_steps (.one step_loop) harr⟩
  | .exit id, Q, s, h => fun w0 F0 a w R => wp_exit ⟨s, h, R⟩
  | .ret, Q, s, h => fun w0 F0 a w R => wp_ret ⟨s, h, R⟩
  | .label l, Q, s, h => fun w0 F0 a w R => wp_label ⟨s, h, R⟩
  | .goto l, Q, s, h => codeN_unfold h
  | .scope c, Q, s, h => codeN_unfold h
  | .refuse l, Q, s, h => codeN_unfold h
  | .rangeFunc _ _ _ _, Q, s, h => codeN_unfold h

/-- A change in memory that the state knows nothing of. -/
theorem RelX.other {w0 : World} {F0 : Env} {G : Nat → Prop} {ρ : Nat → Option Nat} {s : SS} {a : Act} {w w' : World} (R : RelX w0 F0 G ρ s a w) (hb : Bel w0.heap.size w w') (hG : ∀ b, G b → w'.heap[b]? = w.heap[b]?)
    (hρ : ∀ i b, ρ i = some b → w'.heap[b]? = w.heap[b]?) {ds : List Deferred} (hm : Marks F0.Z F0.Y w0.heap.size G ρ w' ds) : RelX w0 F0 G ρ s ⟨a.tmps, ds⟩ w' := by
  have hk : Keeps w w' G G ρ ρ s.h s.h := ⟨hG, fun _ h => h, fun _ => Nat.le_refl _, fun _ _ => rfl, fun i b c e h1 _ h2 => ⟨c, by rw [hρ i b h1]; exact h2, rfl⟩⟩
  exact {
    defers := hm
    size := R.size
    below := R.below.trans hb
    foot := fun b h => ⟨Nat.lt_of_lt_of_le (R.foot b h).1 hb.size, (R.foot b h).2⟩
    own := fun i b h => ⟨(R.own i b h).1, Nat.lt_of_lt_of_le (R.own i b h).2.1 hb.size, (R.own i b h).2.2⟩
    inj := R.inj
    blk := fun i => BRep.keep hk (fun b h => hρ i b h) _ (R.blk i)
    slot := fun i => VRep.keep hk _ _ (R.slot i) }
theorem Bel.putObj {B : Nat} {a w : World} (h : Bel B a w) {D : Nat} (hD : B ≤ D) (o : Obj) : Bel B a (w.putObj D o) :=
  ⟨h.out.trans ⟨rfl, rfl, rfl, by simp, fun k hk => World.putObj_heap_other (by omega)⟩, h.drawn⟩
/-- On the way out, the marks are taken one after the other. -/
theorem leaves_of {fn : Func} {R : Ending → World → Prop} {w0 : World} {F0 : Env} {s : SS} {tmps : Array Value} {n : Nat} {G : Nat → Prop} {ρ : Nat → Option Nat} (hz0 : ∀ b o, ¬ F0.Z b o) (hy0 : ∀ b o, F0.Y b o → b < w0.heap.size)
    (fin : ∀ w, RelX w0 F0 G ρ s ⟨tmps, []⟩ w → ∃ v, (results fn tmps).run P w = .ok v w ∧ R (.returned v) w) :
    ∀ (ds : List Deferred) (w : World), RelX w0 F0 G ρ s ⟨tmps, ds⟩ w → LeavesInM Fence.wide n P fn tmps R ds .returning w
  | [], w, Rx => by
    simp only [LeavesInM, LeavesIn]
    exact fin w Rx
  | d :: ds, w, Rx => by
    simp only [LeavesInM]
    refine ⟨by simp, .inl ?_⟩
    obtain ⟨D, rfl, h2, h3, h4, h5⟩ := Rx.defers.1 d (by simp)
    refine ⟨D, _, rfl, run_takeDeferred h3, leaves_of hz0 hy0 fin ds _ ?_⟩
    have hne : ∀ b, b ≠ D → (w.putObj D (.deferred none)).heap[b]? = w.heap[b]? := fun b hb => World.putObj_heap_other hb
    refine Rx.other ((Bel.refl _ _).putObj h2 _) (fun b hb => hne b (fun e => h4 (e ▸ hb))) (fun i b hb => hne b (fun e => h5 i (e ▸ hb))) ⟨fun d' hd' => ?_, (List.nodup_cons.1 Rx.defers.2.1).2, fun b o hz => (hz0 b o hz).elim, fun b o hy => ⟨by rw [hne b (fun e => by have := hy0 b o hy; omega)]; exact (Rx.defers.2.2.2 b o hy).1, (Rx.defers.2.2.2 b o hy).2⟩⟩
    · obtain ⟨D', rfl, h2', h3', h4', h5'⟩ := Rx.defers.1 d' (by simp [hd'])
      refine ⟨D', rfl, h2', ?_, h4', h5'⟩
      rw [hne D' (fun e => (List.nodup_cons.1 Rx.defers.2.1).1 (by rw [← e]; exact hd'))]
      exact h3'

/-! ### A function's result -/
mutual
theorem prep_same : ∀ (x y : PV), Same x y → ∀ {w : World} {F : Nat → Prop} {v : Value}, PRep w F v x → PRep w F v y
  | .slice sz n f, .slice sz' n' g, h, w, F, v, hp => by
    simp only [Same] at h
    obtain ⟨rfl, rfl, h⟩ := h
    cases hp with
    | empty a cap => exact .empty _ _ _ _
    | slice gg hF hcap hn hl hc h1 hh => exact .slice gg hF hcap hn (fun i hi => by rw [← h i hi]; exact hl i hi) hc h1 (fun i j hi hj => by rw [← h i hi]; exact hh i j hi hj)
  | .nil, .slice sz n g, h, w, F, v, hp => by
    simp only [Same] at h
    subst h
    cases hp
    exact .empty _ _ _ _
  | .tup xs, .tup ys, h, w, F, v, hp => by
    simp only [Same] at h
    obtain ⟨h1, h2⟩ := prep_sames xs ys h
    cases hp with
    | tup hl hc => exact .tup (hl.trans h1) fun i hi => h2 i (by omega) (hc i (by omega))
  | .agg xs, .agg ys, h, w, F, v, hp => by
    simp only [Same] at h
    obtain ⟨h1, h2⟩ := prep_sames xs ys h
    cases hp with
    | agg hl hc => exact .agg (hl.trans h1) fun i hi => h2 i (by omega) (hc i (by omega))
  | .unit, y, h, w, F, v, hp => by rw [← (show PV.unit = y by simpa [Same] using h)]; exact hp
  | .bool b, y, h, w, F, v, hp => by rw [← (show PV.bool b = y by simpa [Same] using h)]; exact hp
  | .int k n, y, h, w, F, v, hp => by rw [← (show PV.int k n = y by simpa [Same] using h)]; exact hp
  | .str b, y, h, w, F, v, hp => by rw [← (show PV.str b = y by simpa [Same] using h)]; exact hp
  | .nilp, y, h, w, F, v, hp => by rw [← (show PV.nilp = y by simpa [Same] using h)]; exact hp
  | .fn f c, y, h, w, F, v, hp => by rw [← (show PV.fn f c = y by simpa [Same] using h)]; exact hp
  | .box c, y, h, w, F, v, hp => by rw [← (show PV.box c = y by simpa [Same] using h)]; exact hp
  | .map c, y, h, w, F, v, hp => by rw [← (show PV.map c = y by simpa [Same] using h)]; exact hp
  | .slice a b c, .unit, h, _, _, _, _ | .slice a b c, .bool _, h, _, _, _, _ | .slice a b c, .int _ _, h, _, _, _, _ | .slice a b c, .str _, h, _, _, _, _ | .slice a b c, .agg _, h, _, _, _, _
  | .slice a b c, .tup _, h, _, _, _, _ | .slice a b c, .nil, h, _, _, _, _ | .slice a b c, .nilp, h, _, _, _, _ | .slice a b c, .fn _ _, h, _, _, _, _ | .slice a b c, .box _, h, _, _, _, _
  | .slice a b c, .map _, h, _, _, _, _ => by simp [Same] at h
  | .nil, .nil, h, w, F, v, hp => hp
  | .nil, .unit, h, _, _, _, _ | .nil, .bool _, h, _, _, _, _ | .nil, .int _ _, h, _, _, _, _ | .nil, .str _, h, _, _, _, _ | .nil, .agg _, h, _, _, _, _
  | .nil, .tup _, h, _, _, _, _ | .nil, .nilp, h, _, _, _, _ | .nil, .fn _ _, h, _, _, _, _ | .nil, .box _, h, _, _, _, _ | .nil, .map _, h, _, _, _, _ => by simp [Same] at h
  | .tup a, .unit, h, _, _, _, _ | .tup a, .bool _, h, _, _, _, _ | .tup a, .int _ _, h, _, _, _, _ | .tup a, .str _, h, _, _, _, _ | .tup a, .agg _, h, _, _, _, _
  | .tup a, .slice _ _ _, h, _, _, _, _ | .tup a, .nil, h, _, _, _, _ | .tup a, .nilp, h, _, _, _, _ | .tup a, .fn _ _, h, _, _, _, _ | .tup a, .box _, h, _, _, _, _
  | .tup a, .map _, h, _, _, _, _ => by simp [Same] at h
  | .agg a, .unit, h, _, _, _, _ | .agg a, .bool _, h, _, _, _, _ | .agg a, .int _ _, h, _, _, _, _ | .agg a, .str _, h, _, _, _, _ | .agg a, .tup _, h, _, _, _, _
  | .agg a, .slice _ _ _, h, _, _, _, _ | .agg a, .nil, h, _, _, _, _ | .agg a, .nilp, h, _, _, _, _ | .agg a, .fn _ _, h, _, _, _, _ | .agg a, .box _, h, _, _, _, _
  | .agg a, .map _, h, _, _, _, _ => by simp [Same] at h
theorem prep_sames : ∀ (xs ys : List PV), SameL xs ys → xs.length = ys.length ∧ ∀ i, i < xs.length → ∀ {w : World} {F : Nat → Prop} {v : Value}, PRep w F v (xs.getD i .unit) → PRep w F v (ys.getD i .unit)
  | [], [], _ => ⟨rfl, fun i hi => by simp at hi⟩
  | [], _ :: _, h => by simp [SameL] at h
  | _ :: _, [], h => by simp [SameL] at h
  | x :: xs, y :: ys, h => by
    have h1 : Same x y ∧ SameL xs ys := by
      cases xs with
      | nil => cases ys with
        | nil => exact ⟨h, trivial⟩
        | cons => simp [SameL] at h
      | cons x' xs => cases ys with
        | nil => simp [SameL] at h
        | cons y' ys => simpa [SameL] using h
    obtain ⟨h2, h3⟩ := prep_sames xs ys h1.2
    refine ⟨by simp [h2], fun i hi w F v hv => ?_⟩
    cases i with
    | zero => exact prep_same x y h1.1 (by simpa using hv)
    | succ i => simpa using h3 i (by simpa using hi) (by simpa using hv)
end

/-- One result. -/
def resOf (tmps : Array Value) : ResultVar → Sem Value
  | .tmp t => pure (tmps.getD t undef)
  | .cell a t => do loadVar t (← asAddr (tmps.getD a undef))

theorem giveK_elim {s : SS} {v : V} {K : PV → Prop} (h : giveK s.acc.hd v K) : ∃ x, K x ∧ ∀ {w0 F0 G ρ a w u}, RelX w0 F0 G ρ s a w → VRep w G ρ s.h v u → PRep w (FL G ρ true) u x := by
  have plain : (lendK s.acc.hd v fun x _ => K x) → ∃ x, K x ∧ ∀ {w0 F0 G ρ a w u}, RelX w0 F0 G ρ s a w → VRep w G ρ s.h v u → PRep w (FL G ρ true) u x := by
    intro h
    obtain ⟨x, l, h1, h2⟩ := lendK_elim (.refl _) h
    exact ⟨x, h1, fun R hu => (h2 R hu).mono (fun _ _ => rfl) (FL.mono (fun _ => rfl))⟩
  cases v with
  | fn f caps =>
    unfold giveK at h
    obtain ⟨cs, l, h1, h2⟩ := lendsCK_elim (.refl _) h
    refine ⟨_, h1, fun {w0 F0 G ρ a w u} R hu => ?_⟩
    unfold VRep at hu
    obtain ⟨us, rfl, h3⟩ := hu
    have h4 := (h2 R h3).out
    exact PRep.fn f h4.1 fun i hi => (h4.2 i hi).mono (fun _ _ => rfl) (FL.mono (fun _ => rfl))
  | _ => exact plain h

theorem retsK_elim {s : S} : ∀ {rs : List ResultVar} {K : List PV → Prop}, retsK P s rs K → ∃ xs, K xs ∧ ∀ {w0 F0 G ρ a w}, RelX w0 F0 G ρ s.view a w →
    ∃ vs, (rs.mapM (resOf a.tmps)).run P w = .ok vs w ∧ PRL w (FL G ρ true) vs xs
  | [], K, h => ⟨[], h, fun {w0 F0 G ρ a w} R => ⟨[], by simp, trivial⟩⟩
  | .tmp t :: rs, K, h => by
    unfold retsK at h
    rw [acc_view, show s.view.acc.rd (.tmp t) = fun K => K (s.view.t t) from rfl] at h
    dsimp only at h
    obtain ⟨x, h1, h2⟩ := giveK_elim (s := s.view) (v := s.view.t t) h
    obtain ⟨xs, h3, h4⟩ := retsK_elim h1
    refine ⟨x :: xs, h3, fun {w0 F0 G ρ a w} R => ?_⟩
    obtain ⟨vs, h5, h6⟩ := h4 R
    exact ⟨a.tmps.getD t undef :: vs, by simp [List.mapM_cons, resOf, h5], h2 R (R.slot t), h6⟩
  | .cell sl t :: rs, K, h => by
    unfold retsK at h
    split at h
    · rename_i n u hn hu
      rw [acc_view, show s.view.acc.rd (.tmp sl) = fun K => K (s.view.t sl) from rfl] at h
      dsimp only at h
      split at h
      · rename_i id ver off hv0
        rw [show s.view.acc.hd id = fun K => K (s.view.h id).1 (s.view.h id).2 from rfl] at h
        dsimp only at h
        split at h
        · rename_i cs hcs
          simp only [cond_prop] at h
          split at h
          · rename_i hv
            have hv := Nat.eq_of_beq_eq_true hv
            obtain ⟨r, h1, h2, h2', h3⟩ := loadK_elim h
            rw [dropL_eq] at h2 h2' h3
            obtain ⟨x, h4, h5⟩ := giveK_elim (s := s.view) h1
            obtain ⟨xs, h6, h7⟩ := retsK_elim h4
            refine ⟨x :: xs, h6, fun {w0 F0 G ρ a w} R => ?_⟩
            obtain ⟨vs, h8, h9⟩ := h7 R
            have hsl := R.slot sl
            rw [hv0] at hsl
            unfold VRep at hsl
            obtain ⟨b, hb, he⟩ := hsl.2.2 hv
            have hbl := R.blk id
            rw [hcs, hb] at hbl
            unfold BRep at hbl
            obtain ⟨b', c, e, e1, hc, hsz, hcells⟩ := hbl
            cases e1
            have hread : ∀ j, j < (cs.drop off).length → w.cell? ⟨b, off + j, none⟩ = some (c.getD (off + j) undef) := fun j hj => cell_of hc (by simp at hj; omega)
            have hload := run_loadVar' (P := P) (w := w) (b := b) (off := off) (fun j => c.getD (off + j) undef) hu hn (fun e j hj => hread j (by have := h2 e; omega)) (fun e => by have := hread 0 (h2' e); simpa using this)
            refine ⟨_ :: vs, ?_, h5 R (h3 w G ρ s.view.h (fun j => c.getD (off + j) undef) (fun j hj => ?_)), h9⟩
            · simp [List.mapM_cons, resOf, he, asAddr, hload, h8]
            · have := hcells (off + j) (by simp at hj; omega)
              simpa [List.getD_eq_getElem?_getD, List.getElem?_drop] using this
          · exact h.elim
        · exact h.elim
      · exact h.elim
    · exact h.elim

theorem repK_elim : ∀ {n : Nat} {K : List V → Prop}, repK n K → K (List.replicate n .junk)
  | 0, K, h => h
  | n + 1, K, h => by
    unfold repK at h
    exact repK_elim (n := n) h
theorem initK_elim : ∀ {args : List PV} {n : Nat} {K : List V → Prop}, initK args n K → K (args.map .pv ++ List.replicate n .junk)
  | [], n, K, h => by unfold initK at h; simpa using repK_elim h
  | x :: xs, n, K, h => by
    unfold initK at h
    simpa using initK_elim (args := xs) h

theorem fn_of {m : Mode} {f : FuncId} {fn : Func} {args : List PV} {k : Nat} {r : PV} (hm : P.follows .mixedOrders = true) (hf : P.funcs[f]? = some fn) (hn : (fn.name == "runtime.NumGoroutine") = false) (hk : fn.ntmps - args.length = k)
    (h : Body P m fn args k r) : Fn P f args r := by
  unfold Body at h
  split at h
  · rename_i c hb
    intro w F vs hF hargs hkeep
    have h := W_sound hm m c _ _ (initK_elim h)
    refine .inl ⟨⟨fn, hf, hn, by rw [hb]; rfl⟩, callsIn_wide.1 (callsIn_of_wp_marks (n := 0) hf hb trivial (wpIn_wide.2 (wp_mono (h w ⟨F, fun _ _ => False, DMode.keep, fun _ _ h => h⟩ ⟨vs.toArray ++ Array.replicate (fn.ntmps - vs.toArray.size) undef, []⟩ w ⟨F, fun _ => none, ?_⟩) fun e a' w' ⟨s', hq, G, ρ, R⟩ => ?_)))⟩
    · have hl : vs.length = args.length := hargs.1
      have hsz : (fn.ntmps - vs.toArray.size) = k := by rw [List.size_toArray, hl]; exact hk
      rw [hsz]
      exact {
        defers := ⟨fun d hd => by simp at hd, List.nodup_nil, fun b o hz => hz.elim, fun b o hy => ⟨hkeep b o hy, fun i hi => by cases hi⟩⟩
        size := by simp [S.view, hl]
        below := Bel.refl _ _
        foot := fun b hb => ⟨hF b hb, .inl hb⟩
        own := fun i b hb => by cases hb
        inj := fun i j b hi _ => by cases hi
        blk := fun i => by show BRep w F _ _ none Blk.gone; unfold BRep; trivial
        slot := fun i => by
          simp only [S.view]
          by_cases hi : i < args.length
          · have e1 : (args.map V.pv ++ List.replicate k V.junk).getD i .junk = .pv (args.getD i .unit) := by
              rw [List.getD_eq_getElem?_getD, List.getElem?_append_left (by simpa using hi)]
              simp [List.getD_eq_getElem?_getD, hi]
            have e2 : (vs.toArray ++ Array.replicate k undef).getD i undef = vs.getD i undef := by
              rw [Array.getD_eq_getD_getElem?, Array.getElem?_append_left (by simp; omega)]
              simp [List.getD_eq_getElem?_getD]
            rw [e1, e2]
            unfold VRep
            exact hargs.2 i hi
          · have e1 : (args.map V.pv ++ List.replicate k V.junk).getD i .junk = .junk := by
              rw [List.getD_eq_getElem?_getD, List.getElem?_append_right (by simpa using hi)]
              by_cases h2 : i - (args.map V.pv).length < k
              · simp [List.getElem?_replicate]; split <;> rfl
              · simp [List.getElem?_replicate]; split <;> rfl
            rw [e1]
            unfold VRep; trivial }
    · have fin : ∀ {xs : List PV}, (match xs with | [x] => Same x r | xs => Same (.tup xs) r) → (∀ {w0 F0 G ρ a w}, RelX w0 F0 G ρ s'.view a w → ∃ vs, (fn.results.toList.mapM (resOf a.tmps)).run P w = .ok vs w ∧ PRL w (FL G ρ true) vs xs) →
          LeavesInM Fence.wide 0 P fn a'.tmps (fun e w' => ∃ v', e = .returned v' ∧ Bel w.heap.size w w' ∧ PRep w' (fun b => F b ∨ (w.heap.size ≤ b ∧ b < w'.heap.size)) v' r) a'.defers .returning w' := by
        intro xs hs hr
        refine leaves_of (w0 := w) (F0 := ⟨F, fun _ _ => False, DMode.keep, fun _ _ h => h⟩) (s := s'.view) (G := G) (ρ := ρ) (fun _ _ h => h) (fun b o h => (Array.getElem?_eq_some_iff.1 (hkeep b o h)).1) (fun w' R => ?_) a'.defers w' R
        obtain ⟨us, h1, h2⟩ := hr R
        have hFL : ∀ b, FL G ρ true b → F b ∨ (w.heap.size ≤ b ∧ b < w'.heap.size) := fun b hb => by
          rcases hb with hb | ⟨_, i, hb⟩
          · rcases (R.foot b hb).2 with h3 | h3
            · exact .inl h3
            · exact .inr ⟨h3, (R.foot b hb).1⟩
          · exact .inr ⟨(R.own i b hb).1, (R.own i b hb).2.1⟩
        have hrun : (results fn a'.tmps).run P w' = .ok (if h : us.toArray.size = 1 then us.toArray[0] else .tuple us.toArray) w' := by
          have hfun : results fn a'.tmps = (do
              let vs ← fn.results.mapM (resOf a'.tmps)
              pure (if h : vs.size = 1 then vs[0] else .tuple vs) : Sem Value) := by
            unfold results
            congr 1
          rw [hfun]
          simp only [Sem.run_bind]
          rw [Array.mapM_eq_mapM_toList, Sem.run_map, h1, Result.andThen_ok, Result.andThen_ok, Sem.run_pure]
        refine ⟨_, hrun, _, rfl, R.below, ?_⟩
        have hp := h2.out
        clear h1 h2 hrun hr
        match us, xs, hp, hs with
        | [u], [x], hp, hs =>
          have := hp.2 0 (by simp)
          exact prep_same x r hs ((show PRep w' (FL G ρ true) u x by simpa using this).mono (fun _ _ => rfl) hFL)
        | [u], [], hp, _ => exact absurd hp.1 (by simp)
        | [u], _ :: _ :: _, hp, _ => exact absurd hp.1 (by simp)
        | [], [], hp, hs => exact prep_same _ r hs ((PRep.tup hp.1 hp.2).mono (fun _ _ => rfl) hFL)
        | [], _ :: _, hp, _ => exact absurd hp.1 (by simp)
        | _ :: _ :: _, [], hp, _ => exact absurd hp.1 (by simp)
        | _ :: _ :: _, [_], hp, _ => exact absurd hp.1 (by simp)
        | u :: u' :: us, x :: x' :: xs, hp, hs =>
          have h1 : ¬ (u :: u' :: us).toArray.size = 1 := by simp
          rw [dif_neg h1]
          exact prep_same _ r hs ((PRep.tup hp.1 hp.2).mono (fun _ _ => rfl) hFL)
      cases e with
      | normal =>
        obtain ⟨xs, h1, h2⟩ := retsK_elim hq
        exact fin h1 h2
      | ret =>
        obtain ⟨xs, h1, h2⟩ := retsK_elim hq
        exact fin h1 h2
      | exit i => exact hq.elim
      | goto l => exact hq.elim
      | panic ch => exact hq.elim
      | outgrown => exact hq.elim
  · exact h.elim
end
end Abs
