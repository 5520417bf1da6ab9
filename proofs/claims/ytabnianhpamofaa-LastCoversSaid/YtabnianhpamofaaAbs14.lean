/- Single operations, ninth part: appends. -/
import Derived.Test.YtabnianhpamofaaAbs13
set_option linter.unusedSectionVars false
set_option linter.unusedSimpArgs false
set_option linter.unusedVariables false
namespace Abs
open Go Go.RowKit
variable [DMode]

section
variable {P : Program} {s : SS} {m : Bool} {d : Option Nat} {K : V → Option (Nat × Nat × Blk) → List Prop → Prop}

/-- The cells of 'm' elements. -/
structure News (w : World) (G : Nat → Prop) (sz m : Nat) (g : Nat → PV) (news : List Value) : Prop where
  len : news.length = m * sz
  cells : ∀ i, i < m → (g i).cells.length = sz
  one : ∀ i j, i < m → j < sz → (news.getD (i * sz + j) undef).oneCell' = true
  rep : ∀ i j, i < m → j < sz → PRep w G (news.getD (i * sz + j) undef) ((g i).cells.getD j .unit)
theorem News.ones {w : World} {G : Nat → Prop} {sz m : Nat} {g : Nat → PV} {news : List Value} (h : News w G sz m g news) (h0 : 0 < sz) : ∀ u ∈ news, u.oneCell' = true := by
  intro u hu
  obtain ⟨k, hk, rfl⟩ := List.getElem_of_mem hu
  have hl := h.len
  have h1 : k / sz < m := by rw [Nat.div_lt_iff_lt_mul h0]; omega
  have h2 := h.one (k / sz) (k % sz) h1 (Nat.mod_lt _ h0)
  rw [Nat.div_add_mod'] at h2
  simpa [List.getD_eq_getElem?_getD, hk] using h2
theorem flat_lt {i n j sz : Nat} (hi : i < n) (hj : j < sz) : i * sz + j < n * sz := by
  have : (i + 1) * sz ≤ n * sz := Nat.mul_le_mul_right _ hi
  rw [Nat.succ_mul] at this; omega
theorem flat_split {k n sz : Nat} (h0 : 0 < sz) (h : k < n * sz) : ∃ i j, i < n ∧ j < sz ∧ k = i * sz + j :=
  ⟨k / sz, k % sz, by rw [Nat.div_lt_iff_lt_mul h0]; exact h, Nat.mod_lt _ h0, (Nat.div_add_mod' _ _).symm⟩

theorem elemsK_elim {sz : Nat} {v : V} {acc : List Prop} {K : Nat → (Nat → PV) → List Prop → Prop} {A : Acc} (hA : Sub A s) (h0 : 0 < sz) (hh : elemsK A.hd sz v acc K) :
    ∃ m g ob, K m g ob ∧ (AllL ob → AllL acc ∧ ∀ {w0 F0 G ρ a w x}, RelX w0 F0 G ρ s a w → VRep w G ρ s.h v x → ∀ (P : Program) (tx e' : TypeId), P.underlying tx = some (.slice e') →
      ∃ news, Src P sz tx x m news w ∧ News w G sz m g news) := by
  unfold elemsK at hh
  split at hh
  · refine ⟨0, _, acc, hh, fun ha => ⟨ha, fun {w0 F0 G ρ a w x} R hx P tx e' hk => ?_⟩⟩
    simp only [VRep] at hx
    cases hx
    exact ⟨[], Src.ofNil w hk 0, by simp, fun i hi => by omega, fun i j hi => by omega, fun i j hi => by omega⟩
  · rename_i sz' n f
    simp only [cond_prop] at hh
    split at hh
    · rename_i hs
      have hs := Nat.eq_of_beq_eq_true hs
      subst hs
      refine ⟨n, f, acc, hh, fun ha => ⟨ha, fun {w0 F0 G ρ a w x} R hx P tx e' hk => ?_⟩⟩
      simp only [VRep] at hx
      cases hx with
      | empty b cap =>
        refine ⟨[], ?_, by simp, fun i hi => by omega, fun i j hi => by omega, fun i j hi => by omega⟩
        cases b with
        | none => exact Src.ofNil w hk cap
        | some b => exact Src.ofSlice w hk b 0 cap [] (by simp) (fun j u hu => by simp at hu) (fun u hu => by cases hu)
      | @slice b off _ cap _ _ gg hF hcap hnn hl hc h1c hhh =>
        have hN : News w G sz n f ((List.range (n * sz)).map fun k => gg (k / sz) (k % sz)) := by
          have gd : ∀ i j, i < n → j < sz → ((List.range (n * sz)).map fun k => gg (k / sz) (k % sz)).getD (i * sz + j) undef = gg i j := by
            intro i j hi hj
            have h1 : (i * sz + j) / sz = i := by rw [Nat.mul_comm, Nat.mul_add_div h0, Nat.div_eq_of_lt hj]; rfl
            have h2 : (i * sz + j) % sz = j := by rw [Nat.mul_comm, Nat.mul_add_mod]; exact Nat.mod_eq_of_lt hj
            simp [List.getD_eq_getElem?_getD, flat_lt hi hj, h1, h2]
          exact ⟨by simp, hl, fun i j hi hj => by rw [gd i j hi hj]; exact h1c i j hi hj, fun i j hi hj => by rw [gd i j hi hj]; exact hhh i j hi hj⟩
        refine ⟨_, Src.ofSlice w hk ⟨b, off, none⟩ n cap _ hN.len (fun k u hu => ?_) (hN.ones h0), hN⟩
        have hk : k < n * sz := by
          have := (List.getElem?_eq_some_iff.1 hu).1
          simpa using this
        obtain ⟨i, j, hi, hj, rfl⟩ := flat_split h0 hk
        have h1 : (i * sz + j) / sz = i := by rw [Nat.mul_comm, Nat.mul_add_div h0, Nat.div_eq_of_lt hj]; rfl
        have h2 : (i * sz + j) % sz = j := by rw [Nat.mul_comm, Nat.mul_add_mod]; exact Nat.mod_eq_of_lt hj
        simp [hk, h1, h2] at hu
        rw [add_at, ← Nat.add_assoc, hc i j hi hj, hu]
    · exact hh.elim
  · rename_i id ver sz' lo len
    replace hh := hA.hd _ _ hh
    simp only [SS.acc] at hh
    split at hh
    · rename_i sz'' n f hcs
      simp only [cond_prop] at hh
      split at hh
      · rename_i hs
        simp only [Bool.and_eq_true] at hs
        obtain ⟨hv, hs1, hs2⟩ := hs
        have hv := Nat.eq_of_beq_eq_true hv
        have hs1 := Nat.eq_of_beq_eq_true hs1
        have hs2 := Nat.eq_of_beq_eq_true hs2
        subst hs1; subst hs2
        refine ⟨len, _, _, hh, fun ha => ?_⟩
        obtain ⟨hln, ha⟩ := allL_cons ha
        refine ⟨ha, fun {w0 F0 G ρ a w x} R hx P tx e' hk => ?_⟩
        simp only [VRep] at hx
        rcases hx.2.2 hv with ⟨e0, aa, he⟩ | ⟨b, cap, c, e, hb, he, hcap, hc, hcsz⟩
        · subst e0; subst he
          refine ⟨[], ?_, by simp, fun i hi => by omega, fun i j hi => by omega, fun i j hi => by omega⟩
          cases aa with
          | none => exact Src.ofNil w hk 0
          | some b => exact Src.ofSlice w hk b 0 0 [] (by simp) (fun j u hu => by simp at hu) (fun u hu => by cases hu)
        · have hbl := R.blk id
          rw [hcs, hb] at hbl
          simp only [BRep] at hbl
          rcases hbl with ⟨e1, _⟩ | ⟨b', c', e2, e1, hc', hsz, hln2, h0', hcl, hone, hcells⟩
          · cases e1
          cases e1
          rw [hc] at hc'
          cases hc'
          have hfit : (lo + len) * sz ≤ c.size := Nat.le_trans (Nat.mul_le_mul_right _ hln) hsz
          rw [Nat.add_mul] at hfit
          have gd : ∀ k, k < len * sz → ((c.toList.drop (lo * sz)).take (len * sz)).getD k undef = c.getD (lo * sz + k) undef := by
            intro k hk
            rw [List.getD_eq_getElem?_getD, List.getElem?_take_of_lt hk, List.getElem?_drop, Array.getElem?_toList, Array.getD_eq_getD_getElem?]
          have pl : ∀ i j, lo * sz + (i * sz + j) = (lo + i) * sz + j := fun i j => by rw [Nat.add_mul]; omega
          have hN : News w G sz len (fun i => f (lo + i)) ((c.toList.drop (lo * sz)).take (len * sz)) :=
            ⟨by simp; omega, fun i hi => hcl _ (by omega),
              fun i j hi hj => by rw [gd _ (flat_lt hi hj), pl]; exact hone _ _ (by omega) hj,
              fun i j hi hj => by rw [gd _ (flat_lt hi hj), pl]; exact hcells _ _ (by omega) hj⟩
          rw [he]
          refine ⟨_, Src.ofSlice w hk ⟨b, lo * sz, none⟩ len cap _ hN.len (fun k u hu => ?_) (hN.ones h0), hN⟩
          have hkl : k < len * sz := by
            have := (List.getElem?_eq_some_iff.1 hu).1
            rw [hN.len] at this; exact this
          have h3 := gd k hkl
          rw [List.getD_eq_getElem?_getD, hu] at h3
          rw [add_at, cell_of hc (by omega), ← h3]; rfl
      · exact hh.elim
    · exact hh.elim
  · exact hh.elim

/-- The block after an append that grew. -/
theorem grown_rep {w w' : World} {G : Nat → Prop} {ρ : Nat → Option Nat} {h : Nat → Nat × Blk} {sz n m k : Nat} {f g : Nat → PV} {olds news : List Value} {zs : Array Value} {b : Nat} {e : TypeId}
    (h0 : 0 < sz) (ho : News w G sz n f olds) (hn : News w G sz m g news) (hw : ∀ b, G b → w'.heap[b]? = w.heap[b]?) (hz : zs.size = k)
    (hb : w'.heap[b]? = some (.cells ((olds ++ news).toArray ++ zs) e (0, 0))) (hle : n + m ≤ 140737488355328) :
    BRep w' G ρ h (some b) (.arr sz (n + m) fun i => if i < n then f i else g (i - n)) := by
  simp only [BRep]
  have hol := ho.len
  have hnl := hn.len
  have hsz : ((olds ++ news).toArray ++ zs).size = (n + m) * sz + k := by
    simp only [Array.size_append, List.size_toArray, List.length_append, hol, hnl, hz, Nat.add_mul]
  have gd : ∀ i j, i < n + m → j < sz → ((olds ++ news).toArray ++ zs).getD (i * sz + j) undef = if i < n then olds.getD (i * sz + j) undef else news.getD ((i - n) * sz + j) undef := by
    intro i j hi hj
    have hlt := flat_lt hi hj
    have h1 : i * sz + j < (olds ++ news).length := by rw [List.length_append, hol, hnl, ← Nat.add_mul]; exact hlt
    have h2 : ((olds ++ news).toArray ++ zs)[i * sz + j]? = (olds ++ news)[i * sz + j]? := by
      rw [Array.getElem?_append_left (by simpa using h1)]; simp
    rw [Array.getD_eq_getD_getElem?, h2]
    split
    · rename_i hin
      have := flat_lt hin hj
      rw [List.getElem?_append_left (by omega), List.getD_eq_getElem?_getD]
    · rename_i hin
      have h3 : n * sz ≤ i * sz := Nat.mul_le_mul_right _ (by omega)
      rw [List.getElem?_append_right (by omega), List.getD_eq_getElem?_getD, hol, Nat.sub_mul]
      congr 2; omega
  refine .inr ⟨b, _, e, rfl, hb, by omega, hle, h0, fun i hi => ?_, fun i j hi hj => ?_, fun i j hi hj => ?_⟩
  · split
    · exact ho.cells i (by omega)
    · exact hn.cells _ (by omega)
  · rw [gd i j hi hj]
    split
    · exact ho.one i j (by omega) hj
    · exact hn.one _ j (by omega) hj
  · rw [gd i j hi hj]
    split
    · exact (ho.rep i j (by omega) hj).mono hw (fun _ h => h)
    · exact (hn.rep _ j (by omega) hj).mono hw (fun _ h => h)

/-- A block whose place in memory may be a new one. -/
theorem RelX.anew {w0 : World} {F0 : Env} {G : Nat → Prop} {ρ : Nat → Option Nat} {s : SS} {a : Act} {w : World} (R : RelX w0 F0 G ρ s a w) (id : Nat) (o : Obj) (blk : Blk)
    (hblk : BRep (w.drew.alloc o) G (updR ρ id (some w.heap.size)) (updF s.h id ((s.h id).1 + 1) blk) (some w.heap.size) blk) :
    RelX w0 F0 G (updR ρ id (some w.heap.size)) ⟨s.n, s.t, updF s.h id ((s.h id).1 + 1) blk⟩ a (w.drew.alloc o) := by
  refine R.change (ob := some w.heap.size) (((Bel.refl _ _).drew).alloc R.below.size o) (by omega) (fun b hb _ => Below.heap_alloc w.drew _ _ hb) ?_ (fun e => by omega) hblk
  intro b hb
  cases hb
  exact ⟨R.below.size, by simp, .inr (Nat.le_refl _)⟩

theorem exec_append {args : Array Operand} {ats : Array TypeId} {x y : Operand} {t u : TypeId} {a : Act} {w w' : World} {dst ty pos af g} (h1 : args.toList = [x, y]) (h2 : ats.toList = [t, u]) (v : Value)
    (hv : (Builtin.append_ #[t, u] ty #[a.eval x, a.eval y]).run P w = .ok v w') : (execOp a.eval ⟨dst, .call { callee := .builtin .append, args, argTypes := ats }, ty, pos, af, g⟩).run P w = .ok (.value v) w' := by
  have e1 : args = #[x, y] := by apply Array.ext'; simpa using h1
  have e2 : ats = #[t, u] := by apply Array.ext'; simpa using h2
  subst e1; subst e2
  have e4 : (#[x, y] : Array Operand).map a.eval = #[a.eval x, a.eval y] := by simp
  simp only [execOp, resolve, pure_bind, invoke, builtin, e4, Sem.run_bind, hv, Result.andThen_ok, Sem.run_pure]

theorem el_append {args : Array Operand} {ats : Array TypeId} {A : Acc} (hA : Sub A s) (h : opK P m A d (.call { callee := .builtin .append, args, argTypes := ats }) K) : Elim P s (.call { callee := .builtin .append, args, argTypes := ats }) K := by
  simp only [opK] at h
  split at h
  · rename_i d x y t u hargs hats
    split at h
    · rename_i e e' hut huu
      split at h
      · rename_i sz ti zs hsz hti hz
        simp only [cond_prop] at h
        split at h
        · rename_i hc
          simp only [Bool.and_eq_true] at hc
          have h0 : 0 < sz := by simpa using hc.1
          have hzl := Nat.eq_of_beq_eq_true hc.2
          obtain ⟨vs, ob1, h1, hs1, hr1⟩ := rduK_elim hA h
          obtain ⟨vx, ob2, h2, hs2, hr2⟩ := rduK_elim hA h1
          clear h h1
          obtain ⟨i, z, z1, z2, z3, z4⟩ := zeroCs_info hz
          have hi : i = ti := by have := tyi_eq hti; rw [z1] at this; simpa using this
          subst hi
          have hsi : i.size = sz := by obtain ⟨i', q1, q2⟩ := szOf_eq hsz; rw [z1] at q1; cases q1; exact q2
          have hzsz : z.cells.size = sz := by
            have := (z4 default (fun _ => False) (fun _ => none) (fun _ => (0, .gone))).1
            rw [Array.length_toList] at this
            rw [this]; simpa using hzl
          have hzn : ∀ n, (Builtin.zeroCells z.cells n).size = n * sz := fun n => by simp [Builtin.zeroCells, hzsz]
          have hut' := und_eq hut
          have huu' := und_eq huu
          obtain ⟨m, g, ob3, h3, h4⟩ := elemsK_elim hA h0 h2
          clear h2
          -- the growing way, in common
          have grow : ∀ {w0 F0 G ρ a w ty dst pos af gg} (R : RelX w0 F0 G ρ s a w) (id n cap : Nat) (base : Option Addr) (f : Nat → PV) (olds news : List Value), a.eval x = .slice base n cap → cap < n + m → bounded (n + m) (Nat.max i.bytes sz) →
              (Builtin.firstCells sz n (.slice base n cap)).run P w.drew = .ok olds.toArray w.drew → News w G sz n f olds → Src P sz u (a.eval y) m news w → News w G sz m g news →
              ∃ v w' ρ', Runs P ⟨dst, .call { callee := .builtin .append, args, argTypes := ats }, ty, pos, af, gg⟩ a w v w' ∧
                RelX w0 F0 G ρ' ⟨s.n, s.t, updF s.h id ((s.h id).1 + 1) (.arr sz (n + m) fun i => if i < n then f i else g (i - n))⟩ a w' ∧
                VRep w' G ρ' (updF s.h id ((s.h id).1 + 1) (.arr sz (n + m) fun i => if i < n then f i else g (i - n))) (.sl id ((s.h id).1 + 1) sz 0 (n + m)) v := by
            intro w0 F0 G ρ a w ty dst pos af gg R id n cap base f olds news he hcap hbd hold hO hS hN
            have hB : sz ≤ Nat.max i.bytes sz := Nat.le_max_right _ _
            have hle := bounded_le hbd (by omega)
            have hby : (n + m) * i.bytes ≤ 140737488355328 := by
              have h3 : (n + m) * i.bytes ≤ (n + m) * Nat.max i.bytes sz := Nat.mul_le_mul_left _ (Nat.le_max_left _ _)
              unfold bounded most at hbd
              omega
            have hrun := run_append_grow_src (P := P) w t u ty e i z hut' z1 z2 base n cap olds (by rw [hsi]; exact hold) (a.eval y) m news (by rw [hsi]; exact hS) hcap (by omega) (growslice_fits hcap hby)
            rw [← he] at hrun
            have hge := grownCap_ge w (n + m) cap e
            refine ⟨_, _, _, .inl (exec_append hargs hats _ hrun), R.anew id _ _ ?_, sl_new (alloc_heap w.drew _) hge ?_⟩
            · exact grown_rep h0 hO hN (fun b hb => Below.heap_alloc w.drew _ _ (R.foot b hb).1) rfl (alloc_heap w.drew _) (by omega)
            · simp only [Array.size_append, List.size_toArray, List.length_append, hzn, hO.len, hN.len, ← Nat.add_mul]
              congr 1; omega
          split at h3
          · replace h3 := hA.hd _ _ h3
            simp only [SS.acc] at h3
            refine ⟨_, _, _, h3, fun ha dst ty pos af gg => fun w0 F0 G ρ a w R => ?_⟩
            obtain ⟨hbd, ha⟩ := allL_cons ha
            obtain ⟨ha, h5⟩ := h4 ha
            have hx := hr1 (hs2 ha) w0 F0 G ρ a w R
            simp only [VRep] at hx
            have he : a.eval x = .slice none 0 0 := by generalize a.eval x = xv at hx; cases hx; rfl
            obtain ⟨news, hS, hN⟩ := h5 R (hr2 ha w0 F0 G ρ a w R) P u e' huu'
            by_cases hm : m = 0
            · subst hm
              have hrun := run_append_nothing (P := P) w t u ty e i hut' z1 none 0 0 (Nat.le_refl _) (a.eval y) (by rw [hsi]; have := hN.len; rw [Nat.zero_mul] at this; rw [← List.length_eq_zero_iff.1 this]; exact hS)
              rw [← he] at hrun
              refine ⟨_, w, G, updR ρ d none, .inl (exec_append hargs hats _ hrun), R.change (Bel.refl _ _) (by omega) (fun _ _ _ => rfl) (fun b e => by cases e) (fun e => by omega) ?_, ?_⟩
              · simp only [BRep]; exact .inl (by simp)
              · rw [he]
                simp only [VRep, SS.upd, updF_same]
                exact ⟨rfl, Nat.le_refl _, fun _ => .inl ⟨by trivial, _, rfl⟩⟩
            · obtain ⟨v, w', ρ', r1, r2, r3⟩ := grow (ty := ty) (dst := dst) (pos := pos) (af := af) (gg := gg) R d 0 0 none (fun _ => .unit) [] news he (by omega) (by rw [Nat.zero_add]; exact hbd) (run_firstCells_none w.drew sz 0 0 0) ⟨by simp, fun i hi => by omega, fun i j hi => by omega, fun i j hi => by omega⟩ hS hN
              have hf : (Blk.arr sz (0 + m) fun i => if i < 0 then (PV.unit) else g (i - 0)) = .arr sz m g := by simp
              rw [hf] at r2 r3
              rw [Nat.zero_add] at r3
              exact ⟨v, w', G, ρ', r1, r2, r3⟩
          · rename_i id ver sz' lo len
            replace h3 := hA.hd _ _ h3
            simp only [SS.acc] at h3
            split at h3
            · rename_i sz'' n f hcs
              simp only [cond_prop] at h3
              split at h3
              · rename_i hs
                simp only [Bool.and_eq_true] at hs
                obtain ⟨hv, hq1, hq2⟩ := hs
                have hv := Nat.eq_of_beq_eq_true hv
                have hq1 := Nat.eq_of_beq_eq_true hq1
                have hq2 := Nat.eq_of_beq_eq_true hq2
                subst hq1; subst hq2
                refine ⟨_, _, _, h3, fun ha dst ty pos af gg => fun w0 F0 G ρ a w R => ?_⟩
                obtain ⟨hlo, ha1⟩ := allL_cons ha
                obtain ⟨hlen, ha2⟩ := allL_cons ha1
                obtain ⟨hbd, ha3⟩ := allL_cons ha2
                obtain ⟨ha4, h5⟩ := h4 ha3
                have hx := hr1 (hs2 ha4) w0 F0 G ρ a w R
                simp only [VRep] at hx
                obtain ⟨news, hS, hN⟩ := h5 R (hr2 ha4 w0 F0 G ρ a w R) P u e' huu'
                subst hlo; subst hlen
                have hbl := R.blk id
                rw [hcs] at hbl
                have hle := bounded_le hbd (Nat.lt_of_lt_of_le h0 (Nat.le_max_right _ _))
                rcases hx.2.2 hv with ⟨e0, aa, he⟩ | ⟨b, cap, c, ee, hb, he, hcap, hc, hcsz⟩
                · subst e0
                  by_cases hm : m = 0
                  · subst hm
                    have hrun := run_append_nothing (P := P) w t u ty e i hut' z1 aa 0 0 (Nat.le_refl _) (a.eval y) (by rw [hsi]; have := hN.len; rw [Nat.zero_mul] at this; rw [← List.length_eq_zero_iff.1 this]; exact hS)
                    rw [← he] at hrun
                    refine ⟨_, w, G, updR ρ id none, .inl (exec_append hargs hats _ hrun), R.change (Bel.refl _ _) (by omega) (fun _ _ _ => rfl) (fun b e => by cases e) (fun e => by omega) ?_, ?_⟩
                    · simp only [BRep]; exact .inl (by simp)
                    · rw [he]
                      simp only [VRep, SS.upd, updF_same]
                      exact ⟨rfl, Nat.le_refl _, fun _ => .inl ⟨by trivial, _, rfl⟩⟩
                  · have hfc : (Builtin.firstCells sz 0 (.slice aa 0 0)).run P w.drew = .ok #[] w.drew := by
                      cases aa with
                      | none => exact run_firstCells_none w.drew sz 0 0 0
                      | some b => exact run_firstCells_some w.drew sz 0 b 0 0 [] (by simp) (fun j u hu => by simp at hu)
                    obtain ⟨v, w', ρ', r1, r2, r3⟩ := grow (ty := ty) (dst := dst) (pos := pos) (af := af) (gg := gg) R id 0 0 aa f [] news he (by omega) hbd hfc ⟨by simp, fun i hi => by omega, fun i j hi => by omega, fun i j hi => by omega⟩ hS hN
                    exact ⟨v, w', G, ρ', r1, r2, r3⟩
                · rw [hb] at hbl
                  simp only [BRep] at hbl
                  rcases hbl with ⟨e1, _⟩ | ⟨b', c', e2, e1, hc', hszc, hln2, h0', hcl, hone, hcells⟩
                  · cases e1
                  cases e1
                  rw [hc] at hc'
                  cases hc'
                  rw [Nat.zero_mul] at he
                  have gd : ∀ k, k < len * sz → (c.toList.take (len * sz)).getD k undef = c.getD k undef := by
                    intro k hk
                    rw [List.getD_eq_getElem?_getD, List.getElem?_take_of_lt hk, Array.getElem?_toList, Array.getD_eq_getD_getElem?]
                  have hO : News w G sz len f (c.toList.take (len * sz)) :=
                    ⟨by simp; omega, hcl, fun i j hi hj => by rw [gd _ (flat_lt hi hj)]; exact hone _ _ hi hj, fun i j hi hj => by rw [gd _ (flat_lt hi hj)]; exact hcells _ _ hi hj⟩
                  by_cases hroom : len + m ≤ cap
                  · -- there is room
                    have hnl := hN.len
                    have hfit : len * sz + m * sz ≤ c.size := by
                      have : (len + m) * sz ≤ cap * sz := Nat.mul_le_mul_right _ hroom
                      rw [Nat.add_mul] at this
                      rw [Nat.zero_add] at hcsz; omega
                    have hst := run_storeCells_at P b (len * sz) ee news 0 c w hc (by omega) (hN.ones h0)
                    rw [Nat.add_zero] at hst
                    have hst' : (storeCells ⟨b, len * sz, none⟩ news).run P w = .ok () (w.setRow b (lay c.toList (len * sz) news).toArray) := by
                      simpa [lay] using hst
                    have hrun : (Builtin.append_ #[t, u] ty #[a.eval x, a.eval y]).run P w = .ok (.slice (some ⟨b, 0, none⟩) (len + m) cap) (w.setRow b (lay c.toList (len * sz) news).toArray) := by
                      rw [he]
                      simp [Builtin.append_, run_underlying hut', run_underlying huu', Go.sizeOf, typeInfo, z1, hsi, hS.len, hroom, hS.cells, add_at, hst']
                    have e5 : c.toList.length = c.size := Array.length_toList
                    have e4 : len * sz + news.length ≤ c.toList.length := by omega
                    have hlay : (lay c.toList (len * sz) news).length = c.size := by rw [lay_length _ _ _ e4, e5]
                    have hown := R.own id b hb
                    have hold : ∀ k, k < w.heap.size → ρ id ≠ some k → (w.setRow b (lay c.toList (len * sz) news).toArray).heap[k]? = w.heap[k]? := fun k _ hk => heap_setRow_ne _ _ _ (fun e => hk (by rw [hb, e]))
                    have hset := setRow_heap w b c (lay c.toList (len * sz) news).toArray ee (0, 0) hc
                    refine ⟨_, _, G, updR ρ id (some b), .inl (exec_append hargs hats _ hrun), R.change (below_setRow w b _ hown.1) (by omega) hold ?_ (fun e => by omega) ?_, ?_⟩
                    · intro k hk
                      cases hk
                      exact ⟨hown.1, by rw [size_setRow]; exact hown.2.1, .inl hb⟩
                    · have hshape : (lay c.toList (len * sz) news).toArray = (c.toList.take (len * sz) ++ news).toArray ++ (c.toList.drop (len * sz + news.length)).toArray := by
                        apply Array.ext'; simp [lay]
                      rw [hshape] at hset ⊢
                      exact grown_rep h0 hO hN (fun k hk => by rw [← hshape]; exact hold k (R.foot k hk).1 (fun e => (R.own id k e).2.2 hk)) rfl hset (by omega)
                    · refine sl_new hset hroom ?_
                      show cap * sz = (lay c.toList (len * sz) news).length
                      rw [hlay, ← hcsz, Nat.zero_add]
                  · have hfc : (Builtin.firstCells sz len (.slice (some ⟨b, 0, none⟩) len cap)).run P w.drew = .ok (c.toList.take (len * sz)).toArray w.drew :=
                      run_firstCells_some w.drew sz len ⟨b, 0, none⟩ len cap _ hO.len (fun j u hu => by
                        have hj : j < len * sz := by have := (List.getElem?_eq_some_iff.1 hu).1; rw [hO.len] at this; exact this
                        rw [add_at, Nat.zero_add]
                        have h6 : w.drew.cell? ⟨b, j, none⟩ = w.cell? ⟨b, j, none⟩ := rfl
                        rw [h6, cell_of hc (by omega), ← gd j hj, List.getD_eq_getElem?_getD, hu]; rfl)
                    obtain ⟨v, w', ρ', r1, r2, r3⟩ := grow (ty := ty) (dst := dst) (pos := pos) (af := af) (gg := gg) R id len cap _ f _ news he (by omega) hbd hfc hO hS hN
                    exact ⟨v, w', G, ρ', r1, r2, r3⟩
              · exact h3.elim
            · exact h3.elim
          · exact h3.elim
        · exact h.elim
      · exact h.elim
    · exact h.elim
  · exact h.elim
end
end Abs
