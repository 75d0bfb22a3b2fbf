/- Each operation of the machine is one of the program's: the rest, and all together. -/
import Derived.Test.YtbehhhlidaiblaaAi4
namespace Go.Proofs.Ytbehhhlidaiblaa.Ai
open Go Go.RowKit
section ops
variable {E : Env} {c : Cx} {w : World} {S : List Ob}

theorem len_ok (hE : EnvOk E) (hI : Inv c w S) {t : Nat} {x r : T} {v : Value} (hx : VR c x v) (h : lenA E S t x = some r) (ty : Nat) :
    ∃ n, (Builtin.len_ #[t] ty #[v]).run E.P w = .ok n w ∧ VR c r n := by
  unfold lenA at h
  split at h
  · rw [Option.bind_eq_some_iff] at h
    obtain ⟨ti, hti, h⟩ := h
    split at h
    · rename_i hs
      obtain ⟨e, he⟩ := Option.isSome_iff_exists.1 hs
      have ht := ti_slice (hE.tt _ _ hti) he
      injection h with h; subst h
      cases hx with | im hx => cases hx with | nil => exact ⟨_, by simp [Builtin.len_, run_underlying ht, goInt], .im (.val rfl)⟩
    · cases h
  · rw [Option.bind_eq_some_iff] at h
    obtain ⟨ti, hti, h⟩ := h
    split at h
    · rename_i hs
      obtain ⟨e, he⟩ := Option.isSome_iff_exists.1 hs
      have ht := ti_slice (hE.tt _ _ hti) he
      injection h with h; subst h
      cases hx with | im hx => cases hx with | sl esz ad u hn => subst hn; exact ⟨_, by simp [Builtin.len_, run_underlying ht, goInt], .im (.val rfl)⟩
    · cases h
  · rename_i i k
    simp only [Option.bind_eq_some_iff] at h
    obtain ⟨O, hal, ti, hti, h⟩ := h
    split at h
    · rename_i hs
      obtain ⟨e, he⟩ := Option.isSome_iff_exists.1 hs
      have ht := ti_slice (hE.tt _ _ hti) he
      injection h with h; subst h
      obtain ⟨_, _, cap, rfl, _⟩ := vr_os hI hx hal
      exact ⟨_, by simp [Builtin.len_, run_underlying ht, goInt], .im (.val rfl)⟩
    · cases h
  · rw [Option.bind_eq_some_iff] at h
    obtain ⟨ti, hti, h⟩ := h
    split at h
    · rename_i hs
      have ht := ti_str (hE.tt _ _ hti) hs
      injection h with h; subst h
      obtain ⟨rfl, _⟩ := vr_val hx
      exact ⟨_, by simp [Builtin.len_, run_underlying ht, goInt], .im (.val rfl)⟩
    · cases h
  · cases h

theorem index_ok (hE : EnvOk E) (hI : Inv c w S) {t : Nat} {x ix r : T} {v vi : Value} (hx : VR c x v) (hi : VR c ix vi) (h : indexAddrA E S t x ix = some r) :
    ∃ p, (Instr.indexAt t v vi).run E.P w = .ok p w ∧ VR c r p := by
  unfold indexAddrA at h
  split at h
  · rename_i k i
    obtain ⟨rfl, _⟩ := vr_val hi
    rw [Option.bind_eq_some_iff] at h
    obtain ⟨ti, hti, h⟩ := h
    split at h
    · rename_i e he
      rw [Option.bind_eq_some_iff] at h
      obtain ⟨ei, hei, h⟩ := h
      have ht := ti_slice (hE.tt _ _ hti) he
      split at h
      · rename_i h0
        split at h
        · rename_i rows
          rw [Option.bind_eq_some_iff] at h
          obtain ⟨r', hr', h⟩ := h
          split at h
          · rename_i hlen
            injection h with h; subst h
            cases hx with
            | im hx =>
            cases hx with
            | @sl _ A n cap esz ad u hn hc hm hr hA hs hi' h1 hv =>
            subst hn
            have hlt : i.toNat < rows.length := (List.getElem?_eq_some_iff.1 hr').1
            have hA' := hA (by omega)
            subst hA'
            have he : esz = ei.size := by rw [← hr r' (List.mem_of_getElem? hr'), hlen]
            subst he
            refine ⟨.pointer (some (ad.add (i.toNat * ei.size))), ?_, .im (.ip (fun j => u (i.toNat * ei.size + j)) (add_spot hs _) (fun j t hj => ?_) (fun j t hj => h1 _ _ _ _ hr' hj) fun j t hj => hv _ _ _ _ hr' hj)⟩
            · simp only [Instr.indexAt, Sem.run_bind, asIntOf, Sem.run_pure, Result.andThen_ok, run_underlying ht]
              rw [if_pos ⟨h0, by omega⟩]
              simp [run_size (hE.tt _ _ hei)]
            · rw [add_eq hs]
              simp only [Nat.add_assoc]
              exact hi' _ _ _ _ hr' hj
          · cases h
        · rename_i j k
          rw [Option.bind_eq_some_iff] at h
          obtain ⟨O, hal, h⟩ := h
          split at h
          · rename_i hc
            injection h with h; subst h
            obtain ⟨hn, k1, cap, rfl, hkc, hcm, hcb⟩ := vr_os hI hx hal
            obtain ⟨hO, hk⟩ := alive_ok hal
            refine ⟨.pointer (some ((⟨c.bk j, 0, none⟩ : Addr).add (i.toNat * ei.size))), ?_, ?_⟩
            · simp only [Instr.indexAt, Sem.run_bind, asIntOf, Sem.run_pure, Result.andThen_ok, run_underlying ht]
              rw [if_pos ⟨h0, hc.1⟩]
              simp [run_size (hE.tt _ _ hei)]
            · rw [add_eq rfl]
              have := VR.ref (c := c) (i := j) (k := k) (row := i.toNat) (off := 0) hn (by rw [k1.len, hk])
              rw [k1.sz, hc.2] at this
              simpa using this
          · cases h
        · cases h
      · cases h
    · rename_i n e _ he
      rw [Option.bind_eq_some_iff] at h
      obtain ⟨ei, hei, h⟩ := h
      have ht := ti_arr (hE.tt _ _ hti) he
      split at h
      · rename_i hb
        split at h
        · rename_i cs
          injection h with h; subst h
          cases hx with
          | im hx =>
          cases hx with
          | @ip _ ad u hs hi' h1 hv =>
          refine ⟨.pointer (some (ad.add (i.toNat * ei.size))), ?_, .im (.ip (fun j => u (i.toNat * ei.size + j)) (add_spot hs _) (fun j t hj => ?_) (fun j t hj => ?_) fun j t hj => ?_)⟩
          · simp only [Instr.indexAt, Sem.run_bind, asIntOf, Sem.run_pure, Result.andThen_ok, run_underlying ht, Instr.sureAddr]
            rw [if_pos hb]
            simp [run_size (hE.tt _ _ hei)]
          · rw [List.getElem?_drop] at hj
            rw [add_eq hs]
            simp only [Nat.add_assoc]
            exact hi' _ _ hj
          · rw [List.getElem?_drop] at hj
            exact h1 _ _ hj
          · rw [List.getElem?_drop] at hj
            exact hv _ _ hj
        · rename_i j k row off
          rw [Option.bind_eq_some_iff] at h
          obtain ⟨O, hal, h⟩ := h
          injection h with h; subst h
          obtain ⟨hn, k1, rfl⟩ := vr_ref hI hx hal
          obtain ⟨hO, hk⟩ := alive_ok hal
          refine ⟨.pointer (some ((⟨c.bk j, row * O.sz + off, none⟩ : Addr).add (i.toNat * ei.size))), ?_, ?_⟩
          · simp only [Instr.indexAt, Sem.run_bind, asIntOf, Sem.run_pure, Result.andThen_ok, run_underlying ht, Instr.sureAddr]
            rw [if_pos hb]
            simp [run_size (hE.tt _ _ hei)]
          · rw [add_eq rfl]
            have := VR.ref (c := c) (i := j) (k := k) (row := row) (off := off + i.toNat * ei.size) hn (by rw [k1.len, hk])
            rw [k1.sz] at this
            simpa [Nat.add_assoc] using this
        · cases h
      · cases h
    · cases h
  · cases h

theorem bound_ok {y d : Nat} {o : Option T} {n : Nat} (h : boundA y d o = some n) {F : Operand → T} {ρ : Operand → Value} {x : Option Operand} (ho : o = x.map F) (hv : ∀ x, VR c (F x) (ρ x)) :
    (x = none ∧ n = d) ∨ ∃ a k i, x = some a ∧ ρ a = .int k i ∧ 0 ≤ i ∧ i ≤ y ∧ n = i.toNat := by
  unfold boundA at h
  cases x with
  | none =>
    simp only [Option.map_none] at ho
    subst ho
    injection h with h
    exact .inl ⟨rfl, h.symm⟩
  | some a =>
    simp only [Option.map_some] at ho
    subst ho
    split at h
    · rename_i he; cases he
    · rename_i k i he
      injection he with he
      have hva := hv a
      rw [he] at hva
      obtain ⟨hva, _⟩ := vr_val hva
      split at h
      · rename_i hc
        injection h with h
        exact .inr ⟨a, k, i, rfl, hva, hc.1, hc.2, h.symm⟩
      · cases h
    · cases h
theorem bound_le {y d : Nat} {o : Option T} {n : Nat} (h : boundA y d o = some n) (hd : d ≤ y) : n ≤ y := by
  unfold boundA at h
  split at h
  · injection h with h; omega
  · split at h
    · injection h with h; omega
    · cases h
  · cases h
theorem slice_ok (hE : EnvOk E) {t : Nat} {x r : T} {F : Operand → T} {ρ : Operand → Value} (hv : ∀ x, VR c (F x) (ρ x)) {v : Value} (hx : VR c x v) {lo hi : Option Operand}
    (h : sliceA E t x (lo.map F) (hi.map F) = some r) : ∃ v', (Instr.sliceAt t v (lo.map ρ) (hi.map ρ) none).run E.P w = .ok v' w ∧ VR c r v' := by
  unfold sliceA at h
  rw [Option.bind_eq_some_iff] at h
  obtain ⟨ti, hti, h⟩ := h
  split at h
  · rename_i rows
    simp only [Option.bind_eq_some_iff] at h
    obtain ⟨e, he, ei, hei, h⟩ := h
    have ht := ti_slice (hE.tt _ _ hti) he
    split at h
    · rename_i hro
      simp only [Option.bind_eq_some_iff, Option.map_eq_some_iff] at h
      obtain ⟨hh, h1, l, h2, rfl⟩ := h
      have hrl := rowsOk_iff hro
      cases hx with
      | im hx =>
      cases hx with
      | @sl _ A n cap esz ad u hn hc hm hr hA hs hi' g1 hv' =>
      subst hn
      have hhle := bound_le h1 (Nat.le_refl _)
      have hlle := bound_le h2 (Nat.zero_le _)
      have hrun : (Instr.sliceAt t (.slice A rows.length cap) (lo.map ρ) (hi.map ρ) none).run E.P w = .ok (.slice (if cap = l then A else A.map (·.add (l * ei.size))) (hh - l) (cap - l)) w := by
        have hs2 := run_size (hE.tt _ _ hei) w
        rcases bound_ok h1 rfl hv with ⟨rfl, rfl⟩ | ⟨a, k, i, rfl, ha, ha0, ha1, rfl⟩ <;> rcases bound_ok h2 rfl hv with ⟨rfl, rfl⟩ | ⟨b, k', j, rfl, hb, hb0, hb1, rfl⟩
        · simp [Instr.sliceAt, Instr.slice, run_underlying ht, Instr.sliceBounds, hs2]
        · have : (0 : Int) ≤ j ∧ j ≤ (rows.length : Int) := ⟨hb0, hb1⟩
          simp [Instr.sliceAt, Instr.slice, run_underlying ht, Instr.sliceBounds, Instr.sliceBound, asIntOf, hs2, hb, this]
        · have : (0 : Int) ≤ i ∧ i ≤ (cap : Int) := ⟨ha0, by omega⟩
          simp [Instr.sliceAt, Instr.slice, run_underlying ht, Instr.sliceBounds, Instr.sliceBound, asIntOf, hs2, ha, this]
        · have h3 : (0 : Int) ≤ i ∧ i ≤ (cap : Int) := ⟨ha0, by omega⟩
          have h4 : (0 : Int) ≤ j ∧ j ≤ max i 0 := ⟨hb0, by omega⟩
          simp [Instr.sliceAt, Instr.slice, run_underlying ht, Instr.sliceBounds, Instr.sliceBound, asIntOf, hs2, ha, hb, h3, h4]
      refine ⟨_, hrun, .im ?_⟩
      have hlen : ((rows.take hh).drop l).length = hh - l := by simp; omega
      rcases Nat.eq_zero_or_pos (hh - l) with h0 | h0
      · have hnil : (rows.take hh).drop l = [] := List.eq_nil_of_length_eq_zero (by omega)
        rw [hnil, h0]
        exact .sl 0 ⟨0, 0, none⟩ (fun _ => undef) rfl (Nat.zero_le _) (by omega) (fun r hr => by simp at hr) (fun h => by omega) rfl (fun i r j t a => by simp at a) (fun i r j t a => by simp at a) (fun i r j t a => by simp at a)
      · have hA' := hA (by omega)
        subst hA'
        rw [if_neg (by omega)]
        have he2 : esz = ei.size := by
          have hp : 0 < rows.length := by omega
          rw [← hr rows[0] (List.getElem_mem hp), hrl rows[0] (List.getElem_mem hp)]
        subst he2
        refine .sl ei.size (ad.add (l * ei.size)) (fun p => u (l * ei.size + p)) hlen (by omega) (by omega) (fun r hr' => hrl r (List.mem_of_mem_take (List.mem_of_mem_drop hr'))) (fun _ => rfl) (add_spot hs _) (fun i r j t a b => ?_) (fun i r j t a b => ?_) (fun i r j t a b => ?_)
        all_goals
          rw [List.getElem?_drop, List.getElem?_take] at a
          split at a
          · have e1 : (l + i) * ei.size + j = l * ei.size + (i * ei.size + j) := by rw [Nat.add_mul]; omega
            first
              | (rw [add_eq hs]; simp only [Nat.add_assoc]; have := hi' _ _ _ _ a b; rw [e1] at this; simpa [Nat.add_assoc] using this)
              | (have := g1 _ _ _ _ a b; rw [e1] at this; exact this)
              | (have := hv' _ _ _ _ a b; rw [e1] at this; exact this)
          · cases a
    · cases h
  · rename_i s
    split at h
    · rename_i hst
      have ht := ti_str (hE.tt _ _ hti) hst
      obtain ⟨rfl, _⟩ := vr_val hx
      simp only [Option.bind_eq_some_iff, Option.map_eq_some_iff] at h
      obtain ⟨hh, h1, l, h2, rfl⟩ := h
      have hhle := bound_le h1 (Nat.le_refl _)
      refine ⟨.string (s.extract l hh), ?_, .im (.val rfl)⟩
      rcases bound_ok h1 rfl hv with ⟨rfl, rfl⟩ | ⟨a, k, i, rfl, ha, ha0, ha1, rfl⟩ <;> rcases bound_ok h2 rfl hv with ⟨rfl, rfl⟩ | ⟨b, k', j, rfl, hb, hb0, hb1, rfl⟩
      · simp [Instr.sliceAt, Instr.slice, run_underlying ht, Instr.sliceBounds]
      · have : (0 : Int) ≤ j ∧ j ≤ (s.size : Int) := ⟨hb0, hb1⟩
        simp [Instr.sliceAt, Instr.slice, run_underlying ht, Instr.sliceBounds, Instr.sliceBound, asIntOf, hb, this]
      · have : (0 : Int) ≤ i ∧ i ≤ (s.size : Int) := ⟨ha0, by omega⟩
        simp [Instr.sliceAt, Instr.slice, run_underlying ht, Instr.sliceBounds, Instr.sliceBound, asIntOf, ha, this]
      · have h3 : (0 : Int) ≤ i ∧ i ≤ (s.size : Int) := ⟨ha0, by omega⟩
        have h4 : (0 : Int) ≤ j ∧ j ≤ max i 0 := ⟨hb0, by omega⟩
        simp [Instr.sliceAt, Instr.slice, run_underlying ht, Instr.sliceBounds, Instr.sliceBound, asIntOf, ha, hb, h3, h4]
    · cases h
  · cases h

/-! #### values that are built -/
theorem put_cells (vs : Array Value) (off : Nat) : ∀ (l : List Value) (k : Nat) (cells : Array Value), off + (k + l.length) ≤ cells.size →
    ((l.zipIdx k).foldl (fun cs (p : Value × Nat) => cs.setIfInBounds (off + p.2) p.1) cells).size = cells.size ∧
    ∀ m, ((l.zipIdx k).foldl (fun cs (p : Value × Nat) => cs.setIfInBounds (off + p.2) p.1) cells)[m]? = if off + k ≤ m ∧ m < off + k + l.length then l[m - (off + k)]? else cells[m]?
  | [], k, cells, h => by
    refine ⟨rfl, fun m => ?_⟩
    rw [if_neg (by simp only [List.length_nil]; omega)]
    rfl
  | v :: l, k, cells, h => by
    simp only [List.length_cons] at h
    obtain ⟨h1, h2⟩ := put_cells vs off l (k + 1) (cells.setIfInBounds (off + k) v) (by simp; omega)
    simp only [List.zipIdx_cons, List.foldl_cons]
    refine ⟨by rw [h1]; simp, fun m => ?_⟩
    rw [h2]
    by_cases e : m = off + k
    · subst e
      rw [if_neg (by omega), if_pos (by simp)]
      rw [Array.getElem?_setIfInBounds_self_of_lt (by omega)]
      simp
    · by_cases hm : off + (k + 1) ≤ m ∧ m < off + (k + 1) + l.length
      · rw [if_pos hm, if_pos (by simp only [List.length_cons]; omega)]
        rw [show m - (off + k) = (m - (off + (k + 1))) + 1 by omega]
        simp
      · rw [if_neg hm, if_neg (by simp only [List.length_cons]; omega), Array.getElem?_setIfInBounds_ne (by omega)]
theorem fill_ok {F : Fr} {a : Act} (hF : FR c F a) (pl : Nat → Option (Nat × Nat)) : ∀ (parts : List (Nat × Operand)) (cs cs' : List T) (cells : Array Value), cs.length = cells.size →
    (∀ j t, cs[j]? = some t → VR c t (cells.getD j undef)) → fillRow pl F cs parts = some cs' →
    ∃ cells', Instr.fill pl cells (parts.map fun p => (p.1, a.eval p.2)) = some cells' ∧ cs'.length = cells'.size ∧ ∀ j t, cs'[j]? = some t → VR c t (cells'.getD j undef)
  | [], cs, cs', cells, hl, hv, h => by
    injection h with h; subst h
    exact ⟨cells, rfl, hl, hv⟩
  | (i, x) :: rest, cs, cs', cells, hl, hv, h => by
    simp only [fillRow] at h
    cases hp : pl i with
    | none => rw [hp] at h; cases h
    | some p =>
      obtain ⟨off, size⟩ := p
      rw [hp] at h
      simp only at h
      split at h
      · rename_i hc
        obtain ⟨h0, h1, h2⟩ := hc
        have hx := ev_ok hF x
        -- the cells of the part
        have hcells : (cellsT (ev F x)).length = (a.eval x).cells.size ∧ ∀ (j : Nat) t, (cellsT (ev F x))[j]? = some t → VR c t ((a.eval x).cells.getD j undef) := by
          by_cases ha : ∃ l, ev F x = .agg l
          · obtain ⟨l, hl⟩ := ha
            rw [hl] at hx ⊢
            obtain ⟨vs, e, g1, g2⟩ := vr_agg hx
            rw [e]
            exact ⟨g1, g2⟩
          · have hc1 : cellsT (ev F x) = [ev F x] := by
              unfold cellsT; split
              · rename_i l hl; exact absurd ⟨l, hl⟩ ha
              · rfl
            have hlf : leaf (ev F x) = true := by
              unfold okPart at h0; split at h0
              · rename_i l hl; exact absurd ⟨l, hl⟩ ha
              · exact h0
            have h1 := vr_leaf hx hlf
            have hv : (a.eval x).cells = #[a.eval x] := by
              generalize a.eval x = v at h1
              cases v <;> first | rfl | (simp [Value.oneCell'] at h1)
            rw [hc1, hv]
            refine ⟨rfl, fun j t hj => ?_⟩
            cases j with
            | zero => simp only [List.getElem?_cons_zero, Option.some.injEq] at hj; subst hj; exact hx
            | succ j => simp at hj
        obtain ⟨g1, g2⟩ := hcells
        obtain ⟨p1, p2⟩ := put_cells cells off (a.eval x).cells.toList 0 cells (by rw [Array.length_toList]; omega)
        have hlen : (splice cs off (cellsT (ev F x))).length = cs.length := splice_len (by omega)
        obtain ⟨cells', q1, q2, q3⟩ := fill_ok hF pl rest _ cs' (((a.eval x).cells.toList.zipIdx 0).foldl (fun cs (p : Value × Nat) => cs.setIfInBounds (off + p.2) p.1) cells) (by rw [p1, hlen, hl])
          (fun j t hj => by
            rcases splice_get hj (by omega) with ⟨a1, a2, a3⟩ | ⟨a1, a2⟩
            · have := g2 _ _ a3
              rw [Array.getD_eq_getD_getElem?, p2 j, if_pos (by rw [Array.length_toList]; omega), Nat.add_zero, Array.getElem?_toList]
              rwa [Array.getD_eq_getD_getElem?] at this
            · have := hv _ _ a2
              rw [Array.getD_eq_getD_getElem?, p2 j, if_neg (by rw [Array.length_toList]; omega)]
              rwa [Array.getD_eq_getD_getElem?] at this) h
        refine ⟨cells', ?_, q2, q3⟩
        simp only [List.map_cons, Instr.fill, hp]
        rw [if_neg (by simp; omega)]
        rw [← q1]
        congr 1
        rw [← Array.foldl_toList, Array.toList_zipIdx]
      · cases h

theorem places_ok (hE : EnvOk E) : ∀ (fs : List Field) (pl : List (Nat × Nat)), placesA E (fs.map fun f => (f.offset, f.type)) = some pl →
    ∀ w, (fs.mapM fun f => (do return (f.offset, ← sizeOf f.type) : Sem (Nat × Nat))).run E.P w = .ok pl w
  | [], pl, h, w => by injection h with h; subst h; simp
  | f :: fs, pl, h, w => by
    simp only [List.map_cons, placesA, Option.bind_eq_some_iff, Option.map_eq_some_iff] at h
    obtain ⟨fi, hfi, l, hl, rfl⟩ := h
    have := places_ok hE fs l hl w
    simp only [List.mapM_cons, Sem.run_bind, run_size (hE.tt _ _ hfi), Sem.run_pure, Result.andThen_ok, this]
theorem zero_rel {im : Nat → Nat → Option Value} {z : Value} {zero : List T} (h : z.cells.toList.map conv1 = zero) : zero.length = z.cells.size ∧ ∀ j t, zero[j]? = some t → IR im t (z.cells.getD j undef) := by
  subst h
  refine ⟨by simp, fun j t hj => ?_⟩
  rw [List.getElem?_map, Option.map_eq_some_iff] at hj
  obtain ⟨x, hx, rfl⟩ := hj
  rw [Array.getElem?_toList] at hx
  rw [Array.getD_eq_getD_getElem?, hx]
  exact conv1_ok x
theorem build_ok (hE : EnvOk E) {F : Fr} {a : Act} (hF : FR c F a) {t : Nat} {ti : TI} (hti : E.tt t = some ti) (hf : ti.fields ≠ []) {pl : List (Nat × Nat)} (hpl : placesA E ti.fields = some pl) {parts : Array (Nat × Operand)} {cs : List T}
    (h : fillRow (fun i => pl[i]?) F ti.zero parts.toList = some cs) : ∃ v, (Instr.build t (parts.map fun (i, x) => (i, a.eval x))).run E.P w = .ok v w ∧ VR c (.agg cs) v := by
  obtain ⟨fs, h1, h2⟩ := ti_fields (hE.tt _ _ hti) hf
  obtain ⟨z, z1, z2, z3, z4⟩ := run_zero (hE.tt _ _ hti)
  rw [h2] at hpl
  have hp := places_ok hE _ _ hpl w
  obtain ⟨r1, r2⟩ := zero_rel (im := c.im) z3
  obtain ⟨cells', q1, q2, q3⟩ := fill_ok hF (fun i => pl[i]?) parts.toList ti.zero cs z.cells r1 (fun j t hj => .im (r2 j t hj)) h
  refine ⟨.agg cells', ?_, .agg q2 q3⟩
  simp only [Instr.build, Sem.run_bind, z1, Result.andThen_ok, run_underlying h1, Array.mapM_eq_mapM_toList, Sem.run_map, hp, Array.toList_map]
  simp only [List.getElem?_toArray]
  have e : (parts.toList.map fun (x : Nat × Operand) => (x.1, a.eval x.2)) = List.map (fun x => match x with | (i, x) => (i, a.eval x)) parts.toList := rfl
  rw [← e, q1]
  rfl

theorem made_get (z : Array Value) (n i j : Nat) (hi : i < n) (hj : j < z.size) : ((Array.range (n * z.size)).map (fun p => z[p % z.size]!))[i * z.size + j]? = z[j]? := by
  have hlt : i * z.size + j < n * z.size := by
    have : (i + 1) * z.size ≤ n * z.size := Nat.mul_le_mul_right _ hi
    rw [Nat.add_mul, Nat.one_mul] at this
    omega
  rw [Array.getElem?_map, Array.getElem?_range, if_pos hlt]
  simp only [Option.map_some]
  rw [show (i * z.size + j) % z.size = j by rw [Nat.add_comm, Nat.add_mul_mod_self_right]; exact Nat.mod_eq_of_lt hj]
  simp [hj]

def RowsRel (c : Cx) (size : Nat) (rows : List (List T)) (cells : Array Value) : Prop :=
  (∀ r, r ∈ rows → r.length = size) ∧ cells.size = rows.length * size ∧ ∀ (r : Nat) row (j : Nat) t, rows[r]? = some row → row[j]? = some t → ∃ v, cells[r * size + j]? = some v ∧ VR c t v ∧ v.oneCell' = true
theorem fillRows_ok {F : Fr} {a : Act} (hF : FR c F a) (size : Nat) : ∀ (parts : List (Nat × Operand)) (rows rows' : List (List T)) (cells : Array Value), RowsRel c size rows cells →
    fillRows size F rows parts = some rows' → ∃ cells', Instr.fill (fun i => some (i * size, size)) cells (parts.map fun p => (p.1, a.eval p.2)) = some cells' ∧ RowsRel c size rows' cells' ∧ rows'.length = rows.length
  | [], rows, rows', cells, hr, h => by
    injection h with h; subst h
    exact ⟨cells, rfl, hr, rfl⟩
  | (i, x) :: rest, rows, rows', cells, hr, h => by
    simp only [fillRows] at h
    split at h
    · rename_i hc
      obtain ⟨h1, h2, h3⟩ := hc
      obtain ⟨g1, g2⟩ := vr_cells (ev_ok hF x) h3
      obtain ⟨r1, r2, r3⟩ := hr
      have hb : (i + 1) * size ≤ rows.length * size := Nat.mul_le_mul_right _ h2
      rw [Nat.add_mul, Nat.one_mul] at hb
      obtain ⟨p1, p2⟩ := put_cells cells (i * size) (a.eval x).cells.toList 0 cells (by rw [Array.length_toList]; omega)
      obtain ⟨cells', q1, q2, q3⟩ := fillRows_ok hF size rest _ rows' (((a.eval x).cells.toList.zipIdx 0).foldl (fun cs (p : Value × Nat) => cs.setIfInBounds (i * size + p.2) p.1) cells) ⟨fun r hr => by
          rcases List.mem_or_eq_of_mem_set hr with h | h
          · exact r1 r h
          · subst h; exact h1, by rw [p1, r2]; simp, fun r row j t a1 a2 => by
          rw [List.getElem?_set] at a1
          by_cases e : i = r
          · subst e
            rw [if_pos rfl, if_pos h2] at a1
            injection a1 with a1
            subst a1
            obtain ⟨u, u1, u2, u3⟩ := g2 j t a2
            refine ⟨u, ?_, u2, u3⟩
            have hj : j < size := by rw [← h1]; exact (List.getElem?_eq_some_iff.1 a2).1
            rw [p2, if_pos (by rw [Array.length_toList]; omega), Array.getElem?_toList, ← u1]
            congr 1
            omega
          · rw [if_neg e] at a1
            obtain ⟨u, u1, u2, u3⟩ := r3 r row j t a1 a2
            refine ⟨u, ?_, u2, u3⟩
            have hj : j < size := by rw [← r1 row (List.mem_of_getElem? a1)]; exact (List.getElem?_eq_some_iff.1 a2).1
            rw [p2, if_neg]
            · exact u1
            · rw [Array.length_toList]
              rintro ⟨m1, m2⟩
              rcases Nat.lt_or_ge r i with h | h
              · have h5 : (r + 1) * size ≤ i * size := Nat.mul_le_mul_right _ h
                rw [Nat.add_mul, Nat.one_mul] at h5
                omega
              · have h5 : (i + 1) * size ≤ r * size := Nat.mul_le_mul_right _ (by omega)
                rw [Nat.add_mul, Nat.one_mul] at h5
                omega⟩ h
      refine ⟨cells', ?_, q2, by rw [q3]; simp⟩
      simp only [List.map_cons, Instr.fill]
      rw [if_neg (by simp; omega)]
      rw [← q1]
      congr 1
      rw [← Array.foldl_toList, Array.toList_zipIdx]
    · cases h
theorem zero_rows {z : Value} {zero : List T} (h : z.cells.toList.map conv1 = zero) (h1 : ∀ u, u ∈ z.cells → u.oneCell' = true) (n : Nat) :
    RowsRel c zero.length (List.replicate n zero) ((Array.range (n * z.cells.size)).map fun p => z.cells[p % z.cells.size]!) := by
  obtain ⟨r1, r2⟩ := zero_rel (im := c.im) h
  refine ⟨fun r hr => by rw [List.eq_of_mem_replicate hr], by simp [r1], fun r row j t a b => ?_⟩
  have hr : r < n := by have := (List.getElem?_eq_some_iff.1 a).1; simpa using this
  have hrow : row = zero := List.eq_of_mem_replicate (List.mem_of_getElem? a)
  subst hrow
  have hj : j < z.cells.size := by rw [← r1]; exact (List.getElem?_eq_some_iff.1 b).1
  have hv := r2 j t b
  rw [Array.getD_eq_getD_getElem?, Array.getElem?_eq_getElem hj] at hv
  refine ⟨z.cells[j], ?_, .im hv, h1 _ (Array.getElem_mem hj)⟩
  rw [r1, made_get _ _ _ _ hr hj]
  exact Array.getElem?_eq_getElem hj
theorem row_new (hI : Inv c w S) {e size : Nat} {rows : List (List T)} {cells : Array Value} (hr : RowsRel c size rows cells) (cl : Bool) (hcl : cl = true → ∀ r, r ∈ rows → ∀ t, t ∈ r → closed1 t = true) {s : Sem Next} {n : Nat} (hn : rows.length = n) (hm : n ≤ maxLen)
    (hrun : s.run E.P w = .ok (.value (.slice (some ⟨w.heap.size, 0, none⟩) n n)) (w.alloc (.cells cells e))) :
    Runs E.P c w s (.os S.length n) (S ++ [{ rows := rows, sz := size, e := e, froz := false, cl := cl }]) := by
  obtain ⟨r1, r2, r3⟩ := hr
  obtain ⟨c', l1, l2, l3, l4, l5, l6, l7, l8⟩ := alloc_ok hI { rows := rows, sz := size, e := e, froz := false, cl := cl } cells r1 (by rw [r2]; exact Nat.le_refl _)
    (fun r row j t a b => by
      obtain ⟨u, u1, u2, u3⟩ := r3 r row j t a b
      exact ⟨u, u1, u2, u3, fun h => closed_ir u2 (hcl h row (List.mem_of_getElem? a) t (List.mem_of_getElem? b))⟩)
  refine ⟨c', _, _, .inl hrun, l1, l2, l3, ?_⟩
  have hh := hI.n
  have k := VR.os (c := c') (i := S.length) (k := n) (cap := n) (by omega) (by rw [l6]; exact hn) (Nat.le_refl _) hm (by rw [l7, l8, r2, hn])
  rw [l5] at k
  exact k
theorem buildSlice_ok (hE : EnvOk E) (hI : Inv c w S) {F : Fr} {a : Act} (hF : FR c F a) {t n e : Nat} {ti ei : TI} (hti : E.tt t = some ti) (hsl : ti.slice = some e) (hei : E.tt e = some ei) {parts : Array (Nat × Operand)} {rows : List (List T)}
    (h1 : 0 < ei.size ∧ n * ei.size ≤ 16777216 ∧ ei.zero.length = ei.size) (h : fillRows ei.size F (List.replicate n ei.zero) parts.toList = some rows) :
    Runs E.P c w (do return Next.value (← Instr.buildSlice t n (parts.map fun (i, x) => (i, a.eval x))) : Sem Next) (.os S.length n) (S ++ [{ rows := rows, sz := ei.size, e := e, froz := false, cl := rows.all fun r => r.all closed1 }]) := by
  obtain ⟨hs0, hs1, hs2⟩ := h1
  have ht := ti_slice (hE.tt _ _ hti) hsl
  obtain ⟨z, z1, z2, z3, z4⟩ := run_zero (hE.tt _ _ hei)
  have e0 : (parts.toList.map fun (x : Nat × Operand) => (x.1, a.eval x.2)) = List.map (fun x => match x with | (i, x) => (i, a.eval x)) parts.toList := rfl
  have hz := zero_rows (c := c) z3 z4 n
  rw [hs2] at hz
  obtain ⟨cells', q1, q2, q3⟩ := fillRows_ok hF ei.size parts.toList _ rows _ hz h
  have hlen : rows.length = n := by rw [q3]; simp
  refine row_new hI q2 _ (fun hcl r hr t ht => by rw [List.all_eq_true] at hcl; exact List.all_eq_true.1 (hcl r hr) t ht) hlen (by have : n ≤ n * ei.size := Nat.le_mul_of_pos_right _ hs0; simp only [maxLen]; omega) ?_
  refine run_v ?_
  rcases Nat.eq_zero_or_pos n with h0 | h0
  · subst h0
    have hp : parts.toList = [] := by
      cases hpl : parts.toList with
      | nil => rfl
      | cons p r =>
        rw [hpl] at h
        obtain ⟨i, x⟩ := p
        simp [fillRows] at h
    rw [hp] at q1
    simp only [List.map_nil, Instr.fill, Option.some.injEq] at q1
    subst q1
    simp only [Instr.buildSlice, Sem.run_bind, run_underlying ht, Result.andThen_ok, run_size (hE.tt _ _ hei), Nat.zero_mul]
    have hr0 : Array.range 0 = #[] := Array.eq_empty_of_size_eq_zero (by simp)
    simp [hp, Instr.fill, newRow, hr0]
  · have hne : ¬ n * ei.size = 0 := by
      have := Nat.mul_pos h0 hs0
      omega
    simp only [Instr.buildSlice, Sem.run_bind, run_underlying ht, Result.andThen_ok, run_size (hE.tt _ _ hei)]
    rw [if_neg (by omega)]
    simp only [hne, if_false, Sem.run_bind, z1, Result.andThen_ok, Sem.run_pure, Array.toList_map]
    rw [z2] at q1
    rw [e0] at q1
    rw [z2, q1]
    simp [newRow]

theorem makeSlice_ok (hE : EnvOk E) (hI : Inv c w S) {t e : Nat} {n : Int} {ti ei : TI} (hti : E.tt t = some ti) (hsl : ti.slice = some e) (hei : E.tt e = some ei)
    (h : 0 ≤ n ∧ n * ei.bytes ≤ 140737488355328 ∧ 0 < ei.bytes ∧ 0 < ei.size ∧ ei.zero.length = ei.size ∧ ei.zero.all closed1 = true) :
    Runs E.P c w (do return Next.value (← Instr.makeSlice t (.int .i64 n) (.int .i64 n)) : Sem Next) (.os S.length n.toNat) (S ++ [{ rows := List.replicate n.toNat ei.zero, sz := ei.size, e := e, froz := false, cl := true }]) := by
  obtain ⟨h0, h1, h2, h3, h4, h5⟩ := h
  have ht := ti_slice (hE.tt _ _ hti) hsl
  obtain ⟨z, z1, z2, z3, z4⟩ := run_zero (hE.tt _ _ hei)
  obtain ⟨i, d, z', g1, g2, g3, g4, g4', g5, g6, g7, _⟩ := ti_get (hE.tt _ _ hei)
  have hz := zero_rows (c := c) z3 z4 n.toNat
  rw [h4, z2] at hz
  have hle : n * 1 ≤ n * ei.bytes := Int.mul_le_mul_of_nonneg_left (by omega) h0
  have hw : IntKind.i64.wrap n = n := by simp [IntKind.wrap, IntKind.bits, IntKind.signed]; omega
  refine row_new hI hz _ (fun _ r hr t ht => by rw [List.eq_of_mem_replicate hr] at ht; exact List.all_eq_true.1 h5 t ht) (by simp) (by simp only [maxLen]; omega) ?_
  refine run_v ?_
  have hti : (typeInfo e).run E.P w = .ok i w := by simp [typeInfo, g1]
  have hbn : (i.bytes : Int) * n ≤ 140737488355328 := by rw [← g7, Int.mul_comm]; exact h1
  simp only [Instr.makeSlice, Sem.run_bind, run_underlying ht, Result.andThen_ok, asInt, asIntOf, Sem.run_pure, hti, hw]
  rw [if_neg (by simp; omega)]
  have c3 : ¬ n.toNat * i.bytes > roomBytes := by
    have : ((n.toNat * i.bytes : Nat) : Int) = (i.bytes : Int) * n := by rw [Int.natCast_mul, Int.toNat_of_nonneg h0, Int.mul_comm]
    unfold roomBytes
    omega
  simp only [askRoom, c3, if_false, Sem.run_pure, Sem.run_bind, Result.andThen_ok, run_size (hE.tt _ _ hei)]
  rcases Nat.eq_zero_or_pos (n.toNat * ei.size) with hz0 | hz0
  · have hr0 : Array.range 0 = #[] := Array.eq_empty_of_size_eq_zero (by simp)
    simp [hz0, newRow, hr0]
  · rw [if_neg (by omega)]
    simp [z1, newRow, z2]
end ops
end Go.Proofs.Ytbehhhlidaiblaa.Ai
