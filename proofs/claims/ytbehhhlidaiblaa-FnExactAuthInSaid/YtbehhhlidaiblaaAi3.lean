/- Each operation of the machine is one of the program's. -/
import Derived.Test.YtbehhhlidaiblaaAi2
import Derived.Laws.Entries
namespace Go.Proofs.Ytbehhhlidaiblaa.Ai
open Go Go.RowKit

theorem add_eq {ad : Addr} (h : ad.spot = none) (j : Nat) : ad.add j = ⟨ad.block, ad.off + j, none⟩ := by
  unfold Addr.add
  split
  · subst_vars; cases ad; simp_all
  · rfl
theorem add_spot {ad : Addr} (h : ad.spot = none) (j : Nat) : (ad.add j).spot = none := by rw [add_eq h]
theorem add_add {ad : Addr} (h : ad.spot = none) (i j : Nat) : (ad.add i).add j = ad.add (i + j) := by
  rw [add_eq (add_spot h i), add_eq h, add_eq h]; simp [Nat.add_assoc]

section types
variable {P : Program} {t : Nat} {ti : TI}
theorem ti_get (h : tiOf P t = some ti) : ∃ i d z, P.info? t = some i ∧ P.underlying t = some d ∧ i.zero = some z ∧ z.cells.size = i.size ∧ z.cells.all (·.oneCell') = true ∧
    ti.agg = (match d with | .struct _ => true | .array _ _ => true | _ => false) ∧ ti.size = i.size ∧ ti.bytes = i.bytes ∧ ti.zero = z.cells.toList.map conv1 ∧
    ti.slice = (match d with | .slice e => some e | _ => none) ∧ ti.arr = (match d with | .array n e => some (n, e) | _ => none) ∧
    ti.fields = (match d with | .struct fs => fs.toList.map fun f => (f.offset, f.type) | _ => []) ∧ ti.int = (match d with | .int k => some k | _ => none) ∧
    ti.ptr = (match d with | .pointer _ => true | _ => false) ∧ ti.str = (match d with | .string => true | _ => false) ∧ ti.bool = (match d with | .bool => true | _ => false) := by
  unfold tiOf at h
  split at h
  · rename_i i d hi hd
    split at h
    · rename_i z hz
      split at h
      · rename_i hc
        injection h with h
        subst h
        exact ⟨i, d, z, hi, hd, hz, hc.1, hc.2, rfl, rfl, rfl, rfl, rfl, rfl, rfl, rfl, rfl, rfl, rfl⟩
      · cases h
    · cases h
  · cases h
theorem ti_slice {e : Nat} (h : tiOf P t = some ti) (hs : ti.slice = some e) : P.underlying t = some (.slice e) := by
  obtain ⟨i, d, z, h1, h2, h3, h4, h4', h5, h6, h7, h8, h9, h10, h11, h12, h13, h14, h15⟩ := ti_get h
  rw [h9] at hs
  split at hs
  · injection hs with hs; subst hs; exact h2
  · cases hs
theorem ti_arr {n e : Nat} (h : tiOf P t = some ti) (hs : ti.arr = some (n, e)) : P.underlying t = some (.array n e) := by
  obtain ⟨i, d, z, h1, h2, h3, h4, h4', h5, h6, h7, h8, h9, h10, h11, h12, h13, h14, h15⟩ := ti_get h
  rw [h10] at hs
  split at hs
  · injection hs with hs; injection hs with ha hb; subst ha; subst hb; exact h2
  · cases hs
theorem ti_fields (h : tiOf P t = some ti) (hs : ti.fields ≠ []) : ∃ fs, P.underlying t = some (.struct fs) ∧ ti.fields = fs.toList.map fun f => (f.offset, f.type) := by
  obtain ⟨i, d, z, h1, h2, h3, h4, h4', h5, h6, h7, h8, h9, h10, h11, h12, h13, h14, h15⟩ := ti_get h
  rw [h11] at hs ⊢
  split at hs
  · exact ⟨_, h2, rfl⟩
  · exact absurd rfl hs
theorem ti_int {k : IntKind} (h : tiOf P t = some ti) (hs : ti.int = some k) : P.underlying t = some (.int k) := by
  obtain ⟨i, d, z, h1, h2, h3, h4, h4', h5, h6, h7, h8, h9, h10, h11, h12, h13, h14, h15⟩ := ti_get h
  rw [h12] at hs
  split at hs
  · injection hs with hs; subst hs; exact h2
  · cases hs
theorem ti_ptr (h : tiOf P t = some ti) (hs : ti.ptr = true) : ∃ e, P.underlying t = some (.pointer e) := by
  obtain ⟨i, d, z, h1, h2, h3, h4, h4', h5, h6, h7, h8, h9, h10, h11, h12, h13, h14, h15⟩ := ti_get h
  rw [h13] at hs
  split at hs
  · exact ⟨_, h2⟩
  · cases hs
theorem ti_str (h : tiOf P t = some ti) (hs : ti.str = true) : P.underlying t = some .string := by
  obtain ⟨i, d, z, h1, h2, h3, h4, h4', h5, h6, h7, h8, h9, h10, h11, h12, h13, h14, h15⟩ := ti_get h
  rw [h14] at hs
  split at hs
  · exact h2
  · cases hs
theorem ti_bool (h : tiOf P t = some ti) (hs : ti.bool = true) : P.underlying t = some .bool := by
  obtain ⟨i, d, z, h1, h2, h3, h4, h4', h5, h6, h7, h8, h9, h10, h11, h12, h13, h14, h15⟩ := ti_get h
  rw [h15] at hs
  split at hs
  · exact h2
  · cases hs
theorem run_size (h : tiOf P t = some ti) (w : World) : (sizeOf t).run P w = .ok ti.size w := by
  obtain ⟨i, d, z, h1, h2, h3, h4, h4', h5, h6, h7, _⟩ := ti_get h
  simp [sizeOf, typeInfo, h1, h6]
theorem run_isAgg (h : tiOf P t = some ti) (w : World) : (isAgg t).run P w = .ok ti.agg w := by
  obtain ⟨i, d, z, h1, h2, h3, h4, h4', h5, h6, h7, _⟩ := ti_get h
  simp only [isAgg, Sem.run_bind, run_underlying h2, Result.andThen_ok, h5]
  split <;> simp_all
theorem run_zero (h : tiOf P t = some ti) : ∃ z, (∀ w, (zeroValue t).run P w = .ok z w) ∧ z.cells.size = ti.size ∧ z.cells.toList.map conv1 = ti.zero ∧ (∀ u, u ∈ z.cells → u.oneCell' = true) := by
  obtain ⟨i, d, z, h1, h2, h3, h4, h4', h5, h6, h7, h8, _⟩ := ti_get h
  exact ⟨z, fun w => by simp [zeroValue, typeInfo, h1, h3], by rw [h4, h6], h8.symm, fun u hu => by rw [Array.all_eq_true_iff_forall_mem] at h4'; exact h4' u hu⟩
end types

/-- What the machine is told is so. -/
structure EnvOk (E : Env) : Prop where
  tt : ∀ t ti, E.tt t = some ti → tiOf E.P t = some ti
  eqT : ∀ (c : Cx) xt xs ys b vs us (x y : Operand), E.eqT xt xs ys = some b → VR c (.agg xs) (.agg vs) → VR c (.agg ys) (.agg us) →
    (∀ w, (eqGuard .eql xt x y (.agg vs) (.agg us)).run E.P w = .ok () w) ∧ (∀ w, (eqGuard .neq xt x y (.agg vs) (.agg us)).run E.P w = .ok () w) ∧ ∀ w, (Op.equal xt (.agg vs) (.agg us)).run E.P w = .ok b w

/-- The operation runs, and comes to what the machine says. -/
def Runs (P : Program) (c : Cx) (w : World) (s : Sem Next) (t : T) (S' : List Ob) : Prop :=
  ∃ c' w' v, (s.run P w = .ok (.value v) w' ∨ (s.run P w = .ok .skip w' ∧ v = undef)) ∧ Le c c' w.heap.size ∧ Keep c w w' ∧ Inv c' w' S' ∧ VR c' t v
theorem Runs.pure {P : Program} {c : Cx} {w : World} {S : List Ob} {s : Sem Next} {t : T} {v : Value} (hi : Inv c w S) (hr : s.run P w = .ok (.value v) w) (hv : VR c t v) : Runs P c w s t S :=
  ⟨c, w, v, .inl hr, Le.refl _ _, Keep.refl _ _, hi, hv⟩

theorem run_v {P : Program} {w w' : World} {s : Sem Value} {v : Value} (h : s.run P w = .ok v w') : (do return Next.value (← s) : Sem Next).run P w = .ok (.value v) w' := by
  simp [h]

section ops
variable {E : Env} {c : Cx} {w : World} {S : List Ob}

theorem vr_val {t : Value} {v : Value} (h : VR c (.val t) v) : v = t ∧ flat t = true := by
  cases h with | im h => cases h with | val h => exact ⟨rfl, h⟩
theorem alive_ok {i k : Nat} {O : Ob} (h : alive S i k = some O) : S[i]? = some O ∧ O.rows.length = k := by
  unfold alive at h
  split at h
  · split at h
    · injection h with h; subst h; exact ⟨‹_›, ‹_›⟩
    · cases h
  · cases h
/-- A live pointer's value. -/
theorem vr_ref (hI : Inv c w S) {i k row off : Nat} {v : Value} {O : Ob} (h : VR c (.ref i k row off) v) (ha : alive S i k = some O) :
    i < c.n ∧ ObOk c w i O ∧ v = .pointer (some ⟨c.bk i, row * O.sz + off, none⟩) := by
  obtain ⟨h1, h2⟩ := alive_ok ha
  have k1 := hI.ob i O h1
  have e := k1.len
  cases h with
  | im h => cases h
  | ref hi hk => exact ⟨hi, k1, by rw [k1.sz]⟩
  | refOld hi hk => omega
theorem vr_os (hI : Inv c w S) {i k : Nat} {v : Value} {O : Ob} (h : VR c (.os i k) v) (ha : alive S i k = some O) :
    i < c.n ∧ ObOk c w i O ∧ ∃ cap, v = .slice (some ⟨c.bk i, 0, none⟩) k cap ∧ k ≤ cap ∧ cap ≤ maxLen ∧ cap * O.sz = c.bs i := by
  obtain ⟨h1, h2⟩ := alive_ok ha
  have k1 := hI.ob i O h1
  have e := k1.len
  cases h with
  | im h => cases h
  | os hi hk hc hm hb => exact ⟨hi, k1, _, rfl, hc, hm, by rw [← k1.sz]; exact hb⟩
  | osOld hi hk => omega

/-- What lies at an address. -/
theorem cells_at (hI : Inv c w S) {tv : T} {v : Value} {cs : List T} (h : VR c tv v) (hc : cellsAt S tv = some cs) :
    ∃ (ad : Addr) (u : Nat → Value), v = .pointer (some ad) ∧ ad.spot = none ∧ ∀ j t, cs[j]? = some t → w.cell? (ad.add j) = some (u j) ∧ VR c t (u j) ∧ (u j).oneCell' = true := by
  unfold cellsAt at hc
  split at hc
  · injection hc with hc
    subst hc
    cases h with
    | im h =>
      cases h with
      | ip u hs hi h1 hv =>
        refine ⟨_, u, rfl, hs, fun j t hj => ⟨?_, .im (hv j t hj), h1 j t hj⟩⟩
        rw [add_eq hs]
        exact hI.im _ _ _ (hi j t hj)
  · rename_i i k row off
    replace hc : ((alive S i k).bind fun O => (O.rows[row]?).map fun r => r.drop off) = some cs := hc
    cases ha : alive S i k with
    | none => rw [ha] at hc; cases hc
    | some O =>
      rw [ha] at hc
      simp only [Option.bind_some, Option.map_eq_some_iff] at hc
      obtain ⟨r, hr, rfl⟩ := hc
      obtain ⟨hi, k1, rfl⟩ := vr_ref hI h ha
      obtain ⟨cs, a1, a2, a3, a4⟩ := k1.blk
      refine ⟨_, fun j => cs.getD (row * O.sz + off + j) undef, rfl, rfl, fun j t hj => ?_⟩
      rw [List.getElem?_drop] at hj
      obtain ⟨v, b1, b2, b3, _⟩ := a4 row r (off + j) t hr hj
      have e : cs.getD (row * O.sz + off + j) undef = v := by rw [Nat.add_assoc]; simp [b1]
      refine ⟨?_, by simp only [e]; exact b2, by simp only [e]; exact b3⟩
      rw [add_eq rfl]
      simp only [World.cell?, a1, Option.isSome_none, Bool.false_eq_true, if_false, e]
      rw [Nat.add_assoc]
      exact b1
  · cases hc
theorem load_ok (hE : EnvOk E) (hI : Inv c w S) {ty : Nat} {ti : TI} (ht : E.tt ty = some ti) {ad : Addr} {u : Nat → Value} {cs : List T} (hs : ad.spot = none)
    (hu : ∀ j t, cs[j]? = some t → w.cell? (ad.add j) = some (u j) ∧ VR c t (u j) ∧ (u j).oneCell' = true) {t : T} (hm : mkVar ti.agg ti.size cs = some t) :
    ∃ v, (loadVar ty ad).run E.P w = .ok v w ∧ VR c t v := by
  have h1 := hE.tt _ _ ht
  unfold mkVar at hm
  split at hm
  · rename_i hg
    split at hm
    · rename_i hle
      injection hm with hm
      subst hm
      refine ⟨.agg ((List.range ti.size).map u).toArray, ?_, .agg (by simp; omega) fun j t hj => ?_⟩
      · have hl := run_loadCellsFrom (P := E.P) (w := w) ad u ti.size 0 #[] (fun j hj => by
          obtain ⟨t, ht⟩ : ∃ t, cs[j]? = some t := ⟨cs[j]'(by omega), List.getElem?_eq_getElem (by omega)⟩
          rw [Nat.zero_add]
          exact (hu j t ht).1)
        simp only [loadVar, Sem.run_bind, run_isAgg h1, Result.andThen_ok, hg, if_true, run_size h1, loadCells, hl, Sem.run_pure]
        simp
      · rw [List.getElem?_take] at hj
        split at hj
        · rename_i hlt
          have := (hu j t hj).2.1
          simpa [hlt] using this
        · cases hj
    · cases hm
  · rename_i hg
    obtain ⟨a1, a2, a3⟩ := hu 0 t hm
    refine ⟨u 0, ?_, a2⟩
    have e : ad.add 0 = ad := by simp [Addr.add]
    rw [e] at a1
    simp only [loadVar, Sem.run_bind, run_isAgg h1, Result.andThen_ok, hg, Bool.false_eq_true, if_false]
    simp [a1]

/-! #### cells of a value that is stored -/
theorem vr_leaf {t : T} {v : Value} (h : VR c t v) (hl : leaf t = true) : v.oneCell' = true := by
  cases h with
  | im h =>
    cases h with
    | val h => cases v <;> first | rfl | (simp [flat] at h)
    | nil => rfl
    | sl => rfl
    | ip => rfl
    | fn => rfl
    | agg => simp [leaf] at hl
    | junk => simp [leaf] at hl
  | ref => rfl
  | refOld => rfl
  | os => rfl
  | osOld => rfl
  | agg => simp [leaf] at hl
  | tup => simp [leaf] at hl
  | fn => rfl
theorem vr_agg {cs : List T} {v : Value} (h : VR c (.agg cs) v) : ∃ vs, v = .agg vs ∧ cs.length = vs.size ∧ ∀ j t, cs[j]? = some t → VR c t (vs.getD j undef) := by
  cases h with
  | im h => cases h with | agg hl hv => exact ⟨_, rfl, hl, fun j t hj => .im (hv j t hj)⟩
  | agg hl hv => exact ⟨_, rfl, hl, hv⟩
/-- The cells of a value. -/
theorem vr_cells {t : T} {v : Value} (h : VR c t v) (hl : (cellsT t).all leaf = true) : (cellsT t).length = v.cells.size ∧
    ∀ (j : Nat) (x : T), (cellsT t)[j]? = some x → ∃ u, v.cells[j]? = some u ∧ VR c x u ∧ u.oneCell' = true := by
  by_cases ha : ∃ cs, t = .agg cs
  · obtain ⟨cs, rfl⟩ := ha
    obtain ⟨vs, rfl, h1, h2⟩ := vr_agg h
    refine ⟨h1, fun j x hj => ?_⟩
    have hj' : cs[j]? = some x := hj
    have hlt : j < vs.size := by rw [← h1]; exact (List.getElem?_eq_some_iff.1 hj').1
    have hx : leaf x = true := by
      rw [List.all_eq_true] at hl
      exact hl x (List.mem_of_getElem? hj)
    refine ⟨vs[j], by simp [Value.cells, hlt], by simpa [hlt] using h2 j x hj', ?_⟩
    have := h2 j x hj'
    exact vr_leaf (by simpa [hlt] using this) hx
  · have hc : cellsT t = [t] := by
      unfold cellsT; split
      · rename_i cs; exact absurd ⟨cs, rfl⟩ ha
      · rfl
    have hlf : leaf t = true := by rw [hc] at hl; simpa using hl
    have h1 := vr_leaf h hlf
    have hv : v.cells = #[v] := by cases v <;> first | rfl | (simp [Value.oneCell'] at h1)
    rw [hc, hv]
    refine ⟨rfl, fun j x hj => ?_⟩
    cases j with
    | zero => simp only [List.getElem?_cons_zero, Option.some.injEq] at hj; subst hj; exact ⟨v, rfl, h, h1⟩
    | succ j => simp at hj

/-! #### the pure operations -/
theorem pure_run {s : Sem Value} {v : Value} (h : pureV s = some v) (P : Program) (w : World) : s.run P w = .ok v w := by
  unfold pureV at h
  split at h
  · injection h with h; subst h; rfl
  · cases h
theorem pureT_run {s : Sem Value} {t : T} (h : pureT s = some t) : ∃ v, t = .val v ∧ flat v = true ∧ ∀ (P : Program) w, s.run P w = .ok v w := by
  unfold pureT at h
  rw [Option.bind_eq_some_iff] at h
  obtain ⟨v, hv, h⟩ := h
  split at h
  · injection h with h; subst h
    exact ⟨v, rfl, ‹_›, fun P w => pure_run hv P w⟩
  · cases h

theorem closed_ir {t : T} {v : Value} (h : VR c t v) (hl : closed1 t = true) : IR c.im t v := by
  cases h with
  | im h => exact h
  | _ => simp [closed1] at hl
/-- A new variable. -/
theorem var_ok (hI : Inv c w S) {e : Nat} {cs : List T} {v : Value} (hl : cs.length = v.cells.size)
    (hc : ∀ (j : Nat) (x : T), cs[j]? = some x → ∃ u, v.cells[j]? = some u ∧ VR c x u ∧ u.oneCell' = true) {s : Sem Next}
    (hr : s.run E.P w = .ok (.value (.pointer (some ⟨w.heap.size, 0, none⟩))) (w.alloc (.cells v.cells e))) : Runs E.P c w s (.ref S.length 1 0 0) (S ++ [newOb cs e]) := by
  obtain ⟨c', h1, h2, h3, h4, h5, h6, h7, h8⟩ := alloc_ok hI (newOb cs e) v.cells (fun r hr => by simp [newOb] at hr; simp [newOb, hr]) (by simp [newOb, hl])
    (fun r row j t h1 h2 => by
      simp only [newOb] at h1 ⊢
      cases r with
      | zero => simp only [List.getElem?_cons_zero, Option.some.injEq] at h1; subst h1; obtain ⟨u, u1, u2, u3⟩ := hc j t h2; exact ⟨u, by simpa using u1, u2, u3, fun hcl => closed_ir u2 (List.all_eq_true.1 hcl t (List.mem_of_getElem? h2))⟩
      | succ r => simp at h1)
  refine ⟨c', _, _, .inl hr, h1, h2, h3, ?_⟩
  have := hI.n
  have k := VR.ref (c := c') (i := S.length) (k := 1) (row := 0) (off := 0) (by omega) (by rw [h6]; rfl)
  rw [h5] at k
  simpa using k
end ops
end Go.Proofs.Ytbehhhlidaiblaa.Ai
