/- Calls: what is handed to a callee, what comes back. -/
import Derived.Test.YtbehhhlidaiblaaAi6
namespace Go.Proofs.Ytbehhhlidaiblaa.Ai
open Go Go.RowKit
section
variable {E : Env} {c : Cx} {w : World} {S : List Ob}

open Classical in
/-- What may be read: the caller's own rows, too. -/
noncomputable def imOwn (c : Cx) (w : World) (S : List Ob) : Nat → Nat → Option Value := fun b o =>
  if (c.im b o).isSome = true then c.im b o else if ∃ i O, S[i]? = some O ∧ c.bk i = b ∧ o < O.rows.length * O.sz then w.cell? ⟨b, o, none⟩ else none
theorem imOwn_im {b o : Nat} {v : Value} (h : c.im b o = some v) : imOwn c w S b o = some v := by
  unfold imOwn; rw [if_pos (by rw [h]; rfl)]; exact h
theorem imOwn_own (hI : Inv c w S) {i : Nat} {O : Ob} (hO : S[i]? = some O) {o : Nat} (ho : o < O.rows.length * O.sz) : imOwn c w S (c.bk i) o = w.cell? ⟨c.bk i, o, none⟩ := by
  unfold imOwn
  split
  · rename_i h
    obtain ⟨v, hv⟩ := Option.isSome_iff_exists.1 h
    rw [hv, hI.im _ _ _ hv]
  · rw [if_pos ⟨i, O, hO, rfl, ho⟩]
theorem imOwn_cell (hI : Inv c w S) {b o : Nat} {v : Value} (h : imOwn c w S b o = some v) : w.cell? ⟨b, o, none⟩ = some v := by
  unfold imOwn at h
  split at h
  · exact hI.im _ _ _ h
  · split at h
    · exact h
    · cases h

theorem expo_ok (hI : Inv c w S) : ∀ (d : Nat) {t : T} {v : Value}, VR c t v → IR (imOwn c w S) (expo d S t) v := by
  intro d
  induction d with
  | zero =>
    intro t v h
    cases t with
    | val x => cases h with | im h => exact h.mono (fun _ _ _ => imOwn_im)
    | nil => cases h with | im h => cases h with | nil => exact .sl 0 ⟨0, 0, none⟩ (fun _ => undef) rfl (Nat.le_refl _) (by simp) (fun r hr => by simp at hr) (fun h => absurd h (by simp)) rfl (fun i r j t a => by simp at a) (fun i r j t a => by simp at a) (fun i r j t a => by simp at a)
    | sl rows => cases h with | im h => exact h.mono (fun _ _ _ => imOwn_im)
    | ip cs => cases h with | im h => exact h.mono (fun _ _ _ => imOwn_im)
    | agg cs => exact .junk
    | tup vs => exact .junk
    | ref i k row off => exact .junk
    | os i k => exact .junk
    | fn f caps => exact .junk
    | junk => exact .junk
  | succ d ih =>
    intro t v h
    cases t with
    | val x => cases h with | im h => exact h.mono (fun _ _ _ => imOwn_im)
    | nil => cases h with | im h => cases h with | nil => exact .sl 0 ⟨0, 0, none⟩ (fun _ => undef) rfl (Nat.le_refl _) (by simp) (fun r hr => by simp at hr) (fun h => absurd h (by simp)) rfl (fun i r j t a => by simp at a) (fun i r j t a => by simp at a) (fun i r j t a => by simp at a)
    | sl rows => cases h with | im h => exact h.mono (fun _ _ _ => imOwn_im)
    | ip cs => cases h with | im h => exact h.mono (fun _ _ _ => imOwn_im)
    | agg cs =>
      obtain ⟨vs, rfl, h1, h2⟩ := vr_agg h
      refine .agg (by simpa using h1) fun j t hj => ?_
      rw [List.getElem?_map, Option.map_eq_some_iff] at hj
      obtain ⟨x, hx, rfl⟩ := hj
      exact ih (h2 j x hx)
    | tup vs => exact .junk
    | fn f caps =>
      have hf : ∃ vs : Array Value, v = .func (.func f) #[] vs ∧ caps.length = vs.size ∧ ∀ j t, caps[j]? = some t → VR c t (vs.getD j undef) := by
        cases h with
        | im h => cases h with | fn hl hv => exact ⟨_, rfl, hl, fun j t hj => .im (hv j t hj)⟩
        | fn hl hv => exact ⟨_, rfl, hl, hv⟩
      obtain ⟨vs, rfl, h1, h2⟩ := hf
      refine .fn (by simpa using h1) fun j t hj => ?_
      rw [List.getElem?_map, Option.map_eq_some_iff] at hj
      obtain ⟨x, hx, rfl⟩ := hj
      exact ih (h2 j x hx)
    | junk => exact .junk
    | os i k =>
      simp only [expo]
      split
      · rename_i O hO
        split
        · rename_i hk
          have hal : alive S i k = some O := by unfold alive; rw [hO]; simp [hk]
          obtain ⟨hi, k1, cap, rfl, hc, hm, hb⟩ := vr_os hI h hal
          obtain ⟨cs, b1, b2, b3, b4⟩ := k1.blk
          subst hk
          have get : ∀ q row j t, O.rows[q]? = some row → row[j]? = some t → imOwn c w S (c.bk i) (0 + (q * O.sz + j)) = some (cs.getD (q * O.sz + j) undef) ∧ (cs.getD (q * O.sz + j) undef).oneCell' = true ∧ VR c t (cs.getD (q * O.sz + j) undef) ∧ (O.cl = true → IR c.im t (cs.getD (q * O.sz + j) undef)) := by
            intro q row j t hq hj
            obtain ⟨u, u1, u2, u3, u4⟩ := b4 q row j t hq hj
            have e : cs.getD (q * O.sz + j) undef = u := by simp [u1]
            rw [e]
            refine ⟨?_, u3, u2, u4⟩
            have hq' : q < O.rows.length := (List.getElem?_eq_some_iff.1 hq).1
            have hj' : j < O.sz := by rw [← k1.row row (List.mem_of_getElem? hq)]; exact (List.getElem?_eq_some_iff.1 hj).1
            have hb2 : (q + 1) * O.sz ≤ O.rows.length * O.sz := Nat.mul_le_mul_right _ hq'
            rw [Nat.add_mul, Nat.one_mul] at hb2
            rw [Nat.zero_add, imOwn_own hI hO (by omega)]
            simp only [World.cell?, b1, Option.isSome_none, Bool.false_eq_true, if_false]
            exact u1
          split
          · rename_i hcl
            exact .sl O.sz ⟨c.bk i, 0, none⟩ (fun p => cs.getD p undef) rfl hc hm k1.row (fun _ => rfl) rfl (fun q row j t a b => (get q row j t a b).1) (fun q row j t a b => (get q row j t a b).2.1)
              (fun q row j t a b => ((get q row j t a b).2.2.2 hcl).mono (fun _ _ _ => imOwn_im))
          · refine .sl O.sz ⟨c.bk i, 0, none⟩ (fun p => cs.getD p undef) (by simp) hc hm (fun r hr => ?_) (fun _ => rfl) rfl (fun q row j t a b => ?_) (fun q row j t a b => ?_) (fun q row j t a b => ?_)
            · rw [List.mem_map] at hr
              obtain ⟨r0, hr0, rfl⟩ := hr
              simpa using k1.row r0 hr0
            all_goals
              rw [List.getElem?_map, Option.map_eq_some_iff] at a
              obtain ⟨r0, hr0, rfl⟩ := a
              rw [List.getElem?_map, Option.map_eq_some_iff] at b
              obtain ⟨t0, ht0, rfl⟩ := b
            · exact (get q r0 j t0 hr0 ht0).1
            · exact (get q r0 j t0 hr0 ht0).2.1
            · exact ih (get q r0 j t0 hr0 ht0).2.2.1
        · exact .junk
      · exact .junk
    | ref i k row off =>
      simp only [expo]
      split
      · rename_i O hO
        split
        · rename_i hk
          have hal : alive S i k = some O := by unfold alive; rw [hO]; simp [hk]
          obtain ⟨hi, k1, rfl⟩ := vr_ref hI h hal
          obtain ⟨cs, b1, b2, b3, b4⟩ := k1.blk
          subst hk
          split
          · rename_i r hr
            have get : ∀ (j : Nat) t, (r.drop off)[j]? = some t → imOwn c w S (c.bk i) (row * O.sz + off + j) = some (cs.getD (row * O.sz + off + j) undef) ∧ (cs.getD (row * O.sz + off + j) undef).oneCell' = true ∧ VR c t (cs.getD (row * O.sz + off + j) undef) ∧ (O.cl = true → IR c.im t (cs.getD (row * O.sz + off + j) undef)) := by
              intro j t hj
              rw [List.getElem?_drop] at hj
              obtain ⟨u, u1, u2, u3, u4⟩ := b4 row r (off + j) t hr hj
              rw [← Nat.add_assoc] at u1
              have e : cs.getD (row * O.sz + off + j) undef = u := by simp [u1]
              rw [e]
              refine ⟨?_, u3, u2, u4⟩
              have hq' : row < O.rows.length := (List.getElem?_eq_some_iff.1 hr).1
              have hj' : off + j < O.sz := by rw [← k1.row r (List.mem_of_getElem? hr)]; exact (List.getElem?_eq_some_iff.1 hj).1
              have hb2 : (row + 1) * O.sz ≤ O.rows.length * O.sz := Nat.mul_le_mul_right _ hq'
              rw [Nat.add_mul, Nat.one_mul] at hb2
              rw [imOwn_own hI hO (by omega)]
              simp only [World.cell?, b1, Option.isSome_none, Bool.false_eq_true, if_false]
              exact u1
            split
            · rename_i hcl
              exact .ip (fun j => cs.getD (row * O.sz + off + j) undef) rfl (fun j t hj => (get j t hj).1) (fun j t hj => (get j t hj).2.1) (fun j t hj => ((get j t hj).2.2.2 hcl).mono (fun _ _ _ => imOwn_im))
            · refine .ip (fun j => cs.getD (row * O.sz + off + j) undef) rfl (fun j t hj => ?_) (fun j t hj => ?_) (fun j t hj => ?_)
              all_goals
                rw [List.getElem?_map, Option.map_eq_some_iff] at hj
                obtain ⟨t0, ht0, rfl⟩ := hj
              · exact (get j t0 ht0).1
              · exact (get j t0 ht0).2.1
              · exact ih (get j t0 ht0).2.2.1
          · exact .junk
        · exact .junk
      · exact .junk

def ret1 : T → Bool
  | .os _ _ => true
  | .ref _ _ _ _ => true
  | t => closed1 t
def retP : T → Bool
  | .agg cs => cs.all ret1
  | t => ret1 t
def retV : T → Bool
  | .tup vs => vs.all retP
  | t => retP t
/-- The caller's knowledge with the objects that came back. -/
def joined (c c' : Cx) (im : Nat → Nat → Option Value) : Cx where
  im := im
  bk := fun i => if i < c.n then c.bk i else c'.bk (i - c.n)
  n := c.n + c'.n
  len := fun i => if i < c.n then c.len i else c'.len (i - c.n)
  sz := fun i => if i < c.n then c.sz i else c'.sz (i - c.n)
  bs := fun i => if i < c.n then c.bs i else c'.bs (i - c.n)
def base (im : Nat → Nat → Option Value) : Cx := { im := im, bk := fun _ => 0, n := 0, len := fun _ => 0, sz := fun _ => 0, bs := fun _ => 0 }

theorem shift1_ok {c' : Cx} {im : Nat → Nat → Option Value} {t : T} {v : Value} (h : VR c' t v) (hr : ret1 t = true) (hi : IR c'.im t v → IR im t v) : VR (joined c c' im) (shift1 c.n t) v := by
  cases h with
  | im h =>
    have : shift1 c.n t = t := by cases h <;> first | rfl | (simp [ret1, closed1] at hr)
    rw [this]
    exact .im (hi h)
  | @ref i k row off h1 h2 =>
    have e1 : ¬ (i + c.n < c.n) := by omega
    have e2 : i + c.n - c.n = i := by omega
    have := VR.ref (c := joined c c' im) (i := i + c.n) (k := k) (row := row) (off := off) (by simp only [joined]; omega) (by simp only [joined, e1, if_false, e2]; exact h2)
    simpa only [shift1, joined, e1, if_false, e2] using this
  | refOld h1 h2 =>
    rename_i i k row off A
    have e1 : ¬ (i + c.n < c.n) := by omega
    have e2 : i + c.n - c.n = i := by omega
    exact VR.refOld (by simp only [joined]; omega) (by simp only [joined, e1, if_false, e2]; exact h2)
  | @os i k cap h1 h2 h3 h4 h5 =>
    have e1 : ¬ (i + c.n < c.n) := by omega
    have e2 : i + c.n - c.n = i := by omega
    have := VR.os (c := joined c c' im) (i := i + c.n) (k := k) (cap := cap) (by simp only [joined]; omega) (by simp only [joined, e1, if_false, e2]; exact h2) h3 h4 (by simp only [joined, e1, if_false, e2]; exact h5)
    simpa only [shift1, joined, e1, if_false, e2] using this
  | osOld h1 h2 =>
    rename_i i k n cap A
    have e1 : ¬ (i + c.n < c.n) := by omega
    have e2 : i + c.n - c.n = i := by omega
    exact VR.osOld (by simp only [joined]; omega) (by simp only [joined, e1, if_false, e2]; exact h2)
  | agg => simp [ret1, closed1] at hr
  | tup => simp [ret1, closed1] at hr
  | fn => simp [ret1, closed1] at hr
/-- a leaf of what came back -/
def leafOf : T → T → Prop
  | .agg cs, t => t ∈ cs
  | x, t => t = x
theorem shiftV_ok {c' : Cx} {im : Nat → Nat → Option Value} {x : T} {v : Value} (h : VR c' x v) (hr : retP x = true) (hi : ∀ t, leafOf x t → ∀ u, IR c'.im t u → IR im t u) : VR (joined c c' im) (shiftV c.n x) v := by
  by_cases ha : ∃ cs, x = .agg cs
  · obtain ⟨cs, rfl⟩ := ha
    obtain ⟨vs, rfl, h1, h2⟩ := vr_agg h
    refine .agg (by simpa using h1) fun j t hj => ?_
    rw [List.getElem?_map, Option.map_eq_some_iff] at hj
    obtain ⟨y, hy, rfl⟩ := hj
    exact shift1_ok (h2 j y hy) (List.all_eq_true.1 hr y (List.mem_of_getElem? hy)) (hi y (List.mem_of_getElem? hy) _)
  · have e1 : shiftV c.n x = shift1 c.n x := by
      cases x <;> first | rfl | exact absurd ⟨_, rfl⟩ ha
    have e2 : retP x = ret1 x := by
      cases x <;> first | rfl | exact absurd ⟨_, rfl⟩ ha
    have e3 : leafOf x x := by
      cases x <;> first | rfl | exact absurd ⟨_, rfl⟩ ha
    rw [e1]
    rw [e2] at hr
    exact shift1_ok h hr (hi x e3 _)
def leafOfR : T → T → Prop
  | .tup vs, t => ∃ x, x ∈ vs ∧ leafOf x t
  | x, t => leafOf x t
theorem shift_ok {c' : Cx} {im : Nat → Nat → Option Value} {x : T} {v : Value} (h : VR c' x v) (hr : retV x = true) (hi : ∀ t, leafOfR x t → ∀ u, IR c'.im t u → IR im t u) : VR (joined c c' im) (shift c.n x) v := by
  by_cases ha : ∃ cs, x = .tup cs
  · obtain ⟨cs, rfl⟩ := ha
    cases h with
    | im h => cases h
    | tup h1 h2 =>
    refine .tup (by simpa using h1) fun j t hj => ?_
    rw [List.getElem?_map, Option.map_eq_some_iff] at hj
    obtain ⟨y, hy, rfl⟩ := hj
    exact shiftV_ok (h2 j y hy) (List.all_eq_true.1 hr y (List.mem_of_getElem? hy)) (fun t ht => hi t ⟨y, List.mem_of_getElem? hy, ht⟩)
  · have e1 : shift c.n x = shiftV c.n x := by
      cases x <;> first | rfl | exact absurd ⟨_, rfl⟩ ha
    have e2 : retV x = retP x := by
      cases x <;> first | rfl | exact absurd ⟨_, rfl⟩ ha
    have e3 : ∀ t, leafOf x t → leafOfR x t := by
      intro t ht
      cases x <;> first | exact ht | exact absurd ⟨_, rfl⟩ ha
    rw [e1]
    rw [e2] at hr
    exact shiftV_ok h hr (fun t ht => hi t (e3 t ht))

theorem join_ok (hI : Inv c w S) {c' : Cx} {w' : World} {objs S1 : List Ob} {r : T} {v : Value} {im : Nat → Nat → Option Value} (hL : Le (base (imOwn c w S)) c' w.heap.size) (hK : Keep (base (imOwn c w S)) w w') (hI' : Inv c' w' objs)
    (hv : VR c' r v) (hr : retV r = true) (hcl : ∀ O, O ∈ objs → O.cl = true)
    (hA : ∀ b o v, c.im b o = some v → im b o = some v) (hB : ∀ b o v, im b o = some v → c'.im b o = some v) (hS : S1.length = S.length)
    (hD : ∀ i O, S1[i]? = some O → ∃ O0, S[i]? = some O0 ∧ O.rows = O0.rows ∧ O.sz = O0.sz ∧ O.e = O0.e ∧ O.cl = O0.cl ∧ ∀ o v, im (c.bk i) o = some v → O.froz = true ∧ o < O.rows.length * O.sz)
    (hG : ∀ O, O ∈ objs → ∀ row, row ∈ O.rows → ∀ t, t ∈ row → ∀ u, IR c'.im t u → IR im t u) (hH : ∀ t, leafOfR r t → ∀ u, IR c'.im t u → IR im t u) :
    ∃ c'', Le c c'' w.heap.size ∧ Keep c w w' ∧ Inv c'' w' (S1 ++ objs) ∧ VR c'' (shift S.length r) v := by
  have hn := hI.n
  have hn' := hI'.n
  have new : ∀ j, j < c'.n → w.heap.size ≤ c'.bk j := fun j hj => by
    rcases hL.own j hj with h | ⟨i, hi, _⟩
    · exact h
    · simp [base] at hi
  have old : ∀ b, b < w.heap.size → w'.heap[b]? = w.heap[b]? := fun b hb => hK.block b hb (fun i hi => by simp [base] at hi)
  have lt : ∀ i, i < c.n → c.bk i < w.heap.size := fun i hi => by
    have hlt : i < S.length := by omega
    exact (hI.ob i S[i] (List.getElem?_eq_getElem hlt)).lt
  have hLe : Le c (joined c c' im) w.heap.size := by
    refine ⟨hA, by simp only [joined]; omega, fun i hi => by simp only [joined, if_pos hi]; exact Nat.le_refl _, fun i hi => by simp only [joined, if_pos hi], fun i hi _ => by simp only [joined, if_pos hi, and_self], fun b o v h1 h2 => ?_, fun i hi => ?_⟩
    · have h3 := hB b o v h1
      cases h4 : imOwn c w S b o with
      | none =>
        rcases hL.fresh b o v h3 h4 with h | ⟨i, hi, _⟩
        · exact .inl h
        · simp [base] at hi
      | some u =>
        unfold imOwn at h4
        rw [h2] at h4
        simp only [Option.isSome_none, Bool.false_eq_true, if_false] at h4
        split at h4
        · rename_i hex
          obtain ⟨i, O, e1, e2, _⟩ := hex
          exact .inr ⟨i, by rw [hn]; exact (List.getElem?_eq_some_iff.1 e1).1, e2⟩
        · cases h4
    · simp only [joined]
      by_cases h : i < c.n
      · exact .inr ⟨i, h, by rw [if_pos h]⟩
      · rw [if_neg h]
        exact .inl (new _ (by simp only [joined] at hi; omega))
  refine ⟨joined c c' im, hLe, ⟨hK.os, hK.tape, hK.output, hK.size, fun b hb _ => old b hb⟩, ?_, by rw [← hn]; exact shift_ok hv hr hH⟩
  refine ⟨by simp only [joined, List.length_append]; omega, fun b o v hv => hI'.im _ _ _ (hB _ _ _ hv), fun i O hO => ?_, fun i j hi hj he => ?_, fun i O o v hO hv => ?_⟩
  · rcases Nat.lt_or_ge i S1.length with h | h
    · rw [List.getElem?_append_left h] at hO
      obtain ⟨O0, h0, e1, e2, e3, e4, e5⟩ := hD i O hO
      have k := hI.ob i O0 h0
      have hi : i < c.n := by omega
      obtain ⟨cs, b1, b2, b3, b4⟩ := k.blk
      refine ⟨by simp only [joined, if_pos hi]; rw [e1]; exact k.len, by simp only [joined, if_pos hi]; rw [e2]; exact k.sz, by rw [e1, e2]; exact k.row, by simp only [joined, if_pos hi]; exact Nat.lt_of_lt_of_le k.lt hK.size,
        ⟨cs, by simp only [joined, if_pos hi]; rw [old _ k.lt, e3]; exact b1, by simp only [joined, if_pos hi]; exact b2, by rw [e1, e2]; exact b3, fun q row j t a b => ?_⟩⟩
      rw [e1] at a
      obtain ⟨u, u1, u2, u3, u4⟩ := b4 q row j t a b
      exact ⟨u, by rw [e2]; exact u1, u2.mono hLe, u3, fun hc => (u4 (by rw [← e4]; exact hc)).mono hA⟩
    · rw [List.getElem?_append_right h] at hO
      have k := hI'.ob _ O hO
      have hi : ¬ i < c.n := by omega
      have ei : i - c.n = i - S1.length := by omega
      obtain ⟨cs, b1, b2, b3, b4⟩ := k.blk
      refine ⟨by simp only [joined, if_neg hi, ei]; exact k.len, by simp only [joined, if_neg hi, ei]; exact k.sz, k.row, by simp only [joined, if_neg hi, ei]; exact k.lt,
        ⟨cs, by simp only [joined, if_neg hi, ei]; exact b1, by simp only [joined, if_neg hi, ei]; exact b2, b3, fun q row j t a b => ?_⟩⟩
      obtain ⟨u, u1, u2, u3, u4⟩ := b4 q row j t a b
      have hm := List.mem_of_getElem? hO
      have h5 := hG O hm row (List.mem_of_getElem? a) t (List.mem_of_getElem? b) u (u4 (hcl O hm))
      exact ⟨u, u1, .im h5, u3, fun _ => h5⟩
  · simp only [joined] at hi hj he
    by_cases h1 : i < c.n <;> by_cases h2 : j < c.n
    · rw [if_pos h1, if_pos h2] at he
      exact hI.inj i j h1 h2 he
    · rw [if_pos h1, if_neg h2] at he
      have := lt i h1
      have := new (j - c.n) (by omega)
      omega
    · rw [if_neg h1, if_pos h2] at he
      have := lt j h2
      have := new (i - c.n) (by omega)
      omega
    · rw [if_neg h1, if_neg h2] at he
      have := hI'.inj _ _ (by omega) (by omega) he
      omega
  · rcases Nat.lt_or_ge i S1.length with h | h
    · rw [List.getElem?_append_left h] at hO
      obtain ⟨O0, h0, e1, e2, e3, e4, e5⟩ := hD i O hO
      have hi : i < c.n := by omega
      simp only [joined, if_pos hi] at hv
      exact e5 o v hv
    · rw [List.getElem?_append_right h] at hO
      have hi : ¬ i < c.n := by omega
      have ei : i - c.n = i - S1.length := by omega
      simp only [joined, if_neg hi, ei] at hv
      exact hI'.frz _ O o v hO (hB _ _ _ hv)

/-! #### a call by what is known of the callee -/
def Args (c : Cx) (args : List T) (argv : Array Value) : Prop := args.length = argv.size ∧ ∀ j t, args[j]? = some t → VR c t (argv.getD j undef)
def PCall (P : Program) (f : Nat) (args : List T) (r : T × List Ob) : Prop :=
  retV r.1 = true ∧ (∀ O, O ∈ r.2 → O.cl = true) ∧ ∀ (im : Nat → Nat → Option Value) (w : World) (argv : Array Value), (∀ b o v, im b o = some v → w.cell? ⟨b, o, none⟩ = some v) →
    args.length = argv.size → (∀ j t, args[j]? = some t → IR im t (argv.getD j undef)) →
    Calls P f argv w fun e w' => ∃ c' v, e = .returned v ∧ Le (base im) c' w.heap.size ∧ Keep (base im) w w' ∧ Inv c' w' r.2 ∧ VR c' r.1 v
def ICall (P : Program) (f : Nat) (args : List T) (S : List Ob) (r : T × List Ob) : Prop :=
  ∀ (c : Cx) (w : World) (argv : Array Value), Inv c w S → Args c args argv →
    Calls P f argv w fun e w' => ∃ c' v, e = .returned v ∧ Le c c' w.heap.size ∧ Keep c w w' ∧ Inv c' w' r.2 ∧ VR c' r.1 v
def Enter (P : Program) (f : Nat) : Prop := ∃ fn, P.funcs[f]? = some fn ∧ (fn.name == "runtime.NumGoroutine") = false ∧ fn.body.isNone = false
structure OraOk (P : Program) (ora : Ora) : Prop where
  p : ∀ f args r, ora.p f args = some r → Enter P f ∧ PCall P f args r
  i : ∀ f args S r, ora.i f args S = some r → Enter P f ∧ ICall P f args S r
theorem enter_run {P : Program} {f : Nat} (h : Enter P f) (argv : Array Value) (w : World) : (callFunc f argv).run P w = .ok (.enter f argv) w := by
  obtain ⟨fn, h1, h2, h3⟩ := h
  simp only [callFunc, program, Sem.run_bind, Sem.run, Result.andThen_ok, h1, h2, h3]
  rfl

/-- What an operation comes to, in the run of the code. -/
def RunsW (P : Program) (c : Cx) (w : World) (o : Oper) (a : Act) (t : T) (S' : List Ob) : Prop :=
  ∀ (K : Act → World → Prop) (Q : Exit → Act → World → Prop), (∀ c' w' v, Le c c' w.heap.size → Keep c w w' → Inv c' w' S' → VR c' t v → K (a.put o.dst v) w') → o.wp P a w K Q
theorem Runs.wp' {P : Program} {o : Oper} {a : Act} {t : T} {S' : List Ob} (h : Runs P c w (execOp a.eval o) t S') : RunsW P c w o a t S' := by
  intro K Q hK
  obtain ⟨c', w', v, hr, h1, h2, h3, h4⟩ := h
  unfold Oper.wp
  rcases hr with hr | ⟨hr, rfl⟩
  · rw [hr]; exact hK c' w' v h1 h2 h3 h4
  · rw [hr]; exact hK c' w' _ h1 h2 h3 h4

theorem free_leafV {x t : T} (h : (match x with | .agg cs => cs.all free1 | t => free1 t) = true) (hx : leafOf x t) : free1 t = true := by
  cases x <;> first | (have hx' : t = _ := hx; subst hx'; exact h) | exact List.all_eq_true.1 h t hx
theorem free_leaf {x t : T} (h : freeT x = true) (hx : leafOfR x t) : free1 t = true := by
  cases x with
  | tup vs =>
    obtain ⟨y, hy, hyt⟩ := hx
    exact free_leafV (List.all_eq_true.1 h y hy) hyt
  | agg cs => exact List.all_eq_true.1 h t hx
  | _ => have hx' : t = _ := hx; subst hx'; exact h
theorem free_ir {t : T} {u : Value} {im im' : Nat → Nat → Option Value} (hft : free1 t = true) (hir : IR im t u) : IR im' t u := by
  cases hir with
  | val h => exact .val h
  | nil => exact .nil
  | _ => simp [free1] at hft
theorem scal_free {t : T} (h : scal1 t = true) : free1 t = true := by
  cases t <;> first | rfl | (simp [scal1] at h)
theorem scal_leafV {x t : T} (h : (match x with | .agg cs => cs.all scal1 | t => scal1 t) = true) (hx : leafOf x t) : free1 t = true := by
  cases x <;> first | (have hx' : t = _ := hx; subst hx'; exact scal_free h) | exact scal_free (List.all_eq_true.1 h t hx)
theorem scal_leaf {x t : T} (h : scalT x = true) (hx : leafOfR x t) : free1 t = true := by
  cases x with
  | tup vs =>
    obtain ⟨y, hy, hyt⟩ := hx
    exact scal_leafV (List.all_eq_true.1 h y hy) hyt
  | agg cs => exact scal_free (List.all_eq_true.1 h t hx)
  | _ => have hx' : t = _ := hx; subst hx'; exact scal_free h
theorem scal_shift1 {n : Nat} {t : T} (h : scal1 t = true) : shift1 n t = t := by cases t <;> first | rfl | (simp [scal1] at h)
theorem map_id_of {α : Type} {f : α → α} : ∀ {l : List α}, (∀ x, x ∈ l → f x = x) → l.map f = l
  | [], _ => rfl
  | a :: l, h => by rw [List.map_cons, h a List.mem_cons_self, map_id_of fun x hx => h x (List.mem_cons_of_mem _ hx)]
theorem scal_shiftV {n : Nat} {x : T} (h : (match x with | .agg cs => cs.all scal1 | t => scal1 t) = true) : shiftV n x = x := by
  cases x with
  | agg cs => simp only [shiftV]; rw [map_id_of fun t ht => scal_shift1 (List.all_eq_true.1 h t ht)]
  | tup _ => cases h
  | os _ _ => cases h
  | ref _ _ _ _ => cases h
  | _ => rfl
theorem scal_shift {n : Nat} {x : T} (h : scalT x = true) : shift n x = x := by
  cases x with
  | tup vs => simp only [shift]; rw [map_id_of fun t ht => scal_shiftV (List.all_eq_true.1 h t ht)]
  | agg cs => exact scal_shiftV (x := .agg cs) h
  | os _ _ => cases h
  | ref _ _ _ _ => cases h
  | _ => rfl
theorem callA_ok (hI : Inv c w S) {ora : Ora} (hora : OraOk E.P ora) {F : Fr} {a : Act} (hF : FR c F a) {o : Oper} {f : Operand} {args : Array Operand} {ats : Array TypeId} (ho : o.op = .call { callee := .value f, args := args, argTypes := ats })
    {t : T} {S' : List Ob} (h : callA E ora (ev F f) (args.toList.map (ev F)) S = some (t, S')) : RunsW E.P c w o a t S' := by
  intro K Q hK
  unfold callA at h
  have hf := ev_ok hF f
  split at h
  · rename_i g caps hg
    rw [hg] at hf
    obtain ⟨vs, hv, hl, hcap⟩ : ∃ vs : Array Value, a.eval f = .func (.func g) #[] vs ∧ caps.length = vs.size ∧ ∀ j t, caps[j]? = some t → VR c t (vs.getD j undef) := by
      generalize a.eval f = v at hf
      cases hf with
      | im h => cases h with | fn hl hv => exact ⟨_, rfl, hl, fun j t hj => .im (hv j t hj)⟩
      | fn hl hv => exact ⟨_, rfl, hl, hv⟩
    have hargs : Args c (args.toList.map (ev F) ++ caps) (args.map a.eval ++ vs) := by
      refine ⟨by simp [hl], fun j t hj => ?_⟩
      rcases Nat.lt_or_ge j args.size with h1 | h1
      · rw [List.getElem?_append_left (by simpa using h1), List.getElem?_map, Option.map_eq_some_iff] at hj
        obtain ⟨x, hx, rfl⟩ := hj
        rw [Array.getElem?_toList] at hx
        rw [Array.getD_eq_getD_getElem?, Array.getElem?_append_left (by simpa using h1), Array.getElem?_map, hx]
        exact ev_ok hF x
      · rw [List.getElem?_append_right (by simpa using h1)] at hj
        have := hcap _ _ hj
        rw [Array.getD_eq_getD_getElem?, Array.getElem?_append_right (by simpa using h1)]
        rw [Array.getD_eq_getD_getElem?] at this
        simpa using this
    have hrun : ∀ (he : Enter E.P g), (execOp a.eval o).run E.P w = .ok (.enter g (args.map a.eval ++ vs)) w := fun he => by
      have h1 : execOp a.eval o = (do let d ← resolve a.eval { callee := .value f, args := args, argTypes := ats } o.type; invoke d.target d.args) := by
        unfold execOp; rw [ho]
      rw [h1]
      simp only [resolve, hv, Deferred.ofValue, Sem.run_bind, Sem.run_pure, Result.andThen_ok, invoke, Array.empty_append]
      exact enter_run he _ _
    have go : ∀ (he : Enter E.P g) {R : Ending → World → Prop}, Calls E.P g (args.map a.eval ++ vs) w R → (∀ e w', R e w' → ∃ c' v, e = .returned v ∧ Le c c' w.heap.size ∧ Keep c w w' ∧ Inv c' w' S' ∧ VR c' t v) → o.wp E.P a w K Q := by
      intro he R hc hR
      unfold Oper.wp
      rw [hrun he]
      refine hc.mono fun e w' hr => ?_
      obtain ⟨c', v, rfl, h1, h2, h3, h4⟩ := hR e w' hr
      exact hK c' w' v h1 h2 h3 h4
    split at h
    · obtain ⟨he, hc⟩ := hora.i _ _ _ _ h
      exact go he (hc c w _ hI hargs) (fun e w' h => h)
    · rw [Option.bind_eq_some_iff] at h
      obtain ⟨r, hr, h⟩ := h
      obtain ⟨he, hret, hcl, hc⟩ := hora.p _ _ _ hr
      have hx := hc (imOwn c w S) w (args.map a.eval ++ vs) (fun b o v => imOwn_cell hI) (by rw [List.length_map]; exact hargs.1) (fun j t hj => by
        rw [List.getElem?_map, Option.map_eq_some_iff] at hj
        obtain ⟨x, hx, rfl⟩ := hj
        exact expo_ok hI 4 (hargs.2 j x hx))
      refine go he hx fun e w' hq => ?_
      obtain ⟨c', v, rfl, q1, q2, q3, q4⟩ := hq
      split at h
      · split at h
        · rename_i hsc
          injection h with h
          injection h with h1 h2
          simp only [Bool.and_eq_true, List.isEmpty_iff] at hsc
          obtain ⟨hn0, hsc⟩ := hsc
          obtain ⟨c'', l1, l2, l3, l4⟩ := join_ok (S1 := S) (im := c.im) hI q1 q2 q3 q4 hret hcl (fun _ _ _ h => h) (fun b o v h => q1.im _ _ _ (imOwn_im h)) rfl
            (fun i O hO => ⟨O, hO, rfl, rfl, rfl, rfl, fun o v hv => hI.frz i O o v hO hv⟩)
            (fun O hO => by rw [hn0] at hO; cases hO)
            (fun t ht u => free_ir (scal_leaf hsc ht))
          rw [hn0, List.append_nil] at l3
          rw [scal_shift hsc] at l4
          rw [← h1, ← h2]
          exact ⟨c'', v, rfl, l1, l2, l3, l4⟩
        · cases h
      injection h with h
      injection h with h1 h2
      by_cases hfree : (freeT r.1 && r.2.all freeOb) = true
      · rw [if_pos hfree] at h2
        simp only [Bool.and_eq_true] at hfree
        obtain ⟨c'', l1, l2, l3, l4⟩ := join_ok (S1 := S) (im := c.im) hI q1 q2 q3 q4 hret hcl (fun _ _ _ h => h) (fun b o v h => q1.im _ _ _ (imOwn_im h)) rfl
          (fun i O hO => ⟨O, hO, rfl, rfl, rfl, rfl, fun o v hv => hI.frz i O o v hO hv⟩)
          (fun O hO row hrow t ht u => free_ir (by
            have := List.all_eq_true.1 hfree.2 O hO
            unfold freeOb at this
            exact List.all_eq_true.1 (List.all_eq_true.1 this row hrow) t ht))
          (fun t ht u => free_ir (free_leaf hfree.1 ht))
        rw [← h1, ← h2]
        exact ⟨c'', v, rfl, l1, l2, l3, l4⟩
      · rw [if_neg hfree] at h2
        obtain ⟨c'', l1, l2, l3, l4⟩ := join_ok (S1 := S.map fun O => { O with froz := true }) (im := c'.im) hI q1 q2 q3 q4 hret hcl (fun b o v h => q1.im _ _ _ (imOwn_im h)) (fun _ _ _ h => h) (by simp)
          (fun i O hO => by
            rw [List.getElem?_map, Option.map_eq_some_iff] at hO
            obtain ⟨O0, h0, rfl⟩ := hO
            refine ⟨O0, h0, rfl, rfl, rfl, rfl, fun o v hv => ⟨rfl, ?_⟩⟩
            have k := hI.ob i O0 h0
            have hi : i < c.n := by have := hI.n; have := (List.getElem?_eq_some_iff.1 h0).1; omega
            cases h4 : imOwn c w S (c.bk i) o with
            | none =>
              rcases q1.fresh _ _ _ hv h4 with h | ⟨j, hj, _⟩
              · have := k.lt; omega
              · simp [base] at hj
            | some u =>
              unfold imOwn at h4
              split at h4
              · exact (hI.frz i O0 o u h0 h4).2
              · split at h4
                · rename_i hex
                  obtain ⟨j, O2, e1, e2, e3⟩ := hex
                  have hj : j < c.n := by have := hI.n; have := (List.getElem?_eq_some_iff.1 e1).1; omega
                  have := hI.inj j i hj hi e2
                  subst this
                  rw [h0] at e1
                  injection e1 with e1
                  subst e1
                  exact e3
                · cases h4)
          (fun _ _ _ _ _ _ _ h => h) (fun _ _ _ h => h)
        rw [← h1, ← h2]
        exact ⟨c'', v, rfl, l1, l2, l3, l4⟩
  · cases h
end
end Go.Proofs.Ytbehhhlidaiblaa.Ai
