/- Regions: in the order of the text, and in every other. -/
import Derived.Test.YtbehhhlidaiblaaAi7
import Derived.Tactics
namespace Go.Proofs.Ytbehhhlidaiblaa.Ai
open Go Go.RowKit
section
variable {E : Env} {c : Cx} {w : World} {S : List Ob} {ora : Ora}

theorem opX_ok (hE : EnvOk E) (hora : OraOk E.P ora) (hI : Inv c w S) {F : Fr} {a : Act} (hF : FR c F a) {o : Oper} {t : T} {S' : List Ob} (h : opX E ora o.op F S = some (t, S')) : RunsW E.P c w o a t S' := by
  unfold opX at h
  split at h
  · rename_i cl hop
    split at h
    · rename_i f hf
      obtain ⟨callee, args, ats⟩ := cl
      simp only at hf
      subst hf
      exact callA_ok hI hora hF hop h
    · exact (opA_ok hE hI hF h).wp'
  · exact (opA_ok hE hI hF h).wp'
theorem dstAt_eq : ∀ (l : List Oper) (j : Nat), dstAt l j = (l[j]?).bind (·.dst)
  | [], _ => by simp [dstAt]
  | o :: r, 0 => by simp [dstAt]
  | o :: r, j + 1 => by simp [dstAt, dstAt_eq r j]
theorem want_ok {F : Fr} {a : Act} (hF : FR c F a) {ops : Array Oper} {o : Oper} {b : Bool} (h : wantA ops.toList o.guard F = some b) : Region.wanted o (yielded ops a.tmps) = b := by
  unfold wantA at h
  unfold Region.wanted
  cases hg : o.guard with
  | none => rw [hg] at h; injection h with h
  | some p =>
    obtain ⟨j, want⟩ := p
    rw [hg] at h
    simp only at h ⊢
    unfold yielded
    rw [dstAt_eq, Array.getElem?_toList] at h
    cases hd : (ops[j]?).bind (·.dst) with
    | none => rw [hd] at h; cases h
    | some d =>
      rw [hd] at h
      simp only [wantD] at h
      simp only [Option.bind_some]
      have hv := hF d
      generalize look F d = t at h hv
      unfold wantT at h
      split at h
      · rename_i b0
        obtain ⟨hv, _⟩ := vr_val hv
        injection h with h
        subst h
        rw [Array.getD_eq_getD_getElem?] at hv
        cases ht : a.tmps[d]? with
        | none => rw [ht] at hv; cases hv
        | some v =>
          rw [ht] at hv
          simp only [Option.getD_some] at hv
          subst hv
          cases want <;> cases b0 <;> rfl
      · injection h with h
        subst h
        rw [Array.getD_eq_getD_getElem?] at hv
        cases ht : a.tmps[d]? with
        | none => rfl
        | some v =>
          rw [ht] at hv
          simp only [Option.getD_some] at hv
          cases hv with
          | im hv => cases hv
          | tup hl hv => rfl
      · cases h

def stepA (E : Env) (ora : Ora) (ops : List Oper) (o : Oper) (p : Fr × List Ob) : Option (Fr × List Ob) :=
  (wantA ops o.guard p.1).bind fun b => if b = true then (opX E ora o.op p.1 p.2).map fun r => (putA p.1 o.dst r.1, r.2) else some (putA p.1 o.dst (.tup []), p.2)
theorem region_step {R : Type} (ops : List Oper) (o : Oper) (rest : List Oper) (F : Fr) (S : List Ob) (k : Fr → List Ob → Option R) :
    regionK E ora ops (o :: rest) F S k = (stepA E ora ops o (F, S)).bind fun p => regionK E ora ops rest p.1 p.2 k := by
  simp only [regionK, stepA]
  cases wantA ops o.guard F with
  | none => rfl
  | some b =>
    simp only [regG, Option.bind_some]
    cases b with
    | true =>
      simp only [if_true]
      cases opX E ora o.op F S <;> rfl
    | false => rfl
theorem trace_of {R : Type} (ops : List Oper) : ∀ (l : List Oper) (F : Fr) (S : List Ob) (k : Fr → List Ob → Option R) (r : R), regionK E ora ops l F S k = some r →
    ∃ tr : Nat → Fr × List Ob, tr 0 = (F, S) ∧ (∀ i o, l[i]? = some o → stepA E ora ops o (tr i) = some (tr (i + 1))) ∧ k (tr l.length).1 (tr l.length).2 = some r
  | [], F, S, k, r, h => ⟨fun _ => (F, S), rfl, fun i o ho => by simp at ho, h⟩
  | o :: l, F, S, k, r, h => by
    rw [region_step, Option.bind_eq_some_iff] at h
    obtain ⟨p, hp, h⟩ := h
    obtain ⟨tr, h1, h2, h3⟩ := trace_of ops l p.1 p.2 k r h
    refine ⟨fun i => match i with | 0 => (F, S) | i + 1 => tr i, rfl, fun i o' ho => ?_, h3⟩
    cases i with
    | zero =>
      simp only [List.getElem?_cons_zero, Option.some.injEq] at ho
      subst ho
      simp only [h1]
      exact hp
    | succ i =>
      simp only [List.getElem?_cons_succ] at ho
      exact h2 i o' ho

/-- One operation of a region, at a frame and objects at which it comes to what is told. -/
theorem op_step (hE : EnvOk E) (hora : OraOk E.P ora) (hI : Inv c w S) {F : Fr} {a : Act} (hF : FR c F a) {ops : Array Oper} {o : Oper} {F' : Fr} {S' : List Ob} (h : stepA E ora ops.toList o (F, S) = some (F', S'))
    (hd : ∀ d, o.dst = some d → d < a.tmps.size) {K : Act → World → Prop} {Q : Exit → Act → World → Prop}
    (hK : ∀ c' w' a', Le c c' w.heap.size → Keep c w w' → Inv c' w' S' → FR c' F' a' → a'.tmps.size = a.tmps.size → a'.defers = a.defers → K a' w') :
    if Region.wanted o (yielded ops a.tmps) then o.wp E.P a w K Q ∨ (o.asks E.P a w ∧ LetsOut Q) else K (a.put o.dst undef) w := by
  have psize : ∀ v, (a.put o.dst v).tmps.size = a.tmps.size := fun v => by unfold Act.put; split <;> simp
  have pdef : ∀ v, (a.put o.dst v).defers = a.defers := fun v => by unfold Act.put; split <;> rfl
  unfold stepA at h
  rw [Option.bind_eq_some_iff] at h
  obtain ⟨b, hb, h⟩ := h
  rw [want_ok hF hb]
  cases b with
  | true =>
    simp only [if_true] at h ⊢
    rw [Option.map_eq_some_iff] at h
    obtain ⟨r, hr, h⟩ := h
    injection h with h1 h2
    subst h1 h2
    refine .inl (opX_ok hE hora hI hF (t := r.1) (S' := r.2) hr K Q fun c' w' v l1 l2 l3 l4 => ?_)
    exact hK c' w' _ l1 l2 l3 ((hF.mono l1).put l4 _ hd) (psize v) (pdef v)
  | false =>
    simp only [Bool.false_eq_true, if_false] at h ⊢
    injection h with h
    injection h with h1 h2
    subst h1 h2
    exact hK c w _ (Le.refl _ _) (Keep.refl _ _) hI (hF.put .undef _ hd) (psize _) (pdef _)
theorem region_list {R : Type} (hE : EnvOk E) (hora : OraOk E.P ora) {ops : Array Oper} {Q : Exit → Act → World → Prop} {r : R} {k : Fr → List Ob → Option R} : ∀ (l : List Oper) (c : Cx) (w : World) (S : List Ob) (F : Fr) (a : Act),
    Inv c w S → FR c F a → (∀ o, o ∈ l → ∀ d, o.dst = some d → d < a.tmps.size) → regionK E ora ops.toList l F S k = some r →
    (∀ F' S' c' w' a', k F' S' = some r → Le c c' w.heap.size → Keep c w w' → Inv c' w' S' → FR c' F' a' → a'.tmps.size = a.tmps.size → a'.defers = a.defers → Q .normal a' w') → wpList E.P ops Q l a w
  | [], c, w, S, F, a, hI, hF, _, h, hQ => hQ F S c w a h (Le.refl _ _) (Keep.refl _ _) hI hF rfl rfl
  | o :: l, c, w, S, F, a, hI, hF, hd, h, hQ => by
    rw [region_step, Option.bind_eq_some_iff] at h
    obtain ⟨p, hp, h⟩ := h
    unfold wpList
    refine op_step hE hora hI hF (F' := p.1) (S' := p.2) hp (hd o List.mem_cons_self) fun c' w' a' l1 l2 l3 l4 l5 l6 => ?_
    refine region_list hE hora l c' w' p.2 p.1 a' l3 l4 (fun o' ho' d hd' => by rw [l5]; exact hd o' (List.mem_cons_of_mem _ ho') d hd') h fun F' S' c2 w2 a2 hk m1 m2 m3 m4 m5 m6 => ?_
    exact hQ F' S' c2 w2 a2 hk (l1.trans m1 l2.size) (l2.trans m2 l1) m3 m4 (m5.trans l5) (m6.trans l6)
end
end Go.Proofs.Ytbehhhlidaiblaa.Ai
