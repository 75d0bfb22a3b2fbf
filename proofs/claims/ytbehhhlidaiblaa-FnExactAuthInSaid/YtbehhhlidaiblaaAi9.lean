/- Regions whose order is drawn: what is looked at, what orders are left. -/
import Derived.Test.YtbehhhlidaiblaaAi8
import Derived.KernelRfl
namespace Go.Proofs.Ytbehhhlidaiblaa.Ai
open Go Go.RowKit

/-! #### the operation looks at its operands and at nothing else -/
def sameOn (xs : List Operand) (F F' : Fr) : Prop := ∀ x, x ∈ xs → ev F x = ev F' x
theorem fillRow_congr {F F' : Fr} {pl : Nat → Option (Nat × Nat)} : ∀ (parts : List (Nat × Operand)) (cs : List T), (∀ p, p ∈ parts → ev F p.2 = ev F' p.2) → fillRow pl F cs parts = fillRow pl F' cs parts
  | [], cs, _ => rfl
  | (i, x) :: rest, cs, h => by
    have hx : ev F x = ev F' x := h _ List.mem_cons_self
    simp only [fillRow, hx]
    cases pl i with
    | none => rfl
    | some p => simp only [fillRow_congr rest _ fun p hp => h p (List.mem_cons_of_mem _ hp)]
theorem fillRows_congr {F F' : Fr} {size : Nat} : ∀ (parts : List (Nat × Operand)) (rows : List (List T)), (∀ p, p ∈ parts → ev F p.2 = ev F' p.2) → fillRows size F rows parts = fillRows size F' rows parts
  | [], cs, _ => rfl
  | (i, x) :: rest, cs, h => by
    have hx : ev F x = ev F' x := h _ List.mem_cons_self
    simp only [fillRows, hx, fillRows_congr rest _ fun p hp => h p (List.mem_cons_of_mem _ hp)]
theorem map_ev_congr {F F' : Fr} {xs : List Operand} (h : ∀ x, x ∈ xs → ev F x = ev F' x) : xs.map (ev F) = xs.map (ev F') := List.map_congr_left h
theorem optmap_congr {F F' : Fr} {x : Option Operand} (h : ∀ y, x = some y → ev F y = ev F' y) : x.map (ev F) = x.map (ev F') := by
  cases x with
  | none => rfl
  | some y => simp [h y rfl]
theorem opA_congr {E : Env} {F F' : Fr} {S : List Ob} (o : Op) (h : ∀ x, x ∈ o.operands → ev F x = ev F' x) : opA E o F S = opA E o F' S := by
  cases o <;> simp only [Op.operands] at h <;> try rfl
  case build t ps =>
    have h' : ∀ p, p ∈ ps.toList → ev F p.2 = ev F' p.2 := fun p hp => h _ (by simp; exact ⟨p.1, by simpa using hp⟩)
    simp only [opA, fillRow_congr ps.toList _ h']
  case buildSlice t n ps =>
    have h' : ∀ p, p ∈ ps.toList → ev F p.2 = ev F' p.2 := fun p hp => h _ (by simp; exact ⟨p.1, by simpa using hp⟩)
    simp only [opA, fillRows_congr ps.toList _ h']
  case makeFunc f first caps =>
    have h' : caps.toList.map (ev F) = caps.toList.map (ev F') := map_ev_congr fun x hx => h x (by simp at hx ⊢; exact .inr hx)
    cases f <;> simp only [opA, h']
  case slice t x lo hi mx =>
    have h1 := h x (by simp)
    have h2 : lo.map (ev F) = lo.map (ev F') := optmap_congr fun y hy => h y (by simp [hy])
    have h3 : hi.map (ev F) = hi.map (ev F') := optmap_congr fun y hy => h y (by simp [hy])
    simp only [opA, h1, h2, h3]
  case call c =>
    have hx : ∀ x, x ∈ c.args.toList → ev F x = ev F' x := fun x hx => h x (by simp [Call.operands] at hx ⊢; exact .inr hx)
    cases hc : c.args.toList with
    | nil => simp only [opA, hc]
    | cons x r =>
      have e1 := hx x (by simp [hc])
      cases r with
      | nil =>
        simp only [opA, hc, e1]
        generalize c.argTypes.toList = l
        rcases l with _ | ⟨a, _ | ⟨b, l⟩⟩ <;> simp only [e1]
      | cons y r =>
        have e2 := hx y (by simp [hc])
        cases r with
        | nil =>
          simp only [opA, hc, e1, e2]
          generalize c.argTypes.toList = l
          rcases l with _ | ⟨a, _ | ⟨b, _ | ⟨b', l⟩⟩⟩ <;> simp only [e1, e2]
        | cons z r => simp only [opA, hc]
  all_goals (simp at h; simp only [opA, h])
theorem opX_congr {E : Env} {ora : Ora} {F F' : Fr} {S : List Ob} (o : Op) (h : ∀ x, x ∈ o.operands → ev F x = ev F' x) : opX E ora o F S = opX E ora o F' S := by
  unfold opX
  split
  · rename_i c
    split
    · rename_i f hf
      have hx : c.args.toList.map (ev F) = c.args.toList.map (ev F') := map_ev_congr fun x hx => h x (by simp [Op.operands, Call.operands] at hx ⊢; exact .inr hx)
      have hf' : ev F f = ev F' f := h f (by simp [Op.operands, Call.operands, hf])
      rw [hx, hf']
    · exact opA_congr _ h
  · exact opA_congr _ h

/-- What one operation of a region comes to. -/
def stepV (E : Env) (ora : Ora) (ops : List Oper) (o : Oper) (F : Fr) (S : List Ob) : Option (T × List Ob) :=
  (wantA ops o.guard F).bind fun b => if b = true then opX E ora o.op F S else some (.tup [], S)
theorem stepA_eq {E : Env} {ora : Ora} {ops : List Oper} {o : Oper} {F : Fr} {S : List Ob} : stepA E ora ops o (F, S) = (stepV E ora ops o F S).map fun r => (putA F o.dst r.1, r.2) := by
  unfold stepA stepV
  simp only
  cases wantA ops o.guard F with
  | none => rfl
  | some b => cases b <;> rfl
theorem stepV_congr {E : Env} {ora : Ora} {F F' : Fr} {S : List Ob} {ops : Array Oper} {o : Oper} (h : ∀ t, t ∈ o.looksAt ops → look F t = look F' t) : stepV E ora ops.toList o F S = stepV E ora ops.toList o F' S := by
  have h1 : opX E ora o.op F S = opX E ora o.op F' S := opX_congr _ fun x hx => by
    cases x with
    | tmp t => exact h t (List.mem_append_left _ (List.mem_filterMap.2 ⟨.tmp t, by simpa using hx, rfl⟩))
    | _ => rfl
  have h2 : wantA ops.toList o.guard F = wantA ops.toList o.guard F' := by
    unfold wantA
    cases hg : o.guard with
    | none => rfl
    | some p =>
      simp only
      rw [dstAt_eq, Array.getElem?_toList]
      cases hd : (ops[p.1]?).bind (·.dst) with
      | none => rfl
      | some d => simp only [wantD, h d (List.mem_append_right _ (by rw [hg]; simp [hd]))]
  unfold stepV
  rw [h1, h2]

/-! #### what it does to the objects: 0 nothing, and it does not look; 1 it looks; 2 it writes -/
def cls (E : Env) : Op → Nat
  | .move _ => 0
  | .assign _ => 0
  | .pick _ _ _ => 0
  | .build _ _ => 0
  | .unOp _ _ _ => 0
  | .convert _ _ _ => 0
  | .makeFunc _ _ _ => 0
  | .slice _ _ _ _ _ => 0
  | .field _ _ _ => 0
  | .index _ _ _ => 0
  | .extract _ _ => 0
  | .load _ _ => 1
  | .nilCheck _ => 1
  | .binOp _ _ _ _ _ => 1
  | .fieldAddr _ _ _ => 1
  | .indexAddr _ _ _ => 1
  | .call c => match c.callee with
    | .builtin .len => 1
    | .builtin .max => 1
    | .builtin .min => 1
    | .value (.func f) => if E.inl f = false ∧ E.pur f = true then 1 else 2
    | _ => 2
  | _ => 2
theorem opX_opA {E : Env} {ora : Ora} {o : Op} (hc : ∀ c, o ≠ .call c) {F : Fr} {S : List Ob} : opX E ora o F S = opA E o F S := by
  unfold opX
  split
  · exact absurd rfl (hc _)
  · rfl
theorem cls1_call {E : Env} {ora : Ora} {c : Call} (hc : cls E (.call c) ≤ 1) {F : Fr} {S S1 : List Ob} {t : T} (h : opX E ora (.call c) F S = some (t, S1)) : S1 = S := by
  obtain ⟨callee, args, ats⟩ := c
  cases callee with
  | value f =>
    cases f with
    | func f =>
      simp only [cls] at hc
      split at hc
      · rename_i hf
        simp only [opX, callA, ev, hf.1, Bool.false_eq_true, if_false, Option.bind_eq_some_iff] at h
        obtain ⟨r, _, h⟩ := h
        rw [if_pos hf.2] at h
        split at h
        · injection h with h; injection h with _ h; exact h.symm
        · cases h
      · omega
    | _ => simp only [cls] at hc; omega
  | invoke _ _ => simp only [cls] at hc; omega
  | builtin b =>
    cases b <;> simp only [cls] at hc <;> try omega
    all_goals
      simp only [opX, opA] at h
      (repeat' split at h) <;> simp only [Option.map_eq_some_iff, Prod.mk.injEq, reduceCtorEq] at h
      all_goals (obtain ⟨_, _, _, h⟩ := h; exact h.symm)
theorem cls1_opA {E : Env} {o : Op} (hc : cls E o ≤ 1) (ho : ∀ c, o ≠ .call c) {F : Fr} {S S1 : List Ob} {t : T} (h : opA E o F S = some (t, S1)) : S1 = S := by
  cases o <;> simp only [cls] at hc <;> (first | omega | exact absurd rfl (ho _) | skip)
  case makeFunc f a b =>
    cases f <;> simp only [opA] at h
    · split at h
      · injection h with h; injection h with _ h; exact h.symm
      · cases h
    all_goals cases h
  case slice t x lo hi mx =>
    simp only [opA] at h
    split at h
    · simp only [Option.map_eq_some_iff, Prod.mk.injEq] at h
      obtain ⟨_, _, _, h⟩ := h
      exact h.symm
    · cases h
  all_goals simp only [opA, Option.bind_eq_some_iff, Option.map_eq_some_iff] at h
  all_goals (repeat' (first | (cases h; done) | (obtain ⟨_, _, h⟩ := h) | split at h | simp only [Option.map_eq_some_iff, Option.bind_eq_some_iff, Option.some.injEq, Prod.mk.injEq] at h))
  all_goals first | exact h.symm | exact h.2.symm | grind
theorem cls1 {E : Env} {ora : Ora} {o : Op} (hc : cls E o ≤ 1) {F : Fr} {S S1 : List Ob} {t : T} (h : opX E ora o F S = some (t, S1)) : S1 = S := by
  by_cases ho : ∃ c, o = .call c
  · obtain ⟨c, rfl⟩ := ho
    exact cls1_call hc h
  · rw [opX_opA fun c hcc => ho ⟨c, hcc⟩] at h
    exact cls1_opA hc (fun c hcc => ho ⟨c, hcc⟩) h
theorem fst_ite {α β : Type} {p : Prop} [Decidable p] (x y : Option (α × β)) : (if p then x else y).map (·.1) = if p then x.map (·.1) else y.map (·.1) := by split <;> rfl
theorem cls0_fst {E : Env} {o : Op} (hc : cls E o = 0) (ho : ∀ c, o ≠ .call c) {F : Fr} (S S' : List Ob) : (opA E o F S).map (·.1) = (opA E o F S').map (·.1) := by
  cases o <;> simp only [cls] at hc <;> (first | omega | exact absurd rfl (ho _) | skip)
  case makeFunc f a b => cases f <;> simp only [opA] <;> (try split) <;> rfl
  case pick c a b =>
    simp only [opA]
    split
    · split <;> rfl
    · rfl
  case slice t x lo hi mx => cases mx <;> simp only [opA, Option.map_map] <;> rfl
  case index t x ix =>
    simp only [opA]
    split
    · simp only [Option.map_bind, Function.comp_def, fst_ite, Option.map_map, Option.map_none]
    · simp only [Option.map_bind, Function.comp_def, fst_ite, Option.map_map, Option.map_none]
    · rfl
  all_goals simp only [opA]
  all_goals (try split)
  all_goals (try rfl)
  all_goals simp only [Option.map_bind, Function.comp_def, fst_ite, Option.map_map, Option.map_none]
theorem cls0 {E : Env} {ora : Ora} {o : Op} (hc : cls E o = 0) {F : Fr} {S S1 S' : List Ob} {t : T} (h : opX E ora o F S = some (t, S1)) : opX E ora o F S' = some (t, S') := by
  have ho : ∀ c, o ≠ .call c := by
    rintro ⟨callee, args, ats⟩ rfl
    cases callee with
    | value f =>
      cases f <;> simp only [cls] at hc <;> try omega
      split at hc <;> omega
    | invoke _ _ => simp only [cls] at hc; omega
    | builtin b => cases b <;> simp only [cls] at hc <;> omega
  rw [opX_opA ho] at h ⊢
  have h1 := cls0_fst hc ho (F := F) S S'
  rw [h] at h1
  simp only [Option.map_some] at h1
  obtain ⟨⟨t', S2⟩, h2, h3⟩ := Option.map_eq_some_iff.1 h1.symm
  have h4 := cls1_opA (by omega) ho h2
  simp only at h3
  rw [h2, h3, h4]
theorem stepV_reads {E : Env} {ora : Ora} {ops : List Oper} {o : Oper} (hc : cls E o.op ≤ 1) {F : Fr} {S S1 : List Ob} {t : T} (h : stepV E ora ops o F S = some (t, S1)) : S1 = S := by
  unfold stepV at h
  rw [Option.bind_eq_some_iff] at h
  obtain ⟨b, _, h⟩ := h
  split at h
  · exact cls1 hc h
  · injection h with h; injection h with _ h; exact h.symm
theorem stepV_free {E : Env} {ora : Ora} {ops : List Oper} {o : Oper} (hc : cls E o.op = 0) {F : Fr} {S S1 S' : List Ob} {t : T} (h : stepV E ora ops o F S = some (t, S1)) : stepV E ora ops o F S' = some (t, S') := by
  unfold stepV at h ⊢
  rw [Option.bind_eq_some_iff] at h ⊢
  obtain ⟨b, hb, h⟩ := h
  refine ⟨b, hb, ?_⟩
  split at h
  · rename_i h0; rw [if_pos h0]; exact cls0 hc h
  · rename_i h0; rw [if_neg h0]; injection h with h; injection h with h _; rw [h]

/-! #### what must come ahead -/
inductive Anc (ops : Array Oper) : Nat → Nat → Prop
  | step {j : Nat} {o : Oper} {e : Edge} : ops[j]? = some o → e ∈ o.after → Region.binds .any e = true → Anc ops e.on j
  | trans {i j : Nat} {o : Oper} {e : Edge} : ops[j]? = some o → e ∈ o.after → Region.binds .any e = true → Anc ops i e.on → Anc ops i j
def maskOf (acc : List Nat) : List Edge → Nat
  | [] => 0
  | e :: r => bif Region.binds .any e then ((1 <<< e.on) ||| (acc[e.on]?).getD 0) ||| maskOf acc r else maskOf acc r
def masks : List Oper → List Nat → List Nat
  | [], acc => acc
  | o :: r, acc => masks r (acc ++ [maskOf acc o.after.toList])
def okPair (E : Env) (ops : Array Oper) (x y : Oper) : Bool :=
  x.apart ops y && (cls E x.op == 0 || cls E y.op == 0 || (Nat.ble (cls E x.op) 1 && Nat.ble (cls E y.op) 1))
def okDraw (E : Env) (ops : Array Oper) : Bool :=
  let ms := masks ops.toList []
  (List.range ops.size).all fun j => match ops[j]? with
    | none => true
    | some o => (o.after.toList.all fun e => Region.binds .any e == false || Nat.blt e.on j) && (List.range j).all fun i => match ops[i]? with
      | none => true
      | some p => (((ms[j]?).getD 0).testBit i) || okPair E ops p o
def OkMask (ops : Array Oper) (acc : List Nat) : Prop := ∀ j m, acc[j]? = some m → ∀ i, m.testBit i = true → Anc ops i j
theorem maskOf_ok {ops : Array Oper} {acc : List Nat} (ha : OkMask ops acc) {j : Nat} {o : Oper} (ho : ops[j]? = some o) : ∀ (l : List Edge), (∀ e, e ∈ l → e ∈ o.after) → ∀ i, (maskOf acc l).testBit i = true → Anc ops i j
  | [], _, i, h => by simp [maskOf] at h
  | e :: r, hl, i, h => by
    simp only [maskOf] at h
    cases hb : Region.binds .any e with
    | false =>
      rw [hb] at h
      exact maskOf_ok ha ho r (fun e he => hl e (List.mem_cons_of_mem _ he)) i h
    | true =>
      rw [hb] at h
      simp only [cond_true, Nat.testBit_or, Bool.or_eq_true] at h
      rcases h with (h | h) | h
      · have : i = e.on := by
          rw [Nat.one_shiftLeft, Nat.testBit_two_pow] at h
          exact (of_decide_eq_true h).symm
        subst this
        exact .step ho (hl e List.mem_cons_self) hb
      · cases hm : acc[e.on]? with
        | none => rw [hm] at h; simp at h
        | some m =>
          rw [hm] at h
          exact .trans ho (hl e List.mem_cons_self) hb (ha _ m hm i h)
      · exact maskOf_ok ha ho r (fun e he => hl e (List.mem_cons_of_mem _ he)) i h
theorem masks_ok {ops : Array Oper} : ∀ (r : List Oper) (acc : List Nat), (∀ k o, r[k]? = some o → ops[acc.length + k]? = some o) → OkMask ops acc → OkMask ops (masks r acc)
  | [], acc, _, ha => ha
  | o :: r, acc, hr, ha => by
    refine masks_ok r _ (fun k o' hk => ?_) ?_
    · have := hr (k + 1) o' (by simpa using hk)
      simp only [List.length_append, List.length_singleton]
      rw [← this]; congr 1; omega
    · intro j m hj i hi
      rcases Nat.lt_or_ge j acc.length with h | h
      · rw [List.getElem?_append_left h] at hj
        exact ha j m hj i hi
      · rw [List.getElem?_append_right h] at hj
        have hj0 : j = acc.length := by
          have := (List.getElem?_eq_some_iff.1 hj).1
          simp at this
          omega
        subst hj0
        simp at hj
        subst hj
        exact maskOf_ok ha (hr 0 o (by simp)) _ (fun e he => by simpa using he) i hi
structure DrawOk (E : Env) (ops : Array Oper) : Prop where
  back : ∀ j o e, ops[j]? = some o → e ∈ o.after → Region.binds .any e = true → e.on < j
  pair : ∀ i j p o, i < j → ops[i]? = some p → ops[j]? = some o → Anc ops i j ∨ okPair E ops p o = true
theorem okDraw_ok {E : Env} {ops : Array Oper} (h : okDraw E ops = true) : DrawOk E ops := by
  unfold okDraw at h
  simp only [List.all_eq_true, List.mem_range] at h
  refine ⟨fun j o e ho he hb => ?_, fun i j p o hij hp ho => ?_⟩
  · have hj := h j (Array.getElem?_eq_some_iff.1 ho).1
    rw [ho] at hj
    simp only [Bool.and_eq_true, List.all_eq_true] at hj
    have := hj.1 e (by simpa using he)
    rw [hb] at this
    simpa [Nat.blt_eq] using this
  · have hj := h j (Array.getElem?_eq_some_iff.1 ho).1
    rw [ho] at hj
    simp only [Bool.and_eq_true, List.all_eq_true, List.mem_range] at hj
    have hi := hj.2 i hij
    rw [hp] at hi
    simp only [Bool.or_eq_true] at hi
    rcases hi with hi | hi
    · cases hm : (masks ops.toList [])[j]? with
      | none => rw [hm] at hi; simp at hi
      | some m =>
        rw [hm] at hi
        exact .inl (masks_ok (ops := ops) ops.toList [] (fun k o hk => by simpa using hk) (fun j m hj => by simp at hj) j m hm i hi)
    · exact .inr hi
end Go.Proofs.Ytbehhhlidaiblaa.Ai
