/- Calls, as deep as they go. -/
import Derived.Test.YtbehhhlidaiblaaAi12
namespace Go.Proofs.Ytbehhhlidaiblaa.Ai
open Go Go.RowKit
section
variable {E : Env} {ora : Ora} {c : Cx} {w : World} {S : List Ob}

theorem start_get : ∀ (args : List T) (i t : Nat), look (start i args) t = if i ≤ t then args[t - i]?.getD .junk else .junk
  | [], i, t => by simp [start, look]
  | x :: r, i, t => by
    show (bif i == t then x else look (start (i + 1) r) t) = _
    rw [start_get r (i + 1) t]
    by_cases h : i = t
    · subst h; simp
    · have hb : (i == t) = false := beq_eq_false_iff_ne.2 h
      rw [hb, cond_false]
      by_cases h2 : i ≤ t
      · rw [if_pos (by omega : i + 1 ≤ t), if_pos h2]
        have : t - i = (t - (i + 1)) + 1 := by omega
        rw [this, List.getElem?_cons_succ]
      · rw [if_neg (by omega), if_neg h2]
theorem start_ok {args : List T} {argv : Array Value} (h : Args c args argv) (n : Nat) : FR c (start 0 args) { tmps := argv ++ Array.replicate (n - argv.size) undef, defers := [] } := by
  intro t
  rw [start_get]
  simp only [Nat.zero_le, if_true, Nat.sub_zero]
  cases ht : args[t]? with
  | none => exact VR.junk
  | some x =>
    have hlt : t < argv.size := by rw [← h.1]; exact (List.getElem?_eq_some_iff.1 ht).1
    have := h.2 t x ht
    rw [Array.getD_eq_getD_getElem?] at this
    simp only [Option.getD_some]
    rw [Array.getD_eq_getD_getElem?, Array.getElem?_append_left hlt]
    exact this

theorem resOne_ok (hE : EnvOk E) (hI : Inv c w S) {F : Fr} {a : Act} (hF : FR c F a) {rv : ResultVar} {t : T} (h : resOne E F S rv = some t) :
    ∃ v, (match rv with | .tmp t => (Pure.pure (a.tmps.getD t undef) : Sem Value) | .cell x ty => do loadVar ty (← asAddr (a.tmps.getD x undef))).run E.P w = .ok v w ∧ VR c t v := by
  cases rv with
  | tmp x =>
    injection h with h
    subst h
    exact ⟨_, rfl, hF x⟩
  | cell x ty =>
    simp only [resOne, Option.bind_eq_some_iff] at h
    obtain ⟨ti, ht, cs, hcs, hm⟩ := h
    obtain ⟨ad, u, hv, hs, hu⟩ := cells_at hI (hF x) hcs
    obtain ⟨v, h1, h2⟩ := load_ok hE hI ht hs hu hm
    refine ⟨v, ?_, h2⟩
    simp only [hv]
    rw [Sem.run_bind]
    exact h1
theorem mapM_ok {α β : Type} {P : Program} {w : World} {f : α → Option T} {g : α → Sem β} {R : T → β → Prop} (h : ∀ x t, f x = some t → ∃ v, (g x).run P w = .ok v w ∧ R t v) : ∀ (l : List α) (ts : List T), l.mapM f = some ts →
    ∃ vs : List β, (l.mapM g).run P w = .ok vs w ∧ ts.length = vs.length ∧ ∀ (j : Nat) (t : T), ts[j]? = some t → ∃ v : β, vs[j]? = some v ∧ R t v
  | [], ts, hl => by
    simp at hl
    subst hl
    exact ⟨[], rfl, rfl, fun j t hj => by simp at hj⟩
  | x :: l, ts, hl => by
    rw [List.mapM_cons] at hl
    simp only [Option.bind_eq_bind, Option.bind_eq_some_iff, Option.pure_def, Option.some.injEq] at hl
    obtain ⟨t, ht, ts', hts, rfl⟩ := hl
    obtain ⟨v, hv, hr⟩ := h x t ht
    obtain ⟨vs, h1, h2, h3⟩ := mapM_ok h l ts' hts
    refine ⟨v :: vs, ?_, by simp [h2], fun j t' hj => ?_⟩
    · rw [List.mapM_cons, Sem.run_bind, hv]
      simp only [Result.andThen_ok]
      rw [Sem.run_bind, h1]
      rfl
    · cases j with
      | zero => simp at hj; subst hj; exact ⟨v, rfl, hr⟩
      | succ j => simp at hj ⊢; exact h3 j t' hj
theorem res_ok (hE : EnvOk E) (hI : Inv c w S) {F : Fr} {a : Act} (hF : FR c F a) {fn : Func} {t : T} (h : resA E F S fn.results.toList = some t) : ∃ v, (results fn a.tmps).run E.P w = .ok v w ∧ VR c t v := by
  unfold resA at h
  rw [Option.map_eq_some_iff] at h
  obtain ⟨ts, hts, ht⟩ := h
  obtain ⟨vs, h1, h2, h3⟩ := mapM_ok (R := fun t v => VR c t v) (fun rv t hr => resOne_ok hE hI hF hr) fn.results.toList ts hts
  have hrun : (results fn a.tmps).run E.P w = .ok (if h : vs.toArray.size = 1 then vs.toArray[0] else .tuple vs.toArray) w := by
    unfold results
    rw [Array.mapM_eq_mapM_toList]
    simp only [Sem.run_bind, Sem.run_map]
    refine (congrArg (fun r : Result (List Value) => (r.andThen fun a w' => Result.ok a.toArray w').andThen fun a w' => Sem.run E.P (Pure.pure (if h : a.size = 1 then a[0] else Value.tuple a)) w') (?_ : _ = Result.ok vs w)).trans rfl
    exact h1
  refine ⟨_, hrun, ?_⟩
  subst ht
  rcases ts with _ | ⟨x, _ | ⟨y, ts⟩⟩
  · have : vs = [] := by simpa using h2.symm
    subst this
    exact .tup rfl fun j t hj => by simp at hj
  · obtain ⟨v, rfl⟩ : ∃ v, vs = [v] := List.length_eq_one_iff.1 h2.symm
    obtain ⟨v', hv', hr⟩ := h3 0 x rfl
    simp at hv'
    subst hv'
    exact hr
  · have hne : ¬ vs.toArray.size = 1 := by simp at h2 ⊢; omega
    rw [dif_neg hne]
    refine .tup (by simpa using h2) fun j t hj => ?_
    obtain ⟨v, hv, hr⟩ := h3 j t hj
    simpa [Array.getD_eq_getD_getElem?, hv] using hr

/-- What is known of the functions. -/
structure FnsOk (E : Env) : Prop where
  orders : E.P.follows .mixedOrders = true
  fns : ∀ (f : Nat) (fn : Func), E.kn f = true → E.P.funcs[f]? = some fn → (fn.name == "runtime.NumGoroutine") = false ∧ ∀ code, fn.body = some code → okCode E fn.ntmps code = true
theorem body_ok (hE : EnvOk E) (hFn : FnsOk E) (hora : OraOk E.P ora) {f : Nat} {args : List T} {S : List Ob} {r : T × List Ob} (h : bodyA E ora f args S = some r) : Enter E.P f ∧ ∀ (c : Cx) (w : World) (argv : Array Value), Inv c w S → Args c args argv →
    Calls E.P f argv w fun e w' => ∃ c' v, e = .returned v ∧ Le c c' w.heap.size ∧ Keep c w w' ∧ Inv c' w' r.2 ∧ VR c' r.1 v := by
  unfold bodyA at h
  split at h
  · rename_i hk
    unfold bodyC at h
    split at h
    · rename_i fn hfn
      obtain ⟨hname, hcode⟩ := hFn.fns f fn hk hfn
      unfold bodyF at h
      split at h
      · rename_i code hbody
        refine ⟨⟨fn, hfn, hname, by rw [hbody]; rfl⟩, fun c w argv hI hA => ?_⟩
        refine calls_of_wp hfn hbody (exec_ok hE hora hFn.orders (loop_ok hE hora hFn.orders (E.ann f) 8) code (hcode code hbody) _ (start 0 args) S _ r h c w _ hI (start_ok hA fn.ntmps) (by simp; omega) fun ex F' S' c' w' a' hk l1 l2 l3 l4 l5 l6 => ?_)
        have go : (resA E F' S' fn.results.toList).map (fun v => (v, S')) = some r → a'.defers = [] ∧ ∃ v, (results fn a'.tmps).run E.P w' = .ok v w' ∧ ∃ c' v', Ending.returned v = .returned v' ∧ Le c c' w.heap.size ∧ Keep c w w' ∧ Inv c' w' r.2 ∧ VR c' r.1 v' := fun hr => by
          rw [Option.map_eq_some_iff] at hr
          obtain ⟨t, ht, rfl⟩ := hr
          obtain ⟨v, h1, h2⟩ := res_ok hE l3 l4 ht
          exact ⟨l6, v, h1, c', v, rfl, l1, l2, l3, h2⟩
        cases ex with
        | normal => exact go hk
        | exit id => cases hk
        | ret => exact go hk
      · cases h
    · cases h
  · cases h
theorem finLeaf_shape {used : List Nat} {objs : List Ob} {t : T} {r : T × List Nat × List Ob} (h : finLeaf S used objs t = some r) (ho : ∀ O, O ∈ objs → O.cl = true) : ret1 r.1 = true ∧ ∀ O, O ∈ r.2.2 → O.cl = true := by
  have push : ∀ O1 : Ob, ∀ O, O ∈ objs ++ [expOb S O1] → O.cl = true := fun O1 O hO => by
    rcases List.mem_append.1 hO with h | h
    · exact ho O h
    · simp at h; subst h; rfl
  cases t with
  | os i k =>
    simp only [finLeaf, Option.bind_eq_some_iff] at h
    obtain ⟨O, hO, h⟩ := h
    split at h
    · cases h
    · injection h with h; subst h; exact ⟨rfl, push O⟩
  | ref i k row off =>
    simp only [finLeaf, Option.bind_eq_some_iff] at h
    obtain ⟨O, hO, h⟩ := h
    split at h
    · cases h
    · injection h with h; subst h; exact ⟨rfl, push O⟩
  | _ => first | (cases h; done) | (injection h with h; subst h; exact ⟨rfl, ho⟩)
theorem finList_shape : ∀ (ts : List T) {used : List Nat} {objs : List Ob} {r : List T × List Nat × List Ob}, finList S used objs ts = some r → (∀ O, O ∈ objs → O.cl = true) → r.1.all ret1 = true ∧ ∀ O, O ∈ r.2.2 → O.cl = true
  | [], used, objs, r, h, ho => by injection h with h; subst h; exact ⟨rfl, ho⟩
  | t :: ts, used, objs, r, h, ho => by
    simp only [finList, Option.bind_eq_some_iff, Option.map_eq_some_iff] at h
    obtain ⟨x, hx, y, hy, rfl⟩ := h
    obtain ⟨a1, a2⟩ := finLeaf_shape hx ho
    obtain ⟨b1, b2⟩ := finList_shape ts hy a2
    exact ⟨by simp [a1]; simpa using b1, b2⟩
theorem finVal_shape {used : List Nat} {objs : List Ob} {t : T} {r : T × List Nat × List Ob} (h : finVal S used objs t = some r) (ho : ∀ O, O ∈ objs → O.cl = true) : retP r.1 = true ∧ ∀ O, O ∈ r.2.2 → O.cl = true := by
  by_cases ha : ∃ cs, t = .agg cs
  · obtain ⟨cs, rfl⟩ := ha
    simp only [finVal, Option.map_eq_some_iff] at h
    obtain ⟨y, hy, rfl⟩ := h
    exact finList_shape cs hy ho
  · have e : finVal S used objs t = finLeaf S used objs t := by
      cases t <;> first | rfl | exact absurd ⟨_, rfl⟩ ha
    rw [e] at h
    obtain ⟨a1, a2⟩ := finLeaf_shape h ho
    refine ⟨?_, a2⟩
    generalize r.1 = x at a1
    cases x <;> first | exact a1 | (simp [ret1, closed1] at a1)
theorem finVals_shape : ∀ (ts : List T) {used : List Nat} {objs : List Ob} {r : List T × List Nat × List Ob}, finVals S used objs ts = some r → (∀ O, O ∈ objs → O.cl = true) → r.1.all retP = true ∧ ∀ O, O ∈ r.2.2 → O.cl = true
  | [], used, objs, r, h, ho => by injection h with h; subst h; exact ⟨rfl, ho⟩
  | t :: ts, used, objs, r, h, ho => by
    simp only [finVals, Option.bind_eq_some_iff, Option.map_eq_some_iff] at h
    obtain ⟨x, hx, y, hy, rfl⟩ := h
    obtain ⟨a1, a2⟩ := finVal_shape hx ho
    obtain ⟨b1, b2⟩ := finVals_shape ts hy a2
    exact ⟨by simp [a1]; simpa using b1, b2⟩
theorem finFr_cl {objs : List Ob} (h : ∀ O, O ∈ objs → O.cl = true) : ∀ O, O ∈ finFr objs → O.cl = true := fun O hO => by
  unfold finFr at hO
  cases hb : objs.all fun O => !O.froz with
  | true => rw [hb] at hO; exact h O hO
  | false =>
    rw [hb] at hO
    simp only [cond_false, List.mem_map] at hO
    obtain ⟨O0, hO0, rfl⟩ := hO
    exact h O0 hO0
theorem fin_shape {t : T} {r : T × List Ob} (h : fin S t = some r) : retV r.1 = true ∧ ∀ O, O ∈ r.2 → O.cl = true := by
  by_cases ha : ∃ cs, t = .tup cs
  · obtain ⟨cs, rfl⟩ := ha
    simp only [fin, Option.map_eq_some_iff] at h
    obtain ⟨y, hy, rfl⟩ := h
    obtain ⟨a1, a2⟩ := finVals_shape cs hy (fun O hO => by simp at hO)
    exact ⟨a1, finFr_cl a2⟩
  · have e : fin S t = (finVal S [] [] t).map fun y => (y.1, finFr y.2.2) := by
      cases t <;> first | rfl | exact absurd ⟨_, rfl⟩ ha
    rw [e, Option.map_eq_some_iff] at h
    obtain ⟨y, hy, rfl⟩ := h
    obtain ⟨a1, a2⟩ := finVal_shape hy (fun O hO => by simp at hO)
    refine ⟨?_, finFr_cl a2⟩
    simp only
    generalize y.1 = x at a1
    cases x <;> first | exact a1 | (simp [retP, ret1, closed1] at a1)
theorem callN_ok (hE : EnvOk E) (hFn : FnsOk E) : ∀ n, OraOk E.P (callN E n)
  | 0 => ⟨fun f args r h => (by cases h), fun f args S r h => (by cases h)⟩
  | n + 1 => by
    have ih := callN_ok hE hFn n
    refine ⟨fun f args r h => ?_, fun f args S r h => body_ok hE hFn ih h⟩
    have h' : finK (bodyA E (callN E n) f args []) = some r := h
    unfold finK at h'
    split at h'
    · rename_i p hp
      obtain ⟨he, hc⟩ := body_ok hE hFn ih hp
      have shape := fin_shape h'
      refine ⟨he, shape.1, shape.2, fun im w argv him hlen hargs => ?_⟩
      have hI0 : Inv (base im) w [] := ⟨rfl, him, fun i O hO => by simp at hO, fun i j hi => by simp [base] at hi, fun i O o v hO => by simp at hO⟩
      refine (hc (base im) w argv hI0 ⟨hlen, fun j t hj => .im (hargs j t hj)⟩).mono fun e w' hq => ?_
      obtain ⟨c', v, rfl, l1, l2, l3, l4⟩ := hq
      obtain ⟨c2, m1, m2, m3, _, _⟩ := fin_ok l3 l1 h'
      exact ⟨c2, v, rfl, m1, l2, m2, m3 v l4⟩
    · cases h'
end
end Go.Proofs.Ytbehhhlidaiblaa.Ai
