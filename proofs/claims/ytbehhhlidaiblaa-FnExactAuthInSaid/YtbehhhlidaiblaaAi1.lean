/- Loops of the abstract machine: what a loop comes to is what one round comes to. -/
import Derived.Test.YtbehhhlidaiblaaAi0
namespace Go.Proofs.Ytbehhhlidaiblaa.Ai
open Go
theorem iterN_mono {σ ρ : Type} (step : σ → Option (σ ⊕ ρ)) : ∀ n s x, iterN step n s = some x → iterN step (n + 1) s = some x := by
  intro n
  induction n with
  | zero => intro s x h; simp [iterN] at h
  | succ n ih =>
    intro s x h
    rw [iterN] at h ⊢
    cases hs : step s with
    | none => rw [hs] at h; simp at h
    | some r =>
      rw [hs] at h
      cases r with
      | inl s' => simp only [Option.bind_some] at h ⊢; exact ih _ _ h
      | inr y => exact h
theorem iterN_le {σ ρ : Type} (step : σ → Option (σ ⊕ ρ)) {n m : Nat} (hnm : n ≤ m) {s : σ} {x : ρ} (h : iterN step n s = some x) : iterN step m s = some x := by
  induction hnm with
  | refl => exact h
  | step _ ih => exact iterN_mono step _ _ _ ih
theorem iter_of {σ ρ : Type} (step : σ → Option (σ ⊕ ρ)) {n : Nat} {s : σ} {x : ρ} (h : iterN step n s = some x) : iter step s = some x := by
  have he : ∃ n, (iterN step n s).isSome := ⟨n, by rw [h]; rfl⟩
  unfold iter
  rw [dif_pos he]
  obtain ⟨y, hy⟩ := Option.isSome_iff_exists.1 (Classical.choose_spec he)
  rw [hy]
  have h1 := iterN_le step (Nat.le_max_left (Classical.choose he) n) hy
  have h2 := iterN_le step (Nat.le_max_right (Classical.choose he) n) h
  rw [h1] at h2
  exact h2
theorem iter_some {σ ρ : Type} (step : σ → Option (σ ⊕ ρ)) {s : σ} {x : ρ} (h : iter step s = some x) : ∃ n, iterN step n s = some x := by
  unfold iter at h
  split at h
  · exact ⟨_, h⟩
  · cases h
theorem iter_inr {σ ρ : Type} {step : σ → Option (σ ⊕ ρ)} {s : σ} {x : ρ} (h : step s = some (.inr x)) : iter step s = some x :=
  iter_of (n := 1) step (by rw [iterN, h]; rfl)
theorem iter_inl {σ ρ : Type} {step : σ → Option (σ ⊕ ρ)} {s s' : σ} {x : ρ} (h : step s = some (.inl s')) (hx : iter step s' = some x) : iter step s = some x := by
  obtain ⟨n, hn⟩ := iter_some step hx
  exact iter_of (n := n + 1) step (by rw [iterN, h]; exact hn)
/-- A loop by an index, an invariant, a measure: each round ends the loop, or goes on at a smaller one. -/
theorem iter_ind {σ ρ α : Type} {step : σ → Option (σ ⊕ ρ)} (inv : α → Prop) (μ : α → Nat) (f : α → σ) (g : α → ρ)
    (h : ∀ x, inv x → step (f x) = some (.inr (g x)) ∨ ∃ y, inv y ∧ μ y < μ x ∧ g y = g x ∧ step (f x) = some (.inl (f y))) : ∀ x, inv x → iter step (f x) = some (g x) := by
  intro x
  induction hm : μ x using Nat.strongRecOn generalizing x with
  | _ m ih =>
    intro hi
    rcases h x hi with h1 | ⟨y, hy, hlt, hg, hs⟩
    · exact iter_inr h1
    · exact iter_inl hs (by rw [← hg]; exact ih (μ y) (hm ▸ hlt) y rfl hy)
theorem pureT_val {s : Sem Value} {v : Value} (h : s = .pure v) (hf : flat v = true := by rfl) : pureT s = some (.val v) := by subst h; simp [pureT, pureV, hf]
attribute [congr] ite_congr
/-- The machine's rules: applied at the head, before the arguments are looked at ('↓'). -/
theorem down : (∀ (R : Type) (E : Env) (ora : Ora) lp F S (k : Ex → Fr → List Ob → Option R), exec E ora lp .skip F S k = k .normal F S)
  ∧ (∀ (R : Type) (E : Env) (ora : Ora) lp id (ops : List Oper) d F S (k : Ex → Fr → List Ob → Option R), exec E ora lp (.region id ops.toArray d) F S k = regionK E ora ops ops F S (k .normal))
  ∧ (∀ (R : Type) (E : Env) (ora : Ora) lp a b F S (k : Ex → Fr → List Ob → Option R), exec E ora lp (.seq a b) F S k = exec E ora lp a F S (seqK (exec E ora lp b) k))
  ∧ (∀ (R : Type) (E : Env) (ora : Ora) lp c a b F S (k : Ex → Fr → List Ob → Option R), exec E ora lp (.cond c a b) F S k = condK (exec E ora lp a) (exec E ora lp b) F S k (ev F c))
  ∧ (∀ (R : Type) (E : Env) (ora : Ora) lp id c F S (k : Ex → Fr → List Ob → Option R), exec E ora lp (.block id c) F S k = exec E ora lp c F S (blockK id k))
  ∧ (∀ (R : Type) (E : Env) (ora : Ora) lp c F S (k : Ex → Fr → List Ob → Option R), exec E ora lp (.loop c) F S k = loopK k (lp c F S))
  ∧ (∀ (R : Type) (E : Env) (ora : Ora) lp id F S (k : Ex → Fr → List Ob → Option R), exec E ora lp (.exit id) F S k = k (.exit id) F S)
  ∧ (∀ (R : Type) (E : Env) (ora : Ora) lp F S (k : Ex → Fr → List Ob → Option R), exec E ora lp .ret F S k = k .ret F S)
  ∧ (∀ (R : Type) nx (k : Ex → Fr → List Ob → Option R) F S, seqK nx k .normal F S = nx F S k)
  ∧ (∀ (R : Type) nx (k : Ex → Fr → List Ob → Option R) id F S, seqK nx k (.exit id) F S = k (.exit id) F S)
  ∧ (∀ (R : Type) nx (k : Ex → Fr → List Ob → Option R) F S, seqK nx k .ret F S = k .ret F S)
  ∧ (∀ (R : Type) id (k : Ex → Fr → List Ob → Option R) F S, blockK id k .normal F S = k .normal F S)
  ∧ (∀ (R : Type) id (k : Ex → Fr → List Ob → Option R) id' F S, blockK id k (.exit id') F S = if id' = id then k .normal F S else k (.exit id') F S)
  ∧ (∀ (R : Type) id (k : Ex → Fr → List Ob → Option R) F S, blockK id k .ret F S = k .ret F S)
  ∧ (∀ (R : Type) (E : Env) (ora : Ora) ops F S (k : Fr → List Ob → Option R), regionK E ora ops [] F S k = k F S)
  ∧ (∀ (R : Type) (E : Env) (ora : Ora) ops d op ty pos af rest F S (k : Fr → List Ob → Option R), regionK E ora ops (⟨d, op, ty, pos, af, none⟩ :: rest) F S k = regB (regionK E ora ops rest) d F k (opX E ora op F S))
  ∧ (∀ (R : Type) (E : Env) (ora : Ora) ops d op ty pos af g rest F S (k : Fr → List Ob → Option R), regionK E ora ops (⟨d, op, ty, pos, af, some g⟩ :: rest) F S k = regG E ora (regionK E ora ops rest) op d F S k (wantA ops (some g) F))
  ∧ (∀ ops j w F, wantA ops (some (j, w)) F = wantD w F (dstAt ops j))
  ∧ (∀ d op ty pos af g r, dstAt (⟨d, op, ty, pos, af, g⟩ :: r) 0 = d)
  ∧ (∀ o r j, dstAt (o :: r) (j + 1) = dstAt r j)
  ∧ (∀ F d (t : T), putA F (some d) t = (d, t) :: F)
  ∧ (∀ F (t : T), putA F none t = F)
  ∧ (∀ E ora ann d c F S, step E ora ann (d + 1) c (F, S) = exec E ora (lpOf E ora ann d) c F S (handed (ann (firstId c))))
  ∧ (∀ E ora ann d c F S, lpOf E ora ann d c F S = iter (step E ora ann d c) (clean (ann (firstId c)).1 F, S))
  ∧ (∀ m F S, handed m .normal F S = some (.inl (clean m.1 F, S)))
  ∧ (∀ m id F S, handed m (.exit id) F S = some (.inr (.exit id, clean m.2 F, S)))
  ∧ (∀ m F S, handed m .ret F S = some (.inr (.ret, clean m.2 F, S)))
  ∧ (∀ E rs F S, bodyEnd E rs .normal F S = (resA E F S rs).map fun v => (v, S))
  ∧ (∀ E rs F S, bodyEnd E rs .ret F S = (resA E F S rs).map fun v => (v, S))
  ∧ (∀ E ora f args S, bodyA E ora f args S = if E.kn f = true then bodyC E ora f args S (E.P.funcs[f]?) else none)
  ∧ (∀ E n f args, (callN E (n + 1)).p f args = finK (bodyA E (callN E n) f args []))
  ∧ (∀ E n f args S, (callN E (n + 1)).i f args S = bodyA E (callN E n) f args S) := by
  refine ⟨?_, ?_, ?_, ?_, ?_, ?_, ?_, ?_, ?_, ?_, ?_, ?_, ?_, ?_, ?_, ?_, ?_, ?_, ?_, ?_, ?_, ?_, ?_, ?_, ?_, ?_, ?_, ?_, ?_, ?_, ?_, ?_⟩
  all_goals intros
  all_goals rfl
/-- .. behind what they wait for. -/
theorem up : (∀ (R : Type) nx d F (k : Fr → List Ob → Option R) v S, regB nx d F k (some (v, S)) = nx (putA F d v) S k)
  ∧ (∀ (R : Type) nx d F (k : Fr → List Ob → Option R), regB nx d F k none = none)
  ∧ (∀ (R : Type) E ora nx op d F S (k : Fr → List Ob → Option R) b, regG E ora nx op d F S k (some b) = if b = true then regB nx d F k (opX E ora op F S) else nx (putA F d (.tup [])) S k)
  ∧ (∀ (R : Type) x y F S (k : Ex → Fr → List Ob → Option R) b, condK x y F S k (.val (.bool b)) = if b = true then x F S k else y F S k)
  ∧ (∀ (R : Type) (k : Ex → Fr → List Ob → Option R) e F S, loopK k (some (e, F, S)) = k e F S)
  ∧ (∀ v S, finK (some (v, S)) = fin S v)
  ∧ (∀ E ora f args S fn, bodyC E ora f args S (some fn) = bodyF E ora f args S fn fn.body)
  ∧ (∀ E ora f args S fn c, bodyF E ora f args S fn (some c) = exec E ora (lpOf E ora (E.ann f) 8) c (start 0 args) S (bodyEnd E fn.results.toList))
  ∧ (∀ t, look [] t = .junk)
  ∧ (∀ i x r t, look ((i, x) :: r) t = bif i == t then x else look r t)
  ∧ (∀ F t, ev F (.tmp t) = look F t)
  ∧ (∀ F v, ev F (.const v) = conv v)
  ∧ (∀ F f, ev F (.func f) = .fn f [])
  ∧ (∀ F, clean [] F = [])
  ∧ (∀ i l F, clean (i :: l) F = (i, look F i) :: clean l F)
  ∧ (∀ i, start i [] = [])
  ∧ (∀ i t l, start i (t :: l) = (i, t) :: start (i + 1) l)
  ∧ (∀ w F d, wantD w F (some d) = wantT w (look F d))
  ∧ (∀ b, wantT true (.val (.bool b)) = some b)
  ∧ (∀ b, wantT false (.val (.bool b)) = some (!b))
  ∧ (∀ w, wantT w (.tup []) = some false) := by
  refine ⟨?_, ?_, ?_, ?_, ?_, ?_, ?_, ?_, ?_, ?_, ?_, ?_, ?_, ?_, ?_, ?_, ?_, ?_, ?_, ?_, ?_⟩
  all_goals intros
  all_goals rfl
section
variable (t : Nat) (k : IntKind) (a b : Int)
theorem p_eql : pureT (binOp .eql t (.int k a) (.int k b)) = some (.val (.bool (a == b))) := pureT_val (by simp [binOp, Op.intCmp]; rfl)
theorem p_neq : pureT (binOp .neq t (.int k a) (.int k b)) = some (.val (.bool (a != b))) := pureT_val (by simp [binOp, Op.intCmp]; rfl)
theorem p_lss : pureT (binOp .lss t (.int k a) (.int k b)) = some (.val (.bool (decide (a < b)))) := pureT_val (by simp [binOp, Op.intCmp]; rfl)
theorem p_leq : pureT (binOp .leq t (.int k a) (.int k b)) = some (.val (.bool (decide (a ≤ b)))) := pureT_val (by simp [binOp, Op.intCmp]; rfl)
theorem p_gtr : pureT (binOp .gtr t (.int k a) (.int k b)) = some (.val (.bool (decide (a > b)))) := pureT_val (by simp [binOp, Op.intCmp]; rfl)
theorem p_geq : pureT (binOp .geq t (.int k a) (.int k b)) = some (.val (.bool (decide (a ≥ b)))) := pureT_val (by simp [binOp, Op.intCmp]; rfl)
theorem p_add : pureT (binOp .add t (.int k a) (.int k b)) = some (.val (.int k (k.wrap (a + b)))) := pureT_val (by simp [binOp, Op.intArith]; rfl)
theorem p_sub : pureT (binOp .sub t (.int k a) (.int k b)) = some (.val (.int k (k.wrap (a - b)))) := pureT_val (by simp [binOp, Op.intArith]; rfl)
theorem p_mul : pureT (binOp .mul t (.int k a) (.int k b)) = some (.val (.int k (k.wrap (a * b)))) := pureT_val (by simp [binOp, Op.intArith]; rfl)
theorem p_quo (h : b ≠ 0) : pureT (binOp .quo t (.int k a) (.int k b)) = some (.val (.int k (k.wrap (a.tdiv b)))) := pureT_val (by simp [binOp, Op.intDiv, h]; rfl)
theorem p_rem (h : b ≠ 0) : pureT (binOp .rem t (.int k a) (.int k b)) = some (.val (.int k (a.tmod b))) := pureT_val (by simp [binOp, Op.intDiv, h]; rfl)
theorem p_not (x : Bool) : pureT (Op.unary .not (.bool x)) = some (.val (.bool (!x))) := pureT_val (by simp [Op.unary]; rfl)
end
theorem wrap_i64 {n : Int} (h0 : -9223372036854775808 ≤ n) (h1 : n ≤ 9223372036854775807) : IntKind.i64.wrap n = n := by
  simp [IntKind.wrap, IntKind.bits, IntKind.signed]
  omega
theorem wrap_u32 {n : Int} (h0 : 0 ≤ n) (h1 : n ≤ 4294967295) : IntKind.u32.wrap n = n := by
  simp only [IntKind.wrap, IntKind.bits, IntKind.signed]
  simp
  omega
end Go.Proofs.Ytbehhhlidaiblaa.Ai
