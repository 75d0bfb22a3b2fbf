/- Regions whose order is drawn: every order comes to what the order of the text comes to. -/
import Derived.Test.YtbehhhlidaiblaaAi9
namespace Go.Proofs.Ytbehhhlidaiblaa.Ai
open Go Go.RowKit
theorem look_putA_ne {F : Fr} {dst : Option Nat} {v : T} {t : Nat} (h : dst ≠ some t) : look (putA F dst v) t = look F t := by
  unfold putA
  split
  · rename_i d
    simp only [look]
    have : (d == t) = false := by
      rw [beq_eq_false_iff_ne]; intro e; exact h (by rw [e])
    rw [this]; rfl
  · rfl
theorem look_putA_eq {F : Fr} {v : T} {t : Nat} : look (putA F (some t) v) t = v := by simp [putA, look]
section
variable {E : Env} {ora : Ora} {ops : Array Oper} {tr : Nat → Fr × List Ob} {L : Nat → Prop}

/-- The order of the text, in single steps. -/
def Text (E : Env) (ora : Ora) (ops : Array Oper) (tr : Nat → Fr × List Ob) : Prop := ∀ i o, ops[i]? = some o → stepA E ora ops.toList o (tr i) = some (tr (i + 1))
theorem Text.val (hT : Text E ora ops tr) {i : Nat} {o : Oper} (ho : ops[i]? = some o) : ∃ v, stepV E ora ops.toList o (tr i).1 (tr i).2 = some (v, (tr (i + 1)).2) ∧ (tr (i + 1)).1 = putA (tr i).1 o.dst v := by
  have h := hT i o ho
  have h' : stepA E ora ops.toList o ((tr i).1, (tr i).2) = some (tr (i + 1)) := h
  rw [stepA_eq, Option.map_eq_some_iff] at h'
  obtain ⟨r, h1, h2⟩ := h'
  rw [← h2]
  exact ⟨r.1, h1, rfl⟩
def Writes (ops : Array Oper) (t : Nat) (k : Nat) : Prop := ∃ p : Oper, ops[k]? = some p ∧ p.dst = some t
def Moves (E : Env) (ops : Array Oper) (k : Nat) : Prop := ∃ p : Oper, ops[k]? = some p ∧ ¬ cls E p.op ≤ 1
theorem Text.slot (hT : Text E ora ops tr) {t : Nat} : ∀ (d m : Nat), m + d ≤ ops.size → (∀ k, m ≤ k → k < m + d → ¬ Writes ops t k) → look (tr (m + d)).1 t = look (tr m).1 t
  | 0, _, _, _ => rfl
  | d + 1, m, hn, h => by
    have ho : ops[m + d]? = some ops[m + d] := Array.getElem?_eq_getElem (by omega)
    obtain ⟨v, _, h2⟩ := hT.val ho
    have e : m + (d + 1) = m + d + 1 := by omega
    rw [e, h2, look_putA_ne (fun hd => h (m + d) (by omega) (by omega) ⟨_, ho, hd⟩)]
    exact Text.slot hT d m (by omega) fun k h1 h2 => h k h1 (by omega)
theorem Text.objs (hT : Text E ora ops tr) : ∀ (d m : Nat), m + d ≤ ops.size → (∀ k, m ≤ k → k < m + d → ¬ Moves E ops k) → (tr (m + d)).2 = (tr m).2
  | 0, _, _, _ => rfl
  | d + 1, m, hn, h => by
    have ho : ops[m + d]? = some ops[m + d] := Array.getElem?_eq_getElem (by omega)
    obtain ⟨v, h1, _⟩ := hT.val ho
    have hc : cls E ops[m + d].op ≤ 1 := by
      by_cases hc : cls E ops[m + d].op ≤ 1
      · exact hc
      · exact absurd ⟨_, ho, hc⟩ (h (m + d) (by omega) (by omega))
    have e : m + (d + 1) = m + d + 1 := by omega
    rw [e, stepV_reads hc h1]
    exact Text.objs hT d m (by omega) fun k h1 h2 => h k h1 (by omega)
theorem Text.slot2 (hT : Text E ora ops tr) {t m i : Nat} (hm : m ≤ ops.size) (hi : i ≤ ops.size) (h1 : ∀ k, m ≤ k → k < i → ¬ Writes ops t k) (h2 : ∀ k, i ≤ k → k < m → ¬ Writes ops t k) : look (tr m).1 t = look (tr i).1 t := by
  rcases Nat.le_total m i with h | h
  · obtain ⟨d, rfl⟩ := Nat.le.dest h
    exact (hT.slot d m hi h1).symm
  · obtain ⟨d, rfl⟩ := Nat.le.dest h
    exact hT.slot d i hm h2
theorem Text.objs2 (hT : Text E ora ops tr) {m i : Nat} (hm : m ≤ ops.size) (hi : i ≤ ops.size) (h1 : ∀ k, m ≤ k → k < i → ¬ Moves E ops k) (h2 : ∀ k, i ≤ k → k < m → ¬ Moves E ops k) : (tr m).2 = (tr i).2 := by
  rcases Nat.le_total m i with h | h
  · obtain ⟨d, rfl⟩ := Nat.le.dest h
    exact (hT.objs d m hi h1).symm
  · obtain ⟨d, rfl⟩ := Nat.le.dest h
    exact hT.objs d i hm h2

def Shut (ops : Array Oper) (L : Nat → Prop) : Prop := ∀ j o e, L j → ops[j]? = some o → e ∈ o.after → Region.binds .any e = true → L e.on
theorem Shut.anc (h : Shut ops L) {i j : Nat} (ha : Anc ops i j) : L j → L i := by
  induction ha with
  | step h1 h2 h3 => exact fun hj => h _ _ _ hj h1 h2 h3
  | trans h1 h2 h3 _ ih => exact fun hj => ih (h _ _ _ hj h1 h2 h3)
theorem Shut.ancR (h : Shut ops L) {i j : Nat} {o : Oper} (ho : ops[j]? = some o) (hr : ∀ e, e ∈ o.after → Region.binds .any e = true → L e.on) (ha : Anc ops i j) : L i := by
  cases ha with
  | step h1 h2 h3 => rw [ho] at h1; injection h1 with h1; subst h1; exact hr _ h2 h3
  | trans h1 h2 h3 h4 => rw [ho] at h1; injection h1 with h1; subst h1; exact h.anc h4 (hr _ h2 h3)

/-- What is on the way: W says who writes; m: how far the text's order is gone, for W. -/
def Gone (L : Nat → Prop) (W : Nat → Prop) (m : Nat) : Prop := (∀ k, k < m → W k → L k) ∧ ∀ k, m ≤ k → W k → ¬ L k
structure DrawInv (E : Env) (ops : Array Oper) (tr : Nat → Fr × List Ob) (L : Nat → Prop) (F : Fr) (S : List Ob) : Prop where
  slot : ∀ t, ∃ m, m ≤ ops.size ∧ look F t = look (tr m).1 t ∧ Gone L (Writes ops t) m
  objs : ∃ m, m ≤ ops.size ∧ S = (tr m).2 ∧ Gone L (Moves E ops) m
  shut : Shut ops L
/-- i may come next -/
structure Next (ops : Array Oper) (L : Nat → Prop) (i : Nat) (o : Oper) : Prop where
  at_ : ops[i]? = some o
  new : ¬ L i
  rdy : ∀ e, e ∈ o.after → Region.binds .any e = true → L e.on
/-- i is ordered with all of W -/
def Ordered (ops : Array Oper) (W : Nat → Prop) (i : Nat) : Prop := (∀ k, k < i → W k → Anc ops k i) ∧ ∀ k, i < k → W k → Anc ops i k
theorem between {W : Nat → Prop} {i m : Nat} {o : Oper} (hS : Shut ops L) (hN : Next ops L i o) (hO : Ordered ops W i) (hG : Gone L W m) : (∀ k, m ≤ k → k < i → ¬ W k) ∧ ∀ k, i ≤ k → k < m → ¬ W k := by
  refine ⟨fun k h1 h2 hw => hG.2 k h1 hw (hS.ancR hN.at_ hN.rdy (hO.1 k h2 hw)), fun k h1 h2 hw => ?_⟩
  have hk := hG.1 k h2 hw
  rcases Nat.lt_or_ge i k with h | h
  · exact hN.new (hS.anc (hO.2 k h hw) hk)
  · have : i = k := by omega
    subst this
    exact hN.new hk
theorem gone_next {W : Nat → Prop} {i : Nat} {o : Oper} (hS : Shut ops L) (hN : Next ops L i o) (hO : Ordered ops W i) : Gone (fun k => L k ∨ k = i) W (i + 1) := by
  refine ⟨fun k h hw => ?_, fun k h hw => ?_⟩
  · rcases Nat.lt_or_ge k i with h1 | h1
    · exact .inl (hS.ancR hN.at_ hN.rdy (hO.1 k h1 hw))
    · exact .inr (by omega)
  · rintro (h1 | h1)
    · exact hN.new (hS.anc (hO.2 k (by omega) hw) h1)
    · omega
theorem gone_keep {W : Nat → Prop} {i m : Nat} (hG : Gone L W m) (hw : ¬ W i) : Gone (fun k => L k ∨ k = i) W m :=
  ⟨fun k h1 h2 => .inl (hG.1 k h1 h2), fun k h1 h2 h => h.elim (hG.2 k h1 h2) fun e => hw (e ▸ h2)⟩
theorem ord_looks (hD : DrawOk E ops) {i : Nat} {o : Oper} (ho : ops[i]? = some o) {t : Nat} (ht : t ∈ o.looksAt ops) : Ordered ops (Writes ops t) i := by
  refine ⟨fun k hk ⟨p, hp, hd⟩ => ?_, fun k hk ⟨p, hp, hd⟩ => ?_⟩
  · rcases hD.pair k i p o hk hp ho with h | h
    · exact h
    · unfold okPair at h
      rw [Bool.and_eq_true] at h
      exact absurd ht ((Oper.apart_spec h.1).1 t hd)
  · rcases hD.pair i k o p hk ho hp with h | h
    · exact h
    · unfold okPair at h
      rw [Bool.and_eq_true] at h
      exact absurd ht ((Oper.apart_spec h.1).2.2 t hd)
theorem ord_dst (hD : DrawOk E ops) {i : Nat} {o : Oper} (ho : ops[i]? = some o) {t : Nat} (ht : o.dst = some t) : Ordered ops (Writes ops t) i := by
  refine ⟨fun k hk ⟨p, hp, hd⟩ => ?_, fun k hk ⟨p, hp, hd⟩ => ?_⟩
  · rcases hD.pair k i p o hk hp ho with h | h
    · exact h
    · unfold okPair at h
      rw [Bool.and_eq_true] at h
      exact absurd ht ((Oper.apart_spec h.1).2.1 t hd)
  · rcases hD.pair i k o p hk ho hp with h | h
    · exact h
    · unfold okPair at h
      rw [Bool.and_eq_true] at h
      exact absurd hd ((Oper.apart_spec h.1).2.1 t ht)
theorem ord_moves (hD : DrawOk E ops) {i : Nat} {o : Oper} (ho : ops[i]? = some o) (hc : cls E o.op ≠ 0) : Ordered ops (Moves E ops) i := by
  refine ⟨fun k hk ⟨p, hp, hd⟩ => ?_, fun k hk ⟨p, hp, hd⟩ => ?_⟩
  · rcases hD.pair k i p o hk hp ho with h | h
    · exact h
    · simp only [okPair, Bool.and_eq_true, Bool.or_eq_true, beq_iff_eq, Nat.ble_eq] at h
      omega
  · rcases hD.pair i k o p hk ho hp with h | h
    · exact h
    · simp only [okPair, Bool.and_eq_true, Bool.or_eq_true, beq_iff_eq, Nat.ble_eq] at h
      omega
theorem DrawInv.step (hD : DrawOk E ops) (hT : Text E ora ops tr) {F : Fr} {S : List Ob} (hI : DrawInv E ops tr L F S) {i : Nat} {o : Oper} (hN : Next ops L i o) :
    ∃ F' S', stepA E ora ops.toList o (F, S) = some (F', S') ∧ DrawInv E ops tr (fun k => L k ∨ k = i) F' S' := by
  have hlt : i < ops.size := (Array.getElem?_eq_some_iff.1 hN.at_).1
  obtain ⟨v, h1, h2⟩ := hT.val hN.at_
  have hF : stepV E ora ops.toList o F (tr i).2 = some (v, (tr (i + 1)).2) := by
    rw [← h1]
    refine stepV_congr fun t ht => ?_
    obtain ⟨m, m1, m2, m3⟩ := hI.slot t
    obtain ⟨b1, b2⟩ := between hI.shut hN (ord_looks hD hN.at_ ht) m3
    rw [m2]
    exact hT.slot2 m1 (by omega) b1 b2
  have slots : ∀ t, ∃ m, m ≤ ops.size ∧ look (putA F o.dst v) t = look (tr m).1 t ∧ Gone (fun k => L k ∨ k = i) (Writes ops t) m := by
    intro t
    by_cases hd : o.dst = some t
    · refine ⟨i + 1, by omega, ?_, gone_next hI.shut hN (ord_dst hD hN.at_ hd)⟩
      rw [h2, hd, look_putA_eq, look_putA_eq]
    · obtain ⟨m, m1, m2, m3⟩ := hI.slot t
      refine ⟨m, m1, ?_, gone_keep m3 fun ⟨p, hp, hpd⟩ => ?_⟩
      · rw [look_putA_ne hd, m2]
      · rw [hN.at_] at hp; injection hp with hp; subst hp; exact hd hpd
  have shut : Shut ops (fun k => L k ∨ k = i) := by
    rintro j o' e (hj | rfl) ho' he hb
    · exact .inl (hI.shut j o' e hj ho' he hb)
    · rw [hN.at_] at ho'; injection ho' with ho'; subst ho'
      exact .inl (hN.rdy e he hb)
  have same : cls E o.op ≠ 0 → S = (tr i).2 := fun hc => by
    obtain ⟨m, m1, m2, m3⟩ := hI.objs
    obtain ⟨b1, b2⟩ := between hI.shut hN (ord_moves hD hN.at_ hc) m3
    rw [m2]
    exact hT.objs2 m1 (by omega) b1 b2
  have keep : cls E o.op ≤ 1 → ∃ m, m ≤ ops.size ∧ S = (tr m).2 ∧ Gone (fun k => L k ∨ k = i) (Moves E ops) m := fun hc => by
    obtain ⟨m, m1, m2, m3⟩ := hI.objs
    refine ⟨m, m1, m2, gone_keep m3 fun ⟨p, hp, hpd⟩ => ?_⟩
    rw [hN.at_] at hp; injection hp with hp; subst hp; exact hpd hc
  have fin : ∀ S', stepV E ora ops.toList o F S = some (v, S') → stepA E ora ops.toList o (F, S) = some (putA F o.dst v, S') := fun S' h => by rw [stepA_eq, h]; rfl
  by_cases h0 : cls E o.op = 0
  · exact ⟨_, S, fin _ (stepV_free h0 hF), slots, keep (by omega), shut⟩
  · have hs := same h0
    rw [← hs] at hF
    by_cases h1 : cls E o.op ≤ 1
    · rw [stepV_reads h1 hF] at hF
      exact ⟨_, S, fin _ hF, slots, keep h1, shut⟩
    · exact ⟨_, _, fin _ hF, slots, ⟨i + 1, by omega, rfl, gone_next hI.shut hN (ord_moves hD hN.at_ h0)⟩, shut⟩
theorem DrawInv.done (hT : Text E ora ops tr) {F : Fr} {S : List Ob} (hI : DrawInv E ops tr L F S) (hL : ∀ i, i < ops.size → L i) : (∀ t, look F t = look (tr ops.size).1 t) ∧ S = (tr ops.size).2 := by
  refine ⟨fun t => ?_, ?_⟩
  · obtain ⟨m, m1, m2, m3⟩ := hI.slot t
    rw [m2]
    exact hT.slot2 m1 (Nat.le_refl _) (fun k h1 h2 hw => m3.2 k h1 hw (hL k h2)) (fun k h1 h2 => by omega)
  · obtain ⟨m, m1, m2, m3⟩ := hI.objs
    rw [m2]
    exact hT.objs2 m1 (Nat.le_refl _) (fun k h1 h2 hw => m3.2 k h1 hw (hL k h2)) (fun k h1 h2 => by omega)
theorem all_listed (hD : DrawOk E ops) {listed : Array Bool} (hs : listed.size = ops.size) (hr : Region.ready .any ops listed = []) : ∀ i, i < ops.size → listed.getD i false = true := by
  intro i
  induction i using Nat.strongRecOn with
  | ind i ih =>
    intro hi
    cases hl : listed.getD i false with
    | true => rfl
    | false =>
      exfalso
      have : i ∈ Region.ready .any ops listed := by
        rw [mem_ready]
        refine ⟨?_, ops[i], Array.getElem?_eq_getElem hi, fun e he hb => ?_⟩
        · rw [Array.getD_eq_getD_getElem?, Array.getElem?_eq_getElem (by omega)] at hl ⊢
          exact hl
        · have := hD.back i _ e (Array.getElem?_eq_getElem hi) he hb
          exact ih _ this (by omega)
      rw [hr] at this
      cases this
theorem draw_any (hE : EnvOk E) (hora : OraOk E.P ora) (hD : DrawOk E ops) (hT : Text E ora ops tr) {Q : Exit → Act → World → Prop} : ∀ (fuel : Nat) (listed : Array Bool) (c : Cx) (w : World) (S : List Ob) (F : Fr) (a : Act),
    listed.size = ops.size → listed.toList.count false = fuel → DrawInv E ops tr (fun k => listed.getD k false = true) F S → Inv c w S → FR c F a → (∀ (i : Nat) (o : Oper), ops[i]? = some o → ∀ d, o.dst = some d → d < a.tmps.size) →
    (∀ c' w' a', Le c c' w.heap.size → Keep c w w' → Inv c' w' (tr ops.size).2 → FR c' (tr ops.size).1 a' → a'.tmps.size = a.tmps.size → a'.defers = a.defers → Q .normal a' w') → wpAny E.P .any ops Q fuel listed a w := by
  intro fuel
  induction fuel with
  | zero =>
    intro listed c w S F a hs hc hI hV hF hd hQ
    have hall : ∀ i, i < ops.size → listed.getD i false = true := fun i hi => by
      have hi' : i < listed.size := by omega
      rw [Array.getD_eq_getD_getElem?, Array.getElem?_eq_getElem hi']
      simp only [Option.getD_some]
      cases hb : listed[i] with
      | true => rfl
      | false =>
        have : false ∈ listed.toList := by rw [← hb]; simp
        have := List.count_pos_iff.2 this
        omega
    unfold wpAny
    refine ⟨?_, ?_⟩
    · rw [List.eq_nil_iff_forall_not_mem]
      intro i hi
      rw [mem_ready] at hi
      obtain ⟨h1, o, ho, _⟩ := hi
      have hlt : i < ops.size := (Array.getElem?_eq_some_iff.1 ho).1
      have := hall i hlt
      rw [Array.getD_eq_getD_getElem?, Array.getElem?_eq_getElem (by omega)] at h1 this
      simp only [Option.getD_some] at h1 this
      rw [h1] at this
      cases this
    · obtain ⟨h1, h2⟩ := hI.done hT hall
      subst h2
      exact hQ c w a (Le.refl _ _) (Keep.refl _ _) hV (fun t => by rw [← h1 t]; exact hF t) rfl rfl
  | succ fuel ih =>
    intro listed c w S F a hs hc hI hV hF hd hQ
    unfold wpAny
    refine ⟨fun hr => ?_, fun i hi => ?_⟩
    · obtain ⟨h1, h2⟩ := hI.done hT (all_listed hD hs hr)
      subst h2
      exact hQ c w a (Le.refl _ _) (Keep.refl _ _) hV (fun t => by rw [← h1 t]; exact hF t) rfl rfl
    · rw [mem_ready] at hi
      obtain ⟨h1, o, ho, hrd⟩ := hi
      have hlt : i < ops.size := (Array.getElem?_eq_some_iff.1 ho).1
      have hli : listed[i] = false := by
        rw [Array.getD_eq_getD_getElem?, Array.getElem?_eq_getElem (by omega)] at h1
        exact h1
      have hN : Next ops (fun k => listed.getD k false = true) i o := ⟨ho, by
        rw [Array.getD_eq_getD_getElem?, Array.getElem?_eq_getElem (by omega)]
        simp [hli], hrd⟩
      obtain ⟨F', S', g1, g2⟩ := hI.step hD hT hN
      unfold wpOp
      simp only [ho]
      refine op_step hE hora hV hF g1 (hd i o ho) fun c' w' a' l1 l2 l3 l4 l5 l6 => ?_
      refine ih (listed.setIfInBounds i true) c' w' S' F' a' (by simp [hs]) ?_ ?_ l3 l4 (fun j o' ho' d hd' => by rw [l5]; exact hd j o' ho' d hd') fun c2 w2 a2 m1 m2 m3 m4 m5 m6 => ?_
      · rw [Array.toList_setIfInBounds, List.count_set (by simpa using (by omega : i < listed.size))]
        simp only [Array.getElem_toList, hli]
        rw [hc]
        simp
      · have : (fun k => (listed.setIfInBounds i true).getD k false = true) = fun k => listed.getD k false = true ∨ k = i := by
          funext k
          apply propext
          by_cases hk : k = i
          · subst hk
            simp [show k < listed.size by omega]
          · have := getD_set_ne (listed := listed) false (i := i) (j := k) (fun e => hk e.symm)
            rw [this]
            simp [hk]
        rw [this]
        exact g2
      · exact hQ c2 w2 a2 (l1.trans m1 l2.size) (l2.trans m2 l1) m3 m4 (m5.trans l5) (m6.trans l6)
end
end Go.Proofs.Ytbehhhlidaiblaa.Ai
