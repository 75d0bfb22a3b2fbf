/- What a call hands back; calls, as deep as they go. -/
import Derived.Test.YtbehhhlidaiblaaAi11
namespace Go.Proofs.Ytbehhhlidaiblaa.Ai
open Go Go.RowKit
section
variable {E : Env} {ora : Ora} {c : Cx} {w : World} {S : List Ob} {M : Nat → Nat → Option Value}

def expC (c : Cx) (M : Nat → Nat → Option Value) (us : List Nat) : Cx where
  im := M
  bk := fun j => c.bk (us.getD j 0)
  n := us.length
  len := fun j => c.len (us.getD j 0)
  sz := fun j => c.sz (us.getD j 0)
  bs := fun j => c.bs (us.getD j 0)
structure FinInv (S : List Ob) (used : List Nat) (objs : List Ob) : Prop where
  len : used.length = objs.length
  nd : used.Nodup
  at_ : ∀ (j : Nat) (O' : Ob), objs[j]? = some O' → ∃ (i : Nat) (O : Ob), used.reverse[j]? = some i ∧ S[i]? = some O ∧ O' = expOb S O
theorem FinInv.push {used : List Nat} {objs : List Ob} (h : FinInv S used objs) {i : Nat} {O : Ob} (hO : S[i]? = some O) (hn : used.contains i = false) : FinInv S (i :: used) (objs ++ [expOb S O]) := by
  refine ⟨by simp [h.len], List.nodup_cons.2 ⟨by simpa using hn, h.nd⟩, fun j O' hj => ?_⟩
  rcases Nat.lt_or_ge j objs.length with hlt | hge
  · rw [List.getElem?_append_left hlt] at hj
    obtain ⟨i', O2, h1, h2, h3⟩ := h.at_ j O' hj
    exact ⟨i', O2, by rw [List.reverse_cons, List.getElem?_append_left (by simp [h.len]; omega)]; exact h1, h2, h3⟩
  · rw [List.getElem?_append_right hge] at hj
    have hj0 : j = objs.length := by
      have := (List.getElem?_eq_some_iff.1 hj).1
      simp at this
      omega
    subst hj0
    simp at hj
    refine ⟨i, O, ?_, hO, hj.symm⟩
    rw [List.reverse_cons, List.getElem?_append_right (by simp [h.len])]
    simp [h.len]
def Good (c : Cx) (M : Nat → Nat → Option Value) (S : List Ob) (used : List Nat) (objs : List Ob) (t : T) (r : T × List Nat × List Ob) : Prop :=
  FinInv S used objs → FinInv S r.2.1 r.2.2 ∧ (∃ x, r.2.1.reverse = used.reverse ++ x) ∧ ∀ v us y, VR c t v → us = r.2.1.reverse ++ y → VR (expC c M us) r.1 v
theorem alive_get {i k : Nat} {O : Ob} (h : alive S i k = some O) : S[i]? = some O ∧ O.rows.length = k := by
  unfold alive at h
  split at h
  · rename_i O' hO
    split at h
    · rename_i hk
      injection h with h
      subst h
      exact ⟨hO, hk⟩
    · cases h
  · cases h
theorem finLeaf_ok (hI : Inv c w S) (hM : ∀ b o v, c.im b o = some v → M b o = some v) {used : List Nat} {objs : List Ob} {t : T} {r : T × List Nat × List Ob} (h : finLeaf S used objs t = some r) : ret1 r.1 = true ∧ Good c M S used objs t r := by
  have imm : ∀ {t : T}, closed1 t = true → r = (t, used, objs) → ret1 r.1 = true ∧ Good c M S used objs t r := fun {t} hc hr => by
    subst hr
    refine ⟨by cases t <;> first | rfl | (simp [closed1] at hc), fun hJ => ⟨hJ, ⟨[], by simp⟩, fun v us y hv _ => ?_⟩⟩
    cases hv with
    | im h => exact .im (h.mono hM)
    | _ => simp [closed1] at hc
  cases t with
  | val v => injection h with h; exact imm rfl h.symm
  | nil => injection h with h; exact imm rfl h.symm
  | sl rows => injection h with h; exact imm rfl h.symm
  | ip cs => injection h with h; exact imm rfl h.symm
  | os i k =>
    simp only [finLeaf, Option.bind_eq_some_iff] at h
    obtain ⟨O, hO, h⟩ := h
    split at h
    · cases h
    · rename_i hc
      injection h with h
      subst h
      refine ⟨rfl, fun hJ => ?_⟩
      have hJ' := hJ.push (alive_get hO).1 (by simpa using hc)
      refine ⟨hJ', ⟨[i], by simp⟩, fun v us y hv hus => ?_⟩
      obtain ⟨hi, k1, cap, rfl, hcap, hm, hb⟩ := vr_os hI hv hO
      have hu : us.getD objs.length 0 = i := by
        rw [hus, List.getD_eq_getElem?_getD, List.reverse_cons, List.append_assoc, List.getElem?_append_right (by simp [hJ.len])]
        simp [hJ.len]
      have hlen : objs.length < us.length := by rw [hus]; simp [hJ.len]
      have hk := (alive_get hO).2
      have e : (⟨c.bk i, 0, none⟩ : Addr) = ⟨(expC c M us).bk objs.length, 0, none⟩ := by simp only [expC, hu]
      rw [e]
      refine .os hlen (by simp only [expC, hu]; rw [k1.len]; exact hk) hcap hm (by simp only [expC, hu]; rw [k1.sz]; exact hb)
  | ref i k row off =>
    simp only [finLeaf, Option.bind_eq_some_iff] at h
    obtain ⟨O, hO, h⟩ := h
    split at h
    · cases h
    · rename_i hc
      injection h with h
      subst h
      refine ⟨rfl, fun hJ => ?_⟩
      have hJ' := hJ.push (alive_get hO).1 (by simpa using hc)
      refine ⟨hJ', ⟨[i], by simp⟩, fun v us y hv hus => ?_⟩
      obtain ⟨hi, k1, rfl⟩ := vr_ref hI hv hO
      have hu : us.getD objs.length 0 = i := by
        rw [hus, List.getD_eq_getElem?_getD, List.reverse_cons, List.append_assoc, List.getElem?_append_right (by simp [hJ.len])]
        simp [hJ.len]
      have hlen : objs.length < us.length := by rw [hus]; simp [hJ.len]
      have hk := (alive_get hO).2
      have := @VR.ref (expC c M us) objs.length k row off hlen (by simp only [expC, hu]; rw [k1.len]; exact hk)
      simp only [expC, hu, k1.sz] at this ⊢
      exact this
  | agg cs => cases h
  | tup vs => cases h
  | fn f caps => cases h
  | junk => cases h
theorem finList_ok (hI : Inv c w S) (hM : ∀ b o v, c.im b o = some v → M b o = some v) : ∀ (ts : List T) {used : List Nat} {objs : List Ob} {r : List T × List Nat × List Ob}, finList S used objs ts = some r →
    r.1.all ret1 = true ∧ (FinInv S used objs → FinInv S r.2.1 r.2.2 ∧ (∃ x, r.2.1.reverse = used.reverse ++ x) ∧ r.1.length = ts.length ∧ ∀ (j : Nat) (t t' : T), ts[j]? = some t → r.1[j]? = some t' → ∀ (v : Value) (us y : List Nat), VR c t v → us = r.2.1.reverse ++ y → VR (expC c M us) t' v)
  | [], used, objs, r, h => by
    injection h with h
    subst h
    exact ⟨rfl, fun hJ => ⟨hJ, ⟨[], by simp⟩, rfl, fun j t t' hj => by simp at hj⟩⟩
  | t :: ts, used, objs, r, h => by
    simp only [finList, Option.bind_eq_some_iff, Option.map_eq_some_iff] at h
    obtain ⟨x, hx, y, hy, rfl⟩ := h
    obtain ⟨a1, a2⟩ := finLeaf_ok hI hM hx
    obtain ⟨b1, b2⟩ := finList_ok hI hM ts hy
    refine ⟨by simp [a1]; simpa using b1, fun hJ => ?_⟩
    obtain ⟨c1, ⟨x1, c2⟩, c3⟩ := a2 hJ
    obtain ⟨d1, ⟨x2, d2⟩, d3, d4⟩ := b2 c1
    refine ⟨d1, ⟨x1 ++ x2, by simp only [d2, c2, List.append_assoc]⟩, by simp [d3], fun j t0 t' hj hj' v us z hv hus => ?_⟩
    cases j with
    | zero =>
      simp at hj hj'
      subst hj hj'
      exact c3 v us (x2 ++ z) hv (by rw [hus, d2, List.append_assoc])
    | succ j =>
      simp at hj hj'
      exact d4 j t0 t' hj hj' v us z hv hus
theorem finVal_ok (hI : Inv c w S) (hM : ∀ b o v, c.im b o = some v → M b o = some v) {used : List Nat} {objs : List Ob} {t : T} {r : T × List Nat × List Ob} (h : finVal S used objs t = some r) : retP r.1 = true ∧ Good c M S used objs t r := by
  by_cases ha : ∃ cs, t = .agg cs
  · obtain ⟨cs, rfl⟩ := ha
    simp only [finVal, Option.map_eq_some_iff] at h
    obtain ⟨y, hy, rfl⟩ := h
    obtain ⟨b1, b2⟩ := finList_ok hI hM cs hy
    refine ⟨b1, fun hJ => ?_⟩
    obtain ⟨d1, d2, d3, d4⟩ := b2 hJ
    refine ⟨d1, d2, fun v us z hv hus => ?_⟩
    obtain ⟨vs, rfl, h1, h2⟩ := vr_agg hv
    refine .agg (by simp only [d3, h1]) fun j t' hj => ?_
    have hlt : j < cs.length := by
      have := (List.getElem?_eq_some_iff.1 hj).1
      simp only [d3] at this
      exact this
    exact d4 j cs[j] t' (List.getElem?_eq_getElem hlt) hj _ us z (h2 j _ (List.getElem?_eq_getElem hlt)) hus
  · have e : finVal S used objs t = finLeaf S used objs t := by
      cases t <;> first | rfl | exact absurd ⟨_, rfl⟩ ha
    rw [e] at h
    obtain ⟨a1, a2⟩ := finLeaf_ok hI hM h
    refine ⟨?_, a2⟩
    generalize r.1 = x at a1
    cases x <;> first | exact a1 | (simp [ret1, closed1] at a1)
theorem finVals_ok (hI : Inv c w S) (hM : ∀ b o v, c.im b o = some v → M b o = some v) : ∀ (ts : List T) {used : List Nat} {objs : List Ob} {r : List T × List Nat × List Ob}, finVals S used objs ts = some r →
    r.1.all retP = true ∧ (FinInv S used objs → FinInv S r.2.1 r.2.2 ∧ (∃ x, r.2.1.reverse = used.reverse ++ x) ∧ r.1.length = ts.length ∧ ∀ (j : Nat) (t t' : T), ts[j]? = some t → r.1[j]? = some t' → ∀ (v : Value) (us y : List Nat), VR c t v → us = r.2.1.reverse ++ y → VR (expC c M us) t' v)
  | [], used, objs, r, h => by
    injection h with h
    subst h
    exact ⟨rfl, fun hJ => ⟨hJ, ⟨[], by simp⟩, rfl, fun j t t' hj => by simp at hj⟩⟩
  | t :: ts, used, objs, r, h => by
    simp only [finVals, Option.bind_eq_some_iff, Option.map_eq_some_iff] at h
    obtain ⟨x, hx, y, hy, rfl⟩ := h
    obtain ⟨a1, a2⟩ := finVal_ok hI hM hx
    obtain ⟨b1, b2⟩ := finVals_ok hI hM ts hy
    refine ⟨by simp [a1]; simpa using b1, fun hJ => ?_⟩
    obtain ⟨c1, ⟨x1, c2⟩, c3⟩ := a2 hJ
    obtain ⟨d1, ⟨x2, d2⟩, d3, d4⟩ := b2 c1
    refine ⟨d1, ⟨x1 ++ x2, by simp only [d2, c2, List.append_assoc]⟩, by simp [d3], fun j t0 t' hj hj' v us z hv hus => ?_⟩
    cases j with
    | zero =>
      simp at hj hj'
      subst hj hj'
      exact c3 v us (x2 ++ z) hv (by rw [hus, d2, List.append_assoc])
    | succ j =>
      simp at hj hj'
      exact d4 j t0 t' hj hj' v us z hv hus
/-- What is handed back, before it is known what must be frozen. -/
theorem fin_pre (hI : Inv c w S) {t : T} {r : T × List Ob} (h : fin S t = some r) : ∃ (us : List Nat) (objs : List Ob), r.2 = finFr objs ∧ retV r.1 = true ∧ FinInv S us objs ∧ ∀ M : Nat → Nat → Option Value, (∀ b o v, c.im b o = some v → M b o = some v) → ∀ v, VR c t v → VR (expC c M us.reverse) r.1 v := by
  have hJ0 : FinInv S [] [] := ⟨rfl, List.nodup_nil, fun j O' hj => by simp at hj⟩
  by_cases ha : ∃ cs, t = .tup cs
  · obtain ⟨cs, rfl⟩ := ha
    simp only [fin, Option.map_eq_some_iff] at h
    obtain ⟨y, hy, rfl⟩ := h
    have b1 := (finVals_ok hI (M := c.im) (fun _ _ _ h => h) cs hy).1
    have b2 := ((finVals_ok hI (M := c.im) (fun _ _ _ h => h) cs hy).2 hJ0).1
    refine ⟨y.2.1, y.2.2, rfl, b1, b2, fun M hM v hv => ?_⟩
    obtain ⟨d1, d2, d3, d4⟩ := (finVals_ok hI hM cs hy).2 hJ0
    cases hv with
    | im hv => cases hv
    | tup h1 h2 =>
      refine .tup (by simp only [d3, h1]) fun j t' hj => ?_
      have hlt : j < cs.length := by
        have := (List.getElem?_eq_some_iff.1 hj).1
        simp only [d3] at this
        exact this
      exact d4 j cs[j] t' (List.getElem?_eq_getElem hlt) hj _ _ [] (h2 j _ (List.getElem?_eq_getElem hlt)) (by simp)
  · have e : fin S t = (finVal S [] [] t).map fun y => (y.1, finFr y.2.2) := by
      cases t <;> first | rfl | exact absurd ⟨_, rfl⟩ ha
    rw [e, Option.map_eq_some_iff] at h
    obtain ⟨y, hy, rfl⟩ := h
    have b1 := (finVal_ok hI (M := c.im) (fun _ _ _ h => h) hy).1
    have b2 := ((finVal_ok hI (M := c.im) (fun _ _ _ h => h) hy).2 hJ0).1
    refine ⟨y.2.1, y.2.2, rfl, ?_, b2, fun M hM v hv => ?_⟩
    · simp only
      generalize y.1 = x at b1
      cases x <;> first | exact b1 | (simp [retP, ret1, closed1] at b1)
    · obtain ⟨d1, d2, d3⟩ := (finVal_ok hI hM hy).2 hJ0
      exact d3 v _ [] hv (by simp)
theorem rows_len (S : List Ob) (O : Ob) : (expOb S O).rows.length = O.rows.length := by unfold expOb; simp only; split <;> simp
theorem fin_made (hI : Inv c w S) {im : Nat → Nat → Option Value} {B : Nat} (hLe : Le (base im) c B) {us : List Nat} {objs : List Ob} (hlen : us.length = objs.length) (hnd : us.Nodup)
    (h1 : ∀ b o v, c.im b o = some v → M b o = some v) (h2 : ∀ b o v, M b o = some v → w.cell? ⟨b, o, none⟩ = some v) (h3 : ∀ b o v, M b o = some v → im b o = none → B ≤ b)
    (hat : ∀ (j : Nat) (O' : Ob), objs[j]? = some O' → ∃ (i : Nat) (O : Ob), us[j]? = some i ∧ S[i]? = some O ∧ O'.rows = (expOb S O).rows ∧ O'.sz = O.sz ∧ O'.e = O.e ∧ O'.cl = true ∧
      (O.cl = true ∨ ∀ b o v, imOwn c w S b o = some v → M b o = some v) ∧ ∀ o v, M (c.bk i) o = some v → O'.froz = true ∧ o < O.rows.length * O.sz) :
    Le (base im) (expC c M us) B ∧ Inv (expC c M us) w objs := by
  have hn := hI.n
  have nob : ∀ i, ¬ i < (base im).n := fun i hi => by simp [base] at hi
  have bnd : ∀ i, i < c.n → B ≤ c.bk i := fun i hi => by
    rcases hLe.own i hi with h | ⟨j, hj, _⟩
    · exact h
    · exact absurd hj (nob j)
  have mem : ∀ j, j < us.length → ∃ i O, us[j]? = some i ∧ us.getD j 0 = i ∧ S[i]? = some O ∧ i < c.n := fun j hj => by
    obtain ⟨i, O, a1, a2, _⟩ := hat j objs[j] (List.getElem?_eq_getElem (by omega))
    exact ⟨i, O, a1, by rw [List.getD_eq_getElem?_getD, a1]; rfl, a2, by rw [hn]; exact (List.getElem?_eq_some_iff.1 a2).1⟩
  refine ⟨⟨fun b o v hv => h1 _ _ _ (hLe.im _ _ _ hv), Nat.zero_le _, fun i hi => absurd hi (nob i), fun i hi => absurd hi (nob i), fun i hi => absurd hi (nob i), fun b o v hv hv' => .inl (h3 b o v hv hv'), fun j hj => ?_⟩, ⟨hlen, h2, fun j O' hO' => ?_, fun i j hi hj he => ?_, fun j O' o v hO' hv => ?_⟩⟩
  · obtain ⟨i, O, a1, a2, a3, a4⟩ := mem j hj
    simp only [expC, a2]
    exact .inl (bnd i a4)
  · obtain ⟨i, O, a1, a2, a3, a4, a5, a6, a7, a8⟩ := hat j O' hO'
    have hu : us.getD j 0 = i := by rw [List.getD_eq_getElem?_getD, a1]; rfl
    have k := hI.ob i O a2
    obtain ⟨cs, b1, b2, b3, b4⟩ := k.blk
    have hrl : O'.rows.length = O.rows.length := by rw [a3, rows_len]
    refine ⟨by simp only [expC, hu]; rw [hrl]; exact k.len, by simp only [expC, hu]; rw [a4]; exact k.sz, fun r hr => ?_, by simp only [expC, hu]; exact k.lt,
      ⟨cs, by simp only [expC, hu]; rw [a5]; exact b1, by simp only [expC, hu]; exact b2, by rw [hrl, a4]; exact b3, fun q row x t hq hx => ?_⟩⟩
    · rw [a3] at hr
      rw [a4]
      unfold expOb at hr
      simp only at hr
      split at hr
      · exact k.row r hr
      · rw [List.mem_map] at hr
        obtain ⟨r0, hr0, rfl⟩ := hr
        rw [List.length_map]
        exact k.row r0 hr0
    · rw [a3] at hq
      rw [a4]
      by_cases hcl : O.cl = true
      · unfold expOb at hq
        simp only [hcl, if_true] at hq
        obtain ⟨v, v1, v2, v3, v4⟩ := b4 q row x t hq hx
        have v5 := (v4 hcl).mono h1
        exact ⟨v, v1, .im v5, v3, fun _ => v5⟩
      · unfold expOb at hq
        simp only [if_neg hcl] at hq
        rw [List.getElem?_map, Option.map_eq_some_iff] at hq
        obtain ⟨r0, hr0, rfl⟩ := hq
        rw [List.getElem?_map, Option.map_eq_some_iff] at hx
        obtain ⟨t0, ht0, rfl⟩ := hx
        obtain ⟨v, v1, v2, v3, v4⟩ := b4 q r0 x t0 hr0 ht0
        have v5 := (expo_ok hI 3 v2).mono (a7.resolve_left hcl)
        exact ⟨v, v1, .im v5, v3, fun _ => v5⟩
  · obtain ⟨i1, O1, a1, a2, a3, a4⟩ := mem i hi
    obtain ⟨i2, O2, b1, b2, b3, b4⟩ := mem j hj
    simp only [expC, a2, b2] at he
    have := hI.inj i1 i2 a4 b4 he
    subst this
    exact (List.getElem?_inj hi hnd).1 (a1.trans b1.symm)
  · obtain ⟨i, O, a1, a2, a3, a4, a5, a6, a7, a8⟩ := hat j O' hO'
    have hu : us.getD j 0 = i := by rw [List.getD_eq_getElem?_getD, a1]; rfl
    simp only [expC, hu] at hv
    have := a8 o v hv
    rw [a3, rows_len, a4]
    exact this
theorem fin_ok (hI : Inv c w S) {im : Nat → Nat → Option Value} {B : Nat} (hLe : Le (base im) c B) {t : T} {r : T × List Ob} (h : fin S t = some r) :
    ∃ c', Le (base im) c' B ∧ Inv c' w r.2 ∧ (∀ v, VR c t v → VR c' r.1 v) ∧ retV r.1 = true ∧ ∀ O, O ∈ r.2 → O.cl = true := by
  obtain ⟨us, objs, hr, hret, hJ, hv⟩ := fin_pre hI h
  have hcl : ∀ O, O ∈ finFr objs → O.cl = true := fun O hO => by
    unfold finFr at hO
    have hob : ∀ O, O ∈ objs → O.cl = true := fun O hO => by
      obtain ⟨j, hj⟩ := List.getElem?_of_mem hO
      obtain ⟨i, O0, _, _, rfl⟩ := hJ.at_ j O hj
      rfl
    cases hb : objs.all fun O => !O.froz with
    | true => rw [hb] at hO; exact hob O hO
    | false =>
      rw [hb] at hO
      simp only [cond_false, List.mem_map] at hO
      obtain ⟨O0, hO0, rfl⟩ := hO
      exact hob O0 hO0
  have h3 : ∀ b o v, c.im b o = some v → im b o = none → B ≤ b := fun b o v hv hn => by
    rcases hLe.fresh b o v hv hn with h | ⟨j, hj, _⟩
    · exact h
    · simp [base] at hj
  cases hb : objs.all fun O => !O.froz with
  | true =>
    have he : finFr objs = objs := by unfold finFr; rw [hb]; rfl
    obtain ⟨l1, l2⟩ := fin_made (us := us.reverse) (objs := objs) (M := c.im) hI hLe (by simp [hJ.len]) (List.pairwise_reverse.2 (hJ.nd.imp fun h => Ne.symm h)) (fun _ _ _ h => h) hI.im h3 fun j O' hj => by
      obtain ⟨i, O, a1, a2, rfl⟩ := hJ.at_ j O' hj
      have hf := List.all_eq_true.1 hb _ (List.mem_of_getElem? hj)
      simp only [expOb, Bool.not_eq_true', Bool.or_eq_false_iff, Bool.not_eq_false'] at hf
      refine ⟨i, O, a1, a2, rfl, rfl, rfl, rfl, .inl hf.2, fun o v hv => ?_⟩
      have := hI.frz i O o v a2 hv
      exact ⟨by simp only [expOb]; rw [this.1]; rfl, this.2⟩
    exact ⟨_, l1, by rw [hr, he]; exact l2, hv c.im (fun _ _ _ h => h), hret, by rw [hr]; exact hcl⟩
  | false =>
    have he : finFr objs = objs.map fun O => { O with froz := true } := by unfold finFr; rw [hb]; rfl
    obtain ⟨l1, l2⟩ := fin_made (us := us.reverse) (objs := objs.map fun O => { O with froz := true }) (M := imOwn c w S) hI hLe (by simp [hJ.len]) (List.pairwise_reverse.2 (hJ.nd.imp fun h => Ne.symm h)) (fun _ _ _ h => imOwn_im h) (fun b o v hv => imOwn_cell hI hv)
      (fun b o v hv hn => by
        unfold imOwn at hv
        split at hv
        · exact h3 b o v hv hn
        · split at hv
          · rename_i hex
            obtain ⟨i, O, e1, e2, _⟩ := hex
            have hi : i < c.n := by rw [hI.n]; exact (List.getElem?_eq_some_iff.1 e1).1
            rcases hLe.own i hi with h | ⟨j, hj, _⟩
            · omega
            · simp [base] at hj
          · cases hv)
      fun j O' hj => by
        rw [List.getElem?_map, Option.map_eq_some_iff] at hj
        obtain ⟨O1, hO1, rfl⟩ := hj
        obtain ⟨i, O, a1, a2, rfl⟩ := hJ.at_ j O1 hO1
        refine ⟨i, O, a1, a2, rfl, rfl, rfl, rfl, .inr fun _ _ _ h => h, fun o v hv => ⟨rfl, ?_⟩⟩
        unfold imOwn at hv
        split at hv
        · exact (hI.frz i O o v a2 hv).2
        · split at hv
          · rename_i hex
            obtain ⟨i', O2, e1, e2, e3⟩ := hex
            have hi : i < c.n := by rw [hI.n]; exact (List.getElem?_eq_some_iff.1 a2).1
            have hi' : i' < c.n := by rw [hI.n]; exact (List.getElem?_eq_some_iff.1 e1).1
            have := hI.inj i' i hi' hi e2
            subst this
            rw [a2] at e1
            injection e1 with e1
            subst e1
            exact e3
          · cases hv
    exact ⟨_, l1, by rw [hr, he]; exact l2, hv _ (fun _ _ _ h => imOwn_im h), hret, by rw [hr]; exact hcl⟩
end
end Go.Proofs.Ytbehhhlidaiblaa.Ai
