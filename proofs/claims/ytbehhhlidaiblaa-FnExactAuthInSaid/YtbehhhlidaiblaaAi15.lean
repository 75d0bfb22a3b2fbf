/- '==' of structs of single cells. -/
import Derived.Test.YtbehhhlidaiblaaAi14
import Derived.Laws.StructEq
import Derived.ChangeKeysEq
namespace Go.Proofs.Ytbehhhlidaiblaa.Ai
open Go Go.RowKit
/-- The kinds of a struct's cells: 0 a number, 1 a truth value, 2 a string. -/
def kindOf (P : Program) (t : Nat) : Option Nat :=
  match P.underlying t with
  | some (.int _) => some 0
  | some .bool => some 1
  | some .string => some 2
  | _ => none
def kindsFrom (P : Program) : Nat → List Field → Option (List Nat)
  | _, [] => some []
  | i, f :: fs => if f.offset = i ∧ (f.name == "_") = false ∧ P.plainKey f.type = true then (kindOf P f.type).bind fun k => (kindsFrom P (i + 1) fs).map fun l => k :: l else none
def kindsOf (P : Program) (t : Nat) : Option (List Nat) :=
  match P.underlying t with
  | some (.struct fs) => if P.stoodInHeld t = false ∧ P.eqGuardType P.depth t = false then kindsFrom P 0 fs.toList else none
  | _ => none
def eqKs : List Nat → List T → List T → Option Bool
  | [], [], [] => some true
  | 0 :: ks, .val (.int k a) :: xs, .val (.int k' b) :: ys => if k = k' then (eqKs ks xs ys).map fun c => (a == b) && c else none
  | 1 :: ks, .val (.bool a) :: xs, .val (.bool b) :: ys => (eqKs ks xs ys).map fun c => (a == b) && c
  | 2 :: ks, .val (.string a) :: xs, .val (.string b) :: ys => (eqKs ks xs ys).map fun c => (a.toList == b.toList) && c
  | _, _, _ => none
section
variable {P : Program} {c : Cx} {w : World}
theorem eqf_two {d : Nat} {xs ys : Array Value} {f : Field} {fs : List Field} {a b : Value} {r s : Bool} (hn : (f.name == "_") = false) (ha : (part f.type xs f.offset).run P w = .ok a w) (hb : (part f.type ys f.offset).run P w = .ok b w) (he : (Op.equalIn d f.type a b).run P w = .ok r w) (hr : (Op.eqFields d xs ys fs).run P w = .ok s w) : (Op.eqFields d xs ys (f :: fs)).run P w = .ok (r && s) w := by
  have hn' : f.name ≠ "_" := by simpa using hn
  rw [Op.eqFields]
  simp only [if_pos hn', Sem.run_bind, ha, hb, he, Result.andThen_ok]
  cases r
  · simp
  · simpa using hr
theorem vals_ok {d : Nat} {vs us : Array Value} : ∀ (fs : List Field) (i : Nat) (ks : List Nat) (xs ys : List T) (b : Bool), kindsFrom P i fs = some ks → eqKs ks xs ys = some b → (∀ (j : Nat) (t : T), xs[j]? = some t → VR c t (vs.getD (i + j) undef) ∧ i + j < vs.size) → (∀ (j : Nat) (t : T), ys[j]? = some t → VR c t (us.getD (i + j) undef) ∧ i + j < us.size) →
    (Op.eqFields (d + 1) vs us fs).run P w = .ok b w
  | [], i, ks, xs, ys, b, hk, h, hx, hy => by
    injection hk with hk
    subst hk
    cases xs <;> cases ys <;> simp [eqKs] at h
    subst h
    simp [Op.eqFields]
  | f :: fs, i, ks, xs, ys, b, hk, h, hx, hy => by
    simp only [kindsFrom] at hk
    split at hk
    · rename_i hc
      obtain ⟨h1, h2, h3⟩ := hc
      simp only [Option.bind_eq_some_iff, Option.map_eq_some_iff] at hk
      obtain ⟨k, hk1, l, hl, rfl⟩ := hk
      have get : ∀ {ws : Array Value} {v : Value}, ws.getD i undef = v → i < ws.size → (part f.type ws f.offset).run P w = .ok v w := fun {ws v} e hlt => by
        refine run_part_plain w h3 (xs := ws) (off := f.offset) (v := v) ?_
        rw [h1, Array.getElem?_eq_getElem hlt]
        rw [Array.getD_eq_getD_getElem?, Array.getElem?_eq_getElem hlt] at e
        exact congrArg some e
      have go : ∀ {x y : T} {xs' ys' : List T} {a b0 : Value} {r s : Bool}, xs = x :: xs' → ys = y :: ys' → vs.getD i undef = a → us.getD i undef = b0 → (Op.equalIn (d + 1) f.type a b0).run P w = .ok r w → eqKs l xs' ys' = some s → (Op.eqFields (d + 1) vs us (f :: fs)).run P w = .ok (r && s) w := by
        intro x y xs' ys' a b0 r s hxs hys ha hb he hs
        subst hxs hys
        refine eqf_two h2 (get ha (hx 0 x rfl).2) (get hb (hy 0 y rfl).2) he (vals_ok fs (i + 1) l xs' ys' s hl hs (fun j t hj => ?_) (fun j t hj => ?_))
        · have := hx (j + 1) t (by simpa using hj)
          rw [show i + 1 + j = i + (j + 1) by omega]
          exact this
        · have := hy (j + 1) t (by simpa using hj)
          rw [show i + 1 + j = i + (j + 1) by omega]
          exact this
      unfold eqKs at h
      split at h
      · rename_i e1; cases e1
      · rename_i ks' q a xs' q' b' ys' e1
        injection e1 with e1 e2
        subst e1 e2
        have hkk : q = q' := by
          by_cases hkk : q = q'
          · exact hkk
          · rw [if_neg hkk] at h; cases h
        rw [if_pos hkk] at h
        subst hkk
        rw [Option.map_eq_some_iff] at h
        obtain ⟨s, hs, rfl⟩ := h
        obtain ⟨ha, _⟩ := vr_val (hx 0 _ rfl).1
        obtain ⟨hb, _⟩ := vr_val (hy 0 _ rfl).1
        refine go rfl rfl ha hb ?_ hs
        unfold kindOf at hk1
        split at hk1 <;> first | (rename_i hu; exact run_equalIn_int w d f.type _ _ _ _ hu) | (simp at hk1)
      · rename_i ks' a xs' b' ys' e1
        injection e1 with e1 e2
        subst e1 e2
        rw [Option.map_eq_some_iff] at h
        obtain ⟨s, hs, rfl⟩ := h
        obtain ⟨ha, _⟩ := vr_val (hx 0 _ rfl).1
        obtain ⟨hb, _⟩ := vr_val (hy 0 _ rfl).1
        refine go rfl rfl ha hb ?_ hs
        unfold kindOf at hk1
        split at hk1 <;> first | (rename_i hu; exact run_equalIn_bool' w d f.type _ _ hu) | (simp at hk1)
      · rename_i ks' a xs' b' ys' e1
        injection e1 with e1 e2
        subst e1 e2
        rw [Option.map_eq_some_iff] at h
        obtain ⟨s, hs, rfl⟩ := h
        obtain ⟨ha, _⟩ := vr_val (hx 0 _ rfl).1
        obtain ⟨hb, _⟩ := vr_val (hy 0 _ rfl).1
        refine go rfl rfl ha hb ?_ hs
        unfold kindOf at hk1
        split at hk1 <;> first | (rename_i hu; exact run_equalIn_string w d f.type _ _ hu) | (simp at hk1)
      · cases h
    · cases hk
theorem eqKs_ok {xt : Nat} {ks : List Nat} (hk : kindsOf P xt = some ks) {xs ys : List T} {b : Bool} {vs us : Array Value} {x y : Operand} (h : eqKs ks xs ys = some b) (hx : VR c (.agg xs) (.agg vs)) (hy : VR c (.agg ys) (.agg us)) :
    (∀ w, (eqGuard .eql xt x y (.agg vs) (.agg us)).run P w = .ok () w) ∧ (∀ w, (eqGuard .neq xt x y (.agg vs) (.agg us)).run P w = .ok () w) ∧ ∀ w, (Op.equal xt (.agg vs) (.agg us)).run P w = .ok b w := by
  unfold kindsOf at hk
  split at hk
  · rename_i fs hu
    split at hk
    · rename_i hc
      have hf : P.fieldsOf xt = fs := by simp [Program.fieldsOf, hu]
      refine ⟨fun w => run_eqGuard_agg w .eql xt x y vs us hc.2, fun w => run_eqGuard_agg w .neq xt x y vs us hc.2, fun w => ?_⟩
      show (Op.equalIn (9999 + 1) xt (.agg vs) (.agg us)).run P w = .ok b w
      rw [run_equalIn_struct (P := P) w 9999 xt vs us (by rw [hf]; exact hu) hc.1, hf]
      obtain ⟨vs', e1, l1, g1⟩ := vr_agg hx
      obtain ⟨us', e2, l2, g2⟩ := vr_agg hy
      injection e1 with e1
      injection e2 with e2
      subst e1 e2
      exact vals_ok (d := 9998) fs.toList 0 ks xs ys b hk h (fun j t hj => ⟨by rw [Nat.zero_add]; exact g1 j t hj, by rw [Nat.zero_add, ← l1]; exact (List.getElem?_eq_some_iff.1 hj).1⟩) (fun j t hj => ⟨by rw [Nat.zero_add]; exact g2 j t hj, by rw [Nat.zero_add, ← l2]; exact (List.getElem?_eq_some_iff.1 hj).1⟩)
    · cases hk
  · cases hk
end
theorem res_one (E : Env) (F : Fr) (S : List Ob) (r : ResultVar) : resA E F S [r] = resOne E F S r := by
  unfold resA
  cases h : resOne E F S r <;> simp [h]
theorem res_two (E : Env) (F : Fr) (S : List Ob) (r r' : ResultVar) : resA E F S [r, r'] = (resOne E F S r).bind fun x => (resOne E F S r').map fun y => .tup [x, y] := by
  unfold resA
  cases h : resOne E F S r <;> cases h' : resOne E F S r' <;> simp [h, h']
end Go.Proofs.Ytbehhhlidaiblaa.Ai
