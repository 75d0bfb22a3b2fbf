/- Evaluations: the functions on rules. -/
import Derived.Test.YtbehhhlidaiblaaE1
namespace Go.Proofs.Ytbehhhlidaiblaa.Ai
open Go Go.Proofs
set_option linter.unusedSimpArgs false
@[reducible] def I (n : Int) : T := .val (.int .i64 n)
@[reducible] def B (b : Bool) : T := .val (.bool b)
structure AE where
  f : Int
  w : Int
  t : Int
@[reducible] def encE (e : AE) : List T := [.val (.int .i64 e.f), .val (.int .i64 e.w), .val (.int .i64 e.t)]
theorem E_P : E.P = Try.prog := rfl
theorem E_tt (t : Nat) : E.tt t = tt t := rfl
theorem E_eqT (t : Nat) (xs ys : List T) : E.eqT t xs ys = (ks t).bind fun l => eqKs l xs ys := rfl
theorem E_inl (t : Nat) : E.inl t = false := rfl
theorem E_kn (t : Nat) : E.kn t = decide (t ≤ 62) := rfl
theorem E_pur (t : Nat) : E.pur t = purF t := rfl
theorem E_ann (t r : Nat) : E.ann t r = annF t r := rfl
theorem maxLen_eq : maxLen = 9223372036854775807 := by rfl
set_option maxHeartbeats 1000000
set_option maxRecDepth 100000
theorem call_p (n f : Nat) (args : List T) : (callN E (n + 1)).p f args = finK (bodyA E (callN E n) f args []) := rfl
theorem finK_ite {p : Prop} [Decidable p] (a b : Option (T × List Ob)) : finK (if p then a else b) = if p then finK a else finK b := by split <;> rfl
theorem ev38 (n : Nat) (e : AE) : (callN E (n+1)).p 38 [.agg (encE e)] = some (.agg (encE e), []) := by
  simp only [↓down, up, Bool.not_eq_true, opX, opA, callA, expo, conv, conv1, lenA, binA, eqA, p_lss, p_leq, p_gtr, p_geq, p_eql, p_neq, p_add, p_sub, p_mul, p_not, indexAddrA, fieldOf, cellsAt, mkVar, storeA, alive, cellsT, splice, newOb, closed1, leaf, okPart, placesA, fillRow, E_P, E_tt, tt, E_kn, E_inl, E_pur, purF, E_ann, annF, E_eqT, ks, eqKs, firstId, res_one, res_two, resOne, fin, finVal, finLeaf, finList, finVals, finFr, finK_ite, expOb, scalT, scal1, freeT, free1, freeOb, shift, shiftV, shift1, List.all_nil, List.all_cons, List.isEmpty_nil, List.map_cons, List.map_nil, List.map_map, List.append_nil, List.nil_append, List.cons_append, List.length_map, List.length_cons, List.length_nil, List.length_append, List.drop, List.take, List.getElem?_cons_zero, List.getElem?_cons_succ, List.set_cons_zero, List.set_cons_succ, List.contains_nil, List.toList_toArray, Option.bind_some, Option.map_some, Option.bind_none, Option.map_none, Option.isSome_some, decide_true, decide_false, ↓reduceIte, Bool.false_eq_true, Bool.and_self, Bool.and_true, Bool.true_and, Bool.and_false, Bool.false_and, Bool.not_true, Bool.not_false, Bool.or_false, Bool.or_true, Bool.false_or, Bool.true_or, and_self, true_and, and_true, cond_true, cond_false, Int.toNat_natCast, Int.toNat_zero, Nat.reduceBEq, Nat.reduceAdd, Nat.reduceSub, Nat.reduceMul, Nat.reduceLT, Nat.reduceLeDiff, Nat.reduceEqDiff, Nat.zero_add, Nat.zero_mul, Nat.add_zero, Nat.sub_zero, reduceCtorEq, Nat.le_refl, Try.func38, Try.f38]
def AE.eq (a b : AE) : Bool := a.f == b.f && (a.w == b.w && a.t == b.t)
theorem ev40 (n : Nat) (a b : AE) : (callN E (n+1)).p 40 [.agg (encE a), .agg (encE b)] = some (B (a.eq b), []) := by
  simp +contextual only [↓down, up, Bool.not_eq_true, opX, opA, callA, expo, conv, conv1, lenA, binA, eqA, p_lss, p_leq, p_gtr, p_geq, p_eql, p_neq, p_add, p_sub, p_mul, p_not, indexAddrA, fieldOf, cellsAt, mkVar, storeA, alive, cellsT, splice, newOb, closed1, leaf, okPart, placesA, fillRow, E_P, E_tt, tt, E_kn, E_inl, E_pur, purF, E_ann, annF, E_eqT, ks, eqKs, firstId, res_one, res_two, resOne, fin, finVal, finLeaf, finList, finVals, finFr, finK_ite, expOb, scalT, scal1, freeT, free1, freeOb, shift, shiftV, shift1, List.all_nil, List.all_cons, List.isEmpty_nil, List.map_cons, List.map_nil, List.map_map, List.append_nil, List.nil_append, List.cons_append, List.length_map, List.length_cons, List.length_nil, List.length_append, List.drop, List.take, List.getElem?_cons_zero, List.getElem?_cons_succ, List.set_cons_zero, List.set_cons_succ, List.contains_nil, List.toList_toArray, Option.bind_some, Option.map_some, Option.bind_none, Option.map_none, Option.isSome_some, decide_true, decide_false, ↓reduceIte, Bool.false_eq_true, Bool.and_self, Bool.and_true, Bool.true_and, Bool.and_false, Bool.false_and, Bool.not_true, Bool.not_false, Bool.or_false, Bool.or_true, Bool.false_or, Bool.true_or, and_self, true_and, and_true, cond_true, cond_false, Int.toNat_natCast, Int.toNat_zero, Nat.reduceBEq, Nat.reduceAdd, Nat.reduceSub, Nat.reduceMul, Nat.reduceLT, Nat.reduceLeDiff, Nat.reduceEqDiff, Nat.zero_add, Nat.zero_mul, Nat.add_zero, Nat.sub_zero, reduceCtorEq, Nat.le_refl, Try.func40, Try.f40, bne]
  unfold AE.eq
  cases a.f == b.f <;> cases a.w == b.w <;> cases a.t == b.t <;> rfl
theorem ev15 (n : Nat) (xs : List (List T)) (h : xs.length ≤ maxLen) (k : Int) (h0 : 0 ≤ k) (h1 : k ≤ 4294967296) : (callN E (n+1)).p 15 [.sl xs, I k] = some (I (if k < xs.length then -1 else k - xs.length), []) := by
  have hm := maxLen_eq
  have hw : IntKind.i64.wrap (k - (xs.length : Int)) = k - (xs.length : Int) := wrap_i64 (by omega) (by omega)
  simp +contextual only [↓down, up, Bool.not_eq_true, opX, opA, callA, expo, conv, conv1, lenA, binA, eqA, p_lss, p_leq, p_gtr, p_geq, p_eql, p_neq, p_add, p_sub, p_mul, p_not, indexAddrA, fieldOf, cellsAt, mkVar, storeA, alive, cellsT, splice, newOb, closed1, leaf, okPart, placesA, fillRow, E_P, E_tt, tt, E_kn, E_inl, E_pur, purF, E_ann, annF, E_eqT, ks, eqKs, firstId, res_one, res_two, resOne, fin, finVal, finLeaf, finList, finVals, finFr, finK_ite, expOb, scalT, scal1, freeT, free1, freeOb, shift, shiftV, shift1, List.all_nil, List.all_cons, List.isEmpty_nil, List.map_cons, List.map_nil, List.map_map, List.append_nil, List.nil_append, List.cons_append, List.length_map, List.length_cons, List.length_nil, List.length_append, List.drop, List.take, List.getElem?_cons_zero, List.getElem?_cons_succ, List.set_cons_zero, List.set_cons_succ, List.contains_nil, List.toList_toArray, Option.bind_some, Option.map_some, Option.bind_none, Option.map_none, Option.isSome_some, decide_true, decide_false, ↓reduceIte, Bool.false_eq_true, Bool.and_self, Bool.and_true, Bool.true_and, Bool.and_false, Bool.false_and, Bool.not_true, Bool.not_false, Bool.or_false, Bool.or_true, Bool.false_or, Bool.true_or, and_self, true_and, and_true, cond_true, cond_false, Int.toNat_natCast, Int.toNat_zero, Nat.reduceBEq, Nat.reduceAdd, Nat.reduceSub, Nat.reduceMul, Nat.reduceLT, Nat.reduceLeDiff, Nat.reduceEqDiff, Nat.zero_add, Nat.zero_mul, Nat.add_zero, Nat.sub_zero, reduceCtorEq, Nat.le_refl, Try.func15, Try.f15, hw]
  by_cases hk : k < xs.length
  · rw [if_pos hk, decide_eq_true (by omega : k - (xs.length : Int) < 0)]; rfl
  · rw [if_neg hk, decide_eq_false (by omega : ¬ k - (xs.length : Int) < 0)]; rfl
def AE.has (xs : List AE) (a b c : Int) : Bool := xs.any fun e => e.f == a && (e.w == b && e.t == c)
theorem ev16 (n : Nat) (xs : List AE) (hxs : xs.length ≤ maxLen) (a b c : Int) : (callN E (n+1)).p 16 [.sl (xs.map encE), I a, I b, I c] = some (B (AE.has xs a b c), []) := by
  have hml := maxLen_eq
  rw [call_p]
  generalize callN E n = ora
  simp +contextual only [↓down, up, Bool.not_eq_true, opX, opA, callA, expo, conv, conv1, lenA, binA, eqA, p_lss, p_leq, p_gtr, p_geq, p_eql, p_neq, p_add, p_sub, p_mul, p_not, indexAddrA, fieldOf, cellsAt, mkVar, storeA, alive, cellsT, splice, newOb, closed1, leaf, okPart, placesA, fillRow, E_P, E_tt, tt, E_kn, E_inl, E_pur, purF, E_ann, annF, E_eqT, ks, eqKs, firstId, res_one, res_two, resOne, fin, finVal, finLeaf, finList, finVals, finFr, finK_ite, expOb, scalT, scal1, freeT, free1, freeOb, shift, shiftV, shift1, List.all_nil, List.all_cons, List.isEmpty_nil, List.map_cons, List.map_nil, List.map_map, List.append_nil, List.nil_append, List.cons_append, List.length_map, List.length_cons, List.length_nil, List.length_append, List.drop, List.take, List.getElem?_cons_zero, List.getElem?_cons_succ, List.set_cons_zero, List.set_cons_succ, List.contains_nil, List.toList_toArray, Option.bind_some, Option.map_some, Option.bind_none, Option.map_none, Option.isSome_some, decide_true, decide_false, ↓reduceIte, Bool.false_eq_true, Bool.and_self, Bool.and_true, Bool.true_and, Bool.and_false, Bool.false_and, Bool.not_true, Bool.not_false, Bool.or_false, Bool.or_true, Bool.false_or, Bool.true_or, and_self, true_and, and_true, cond_true, cond_false, Int.toNat_natCast, Int.toNat_zero, Nat.reduceBEq, Nat.reduceAdd, Nat.reduceSub, Nat.reduceMul, Nat.reduceLT, Nat.reduceLeDiff, Nat.reduceEqDiff, Nat.zero_add, Nat.zero_mul, Nat.add_zero, Nat.sub_zero, reduceCtorEq, Nat.le_refl, Try.func16, Try.f16]
  generalize hst : step E ora (E.ann 16) 8 _ = st
  have key := iter_ind (step := st) (fun i : Nat => i ≤ xs.length) (fun i => xs.length - i)
    (fun i : Nat => ([(0, .sl (xs.map encE)), (1, I a), (2, I b), (3, I c), (8, B false), (9, I i)], ([] : List Ob)))
    (fun i : Nat => if AE.has (xs.drop i) a b c = true then (Ex.ret, [(8, B true)], ([] : List Ob)) else (Ex.exit 0, [(8, B false)], ([] : List Ob)))
    (by
      intro i hi
      by_cases hlt : i < xs.length
      · have hw : IntKind.i64.wrap ((i : Int) + 1) = ((i + 1 : Nat) : Int) := by rw [wrap_i64 (by omega) (by omega)]; rfl
        have h0 : (0 : Int) ≤ (i : Int) := by omega
        have h1 : ((i : Int) < (xs.length : Int)) := by omega
        have hg : (xs.map encE)[i]? = some (encE xs[i]) := by rw [List.getElem?_map, List.getElem?_eq_getElem hlt]; rfl
        have hd : AE.has (xs.drop i) a b c = ((xs[i].f == a && (xs[i].w == b && xs[i].t == c)) || AE.has (xs.drop (i+1)) a b c) := by
          unfold AE.has; rw [List.drop_eq_getElem_cons hlt, List.any_cons]
        have hs : st ([(0, .sl (xs.map encE)), (1, I a), (2, I b), (3, I c), (8, B false), (9, I i)], []) =
          if (xs[i].f == a && (xs[i].w == b && xs[i].t == c)) = true then some (.inr (Ex.ret, [(8, B true)], [])) else some (.inl ([(0, .sl (xs.map encE)), (1, I a), (2, I b), (3, I c), (8, B false), (9, I (i + 1 : Nat))], [])) := by
          rw [← hst]
          simp +contextual only [↓down, up, Bool.not_eq_true, opX, opA, callA, expo, conv, conv1, lenA, binA, eqA, p_lss, p_leq, p_gtr, p_geq, p_eql, p_neq, p_add, p_sub, p_mul, p_not, indexAddrA, fieldOf, cellsAt, mkVar, storeA, alive, cellsT, splice, newOb, closed1, leaf, okPart, placesA, fillRow, E_P, E_tt, tt, E_kn, E_inl, E_pur, purF, E_ann, annF, E_eqT, ks, eqKs, firstId, res_one, res_two, resOne, fin, finVal, finLeaf, finList, finVals, finFr, finK_ite, expOb, scalT, scal1, freeT, free1, freeOb, shift, shiftV, shift1, List.all_nil, List.all_cons, List.isEmpty_nil, List.map_cons, List.map_nil, List.map_map, List.append_nil, List.nil_append, List.cons_append, List.length_map, List.length_cons, List.length_nil, List.length_append, List.drop, List.take, List.getElem?_cons_zero, List.getElem?_cons_succ, List.set_cons_zero, List.set_cons_succ, List.contains_nil, List.toList_toArray, Option.bind_some, Option.map_some, Option.bind_none, Option.map_none, Option.isSome_some, decide_true, decide_false, ↓reduceIte, Bool.false_eq_true, Bool.and_self, Bool.and_true, Bool.true_and, Bool.and_false, Bool.false_and, Bool.not_true, Bool.not_false, Bool.or_false, Bool.or_true, Bool.false_or, Bool.true_or, and_self, true_and, and_true, cond_true, cond_false, Int.toNat_natCast, Int.toNat_zero, Nat.reduceBEq, Nat.reduceAdd, Nat.reduceSub, Nat.reduceMul, Nat.reduceLT, Nat.reduceLeDiff, Nat.reduceEqDiff, Nat.zero_add, Nat.zero_mul, Nat.add_zero, Nat.sub_zero, reduceCtorEq, Nat.le_refl, h0, h1, hg, hw]
          cases xs[i].f == a <;> cases xs[i].w == b <;> cases xs[i].t == c <;> rfl
        rw [hs, hd]
        cases hh : (xs[i].f == a && (xs[i].w == b && xs[i].t == c))
        · refine .inr ⟨i + 1, hlt, by omega, ?_, ?_⟩ <;> simp
        · refine .inl ?_
          simp
      · left
        have h1 : ¬ ((i : Int) < (xs.length : Int)) := by omega
        have hd : AE.has (xs.drop i) a b c = false := by rw [List.drop_eq_nil_of_le (by omega)]; rfl
        rw [← hst, hd]
        simp +contextual only [↓down, up, Bool.not_eq_true, opX, opA, callA, expo, conv, conv1, lenA, binA, eqA, p_lss, p_leq, p_gtr, p_geq, p_eql, p_neq, p_add, p_sub, p_mul, p_not, indexAddrA, fieldOf, cellsAt, mkVar, storeA, alive, cellsT, splice, newOb, closed1, leaf, okPart, placesA, fillRow, E_P, E_tt, tt, E_kn, E_inl, E_pur, purF, E_ann, annF, E_eqT, ks, eqKs, firstId, res_one, res_two, resOne, fin, finVal, finLeaf, finList, finVals, finFr, finK_ite, expOb, scalT, scal1, freeT, free1, freeOb, shift, shiftV, shift1, List.all_nil, List.all_cons, List.isEmpty_nil, List.map_cons, List.map_nil, List.map_map, List.append_nil, List.nil_append, List.cons_append, List.length_map, List.length_cons, List.length_nil, List.length_append, List.drop, List.take, List.getElem?_cons_zero, List.getElem?_cons_succ, List.set_cons_zero, List.set_cons_succ, List.contains_nil, List.toList_toArray, Option.bind_some, Option.map_some, Option.bind_none, Option.map_none, Option.isSome_some, decide_true, decide_false, ↓reduceIte, Bool.false_eq_true, Bool.and_self, Bool.and_true, Bool.true_and, Bool.and_false, Bool.false_and, Bool.not_true, Bool.not_false, Bool.or_false, Bool.or_true, Bool.false_or, Bool.true_or, and_self, true_and, and_true, cond_true, cond_false, Int.toNat_natCast, Int.toNat_zero, Nat.reduceBEq, Nat.reduceAdd, Nat.reduceSub, Nat.reduceMul, Nat.reduceLT, Nat.reduceLeDiff, Nat.reduceEqDiff, Nat.zero_add, Nat.zero_mul, Nat.add_zero, Nat.sub_zero, reduceCtorEq, Nat.le_refl, h1])
  have k0 := key 0 (Nat.zero_le _)
  simp only [Int.natCast_zero, List.drop_zero] at k0
  rw [k0]
  cases AE.has xs a b c <;> simp only [↓down, up, Bool.not_eq_true, opX, opA, callA, expo, conv, conv1, lenA, binA, eqA, p_lss, p_leq, p_gtr, p_geq, p_eql, p_neq, p_add, p_sub, p_mul, p_not, indexAddrA, fieldOf, cellsAt, mkVar, storeA, alive, cellsT, splice, newOb, closed1, leaf, okPart, placesA, fillRow, E_P, E_tt, tt, E_kn, E_inl, E_pur, purF, E_ann, annF, E_eqT, ks, eqKs, firstId, res_one, res_two, resOne, fin, finVal, finLeaf, finList, finVals, finFr, finK_ite, expOb, scalT, scal1, freeT, free1, freeOb, shift, shiftV, shift1, List.all_nil, List.all_cons, List.isEmpty_nil, List.map_cons, List.map_nil, List.map_map, List.append_nil, List.nil_append, List.cons_append, List.length_map, List.length_cons, List.length_nil, List.length_append, List.drop, List.take, List.getElem?_cons_zero, List.getElem?_cons_succ, List.set_cons_zero, List.set_cons_succ, List.contains_nil, List.toList_toArray, Option.bind_some, Option.map_some, Option.bind_none, Option.map_none, Option.isSome_some, decide_true, decide_false, ↓reduceIte, Bool.false_eq_true, Bool.and_self, Bool.and_true, Bool.true_and, Bool.and_false, Bool.false_and, Bool.not_true, Bool.not_false, Bool.or_false, Bool.or_true, Bool.false_or, Bool.true_or, and_self, true_and, and_true, cond_true, cond_false, Int.toNat_natCast, Int.toNat_zero, Nat.reduceBEq, Nat.reduceAdd, Nat.reduceSub, Nat.reduceMul, Nat.reduceLT, Nat.reduceLeDiff, Nat.reduceEqDiff, Nat.zero_add, Nat.zero_mul, Nat.add_zero, Nat.sub_zero, reduceCtorEq, Nat.le_refl]
/-- A row of rows, filled as far as i. -/
def fillAt (ys : List (List T)) (z : List T) (i : Nat) : List (List T) := ys.take i ++ List.replicate (ys.length - i) z
theorem fillAt_len {ys : List (List T)} {z : List T} {i : Nat} (h : i ≤ ys.length) : (fillAt ys z i).length = ys.length := by simp [fillAt]; omega
theorem fillAt_get {ys : List (List T)} {z : List T} {i : Nat} (h : i < ys.length) : (fillAt ys z i)[i]? = some z := by
  unfold fillAt
  rw [List.getElem?_append_right (by simp; omega)]
  simp only [List.length_take]
  rw [show i - min i ys.length = 0 by omega, List.getElem?_replicate, if_pos (by omega)]
theorem fillAt_set {ys : List (List T)} {z y : List T} {i : Nat} (h : ys[i]? = some y) : (fillAt ys z i).set i y = fillAt ys z (i + 1) := by
  have hlt : i < ys.length := (List.getElem?_eq_some_iff.1 h).1
  unfold fillAt
  rw [List.set_append_right _ _ (by simp; omega)]
  simp only [List.length_take]
  rw [show i - min i ys.length = 0 by omega, show ys.length - i = (ys.length - (i + 1)) + 1 by omega, List.replicate_succ, List.set_cons_zero, List.take_add_one, h]
  simp
theorem fillAt_zero {ys : List (List T)} {z : List T} : fillAt ys z 0 = List.replicate ys.length z := by simp [fillAt]
theorem fillAt_all {ys : List (List T)} {z : List T} : fillAt ys z ys.length = ys := by simp [fillAt]
@[reducible] def Z3 : List T := [.val (.int .i64 0), .val (.int .i64 0), .val (.int .i64 0)]
theorem ev17 (n : Nat) (xs : List AE) (h : xs.length ≤ 1048576) : (callN E (n+2)).p 17 [.sl (xs.map encE)] = some (.os 0 xs.length, [{ rows := xs.map encE, sz := 3, e := 50, froz := false, cl := true }]) := by
  have hb : (xs.length : Int) * ((24 : Nat) : Int) ≤ 140737488355328 := by omega
  have hp : (0 : Int) ≤ (xs.length : Int) := by omega
  have c38 := ev38 n
  rw [call_p]
  generalize callN E (n+1) = ora at c38 ⊢
  simp +contextual only [↓down, up, Bool.not_eq_true, opX, opA, callA, expo, conv, conv1, lenA, binA, eqA, p_lss, p_leq, p_gtr, p_geq, p_eql, p_neq, p_add, p_sub, p_mul, p_not, indexAddrA, fieldOf, cellsAt, mkVar, storeA, alive, cellsT, splice, newOb, closed1, leaf, okPart, placesA, fillRow, E_P, E_tt, tt, E_kn, E_inl, E_pur, purF, E_ann, annF, E_eqT, ks, eqKs, firstId, res_one, res_two, resOne, fin, finVal, finLeaf, finList, finVals, finFr, finK_ite, expOb, scalT, scal1, freeT, free1, freeOb, shift, shiftV, shift1, List.all_nil, List.all_cons, List.isEmpty_nil, List.map_cons, List.map_nil, List.map_map, List.append_nil, List.nil_append, List.cons_append, List.length_map, List.length_cons, List.length_nil, List.length_append, List.drop, List.take, List.getElem?_cons_zero, List.getElem?_cons_succ, List.set_cons_zero, List.set_cons_succ, List.contains_nil, List.toList_toArray, Option.bind_some, Option.map_some, Option.bind_none, Option.map_none, Option.isSome_some, decide_true, decide_false, ↓reduceIte, Bool.false_eq_true, Bool.and_self, Bool.and_true, Bool.true_and, Bool.and_false, Bool.false_and, Bool.not_true, Bool.not_false, Bool.or_false, Bool.or_true, Bool.false_or, Bool.true_or, and_self, true_and, and_true, cond_true, cond_false, Int.toNat_natCast, Int.toNat_zero, Nat.reduceBEq, Nat.reduceAdd, Nat.reduceSub, Nat.reduceMul, Nat.reduceLT, Nat.reduceLeDiff, Nat.reduceEqDiff, Nat.zero_add, Nat.zero_mul, Nat.add_zero, Nat.sub_zero, reduceCtorEq, Nat.le_refl, Try.func17, Try.f17, hb, hp]
  generalize hst : step E ora (E.ann 17) 8 _ = st
  have hl : (xs.map encE).length = xs.length := List.length_map _
  have key := iter_ind (step := st) (fun i : Nat => i ≤ xs.length) (fun i => xs.length - i)
    (fun i : Nat => ([(0, .sl (xs.map encE)), (3, .os 0 xs.length), (4, I i)], [{ rows := fillAt (xs.map encE) Z3 i, sz := 3, e := 50, froz := false, cl := true }]))
    (fun _ => (Ex.exit 0, [(3, .os 0 xs.length)], [{ rows := xs.map encE, sz := 3, e := 50, froz := false, cl := true }]))
    (by
      intro i hi
      have hle := fillAt_len (ys := xs.map encE) (z := Z3) (i := i) (by omega)
      rw [hl] at hle
      by_cases hlt : i < xs.length
      · refine .inr ⟨i + 1, hlt, by omega, rfl, ?_⟩
        have hw : IntKind.i64.wrap ((i : Int) + 1) = ((i + 1 : Nat) : Int) := by rw [wrap_i64 (by omega) (by omega)]; rfl
        have h0 : (0 : Int) ≤ (i : Int) := by omega
        have h1 : ((i : Int) < (xs.length : Int)) := by omega
        have hg : (xs.map encE)[i]? = some (encE xs[i]) := by rw [List.getElem?_map, List.getElem?_eq_getElem hlt]; rfl
        have hz : (fillAt (xs.map encE) Z3 i)[i]? = some Z3 := fillAt_get (by omega)
        have hs := fillAt_set (ys := xs.map encE) (z := Z3) hg
        rw [← hst]
        simp +contextual only [↓down, up, Bool.not_eq_true, opX, opA, callA, expo, conv, conv1, lenA, binA, eqA, p_lss, p_leq, p_gtr, p_geq, p_eql, p_neq, p_add, p_sub, p_mul, p_not, indexAddrA, fieldOf, cellsAt, mkVar, storeA, alive, cellsT, splice, newOb, closed1, leaf, okPart, placesA, fillRow, E_P, E_tt, tt, E_kn, E_inl, E_pur, purF, E_ann, annF, E_eqT, ks, eqKs, firstId, res_one, res_two, resOne, fin, finVal, finLeaf, finList, finVals, finFr, finK_ite, expOb, scalT, scal1, freeT, free1, freeOb, shift, shiftV, shift1, List.all_nil, List.all_cons, List.isEmpty_nil, List.map_cons, List.map_nil, List.map_map, List.append_nil, List.nil_append, List.cons_append, List.length_map, List.length_cons, List.length_nil, List.length_append, List.drop, List.take, List.getElem?_cons_zero, List.getElem?_cons_succ, List.set_cons_zero, List.set_cons_succ, List.contains_nil, List.toList_toArray, Option.bind_some, Option.map_some, Option.bind_none, Option.map_none, Option.isSome_some, decide_true, decide_false, ↓reduceIte, Bool.false_eq_true, Bool.and_self, Bool.and_true, Bool.true_and, Bool.and_false, Bool.false_and, Bool.not_true, Bool.not_false, Bool.or_false, Bool.or_true, Bool.false_or, Bool.true_or, and_self, true_and, and_true, cond_true, cond_false, Int.toNat_natCast, Int.toNat_zero, Nat.reduceBEq, Nat.reduceAdd, Nat.reduceSub, Nat.reduceMul, Nat.reduceLT, Nat.reduceLeDiff, Nat.reduceEqDiff, Nat.zero_add, Nat.zero_mul, Nat.add_zero, Nat.sub_zero, reduceCtorEq, Nat.le_refl, h0, h1, hg, hz, hw, hle, hs, c38]
      · have : i = xs.length := by omega
        subst this
        refine .inl ?_
        have h1 : ¬ ((xs.length : Int) < (xs.length : Int)) := by omega
        have ha : fillAt (xs.map encE) Z3 xs.length = xs.map encE := by rw [← hl]; exact fillAt_all
        rw [← hst]
        simp +contextual only [↓down, up, Bool.not_eq_true, opX, opA, callA, expo, conv, conv1, lenA, binA, eqA, p_lss, p_leq, p_gtr, p_geq, p_eql, p_neq, p_add, p_sub, p_mul, p_not, indexAddrA, fieldOf, cellsAt, mkVar, storeA, alive, cellsT, splice, newOb, closed1, leaf, okPart, placesA, fillRow, E_P, E_tt, tt, E_kn, E_inl, E_pur, purF, E_ann, annF, E_eqT, ks, eqKs, firstId, res_one, res_two, resOne, fin, finVal, finLeaf, finList, finVals, finFr, finK_ite, expOb, scalT, scal1, freeT, free1, freeOb, shift, shiftV, shift1, List.all_nil, List.all_cons, List.isEmpty_nil, List.map_cons, List.map_nil, List.map_map, List.append_nil, List.nil_append, List.cons_append, List.length_map, List.length_cons, List.length_nil, List.length_append, List.drop, List.take, List.getElem?_cons_zero, List.getElem?_cons_succ, List.set_cons_zero, List.set_cons_succ, List.contains_nil, List.toList_toArray, Option.bind_some, Option.map_some, Option.bind_none, Option.map_none, Option.isSome_some, decide_true, decide_false, ↓reduceIte, Bool.false_eq_true, Bool.and_self, Bool.and_true, Bool.true_and, Bool.and_false, Bool.false_and, Bool.not_true, Bool.not_false, Bool.or_false, Bool.or_true, Bool.false_or, Bool.true_or, and_self, true_and, and_true, cond_true, cond_false, Int.toNat_natCast, Int.toNat_zero, Nat.reduceBEq, Nat.reduceAdd, Nat.reduceSub, Nat.reduceMul, Nat.reduceLT, Nat.reduceLeDiff, Nat.reduceEqDiff, Nat.zero_add, Nat.zero_mul, Nat.add_zero, Nat.sub_zero, reduceCtorEq, Nat.le_refl, h1, ha])
  have k0 := key 0 (Nat.zero_le _)
  have hz := fillAt_zero (ys := xs.map encE) (z := Z3)
  rw [hl] at hz
  rw [hz] at k0
  simp only [Int.natCast_zero] at k0
  simp only [Z3] at k0
  rw [k0]
  simp +contextual only [↓down, up, Bool.not_eq_true, opX, opA, callA, expo, conv, conv1, lenA, binA, eqA, p_lss, p_leq, p_gtr, p_geq, p_eql, p_neq, p_add, p_sub, p_mul, p_not, indexAddrA, fieldOf, cellsAt, mkVar, storeA, alive, cellsT, splice, newOb, closed1, leaf, okPart, placesA, fillRow, E_P, E_tt, tt, E_kn, E_inl, E_pur, purF, E_ann, annF, E_eqT, ks, eqKs, firstId, res_one, res_two, resOne, fin, finVal, finLeaf, finList, finVals, finFr, finK_ite, expOb, scalT, scal1, freeT, free1, freeOb, shift, shiftV, shift1, List.all_nil, List.all_cons, List.isEmpty_nil, List.map_cons, List.map_nil, List.map_map, List.append_nil, List.nil_append, List.cons_append, List.length_map, List.length_cons, List.length_nil, List.length_append, List.drop, List.take, List.getElem?_cons_zero, List.getElem?_cons_succ, List.set_cons_zero, List.set_cons_succ, List.contains_nil, List.toList_toArray, Option.bind_some, Option.map_some, Option.bind_none, Option.map_none, Option.isSome_some, decide_true, decide_false, ↓reduceIte, Bool.false_eq_true, Bool.and_self, Bool.and_true, Bool.true_and, Bool.and_false, Bool.false_and, Bool.not_true, Bool.not_false, Bool.or_false, Bool.or_true, Bool.false_or, Bool.true_or, and_self, true_and, and_true, cond_true, cond_false, Int.toNat_natCast, Int.toNat_zero, Nat.reduceBEq, Nat.reduceAdd, Nat.reduceSub, Nat.reduceMul, Nat.reduceLT, Nat.reduceLeDiff, Nat.reduceEqDiff, Nat.zero_add, Nat.zero_mul, Nat.add_zero, Nat.sub_zero, reduceCtorEq, Nat.le_refl]
theorem AE.eq_of (a b : AE) : a.eq b = true ↔ a = b := by
  obtain ⟨a1, a2, a3⟩ := a
  obtain ⟨b1, b2, b3⟩ := b
  simp [AE.eq, AE.mk.injEq]
open Classical in
theorem AE.eq_iff (a b : AE) : a.eq b = decide (a = b) := by
  rw [Bool.eq_iff_iff, AE.eq_of, decide_eq_true_iff]
open Classical in
theorem ev19 (n : Nat) (xs ys : List AE) (h : xs.length ≤ maxLen) : (callN E (n+2)).p 19 [.sl (xs.map encE), .sl (ys.map encE)] = some (B (decide (xs = ys)), []) := by
  have hm := maxLen_eq
  have c40 := ev40 n
  rw [call_p]
  generalize callN E (n+1) = ora at c40 ⊢
  by_cases hlen : xs.length = ys.length
  · have hb : ((xs.length : Int) != (ys.length : Int)) = false := by simp [hlen]
    simp +contextual only [↓down, up, Bool.not_eq_true, opX, opA, callA, expo, conv, conv1, lenA, binA, eqA, p_lss, p_leq, p_gtr, p_geq, p_eql, p_neq, p_add, p_sub, p_mul, p_not, indexAddrA, fieldOf, cellsAt, mkVar, storeA, alive, cellsT, splice, newOb, closed1, leaf, okPart, placesA, fillRow, E_P, E_tt, tt, E_kn, E_inl, E_pur, purF, E_ann, annF, E_eqT, ks, eqKs, firstId, res_one, res_two, resOne, fin, finVal, finLeaf, finList, finVals, finFr, finK_ite, expOb, scalT, scal1, freeT, free1, freeOb, shift, shiftV, shift1, List.all_nil, List.all_cons, List.isEmpty_nil, List.map_cons, List.map_nil, List.map_map, List.append_nil, List.nil_append, List.cons_append, List.length_map, List.length_cons, List.length_nil, List.length_append, List.drop, List.take, List.getElem?_cons_zero, List.getElem?_cons_succ, List.set_cons_zero, List.set_cons_succ, List.contains_nil, List.toList_toArray, Option.bind_some, Option.map_some, Option.bind_none, Option.map_none, Option.isSome_some, decide_true, decide_false, ↓reduceIte, Bool.false_eq_true, Bool.and_self, Bool.and_true, Bool.true_and, Bool.and_false, Bool.false_and, Bool.not_true, Bool.not_false, Bool.or_false, Bool.or_true, Bool.false_or, Bool.true_or, and_self, true_and, and_true, cond_true, cond_false, Int.toNat_natCast, Int.toNat_zero, Nat.reduceBEq, Nat.reduceAdd, Nat.reduceSub, Nat.reduceMul, Nat.reduceLT, Nat.reduceLeDiff, Nat.reduceEqDiff, Nat.zero_add, Nat.zero_mul, Nat.add_zero, Nat.sub_zero, reduceCtorEq, Nat.le_refl, Try.func19, Try.f19, hb]
    generalize hst : step E ora (E.ann 19) 8 _ = st
    have key := iter_ind (step := st) (fun i : Nat => i ≤ xs.length) (fun i => xs.length - i)
      (fun i : Nat => ([(0, .sl (xs.map encE)), (1, .sl (ys.map encE)), (4, B false), (5, I i)], ([] : List Ob)))
      (fun i : Nat => if xs.drop i = ys.drop i then (Ex.exit 0, [(4, B false)], ([] : List Ob)) else (Ex.ret, [(4, B false)], ([] : List Ob)))
      (by
        intro i hi
        by_cases hlt : i < xs.length
        · have hw : IntKind.i64.wrap ((i : Int) + 1) = ((i + 1 : Nat) : Int) := by rw [wrap_i64 (by omega) (by omega)]; rfl
          have h0 : (0 : Int) ≤ (i : Int) := by omega
          have h1 : ((i : Int) < (xs.length : Int)) := by omega
          have hg : (xs.map encE)[i]? = some (encE xs[i]) := by rw [List.getElem?_map, List.getElem?_eq_getElem hlt]; rfl
          have hlt' : i < ys.length := by omega
          have hg' : (ys.map encE)[i]? = some (encE ys[i]) := by rw [List.getElem?_map, List.getElem?_eq_getElem hlt']; rfl
          have hd : (xs.drop i = ys.drop i) = (xs[i] = ys[i] ∧ xs.drop (i + 1) = ys.drop (i + 1)) := by
            rw [List.drop_eq_getElem_cons hlt, List.drop_eq_getElem_cons hlt', List.cons.injEq]
          have hs : st ([(0, .sl (xs.map encE)), (1, .sl (ys.map encE)), (4, B false), (5, I i)], []) =
            if xs[i].eq ys[i] = true then some (.inl ([(0, .sl (xs.map encE)), (1, .sl (ys.map encE)), (4, B false), (5, I (i + 1 : Nat))], [])) else some (.inr (Ex.ret, [(4, B false)], [])) := by
            rw [← hst]
            simp +contextual only [↓down, up, Bool.not_eq_true, opX, opA, callA, expo, conv, conv1, lenA, binA, eqA, p_lss, p_leq, p_gtr, p_geq, p_eql, p_neq, p_add, p_sub, p_mul, p_not, indexAddrA, fieldOf, cellsAt, mkVar, storeA, alive, cellsT, splice, newOb, closed1, leaf, okPart, placesA, fillRow, E_P, E_tt, tt, E_kn, E_inl, E_pur, purF, E_ann, annF, E_eqT, ks, eqKs, firstId, res_one, res_two, resOne, fin, finVal, finLeaf, finList, finVals, finFr, finK_ite, expOb, scalT, scal1, freeT, free1, freeOb, shift, shiftV, shift1, List.all_nil, List.all_cons, List.isEmpty_nil, List.map_cons, List.map_nil, List.map_map, List.append_nil, List.nil_append, List.cons_append, List.length_map, List.length_cons, List.length_nil, List.length_append, List.drop, List.take, List.getElem?_cons_zero, List.getElem?_cons_succ, List.set_cons_zero, List.set_cons_succ, List.contains_nil, List.toList_toArray, Option.bind_some, Option.map_some, Option.bind_none, Option.map_none, Option.isSome_some, decide_true, decide_false, ↓reduceIte, Bool.false_eq_true, Bool.and_self, Bool.and_true, Bool.true_and, Bool.and_false, Bool.false_and, Bool.not_true, Bool.not_false, Bool.or_false, Bool.or_true, Bool.false_or, Bool.true_or, and_self, true_and, and_true, cond_true, cond_false, Int.toNat_natCast, Int.toNat_zero, Nat.reduceBEq, Nat.reduceAdd, Nat.reduceSub, Nat.reduceMul, Nat.reduceLT, Nat.reduceLeDiff, Nat.reduceEqDiff, Nat.zero_add, Nat.zero_mul, Nat.add_zero, Nat.sub_zero, reduceCtorEq, Nat.le_refl, h0, h1, hg, hg', hw, c40]
            cases xs[i].eq ys[i] <;> rfl
          rw [hs, AE.eq_iff]
          by_cases he : xs[i] = ys[i]
          · refine .inr ⟨i + 1, hlt, by omega, ?_, ?_⟩ <;> simp [hd, he]
          · refine .inl ?_
            simp [hd, he]
        · left
          have h1 : ¬ ((i : Int) < (xs.length : Int)) := by omega
          have hd : xs.drop i = ys.drop i := by rw [List.drop_eq_nil_of_le (by omega), List.drop_eq_nil_of_le (by omega)]
          rw [← hst, if_pos hd]
          simp +contextual only [↓down, up, Bool.not_eq_true, opX, opA, callA, expo, conv, conv1, lenA, binA, eqA, p_lss, p_leq, p_gtr, p_geq, p_eql, p_neq, p_add, p_sub, p_mul, p_not, indexAddrA, fieldOf, cellsAt, mkVar, storeA, alive, cellsT, splice, newOb, closed1, leaf, okPart, placesA, fillRow, E_P, E_tt, tt, E_kn, E_inl, E_pur, purF, E_ann, annF, E_eqT, ks, eqKs, firstId, res_one, res_two, resOne, fin, finVal, finLeaf, finList, finVals, finFr, finK_ite, expOb, scalT, scal1, freeT, free1, freeOb, shift, shiftV, shift1, List.all_nil, List.all_cons, List.isEmpty_nil, List.map_cons, List.map_nil, List.map_map, List.append_nil, List.nil_append, List.cons_append, List.length_map, List.length_cons, List.length_nil, List.length_append, List.drop, List.take, List.getElem?_cons_zero, List.getElem?_cons_succ, List.set_cons_zero, List.set_cons_succ, List.contains_nil, List.toList_toArray, Option.bind_some, Option.map_some, Option.bind_none, Option.map_none, Option.isSome_some, decide_true, decide_false, ↓reduceIte, Bool.false_eq_true, Bool.and_self, Bool.and_true, Bool.true_and, Bool.and_false, Bool.false_and, Bool.not_true, Bool.not_false, Bool.or_false, Bool.or_true, Bool.false_or, Bool.true_or, and_self, true_and, and_true, cond_true, cond_false, Int.toNat_natCast, Int.toNat_zero, Nat.reduceBEq, Nat.reduceAdd, Nat.reduceSub, Nat.reduceMul, Nat.reduceLT, Nat.reduceLeDiff, Nat.reduceEqDiff, Nat.zero_add, Nat.zero_mul, Nat.add_zero, Nat.sub_zero, reduceCtorEq, Nat.le_refl, h1])
    have k0 := key 0 (Nat.zero_le _)
    simp only [Int.natCast_zero, List.drop_zero] at k0
    rw [k0]
    by_cases he : xs = ys
    · rw [if_pos he, decide_eq_true he]
      simp +contextual only [↓down, up, Bool.not_eq_true, opX, opA, callA, expo, conv, conv1, lenA, binA, eqA, p_lss, p_leq, p_gtr, p_geq, p_eql, p_neq, p_add, p_sub, p_mul, p_not, indexAddrA, fieldOf, cellsAt, mkVar, storeA, alive, cellsT, splice, newOb, closed1, leaf, okPart, placesA, fillRow, E_P, E_tt, tt, E_kn, E_inl, E_pur, purF, E_ann, annF, E_eqT, ks, eqKs, firstId, res_one, res_two, resOne, fin, finVal, finLeaf, finList, finVals, finFr, finK_ite, expOb, scalT, scal1, freeT, free1, freeOb, shift, shiftV, shift1, List.all_nil, List.all_cons, List.isEmpty_nil, List.map_cons, List.map_nil, List.map_map, List.append_nil, List.nil_append, List.cons_append, List.length_map, List.length_cons, List.length_nil, List.length_append, List.drop, List.take, List.getElem?_cons_zero, List.getElem?_cons_succ, List.set_cons_zero, List.set_cons_succ, List.contains_nil, List.toList_toArray, Option.bind_some, Option.map_some, Option.bind_none, Option.map_none, Option.isSome_some, decide_true, decide_false, ↓reduceIte, Bool.false_eq_true, Bool.and_self, Bool.and_true, Bool.true_and, Bool.and_false, Bool.false_and, Bool.not_true, Bool.not_false, Bool.or_false, Bool.or_true, Bool.false_or, Bool.true_or, and_self, true_and, and_true, cond_true, cond_false, Int.toNat_natCast, Int.toNat_zero, Nat.reduceBEq, Nat.reduceAdd, Nat.reduceSub, Nat.reduceMul, Nat.reduceLT, Nat.reduceLeDiff, Nat.reduceEqDiff, Nat.zero_add, Nat.zero_mul, Nat.add_zero, Nat.sub_zero, reduceCtorEq, Nat.le_refl]
    · rw [if_neg he, decide_eq_false he]
      simp +contextual only [↓down, up, Bool.not_eq_true, opX, opA, callA, expo, conv, conv1, lenA, binA, eqA, p_lss, p_leq, p_gtr, p_geq, p_eql, p_neq, p_add, p_sub, p_mul, p_not, indexAddrA, fieldOf, cellsAt, mkVar, storeA, alive, cellsT, splice, newOb, closed1, leaf, okPart, placesA, fillRow, E_P, E_tt, tt, E_kn, E_inl, E_pur, purF, E_ann, annF, E_eqT, ks, eqKs, firstId, res_one, res_two, resOne, fin, finVal, finLeaf, finList, finVals, finFr, finK_ite, expOb, scalT, scal1, freeT, free1, freeOb, shift, shiftV, shift1, List.all_nil, List.all_cons, List.isEmpty_nil, List.map_cons, List.map_nil, List.map_map, List.append_nil, List.nil_append, List.cons_append, List.length_map, List.length_cons, List.length_nil, List.length_append, List.drop, List.take, List.getElem?_cons_zero, List.getElem?_cons_succ, List.set_cons_zero, List.set_cons_succ, List.contains_nil, List.toList_toArray, Option.bind_some, Option.map_some, Option.bind_none, Option.map_none, Option.isSome_some, decide_true, decide_false, ↓reduceIte, Bool.false_eq_true, Bool.and_self, Bool.and_true, Bool.true_and, Bool.and_false, Bool.false_and, Bool.not_true, Bool.not_false, Bool.or_false, Bool.or_true, Bool.false_or, Bool.true_or, and_self, true_and, and_true, cond_true, cond_false, Int.toNat_natCast, Int.toNat_zero, Nat.reduceBEq, Nat.reduceAdd, Nat.reduceSub, Nat.reduceMul, Nat.reduceLT, Nat.reduceLeDiff, Nat.reduceEqDiff, Nat.zero_add, Nat.zero_mul, Nat.add_zero, Nat.sub_zero, reduceCtorEq, Nat.le_refl]
  · have hb : ((xs.length : Int) != (ys.length : Int)) = true := by simp; omega
    have hne : xs ≠ ys := fun e => hlen (by rw [e])
    rw [decide_eq_false hne]
    simp +contextual only [↓down, up, Bool.not_eq_true, opX, opA, callA, expo, conv, conv1, lenA, binA, eqA, p_lss, p_leq, p_gtr, p_geq, p_eql, p_neq, p_add, p_sub, p_mul, p_not, indexAddrA, fieldOf, cellsAt, mkVar, storeA, alive, cellsT, splice, newOb, closed1, leaf, okPart, placesA, fillRow, E_P, E_tt, tt, E_kn, E_inl, E_pur, purF, E_ann, annF, E_eqT, ks, eqKs, firstId, res_one, res_two, resOne, fin, finVal, finLeaf, finList, finVals, finFr, finK_ite, expOb, scalT, scal1, freeT, free1, freeOb, shift, shiftV, shift1, List.all_nil, List.all_cons, List.isEmpty_nil, List.map_cons, List.map_nil, List.map_map, List.append_nil, List.nil_append, List.cons_append, List.length_map, List.length_cons, List.length_nil, List.length_append, List.drop, List.take, List.getElem?_cons_zero, List.getElem?_cons_succ, List.set_cons_zero, List.set_cons_succ, List.contains_nil, List.toList_toArray, Option.bind_some, Option.map_some, Option.bind_none, Option.map_none, Option.isSome_some, decide_true, decide_false, ↓reduceIte, Bool.false_eq_true, Bool.and_self, Bool.and_true, Bool.true_and, Bool.and_false, Bool.false_and, Bool.not_true, Bool.not_false, Bool.or_false, Bool.or_true, Bool.false_or, Bool.true_or, and_self, true_and, and_true, cond_true, cond_false, Int.toNat_natCast, Int.toNat_zero, Nat.reduceBEq, Nat.reduceAdd, Nat.reduceSub, Nat.reduceMul, Nat.reduceLT, Nat.reduceLeDiff, Nat.reduceEqDiff, Nat.zero_add, Nat.zero_mul, Nat.add_zero, Nat.sub_zero, reduceCtorEq, Nat.le_refl, Try.func19, Try.f19, hb]
def ixFrom : Nat → List AE → AE → Int
  | _, [], _ => -1
  | i, x :: r, v => if v.eq x = true then i else ixFrom (i + 1) r v
theorem ixFrom_any (v : AE) : ∀ (xs : List AE) (i : Nat), decide (ixFrom i xs v ≥ 0) = xs.any v.eq
  | [], i => rfl
  | x :: r, i => by
    rw [List.any_cons, ixFrom]
    cases h : v.eq x with
    | true => simp
    | false => simpa using ixFrom_any v r (i + 1)
theorem ev53 (n : Nat) (xs : List AE) (h : xs.length ≤ maxLen) (v : AE) : (callN E (n+1)).p 53 [.sl (xs.map encE), .agg (encE v)] = some (I (ixFrom 0 xs v), []) := by
  have hm := maxLen_eq
  rw [call_p]
  generalize callN E n = ora
  simp +contextual only [↓down, up, Bool.not_eq_true, opX, opA, callA, expo, conv, conv1, lenA, binA, eqA, p_lss, p_leq, p_gtr, p_geq, p_eql, p_neq, p_add, p_sub, p_mul, p_not, indexAddrA, fieldOf, cellsAt, mkVar, storeA, alive, cellsT, splice, newOb, closed1, leaf, okPart, placesA, fillRow, E_P, E_tt, tt, E_kn, E_inl, E_pur, purF, E_ann, annF, E_eqT, ks, eqKs, firstId, res_one, res_two, resOne, fin, finVal, finLeaf, finList, finVals, finFr, finK_ite, expOb, scalT, scal1, freeT, free1, freeOb, shift, shiftV, shift1, List.all_nil, List.all_cons, List.isEmpty_nil, List.map_cons, List.map_nil, List.map_map, List.append_nil, List.nil_append, List.cons_append, List.length_map, List.length_cons, List.length_nil, List.length_append, List.drop, List.take, List.getElem?_cons_zero, List.getElem?_cons_succ, List.set_cons_zero, List.set_cons_succ, List.contains_nil, List.toList_toArray, Option.bind_some, Option.map_some, Option.bind_none, Option.map_none, Option.isSome_some, decide_true, decide_false, ↓reduceIte, Bool.false_eq_true, Bool.and_self, Bool.and_true, Bool.true_and, Bool.and_false, Bool.false_and, Bool.not_true, Bool.not_false, Bool.or_false, Bool.or_true, Bool.false_or, Bool.true_or, and_self, true_and, and_true, cond_true, cond_false, Int.toNat_natCast, Int.toNat_zero, Nat.reduceBEq, Nat.reduceAdd, Nat.reduceSub, Nat.reduceMul, Nat.reduceLT, Nat.reduceLeDiff, Nat.reduceEqDiff, Nat.zero_add, Nat.zero_mul, Nat.add_zero, Nat.sub_zero, reduceCtorEq, Nat.le_refl, Try.func53, Try.f53]
  generalize hst : step E ora (E.ann 53) 8 _ = st
  have key := iter_ind (step := st) (fun i : Nat => i ≤ xs.length) (fun i => xs.length - i)
    (fun i : Nat => ([(0, .sl (xs.map encE)), (3, .ref 0 1 0 0), (7, I xs.length), (8, I i)], [({ rows := [encE v], sz := 3, e := 50, froz := false, cl := true } : Ob)]))
    (fun i : Nat => if ixFrom i (xs.drop i) v = -1 then (Ex.exit 0, [(4, .junk)], [({ rows := [encE v], sz := 3, e := 50, froz := false, cl := true } : Ob)]) else (Ex.ret, [(4, I (ixFrom i (xs.drop i) v))], [({ rows := [encE v], sz := 3, e := 50, froz := false, cl := true } : Ob)]))
    (by
      intro i hi
      by_cases hlt : i < xs.length
      · have hw : IntKind.i64.wrap ((i : Int) + 1) = ((i + 1 : Nat) : Int) := by rw [wrap_i64 (by omega) (by omega)]; rfl
        have h0 : (0 : Int) ≤ (i : Int) := by omega
        have h1 : ((i : Int) < (xs.length : Int)) := by omega
        have hg : (xs.map encE)[i]? = some (encE xs[i]) := by rw [List.getElem?_map, List.getElem?_eq_getElem hlt]; rfl
        have hd : ixFrom i (xs.drop i) v = if v.eq xs[i] = true then (i : Int) else ixFrom (i + 1) (xs.drop (i + 1)) v := by
          rw [List.drop_eq_getElem_cons hlt, ixFrom]
        have hs : st ([(0, .sl (xs.map encE)), (3, .ref 0 1 0 0), (7, I xs.length), (8, I i)], [({ rows := [encE v], sz := 3, e := 50, froz := false, cl := true } : Ob)]) =
          if v.eq xs[i] = true then some (.inr (Ex.ret, [(4, I i)], [({ rows := [encE v], sz := 3, e := 50, froz := false, cl := true } : Ob)])) else some (.inl ([(0, .sl (xs.map encE)), (3, .ref 0 1 0 0), (7, I xs.length), (8, I (i + 1 : Nat))], [({ rows := [encE v], sz := 3, e := 50, froz := false, cl := true } : Ob)])) := by
          rw [← hst]
          simp +contextual only [↓down, up, Bool.not_eq_true, opX, opA, callA, expo, conv, conv1, lenA, binA, eqA, p_lss, p_leq, p_gtr, p_geq, p_eql, p_neq, p_add, p_sub, p_mul, p_not, indexAddrA, fieldOf, cellsAt, mkVar, storeA, alive, cellsT, splice, newOb, closed1, leaf, okPart, placesA, fillRow, E_P, E_tt, tt, E_kn, E_inl, E_pur, purF, E_ann, annF, E_eqT, ks, eqKs, firstId, res_one, res_two, resOne, fin, finVal, finLeaf, finList, finVals, finFr, finK_ite, expOb, scalT, scal1, freeT, free1, freeOb, shift, shiftV, shift1, List.all_nil, List.all_cons, List.isEmpty_nil, List.map_cons, List.map_nil, List.map_map, List.append_nil, List.nil_append, List.cons_append, List.length_map, List.length_cons, List.length_nil, List.length_append, List.drop, List.take, List.getElem?_cons_zero, List.getElem?_cons_succ, List.set_cons_zero, List.set_cons_succ, List.contains_nil, List.toList_toArray, Option.bind_some, Option.map_some, Option.bind_none, Option.map_none, Option.isSome_some, decide_true, decide_false, ↓reduceIte, Bool.false_eq_true, Bool.and_self, Bool.and_true, Bool.true_and, Bool.and_false, Bool.false_and, Bool.not_true, Bool.not_false, Bool.or_false, Bool.or_true, Bool.false_or, Bool.true_or, and_self, true_and, and_true, cond_true, cond_false, Int.toNat_natCast, Int.toNat_zero, Nat.reduceBEq, Nat.reduceAdd, Nat.reduceSub, Nat.reduceMul, Nat.reduceLT, Nat.reduceLeDiff, Nat.reduceEqDiff, Nat.zero_add, Nat.zero_mul, Nat.add_zero, Nat.sub_zero, reduceCtorEq, Nat.le_refl, h0, h1, hg, hw]
          unfold AE.eq
          cases v.f == xs[i].f <;> cases v.w == xs[i].w <;> cases v.t == xs[i].t <;> rfl
        rw [hs, hd]
        cases hh : v.eq xs[i]
        · refine .inr ⟨i + 1, hlt, by omega, ?_, ?_⟩ <;> simp
        · refine .inl ?_
          have : ¬ (i : Int) = -1 := by omega
          simp [this]
      · left
        have h1 : ¬ ((i : Int) < (xs.length : Int)) := by omega
        have hd : ixFrom i (xs.drop i) v = -1 := by rw [List.drop_eq_nil_of_le (by omega)]; rfl
        rw [← hst, if_pos hd]
        simp +contextual only [↓down, up, Bool.not_eq_true, opX, opA, callA, expo, conv, conv1, lenA, binA, eqA, p_lss, p_leq, p_gtr, p_geq, p_eql, p_neq, p_add, p_sub, p_mul, p_not, indexAddrA, fieldOf, cellsAt, mkVar, storeA, alive, cellsT, splice, newOb, closed1, leaf, okPart, placesA, fillRow, E_P, E_tt, tt, E_kn, E_inl, E_pur, purF, E_ann, annF, E_eqT, ks, eqKs, firstId, res_one, res_two, resOne, fin, finVal, finLeaf, finList, finVals, finFr, finK_ite, expOb, scalT, scal1, freeT, free1, freeOb, shift, shiftV, shift1, List.all_nil, List.all_cons, List.isEmpty_nil, List.map_cons, List.map_nil, List.map_map, List.append_nil, List.nil_append, List.cons_append, List.length_map, List.length_cons, List.length_nil, List.length_append, List.drop, List.take, List.getElem?_cons_zero, List.getElem?_cons_succ, List.set_cons_zero, List.set_cons_succ, List.contains_nil, List.toList_toArray, Option.bind_some, Option.map_some, Option.bind_none, Option.map_none, Option.isSome_some, decide_true, decide_false, ↓reduceIte, Bool.false_eq_true, Bool.and_self, Bool.and_true, Bool.true_and, Bool.and_false, Bool.false_and, Bool.not_true, Bool.not_false, Bool.or_false, Bool.or_true, Bool.false_or, Bool.true_or, and_self, true_and, and_true, cond_true, cond_false, Int.toNat_natCast, Int.toNat_zero, Nat.reduceBEq, Nat.reduceAdd, Nat.reduceSub, Nat.reduceMul, Nat.reduceLT, Nat.reduceLeDiff, Nat.reduceEqDiff, Nat.zero_add, Nat.zero_mul, Nat.add_zero, Nat.sub_zero, reduceCtorEq, Nat.le_refl, h1])
  have k0 := key 0 (Nat.zero_le _)
  simp only [Int.natCast_zero, List.drop_zero] at k0
  rw [k0]
  by_cases he : ixFrom 0 xs v = -1
  · rw [if_pos he, he]
    simp +contextual only [↓down, up, Bool.not_eq_true, opX, opA, callA, expo, conv, conv1, lenA, binA, eqA, p_lss, p_leq, p_gtr, p_geq, p_eql, p_neq, p_add, p_sub, p_mul, p_not, indexAddrA, fieldOf, cellsAt, mkVar, storeA, alive, cellsT, splice, newOb, closed1, leaf, okPart, placesA, fillRow, E_P, E_tt, tt, E_kn, E_inl, E_pur, purF, E_ann, annF, E_eqT, ks, eqKs, firstId, res_one, res_two, resOne, fin, finVal, finLeaf, finList, finVals, finFr, finK_ite, expOb, scalT, scal1, freeT, free1, freeOb, shift, shiftV, shift1, List.all_nil, List.all_cons, List.isEmpty_nil, List.map_cons, List.map_nil, List.map_map, List.append_nil, List.nil_append, List.cons_append, List.length_map, List.length_cons, List.length_nil, List.length_append, List.drop, List.take, List.getElem?_cons_zero, List.getElem?_cons_succ, List.set_cons_zero, List.set_cons_succ, List.contains_nil, List.toList_toArray, Option.bind_some, Option.map_some, Option.bind_none, Option.map_none, Option.isSome_some, decide_true, decide_false, ↓reduceIte, Bool.false_eq_true, Bool.and_self, Bool.and_true, Bool.true_and, Bool.and_false, Bool.false_and, Bool.not_true, Bool.not_false, Bool.or_false, Bool.or_true, Bool.false_or, Bool.true_or, and_self, true_and, and_true, cond_true, cond_false, Int.toNat_natCast, Int.toNat_zero, Nat.reduceBEq, Nat.reduceAdd, Nat.reduceSub, Nat.reduceMul, Nat.reduceLT, Nat.reduceLeDiff, Nat.reduceEqDiff, Nat.zero_add, Nat.zero_mul, Nat.add_zero, Nat.sub_zero, reduceCtorEq, Nat.le_refl]
  · rw [if_neg he]
    simp +contextual only [↓down, up, Bool.not_eq_true, opX, opA, callA, expo, conv, conv1, lenA, binA, eqA, p_lss, p_leq, p_gtr, p_geq, p_eql, p_neq, p_add, p_sub, p_mul, p_not, indexAddrA, fieldOf, cellsAt, mkVar, storeA, alive, cellsT, splice, newOb, closed1, leaf, okPart, placesA, fillRow, E_P, E_tt, tt, E_kn, E_inl, E_pur, purF, E_ann, annF, E_eqT, ks, eqKs, firstId, res_one, res_two, resOne, fin, finVal, finLeaf, finList, finVals, finFr, finK_ite, expOb, scalT, scal1, freeT, free1, freeOb, shift, shiftV, shift1, List.all_nil, List.all_cons, List.isEmpty_nil, List.map_cons, List.map_nil, List.map_map, List.append_nil, List.nil_append, List.cons_append, List.length_map, List.length_cons, List.length_nil, List.length_append, List.drop, List.take, List.getElem?_cons_zero, List.getElem?_cons_succ, List.set_cons_zero, List.set_cons_succ, List.contains_nil, List.toList_toArray, Option.bind_some, Option.map_some, Option.bind_none, Option.map_none, Option.isSome_some, decide_true, decide_false, ↓reduceIte, Bool.false_eq_true, Bool.and_self, Bool.and_true, Bool.true_and, Bool.and_false, Bool.false_and, Bool.not_true, Bool.not_false, Bool.or_false, Bool.or_true, Bool.false_or, Bool.true_or, and_self, true_and, and_true, cond_true, cond_false, Int.toNat_natCast, Int.toNat_zero, Nat.reduceBEq, Nat.reduceAdd, Nat.reduceSub, Nat.reduceMul, Nat.reduceLT, Nat.reduceLeDiff, Nat.reduceEqDiff, Nat.zero_add, Nat.zero_mul, Nat.add_zero, Nat.sub_zero, reduceCtorEq, Nat.le_refl]
theorem ev39 (n : Nat) (xs : List AE) (h : xs.length ≤ maxLen) (v : AE) : (callN E (n+2)).p 39 [.sl (xs.map encE), .agg (encE v)] = some (B (xs.any v.eq), []) := by
  have c53 := fun v => ev53 n xs h v
  rw [call_p]
  generalize callN E (n+1) = ora at c53 ⊢
  simp +contextual only [↓down, up, Bool.not_eq_true, opX, opA, callA, expo, conv, conv1, lenA, binA, eqA, p_lss, p_leq, p_gtr, p_geq, p_eql, p_neq, p_add, p_sub, p_mul, p_not, indexAddrA, fieldOf, cellsAt, mkVar, storeA, alive, cellsT, splice, newOb, closed1, leaf, okPart, placesA, fillRow, E_P, E_tt, tt, E_kn, E_inl, E_pur, purF, E_ann, annF, E_eqT, ks, eqKs, firstId, res_one, res_two, resOne, fin, finVal, finLeaf, finList, finVals, finFr, finK_ite, expOb, scalT, scal1, freeT, free1, freeOb, shift, shiftV, shift1, List.all_nil, List.all_cons, List.isEmpty_nil, List.map_cons, List.map_nil, List.map_map, List.append_nil, List.nil_append, List.cons_append, List.length_map, List.length_cons, List.length_nil, List.length_append, List.drop, List.take, List.getElem?_cons_zero, List.getElem?_cons_succ, List.set_cons_zero, List.set_cons_succ, List.contains_nil, List.toList_toArray, Option.bind_some, Option.map_some, Option.bind_none, Option.map_none, Option.isSome_some, decide_true, decide_false, ↓reduceIte, Bool.false_eq_true, Bool.and_self, Bool.and_true, Bool.true_and, Bool.and_false, Bool.false_and, Bool.not_true, Bool.not_false, Bool.or_false, Bool.or_true, Bool.false_or, Bool.true_or, and_self, true_and, and_true, cond_true, cond_false, Int.toNat_natCast, Int.toNat_zero, Nat.reduceBEq, Nat.reduceAdd, Nat.reduceSub, Nat.reduceMul, Nat.reduceLT, Nat.reduceLeDiff, Nat.reduceEqDiff, Nat.zero_add, Nat.zero_mul, Nat.add_zero, Nat.sub_zero, reduceCtorEq, Nat.le_refl, Try.func39, Try.f39, c53, ixFrom_any]
theorem ev18 (n : Nat) (xs : List AE) (h : xs.length ≤ maxLen) (a b c : Int) : (callN E (n+3)).p 18 [.sl (xs.map encE), I a, I b, I c] = some (B (xs.any (AE.mk a b c).eq), []) := by
  have c39 := ev39 n xs h ⟨a, b, c⟩
  rw [call_p]
  generalize callN E (n+2) = ora at c39 ⊢
  simp +contextual only [↓down, up, Bool.not_eq_true, opX, opA, callA, expo, conv, conv1, lenA, binA, eqA, p_lss, p_leq, p_gtr, p_geq, p_eql, p_neq, p_add, p_sub, p_mul, p_not, indexAddrA, fieldOf, cellsAt, mkVar, storeA, alive, cellsT, splice, newOb, closed1, leaf, okPart, placesA, fillRow, E_P, E_tt, tt, E_kn, E_inl, E_pur, purF, E_ann, annF, E_eqT, ks, eqKs, firstId, res_one, res_two, resOne, fin, finVal, finLeaf, finList, finVals, finFr, finK_ite, expOb, scalT, scal1, freeT, free1, freeOb, shift, shiftV, shift1, List.all_nil, List.all_cons, List.isEmpty_nil, List.map_cons, List.map_nil, List.map_map, List.append_nil, List.nil_append, List.cons_append, List.length_map, List.length_cons, List.length_nil, List.length_append, List.drop, List.take, List.getElem?_cons_zero, List.getElem?_cons_succ, List.set_cons_zero, List.set_cons_succ, List.contains_nil, List.toList_toArray, Option.bind_some, Option.map_some, Option.bind_none, Option.map_none, Option.isSome_some, decide_true, decide_false, ↓reduceIte, Bool.false_eq_true, Bool.and_self, Bool.and_true, Bool.true_and, Bool.and_false, Bool.false_and, Bool.not_true, Bool.not_false, Bool.or_false, Bool.or_true, Bool.false_or, Bool.true_or, and_self, true_and, and_true, cond_true, cond_false, Int.toNat_natCast, Int.toNat_zero, Nat.reduceBEq, Nat.reduceAdd, Nat.reduceSub, Nat.reduceMul, Nat.reduceLT, Nat.reduceLeDiff, Nat.reduceEqDiff, Nat.zero_add, Nat.zero_mul, Nat.add_zero, Nat.sub_zero, reduceCtorEq, Nat.le_refl, Try.func18, Try.f18, c39]
theorem has_any (xs : List AE) (a b c : Int) : AE.has xs a b c = xs.any (AE.mk a b c).eq := by
  unfold AE.has AE.eq
  congr 1
  funext e
  rw [BEq.comm (a := e.f), BEq.comm (a := e.w), BEq.comm (a := e.t)]
theorem free_encE (xs : List AE) : (xs.map encE).all (fun r => r.all free1) = true := by
  rw [List.all_eq_true]
  intro r hr
  rw [List.mem_map] at hr
  obtain ⟨e, _, rfl⟩ := hr
  rfl
theorem ev4 (n : Nat) (xs : List AE) (h : xs.length ≤ maxLen) (a b c : Int) : (callN E (n+4)).p 4 [.sl (xs.map encE), I a, I b, I c] = some (B true, []) := by
  have hm := maxLen_eq
  have c15 := ev15 (n + 2) (xs.map encE) (by simpa using h) 1048576 (by omega) (by omega)
  have c16 := ev16 (n + 2) xs h a b c
  have c17 := ev17 (n + 1) xs
  have c18 := ev18 n xs h a b c
  have c19 := ev19 (n + 1) xs xs h
  rw [has_any] at c16
  have hf := free_encE xs
  rw [call_p]
  generalize callN E (n+3) = ora at c15 c16 c17 c18 c19 ⊢
  by_cases hl : (1048576 : Int) < (xs.length : Int)
  · simp +contextual only [↓down, up, Bool.not_eq_true, opX, opA, callA, expo, conv, conv1, lenA, binA, eqA, p_lss, p_leq, p_gtr, p_geq, p_eql, p_neq, p_add, p_sub, p_mul, p_not, indexAddrA, fieldOf, cellsAt, mkVar, storeA, alive, cellsT, splice, newOb, closed1, leaf, okPart, placesA, fillRow, E_P, E_tt, tt, E_kn, E_inl, E_pur, purF, E_ann, annF, E_eqT, ks, eqKs, firstId, res_one, res_two, resOne, fin, finVal, finLeaf, finList, finVals, finFr, finK_ite, expOb, scalT, scal1, freeT, free1, freeOb, shift, shiftV, shift1, List.all_nil, List.all_cons, List.isEmpty_nil, List.map_cons, List.map_nil, List.map_map, List.append_nil, List.nil_append, List.cons_append, List.length_map, List.length_cons, List.length_nil, List.length_append, List.drop, List.take, List.getElem?_cons_zero, List.getElem?_cons_succ, List.set_cons_zero, List.set_cons_succ, List.contains_nil, List.toList_toArray, Option.bind_some, Option.map_some, Option.bind_none, Option.map_none, Option.isSome_some, decide_true, decide_false, ↓reduceIte, Bool.false_eq_true, Bool.and_self, Bool.and_true, Bool.true_and, Bool.and_false, Bool.false_and, Bool.not_true, Bool.not_false, Bool.or_false, Bool.or_true, Bool.false_or, Bool.true_or, and_self, true_and, and_true, cond_true, cond_false, Int.toNat_natCast, Int.toNat_zero, Nat.reduceBEq, Nat.reduceAdd, Nat.reduceSub, Nat.reduceMul, Nat.reduceLT, Nat.reduceLeDiff, Nat.reduceEqDiff, Nat.zero_add, Nat.zero_mul, Nat.add_zero, Nat.sub_zero, reduceCtorEq, Nat.le_refl, Try.func4, Try.f4, c15, hl]
    rfl
  · have c17' := c17 (by omega)
    have hl' : ¬ ((1048576 : Int) - (xs.length : Int) < 0) := by omega
    simp +contextual only [↓down, up, Bool.not_eq_true, opX, opA, callA, expo, conv, conv1, lenA, binA, eqA, p_lss, p_leq, p_gtr, p_geq, p_eql, p_neq, p_add, p_sub, p_mul, p_not, indexAddrA, fieldOf, cellsAt, mkVar, storeA, alive, cellsT, splice, newOb, closed1, leaf, okPart, placesA, fillRow, E_P, E_tt, tt, E_kn, E_inl, E_pur, purF, E_ann, annF, E_eqT, ks, eqKs, firstId, res_one, res_two, resOne, fin, finVal, finLeaf, finList, finVals, finFr, finK_ite, expOb, scalT, scal1, freeT, free1, freeOb, shift, shiftV, shift1, List.all_nil, List.all_cons, List.isEmpty_nil, List.map_cons, List.map_nil, List.map_map, List.append_nil, List.nil_append, List.cons_append, List.length_map, List.length_cons, List.length_nil, List.length_append, List.drop, List.take, List.getElem?_cons_zero, List.getElem?_cons_succ, List.set_cons_zero, List.set_cons_succ, List.contains_nil, List.toList_toArray, Option.bind_some, Option.map_some, Option.bind_none, Option.map_none, Option.isSome_some, decide_true, decide_false, ↓reduceIte, Bool.false_eq_true, Bool.and_self, Bool.and_true, Bool.true_and, Bool.and_false, Bool.false_and, Bool.not_true, Bool.not_false, Bool.or_false, Bool.or_true, Bool.false_or, Bool.true_or, and_self, true_and, and_true, cond_true, cond_false, Int.toNat_natCast, Int.toNat_zero, Nat.reduceBEq, Nat.reduceAdd, Nat.reduceSub, Nat.reduceMul, Nat.reduceLT, Nat.reduceLeDiff, Nat.reduceEqDiff, Nat.zero_add, Nat.zero_mul, Nat.add_zero, Nat.sub_zero, reduceCtorEq, Nat.le_refl, Try.func4, Try.f4, c15, c16, c17', c18, c19, hl, hl', hf, beq_self_eq_true]
end Go.Proofs.Ytbehhhlidaiblaa.Ai
