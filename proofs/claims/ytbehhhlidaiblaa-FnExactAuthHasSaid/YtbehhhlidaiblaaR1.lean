/- Proved: laws.FnExactAuthHas returns true at every input of the row, and each argument reads behind the call as it read before. No condition beyond the row's own. -/
import Derived.Test.YtbehhhlidaiblaaRows
import Derived.Test.YtbehhhlidaiblaaE2
import Derived.WalkKit
import Derived.ProofKit
import Derived.OpenShut
import Derived.ShutString
import Derived.ChangeOld
import Derived.Below
import Derived.SizedLaws
namespace Go.Proofs.Ytbehhhlidaiblaa.Ai
open Go Go.Proofs Go.RowKit
theorem rd_edge {H : Type} {enc : TypeId × Value → H} {w : World} : Rd enc Try.prog w 59 encE (fun _ => True) := by
  refine Rd.struct Try.underlying59 ?_
  intro cs hc h
  have hI : Rd enc Try.prog w 3 (fun n : Int => [.val (.int .i64 n)]) (fun n => (Lit.int .i64 n).wf = true) := Rd.int Try.underlying3
  have hz : Try.prog.cellsOf 3 = 1 := by kernel_rfl
  have hn : Try.prog.cellsOf 59 = 3 := by kernel_rfl
  rw [hn] at hc ⊢
  obtain ⟨⟨a, b, c, u⟩, g1, g2, g3⟩ := (RdF.cons (n := 3) rfl hI (by simp only [hz]; decide) (RdF.cons (by rw [hz]) hI (by simp only [hz]; decide) (RdF.cons (by rw [hz]) hI (by simp only [hz]; decide) (by rw [hz]; exact RdF.nil)))) cs hc h
  exact ⟨⟨a, b, c⟩, trivial, rfl, g3⟩
theorem cells59 : Try.prog.cellsOf 59 = 3 := by kernel_rfl
theorem rd_edges {H : Type} {enc : TypeId × Value → H} {w : World} : Rd enc Try.prog w 30 (fun l : List AE => [.sl (l.map encE)]) (fun l => l.length ≤ maxLen) :=
  (Rd.slice Try.underlying30 (by rw [cells59]; decide) rd_edge).map id (fun _ => rfl) (fun _ h => h.2)
theorem rd_int {H : Type} {enc : TypeId × Value → H} {w : World} : Rd enc Try.prog w 3 (fun n : Int => [I n]) (fun n => (Lit.int .i64 n).wf = true) := Rd.int Try.underlying3
end Go.Proofs.Ytbehhhlidaiblaa.Ai
namespace Go.Proofs.Ytbehhhlidaiblaa.fnExactAuthHas
open Go.ChangeShapes Go.WideShapes Go.ChangeAt Go.RowKit Ai
theorem own : ownKnob Try.prog.godebug = none := by kernel_rfl
theorem laidOut : laidOutB Try.prog = true := by kernel_rfl
set_option maxRecDepth 100000 in
theorem lifted (os : Os) (started : os.Started) (H : Type) (enc : TypeId × Value → H) :
    ReturnsInHanded {} Try.checked os 4 .any (Rows.fnExactAuthHasSpec.pre6 enc Try.prog Try.f4 Rows.fnExactAuthHasRow.domain false) (Rows.fnExactAuthHasSpec.post enc Try.prog Try.f4 false true false false) := by
  refine returnsInHanded_of_change_sized (C := Try.checked) own started (by kernel_rfl) Try.func4
    (ChangeSpec.witness6 (enc := enc) (C := Try.checked) false ⟨#[], #[.slice none 0 0, .int .i64 0, .int .i64 0, .int .i64 0], []⟩ 8 (by kernel_rfl) (by kernel_rfl) (by kernel_rfl) (by kernel_rfl)) ?_
  intro W base args ds gs before hval0 hW hcnd hsz0 _
  have hval : ∀ (j : Nat) t v, Try.f4.params[j]? = some t → args[j]? = some v → Value.okWide Try.prog W .any base t v := hval0
  have hW' := hW
  obtain ⟨p, q, hA0, hV, rfl, hfz, hnd⟩ := hW
  have hA : DataW.TrodAll enc Try.prog W 0 (fun _ => true) true Try.f4.params.toList args.toList ds p := hA0
  rw [Try.params4] at hA hval
  obtain ⟨v0, vs0, d0, ds0, p0, q0, hargs, rfl, rfl, h0, r0⟩ := trodAll_cons hA
  obtain ⟨v1, vs1, d1, ds1, p1, q1, rfl, rfl, rfl, h1, r1⟩ := trodAll_cons r0
  obtain ⟨v2, vs2, d2, ds2, p2, q2, rfl, rfl, rfl, h2, r2⟩ := trodAll_cons r1
  obtain ⟨v3, vs3, d3, ds3, p3, q3, rfl, rfl, rfl, h3, r3⟩ := trodAll_cons r2
  obtain ⟨rfl, rfl, rfl⟩ := trodAll_nil r3
  obtain rfl : args = #[v0, v1, v2, v3] := by cases args; simp_all
  obtain ⟨rfl, rfl⟩ := trodVars_none hV
  have lt0 : ∀ x ∈ p0, x.block < W.heap.size := by obtain ⟨m, hm⟩ := h0; exact DataW.trod_lt m _ _ _ hm
  have lt1 : ∀ x ∈ p1, x.block < W.heap.size := by obtain ⟨m, hm⟩ := h1; exact DataW.trod_lt m _ _ _ hm
  have lt2 : ∀ x ∈ p2, x.block < W.heap.size := by obtain ⟨m, hm⟩ := h2; exact DataW.trod_lt m _ _ _ hm
  have lt3 : ∀ x ∈ p3, x.block < W.heap.size := by obtain ⟨m, hm⟩ := h3; exact DataW.trod_lt m _ _ _ hm
  obtain ⟨xs, hx, i0⟩ := rd_edges.arg (by obtain ⟨a, b, c, rfl⟩ := okWide_slice Try.underlying30 (hval 0 30 v0 rfl rfl); rfl) h0
  obtain ⟨a, _, i1⟩ := rd_int.arg (by obtain ⟨a, rfl⟩ := okWide_int Try.underlying3 (hval 1 3 v1 rfl rfl); rfl) h1
  obtain ⟨b, _, i2⟩ := rd_int.arg (by obtain ⟨a, rfl⟩ := okWide_int Try.underlying3 (hval 2 3 v2 rfl rfl); rfl) h2
  obtain ⟨c, _, i3⟩ := rd_int.arg (by obtain ⟨a, rfl⟩ := okWide_int Try.underlying3 (hval 3 3 v3 rfl rfl); rfl) h3
  refine (law_calls (E := E) E_ok E_fns (ev4 0 xs hx a b c) (W := W) (argv := #[v0, v1, v2, v3]) rfl ?_).mono fun e W' ⟨he, bel⟩ => ?_
  · intro j t hj
    match j, hj with
    | 0, hj => injection hj with hj; subst hj; exact i0
    | 1, hj => injection hj with hj; subst hj; exact i1
    | 2, hj => injection hj with hj; subst hj; exact i2
    | 3, hj => injection hj with hj; subst hj; exact i3
  subst he
  exact ⟨_, rfl, _, _, _, [], _, [], hW', trodAll_mk1 (shut_bool Try.underlying4 _), (trodAll_cons_mk (Below.trod laidOut (by kernel_rfl) (of_decide_eq_true (by kernel_rfl)) h0 bel lt0) (trodAll_cons_mk (Below.trod laidOut (by kernel_rfl) (of_decide_eq_true (by kernel_rfl)) h1 bel lt1) (trodAll_cons_mk (Below.trod laidOut (by kernel_rfl) (of_decide_eq_true (by kernel_rfl)) h2 bel lt2) (trodAll_cons_mk (Below.trod laidOut (by kernel_rfl) (of_decide_eq_true (by kernel_rfl)) h3 bel lt3) trodAll_mk0)))), rfl, bel.frame _, fun h => by cases h⟩
theorem over : Rows.fnExactAuthHasRow.holds Try.pinned (OpenSpec.ofChange Rows.fnExactAuthHasSpec) :=
  OpenClaim.holds_of_wide 4 Try.f4 rfl rfl rfl rfl rfl rfl rfl ⟨rfl, rfl, rfl, rfl, rfl⟩ rfl rfl rfl rfl rfl (by kernel_rfl) Try.func4 (by kernel_rfl)
    (of_decide_eq_true (by kernel_rfl)) (by unfold Func.isWrapper; first | (rw [if_pos (by decide +kernel)]; kernel_rfl) | (rw [if_neg (by decide +kernel)]; exact ⟨rfl, rfl⟩))
    (fun os started H enc _ => lifted os started H enc)
theorem proved : Rows.FnExactAuthHasSaid := over
#print axioms proved
end Go.Proofs.Ytbehhhlidaiblaa.fnExactAuthHas
