/-
  No cell of these rows narrows 'for every input' (looked for: loops, veiled, ifaces, maps, wideKeys, modest, calm, conditions, laid).
  DERIVED. THE GIVEN ROWS OF THIS SEAT. 9 by the template 'for every input the law returns true; each argument reads behind the call as it read before'; 0 by the template 'total and deterministic' (their statements: YtbehhhlidaiblaaTotals.lean).
  GIVEN WITH THE SEED: the statements are not yours to turn. If you find one false, say at which input.
  Laid BY PROGRAM, IN A SANDBOX (cutbox-rows.mjs): the forced cells as the released guide's own fill.sh prints them over the translation caa5fcd940c0dfd3… (all of the seat's roots in one cut). By AI agents, Wed Nov 11 2026. No macro, syntax, notation, axiom, sorry.
-/
import Derived.Test.YtbehhhlidaiblaaChecked
import GoSem.Claim
import GoSem.ClaimJoined
import GoSem.ClaimMapViews
import Derived.JoinedTies
import Derived.KernelRfl
namespace Go.Proofs.Ytbehhhlidaiblaa
/- THE CELL 'sum', in the pinned program and in every row, IS THE sha256 OF THE DUMP (.gsa) THAT YtbehhhlidaiblaaProg.lean LOADS. Nothing in Lean hashes anything: it is a label: what it is worth is what the hold of that sum in a sandbox is worth. -/
noncomputable def Try.pinned : Pinned := { name := "ytbehhhlidaiblaa", sum := "caa5fcd940c0dfd3ba63502053b4e31a8abad5643695081105e25d0c3f6e76d5", checked := Try.checked }
namespace Rows
def none {H : Type} : Left H := { results := [], args := [] }

/-- 'laws.FnFewDiff': WHATEVER THE INPUT: true; the input reads as it did. -/
def fnFewDiffSpec : ChangeSpec := { name := "fnFewDiff", fn := fun _ => fun
  | [d] => { results := [.lit (.bool true)], args := [d] }
  | _ => none }
def fnFewDiffRow : OpenClaim := { program := "ytbehhhlidaiblaa", sum := "caa5fcd940c0dfd3ba63502053b4e31a8abad5643695081105e25d0c3f6e76d5", func := "loop.example/donjon/laws.FnFewDiff", spec := "fnFewDiff", apart := false }
def FnFewDiffSaid : Prop := fnFewDiffRow.holds Try.pinned (OpenSpec.ofChange fnFewDiffSpec)

/-- ITS FALSE NEIGHBOUR: 'it returns false'. Refute it at one input. -/
def fnFewDiffWrong : ChangeSpec := { name := "fnFewDiff", fn := fun _ => fun
  | [d] => { results := [.lit (.bool false)], args := [d] }
  | _ => none }
def FnFewDiffWrongFalsely : Prop := fnFewDiffRow.holds Try.pinned (OpenSpec.ofChange fnFewDiffWrong)

/-- 'laws.FnExactAuthHas': WHATEVER THE INPUT: true; the input reads as it did. -/
def fnExactAuthHasSpec : ChangeSpec := { name := "fnExactAuthHas", fn := fun _ => fun
  | [d1, d2, d3, d4] => { results := [.lit (.bool true)], args := [d1, d2, d3, d4] }
  | _ => none }
def fnExactAuthHasRow : OpenClaim := { program := "ytbehhhlidaiblaa", sum := "caa5fcd940c0dfd3ba63502053b4e31a8abad5643695081105e25d0c3f6e76d5", func := "loop.example/donjon/laws.FnExactAuthHas", spec := "fnExactAuthHas", apart := false }
def FnExactAuthHasSaid : Prop := fnExactAuthHasRow.holds Try.pinned (OpenSpec.ofChange fnExactAuthHasSpec)

/-- ITS FALSE NEIGHBOUR: 'it returns false'. Refute it at one input. -/
def fnExactAuthHasWrong : ChangeSpec := { name := "fnExactAuthHas", fn := fun _ => fun
  | [d1, d2, d3, d4] => { results := [.lit (.bool false)], args := [d1, d2, d3, d4] }
  | _ => none }
def FnExactAuthHasWrongFalsely : Prop := fnExactAuthHasRow.holds Try.pinned (OpenSpec.ofChange fnExactAuthHasWrong)

/-- 'laws.FnExactFewDiff': WHATEVER THE INPUT: true; the input reads as it did. -/
def fnExactFewDiffSpec : ChangeSpec := { name := "fnExactFewDiff", fn := fun _ => fun
  | [d1, d2] => { results := [.lit (.bool true)], args := [d1, d2] }
  | _ => none }
def fnExactFewDiffRow : OpenClaim := { program := "ytbehhhlidaiblaa", sum := "caa5fcd940c0dfd3ba63502053b4e31a8abad5643695081105e25d0c3f6e76d5", func := "loop.example/donjon/laws.FnExactFewDiff", spec := "fnExactFewDiff", apart := false }
def FnExactFewDiffSaid : Prop := fnExactFewDiffRow.holds Try.pinned (OpenSpec.ofChange fnExactFewDiffSpec)

/-- ITS FALSE NEIGHBOUR: 'it returns false'. Refute it at one input. -/
def fnExactFewDiffWrong : ChangeSpec := { name := "fnExactFewDiff", fn := fun _ => fun
  | [d1, d2] => { results := [.lit (.bool false)], args := [d1, d2] }
  | _ => none }
def FnExactFewDiffWrongFalsely : Prop := fnExactFewDiffRow.holds Try.pinned (OpenSpec.ofChange fnExactFewDiffWrong)

/-- 'laws.FnExactAuthIn': WHATEVER THE INPUT: true; the input reads as it did. -/
def fnExactAuthInSpec : ChangeSpec := { name := "fnExactAuthIn", fn := fun _ => fun
  | [d1, d2] => { results := [.lit (.bool true)], args := [d1, d2] }
  | _ => none }
def fnExactAuthInRow : OpenClaim := { program := "ytbehhhlidaiblaa", sum := "caa5fcd940c0dfd3ba63502053b4e31a8abad5643695081105e25d0c3f6e76d5", func := "loop.example/donjon/laws.FnExactAuthIn", spec := "fnExactAuthIn", unfollowed := true, recurses := true, apart := false }
def FnExactAuthInSaid : Prop := fnExactAuthInRow.holds Try.pinned (OpenSpec.ofChange fnExactAuthInSpec)

/-- ITS FALSE NEIGHBOUR: 'it returns false'. Refute it at one input. -/
def fnExactAuthInWrong : ChangeSpec := { name := "fnExactAuthIn", fn := fun _ => fun
  | [d1, d2] => { results := [.lit (.bool false)], args := [d1, d2] }
  | _ => none }
def FnExactAuthInWrongFalsely : Prop := fnExactAuthInRow.holds Try.pinned (OpenSpec.ofChange fnExactAuthInWrong)

/-- 'laws.FnExactReachOf': WHATEVER THE INPUT: true; the input reads as it did. -/
def fnExactReachOfSpec : ChangeSpec := { name := "fnExactReachOf", fn := fun _ => fun
  | [d1, d2, d3] => { results := [.lit (.bool true)], args := [d1, d2, d3] }
  | _ => none }
def fnExactReachOfRow : OpenClaim := { program := "ytbehhhlidaiblaa", sum := "caa5fcd940c0dfd3ba63502053b4e31a8abad5643695081105e25d0c3f6e76d5", func := "loop.example/donjon/laws.FnExactReachOf", spec := "fnExactReachOf", unfollowed := true, recurses := true, apart := false }
def FnExactReachOfSaid : Prop := fnExactReachOfRow.holds Try.pinned (OpenSpec.ofChange fnExactReachOfSpec)

/-- ITS FALSE NEIGHBOUR: 'it returns false'. Refute it at one input. -/
def fnExactReachOfWrong : ChangeSpec := { name := "fnExactReachOf", fn := fun _ => fun
  | [d1, d2, d3] => { results := [.lit (.bool false)], args := [d1, d2, d3] }
  | _ => none }
def FnExactReachOfWrongFalsely : Prop := fnExactReachOfRow.holds Try.pinned (OpenSpec.ofChange fnExactReachOfWrong)

/-- 'laws.FnAuthRules': WHATEVER THE INPUT: true; the input reads as it did. -/
def fnAuthRulesSpec : ChangeSpec := { name := "fnAuthRules", fn := fun _ => fun
  | [d] => { results := [.lit (.bool true)], args := [d] }
  | _ => none }
def fnAuthRulesRow : OpenClaim := { program := "ytbehhhlidaiblaa", sum := "caa5fcd940c0dfd3ba63502053b4e31a8abad5643695081105e25d0c3f6e76d5", func := "loop.example/donjon/laws.FnAuthRules", spec := "fnAuthRules", apart := false }
def FnAuthRulesSaid : Prop := fnAuthRulesRow.holds Try.pinned (OpenSpec.ofChange fnAuthRulesSpec)

/-- ITS FALSE NEIGHBOUR: 'it returns false'. Refute it at one input. -/
def fnAuthRulesWrong : ChangeSpec := { name := "fnAuthRules", fn := fun _ => fun
  | [d] => { results := [.lit (.bool false)], args := [d] }
  | _ => none }
def FnAuthRulesWrongFalsely : Prop := fnAuthRulesRow.holds Try.pinned (OpenSpec.ofChange fnAuthRulesWrong)

/-- 'laws.FnExactAuthClose': WHATEVER THE INPUT: true; the input reads as it did. -/
def fnExactAuthCloseSpec : ChangeSpec := { name := "fnExactAuthClose", fn := fun _ => fun
  | [d1, d2] => { results := [.lit (.bool true)], args := [d1, d2] }
  | _ => none }
def fnExactAuthCloseRow : OpenClaim := { program := "ytbehhhlidaiblaa", sum := "caa5fcd940c0dfd3ba63502053b4e31a8abad5643695081105e25d0c3f6e76d5", func := "loop.example/donjon/laws.FnExactAuthClose", spec := "fnExactAuthClose", apart := false }
def FnExactAuthCloseSaid : Prop := fnExactAuthCloseRow.holds Try.pinned (OpenSpec.ofChange fnExactAuthCloseSpec)

/-- ITS FALSE NEIGHBOUR: 'it returns false'. Refute it at one input. -/
def fnExactAuthCloseWrong : ChangeSpec := { name := "fnExactAuthClose", fn := fun _ => fun
  | [d1, d2] => { results := [.lit (.bool false)], args := [d1, d2] }
  | _ => none }
def FnExactAuthCloseWrongFalsely : Prop := fnExactAuthCloseRow.holds Try.pinned (OpenSpec.ofChange fnExactAuthCloseWrong)

/-- 'laws.FnAuthClose': WHATEVER THE INPUT: true; the input reads as it did. -/
def fnAuthCloseSpec : ChangeSpec := { name := "fnAuthClose", fn := fun _ => fun
  | [d1, d2] => { results := [.lit (.bool true)], args := [d1, d2] }
  | _ => none }
def fnAuthCloseRow : OpenClaim := { program := "ytbehhhlidaiblaa", sum := "caa5fcd940c0dfd3ba63502053b4e31a8abad5643695081105e25d0c3f6e76d5", func := "loop.example/donjon/laws.FnAuthClose", spec := "fnAuthClose", unfollowed := true, recurses := true, apart := false }
def FnAuthCloseSaid : Prop := fnAuthCloseRow.holds Try.pinned (OpenSpec.ofChange fnAuthCloseSpec)

/-- ITS FALSE NEIGHBOUR: 'it returns false'. Refute it at one input. -/
def fnAuthCloseWrong : ChangeSpec := { name := "fnAuthClose", fn := fun _ => fun
  | [d1, d2] => { results := [.lit (.bool false)], args := [d1, d2] }
  | _ => none }
def FnAuthCloseWrongFalsely : Prop := fnAuthCloseRow.holds Try.pinned (OpenSpec.ofChange fnAuthCloseWrong)

/-- 'laws.FnReachOf': WHATEVER THE INPUT: true; the input reads as it did. -/
def fnReachOfSpec : ChangeSpec := { name := "fnReachOf", fn := fun _ => fun
  | [d1, d2] => { results := [.lit (.bool true)], args := [d1, d2] }
  | _ => none }
def fnReachOfRow : OpenClaim := { program := "ytbehhhlidaiblaa", sum := "caa5fcd940c0dfd3ba63502053b4e31a8abad5643695081105e25d0c3f6e76d5", func := "loop.example/donjon/laws.FnReachOf", spec := "fnReachOf", unfollowed := true, recurses := true, apart := false }
def FnReachOfSaid : Prop := fnReachOfRow.holds Try.pinned (OpenSpec.ofChange fnReachOfSpec)

/-- ITS FALSE NEIGHBOUR: 'it returns false'. Refute it at one input. -/
def fnReachOfWrong : ChangeSpec := { name := "fnReachOf", fn := fun _ => fun
  | [d1, d2] => { results := [.lit (.bool false)], args := [d1, d2] }
  | _ => none }
def FnReachOfWrongFalsely : Prop := fnReachOfRow.holds Try.pinned (OpenSpec.ofChange fnReachOfWrong)

/- THE SECOND FORM. 'bulk': how many values and letters a reading holds, each counted each time it is reached (what is shared counts as often as it is met; a slice's spare places count too). A statement '..UptoSaid' is the law's where the arguments, and the package variables that the reading takes, are together of bulk at most 1048576: NARROWER than '..Said'. Prove '..Said' where nothing that the law and all that it calls make is longer than what came in: it says more and counts as full. Else prove '..UptoSaid'. A law counts once. -/
mutual
def uptoBulk {H : Type} : DataW H → Nat
  | .lit (.string bytes) => bytes.length + 1
  | .lit _ => 1
  | .nil => 1
  | .ptr d => uptoBulk d + 1
  | .slice elems spare => uptoBulkAll elems + uptoBulkAll spare + 1
  | .agg parts => uptoBulkAll parts + 1
  | .iface _ d => uptoBulk d + 1
  | .map entries => uptoBulkEntries entries + 1
  | .held _ => 1
def uptoBulkAll {H : Type} : List (DataW H) → Nat
  | [] => 0
  | d :: r => uptoBulk d + uptoBulkAll r
def uptoBulkEntries {H : Type} : List (Lit × DataW H) → Nat
  | [] => 0
  | x :: r => uptoBulkEntry x + uptoBulkEntries r
def uptoBulkEntry {H : Type} : Lit × DataW H → Nat
  | (.string bytes, d) => bytes.length + uptoBulk d + 1
  | (_, d) => uptoBulk d + 1
 end
def uptoSmall : (H : Type) → List (DataW H) → Bool := fun _ ds => decide (uptoBulkAll ds ≤ 1048576)
def OpenSpec.upto (s : _root_.Go.ChangeSpec) : _root_.Go.OpenSpec := { _root_.Go.OpenSpec.ofChange s with cond := some uptoSmall }

/-- 'laws.FnFewDiff', WHERE WHAT IT READS IS OF BULK AT MOST 1048576: true; the input reads as it did. -/
def fnFewDiffUptoRow : OpenClaim := { program := "ytbehhhlidaiblaa", sum := "caa5fcd940c0dfd3ba63502053b4e31a8abad5643695081105e25d0c3f6e76d5", func := "loop.example/donjon/laws.FnFewDiff", spec := "fnFewDiff", apart := false, narrowed := true }
def FnFewDiffUptoSaid : Prop := fnFewDiffUptoRow.holds Try.pinned (OpenSpec.upto fnFewDiffSpec)

/-- 'laws.FnExactAuthHas', WHERE WHAT IT READS IS OF BULK AT MOST 1048576: true; the input reads as it did. -/
def fnExactAuthHasUptoRow : OpenClaim := { program := "ytbehhhlidaiblaa", sum := "caa5fcd940c0dfd3ba63502053b4e31a8abad5643695081105e25d0c3f6e76d5", func := "loop.example/donjon/laws.FnExactAuthHas", spec := "fnExactAuthHas", apart := false, narrowed := true }
def FnExactAuthHasUptoSaid : Prop := fnExactAuthHasUptoRow.holds Try.pinned (OpenSpec.upto fnExactAuthHasSpec)

/-- 'laws.FnExactFewDiff', WHERE WHAT IT READS IS OF BULK AT MOST 1048576: true; the input reads as it did. -/
def fnExactFewDiffUptoRow : OpenClaim := { program := "ytbehhhlidaiblaa", sum := "caa5fcd940c0dfd3ba63502053b4e31a8abad5643695081105e25d0c3f6e76d5", func := "loop.example/donjon/laws.FnExactFewDiff", spec := "fnExactFewDiff", apart := false, narrowed := true }
def FnExactFewDiffUptoSaid : Prop := fnExactFewDiffUptoRow.holds Try.pinned (OpenSpec.upto fnExactFewDiffSpec)

/-- 'laws.FnExactAuthIn', WHERE WHAT IT READS IS OF BULK AT MOST 1048576: true; the input reads as it did. -/
def fnExactAuthInUptoRow : OpenClaim := { program := "ytbehhhlidaiblaa", sum := "caa5fcd940c0dfd3ba63502053b4e31a8abad5643695081105e25d0c3f6e76d5", func := "loop.example/donjon/laws.FnExactAuthIn", spec := "fnExactAuthIn", unfollowed := true, recurses := true, apart := false, narrowed := true }
def FnExactAuthInUptoSaid : Prop := fnExactAuthInUptoRow.holds Try.pinned (OpenSpec.upto fnExactAuthInSpec)

/-- 'laws.FnExactReachOf', WHERE WHAT IT READS IS OF BULK AT MOST 1048576: true; the input reads as it did. -/
def fnExactReachOfUptoRow : OpenClaim := { program := "ytbehhhlidaiblaa", sum := "caa5fcd940c0dfd3ba63502053b4e31a8abad5643695081105e25d0c3f6e76d5", func := "loop.example/donjon/laws.FnExactReachOf", spec := "fnExactReachOf", unfollowed := true, recurses := true, apart := false, narrowed := true }
def FnExactReachOfUptoSaid : Prop := fnExactReachOfUptoRow.holds Try.pinned (OpenSpec.upto fnExactReachOfSpec)

/-- 'laws.FnAuthRules', WHERE WHAT IT READS IS OF BULK AT MOST 1048576: true; the input reads as it did. -/
def fnAuthRulesUptoRow : OpenClaim := { program := "ytbehhhlidaiblaa", sum := "caa5fcd940c0dfd3ba63502053b4e31a8abad5643695081105e25d0c3f6e76d5", func := "loop.example/donjon/laws.FnAuthRules", spec := "fnAuthRules", apart := false, narrowed := true }
def FnAuthRulesUptoSaid : Prop := fnAuthRulesUptoRow.holds Try.pinned (OpenSpec.upto fnAuthRulesSpec)

/-- 'laws.FnExactAuthClose', WHERE WHAT IT READS IS OF BULK AT MOST 1048576: true; the input reads as it did. -/
def fnExactAuthCloseUptoRow : OpenClaim := { program := "ytbehhhlidaiblaa", sum := "caa5fcd940c0dfd3ba63502053b4e31a8abad5643695081105e25d0c3f6e76d5", func := "loop.example/donjon/laws.FnExactAuthClose", spec := "fnExactAuthClose", apart := false, narrowed := true }
def FnExactAuthCloseUptoSaid : Prop := fnExactAuthCloseUptoRow.holds Try.pinned (OpenSpec.upto fnExactAuthCloseSpec)

/-- 'laws.FnAuthClose', WHERE WHAT IT READS IS OF BULK AT MOST 1048576: true; the input reads as it did. -/
def fnAuthCloseUptoRow : OpenClaim := { program := "ytbehhhlidaiblaa", sum := "caa5fcd940c0dfd3ba63502053b4e31a8abad5643695081105e25d0c3f6e76d5", func := "loop.example/donjon/laws.FnAuthClose", spec := "fnAuthClose", unfollowed := true, recurses := true, apart := false, narrowed := true }
def FnAuthCloseUptoSaid : Prop := fnAuthCloseUptoRow.holds Try.pinned (OpenSpec.upto fnAuthCloseSpec)

/-- 'laws.FnReachOf', WHERE WHAT IT READS IS OF BULK AT MOST 1048576: true; the input reads as it did. -/
def fnReachOfUptoRow : OpenClaim := { program := "ytbehhhlidaiblaa", sum := "caa5fcd940c0dfd3ba63502053b4e31a8abad5643695081105e25d0c3f6e76d5", func := "loop.example/donjon/laws.FnReachOf", spec := "fnReachOf", unfollowed := true, recurses := true, apart := false, narrowed := true }
def FnReachOfUptoSaid : Prop := fnReachOfUptoRow.holds Try.pinned (OpenSpec.upto fnReachOfSpec)

end Rows
end Go.Proofs.Ytbehhhlidaiblaa
