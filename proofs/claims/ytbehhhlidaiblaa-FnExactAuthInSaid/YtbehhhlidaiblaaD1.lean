/- Readings of the seat's types. -/
import Derived.Test.YtbehhhlidaiblaaE2
namespace Go.Proofs.Ytbehhhlidaiblaa.Ai
open Go Go.Proofs Go.RowKit
theorem rd_edge {H : Type} {enc : TypeId × Value → H} {w : World} : Rd enc Try.prog w 59 encE (fun _ => True) := by
  refine Rd.struct Try.underlying59 ?_
  intro cs hc h
  have hI : Rd enc Try.prog w 3 (fun n : Int => [.val (.int .i64 n)]) (fun n => (Lit.int .i64 n).wf = true) := Rd.int Try.underlying3
  have hz : Try.prog.cellsOf 3 = 1 := by kernel_rfl
  have hn : Try.prog.cellsOf 59 = 3 := by kernel_rfl
  rw [hn] at hc ⊢
  obtain ⟨⟨a, b, c, u⟩, g1, g2, g3⟩ := (RdF.cons (n := 3) rfl hI (by simp only [hz]; decide) (RdF.cons (by rw [hz]) hI (by simp only [hz]; decide) (RdF.cons (by rw [hz]) hI (by simp only [hz]; decide) (by rw [hz]; exact RdF.nil)))) cs hc h
  exact ⟨⟨a, b, c⟩, trivial, rfl, g3⟩
theorem cells59 : Try.prog.cellsOf 59 = 3 := by kernel_rfl
theorem rd_edges {H : Type} {enc : TypeId × Value → H} {w : World} : Rd enc Try.prog w 30 (fun l : List AE => [.sl (l.map encE)]) (fun l => l.length ≤ maxLen) :=
  (Rd.slice Try.underlying30 (by rw [cells59]; decide) rd_edge).map id (fun _ => rfl) (fun _ h => h.2)
theorem rd_int {H : Type} {enc : TypeId × Value → H} {w : World} : Rd enc Try.prog w 3 (fun n : Int => [I n]) (fun n => (Lit.int .i64 n).wf = true) := Rd.int Try.underlying3
end Go.Proofs.Ytbehhhlidaiblaa.Ai
