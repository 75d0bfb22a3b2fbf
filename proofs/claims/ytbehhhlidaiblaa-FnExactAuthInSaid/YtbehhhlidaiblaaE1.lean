/- The seat's types and functions, as the machine is told them. -/
import Derived.Test.YtbehhhlidaiblaaProg
import Derived.Test.YtbehhhlidaiblaaAi15
import Derived.KernelRfl
namespace Go.Proofs.Ytbehhhlidaiblaa.Ai
open Go Go.Proofs

noncomputable def tt : Nat → Option TI
  | 3 => some { agg := false, size := 1, bytes := 8, zero := [.val (.int .i64 0)], slice := none, arr := none, fields := [], int := some .i64, ptr := false, str := false, bool := false }
  | 4 => some { agg := false, size := 1, bytes := 1, zero := [.val (.bool false)], slice := none, arr := none, fields := [], int := none, ptr := false, str := false, bool := true }
  | 5 => some { agg := false, size := 1, bytes := 1, zero := [.val (.int .u8 0)], slice := none, arr := none, fields := [], int := some .u8, ptr := false, str := false, bool := false }
  | 22 => some { agg := false, size := 1, bytes := 24, zero := [.nil], slice := some 5, arr := none, fields := [], int := none, ptr := false, str := false, bool := false }
  | 23 => some { agg := false, size := 1, bytes := 24, zero := [.nil], slice := some 28, arr := none, fields := [], int := none, ptr := false, str := false, bool := false }
  | 26 => some { agg := false, size := 1, bytes := 24, zero := [.nil], slice := some 3, arr := none, fields := [], int := none, ptr := false, str := false, bool := false }
  | 28 => some { agg := false, size := 1, bytes := 4, zero := [.val (.int .u32 0)], slice := none, arr := none, fields := [], int := some .u32, ptr := false, str := false, bool := false }
  | 30 => some { agg := false, size := 1, bytes := 24, zero := [.nil], slice := some 59, arr := none, fields := [], int := none, ptr := false, str := false, bool := false }
  | 33 => some { agg := false, size := 1, bytes := 24, zero := [.nil], slice := some 50, arr := none, fields := [], int := none, ptr := false, str := false, bool := false }
  | 50 => some { agg := true, size := 3, bytes := 24, zero := [.val (.int .i64 0), .val (.int .i64 0), .val (.int .i64 0)], slice := none, arr := none, fields := [(0, 3), (1, 3), (2, 3)], int := none, ptr := false, str := false, bool := false }
  | 59 => some { agg := true, size := 3, bytes := 24, zero := [.val (.int .i64 0), .val (.int .i64 0), .val (.int .i64 0)], slice := none, arr := none, fields := [(0, 3), (1, 3), (2, 3)], int := none, ptr := false, str := false, bool := false }
  | 74 => some { agg := false, size := 1, bytes := 24, zero := [.nil], slice := some 4, arr := none, fields := [], int := none, ptr := false, str := false, bool := false }
  | _ => none
theorem tt_ok (t : Nat) (ti : TI) (h : tt t = some ti) : tiOf Try.prog t = some ti := by
  unfold tt at h
  split at h
  all_goals first | (cases h; done) | (cases h; kernel_rfl)
def ks : Nat → Option (List Nat)
  | 50 => some [0, 0, 0]
  | _ => none
theorem ks_ok (t : Nat) (l : List Nat) (h : ks t = some l) : kindsOf Try.prog t = some l := by
  unfold ks at h
  split at h
  all_goals first | (cases h; done) | (cases h; kernel_rfl)
def known : List Nat := List.range 63
/-- The loops' frames: at the head, at the way out. -/
def annF : Nat → Nat → List Nat × List Nat
  | 16, 2 => ([0, 1, 2, 3, 8, 9], [8])
  | 17, 3 => ([0, 3, 4], [3])
  | 19, 4 => ([0, 1, 4, 5], [4])
  | 53, 2 => ([0, 3, 7, 8], [4])
  | 26, 4 => ([0, 1, 4, 5], [4])
  | 54, 2 => ([0, 1, 7, 8], [4])
  | _, _ => ([], [])
/-- The functions whose results are single values with nothing behind them. -/
def purF : Nat → Bool
  | 15 => true
  | 16 => true
  | 18 => true
  | 19 => true
  | 21 => true
  | 22 => true
  | 23 => true
  | 24 => true
  | 25 => true
  | 26 => true
  | 27 => true
  | 30 => true
  | 34 => true
  | 38 => true
  | 39 => true
  | 40 => true
  | 41 => true
  | 42 => true
  | 43 => true
  | 44 => true
  | 45 => true
  | 53 => true
  | 54 => true
  | 55 => true
  | 56 => true
  | _ => false
noncomputable def E : Env := { P := Try.prog, tt := tt, eqT := fun t xs ys => (ks t).bind fun l => eqKs l xs ys, inl := fun _ => false, kn := fun f => decide (f ≤ 62), pur := purF, ann := annF }
theorem E_ok : EnvOk E where
  tt := tt_ok
  eqT := fun c xt xs ys b vs us x y h hx hy => by
    have h' : (ks xt).bind (fun l => eqKs l xs ys) = some b := h
    rw [Option.bind_eq_some_iff] at h'
    obtain ⟨l, h1, h2⟩ := h'
    exact eqKs_ok (ks_ok xt l h1) h2 hx hy
noncomputable def fnB (f : Nat) : Bool := match Try.prog.funcs[f]? with
  | none => true
  | some fn => (fn.name == "runtime.NumGoroutine") == false && match fn.body with
    | none => true
    | some code => okCode E fn.ntmps code
theorem fns_all : known.all fnB = true := by kernel_rfl
theorem E_fns : FnsOk E where
  orders := by kernel_rfl
  fns := fun f fn hk hf => by
    have hk' : decide (f ≤ 62) = true := hk
    have hmem : f ∈ known := List.mem_range.2 (by have := of_decide_eq_true hk'; omega)
    have h := List.all_eq_true.1 fns_all f hmem
    unfold fnB at h
    have hf' : Try.prog.funcs[f]? = some fn := hf
    rw [hf'] at h
    simp only [Bool.and_eq_true, beq_iff_eq] at h
    refine ⟨h.1, fun code hc => ?_⟩
    have h2 := h.2
    rw [hc] at h2
    exact h2
end Go.Proofs.Ytbehhhlidaiblaa.Ai
