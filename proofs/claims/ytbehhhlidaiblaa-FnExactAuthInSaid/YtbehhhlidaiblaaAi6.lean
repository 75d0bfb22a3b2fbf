/- Each operation of the machine is one of the program's: all together. -/
import Derived.Test.YtbehhhlidaiblaaAi5
namespace Go.Proofs.Ytbehhhlidaiblaa.Ai
open Go Go.RowKit
section ops
variable {E : Env} {c : Cx} {w : World} {S : List Ob}

theorem guard_int (P : Program) (op : BinOp) (t : Nat) (x y : Operand) (k k' : IntKind) (a b : Int) (w : World) : (eqGuard op t x y (.int k a) (.int k' b)).run P w = .ok () w := by
  cases op <;> rfl
theorem guard_str (P : Program) (op : BinOp) (t : Nat) (x y : Operand) (a b : ByteArray) (w : World) : (eqGuard op t x y (.string a) (.string b)).run P w = .ok () w := by
  cases op <;> rfl
theorem guard_bool (P : Program) (op : BinOp) (t : Nat) (x y : Operand) (a b : Bool) (w : World) : (eqGuard op t x y (.bool a) (.bool b)).run P w = .ok () w := by
  cases op <;> rfl
theorem guard_ptr (P : Program) (op : BinOp) (t : Nat) (x y : Operand) (a b : Option Addr) (w : World) : (eqGuard op t x y (.pointer a) (.pointer b)).run P w = .ok () w := by
  cases op <;> rfl
theorem equalIn_ptr {P : Program} {t e : Nat} (h : P.underlying t = some (.pointer e)) (a : Option Addr) (w : World) (d : Nat) : (Op.equalIn (d + 1) t (.pointer a) (.pointer none)).run P w = .ok a.isNone w := by
  simp only [Op.equalIn, Sem.run_bind, run_underlying h, Result.andThen_ok]
  cases a <;> rfl
theorem equal_ptr {P : Program} {t e : Nat} (h : P.underlying t = some (.pointer e)) (a : Option Addr) (w : World) : (Op.equal t (.pointer a) (.pointer none)).run P w = .ok a.isNone w :=
  equalIn_ptr h a w 9999
theorem equalIn_bool {P : Program} {t : Nat} (h : P.underlying t = some .bool) (a b : Bool) (w : World) (d : Nat) : (Op.equalIn (d + 1) t (.bool a) (.bool b)).run P w = .ok (a == b) w := by
  simp only [Op.equalIn, Sem.run_bind, run_underlying h, Result.andThen_ok]
  rfl
theorem equal_bool {P : Program} {t : Nat} (h : P.underlying t = some .bool) (a b : Bool) (w : World) : (Op.equal t (.bool a) (.bool b)).run P w = .ok (a == b) w :=
  equalIn_bool h a b w 9999
theorem bin_eql {P : Program} {t : Nat} {x y : Value} {b : Bool} {w : World} (hn : ∀ k a k' b, ¬ (x = .int k a ∧ y = .int k' b)) (hs : ∀ a b, ¬ (x = .string a ∧ y = .string b)) (hxy : (∃ a b, x = .pointer a ∧ y = .pointer b) ∨ (∃ a b, x = .bool a ∧ y = .bool b) ∨ (∃ a b, x = .agg a ∧ y = .agg b))
    (h : (Op.equal t x y).run P w = .ok b w) : (binOp .eql t x y).run P w = .ok (.bool b) w ∧ (binOp .neq t x y).run P w = .ok (.bool (!b)) w := by
  rcases hxy with ⟨a, b', rfl, rfl⟩ | ⟨a, b', rfl, rfl⟩ | ⟨a, b', rfl, rfl⟩ <;> simp [binOp, h]
theorem bin_ok (hE : EnvOk E) (hI : Inv c w S) {op : BinOp} {xt : Nat} {tx ty t : T} {vx vy : Value} (hx : VR c tx vx) (hy : VR c ty vy) (xo yo : Operand) (h : binA E S op xt tx ty = some t) :
    ∃ v, (do eqGuard op xt xo yo vx vy; binOp op xt vx vy : Sem Value).run E.P w = .ok v w ∧ VR c t v := by
  have ptr : ∀ (A : Option Addr), vx = .pointer A → vy = .pointer none → ∀ ti, E.tt xt = some ti → ti.ptr = true → ∀ b, b = A.isNone →
      (op = .eql → ∃ v, (do eqGuard op xt xo yo vx vy; binOp op xt vx vy : Sem Value).run E.P w = .ok v w ∧ VR c (.val (.bool b)) v) ∧
      (op = .neq → ∃ v, (do eqGuard op xt xo yo vx vy; binOp op xt vx vy : Sem Value).run E.P w = .ok v w ∧ VR c (.val (.bool (!b))) v) := by
    intro A hA hN ti hti hp b hb
    subst hA hN hb
    obtain ⟨e, he⟩ := ti_ptr (hE.tt _ _ hti) hp
    have hq := bin_eql (P := E.P) (t := xt) (x := .pointer A) (y := .pointer none) (w := w) (by simp) (by simp) (.inl ⟨_, _, rfl, rfl⟩) (equal_ptr he A w)
    exact ⟨fun ho => by subst ho; exact ⟨_, by simp only [Sem.run_bind, guard_ptr, Result.andThen_ok]; exact hq.1, .im (.val rfl)⟩, fun ho => by subst ho; exact ⟨_, by simp only [Sem.run_bind, guard_ptr, Result.andThen_ok]; exact hq.2, .im (.val rfl)⟩⟩
  unfold binA at h
  split at h
  · obtain ⟨rfl, _⟩ := vr_val hx
    obtain ⟨rfl, _⟩ := vr_val hy
    obtain ⟨v, rfl, hf, hv⟩ := pureT_run h
    exact ⟨v, by simp only [Sem.run_bind, guard_int, Result.andThen_ok]; exact hv _ _, .im (.val hf)⟩
  · obtain ⟨rfl, _⟩ := vr_val hx
    obtain ⟨rfl, _⟩ := vr_val hy
    obtain ⟨v, rfl, hf, hv⟩ := pureT_run h
    exact ⟨v, by simp only [Sem.run_bind, guard_str, Result.andThen_ok]; exact hv _ _, .im (.val hf)⟩
  · rename_i i k row off
    obtain ⟨rfl, _⟩ := vr_val hy
    simp only [Option.bind_eq_some_iff] at h
    obtain ⟨O, hal, ti, hti, h⟩ := h
    obtain ⟨_, _, rfl⟩ := vr_ref hI hx hal
    split at h
    · rename_i hp
      obtain ⟨p1, p2⟩ := ptr _ rfl rfl ti hti hp false rfl
      split at h
      · injection h with h; subst h; exact p1 rfl
      · injection h with h; subst h; exact p2 rfl
      · cases h
    · cases h
  · rename_i a b
    obtain ⟨rfl, _⟩ := vr_val hx
    obtain ⟨rfl, _⟩ := vr_val hy
    simp only [Option.bind_eq_some_iff] at h
    obtain ⟨ti, hti, h⟩ := h
    split at h
    · rename_i hp
      have hq := bin_eql (P := E.P) (t := xt) (x := .bool a) (y := .bool b) (w := w) (by simp) (by simp) (.inr (.inl ⟨_, _, rfl, rfl⟩)) (equal_bool (ti_bool (hE.tt _ _ hti) hp) a b w)
      split at h
      · injection h with h; subst h; exact ⟨_, by simp only [Sem.run_bind, guard_bool, Result.andThen_ok]; exact hq.1, .im (.val rfl)⟩
      · injection h with h; subst h; exact ⟨_, by simp only [Sem.run_bind, guard_bool, Result.andThen_ok]; exact hq.2, .im (.val rfl)⟩
      · cases h
    · cases h
  · have key : ∀ b, eqA E xt tx ty = some b →
        (op = .eql → ∃ v, (do eqGuard op xt xo yo vx vy; binOp op xt vx vy : Sem Value).run E.P w = .ok v w ∧ VR c (.val (.bool b)) v) ∧
        (op = .neq → ∃ v, (do eqGuard op xt xo yo vx vy; binOp op xt vx vy : Sem Value).run E.P w = .ok v w ∧ VR c (.val (.bool (!b))) v) := by
      intro b hb
      unfold eqA at hb
      split at hb
      · obtain ⟨vs, rfl, _⟩ := vr_agg hx
        obtain ⟨us, rfl, _⟩ := vr_agg hy
        obtain ⟨e1, e2, e3⟩ := hE.eqT c xt _ _ b vs us xo yo hb hx hy
        have hq := bin_eql (P := E.P) (t := xt) (x := .agg vs) (y := .agg us) (w := w) (by simp) (by simp) (.inr (.inr ⟨_, _, rfl, rfl⟩)) (e3 w)
        exact ⟨fun ho => by subst ho; exact ⟨_, by simp only [Sem.run_bind, e1, Result.andThen_ok]; exact hq.1, .im (.val rfl)⟩, fun ho => by subst ho; exact ⟨_, by simp only [Sem.run_bind, e2, Result.andThen_ok]; exact hq.2, .im (.val rfl)⟩⟩
      · obtain ⟨rfl, _⟩ := vr_val hx
        obtain ⟨rfl, _⟩ := vr_val hy
        simp only [Option.bind_eq_some_iff] at hb
        obtain ⟨ti, hti, hb⟩ := hb
        split at hb
        · injection hb with hb
          exact ptr none rfl rfl ti hti ‹_› b hb.symm
        · cases hb
      · obtain ⟨rfl, _⟩ := vr_val hy
        simp only [Option.bind_eq_some_iff] at hb
        obtain ⟨ti, hti, hb⟩ := hb
        cases hx with
        | im hx =>
        cases hx with
        | ip =>
        split at hb
        · injection hb with hb
          exact ptr _ rfl rfl ti hti ‹_› b hb.symm
        · cases hb
      · cases hb
    split at h
    · rw [Option.map_eq_some_iff] at h
      obtain ⟨b, hb, rfl⟩ := h
      exact (key b hb).1 rfl
    · rw [Option.map_eq_some_iff] at h
      obtain ⟨b, hb, rfl⟩ := h
      exact (key b hb).2 rfl
    · cases h

theorem field_of (hE : EnvOk E) {s f : Nat} {p : Nat × TI} (h : fieldOf E s f = some p) : ∃ fs fd, E.P.underlying s = some (.struct fs) ∧ fs[f]? = some fd ∧ fd.offset = p.1 ∧ E.tt fd.type = some p.2 ∧ p.2.size ≠ 0 := by
  unfold fieldOf at h
  simp only [Option.bind_eq_some_iff] at h
  obtain ⟨ti, hti, q, hq, fi, hfi, h⟩ := h
  split at h
  · cases h
  · rename_i hz
    injection h with h
    subst h
    have hne : ti.fields ≠ [] := fun e => by rw [e] at hq; simp at hq
    obtain ⟨fs, h1, h2⟩ := ti_fields (hE.tt _ _ hti) hne
    rw [h2, List.getElem?_map, Option.map_eq_some_iff] at hq
    obtain ⟨fd, hfd, rfl⟩ := hq
    exact ⟨fs, fd, h1, by rw [← Array.getElem?_toList]; exact hfd, rfl, hfi, hz⟩
theorem part_ok (hE : EnvOk E) {ty off : Nat} {ti : TI} (hti : E.tt ty = some ti) {cs : List T} {vs : Array Value} (hl : cs.length = vs.size) (hv : ∀ j t, cs[j]? = some t → VR c t (vs.getD j undef)) {t : T}
    (h : mkVar ti.agg ti.size (cs.drop off) = some t) : ∃ v, (part ty vs off).run E.P w = .ok v w ∧ VR c t v := by
  have h1 := hE.tt _ _ hti
  unfold mkVar at h
  split at h
  · rename_i hg
    split at h
    · rename_i hle
      injection h with h
      subst h
      rw [List.length_drop] at hle
      refine ⟨.agg (vs.extract off (off + ti.size)), by simp [part, run_isAgg h1, hg, run_size h1], .agg (by simp; omega) fun j t hj => ?_⟩
      rw [List.getElem?_take] at hj
      split at hj
      · rename_i hlt
        rw [List.getElem?_drop] at hj
        have := hv _ _ hj
        have hlt2 : off + j < vs.size := by rw [← hl]; exact (List.getElem?_eq_some_iff.1 hj).1
        rw [Array.getD_eq_getD_getElem?, Array.getElem?_extract, if_pos (by omega)]
        rwa [Array.getD_eq_getD_getElem?] at this
      · cases hj
    · cases h
  · rename_i hg
    rw [List.getElem?_drop, Nat.add_zero] at h
    have := hv _ _ h
    have hlt2 : off < vs.size := by rw [← hl]; exact (List.getElem?_eq_some_iff.1 h).1
    refine ⟨vs[off], by simp [part, run_isAgg h1, hg, hlt2], ?_⟩
    simpa [hlt2] using this

theorem opA_ok (hE : EnvOk E) (hI : Inv c w S) {F : Fr} {a : Act} (hF : FR c F a) {o : Oper} {t : T} {S' : List Ob} (h : opA E o.op F S = some (t, S')) : Runs E.P c w (execOp a.eval o) t S' := by
  obtain ⟨dst, op, ty, pos, aft, gd⟩ := o
  simp only at h
  unfold opA at h
  split at h
  · injection h with h; injection h with h1 h2; subst h1 h2
    exact Runs.pure hI rfl (ev_ok hF _)
  · injection h with h; injection h with h1 h2; subst h1 h2
    exact Runs.pure hI rfl (ev_ok hF _)
  · -- pick
    rename_i q x y
    split at h
    · rename_i b hb
      have hc := ev_ok hF q
      rw [hb] at hc
      obtain ⟨hv, _⟩ := vr_val hc
      split at h
      · injection h with h; injection h with h1 h2; subst h1 h2
        rename_i ht
        subst ht
        exact Runs.pure hI (v := a.eval x) (by simp [execOp, hv, asBool]) (ev_ok hF _)
      · injection h with h; injection h with h1 h2; subst h1 h2
        rename_i ht
        have : b = false := by simpa using ht
        subst this
        exact Runs.pure hI (v := a.eval y) (by simp [execOp, hv, asBool]) (ev_ok hF _)
    · cases h
  · -- alloc
    rename_i e
    rw [Option.map_eq_some_iff] at h
    obtain ⟨ti, hti, h⟩ := h
    injection h with h1 h2; subst h1 h2
    obtain ⟨z, z1, z2, z3, z4⟩ := run_zero (hE.tt _ _ hti)
    obtain ⟨r1, r2⟩ := zero_rel (im := c.im) z3
    refine var_ok hI r1 (fun j x hj => ?_) (by simp [execOp, Instr.alloc, z1, newVar, newRow])
    have hjl : j < z.cells.size := by rw [← r1]; exact (List.getElem?_eq_some_iff.1 hj).1
    have := r2 j x hj
    rw [Array.getD_eq_getD_getElem?, Array.getElem?_eq_getElem hjl] at this
    exact ⟨z.cells[j], Array.getElem?_eq_getElem hjl, .im this, z4 _ (Array.getElem_mem hjl)⟩
  · -- box
    rename_i e x
    rw [Option.bind_eq_some_iff] at h
    obtain ⟨ti, hti, h⟩ := h
    split at h
    · rename_i hc
      injection h with h; injection h with h1 h2; subst h1 h2
      obtain ⟨v1, v2⟩ := vr_cells (ev_ok hF x) hc.2
      exact var_ok hI v1 v2 (by simp [execOp, Instr.box, newVar, newRow])
    · cases h
  · -- build
    rename_i bt parts
    rw [Option.bind_eq_some_iff] at h
    obtain ⟨ti, hti, h⟩ := h
    split at h
    · cases h
    · rename_i hf
      simp only [Option.bind_eq_some_iff, Option.map_eq_some_iff] at h
      obtain ⟨pl, hpl, cs, hcs, h⟩ := h
      injection h with h1 h2; subst h1 h2
      obtain ⟨v, q1, q2⟩ := build_ok (w := w) hE hF hti hf hpl hcs
      exact Runs.pure hI (run_v q1) q2
  · -- buildSlice
    rename_i bt n parts
    simp only [Option.bind_eq_some_iff] at h
    obtain ⟨ti, hti, e, hsl, ei, hei, h⟩ := h
    split at h
    · rename_i hc
      rw [Option.map_eq_some_iff] at h
      obtain ⟨rows, hrows, h⟩ := h
      injection h with h1 h2; subst h1 h2
      exact buildSlice_ok hE hI hF hti hsl hei hc hrows
    · cases h
  · -- load
    rename_i lt x
    simp only [Option.bind_eq_some_iff, Option.map_eq_some_iff] at h
    obtain ⟨ti, hti, cs, hcs, v, hv, h⟩ := h
    injection h with h1 h2; subst h1 h2
    obtain ⟨ad, u, e1, e2, e3⟩ := cells_at hI (ev_ok hF x) hcs
    obtain ⟨v', q1, q2⟩ := load_ok hE hI hti e2 e3 hv
    exact Runs.pure hI (run_v (by rw [e1]; simp only [Instr.loadAt, Instr.sureAddr, Sem.run_bind, Sem.run_pure, Result.andThen_ok]; exact q1)) q2
  · -- store
    rename_i st x y
    exact store_ok hE hI (ev_ok hF x) (ev_ok hF y) h (fun w' hw' => by simp [execOp, hw'])
  · -- nilCheck
    rename_i x
    have hx := ev_ok hF x
    split at h
    · rename_i cs hcs
      injection h with h; injection h with h1 h2; subst h1 h2
      rw [hcs] at hx
      have hx0 := hx
      cases hx with
      | im hx =>
      generalize hv : a.eval x = v at hx hx0
      cases hx with
      | ip => exact Runs.pure hI (by simp [execOp, hv]) hx0
    · rename_i i k row off hcs
      rw [Option.map_eq_some_iff] at h
      obtain ⟨O, hal, h⟩ := h
      injection h with h1 h2; subst h1 h2
      rw [hcs] at hx
      obtain ⟨_, _, hv⟩ := vr_ref hI hx hal
      exact Runs.pure hI (v := a.eval x) (by simp [execOp, hv]) hx
    · rename_i f caps hcs
      injection h with h; injection h with h1 h2; subst h1 h2
      rw [hcs] at hx
      have hv : ∃ vs, a.eval x = .func (.func f) #[] vs := by
        generalize a.eval x = v at hx
        cases hx with
        | im hx => cases hx with | fn => exact ⟨_, rfl⟩
        | fn => exact ⟨_, rfl⟩
      obtain ⟨vs, hv⟩ := hv
      exact Runs.pure hI (v := a.eval x) (by simp [execOp, hv]) hx
    · cases h
  · -- binOp
    rename_i bo xt x y yt
    rw [Option.map_eq_some_iff] at h
    obtain ⟨r, hr, h⟩ := h
    injection h with h1 h2; subst h1 h2
    obtain ⟨v, q1, q2⟩ := bin_ok hE hI (ev_ok hF x) (ev_ok hF y) x y hr
    exact Runs.pure hI (run_v q1) q2
  · -- unOp
    rename_i uo xt x
    split at h
    · rename_i v hv
      rw [Option.map_eq_some_iff] at h
      obtain ⟨r, hr, h⟩ := h
      injection h with h1 h2; subst h1 h2
      obtain ⟨v', rfl, hf, q⟩ := pureT_run hr
      have hx := ev_ok hF x
      rw [hv] at hx
      obtain ⟨hx, _⟩ := vr_val hx
      exact Runs.pure hI (run_v (by rw [hx]; exact q _ _)) (.im (.val hf))
    · cases h
  · -- convert
    rename_i src dt x
    split at h
    · rename_i k n hv
      have hx := ev_ok hF x
      rw [hv] at hx
      obtain ⟨hx, _⟩ := vr_val hx
      simp only [Option.bind_eq_some_iff, Option.map_eq_some_iff] at h
      obtain ⟨si, hsi, ti, hti, k', hk, h⟩ := h
      injection h with h1 h2; subst h1 h2
      obtain ⟨i, d, z, g1, g2, _⟩ := ti_get (hE.tt _ _ hsi)
      have hd := ti_int (hE.tt _ _ hti) hk
      exact Runs.pure hI (run_v (by rw [hx]; simp [convert, run_underlying g2, run_underlying hd, Conv.intToInt])) (.im (.val rfl))
    · cases h
  · -- makeFunc
    rename_i f first caps
    split at h
    · rename_i hz
      injection h with h; injection h with h1 h2; subst h1 h2
      have hfirst : first = #[] := Array.eq_empty_of_size_eq_zero hz
      subst hfirst
      refine Runs.pure hI (v := .func (.func f) #[] (caps.map a.eval)) (by simp [execOp, Instr.makeFunc]) (.fn (by simp) fun j t hj => ?_)
      rw [List.getElem?_map, Option.map_eq_some_iff] at hj
      obtain ⟨x, hx, rfl⟩ := hj
      rw [Array.getElem?_toList] at hx
      rw [Array.getD_eq_getD_getElem?, Array.getElem?_map, hx]
      exact ev_ok hF x
    · cases h
  · -- makeSlice
    rename_i mt l q
    split at h
    · rename_i n m hl hm
      simp only [Option.bind_eq_some_iff] at h
      obtain ⟨ti, hti, e, hsl, ei, hei, h⟩ := h
      split at h
      · rename_i hc
        obtain ⟨hnm, hc⟩ := hc
        subst hnm
        injection h with h; injection h with h1 h2; subst h1 h2
        have hxl := ev_ok hF l
        have hxm := ev_ok hF q
        rw [hl] at hxl
        rw [hm] at hxm
        obtain ⟨hxl, _⟩ := vr_val hxl
        obtain ⟨hxm, _⟩ := vr_val hxm
        have := makeSlice_ok hE hI hti hsl hei hc
        simp only [execOp, hxl, hxm]
        exact this
      · cases h
    · cases h
  · -- slice
    rename_i st x lo hi mx
    split at h
    · rw [Option.map_eq_some_iff] at h
      obtain ⟨r, hr, h⟩ := h
      injection h with h1 h2; subst h1 h2
      obtain ⟨v, q1, q2⟩ := slice_ok (w := w) hE (ev_ok hF) (ev_ok hF x) hr
      exact Runs.pure hI (run_v q1) q2
    · cases h
  · -- fieldAddr
    rename_i s x f
    rw [Option.bind_eq_some_iff] at h
    obtain ⟨p, hp, h⟩ := h
    obtain ⟨fs, fd, f1, f2, f3, f4, f5⟩ := field_of hE hp
    have hx := ev_ok hF x
    have hrun : ∀ ad : Addr, (Instr.fieldAt s (.pointer (some ad)) f).run E.P w = .ok (.pointer (some (ad.add p.1))) w := fun ad => by
      simp only [Instr.fieldAt, Sem.run_bind, run_underlying f1, Result.andThen_ok, f2, Instr.sureAddr, Sem.run_pure, fieldPlace, run_size (hE.tt _ _ f4)]
      rw [if_neg f5, f3]
      rfl
    split at h
    · rename_i cs hcs
      injection h with h; injection h with h1 h2; subst h1 h2
      rw [hcs] at hx
      cases hx with
      | im hx =>
      generalize hv : a.eval x = v at hx
      cases hx with
      | @ip _ ad u hs hi' h1 hv' =>
        refine Runs.pure hI (v := .pointer (some (ad.add p.1))) (run_v (by rw [hv]; exact hrun ad)) (.im (.ip (fun j => u (p.1 + j)) (add_spot hs _) (fun j t hj => ?_) (fun j t hj => ?_) fun j t hj => ?_))
        · rw [List.getElem?_drop] at hj
          rw [add_eq hs]
          simp only [Nat.add_assoc]
          exact hi' _ _ hj
        · rw [List.getElem?_drop] at hj
          exact h1 _ _ hj
        · rw [List.getElem?_drop] at hj
          exact hv' _ _ hj
    · rename_i i k row off hcs
      rw [Option.bind_eq_some_iff] at h
      obtain ⟨O, hal, h⟩ := h
      injection h with h; injection h with h1 h2; subst h1 h2
      rw [hcs] at hx
      obtain ⟨hn, k1, hv⟩ := vr_ref hI hx hal
      obtain ⟨hO, hk⟩ := alive_ok hal
      refine Runs.pure hI (run_v (by rw [hv]; exact hrun _)) ?_
      rw [add_eq rfl]
      have := VR.ref (c := c) (i := i) (k := k) (row := row) (off := off + p.1) hn (by rw [k1.len, hk])
      rw [k1.sz] at this
      simpa [Nat.add_assoc] using this
    · cases h
  · -- field
    rename_i s x f
    rw [Option.bind_eq_some_iff] at h
    obtain ⟨p, hp, h⟩ := h
    obtain ⟨fs, fd, f1, f2, f3, f4, f5⟩ := field_of hE hp
    have hx := ev_ok hF x
    split at h
    · rename_i cs hcs
      rw [Option.map_eq_some_iff] at h
      obtain ⟨r, hr, h⟩ := h
      injection h with h1 h2; subst h1 h2
      rw [hcs] at hx
      obtain ⟨vs, hv, g1, g2⟩ := vr_agg hx
      obtain ⟨v, q1, q2⟩ := part_ok (w := w) hE f4 g1 g2 hr
      exact Runs.pure hI (run_v (by rw [hv]; simp only [Instr.field, Sem.run_bind, run_underlying f1, Result.andThen_ok, f2, asAgg, Sem.run_pure, f3]; exact q1)) q2
    · cases h
  · -- indexAddr
    rename_i s x ix
    rw [Option.map_eq_some_iff] at h
    obtain ⟨r, hr, h⟩ := h
    injection h with h1 h2; subst h1 h2
    obtain ⟨p, q1, q2⟩ := index_ok hE hI (ev_ok hF x) (ev_ok hF ix) hr
    exact Runs.pure hI (run_v q1) q2
  · -- index
    rename_i it x ix
    split at h
    · rename_i cs k i hcs hix
      simp only [Option.bind_eq_some_iff] at h
      obtain ⟨ti, hti, ne, hne, ei, hei, h⟩ := h
      obtain ⟨n, e⟩ := ne
      have ht := ti_arr (hE.tt _ _ hti) hne
      split at h
      · rename_i hb
        rw [Option.map_eq_some_iff] at h
        obtain ⟨r, hr, h⟩ := h
        injection h with h1 h2; subst h1 h2
        have hx := ev_ok hF x
        have hi := ev_ok hF ix
        rw [hcs] at hx
        rw [hix] at hi
        obtain ⟨hi, _⟩ := vr_val hi
        obtain ⟨vs, hv, g1, g2⟩ := vr_agg hx
        obtain ⟨v, q1, q2⟩ := part_ok (w := w) hE hei g1 g2 hr
        refine Runs.pure hI (run_v (v := v) ?_) q2
        rw [hv, hi]
        simp only [Instr.index, Sem.run_bind, asIntOf, Sem.run_pure, Result.andThen_ok, run_underlying ht]
        rw [if_pos hb]
        simp only [Sem.run_bind, run_size (hE.tt _ _ hei), Result.andThen_ok]
        exact q1
      · cases h
    · rename_i s k i hs hix
      rw [Option.bind_eq_some_iff] at h
      obtain ⟨ti, hti, h⟩ := h
      split at h
      · rename_i hst
        have ht := ti_str (hE.tt _ _ hti) hst
        split at h
        · rename_i h0
          rw [Option.map_eq_some_iff] at h
          obtain ⟨b, hb, h⟩ := h
          injection h with h1 h2; subst h1 h2
          have hx := ev_ok hF x
          have hi := ev_ok hF ix
          rw [hs] at hx
          rw [hix] at hi
          obtain ⟨hi, _⟩ := vr_val hi
          obtain ⟨hx, _⟩ := vr_val hx
          refine Runs.pure hI (run_v ?_) (.im (.val rfl))
          rw [hx, hi]
          simp only [Instr.index, Sem.run_bind, asIntOf, Sem.run_pure, Result.andThen_ok, run_underlying ht]
          rw [if_pos h0, hb]
          rfl
        · cases h
      · cases h
    · cases h
  · -- extract
    rename_i x i
    have hx := ev_ok hF x
    split at h
    · rename_i vs hvs
      rw [Option.map_eq_some_iff] at h
      obtain ⟨r, hr, h⟩ := h
      injection h with h1 h2; subst h1 h2
      rw [hvs] at hx
      obtain ⟨us, hv, hl, hu⟩ : ∃ us, a.eval x = .tuple us ∧ vs.length = us.size ∧ ∀ j t, vs[j]? = some t → VR c t (us.getD j undef) := by
        generalize a.eval x = v at hx
        cases hx with
        | im hx => cases hx
        | tup hl hv => exact ⟨_, rfl, hl, hv⟩
      have hlt : i < us.size := by rw [← hl]; exact (List.getElem?_eq_some_iff.1 hr).1
      have := hu _ _ hr
      refine Runs.pure hI (v := us[i]) (by simp [execOp, hv, Instr.extract, hlt]) (by simpa [hlt] using this)
    · cases h
  · -- builtins
    rename_i cl
    obtain ⟨callee, args, ats⟩ := cl
    simp only at h
    split at h
    · split at h
      · rename_i x t' ha ht
        rw [Option.map_eq_some_iff] at h
        obtain ⟨r, hr, h⟩ := h
        injection h with h1 h2; subst h1 h2
        obtain rfl : args = #[x] := by rw [← Array.toArray_toList (xs := args), ha]
        obtain rfl : ats = #[t'] := by rw [← Array.toArray_toList (xs := ats), ht]
        obtain ⟨n, q1, q2⟩ := len_ok hE hI (ev_ok hF x) hr ty
        exact Runs.pure hI (v := n) (by simp [execOp, resolve, invoke, builtin, q1]) q2
      · cases h
    · split at h
      · rename_i s x t1 t2 ha ht
        split at h
        · rename_i he
          subst he
          obtain rfl : args = #[s, x] := by rw [← Array.toArray_toList (xs := args), ha]
          obtain rfl : ats = #[t1, t1] := by rw [← Array.toArray_toList (xs := ats), ht]
          exact append_ok hE hI (ev_ok hF s) (ev_ok hF x) h (ty := ty) (fun v' w' hr => by simp [execOp, resolve, invoke, builtin, hr])
        · cases h
      · cases h
    · split at h
      · rename_i x y ha
        obtain rfl : args = #[x, y] := by rw [← Array.toArray_toList (xs := args), ha]
        split at h
        · rename_i k a' k' b' h1 h2
          rw [Option.map_eq_some_iff] at h
          obtain ⟨r, hr, h⟩ := h
          injection h with e1 e2; subst e1 e2
          obtain ⟨v, rfl, hf, q⟩ := pureT_run hr
          have hx := ev_ok hF x
          have hy := ev_ok hF y
          rw [h1] at hx
          rw [h2] at hy
          obtain ⟨hx, _⟩ := vr_val hx
          obtain ⟨hy, _⟩ := vr_val hy
          exact Runs.pure hI (v := v) (by simp [execOp, resolve, invoke, builtin, Builtin.max_, hx, hy, q]) (.im (.val hf))
        · cases h
      · cases h
    · split at h
      · rename_i x y ha
        obtain rfl : args = #[x, y] := by rw [← Array.toArray_toList (xs := args), ha]
        split at h
        · rename_i k a' k' b' h1 h2
          rw [Option.map_eq_some_iff] at h
          obtain ⟨r, hr, h⟩ := h
          injection h with e1 e2; subst e1 e2
          obtain ⟨v, rfl, hf, q⟩ := pureT_run hr
          have hx := ev_ok hF x
          have hy := ev_ok hF y
          rw [h1] at hx
          rw [h2] at hy
          obtain ⟨hx, _⟩ := vr_val hx
          obtain ⟨hy, _⟩ := vr_val hy
          exact Runs.pure hI (v := v) (by simp [execOp, resolve, invoke, builtin, Builtin.min_, hx, hy, q]) (.im (.val hf))
        · cases h
      · cases h
    · cases h
  · cases h
end ops
end Go.Proofs.Ytbehhhlidaiblaa.Ai
