/- The code of a body. -/
import Derived.Test.YtbehhhlidaiblaaAi10
import Derived.Test.YtbehhhlidaiblaaAi1
namespace Go.Proofs.Ytbehhhlidaiblaa.Ai
open Go Go.RowKit
section
variable {E : Env} {ora : Ora}

theorem Inv.drawn {c : Cx} {w : World} {S : List Ob} (h : Inv c w S) : Inv c { w with drawn := w.drawn + 1 } S :=
  ⟨h.n, h.im, fun i O hO => let k := h.ob i O hO; ⟨k.len, k.sz, k.row, k.lt, k.blk⟩, h.inj, h.frz⟩
theorem Keep.drawn {c : Cx} {w w' : World} (h : Keep c { w with drawn := w.drawn + 1 } w') : Keep c w w' := ⟨h.os, h.tape, h.output, h.size, h.block⟩
theorem look_clean (F : Fr) (t : Nat) : ∀ keep : List Nat, look (clean keep F) t = look F t ∨ look (clean keep F) t = .junk
  | [] => .inr rfl
  | i :: r => by
    show (bif i == t then look F i else look (clean r F) t) = look F t ∨ (bif i == t then look F i else look (clean r F) t) = .junk
    cases h : i == t with
    | true => rw [eq_of_beq h]; exact .inl rfl
    | false => exact look_clean F t r
theorem FR.clean {c : Cx} {F : Fr} {a : Act} (h : FR c F a) (keep : List Nat) : FR c (clean keep F) a := fun t => by
  rcases look_clean F t keep with e | e <;> rw [e]
  · exact h t
  · exact .im .junk

def exitOf : Ex → Exit
  | .normal => .normal
  | .exit id => .exit id
  | .ret => .ret
/-- What the proofs handle: no slot beyond n, drawn regions ordered. -/
def okCode (E : Env) (n : Nat) : Code → Bool
  | .skip => true
  | .region _ ops d => (ops.toList.all fun o => match o.dst with | some d => Nat.blt d n | none => true) && (d == false || okDraw E ops)
  | .seq a b => okCode E n a && okCode E n b
  | .cond _ a b => okCode E n a && okCode E n b
  | .block _ a => okCode E n a
  | .loop a => okCode E n a
  | .exit _ => true
  | .ret => true
  | _ => false

/-- From here the code comes to what k is told. -/
def Fits (E : Env) (n : Nat) (Q : Exit → Act → World → Prop) (code : Code) (F : Fr) (S : List Ob) (Kp : Ex → Fr → List Ob → Prop) : Prop :=
  ∀ (c : Cx) (w : World) (a : Act), Inv c w S → FR c F a → n ≤ a.tmps.size →
    (∀ ex F' S' c' w' a', Kp ex F' S' → Le c c' w.heap.size → Keep c w w' → Inv c' w' S' → FR c' F' a' → a'.tmps.size = a.tmps.size → a'.defers = a.defers → Q (exitOf ex) a' w') → code.wp E.P Q a w
def LpOk (E : Env) (n : Nat) (lp : Code → Fr → List Ob → Option (Ex × Fr × List Ob)) : Prop :=
  ∀ (code : Code) (Q : Exit → Act → World → Prop) (F : Fr) (S : List Ob) (r : Ex × Fr × List Ob), okCode E n code = true → lp code F S = some r →
    Fits E n Q (.loop code) F S fun ex F' S' => (ex, F', S') = r

theorem exec_ok {R : Type} {n : Nat} {lp : Code → Fr → List Ob → Option (Ex × Fr × List Ob)} (hE : EnvOk E) (hora : OraOk E.P ora) (hm : E.P.follows .mixedOrders = true) (hlp : LpOk E n lp) : ∀ (code : Code), okCode E n code = true → ∀ (Q : Exit → Act → World → Prop) (F : Fr) (S : List Ob) (k : Ex → Fr → List Ob → Option R) (r : R),
    exec E ora lp code F S k = some r → Fits E n Q code F S fun ex F' S' => k ex F' S' = some r := by
  intro code
  induction code with
  | skip =>
    intro _ Q F S k r h c w a hI hF hn hQ
    exact wp_skip (hQ .normal F S c w a h (Le.refl _ _) (Keep.refl _ _) hI hF rfl rfl)
  | region id ops d =>
    intro hok Q F S k r h c w a hI hF hn hQ
    simp only [okCode, Bool.and_eq_true, List.all_eq_true] at hok
    have hd : ∀ o, o ∈ ops.toList → ∀ d, o.dst = some d → d < a.tmps.size := fun o ho d hd => by
      have := hok.1 o ho
      rw [hd] at this
      simp only [Nat.blt_eq] at this
      exact Nat.lt_of_lt_of_le this hn
    simp only [exec] at h
    cases d with
    | false =>
      exact wp_region_list (region_list hE hora ops.toList c w S F a hI hF hd h fun F' S' c' w' a' hk l1 l2 l3 l4 l5 l6 => hQ .normal F' S' c' w' a' hk l1 l2 l3 l4 l5 l6)
    | true =>
      have hD : DrawOk E ops := okDraw_ok (by simpa using hok.2)
      obtain ⟨tr, t1, t2, t3⟩ := trace_of ops.toList ops.toList F S (k .normal) r h
      have hT : Text E ora ops tr := fun i o ho => t2 i o (by simpa using ho)
      refine wp_region_any hm (draw_any hE hora hD hT ops.size _ c _ S F a (by simp) ?_ ?_ hI.drawn hF (fun i o ho => hd o (by simpa using Array.mem_of_getElem? ho)) fun c' w' a' l1 l2 l3 l4 l5 l6 => ?_)
      · simp
      · refine ⟨fun t => ⟨0, Nat.zero_le _, by rw [t1], fun k hk => by omega, fun k _ _ hl => ?_⟩, ⟨0, Nat.zero_le _, by rw [t1], fun k hk => by omega, fun k _ _ hl => ?_⟩, fun j o e hl => ?_⟩
        all_goals
          exfalso
          simp only [Array.getD_eq_getD_getElem?] at hl
          revert hl
          simp [Array.getElem?_replicate]
          try (split <;> simp)
      · refine hQ .normal _ _ c' w' a' (by simpa using t3) l1 l2.drawn l3 l4 l5 l6
  | seq x y ihx ihy =>
    intro hok Q F S k r h c w a hI hF hn hQ
    simp only [okCode, Bool.and_eq_true] at hok
    simp only [exec] at h
    refine wp_seq (ihx hok.1 _ F S _ r h c w a hI hF hn fun ex F' S' c' w' a' hk l1 l2 l3 l4 l5 l6 => ?_)
    cases ex with
    | normal => exact ihy hok.2 Q F' S' k r hk c' w' a' l3 l4 (by omega) fun ex F2 S2 c2 w2 a2 hk m1 m2 m3 m4 m5 m6 => hQ ex F2 S2 c2 w2 a2 hk (l1.trans m1 l2.size) (l2.trans m2 l1) m3 m4 (m5.trans l5) (m6.trans l6)
    | exit id => exact hQ (.exit id) F' S' c' w' a' hk l1 l2 l3 l4 l5 l6
    | ret => exact hQ .ret F' S' c' w' a' hk l1 l2 l3 l4 l5 l6
  | cond x y z ihy ihz =>
    intro hok Q F S k r h c w a hI hF hn hQ
    simp only [okCode, Bool.and_eq_true] at hok
    simp only [exec] at h
    have hx := ev_ok hF x
    generalize ev F x = t at h hx
    unfold condK at h
    split at h
    · rename_i b
      obtain ⟨hv, _⟩ := vr_val hx
      refine wp_cond hv ?_
      cases b with
      | true => exact ihy hok.1 Q F S k r h c w a hI hF hn hQ
      | false => exact ihz hok.2 Q F S k r h c w a hI hF hn hQ
    · cases h
  | block id x ih =>
    intro hok Q F S k r h c w a hI hF hn hQ
    simp only [okCode] at hok
    simp only [exec] at h
    refine wp_block (ih hok _ F S _ r h c w a hI hF hn fun ex F' S' c' w' a' hk l1 l2 l3 l4 l5 l6 => ?_)
    cases ex with
    | normal => exact hQ .normal F' S' c' w' a' hk l1 l2 l3 l4 l5 l6
    | exit id' =>
      simp only [blockK] at hk
      simp only [exitOf, Exit.inBlock]
      split at hk
      · rename_i hid; rw [if_pos hid]; exact hQ .normal F' S' c' w' a' hk l1 l2 l3 l4 l5 l6
      · rename_i hid; rw [if_neg hid]; exact hQ (.exit id') F' S' c' w' a' hk l1 l2 l3 l4 l5 l6
    | ret => exact hQ .ret F' S' c' w' a' hk l1 l2 l3 l4 l5 l6
  | loop x ih =>
    intro hok Q F S k r h c w a hI hF hn hQ
    simp only [okCode] at hok
    simp only [exec] at h
    unfold loopK at h
    split at h
    · rename_i p hp
      exact hlp x Q F S p hok hp c w a hI hF hn fun ex F' S' c' w' a' hk l1 l2 l3 l4 l5 l6 => hQ ex F' S' c' w' a' (by rw [← hk] at h; exact h) l1 l2 l3 l4 l5 l6
    · cases h
  | exit id =>
    intro _ Q F S k r h c w a hI hF hn hQ
    exact wp_exit (hQ (.exit id) F S c w a h (Le.refl _ _) (Keep.refl _ _) hI hF rfl rfl)
  | ret =>
    intro _ Q F S k r h c w a hI hF hn hQ
    exact wp_ret (hQ .ret F S c w a h (Le.refl _ _) (Keep.refl _ _) hI hF rfl rfl)
  | _ => intro hok; cases hok

theorem loop_ok {n : Nat} (hE : EnvOk E) (hora : OraOk E.P ora) (hm : E.P.follows .mixedOrders = true) (ann : Nat → List Nat × List Nat) : ∀ d, LpOk E n (lpOf E ora ann d) := by
  intro d
  induction d with
  | zero =>
    intro code Q F S r _ h
    unfold lpOf at h
    obtain ⟨m, hm⟩ := iter_some _ h
    cases m with
    | zero => cases hm
    | succ m => simp [iterN, step] at hm
  | succ d ih =>
    intro code Q F S r hok h c w a hI hF hn hQ
    unfold lpOf at h
    obtain ⟨m, hmm⟩ := iter_some _ h
    refine wp_loop_rounds m ?_
    have key : ∀ m c w a F S, iterN (step E ora ann (d + 1) code) m (F, S) = some r → Inv c w S → FR c F a → n ≤ a.tmps.size →
        (∀ ex F' S' c' w' a', (ex, F', S') = r → Le c c' w.heap.size → Keep c w w' → Inv c' w' S' → FR c' F' a' → a'.tmps.size = a.tmps.size → a'.defers = a.defers → Q (exitOf ex) a' w') → Code.rounds E.P code Q m a w := by
      intro m
      induction m with
      | zero => intro c w a F S h; cases h
      | succ m ihm =>
        intro c w a F S h hI hF hn hQ
        rw [iterN, Option.bind_eq_some_iff] at h
        obtain ⟨s, hs, h⟩ := h
        rw [rounds_succ]
        refine exec_ok hE hora hm ih code hok _ F S _ s hs c w a hI hF hn fun ex F' S' c' w' a' hk l1 l2 l3 l4 l5 l6 => ?_
        cases ex with
        | normal =>
          injection hk with hk
          subst hk
          exact ihm c' w' a' _ S' h l3 (l4.clean _) (by omega) fun ex F2 S2 c2 w2 a2 hk m1 m2 m3 m4 m5 m6 => hQ ex F2 S2 c2 w2 a2 hk (l1.trans m1 l2.size) (l2.trans m2 l1) m3 m4 (m5.trans l5) (m6.trans l6)
        | exit id =>
          injection hk with hk
          subst hk
          injection h with h
          exact hQ (.exit id) _ S' c' w' a' h l1 l2 l3 (l4.clean _) l5 l6
        | ret =>
          injection hk with hk
          subst hk
          injection h with h
          exact hQ .ret _ S' c' w' a' h l1 l2 l3 (l4.clean _) l5 l6
    exact key m c w a _ S hmm hI (hF.clean _) hn hQ
end
end Go.Proofs.Ytbehhhlidaiblaa.Ai
