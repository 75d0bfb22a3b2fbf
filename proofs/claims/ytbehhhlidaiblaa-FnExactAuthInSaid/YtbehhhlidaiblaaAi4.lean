/- Each operation of the machine is one of the program's: stores, rows, addresses. -/
import Derived.Test.YtbehhhlidaiblaaAi3
namespace Go.Proofs.Ytbehhhlidaiblaa.Ai
open Go Go.RowKit
section ops
variable {E : Env} {c : Cx} {w : World} {S : List Ob}

theorem setRow_heap_ne (w : World) (g : Nat) (cs : Array Value) (k : Nat) (h : k ≠ g) : (w.setRow g cs).heap[k]? = w.heap[k]? := by
  simp only [World.setRow, Array.getElem?_modify]
  rw [if_neg (by omega)]
theorem splice_get {r cs : List T} {off j : Nat} {t : T} (h : (splice r off cs)[j]? = some t) (hl : off + cs.length ≤ r.length) :
    (off ≤ j ∧ j < off + cs.length ∧ cs[j - off]? = some t) ∨ ((j < off ∨ off + cs.length ≤ j) ∧ r[j]? = some t) := by
  unfold splice at h
  rcases Nat.lt_or_ge j off with h1 | h1
  · rw [List.append_assoc, List.getElem?_append_left (by simp; omega), List.getElem?_take, if_pos h1] at h
    exact .inr ⟨.inl h1, h⟩
  · rcases Nat.lt_or_ge j (off + cs.length) with h2 | h2
    · rw [List.append_assoc, List.getElem?_append_right (by simp; omega), List.getElem?_append_left (by simp; omega)] at h
      refine .inl ⟨h1, h2, ?_⟩
      rwa [List.length_take, Nat.min_eq_left (by omega)] at h
    · rw [List.getElem?_append_right (by simp; omega), List.getElem?_drop] at h
      refine .inr ⟨.inr h2, ?_⟩
      rw [← h]
      congr 1
      simp
      omega
theorem splice_len {r cs : List T} {off : Nat} (hl : off + cs.length ≤ r.length) : (splice r off cs).length = r.length := by
  unfold splice; simp; omega

theorem store_ok (hE : EnvOk E) (hI : Inv c w S) {ty : Nat} {a x t : T} {va vx : Value} {S' : List Ob} (ha : VR c a va) (hx : VR c x vx) (h : storeA E S ty a x = some (t, S')) {s : Sem Next}
    (hs : ∀ w', (Instr.storeAt ty va vx).run E.P w = .ok () w' → s.run E.P w = .ok .skip w') : Runs E.P c w s t S' := by
  unfold storeA at h
  split at h
  · rename_i i k row off
    cases hal : alive S i k with
    | none => rw [hal] at h; cases h
    | some O =>
    rw [hal, Option.bind_some] at h
    cases hti : E.tt ty with
    | none => rw [hti] at h; cases h
    | some ti =>
    rw [hti, Option.bind_some] at h
    cases hr : O.rows[row]? with
    | none => rw [hr] at h; cases h
    | some r =>
    rw [hr, Option.bind_some] at h
    split at h
    · rename_i hc
      obtain ⟨hf, hlen, hoff, hleaf⟩ := hc
      injection h with h
      injection h with h1 h2
      subst h1 h2
      obtain ⟨hi, k1, rfl⟩ := vr_ref hI ha hal
      obtain ⟨hO, hk⟩ := alive_ok hal
      obtain ⟨cs, b1, b2, b3, b4⟩ := k1.blk
      obtain ⟨v1, v2⟩ := vr_cells hx hleaf
      have hrow : row < O.rows.length := (List.getElem?_eq_some_iff.1 hr).1
      have hrl : r.length = O.sz := k1.row r (List.mem_of_getElem? hr)
      have hb : (row + 1) * O.sz ≤ O.rows.length * O.sz := Nat.mul_le_mul_right _ hrow
      rw [Nat.add_mul, Nat.one_mul] at hb
      have hvs : vx.cells.toList.length = ti.size := by rw [Array.length_toList]; omega
      have h1c : ∀ v ∈ vx.cells.toList, v.oneCell' = true := fun v hv => by
        obtain ⟨j, hj⟩ := List.mem_iff_getElem?.1 hv
        have hj' : vx.cells[j]? = some v := by rw [← hj, Array.getElem?_toList]
        have hlt : j < (cellsT x).length := by rw [v1]; exact (Array.getElem?_eq_some_iff.1 hj').1
        obtain ⟨u, u1, _, u3⟩ := v2 j _ (List.getElem?_eq_getElem hlt)
        rw [u1] at hj'
        injection hj' with hj'
        subst hj'
        exact u3
      have hrun := run_storeCells_at (P := E.P) (c.bk i) (row * O.sz + off) O.e vx.cells.toList 0 cs w b1 (by rw [hvs]; omega) h1c
      have hst : (Instr.storeAt ty (.pointer (some ⟨c.bk i, row * O.sz + off, none⟩)) vx).run E.P w = .ok () (w.setRow (c.bk i) (cs.toList.take (row * O.sz + off + 0) ++ vx.cells.toList ++ cs.toList.drop (row * O.sz + off + 0 + vx.cells.toList.length)).toArray) := by
        simp only [Instr.storeAt, Instr.sureAddr, storeVar, Sem.run_bind, Sem.run_pure, Result.andThen_ok, run_size (hE.tt _ _ hti)]
        rw [if_neg (by rw [← v1]; simp [hlen])]
        exact hrun
      have hlen2 : (cs.toList.take (row * O.sz + off + 0) ++ vx.cells.toList ++ cs.toList.drop (row * O.sz + off + 0 + vx.cells.toList.length)).toArray.size = cs.size := by
        simp; simp at hvs; omega
      obtain ⟨c', l1, l2, l3, l4, l5, l6, l7, l8⟩ := renew_ok hI hO { O with rows := O.rows.set row (splice r off (cellsT x)), cl := O.cl && (cellsT x).all closed1 }
        (w.setRow (c.bk i) (cs.toList.take (row * O.sz + off + 0) ++ vx.cells.toList ++ cs.toList.drop (row * O.sz + off + 0 + vx.cells.toList.length)).toArray) (c.bk i) _ rfl rfl rfl (by simp [World.setRow])
        (fun b _ hne => setRow_heap_ne _ _ _ _ hne) (fun o v hv => by have := (hI.frz i O o v hO hv).1; rw [hf] at this; cases this) (.inl rfl) (by simpa [World.setRow] using k1.lt) (setRow_heap w (c.bk i) cs _ O.e (0, 0) b1) rfl rfl
        (by simp) (fun _ => ⟨rfl, hlen2.trans b2⟩)
        (fun q hq => by
          rcases List.mem_or_eq_of_mem_set hq with h | h
          · exact k1.row q h
          · subst h; rw [splice_len (by omega)]; exact hrl)
        (by rw [hlen2]; simpa using b3)
        (fun q rw_ j t hq hj => by
          simp only at hq ⊢
          rw [List.getElem?_set] at hq
          have hq1 : q < O.rows.length := by
            rcases Nat.lt_or_ge q O.rows.length with h | h
            · exact h
            · split at hq
              · omega
              · rw [List.getElem?_eq_none h] at hq; cases hq
          have get : ∀ m, (cs.toList.take (row * O.sz + off + 0) ++ vx.cells.toList ++ cs.toList.drop (row * O.sz + off + 0 + vx.cells.toList.length)).toArray[m]? =
              if row * O.sz + off ≤ m ∧ m < row * O.sz + off + ti.size then vx.cells[m - (row * O.sz + off)]? else cs[m]? := fun m => by
            rw [List.getElem?_toArray]
            split
            · rename_i hm
              rw [List.append_assoc, List.getElem?_append_right (by simp; omega), List.getElem?_append_left (by rw [hvs]; simp; omega), Array.getElem?_toList]
              congr 1
              simp
              omega
            · rename_i hm
              rcases Nat.lt_or_ge m (row * O.sz + off) with h | h
              · rw [List.append_assoc, List.getElem?_append_left (by simp; omega), List.getElem?_take, if_pos (by omega), Array.getElem?_toList]
              · rw [List.getElem?_append_right (by rw [List.length_append, hvs]; simp; omega), List.getElem?_drop, Array.getElem?_toList]
                congr 1
                rw [List.length_append, hvs]
                simp
                omega
          by_cases e : row = q
          · subst e
            rw [if_pos rfl, if_pos hrow] at hq
            injection hq with hq
            subst hq
            rcases splice_get hj (by omega) with ⟨a1, a2, a3⟩ | ⟨a1, a2⟩
            · obtain ⟨u, u1, u2, u3⟩ := v2 _ _ a3
              refine ⟨u, ?_, u2, u3, fun hcl => closed_ir u2 (by simp only [Bool.and_eq_true] at hcl; exact List.all_eq_true.1 hcl.2 t (List.mem_of_getElem? a3))⟩
              rw [get, if_pos (by omega)]
              rw [show row * O.sz + j - (row * O.sz + off) = j - off by omega]
              exact u1
            · obtain ⟨u, u1, u2, u3, u4⟩ := b4 _ _ _ _ hr a2
              refine ⟨u, ?_, u2, u3, fun hcl => u4 (by simp only [Bool.and_eq_true] at hcl; exact hcl.1)⟩
              rw [get, if_neg (by omega)]
              exact u1
          · rw [if_neg e] at hq
            obtain ⟨u, u1, u2, u3, u4⟩ := b4 _ _ _ _ hq hj
            refine ⟨u, ?_, u2, u3, fun hcl => u4 (by simp only [Bool.and_eq_true] at hcl; exact hcl.1)⟩
            have hql : rw_.length = O.sz := k1.row _ (List.mem_of_getElem? hq)
            have hjl : j < O.sz := by rw [← hql]; exact (List.getElem?_eq_some_iff.1 hj).1
            rw [get, if_neg]
            · exact u1
            · rintro ⟨m1, m2⟩
              rcases Nat.lt_or_ge q row with h | h
              · have h5 : (q + 1) * O.sz ≤ row * O.sz := Nat.mul_le_mul_right _ h
                rw [Nat.add_mul, Nat.one_mul] at h5
                omega
              · have h5 : (row + 1) * O.sz ≤ q * O.sz := Nat.mul_le_mul_right _ (by omega)
                rw [Nat.add_mul, Nat.one_mul] at h5
                omega)
      exact ⟨c', _, _, .inr ⟨hs _ hst, rfl⟩, l1, l2, l3, .undef⟩
    · cases h
  · cases h

/-- The rows of a slice. -/
theorem rows_ok (hI : Inv c w S) {x : T} {v : Value} {ys : List (List T)} {cl : Bool} (hx : VR c x v) (h : rowsT S x = some (ys, cl)) :
    ∃ A cap, v = .slice A ys.length cap ∧ ys.length ≤ cap ∧ (0 < ys.length → ∃ (ad : Addr) (esz : Nat) (u : Nat → Value), A = some ad ∧ ad.spot = none ∧ (∀ r, r ∈ ys → r.length = esz) ∧
      ∀ i r j t, ys[i]? = some r → r[j]? = some t → w.cell? (ad.add (i * esz + j)) = some (u (i * esz + j)) ∧ VR c t (u (i * esz + j)) ∧ (u (i * esz + j)).oneCell' = true ∧ (cl = true → IR c.im t (u (i * esz + j)))) := by
  unfold rowsT at h
  split at h
  · injection h with h
    injection h with h1 h2
    subst h1 h2
    cases hx with
    | im hx => cases hx with | nil => exact ⟨none, 0, rfl, Nat.le_refl _, fun h => absurd h (by simp)⟩
  · injection h with h
    injection h with h1 h2
    subst h1 h2
    cases hx with
    | im hx =>
      cases hx with
      | @sl _ A n cap esz ad u hn hc hm hr hA hs hi h1 hv =>
        subst hn
        refine ⟨A, cap, rfl, hc, fun hp => ⟨ad, esz, u, hA hp, hs, hr, fun i r j t a b => ⟨?_, .im (hv i r j t a b), h1 i r j t a b, fun _ => hv i r j t a b⟩⟩⟩
        rw [add_eq hs]
        exact hI.im _ _ _ (hi i r j t a b)
  · rename_i i k
    rw [Option.map_eq_some_iff] at h
    obtain ⟨O, ha, h⟩ := h
    injection h with h1 h2
    subst h1 h2
    obtain ⟨hi, k1, cap, rfl, hc, hm, hb⟩ := vr_os hI hx ha
    obtain ⟨hO, hk⟩ := alive_ok ha
    subst hk
    obtain ⟨cs, b1, b2, b3, b4⟩ := k1.blk
    refine ⟨_, cap, rfl, hc, fun _ => ⟨_, O.sz, fun j => cs.getD j undef, rfl, rfl, k1.row, fun q r j t a b => ?_⟩⟩
    obtain ⟨u, u1, u2, u3, u4⟩ := b4 q r j t a b
    have e : cs.getD (q * O.sz + j) undef = u := by simp [u1]
    refine ⟨?_, by simp only [e]; exact u2, by simp only [e]; exact u3, fun hcl => by simp only [e]; exact u4 hcl⟩
    rw [add_eq rfl]
    simp only [World.cell?, b1, Option.isSome_none, Bool.false_eq_true, if_false, Nat.zero_add, e]
    exact u1
  · cases h
theorem rowsOk_iff {n : Nat} {rows : List (List T)} (h : rowsOk n rows = true) : ∀ r, r ∈ rows → r.length = n := fun r hr => by
  unfold rowsOk at h
  simpa using List.all_eq_true.1 h r hr

theorem append_zero (hE : EnvOk E) {t e : Nat} {ti ei : TI} (hti : E.tt t = some ti) (hsl : ti.slice = some e) (hei : E.tt e = some ei) (ty : Nat) (A A' : Option Addr) (n cap cap' : Nat) (hn : n ≤ cap) :
    (Builtin.append_ #[t, t] ty #[.slice A n cap, .slice A' 0 cap']).run E.P w = .ok (.slice A n cap) w := by
  have ht := ti_slice (hE.tt _ _ hti) hsl
  cases A' with
  | none =>
    cases A <;> simp [Builtin.append_, run_underlying ht, run_size (hE.tt _ _ hei), Builtin.lenOf, Builtin.firstCells, hn, storeCells]
  | some a =>
    cases A <;> simp [Builtin.append_, run_underlying ht, run_size (hE.tt _ _ hei), Builtin.lenOf, Builtin.firstCells, hn, storeCells, loadCells, loadCellsFrom]
/-- The cells that an append adds. -/
theorem news_ok {ys : List (List T)} {ad : Addr} {esz : Nat} {u : Nat → Value} {cl : Bool} (hr : ∀ r, r ∈ ys → r.length = esz)
    (hu : ∀ i r j t, ys[i]? = some r → r[j]? = some t → w.cell? (ad.add (i * esz + j)) = some (u (i * esz + j)) ∧ VR c t (u (i * esz + j)) ∧ (u (i * esz + j)).oneCell' = true ∧ (cl = true → IR c.im t (u (i * esz + j)))) :
    (∀ j x, ((List.range (ys.length * esz)).map u)[j]? = some x → w.cell? (ad.add j) = some x) ∧ ∀ x ∈ (List.range (ys.length * esz)).map u, x.oneCell' = true := by
  have key : ∀ p, p < ys.length * esz → w.cell? (ad.add p) = some (u p) ∧ (u p).oneCell' = true := fun p hp => by
    have hz : 0 < esz := by
      rcases Nat.eq_zero_or_pos esz with h | h
      · subst h; simp at hp
      · exact h
    have hi : p / esz < ys.length := (Nat.div_lt_iff_lt_mul hz).2 hp
    have hj : p % esz < ys[p / esz].length := by rw [hr _ (List.getElem_mem hi)]; exact Nat.mod_lt _ hz
    have := hu (p / esz) _ (p % esz) _ (List.getElem?_eq_getElem hi) (List.getElem?_eq_getElem hj)
    rw [Nat.div_add_mod' p esz] at this
    exact ⟨this.1, this.2.2.1⟩
  refine ⟨fun j x hj => ?_, fun x hx => ?_⟩
  · rw [List.getElem?_map, Option.map_eq_some_iff] at hj
    obtain ⟨q, hq, rfl⟩ := hj
    obtain ⟨h1, h2⟩ := List.getElem?_eq_some_iff.1 hq
    rw [List.getElem_range] at h2
    rw [List.length_range] at h1
    subst h2
    exact (key _ h1).1
  · rw [List.mem_map] at hx
    obtain ⟨q, hq, rfl⟩ := hx
    exact (key q (List.mem_range.1 hq)).2

theorem append_ok (hE : EnvOk E) (hI : Inv c w S) {t : Nat} {sv x : T} {vs vx : Value} {r : T} {S' : List Ob} (hs : VR c sv vs) (hx : VR c x vx) (h : appendA E S t sv x = some (r, S')) {s : Sem Next} {ty : Nat}
    (hrun : ∀ v' w', (Builtin.append_ #[t, t] ty #[vs, vx]).run E.P w = .ok v' w' → s.run E.P w = .ok (.value v') w') : Runs E.P c w s r S' := by
  unfold appendA at h
  simp only [Option.bind_eq_some_iff] at h
  obtain ⟨ti, hti, e, hsl, ei, hei, ys, hys, h⟩ := h
  split at h
  · rename_i hc
    obtain ⟨hro, hsz, hby⟩ := hc
    have ht := ti_slice (hE.tt _ _ hti) hsl
    obtain ⟨i, d, z, g1, g2, g3, g4, g4', g5, g6, g7, _⟩ := ti_get (hE.tt _ _ hei)
    obtain ⟨A, capx, rfl, hcx, hread⟩ := rows_ok hI hx hys
    have hrl := rowsOk_iff hro
    have hrm : 0 < ys.1.length → ∃ (ad : Addr) (u : Nat → Value), A = some ad ∧ ad.spot = none ∧
        ∀ i r j t, ys.1[i]? = some r → r[j]? = some t → w.cell? (ad.add (i * ei.size + j)) = some (u (i * ei.size + j)) ∧ VR c t (u (i * ei.size + j)) ∧ (u (i * ei.size + j)).oneCell' = true ∧ (ys.2 = true → IR c.im t (u (i * ei.size + j))) := fun hp => by
      obtain ⟨ad, esz, u, q1, q2, q3, q4⟩ := hread hp
      have he : esz = ei.size := by
        rw [← q3 ys.1[0] (List.getElem_mem hp), hrl ys.1[0] (List.getElem_mem hp)]
      subst he
      exact ⟨ad, u, q1, q2, q4⟩
    split at h
    · -- nil
      cases hs with
      | im hs =>
      cases hs with
      | nil =>
      split at h
      · rename_i hb
        split at h
        · rename_i hemp
          injection h with h
          injection h with h1 h2
          subst h1 h2
          have hy0 : ys.1.length = 0 := by simpa using hemp
          have := append_zero (w := w) hE hti hsl hei ty none A 0 0 capx (Nat.le_refl _)
          rw [hy0] at hrun
          exact Runs.pure hI (hrun _ _ this) (.im .nil)
        · rename_i hemp
          injection h with h
          injection h with h1 h2
          subst h1 h2
          have hy0 : 0 < ys.1.length := by
            rcases Nat.eq_zero_or_pos ys.1.length with h | h
            · exact absurd (by simpa using h) hemp
            · exact h
          obtain ⟨ad, u, rfl, hsp, hu⟩ := hrm hy0
          obtain ⟨n1, n2⟩ := news_ok hrl hu
          have hml : 0 + ys.1.length ≤ maxLen := by
            have : 0 + ys.1.length ≤ (0 + ys.1.length) * ei.bytes := Nat.le_mul_of_pos_right _ hby
            simp only [maxLen]; omega
          obtain ⟨v', w', hr, hown, hg, hiff, hat⟩ := run_append_own_at (P := E.P) w 0 t ty e i z ei.size ei.bytes ht g1 g3 g6.symm g7.symm (by rw [g4, g6]) hsz (.slice none 0 0) 0 [] ⟨by simp, .inl ⟨rfl, rfl⟩⟩
            ad ys.1.length capx ((List.range (ys.1.length * ei.size)).map u) (by simp) n1 n2 hml hb (Nat.zero_le _)
          have hne : v' ≠ .slice none 0 0 := fun e => by have := (hiff.1 e).2; omega
          obtain ⟨hl, hown⟩ := hown
          rcases hown with ⟨h, _⟩ | ⟨g, cap, cur, rfl, _, hblk, hnc, hcm, hcs, hpre⟩
          · exact absurd h hne
          have hge : g = w.heap.size := by
            rcases hat with h | h
            · simp [Value.ownBlock] at h
            · simpa [Value.ownBlock] using h
          have hglt : g < w'.heap.size := (Array.getElem?_eq_some_iff.1 hblk).1
          obtain ⟨c', l1, l2, l3, l4, l5, l6, l7, l8⟩ := alloc_gen hI { rows := ys.1, sz := ei.size, e := e, froz := false, cl := ys.2 } w' g cur hg.os hg.tape hg.output hg.size (fun b hb => hg.block b hb (by simp [Value.ownBlock])) (by omega) hglt hblk hrl
            (by rw [hcs]; exact Nat.mul_le_mul_right _ (by simpa using hnc)) (fun q r j t a b => by
              obtain ⟨m1, m2, m3, m4⟩ := hu q r j t a b
              refine ⟨_, ?_, m2, m3, m4⟩
              have hq : q < ys.1.length := (List.getElem?_eq_some_iff.1 a).1
              have hj : j < ei.size := by rw [← hrl r (List.mem_of_getElem? a)]; exact (List.getElem?_eq_some_iff.1 b).1
              have hb2 : (q + 1) * ei.size ≤ ys.1.length * ei.size := Nat.mul_le_mul_right _ hq
              rw [Nat.add_mul, Nat.one_mul] at hb2
              have hp : (cur.toList.take ((0 + ys.1.length) * ei.size))[q * ei.size + j]? = some (u (q * ei.size + j)) := by
                rw [hpre, List.nil_append, List.getElem?_map, List.getElem?_eq_getElem (by simp; omega)]
                simp
              rw [List.getElem?_take, if_pos (by rw [Nat.zero_add]; omega), Array.getElem?_toList] at hp
              exact hp)
          refine ⟨c', _, _, .inl (hrun _ _ hr), l1, l2, l3, ?_⟩
          have hn := hI.n
          have k := VR.os (c := c') (i := S.length) (k := ys.1.length) (cap := cap) (by omega) (by rw [l6]) (by simpa using hnc) hcm (by rw [l7, l8, hcs])
          rw [l5] at k
          simpa using k
      · cases h
    · -- a row of one's own
      rename_i i' k
      rw [Option.bind_eq_some_iff] at h
      obtain ⟨O, hal, h⟩ := h
      split at h
      · rename_i hc
        obtain ⟨hfz, hOs, hOe, hb⟩ := hc
        injection h with h
        injection h with h1 h2
        subst h1 h2
        obtain ⟨hi', k1, cap, rfl, hkc, hcm, hcb⟩ := vr_os hI hs hal
        obtain ⟨hO, hk⟩ := alive_ok hal
        obtain ⟨cs, b1, b2, b3, b4⟩ := k1.blk
        subst hk
        have hcs : cs.size = cap * ei.size := by rw [← hOs, hcb, b2]
        rcases Nat.eq_zero_or_pos ys.1.length with hy0 | hy0
        · have hnil : ys.1 = [] := List.eq_nil_of_length_eq_zero hy0
          have h0 := append_zero (w := w) hE hti hsl hei ty (some ⟨c.bk i', 0, none⟩) A O.rows.length cap capx hkc
          rw [hy0] at hrun
          obtain ⟨c', l1, l2, l3, l4, l5, l6, l7, l8⟩ := renew_ok hI hO { O with rows := O.rows ++ ys.1, cl := O.cl && ys.2 } w (c.bk i') cs rfl rfl rfl (Nat.le_refl _) (fun _ _ _ => rfl) (fun o v hv => hI.im _ _ _ hv)
            (.inl rfl) k1.lt b1 rfl rfl (by simp) (fun _ => ⟨rfl, b2⟩) (by simp only [hnil, List.append_nil]; exact k1.row) (by simp only [hnil, List.append_nil]; exact b3)
            (fun q r j t a b => by
              simp only [hnil, List.append_nil] at a ⊢
              obtain ⟨u, u1, u2, u3, u4⟩ := b4 q r j t a b
              exact ⟨u, u1, u2, u3, fun hcl => u4 (by simp only [Bool.and_eq_true] at hcl; exact hcl.1)⟩)
          refine ⟨c', _, _, .inl (hrun _ _ h0), l1, l2, l3, ?_⟩
          have k := VR.os (c := c') (i := i') (k := O.rows.length + ys.1.length) (cap := cap) (by omega) (by rw [l6]; simp) (by omega) hcm (by rw [l7, l8, hcs, hOs])
          rw [l5, hy0] at k
          rw [hy0]
          exact k
        · obtain ⟨ad, u, rfl, hsp, hu⟩ := hrm hy0
          obtain ⟨n1, n2⟩ := news_ok hrl hu
          have hml : O.rows.length + ys.1.length ≤ maxLen := by
            have : O.rows.length + ys.1.length ≤ (O.rows.length + ys.1.length) * ei.bytes := Nat.le_mul_of_pos_right _ hby
            simp only [maxLen]; omega
          have hown0 : w.ownsRow 0 e ei.size (.slice (some ⟨c.bk i', 0, none⟩) O.rows.length cap) O.rows.length (cs.toList.take (O.rows.length * ei.size)) :=
            ⟨by rw [List.length_take, Array.length_toList, hcs, Nat.min_eq_left (Nat.mul_le_mul_right _ hkc)], .inr ⟨_, cap, cs, rfl, Nat.zero_le _, by rw [← hOe]; exact b1, hkc, hcm, hcs, rfl⟩⟩
          obtain ⟨v', w', hr, hown, hg, hiff, hat⟩ := run_append_own_at (P := E.P) w 0 t ty e i z ei.size ei.bytes ht g1 g3 g6.symm g7.symm (by rw [g4, g6]) hsz _ _ _ hown0
            ad ys.1.length capx ((List.range (ys.1.length * ei.size)).map u) (by simp) n1 n2 hml hb (Nat.zero_le _)
          have hne : v' ≠ .slice none 0 0 := fun e => by have := (hiff.1 e).2; omega
          obtain ⟨hl, hown⟩ := hown
          rcases hown with ⟨h, _⟩ | ⟨g, cap', cur, rfl, _, hblk, hnc, hcm', hcs', hpre⟩
          · exact absurd h hne
          have hge : g = c.bk i' ∨ w.heap.size ≤ g := by
            rcases hat with h | h
            · exact .inl (by simpa [Value.ownBlock] using h)
            · have : g = w.heap.size := by simpa [Value.ownBlock] using h
              exact .inr (by omega)
          have hglt : g < w'.heap.size := (Array.getElem?_eq_some_iff.1 hblk).1
          have hxl : (cs.toList.take (O.rows.length * ei.size)).length = O.rows.length * ei.size := by
            rw [List.length_take, Array.length_toList, hcs, Nat.min_eq_left (Nat.mul_le_mul_right _ hkc)]
          obtain ⟨c', l1, l2, l3, l4, l5, l6, l7, l8⟩ := renew_ok hI hO { O with rows := O.rows ++ ys.1, cl := O.cl && ys.2 } w' g cur hg.os hg.tape hg.output hg.size
            (fun b hb hne => hg.block b hb (by simp [Value.ownBlock]; omega)) (fun o v hv => by have := (hI.frz i' O o v hO hv).1; rw [hfz] at this; cases this)
            hge hglt (by simp only; rw [hOe]; exact hblk) rfl rfl (by simp) (fun h => by simp at h; rw [h] at hy0; simp at hy0)
            (fun r hr => by
              simp only at hr ⊢
              rcases List.mem_append.1 hr with h | h
              · exact k1.row r h
              · rw [hOs]; exact hrl r h)
            (by simp only [List.length_append]; rw [hOs, hcs']; exact Nat.mul_le_mul_right _ hnc)
            (fun q r j t a b => by
              simp only at a ⊢
              have get : ∀ p v, (cs.toList.take (O.rows.length * ei.size) ++ (List.range (ys.1.length * ei.size)).map u)[p]? = some v → cur[p]? = some v := fun p v hp => by
                rw [← hpre, List.getElem?_take] at hp
                split at hp
                · rwa [Array.getElem?_toList] at hp
                · cases hp
              rcases Nat.lt_or_ge q O.rows.length with hq | hq
              · rw [List.getElem?_append_left hq] at a
                obtain ⟨x, u1, u2, u3, u4⟩ := b4 q r j t a b
                refine ⟨x, ?_, u2, u3, fun hcl => u4 (by simp only [Bool.and_eq_true] at hcl; exact hcl.1)⟩
                have hj : j < O.sz := by rw [← k1.row r (List.mem_of_getElem? a)]; exact (List.getElem?_eq_some_iff.1 b).1
                have hb2 : (q + 1) * ei.size ≤ O.rows.length * ei.size := Nat.mul_le_mul_right _ hq
                rw [Nat.add_mul, Nat.one_mul] at hb2
                rw [hOs] at hj u1 ⊢
                refine get _ _ ?_
                rw [List.getElem?_append_left (by rw [hxl]; omega), List.getElem?_take, if_pos (by omega), Array.getElem?_toList]
                exact u1
              · rw [List.getElem?_append_right hq] at a
                obtain ⟨m1, m2, m3, m4⟩ := hu _ r j t a b
                refine ⟨_, ?_, m2, m3, fun hcl => m4 (by simp only [Bool.and_eq_true] at hcl; exact hcl.2)⟩
                have hq' : q - O.rows.length < ys.1.length := (List.getElem?_eq_some_iff.1 a).1
                have hj : j < ei.size := by rw [← hrl r (List.mem_of_getElem? a)]; exact (List.getElem?_eq_some_iff.1 b).1
                have hb2 : (q - O.rows.length + 1) * ei.size ≤ ys.1.length * ei.size := Nat.mul_le_mul_right _ hq'
                rw [Nat.add_mul, Nat.one_mul] at hb2
                have hb3 : q * ei.size = O.rows.length * ei.size + (q - O.rows.length) * ei.size := by rw [← Nat.add_mul]; congr 1; omega
                rw [hOs]
                refine get _ _ ?_
                rw [List.getElem?_append_right (by rw [hxl]; omega), hxl, List.getElem?_map, show q * ei.size + j - O.rows.length * ei.size = (q - O.rows.length) * ei.size + j by omega, List.getElem?_eq_getElem (by simp; omega)]
                simp)
          refine ⟨c', _, _, .inl (hrun _ _ hr), l1, l2, l3, ?_⟩
          have k := VR.os (c := c') (i := i') (k := O.rows.length + ys.1.length) (cap := cap') (by omega) (by rw [l6]; simp) hnc hcm' (by rw [l7, l8, hcs', hOs])
          rw [l5] at k
          exact k
      · cases h
    · cases h
  · cases h
end ops
end Go.Proofs.Ytbehhhlidaiblaa.Ai
