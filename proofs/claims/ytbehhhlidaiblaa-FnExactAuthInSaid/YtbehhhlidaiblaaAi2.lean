/- What the machine's trees say of a world: relations, and how they last. -/
import Derived.Test.YtbehhhlidaiblaaAi0
import Derived.Below
import Derived.Laws.Cells
import Derived.Laws.CopyRow
import Derived.Laws.Tables
import Derived.Laws.AppendOwn
import Derived.Maps.AppendAt
import Derived.MapKept
namespace Go.Proofs.Ytbehhhlidaiblaa.Ai
open Go Go.RowKit

structure Cx where
  im : Nat → Nat → Option Value
  bk : Nat → Nat
  n : Nat
  len : Nat → Nat
  sz : Nat → Nat
  bs : Nat → Nat

inductive IR (im : Nat → Nat → Option Value) : T → Value → Prop
  | val {v : Value} (h : flat v = true) : IR im (.val v) v
  | nil : IR im .nil (.slice none 0 0)
  | sl {rows : List (List T)} {A : Option Addr} {n cap : Nat} (esz : Nat) (ad : Addr) (u : Nat → Value) (hn : rows.length = n) (hc : n ≤ cap) (hm : cap ≤ maxLen)
      (hr : ∀ r, r ∈ rows → r.length = esz) (hA : 0 < n → A = some ad) (hs : ad.spot = none)
      (hi : ∀ i r j t, rows[i]? = some r → r[j]? = some t → im ad.block (ad.off + (i * esz + j)) = some (u (i * esz + j)))
      (h1 : ∀ i r j t, rows[i]? = some r → r[j]? = some t → (u (i * esz + j)).oneCell' = true)
      (hv : ∀ i r j t, rows[i]? = some r → r[j]? = some t → IR im t (u (i * esz + j))) : IR im (.sl rows) (.slice A n cap)
  | ip {cs : List T} {ad : Addr} (u : Nat → Value) (hs : ad.spot = none) (hi : ∀ j t, cs[j]? = some t → im ad.block (ad.off + j) = some (u j))
      (h1 : ∀ j t, cs[j]? = some t → (u j).oneCell' = true) (hv : ∀ j t, cs[j]? = some t → IR im t (u j)) : IR im (.ip cs) (.pointer (some ad))
  | fn {f : Nat} {caps : List T} {vs : Array Value} (hl : caps.length = vs.size) (hv : ∀ j t, caps[j]? = some t → IR im t (vs.getD j undef)) : IR im (.fn f caps) (.func (.func f) #[] vs)
  | agg {cs : List T} {vs : Array Value} (hl : cs.length = vs.size) (hv : ∀ j t, cs[j]? = some t → IR im t (vs.getD j undef)) : IR im (.agg cs) (.agg vs)
  | junk {v : Value} : IR im .junk v

inductive VR (c : Cx) : T → Value → Prop
  | im {t : T} {v : Value} (h : IR c.im t v) : VR c t v
  | ref {i k row off : Nat} (hi : i < c.n) (hk : c.len i = k) : VR c (.ref i k row off) (.pointer (some ⟨c.bk i, row * c.sz i + off, none⟩))
  | refOld {i k row off : Nat} {A : Option Addr} (hi : i < c.n) (hk : k < c.len i) : VR c (.ref i k row off) (.pointer A)
  | os {i k cap : Nat} (hi : i < c.n) (hk : c.len i = k) (hc : k ≤ cap) (hm : cap ≤ maxLen) (hb : cap * c.sz i = c.bs i) : VR c (.os i k) (.slice (some ⟨c.bk i, 0, none⟩) k cap)
  | osOld {i k n cap : Nat} {A : Option Addr} (hi : i < c.n) (hk : k < c.len i) : VR c (.os i k) (.slice A n cap)
  | agg {cs : List T} {vs : Array Value} (hl : cs.length = vs.size) (hv : ∀ j t, cs[j]? = some t → VR c t (vs.getD j undef)) : VR c (.agg cs) (.agg vs)
  | tup {ts : List T} {vs : Array Value} (hl : ts.length = vs.size) (hv : ∀ j t, ts[j]? = some t → VR c t (vs.getD j undef)) : VR c (.tup ts) (.tuple vs)
  | fn {f : Nat} {caps : List T} {vs : Array Value} (hl : caps.length = vs.size) (hv : ∀ j t, caps[j]? = some t → VR c t (vs.getD j undef)) : VR c (.fn f caps) (.func (.func f) #[] vs)

theorem VR.junk {c : Cx} {v : Value} : VR c .junk v := .im .junk
theorem VR.undef {c : Cx} : VR c (.tup []) undef := .tup rfl (fun j t h => by simp at h)

/-- What the machine knows has lasted. B: how many blocks there were. -/
structure Le (c c' : Cx) (B : Nat) : Prop where
  im : ∀ b o v, c.im b o = some v → c'.im b o = some v
  n : c.n ≤ c'.n
  len : ∀ i, i < c.n → c.len i ≤ c'.len i
  sz : ∀ i, i < c.n → c'.sz i = c.sz i
  same : ∀ i, i < c.n → c.len i = c'.len i → c'.bk i = c.bk i ∧ c'.bs i = c.bs i
  fresh : ∀ b o v, c'.im b o = some v → c.im b o = none → B ≤ b ∨ ∃ i, i < c.n ∧ c.bk i = b
  own : ∀ i, i < c'.n → B ≤ c'.bk i ∨ ∃ j, j < c.n ∧ c'.bk i = c.bk j
theorem Le.refl (c : Cx) (B : Nat) : Le c c B := ⟨fun _ _ _ h => h, Nat.le_refl _, fun _ _ => Nat.le_refl _, fun _ _ => rfl, fun _ _ _ => ⟨rfl, rfl⟩, fun _ _ _ h h' => absurd (h.symm.trans h') (by simp), fun i h => .inr ⟨i, h, rfl⟩⟩
theorem Le.trans {c c1 c2 : Cx} {B B1 : Nat} (h : Le c c1 B) (k : Le c1 c2 B1) (hB : B ≤ B1) : Le c c2 B where
  im := fun b o v hv => k.im _ _ _ (h.im _ _ _ hv)
  n := Nat.le_trans h.n k.n
  len := fun i hi => Nat.le_trans (h.len i hi) (k.len i (Nat.lt_of_lt_of_le hi h.n))
  sz := fun i hi => (k.sz i (Nat.lt_of_lt_of_le hi h.n)).trans (h.sz i hi)
  same := fun i hi he => by
    have h1 := h.len i hi
    have h2 := k.len i (Nat.lt_of_lt_of_le hi h.n)
    have a := h.same i hi (by omega)
    have b := k.same i (Nat.lt_of_lt_of_le hi h.n) (by omega)
    exact ⟨b.1.trans a.1, b.2.trans a.2⟩
  fresh := fun b o v hv hn => by
    cases hm : c1.im b o with
    | some v' => exact h.fresh b o v' hm hn
    | none =>
      rcases k.fresh b o v hv hm with h1 | ⟨i, hi, rfl⟩
      · exact .inl (Nat.le_trans hB h1)
      · rcases h.own i hi with h2 | ⟨j, hj, he⟩
        · exact .inl h2
        · exact .inr ⟨j, hj, he.symm⟩
  own := fun i hi => by
    rcases k.own i hi with h1 | ⟨j, hj, he⟩
    · exact .inl (Nat.le_trans hB h1)
    · rcases h.own j hj with h2 | ⟨l, hl, he2⟩
      · exact .inl (by omega)
      · exact .inr ⟨l, hl, he.trans he2⟩

theorem IR.mono {im im' : Nat → Nat → Option Value} (h : ∀ b o v, im b o = some v → im' b o = some v) {t : T} {v : Value} (r : IR im t v) : IR im' t v := by
  induction r with
  | val h => exact .val h
  | nil => exact .nil
  | sl esz ad u hn hc hm hr hA hs hi h1 hv ih => exact .sl esz ad u hn hc hm hr hA hs (fun i r j t h1 h2 => h _ _ _ (hi i r j t h1 h2)) h1 ih
  | ip u hs hi h1 hv ih => exact .ip u hs (fun j t h1 => h _ _ _ (hi j t h1)) h1 ih
  | fn hl hv ih => exact .fn hl ih
  | agg hl hv ih => exact .agg hl ih
  | junk => exact .junk
theorem VR.mono {c c' : Cx} {B : Nat} (h : Le c c' B) {t : T} {v : Value} (r : VR c t v) : VR c' t v := by
  induction r with
  | im hi => exact .im (hi.mono h.im)
  | @ref i k row off hi hk =>
    have h1 := h.len i hi
    by_cases he : c.len i = c'.len i
    · have h2 := h.same i hi he
      have h3 := h.sz i hi
      rw [← h2.1, ← h3]
      exact .ref (Nat.lt_of_lt_of_le hi h.n) (by omega)
    · exact .refOld (Nat.lt_of_lt_of_le hi h.n) (by omega)
  | @refOld i k row off A hi hk =>
    have h1 := h.len i hi
    exact .refOld (Nat.lt_of_lt_of_le hi h.n) (by omega)
  | @os i k cap hi hk hc hm hb =>
    have h1 := h.len i hi
    by_cases he : c.len i = c'.len i
    · have h2 := h.same i hi he
      have h3 := h.sz i hi
      rw [← h2.1]
      exact .os (Nat.lt_of_lt_of_le hi h.n) (by omega) hc hm (by rw [h3, h2.2]; exact hb)
    · exact .osOld (Nat.lt_of_lt_of_le hi h.n) (by omega)
  | @osOld i k n cap A hi hk =>
    have h1 := h.len i hi
    exact .osOld (Nat.lt_of_lt_of_le hi h.n) (by omega)
  | agg hl hv ih => exact .agg hl ih
  | tup hl hv ih => exact .tup hl ih
  | fn hl hv ih => exact .fn hl ih

/-- The world is as the machine has it. -/
structure ObOk (c : Cx) (w : World) (i : Nat) (O : Ob) : Prop where
  len : c.len i = O.rows.length
  sz : c.sz i = O.sz
  row : ∀ r, r ∈ O.rows → r.length = O.sz
  lt : c.bk i < w.heap.size
  blk : ∃ cs, w.heap[c.bk i]? = some (.cells cs O.e (0, 0)) ∧ cs.size = c.bs i ∧ O.rows.length * O.sz ≤ cs.size ∧
    ∀ r row j t, O.rows[r]? = some row → row[j]? = some t → ∃ v, cs[r * O.sz + j]? = some v ∧ VR c t v ∧ v.oneCell' = true ∧ (O.cl = true → IR c.im t v)
structure Inv (c : Cx) (w : World) (S : List Ob) : Prop where
  n : c.n = S.length
  im : ∀ b o v, c.im b o = some v → w.cell? ⟨b, o, none⟩ = some v
  ob : ∀ i O, S[i]? = some O → ObOk c w i O
  inj : ∀ i j, i < c.n → j < c.n → c.bk i = c.bk j → i = j
  frz : ∀ i O o v, S[i]? = some O → c.im (c.bk i) o = some v → O.froz = true ∧ o < O.rows.length * O.sz
/-- What a run may turn: its own blocks. -/
structure Keep (c : Cx) (w w' : World) : Prop where
  os : w'.os = w.os
  tape : w'.tape = w.tape
  output : w'.output = w.output
  size : w.heap.size ≤ w'.heap.size
  block : ∀ b, b < w.heap.size → (∀ i, i < c.n → c.bk i ≠ b) → w'.heap[b]? = w.heap[b]?
theorem Keep.refl (c : Cx) (w : World) : Keep c w w := ⟨rfl, rfl, rfl, Nat.le_refl _, fun _ _ _ => rfl⟩
theorem Keep.trans {c c1 : Cx} {w w1 w2 : World} (h : Keep c w w1) (k : Keep c1 w1 w2) (l : Le c c1 w.heap.size) : Keep c w w2 where
  os := k.os.trans h.os
  tape := k.tape.trans h.tape
  output := k.output.trans h.output
  size := Nat.le_trans h.size k.size
  block := fun b hb hn => by
    refine (k.block b (Nat.lt_of_lt_of_le hb h.size) fun i hi he => ?_).trans (h.block b hb hn)
    rcases l.own i hi with h1 | ⟨j, hj, h2⟩
    · omega
    · exact hn j hj (h2.symm.trans he)
theorem Keep.drew {c : Cx} {w : World} : Keep c w w.drew := ⟨rfl, rfl, rfl, Nat.le_refl _, fun _ _ _ => rfl⟩
theorem Inv.drew {c : Cx} {w : World} {S : List Ob} (h : Inv c w S) : Inv c w.drew S := ⟨h.n, h.im, fun i O ho => let k := h.ob i O ho; ⟨k.len, k.sz, k.row, k.lt, k.blk⟩, h.inj, h.frz⟩

/-- A frame's slots. -/
def FR (c : Cx) (F : Fr) (a : Act) : Prop := ∀ t, VR c (look F t) (a.tmps.getD t Go.undef)
theorem FR.mono {c c' : Cx} {B : Nat} (h : Le c c' B) {F : Fr} {a : Act} (r : FR c F a) : FR c' F a := fun t => (r t).mono h
theorem FR.put {c : Cx} {F : Fr} {a : Act} (r : FR c F a) {t : T} {v : Value} (hv : VR c t v) (d : Option Nat) (hd : ∀ x, d = some x → x < a.tmps.size) : FR c (putA F d t) (a.put d v) := by
  cases d with
  | none => exact r
  | some x =>
    intro y
    have hx := hd x rfl
    simp only [putA, look, Act.put]
    by_cases h : x = y
    · subst h
      simp [hx, hv]
    · have hb : (x == y) = false := by simp [h]
      rw [hb]
      simp only [cond_false]
      have := r y
      rwa [show (a.tmps.setIfInBounds x v).getD y Go.undef = a.tmps.getD y Go.undef by simp [Array.getElem?_setIfInBounds_ne h]]

theorem conv1_ok {im : Nat → Nat → Option Value} (v : Value) : IR im (conv1 v) v := by
  unfold conv1
  split <;> first | exact .nil | exact .val rfl | exact .junk
theorem conv_ok {im : Nat → Nat → Option Value} (v : Value) : IR im (conv v) v := by
  unfold conv
  split
  · rename_i cs
    refine .agg (by simp) (fun j t h => ?_)
    simp only [List.getElem?_map, Option.map_eq_some_iff, Array.getElem?_toList] at h
    obtain ⟨x, hx, rfl⟩ := h
    rw [show cs.getD j Go.undef = x by simp [hx]]
    exact conv1_ok x
  · exact conv1_ok _
theorem ev_ok {c : Cx} {F : Fr} {a : Act} (r : FR c F a) (x : Operand) : VR c (ev F x) (a.eval x) := by
  cases x with
  | tmp t => exact r t
  | const v => exact .im (conv_ok v)
  | global g => exact .junk
  | func f => exact .im (.fn (vs := #[]) rfl (fun j t h => by simp at h))

theorem im_lt {c : Cx} {w : World} {S : List Ob} (h : Inv c w S) {b o : Nat} {v : Value} (hv : c.im b o = some v) : b < w.heap.size := by
  have hc := h.im b o v hv
  unfold World.cell? at hc
  rcases Nat.lt_or_ge b w.heap.size with h1 | h1
  · exact h1
  · simp [Array.getElem?_eq_none h1] at hc
def upd (f : Nat → Nat) (i x : Nat) : Nat → Nat := fun j => if j = i then x else f j
theorem upd_same (f : Nat → Nat) (i x : Nat) : upd f i x i = x := by simp [upd]
theorem upd_ne (f : Nat → Nat) {i j : Nat} (x : Nat) (h : j ≠ i) : upd f i x j = f j := by simp [upd, h]
/-- A new object. -/
theorem alloc_gen {c : Cx} {w : World} {S : List Ob} (h : Inv c w S) (O : Ob) (w' : World) (g : Nat) (cs : Array Value)
    (hos : w'.os = w.os) (htape : w'.tape = w.tape) (hout : w'.output = w.output) (hsize : w.heap.size ≤ w'.heap.size)
    (hblock : ∀ b, b < w.heap.size → w'.heap[b]? = w.heap[b]?) (hg : w.heap.size ≤ g) (hglt : g < w'.heap.size) (hblk : w'.heap[g]? = some (.cells cs O.e (0, 0))) (hrow : ∀ r, r ∈ O.rows → r.length = O.sz) (hsz : O.rows.length * O.sz ≤ cs.size)
    (hcell : ∀ r row j t, O.rows[r]? = some row → row[j]? = some t → ∃ v, cs[r * O.sz + j]? = some v ∧ VR c t v ∧ v.oneCell' = true ∧ (O.cl = true → IR c.im t v)) :
    ∃ c', Le c c' w.heap.size ∧ Keep c w w' ∧ Inv c' w' (S ++ [O]) ∧ c'.n = c.n + 1 ∧ c'.bk S.length = g ∧ c'.len S.length = O.rows.length ∧
      c'.sz S.length = O.sz ∧ c'.bs S.length = cs.size := by
  have hn := h.n
  have hle : Le c { c with n := c.n + 1, bk := upd c.bk c.n g, len := upd c.len c.n O.rows.length, sz := upd c.sz c.n O.sz, bs := upd c.bs c.n cs.size } w.heap.size := by
    refine ⟨fun _ _ _ h => h, Nat.le_succ _, fun i hi => ?_, fun i hi => ?_, fun i hi _ => ?_, fun b o v h1 h2 => absurd (h1.symm.trans h2) (by simp), fun i hi => ?_⟩
    · have e : i ≠ c.n := by omega
      simp only [upd_ne _ _ e]; exact Nat.le_refl _
    · have e : i ≠ c.n := by omega
      simp only [upd_ne _ _ e]
    · have e : i ≠ c.n := by omega
      simp only [upd_ne _ _ e, and_self]
    · by_cases he : i = c.n
      · subst he; exact .inl (by simp only [upd_same]; exact hg)
      · exact .inr ⟨i, by simp only at hi; omega, upd_ne _ _ he⟩
  refine ⟨_, hle, ⟨hos, htape, hout, hsize, fun b hb _ => hblock b hb⟩, ?_, rfl, ?_, ?_, ?_, ?_⟩
  · skip
    refine ⟨by simp [hn], fun b o v hv => ?_, fun i O' hO' => ?_, fun i j hi hj he => ?_, fun i O' o v hO' hv => ?_⟩
    · rw [World.cell?_of_block (w := w) (hblock b (im_lt h hv))]; exact h.im b o v hv
    · rcases Nat.lt_or_ge i S.length with h1 | h1
      · rw [List.getElem?_append_left h1] at hO'
        have k := h.ob i O' hO'
        have hne : i ≠ c.n := by omega
        obtain ⟨c0, k1, k2, k3, k4⟩ := k.blk
        refine ⟨?_, ?_, k.row, ?_, ⟨c0, ?_, ?_, k3, fun r row j t a b => ?_⟩⟩
        · simp only [upd_ne _ _ hne]; exact k.len
        · simp only [upd_ne _ _ hne]; exact k.sz
        · simp only [upd_ne _ _ hne]; exact Nat.lt_of_lt_of_le k.lt hsize
        · simp only [upd_ne _ _ hne]; rw [hblock _ k.lt]; exact k1
        · simp only [upd_ne _ _ hne]; exact k2
        · obtain ⟨v, a1, a2, a3, a4⟩ := k4 r row j t a b
          exact ⟨v, a1, a2.mono hle, a3, a4⟩
      · rw [List.getElem?_append_right h1] at hO'
        have hi : i = c.n := by
          rcases Nat.lt_or_ge (i - S.length) 1 with h2 | h2
          · omega
          · rw [List.getElem?_eq_none (by simpa using h2)] at hO'; cases hO'
        subst hi
        rw [show c.n - S.length = 0 by omega] at hO'
        simp only [List.getElem?_cons_zero, Option.some.injEq] at hO'
        subst hO'
        refine ⟨by simp only [upd_same], by simp only [upd_same], hrow, by simp only [upd_same]; exact hglt, ⟨cs, ?_, ?_, hsz, fun r row j t a b => ?_⟩⟩
        · simp only [upd_same]; exact hblk
        · simp only [upd_same]
        · obtain ⟨v, a1, a2, a3, a4⟩ := hcell r row j t a b
          exact ⟨v, a1, a2.mono hle, a3, a4⟩
    · have lt : ∀ i, i < c.n → c.bk i < w.heap.size := fun i hi => by
        have hlt : i < S.length := by omega
        exact (h.ob i S[i] (List.getElem?_eq_getElem hlt)).lt
      by_cases h1 : i = c.n <;> by_cases h2 : j = c.n
      · omega
      · subst h1
        simp only [upd_same, upd_ne _ _ h2] at he
        have := lt j (by simp only at hj; omega)
        omega
      · subst h2
        simp only [upd_same, upd_ne _ _ h1] at he
        have := lt i (by simp only at hi; omega)
        omega
      · simp only [upd_ne _ _ h1, upd_ne _ _ h2] at he
        exact h.inj i j (by simp only at hi; omega) (by simp only at hj; omega) he
    · by_cases h1 : i = c.n
      · subst h1
        simp only [upd_same] at hv
        have := im_lt h hv
        omega
      · simp only [upd_ne _ _ h1] at hv
        rcases Nat.lt_or_ge i S.length with h2 | h2
        · rw [List.getElem?_append_left h2] at hO'
          exact h.frz i O' o v hO' hv
        · rw [List.getElem?_append_right h2] at hO'
          rw [List.getElem?_eq_none (by simp; omega)] at hO'
          cases hO'
  · show upd c.bk c.n g S.length = _; rw [← hn, upd_same]
  · show upd c.len c.n O.rows.length S.length = _; rw [← hn, upd_same]
  · show upd c.sz c.n O.sz S.length = _; rw [← hn, upd_same]
  · show upd c.bs c.n cs.size S.length = _; rw [← hn, upd_same]

theorem alloc_ok {c : Cx} {w : World} {S : List Ob} (h : Inv c w S) (O : Ob) (cs : Array Value) (hrow : ∀ r, r ∈ O.rows → r.length = O.sz) (hsz : O.rows.length * O.sz ≤ cs.size)
    (hcell : ∀ r row j t, O.rows[r]? = some row → row[j]? = some t → ∃ v, cs[r * O.sz + j]? = some v ∧ VR c t v ∧ v.oneCell' = true ∧ (O.cl = true → IR c.im t v)) :
    ∃ c', Le c c' w.heap.size ∧ Keep c w (w.alloc (.cells cs O.e)) ∧ Inv c' (w.alloc (.cells cs O.e)) (S ++ [O]) ∧ c'.n = c.n + 1 ∧ c'.bk S.length = w.heap.size ∧ c'.len S.length = O.rows.length ∧
      c'.sz S.length = O.sz ∧ c'.bs S.length = cs.size :=
  alloc_gen h O _ w.heap.size cs rfl rfl rfl (by simp) (fun b hb => Below.heap_alloc _ _ _ hb) (Nat.le_refl _) (by simp) (by show (w.heap.push _)[w.heap.size]? = _; simp) hrow hsz hcell
/-- An object that has been written. -/
theorem renew_ok {c : Cx} {w : World} {S : List Ob} (h : Inv c w S) {i : Nat} {O : Ob} (hO : S[i]? = some O) (O' : Ob) (w' : World) (g : Nat) (cs : Array Value)
    (hos : w'.os = w.os) (htape : w'.tape = w.tape) (hout : w'.output = w.output) (hsize : w.heap.size ≤ w'.heap.size)
    (hblock : ∀ b, b < w.heap.size → b ≠ c.bk i → w'.heap[b]? = w.heap[b]?)
    (himm : ∀ o v, c.im (c.bk i) o = some v → w'.cell? ⟨c.bk i, o, none⟩ = some v)
    (hg : g = c.bk i ∨ w.heap.size ≤ g) (hglt : g < w'.heap.size) (hblk : w'.heap[g]? = some (.cells cs O'.e (0, 0)))
    (hsz : O'.sz = O.sz) (hfr : O'.froz = O.froz) (hlen : O.rows.length ≤ O'.rows.length) (hsame : O.rows.length = O'.rows.length → g = c.bk i ∧ cs.size = c.bs i)
    (hrow : ∀ r, r ∈ O'.rows → r.length = O'.sz) (hle : O'.rows.length * O'.sz ≤ cs.size)
    (hcell : ∀ r row j t, O'.rows[r]? = some row → row[j]? = some t → ∃ v, cs[r * O'.sz + j]? = some v ∧ VR c t v ∧ v.oneCell' = true ∧ (O'.cl = true → IR c.im t v)) :
    ∃ c', Le c c' w.heap.size ∧ Keep c w w' ∧ Inv c' w' (S.set i O') ∧ c'.n = c.n ∧ c'.bk i = g ∧ c'.len i = O'.rows.length ∧ c'.sz i = O.sz ∧ c'.bs i = cs.size := by
  have hi : i < S.length := (List.getElem?_eq_some_iff.1 hO).1
  have hin : i < c.n := by have := h.n; omega
  have kO := h.ob i O hO
  have hLe : Le c { c with bk := upd c.bk i g, len := upd c.len i O'.rows.length, bs := upd c.bs i cs.size } w.heap.size := by
    refine ⟨fun _ _ _ h => h, Nat.le_refl _, fun j hj => ?_, fun j hj => rfl, fun j hj he => ?_, fun b o v h1 h2 => absurd (h1.symm.trans h2) (by simp), fun j hj => ?_⟩
    · by_cases e : j = i
      · subst e; simp only [upd_same]; rw [kO.len]; exact hlen
      · simp only [upd_ne _ _ e]; exact Nat.le_refl _
    · by_cases e : j = i
      · subst e
        simp only [upd_same] at he ⊢
        rw [kO.len] at he
        exact hsame he
      · exact ⟨upd_ne _ _ e, upd_ne _ _ e⟩
    · by_cases e : j = i
      · subst e
        simp only [upd_same]
        rcases hg with h1 | h1
        · exact .inr ⟨j, hj, h1⟩
        · exact .inl h1
      · exact .inr ⟨j, hj, upd_ne _ _ e⟩
  refine ⟨_, hLe, ⟨hos, htape, hout, hsize, fun b hb hn => hblock b hb (fun e => hn i hin e.symm)⟩, ?_, rfl, upd_same _ _ _, upd_same _ _ _, kO.sz, upd_same _ _ _⟩
  have lt : ∀ j, j < c.n → c.bk j < w.heap.size := fun j hj => by
    have hlt : j < S.length := by have := h.n; omega
    exact (h.ob j S[j] (List.getElem?_eq_getElem hlt)).lt
  refine ⟨by simp [h.n], fun b o v hv => ?_, fun j P hP => ?_, fun j l hj hl he => ?_, fun j P o v hP hv => ?_⟩
  · have hb := im_lt h hv
    by_cases e : b = c.bk i
    · subst e; exact himm o v hv
    · have := h.im b o v hv
      rw [← this]
      exact World.cell?_of_block (w := w) (hblock b hb e)
  · rw [List.getElem?_set] at hP
    by_cases e : i = j
    · subst e
      rw [if_pos rfl, if_pos hi] at hP
      injection hP with hP
      subst hP
      refine ⟨by simp only [upd_same], by simp only [kO.sz, hsz], hrow, by simp only [upd_same]; exact hglt, ⟨cs, by simp only [upd_same]; exact hblk, by simp only [upd_same], hle, fun r row j t a b => ?_⟩⟩
      obtain ⟨v, a1, a2, a3, a4⟩ := hcell r row j t a b
      exact ⟨v, a1, a2.mono hLe, a3, a4⟩
    · rw [if_neg e] at hP
      have k := h.ob j P hP
      have hj : j < c.n := by have := h.n; have := (List.getElem?_eq_some_iff.1 hP).1; omega
      obtain ⟨c0, k1, k2, k3, k4⟩ := k.blk
      have e' : j ≠ i := fun x => e x.symm
      have hbne : c.bk j ≠ c.bk i := fun x => e' (h.inj j i hj hin x)
      refine ⟨by simp only [upd_ne _ _ e']; exact k.len, k.sz, k.row, by simp only [upd_ne _ _ e']; exact Nat.lt_of_lt_of_le k.lt hsize, ⟨c0, by simp only [upd_ne _ _ e']; rw [hblock _ k.lt hbne]; exact k1, by simp only [upd_ne _ _ e']; exact k2, k3, fun r row l t a b => ?_⟩⟩
      obtain ⟨v, a1, a2, a3, a4⟩ := k4 r row l t a b
      exact ⟨v, a1, a2.mono hLe, a3, a4⟩
  · simp only at hj hl
    by_cases e1 : j = i <;> by_cases e2 : l = i
    · omega
    · subst e1
      simp only [upd_same, upd_ne _ _ e2] at he
      rcases hg with h1 | h1
      · exact h.inj j l hj hl (h1.symm.trans he)
      · have := lt l hl; omega
    · subst e2
      simp only [upd_same, upd_ne _ _ e1] at he
      rcases hg with h1 | h1
      · exact h.inj j l hj hl (he.trans h1)
      · have := lt j hj; omega
    · simp only [upd_ne _ _ e1, upd_ne _ _ e2] at he
      exact h.inj j l hj hl he
  · rw [List.getElem?_set] at hP
    by_cases e : i = j
    · subst e
      rw [if_pos rfl, if_pos hi] at hP
      injection hP with hP
      subst hP
      simp only [upd_same] at hv
      rcases hg with h1 | h1
      · subst h1
        have := h.frz i O o v hO hv
        refine ⟨hfr.trans this.1, Nat.lt_of_lt_of_le this.2 ?_⟩
        rw [hsz]
        exact Nat.mul_le_mul_right _ hlen
      · have := im_lt h hv; omega
    · rw [if_neg e] at hP
      simp only [upd_ne _ _ (fun x => e x.symm)] at hv
      exact h.frz j P o v hP hv
end Go.Proofs.Ytbehhhlidaiblaa.Ai
