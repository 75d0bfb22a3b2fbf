/- From what a row says of its arguments to trees; from a tree that came back to what a row asks. -/
import Derived.Test.YtbehhhlidaiblaaAi13
import Derived.ChangeArms
import Derived.OpenShut
import Derived.Below
namespace Go.Proofs.Ytbehhhlidaiblaa.Ai
open Go Go.RowKit
def imW (w : World) : Nat → Nat → Option Value := fun b o => w.cell? ⟨b, o, none⟩
section
variable {H : Type} {enc : TypeId × Value → H} {P : Program} {w : World}

/-- Whatever is read at the type is a tree of the told shape. -/
def Rd (enc : TypeId × Value → H) (P : Program) (w : World) (t : Nat) {α : Type} (tr : α → List T) (Good : α → Prop) : Prop :=
  ∀ (fuel : Nat) (cs : List Value) (x : DataW H × List MemPlace), DataW.trod enc P w 0 (fun _ => true) true fuel t cs = some x →
    ∃ a, Good a ∧ (tr a).length = cs.length ∧ ∀ (j : Nat) (τ : T), (tr a)[j]? = some τ → ∃ u, cs[j]? = some u ∧ IR (imW w) τ u ∧ u.oneCell' = true
theorem one_get {τ0 τ : T} {u0 : Value} {j : Nat} (hi : IR (imW w) τ0 u0) (ho : u0.oneCell' = true) (h : [τ0][j]? = some τ) : ∃ u, [u0][j]? = some u ∧ IR (imW w) τ u ∧ u.oneCell' = true := by
  cases j with
  | zero => simp at h; subst h; exact ⟨u0, rfl, hi, ho⟩
  | succ j => simp at h
theorem Rd.int {t : Nat} {k : IntKind} (ht : P.underlying t = some (.int k)) : Rd enc P w t (fun n : Int => [.val (.int k n)]) (fun n => (Lit.int k n).wf = true) := by
  intro fuel cs x h
  obtain ⟨n, rfl, _, hw⟩ := DataW.trod_int ht h
  exact ⟨n, hw, rfl, fun j τ hj => one_get (.val rfl) rfl hj⟩
theorem Rd.bool {t : Nat} (ht : P.underlying t = some .bool) : Rd enc P w t (fun b : Bool => [.val (.bool b)]) (fun _ => True) := by
  intro fuel cs x h
  obtain ⟨n, rfl, _⟩ := DataW.trod_bool ht h
  exact ⟨n, trivial, rfl, fun j τ hj => one_get (.val rfl) rfl hj⟩
theorem Rd.string {t : Nat} (ht : P.underlying t = some .string) : Rd enc P w t (fun s : ByteArray => [.val (.string s)]) (fun s => s.size ≤ maxLen) := by
  intro fuel cs x h
  obtain ⟨n, rfl, _, hw⟩ := DataW.trod_string ht h
  exact ⟨n, hw, rfl, fun j τ hj => one_get (.val rfl) rfl hj⟩
theorem Rd.map {t : Nat} {α β : Type} {tr : α → List T} {Good : α → Prop} (h : Rd enc P w t tr Good) (g : α → β) {tr' : β → List T} {Good' : β → Prop} (h1 : ∀ a, tr' (g a) = tr a) (h2 : ∀ a, Good a → Good' (g a)) : Rd enc P w t tr' Good' := by
  intro fuel cs x hx
  obtain ⟨a, a1, a2, a3⟩ := h fuel cs x hx
  exact ⟨g a, h2 a a1, by rw [h1]; exact a2, by rw [h1]; exact a3⟩
theorem list_of {α : Type} {p : Nat → α → Prop} : ∀ n : Nat, (∀ i, i < n → ∃ a, p i a) → ∃ as : List α, as.length = n ∧ ∀ (i : Nat) (a : α), as[i]? = some a → p i a
  | 0, _ => ⟨[], rfl, fun i a h => by simp at h⟩
  | n + 1, h => by
    obtain ⟨as, h1, h2⟩ := list_of n fun i hi => h i (by omega)
    obtain ⟨a, ha⟩ := h n (by omega)
    refine ⟨as ++ [a], by simp [h1], fun i b hb => ?_⟩
    rcases Nat.lt_or_ge i as.length with hlt | hge
    · rw [List.getElem?_append_left hlt] at hb
      exact h2 i b hb
    · rw [List.getElem?_append_right hge] at hb
      have : i = n := by
        have := (List.getElem?_eq_some_iff.1 hb).1
        simp at this
        omega
      subst this
      rw [h1] at hb
      simp at hb
      subst hb
      exact ha
theorem spot_none {a : Addr} {n : Nat} {cs : List Value} (h : w.cells? 0 a n = some cs) (hn : 0 < n) : a.spot = none := by
  obtain ⟨_, h1, h2⟩ := World.cells?_some h
  have h3 := h2 0 hn
  rw [show a.add 0 = a from rfl, List.getElem?_eq_getElem (by omega)] at h3
  unfold World.cell? at h3
  split at h3
  · split at h3
    · cases h3
    · rename_i hs
      simpa using hs
  · cases h3
theorem cells_get {a : Addr} {n : Nat} {cs : List Value} (h : w.cells? 0 a n = some cs) (hn : 0 < n) {j : Nat} {u : Value} (hu : cs[j]? = some u) : imW w a.block (a.off + j) = some u := by
  obtain ⟨_, h1, h2⟩ := World.cells?_some h
  have hj : j < n := by rw [← h1]; exact (List.getElem?_eq_some_iff.1 hu).1
  have h3 := h2 j hj
  rw [add_eq (spot_none h hn)] at h3
  exact h3.trans hu
theorem Rd.slice {t e : Nat} {α : Type} {tr : α → List T} {Good : α → Prop} (ht : P.underlying t = some (.slice e)) (hz : 0 < P.cellsOf e) (he : Rd enc P w e tr Good) :
    Rd enc P w t (fun as : List α => [.sl (as.map tr)]) (fun as => (∀ a, a ∈ as → Good a ∧ (tr a).length = P.cellsOf e) ∧ as.length ≤ maxLen) := by
  intro fuel cs x h
  rcases DataW.trod_slice ht h with ⟨rfl, _⟩ | ⟨ad, len, cap, elems, rest, n, _, rfl, rfl, hb, hl, hm, hlen, hel, hsp, hns⟩
  · refine ⟨[], ⟨fun a ha => by simp at ha, by simp⟩, rfl, fun j τ hj => one_get ?_ rfl hj⟩
    exact .sl 0 ⟨0, 0, none⟩ (fun _ => undef) rfl (Nat.le_refl _) (by simp) (fun r hr => by simp at hr) (fun h => absurd h (by simp)) rfl (fun i r j t a => by simp at a) (fun i r j t a => by simp at a) (fun i r j t a => by simp at a)
  · have each : ∀ i, i < len → ∃ a, Good a ∧ (tr a).length = P.cellsOf e ∧ ad.spot = none ∧ ∀ (j : Nat) (τ : T), (tr a)[j]? = some τ → ∃ u, imW w ad.block (ad.off + (i * P.cellsOf e + j)) = some u ∧ IR (imW w) τ u ∧ u.oneCell' = true := by
      intro i hi
      have h1 := hel i hi
      rw [List.getElem?_eq_getElem (by omega), Option.bind_eq_some_iff] at h1
      obtain ⟨cs, hcs, hx⟩ := h1
      obtain ⟨a, a1, a2, a3⟩ := he _ _ _ hx
      have hs : ad.spot = none := by
        have h0 := hel 0 (by omega)
        rw [List.getElem?_eq_getElem (by omega), Option.bind_eq_some_iff] at h0
        obtain ⟨cs0, hcs0, _⟩ := h0
        rw [Nat.zero_mul] at hcs0
        exact spot_none hcs0 hz
      have hc := (World.cells?_some hcs).2.1
      refine ⟨a, a1, by rw [a2, hc], hs, fun j τ hj => ?_⟩
      obtain ⟨u, u1, u2, u3⟩ := a3 j τ hj
      refine ⟨u, ?_, u2, u3⟩
      have := cells_get hcs hz u1
      rw [add_eq hs] at this
      rw [← Nat.add_assoc]
      exact this
    obtain ⟨as, h1, h2⟩ := list_of len each
    refine ⟨as, ⟨fun a ha => ?_, by rw [h1]; omega⟩, rfl, fun j τ hj => one_get ?_ rfl hj⟩
    · obtain ⟨i, hi⟩ := List.getElem?_of_mem ha
      exact ⟨(h2 i a hi).1, (h2 i a hi).2.1⟩
    · have get : ∀ (i : Nat) r (j : Nat) (τ : T), (as.map tr)[i]? = some r → r[j]? = some τ → ∃ u, imW w ad.block (ad.off + (i * P.cellsOf e + j)) = some u ∧ IR (imW w) τ u ∧ u.oneCell' = true := by
        intro i r j τ hr hj
        rw [List.getElem?_map, Option.map_eq_some_iff] at hr
        obtain ⟨a, ha, rfl⟩ := hr
        exact (h2 i a ha).2.2.2 j τ hj
      by_cases hz0 : len = 0
      · subst hz0
        have : as = [] := List.eq_nil_of_length_eq_zero h1
        subst this
        exact .sl 0 ⟨0, 0, none⟩ (fun _ => undef) rfl hl hm (fun r hr => by simp at hr) (fun h => absurd h (by simp)) rfl (fun i r j t a => by simp at a) (fun i r j t a => by simp at a) (fun i r j t a => by simp at a)
      · have hs : ad.spot = none := (h2 0 as[0] (List.getElem?_eq_getElem (by omega))).2.2.1
        refine .sl (P.cellsOf e) ad (fun p => (imW w ad.block (ad.off + p)).getD undef) (by simpa using h1) hl hm (fun r hr => ?_) (fun _ => rfl) hs (fun i r j t a b => ?_) (fun i r j t a b => ?_) (fun i r j t a b => ?_)
        · rw [List.mem_map] at hr
          obtain ⟨a, ha, rfl⟩ := hr
          obtain ⟨i, hi⟩ := List.getElem?_of_mem ha
          exact (h2 i a hi).2.1
        all_goals
          obtain ⟨u, u1, u2, u3⟩ := get i r j t a b
          simp only [u1, Option.getD_some]
        · exact u3
        · exact u2
theorem Rd.ptr {t e : Nat} {α : Type} {tr : α → List T} {Good : α → Prop} (ht : P.underlying t = some (.pointer e)) (hz : 0 < P.cellsOf e) (he : Rd enc P w e tr Good) :
    Rd enc P w t (fun o : Option α => match o with | none => [.val (.pointer none)] | some a => [.ip (tr a)]) (fun o => ∀ a, o = some a → Good a ∧ (tr a).length = P.cellsOf e) := by
  intro fuel cs x h
  rcases DataW.trod_pointer ht h with ⟨rfl, _⟩ | ⟨ad, cs', y, n, _, rfl, rfl, hcs, hy⟩
  · exact ⟨none, fun a ha => by simp at ha, rfl, fun j τ hj => one_get (.val rfl) rfl hj⟩
  · obtain ⟨a, a1, a2, a3⟩ := he _ _ _ hy
    refine ⟨some a, fun b hb => by injection hb with hb; subst hb; exact ⟨a1, by rw [a2]; exact (World.cells?_some hcs).2.1⟩, rfl, fun j τ hj => one_get ?_ rfl hj⟩
    refine .ip (fun p => (imW w ad.block (ad.off + p)).getD undef) (spot_none hcs hz) (fun j t b => ?_) (fun j t b => ?_) (fun j t b => ?_)
    all_goals
      obtain ⟨u, u1, u2, u3⟩ := a3 j t b
      have u4 := cells_get hcs hz u1
      simp only [u4, Option.getD_some]
    · exact u3
    · exact u2

/-- The fields of a struct, from the offset on. -/
def RdF (enc : TypeId × Value → H) (P : Program) (w : World) (n : Nat) (fs : List Field) (off : Nat) {α : Type} (tr : α → List T) (Good : α → Prop) : Prop :=
  ∀ (cs : List Value), cs.length = n → (∀ f, f ∈ fs → ∃ fuel x, DataW.trod enc P w 0 (fun _ => true) true fuel f.type ((cs.drop f.offset).take (P.cellsOf f.type)) = some x) →
    ∃ a, Good a ∧ (tr a).length + off = n ∧ ∀ (j : Nat) (τ : T), (tr a)[j]? = some τ → ∃ u, cs[off + j]? = some u ∧ IR (imW w) τ u ∧ u.oneCell' = true
theorem RdF.nil {n : Nat} : RdF enc P w n [] n (fun _ : Unit => []) (fun _ => True) := fun cs hc _ => ⟨(), trivial, by simp, fun j τ hj => by simp at hj⟩
theorem RdF.cons {n off : Nat} {f : Field} {fs : List Field} {α β : Type} {tr : α → List T} {Good : α → Prop} {tr' : β → List T} {Good' : β → Prop} (ho : f.offset = off) (hf : Rd enc P w f.type tr Good) (hn : off + P.cellsOf f.type ≤ n)
    (hr : RdF enc P w n fs (off + P.cellsOf f.type) tr' Good') : RdF enc P w n (f :: fs) off (fun p : α × β => tr p.1 ++ tr' p.2) (fun p => Good p.1 ∧ Good' p.2) := by
  intro cs hc h
  obtain ⟨fuel, x, hx⟩ := h f List.mem_cons_self
  obtain ⟨a, a1, a2, a3⟩ := hf _ _ _ hx
  obtain ⟨b, b1, b2, b3⟩ := hr cs hc fun g hg => h g (List.mem_cons_of_mem _ hg)
  have hl : (tr a).length = P.cellsOf f.type := by rw [a2]; simp [hc, ho]; omega
  refine ⟨(a, b), ⟨a1, b1⟩, by simp [hl]; omega, fun j τ hj => ?_⟩
  simp only at hj
  rcases Nat.lt_or_ge j (tr a).length with hlt | hge
  · rw [List.getElem?_append_left hlt] at hj
    obtain ⟨u, u1, u2, u3⟩ := a3 j τ hj
    refine ⟨u, ?_, u2, u3⟩
    rw [List.getElem?_take_of_lt (by omega), List.getElem?_drop, ho] at u1
    exact u1
  · rw [List.getElem?_append_right hge] at hj
    obtain ⟨u, u1, u2, u3⟩ := b3 _ τ hj
    refine ⟨u, ?_, u2, u3⟩
    rw [← u1]
    congr 1
    omega
theorem Rd.struct {t : Nat} {fs : Array Field} {α : Type} {tr : α → List T} {Good : α → Prop} (ht : P.underlying t = some (.struct fs)) (h : RdF enc P w (P.cellsOf t) fs.toList 0 tr Good) : Rd enc P w t tr Good := by
  intro fuel cs x hx
  obtain ⟨xs, n, _, _, hc, hl, he⟩ := DataW.trod_struct ht hx
  obtain ⟨a, a1, a2, a3⟩ := h cs hc fun f hf => by
    obtain ⟨i, hi⟩ := List.getElem?_of_mem hf
    have hi' : fs[i]? = some f := by simpa using hi
    have hlt : i < xs.length := by rw [hl]; exact (Array.getElem?_eq_some_iff.1 hi').1
    exact ⟨n, xs[i], by rw [he i f hi', List.getElem?_eq_getElem hlt]⟩
  exact ⟨a, a1, by omega, fun j τ hj => by simpa using a3 j τ hj⟩
theorem Rd.arg {t : Nat} {α : Type} {f : α → T} {Good : α → Prop} (h : Rd enc P w t (fun a => [f a]) Good) {v : Value} {d : DataW H} {ps : List MemPlace} (hv : v.cells = #[v]) (hx : DataW.Trod enc P w 0 (fun _ => true) true t v d ps) : ∃ a, Good a ∧ IR (imW w) (f a) v := by
  obtain ⟨fuel, hx⟩ := hx
  obtain ⟨a, a1, a2, a3⟩ := h _ _ _ hx
  obtain ⟨u, u1, u2, u3⟩ := a3 0 _ rfl
  rw [hv] at u1
  simp at u1
  subst u1
  exact ⟨a, a1, u2⟩
end
theorem law_calls {E : Env} (hE : EnvOk E) (hFn : FnsOk E) {n f : Nat} {ts : List T} {v : Value} (h : (callN E n).p f ts = some (.val v, [])) {W : World} {argv : Array Value} (hl : ts.length = argv.size) (ha : ∀ (j : Nat) (t : T), ts[j]? = some t → IR (imW W) t (argv.getD j undef)) :
    Calls E.P f argv W fun e W' => e = .returned v ∧ Below W.heap.size W W' := by
  obtain ⟨_, _, _, hc⟩ := (callN_ok hE hFn n).p f ts _ h
  refine (hc (imW W) W argv (fun b o v hv => hv) hl ha).mono fun e W' hq => ?_
  obtain ⟨c', u, rfl, l1, l2, l3, l4⟩ := hq
  obtain ⟨rfl, _⟩ := vr_val l4
  exact ⟨rfl, l2.os, l2.tape, l2.output, l2.size, fun k hk => l2.block k hk fun i hi => by simp [base] at hi⟩
end Go.Proofs.Ytbehhhlidaiblaa.Ai
