/- Slices of structs, at whatever struct: what they hold, append, the sort. -/
import Derived.Test.YthgnkbkfkcdhfaaOrder
import Derived.Test.YthgnkbkfkcdhfaaSortLays
namespace Go.Proofs.Ythgnkbkfkcdhfaa
open Go.RowKit
open Go.Shelf (Ren)
open Go.Sort (flatK get_flatK SWO HoldsK putRowK)
set_option maxHeartbeats 400000
set_option linter.unusedSectionVars false

/-- how an element lies in k cells -/
structure Enc (α : Type) where
  k : Nat
  f : α → List Value
  len : ∀ x, (f x).length = k
  pos : 0 < k
  one : ∀ x, ∀ v ∈ f x, v.oneCell' = true
section
variable {α : Type} [Inhabited α] (E : Enc α)
def Enc.flat (l : List α) : List Value := l.flatMap E.f
theorem Enc.flat_length (l : List α) : (E.flat l).length = l.length * E.k := by
  unfold Enc.flat
  induction l with
  | nil => simp
  | cons x l ih => simp [List.flatMap_cons, ih, E.len, Nat.add_mul]; omega
theorem Enc.flat_append (a b : List α) : E.flat (a ++ b) = E.flat a ++ E.flat b := by simp [Enc.flat]
theorem Enc.flat_get (l : List α) (i j : Nat) (h : i < l.length) (hj : j < E.k) : (E.flat l)[i * E.k + j]? = (E.f (l.getD i default))[j]? := by
  unfold Enc.flat
  induction l generalizing i with
  | nil => exact absurd h (Nat.not_lt_zero i)
  | cons x l ih =>
    rw [List.flatMap_cons]
    cases i with
    | zero =>
      rw [Nat.zero_mul, Nat.zero_add, List.getElem?_append_left (by rw [E.len]; exact hj)]
      rfl
    | succ i =>
      rw [List.getElem?_append_right (by rw [E.len, Nat.add_mul]; omega), E.len, show (i + 1) * E.k + j - E.k = i * E.k + j by rw [Nat.add_mul]; omega]
      exact ih i (by simpa using h)
theorem Enc.flat_one (l : List α) : ∀ u ∈ E.flat l, u.oneCell' = true := by
  intro u hu
  obtain ⟨x, -, hx⟩ := List.mem_flatMap.1 hu
  exact E.one x u hx
/-- v is a slice that holds l -/
def VecAt (w : World) (v : Value) (l : List α) : Prop :=
  ∃ (ao : Option Addr) (c : Nat), v = .slice ao l.length c ∧ l.length ≤ c ∧ c ≤ 9223372036854775807 ∧ (ao = none → c = 0) ∧
    ∀ j u, (E.flat l)[j]? = some u → ∃ b o, ao = some ⟨b, o, none⟩ ∧ w.cell? ⟨b, o + j, none⟩ = some u
theorem VecAt.ext {E : Enc α} {w w' : World} {v : Value} {l : List α} (h : VecAt E w v l) (he : Ext w w') : VecAt E w' v l := by
  obtain ⟨ao, c, h1, h2, h3, h4, h5⟩ := h
  refine ⟨ao, c, h1, h2, h3, h4, fun j u hj => ?_⟩
  obtain ⟨b, o, e, h⟩ := h5 j u hj
  exact ⟨b, o, e, he.cell h⟩
theorem VecAt.nil (w : World) : VecAt E w (.slice none 0 0) [] := ⟨none, 0, rfl, Nat.le_refl _, by decide, fun _ => rfl, fun j u h => by simp [Enc.flat] at h⟩
/-- v is a slice of the call's own, from block B on, and holds l -/
def VecOwn (T : TypeId) (w : World) (B : Nat) (v : Value) (l : List α) : Prop := w.ownsRow B T E.k v l.length (E.flat l)
theorem VecOwn.nil (T : TypeId) (w : World) (B : Nat) : VecOwn E T w B (.slice none 0 0) [] := ⟨by simp [Enc.flat], .inl ⟨rfl, rfl⟩⟩
theorem VecOwn.at' {E : Enc α} {T : TypeId} {w : World} {B : Nat} {v : Value} {l : List α} (h : VecOwn E T w B v l) : VecAt E w v l := by
  obtain ⟨-, h | ⟨g, cap, cur, rfl, hg, hh, hn, hc, hs, ht⟩⟩ := h
  · obtain ⟨rfl, h0⟩ := h
    have : l = [] := List.eq_nil_of_length_eq_zero h0
    subst this
    exact VecAt.nil E w
  · refine ⟨some ⟨g, 0, none⟩, cap, rfl, hn, by unfold maxLen at hc; omega, (fun e => by cases e), fun j u hj => ⟨g, 0, rfl, ?_⟩⟩
    have hlt : j < l.length * E.k := by rw [← E.flat_length]; exact (List.getElem?_eq_some_iff.1 hj).1
    rw [← ht, List.getElem?_take_of_lt hlt] at hj
    simp only [World.cell?, hh, Option.isSome_none, Bool.false_eq_true, if_false, Nat.zero_add]
    rw [← Array.getElem?_toList]; exact hj
theorem VecOwn.ext {E : Enc α} {T : TypeId} {w w' : World} {B : Nat} {v : Value} {l : List α} (h : VecOwn E T w B v l) (he : Ext w w') : VecOwn E T w' B v l := by
  obtain ⟨h1, h | ⟨g, cap, cur, hv, hg, hh, r⟩⟩ := h
  · exact ⟨h1, .inl h⟩
  · refine ⟨h1, .inr ⟨g, cap, cur, hv, hg, ?_, r⟩⟩
    rw [he.block g (by rcases Nat.lt_or_ge g w.heap.size with h' | h'
                       · exact h'
                       · simp [Array.getElem?_eq_none h'] at hh)]
    exact hh
theorem VecOwn.mono {E : Enc α} {T : TypeId} {w : World} {B B' : Nat} {v : Value} {l : List α} (h : VecOwn E T w B v l) (hB : B' ≤ B) : VecOwn E T w B' v l := by
  obtain ⟨h1, h | ⟨g, cap, cur, hv, hg, r⟩⟩ := h
  · exact ⟨h1, .inl h⟩
  · exact ⟨h1, .inr ⟨g, cap, cur, hv, Nat.le_trans hB hg, r⟩⟩
/-- a new block of one element -/
theorem VecAt.one {w : World} {g : Nat} {x : α} (h : ∀ j u, (E.f x)[j]? = some u → w.cell? ⟨g, j, none⟩ = some u) : VecAt E w (.slice (some ⟨g, 0, none⟩) 1 1) [x] := by
  refine ⟨some ⟨g, 0, none⟩, 1, rfl, Nat.le_refl _, by decide, (fun e => by cases e), fun j u hj => ⟨g, 0, rfl, ?_⟩⟩
  rw [Nat.zero_add]
  exact h j u (by simpa [Enc.flat] using hj)
theorem wp_append_vec {P : Program} {ops : Array Oper} {rest : List Oper} {dst : Option Tmp} {s x : Operand} {ty : TypeId} {pos : String} {after : Array Edge} {a : Act} {Q : Exit → Act → World → Prop} {w : World}
    (T TS : TypeId) (z : Value) (bytes : Nat) (hu : P.underlying TS = some (.slice T)) (hinfo : (P.info? T).map (fun i => (i.zero, i.size, i.bytes)) = some (some z, E.k, bytes)) (hzs : z.cells.size = E.k) (hby : bytes ≤ 1000000)
    (B : Nat) (v : Value) (l : List α) (hs : a.eval s = v) (hown : VecOwn E T w B v l) (y : Value) (m : List α) (hx : a.eval x = y) (hy : VecAt E w y m)
    (hlen : l.length + m.length ≤ 1000000) (hB : B ≤ w.heap.size)
    (h : ∀ v' w', VecOwn E T w' B v' (l ++ m) → Below B w w' → w.grownBy w' v.ownBlock → wpList P ops Q rest (a.put dst v') w') :
    wpList P ops Q (⟨dst, .call { callee := .builtin .append, args := #[s, x], argTypes := #[TS, TS] }, ty, pos, after, none⟩ :: rest) a w := by
  obtain ⟨i, hi, hz0, hz1, hz2⟩ := info_parts hinfo
  have hB' : ∀ k, v.ownBlock = some k → B ≤ k := by
    intro k hk
    obtain ⟨-, ⟨rfl, -⟩ | ⟨g, cap, cur, rfl, hg, -⟩⟩ := hown
    · simp [Value.ownBlock] at hk
    · simp [Value.ownBlock] at hk; omega
  obtain ⟨ao, c, rfl, hmc, hcc, hnil, hget⟩ := hy
  cases ao with
  | none =>
    obtain rfl := hnil rfl
    have : m = [] := List.eq_nil_of_length_eq_zero (by omega)
    subst this
    refine wpList_append_own_none rfl s x TS rfl B T i E.k hu hi v l.length (E.flat l) hs hown hx ?_
    refine h v w (by rw [List.append_nil]; exact hown) (Below.refl _ _) (World.grownBy.refl _ _)
  | some ad =>
    refine wpList_append_own w rfl s x TS rfl B T i _ E.k bytes hu hi hz0 hz1 hz2 hzs E.pos v l.length (E.flat l) hs hown ad m.length c (E.flat m) hx (E.flat_length m) ?_ (E.flat_one m) (by unfold maxLen; omega) (Nat.le_trans (Nat.mul_le_mul hlen hby) (by decide)) hB ?_
    · intro j u hj
      obtain ⟨b, o, e, c1⟩ := hget j u hj
      obtain rfl := Option.some.inj e
      rw [addr_add, c1]
    · intro v' w' hown' hgr _
      refine h v' w' ?_ ((Below.refl B w).grown hgr hB hB') hgr
      unfold VecOwn
      rw [E.flat_append, List.length_append]
      exact hown'

/-! ## The sort -/
theorem flatK_flat (l : List α) (t : Nat) (h : t < l.length * E.k) : (E.flat l)[t]? = some (flatK E.f E.k l.toArray)[t]! := by
  have hk := E.pos
  have h1 : t / E.k < l.length := Nat.div_lt_of_lt_mul (by rwa [Nat.mul_comm] at h)
  have h2 : t % E.k < E.k := Nat.mod_lt _ hk
  have h3 : t = t / E.k * E.k + t % E.k := by rw [Nat.mul_comm]; exact (Nat.div_add_mod t E.k).symm
  rw [get_flatK _ _ _ _ (by simpa using h)]
  conv => lhs; rw [h3]
  rw [E.flat_get l _ _ h1 h2]
  have h4 : l.toArray[t / E.k]! = l.getD (t / E.k) default := by simp [h1]
  rw [h4]
  have h5 : t % E.k < (E.f (l.getD (t / E.k) default)).length := by rw [E.len]; exact h2
  rw [List.getElem?_eq_getElem h5, List.getElem!_eq_getElem?_getD, List.getElem?_eq_getElem h5]
  rfl
theorem sort_vec {P : Program} {ρ : Ren} (L : SlLaysF0.n6 P ρ) (aE : ∀ w, (isAgg (ρ.t 24)).run P w = .ok true w) (zE : ∀ w, (Go.sizeOf (ρ.t 24)).run P w = .ok E.k w) (cf : α → α → Int) (hO : SWO (ltOf cf)) (g : Nat)
    (eg : ∀ args w, (callFunc g args).run P w = .ok (.enter g args) w)
    (hcmp : ∀ x y W, Calls P g #[.agg (E.f x).toArray, .agg (E.f y).toArray] W fun e w' => e = .returned (.int .i64 (cf x y)) ∧ Ext W w' ∧ W.drawn ≤ w'.drawn)
    (T : TypeId) (w : World) (B : Nat) (v : Value) (l : List α) (h : VecOwn E T w B v l) (hl : l.length ≤ 1000000) (hB : B ≤ w.heap.size) :
    Calls P (ρ.f 6) #[v, .func (.func g) #[] #[]] w fun e w' => e = .returned (.tuple #[]) ∧ ∃ l', l'.Perm l ∧ l'.Pairwise (fun a b => ltOf cf b a = false) ∧ VecOwn E T w' B v l' ∧ Below B w w' ∧ (∀ k, k < w.heap.size → v.ownBlock ≠ some k → w'.heap[k]? = w.heap[k]?) := by
  obtain ⟨h1, ⟨rfl, h0⟩ | ⟨b, cap, cur, rfl, hb, hh, hn, hc, hs, ht⟩⟩ := h
  · have : l = [] := List.eq_nil_of_length_eq_zero h0
    subst this
    refine (AnyF.slices_SortFunc_none L none 0 _ w).mono ?_
    rintro e w' ⟨rfl, rfl⟩
    exact ⟨rfl, [], List.Perm.refl _, List.Pairwise.nil, ⟨h1, .inl ⟨rfl, rfl⟩⟩, Below.refl _ _, fun _ _ _ => rfl⟩
  · have hbl : b < w.heap.size := by
      rcases Nat.lt_or_ge b w.heap.size with h' | h'
      · exact h'
      · simp [Array.getElem?_eq_none h'] at hh
    have hH : HoldsK E.f E.k w b 0 l.toArray := by
      intro j hj
      have hj' : j < l.length * E.k := by simpa using hj
      refine ⟨?_, by simp [World.frozen?, hh]⟩
      have h2 := flatK_flat E l j hj'
      rw [← ht, List.getElem?_take_of_lt hj'] at h2
      simp only [World.cell?, hh, Option.isSome_none, Bool.false_eq_true, if_false, Nat.zero_add]
      rw [← Array.getElem?_toList]; exact h2
    have hC : CmpLays P g #[] E.f E.k cf b 0 l.toArray.size w := fun m os dk _ x y => (hcmp x y _).mono fun e w' ⟨h1, h2, h3⟩ => ⟨h1, h2.grew h3⟩
    refine (AnyQ.slices_SortFunc L E.k aE zE E.f E.len E.one cf hO g #[] b 0 cap l.toArray w eg hC hH hbl (by simp; omega)).mono ?_
    rintro e w' ⟨rfl, d', n, os, ⟨hsz, -, hperm⟩, hsort, rfl⟩
    have hsz' : d'.size = l.length := by simpa using hsz
    have hH' := holdsK_sortWorldK_c (enc := E.f) (k := E.k) (w := w) (blk := b) (off := 0) l.toArray d' n os hH hbl hsz
    have hother : ∀ k, k < w.heap.size → k ≠ b → (sortWorldK E.f E.k w b 0 n d' os).heap[k]? = w.heap[k]? := by
      intro k hk hkb
      simp only [sortWorldK, Sort.grow, putRowK, Sort.putRow, Sort.mapBlock, Sort.ahead]
      rw [Array.getElem?_append_left (by simpa using hk), Array.getElem?_modify, if_neg (by omega)]
    have hh' : (sortWorldK E.f E.k w b 0 n d' os).heap[b]? = some (.cells (Sort.putCells id 0 (flatK E.f E.k d') cur) T (0, 0)) := by
      simp only [sortWorldK, Sort.grow, putRowK, Sort.putRow, Sort.mapBlock, Sort.ahead]
      rw [Array.getElem?_append_left (by simpa using hbl), Array.getElem?_modify, if_pos rfl, hh]
      rfl
    refine ⟨rfl, d'.toList, ?_, ?_, ⟨?_, .inr ⟨b, cap, Sort.putCells id 0 (flatK E.f E.k d') cur, ?_, hb, hh', ?_, hc, ?_, ?_⟩⟩, ?_, ?_⟩
    · have hp : (List.take l.length d'.toList).Perm l := by simpa [hsz'] using hperm
      rwa [List.take_of_length_le (by simp [hsz'])] at hp
    · rw [List.pairwise_iff_getElem]
      intro i j hi hj hij
      have := hsort i j (Nat.zero_le _) hij (by simpa [hsz'] using hj)
      simpa [getElem!_pos, show i < d'.size by simpa using hi, show j < d'.size by simpa using hj] using this
    · rw [E.flat_length]
    · simp [hsz']
    · simpa [hsz'] using hn
    · simp [Sort.putCells, hs]
    · have hsl : d'.toList.length = l.length := by simpa using hsz'
      apply List.ext_getElem?
      intro t
      rw [hsl]
      by_cases hlt : t < l.length * E.k
      · rw [List.getElem?_take_of_lt hlt, flatK_flat E d'.toList t (by rw [hsl]; exact hlt)]
        have h2 := (hH' t (by simpa [hsz'] using hlt)).1
        simp only [World.cell?, hh', Option.isSome_none, Bool.false_eq_true, if_false, Nat.zero_add] at h2
        rw [Array.getElem?_toList, h2]
        simp
      · rw [List.getElem?_eq_none (by simp; omega), List.getElem?_eq_none (by rw [E.flat_length, hsl]; omega)]
    · refine ⟨rfl, rfl, rfl, ?_, fun k hk => hother k (by omega) (by omega)⟩
      exact size_sortWorldK_c (enc := E.f) (k := E.k) (w := w) (blk := b) (off := 0) n d' os
    · intro k hk hkb
      exact hother k hk (fun e => hkb (by rw [e]; rfl))
end
end Go.Proofs.Ythgnkbkfkcdhfaa
