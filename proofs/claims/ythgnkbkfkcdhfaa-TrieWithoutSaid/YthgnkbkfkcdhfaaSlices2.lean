/- slices.Clone, slices.CompactFunc, and two that are only gone through. -/
import Derived.Test.YthgnkbkfkcdhfaaSlices
import Derived.Laws.AppendOwnNone
namespace Go.Proofs.Ythgnkbkfkcdhfaa
open Go.RowKit
set_option maxHeartbeats 400000

/-! ## A slice of items of the call's own -/
def itemCells : List Item → List Value
  | [] => []
  | x :: l => .int .u64 x.key :: .string x.val :: itemCells l
theorem itemCells_length (l : List Item) : (itemCells l).length = l.length * 2 := by
  induction l with
  | nil => rfl
  | cons x l ih => simp [itemCells, ih]; omega
theorem itemCells_append (a b : List Item) : itemCells (a ++ b) = itemCells a ++ itemCells b := by
  induction a with
  | nil => rfl
  | cons x l ih => simp [itemCells, ih]
theorem itemCells_get (l : List Item) (i : Nat) (h : i < l.length) : (itemCells l)[i * 2]? = some (.int .u64 (l.getD i default).key) ∧ (itemCells l)[i * 2 + 1]? = some (.string (l.getD i default).val) := by
  induction l generalizing i with
  | nil => exact absurd h (Nat.not_lt_zero i)
  | cons x l ih =>
    cases i with
    | zero => exact ⟨rfl, rfl⟩
    | succ i =>
      have := ih i (by simpa using h)
      rw [show (i + 1) * 2 = i * 2 + 1 + 1 by omega]
      exact this
theorem itemCells_one (l : List Item) : ∀ u ∈ itemCells l, u.oneCell' = true := by
  induction l with
  | nil => intro u hu; cases hu
  | cons x l ih =>
    intro u hu
    simp only [itemCells, List.mem_cons] at hu
    rcases hu with rfl | rfl | hu
    · rfl
    · rfl
    · exact ih u hu
theorem infoItem : (Try.prog.info? 42).map (fun i => (i.zero, i.size, i.bytes)) = some (some (.agg #[.int .u64 0, .string ⟨#[]⟩]), 2, 24) := by kernel_rfl
/-- v is a slice of the call's own, from block B on, and holds l -/
def ItemsOwn (w : World) (B : Nat) (v : Value) (l : List Item) : Prop := w.ownsRow B 42 2 v l.length (itemCells l)
theorem ItemsOwn.nil (w : World) (B : Nat) : ItemsOwn w B (.slice none 0 0) [] := ⟨rfl, .inl ⟨rfl, rfl⟩⟩
theorem ItemsOwn.items {w : World} {B : Nat} {v : Value} {l : List Item} (h : ItemsOwn w B v l) : ItemsAt w v l := by
  obtain ⟨-, h | ⟨g, cap, cur, rfl, hg, hh, hn, hc, hs, ht⟩⟩ := h
  · obtain ⟨rfl, h0⟩ := h
    have : l = [] := List.eq_nil_of_length_eq_zero h0
    subst this
    exact ItemsAt.nil w
  · refine ⟨some ⟨g, 0, none⟩, cap, rfl, hn, by unfold maxLen at hc; omega, (fun e => by cases e), fun i hi => ⟨g, 0, rfl, ?_, ?_⟩⟩
    · have h1 := (itemCells_get l i hi).1
      rw [← ht, List.getElem?_take_of_lt (by omega)] at h1
      simp only [World.cell?, hh, Option.isSome_none, Bool.false_eq_true, if_false, Nat.zero_add]
      rw [← Array.getElem?_toList]; exact h1
    · have h1 := (itemCells_get l i hi).2
      rw [← ht, List.getElem?_take_of_lt (by omega)] at h1
      simp only [World.cell?, hh, Option.isSome_none, Bool.false_eq_true, if_false, Nat.zero_add]
      rw [← Array.getElem?_toList]; exact h1
theorem ItemsOwn.ext {w w' : World} {B : Nat} {v : Value} {l : List Item} (h : ItemsOwn w B v l) (he : Ext w w') : ItemsOwn w' B v l := by
  obtain ⟨h1, h | ⟨g, cap, cur, hv, hg, hh, r⟩⟩ := h
  · exact ⟨h1, .inl h⟩
  · refine ⟨h1, .inr ⟨g, cap, cur, hv, hg, ?_, r⟩⟩
    rw [he.block g (by rcases Nat.lt_or_ge g w.heap.size with h' | h'
                       · exact h'
                       · simp [Array.getElem?_eq_none h'] at hh)]
    exact hh

theorem addr_add (b o n : Nat) : Addr.add ⟨b, o, none⟩ n = ⟨b, o + n, none⟩ := by
  unfold Addr.add
  split
  · subst_vars; rfl
  · rfl
/-- 'append' of a slice of items onto one of the call's own -/
theorem wp_append_items {ops : Array Oper} {rest : List Oper} {dst : Option Tmp} {s x : Operand} {ty : TypeId} {pos : String} {after : Array Edge} {a : Act} {Q : Exit → Act → World → Prop} {w : World}
    (B : Nat) (v : Value) (l : List Item) (hs : a.eval s = v) (hown : ItemsOwn w B v l) (y : Value) (m : List Item) (hx : a.eval x = y) (hy : ItemsAt w y m)
    (hlen : l.length + m.length ≤ 1000000) (hB : B ≤ w.heap.size)
    (h : ∀ v' w', ItemsOwn w' B v' (l ++ m) → Below B w w' → w.grownBy w' v.ownBlock → wpList Try.prog ops Q rest (a.put dst v') w') :
    wpList Try.prog ops Q (⟨dst, .call { callee := .builtin .append, args := #[s, x], argTypes := #[22, 22] }, ty, pos, after, none⟩ :: rest) a w := by
  obtain ⟨i, hi, hz0, hz1, hz2⟩ := info_parts infoItem
  have hB' : ∀ k, v.ownBlock = some k → B ≤ k := by
    intro k hk
    obtain ⟨-, ⟨rfl, -⟩ | ⟨g, cap, cur, rfl, hg, -⟩⟩ := hown
    · simp [Value.ownBlock] at hk
    · simp [Value.ownBlock] at hk; omega
  obtain ⟨ao, c, rfl, hmc, hcc, hnil, hget⟩ := hy
  cases ao with
  | none =>
    obtain rfl := hnil rfl
    have : m = [] := by
      cases m with
      | nil => rfl
      | cons z t => obtain ⟨b, o, e, _⟩ := hget 0 (by simp); cases e
    subst this
    refine wpList_append_own_none rfl s x 22 rfl B 42 i 2 Try.underlying22 hi v l.length (itemCells l) hs hown hx ?_
    refine h v w (by rw [List.append_nil]; exact hown) (Below.refl _ _) (World.grownBy.refl _ _)
  | some ad =>
    refine wpList_append_own w rfl s x 22 rfl B 42 i _ 2 24 Try.underlying22 hi hz0 hz1 hz2 rfl (by decide) v l.length (itemCells l) hs hown ad m.length c (itemCells m) hx (itemCells_length m) ?_ (itemCells_one m) (by unfold maxLen; omega) (by omega) hB ?_
    · intro j u hj
      have hlt : j < m.length * 2 := by
        rw [← itemCells_length]
        exact (List.getElem?_eq_some_iff.1 hj).1
      obtain ⟨q, hq⟩ : ∃ q, j = q * 2 ∨ j = q * 2 + 1 := ⟨j / 2, by omega⟩
      obtain ⟨b, o, e, c1, c2⟩ := hget q (by omega)
      obtain rfl := Option.some.inj e
      have hg := itemCells_get m q (by omega)
      rcases hq with rfl | rfl
      · rw [hg.1] at hj
        obtain rfl := Option.some.inj hj
        rw [addr_add, c1]
      · rw [hg.2] at hj
        obtain rfl := Option.some.inj hj
        rw [addr_add, ← Nat.add_assoc, c2]
    · intro v' w' hown' hgr _
      refine h v' w' ?_ ((Below.refl B w).grown hgr hB hB') hgr
      unfold ItemsOwn
      rw [itemCells_append, List.length_append]
      exact hown'
end Go.Proofs.Ythgnkbkfkcdhfaa
