/- Slices of rows, made and sorted and written by the call. -/
import Derived.Test.YthgnkbkfkcdhfaaGrow
namespace Go.Proofs.Ythgnkbkfkcdhfaa
open Go.RowKit
open Go.Sort (SWO)
set_option maxHeartbeats 400000

structure RRow where
  lbl : Lbl
  ver : Int
  kind : Int
  ao : Option Addr
  n : Nat
  c : Nat
  nxt : Lbl
  mark : Int
deriving Inhabited
def encRow : Enc RRow := ⟨8, fun x => [.int .i64 x.lbl.len, .int .u64 x.lbl.bits, .int .u64 x.ver, .int .i64 x.kind, .slice x.ao x.n x.c, .int .i64 x.nxt.len, .int .u64 x.nxt.bits, .int .u64 x.mark], fun _ => rfl, by decide, fun x v hv => by
  simp at hv; rcases hv with rfl | rfl | rfl | rfl | rfl | rfl | rfl | rfl <;> rfl⟩
def RRow.vl (x : RRow) : Value := .agg #[.int .i64 x.lbl.len, .int .u64 x.lbl.bits, .int .u64 x.ver, .int .i64 x.kind, .slice x.ao x.n x.c, .int .i64 x.nxt.len, .int .u64 x.nxt.bits, .int .u64 x.mark]
/-- x is the row r -/
structure RowOf (w : World) (x : RRow) (r : Row) : Prop where
  lbl : x.lbl = r.lbl
  ver : x.ver = r.ver
  kind : x.kind = r.rc.kind
  nxt : x.nxt = r.rc.next
  mark : x.mark = r.rc.mark
  it : ItemsAt w (.slice x.ao x.n x.c) r.rc.items
theorem RowOf.ext {w w' : World} {x : RRow} {r : Row} (h : RowOf w x r) (he : Ext w w') : RowOf w' x r := ⟨h.lbl, h.ver, h.kind, h.nxt, h.mark, h.it.ext he⟩
inductive All2 {α β : Type} (R : α → β → Prop) : List α → List β → Prop
  | nil : All2 R [] []
  | cons {a b l m} : R a b → All2 R l m → All2 R (a :: l) (b :: m)
theorem All2.imp {α β : Type} {R S : α → β → Prop} (h : ∀ a b, R a b → S a b) {l m} : All2 R l m → All2 S l m
  | .nil => .nil
  | .cons a b => .cons (h _ _ a) (b.imp h)
theorem All2.length {α β : Type} {R : α → β → Prop} {l m} : All2 R l m → l.length = m.length
  | .nil => rfl
  | .cons _ b => by simp [b.length]
theorem All2.snoc {α β : Type} {R : α → β → Prop} {a : α} {b : β} (h : R a b) {l m} : All2 R l m → All2 R (l ++ [a]) (m ++ [b])
  | .nil => .cons h .nil
  | .cons x y => .cons x (y.snoc h)
theorem All2.get {α β : Type} [Inhabited α] [Inhabited β] {R : α → β → Prop} {l : List α} {m : List β} (h : All2 R l m) : ∀ i, i < l.length → R (l.getD i default) (m.getD i default) := by
  induction h with
  | nil => intro i hi; exact absurd hi (Nat.not_lt_zero i)
  | cons a b ih =>
    intro i hi
    cases i with
    | zero => exact a
    | succ i => exact ih i (by simpa using hi)
theorem All2.set {α β : Type} {R : α → β → Prop} {a : α} {b : β} (h : R a b) {l m} (k : All2 R l m) : ∀ i, All2 R (l.set i a) (m.set i b) := by
  induction k with
  | nil => intro i; exact .nil
  | cons x y ih =>
    intro i
    cases i with
    | zero => exact .cons h y
    | succ i => exact .cons x (ih i)
theorem All2.perm {α β : Type} {R : α → β → Prop} {l l' : List α} (hp : l.Perm l') : ∀ {m : List β}, All2 R l m → ∃ m', m.Perm m' ∧ All2 R l' m' := by
  induction hp with
  | nil => intro m h; exact ⟨m, List.Perm.refl _, h⟩
  | cons x _ ih =>
    intro m h
    cases h with
    | cons a b =>
      obtain ⟨m', h1, h2⟩ := ih b
      exact ⟨_, h1.cons _, .cons a h2⟩
  | swap x y l =>
    intro m h
    cases h with
    | cons a b =>
      cases b with
      | cons c d => exact ⟨_, List.Perm.swap _ _ _, .cons c (.cons a d)⟩
  | trans _ _ ih1 ih2 =>
    intro m h
    obtain ⟨m1, h1, h2⟩ := ih1 h
    obtain ⟨m2, h3, h4⟩ := ih2 h2
    exact ⟨m2, h1.trans h3, h4⟩
theorem infoRow : (Try.prog.info? 40).map (fun i => (i.zero, i.size, i.bytes)) = some (some (.agg #[.int .i64 0, .int .u64 0, .int .u64 0, .int .i64 0, .slice none 0 0, .int .i64 0, .int .u64 0, .int .u64 0]), encRow.k, 80) := by kernel_rfl
theorem VecAt.rows {w : World} {v : Value} {L : List RRow} {l : List Row} (h : VecAt encRow w v L) (ha : All2 (RowOf w) L l) : RowsAt w v l := by
  obtain ⟨ao, c, rfl, h1, h2, h3, h4⟩ := h
  have hl := ha.length
  refine ⟨ao, c, by rw [hl], by omega, h2, h3, fun i hi => ?_⟩
  have hi' : i < L.length := by omega
  have key : ∀ j u, j < 8 → (encRow.f (L.getD i default))[j]? = some u → ∃ b o, ao = some ⟨b, o, none⟩ ∧ w.cell? ⟨b, o + (i * 8 + j), none⟩ = some u := fun j u hj hu => h4 (i * 8 + j) u ((encRow.flat_get L i j hi' hj).trans hu)
  have hr := ha.get i hi'
  obtain ⟨x, hx⟩ : ∃ x, x = L.getD i default := ⟨_, rfl⟩
  rw [← hx] at key hr
  obtain ⟨b, o, e, k0⟩ := key 0 _ (by decide) rfl
  have key' : ∀ j u, j < 8 → (encRow.f x)[j]? = some u → w.cell? ⟨b, o + i * 8 + j, none⟩ = some u := fun j u hj hu => by
    obtain ⟨b', o', e', k⟩ := key j u hj hu
    rw [e] at e'
    cases e'
    rw [Nat.add_assoc]; exact k
  refine ⟨b, o, _, e, ?_, ?_, ?_, ?_, key' 4 _ (by decide) rfl, ?_, ?_, ?_, hr.it⟩
  · rw [← hr.lbl]; exact key' 0 _ (by decide) rfl
  · rw [← hr.lbl]; exact key' 1 _ (by decide) rfl
  · rw [← hr.ver]; exact key' 2 _ (by decide) rfl
  · rw [← hr.kind]; exact key' 3 _ (by decide) rfl
  · rw [← hr.nxt]; exact key' 5 _ (by decide) rfl
  · rw [← hr.nxt]; exact key' 6 _ (by decide) rfl
  · rw [← hr.mark]; exact key' 7 _ (by decide) rfl
theorem wp_append_row {ops : Array Oper} {rest : List Oper} {dst : Option Tmp} {s x : Operand} {ty : TypeId} {pos : String} {after : Array Edge} {a : Act} {Q : Exit → Act → World → Prop} {w : World}
    (B : Nat) (v : Value) (l : List RRow) (hs : a.eval s = v) (hown : VecOwn encRow 40 w B v l) (g : Nat) (y : RRow) (hx : a.eval x = .slice (some ⟨g, 0, none⟩) 1 1) (h0 : w.heap[g]? = some (.cells (encRow.f y).toArray 40))
    (hlen : l.length + 1 ≤ 1000000) (hB : B ≤ w.heap.size)
    (h : ∀ v' w', VecOwn encRow 40 w' B v' (l ++ [y]) → Below B w w' → w.grownBy w' v.ownBlock → wpList Try.prog ops Q rest (a.put dst v') w') :
    wpList Try.prog ops Q (⟨dst, .call { callee := .builtin .append, args := #[s, x], argTypes := #[24, 24] }, ty, pos, after, none⟩ :: rest) a w :=
  wp_append_vec encRow 40 24 _ 80 Try.underlying24 infoRow rfl (by decide) B v l hs hown _ [y] hx (VecAt.one encRow (fun j u hj => by
    simp only [World.cell?, h0, Option.isSome_none, Bool.false_eq_true, if_false]
    simpa using hj)) hlen hB h
def orderR (a b : RRow) : Int := orderI a.lbl b.lbl
theorem orderR_swo : SWO (ltOf orderR) := by
  have h := orderI_swo
  exact ⟨fun x => h.1 x.lbl, fun x y z => h.2 x.lbl y.lbl z.lbl, fun x y z => h.3 x.lbl y.lbl z.lbl⟩
theorem sortRow_c (w : World) (B : Nat) (v : Value) (l : List RRow) (h : VecOwn encRow 40 w B v l) (hl : l.length ≤ 1000000) (hB : B ≤ w.heap.size) :
    Calls Try.prog 33 #[v, .func (.func 34) #[] #[]] w fun e w' => e = .returned (.tuple #[]) ∧ ∃ l', l'.Perm l ∧ l'.Pairwise (fun a b => ltOf orderR b a = false) ∧ VecOwn encRow 40 w' B v l' ∧ Below B w w' ∧ (∀ k, k < w.heap.size → v.ownBlock ≠ some k → w'.heap[k]? = w.heap[k]?) :=
  sort_vec encRow Try.sortRow Try.isAgg40 Try.sizeOf40 orderR orderR_swo 34 (enters_of Try.func34 (by kernel_rfl) rfl) (fun x y W => build4_c x.lbl y.lbl (x.ver, x.kind, .slice x.ao x.n x.c, x.nxt.len, x.nxt.bits, x.mark) (y.ver, y.kind, .slice y.ao y.n y.c, y.nxt.len, y.nxt.bits, y.mark) W) 40 w B v l h hl hB
/-! ## Kept -/
theorem ExtM.cellN {r : Nat} {w w' : World} (h : ExtM r w w') {o : Obj} (hr : w.heap[r]? = some o) (ho : o.isCells = false) {a : Addr} {v : Value} (hc : w.cell? a = some v) : w'.cell? a = some v := by
  have hne : a.block ≠ r := by
    intro e
    rw [← e] at hr
    simp only [World.cell?, hr] at hc
    cases o with
    | cells c t f => cases ho
    | _ => simp at hc
  rw [World.cell?_of_block (h.block a.block (World.block_lt_of_cell? _ _ hc) hne)]; exact hc
theorem ItemsAt.cells {w w' : World} (hk : ∀ (a : Addr) (v : Value), w.cell? a = some v → w'.cell? a = some v) {v : Value} {l : List Item} (hi : ItemsAt w v l) : ItemsAt w' v l := by
  obtain ⟨ao, c, h1, h2, h3, h4, h5⟩ := hi
  refine ⟨ao, c, h1, h2, h3, h4, fun i hi => ?_⟩
  obtain ⟨b, o, e, c1, c2⟩ := h5 i hi
  exact ⟨b, o, e, hk _ _ c1, hk _ _ c2⟩
theorem RowOf.cells {w w' : World} (hk : ∀ (a : Addr) (v : Value), w.cell? a = some v → w'.cell? a = some v) {x : RRow} {r : Row} (h : RowOf w x r) : RowOf w' x r := ⟨h.lbl, h.ver, h.kind, h.nxt, h.mark, h.it.cells hk⟩
theorem ExtM.below_trans {r : Nat} {a b c : World} (h : ExtM r a b) (k : Below a.heap.size b c) : ExtM r a c := by
  have k1 := k.os; have k2 := k.tape; have k3 := k.output; have k4 := k.size; have k5 := k.block
  exact ⟨k1.trans h.os, k2.trans h.tape, k3.trans h.output, Nat.le_trans h.size k4, fun i hi hr => (k5 i hi).trans (h.block i hi hr)⟩
theorem VecOwn.extM {α : Type} {E : Enc α} {T : TypeId} {w w' : World} {B r : Nat} {v : Value} {l : List α} (h : VecOwn E T w B v l) (he : ExtM r w w') (hr : r < B) : VecOwn E T w' B v l := by
  obtain ⟨h1, h | ⟨g, cap, cur, hv, hg, hh, r'⟩⟩ := h
  · exact ⟨h1, .inl h⟩
  · refine ⟨h1, .inr ⟨g, cap, cur, hv, hg, ?_, r'⟩⟩
    rw [he.block g (Array.getElem?_eq_some_iff.1 hh).1 (by omega)]
    exact hh
theorem VecOwn.lt {α : Type} {E : Enc α} {T : TypeId} {w : World} {B : Nat} {v : Value} {l : List α} (h : VecOwn E T w B v l) (k : Nat) (hk : v.ownBlock = some k) : B ≤ k ∧ k < w.heap.size := by
  obtain ⟨-, ⟨rfl, -⟩ | ⟨g, cap, cur, rfl, hg, hh, -⟩⟩ := h
  · simp [Value.ownBlock] at hk
  · simp only [Value.ownBlock, Option.some.injEq] at hk
    subst hk
    exact ⟨hg, (Array.getElem?_eq_some_iff.1 hh).1⟩
theorem VecOwn.slice {α : Type} {E : Enc α} {T : TypeId} {w : World} {B : Nat} {v : Value} {l : List α} (h : VecOwn E T w B v l) : v = .slice none 0 0 ∧ l = [] ∨ ∃ g c, v = .slice (some ⟨g, 0, none⟩) l.length c ∧ l.length ≤ c ∧ c ≤ 9223372036854775807 := by
  obtain ⟨-, ⟨rfl, h0⟩ | ⟨g, cap, cur, rfl, hg, hh, hn, hc, -⟩⟩ := h
  · exact .inl ⟨rfl, List.eq_nil_of_length_eq_zero h0⟩
  · exact .inr ⟨g, cap, rfl, hn, by unfold maxLen at hc; omega⟩
/-! ## A store into an element -/
theorem Enc.flat_set {α : Type} [Inhabited α] (E : Enc α) (l : List α) (i j : Nat) (h : i < l.length) (hj : j < E.k) (y : α) (v : Value) (hy : E.f y = (E.f (l.getD i default)).set j v) : (E.flat l).set (i * E.k + j) v = E.flat (l.set i y) := by
  unfold Enc.flat
  induction l generalizing i with
  | nil => exact absurd h (Nat.not_lt_zero i)
  | cons x l ih =>
    rw [List.flatMap_cons]
    cases i with
    | zero =>
      rw [Nat.zero_mul, Nat.zero_add, List.set_append, if_pos (by rw [E.len]; exact hj), List.set_cons_zero, List.flatMap_cons, hy]
      rfl
    | succ i =>
      rw [List.set_append, if_neg (by rw [E.len, Nat.add_mul]; omega), List.set_cons_succ, List.flatMap_cons, E.len, show (i + 1) * E.k + j - E.k = i * E.k + j by rw [Nat.add_mul]; omega]
      congr 1
      exact ih i (by simpa using h) hy
theorem VecOwn.set {α : Type} [Inhabited α] {E : Enc α} {T : TypeId} {w : World} {B g n c : Nat} {l : List α} (h : VecOwn E T w B (.slice (some ⟨g, 0, none⟩) n c) l) (i j : Nat) (hi : i < l.length) (hj : j < E.k) (y : α) (v : Value) (hy : E.f y = (E.f (l.getD i default)).set j v) :
    VecOwn E T (w.setCell ⟨g, i * E.k + j, none⟩ v) B (.slice (some ⟨g, 0, none⟩) n c) (l.set i y) := by
  obtain ⟨h1, h | ⟨g', cap, cur, hv, hg, hh, hn, hc, hs, ht⟩⟩ := h
  · simp at h
  · simp only [Value.slice.injEq, Option.some.injEq, Addr.mk.injEq] at hv
    obtain ⟨⟨rfl, -, -⟩, rfl, rfl⟩ := hv
    have hlt := (Array.getElem?_eq_some_iff.1 hh).1
    refine ⟨by rw [E.flat_length], .inr ⟨g, c, cur.setIfInBounds (i * E.k + j) v, by simp, hg, ?_, by simpa using hn, hc, by simpa using hs, ?_⟩⟩
    · have hh' : w.heap[g] = .cells cur T (0, 0) := by rw [Array.getElem?_eq_getElem hlt] at hh; exact Option.some.inj hh
      simp [World.setCell, Array.getElem?_modify, hh]
    · rw [List.length_set, ← E.flat_set l i j hi hj y v hy, ← ht]
      simp [List.take_set]
theorem VecOwn.cell {α : Type} [Inhabited α] {E : Enc α} {T : TypeId} {w : World} {B g n c : Nat} {l : List α} (h : VecOwn E T w B (.slice (some ⟨g, 0, none⟩) n c) l) (i j : Nat) (hi : i < l.length) (hj : j < E.k) (u : Value) (hu : (E.f (l.getD i default))[j]? = some u) :
    w.cell? ⟨g, i * E.k + j, none⟩ = some u ∧ w.frozen? ⟨g, i * E.k + j, none⟩ = false := by
  obtain ⟨h1, h | ⟨g', cap, cur, hv, hg, hh, hn, hc, hs, ht⟩⟩ := h
  · simp at h
  · simp only [Value.slice.injEq, Option.some.injEq, Addr.mk.injEq] at hv
    obtain ⟨⟨rfl, -, -⟩, rfl, rfl⟩ := hv
    have hk : i * E.k + j < l.length * E.k := by
      have : (i + 1) * E.k ≤ l.length * E.k := Nat.mul_le_mul_right _ hi
      rw [Nat.add_mul] at this; omega
    have h2 := E.flat_get l i j hi hj
    rw [hu, ← ht, List.getElem?_take_of_lt hk, Array.getElem?_toList] at h2
    refine ⟨?_, by simp [World.frozen?, hh]⟩
    simp only [World.cell?, hh, Option.isSome_none, Bool.false_eq_true, if_false]
    exact h2
end Go.Proofs.Ythgnkbkfkcdhfaa
