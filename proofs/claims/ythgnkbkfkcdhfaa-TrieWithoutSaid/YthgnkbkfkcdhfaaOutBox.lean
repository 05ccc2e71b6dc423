/- A slice of items in a box, that grows: what a call may turn. append in a round. -/
import Derived.Test.YthgnkbkfkcdhfaaRounds
import Derived.Maps.AppendAt
import Derived.Maps.OwnIn
import Derived.Laws.OwnMore
namespace Go.Proofs.Ythgnkbkfkcdhfaa
open Go.RowKit
set_option maxHeartbeats 400000

/-- the new slice lies where the old one lay, or in a new block -/
def NewOwn (v v' : Value) (w : World) : Prop := v'.ownBlock = v.ownBlock ∨ ∀ k, v'.ownBlock = some k → w.heap.size ≤ k
/-- all that was there is as it was, but block bo and v's own row -/
structure GrownX (bo : Nat) (v : Value) (w w' : World) : Prop where
  os : w'.os = w.os
  tape : w'.tape = w.tape
  output : w'.output = w.output
  size : w.heap.size ≤ w'.heap.size
  block : ∀ k, k < w.heap.size → k ≠ bo → v.ownBlock ≠ some k → w'.heap[k]? = w.heap[k]?
theorem GrownX.refl (bo : Nat) (v : Value) (w : World) : GrownX bo v w w := ⟨rfl, rfl, rfl, Nat.le_refl _, fun _ _ _ _ => rfl⟩
theorem GrownX.trans {bo : Nat} {v v' : Value} {a b c : World} (h : GrownX bo v a b) (k : GrownX bo v' b c) (hn : NewOwn v v' a) : GrownX bo v a c :=
  ⟨k.os.trans h.os, k.tape.trans h.tape, k.output.trans h.output, Nat.le_trans h.size k.size, fun i hi ho hv => by
    rw [k.block i (Nat.lt_of_lt_of_le hi h.size) ho ?_, h.block i hi ho hv]
    intro e
    rcases hn with hn | hn
    · rw [hn] at e; exact hv e
    · have := hn i e; omega⟩
theorem NewOwn.refl (v : Value) (w : World) : NewOwn v v w := .inl rfl
theorem NewOwn.trans {v v' v'' : Value} {a b : World} (h : NewOwn v v' a) (k : NewOwn v' v'' b) (hs : a.heap.size ≤ b.heap.size) : NewOwn v v'' a := by
  rcases k with k | k
  · rcases h with h | h
    · exact .inl (k.trans h)
    · exact .inr fun i hi => h i (by rw [← k]; exact hi)
  · exact .inr fun i hi => Nat.le_trans hs (k i hi)
theorem Ext.grownX {w w' : World} (h : Ext w w') (bo : Nat) (v : Value) : GrownX bo v w w' := ⟨Below.os h, Below.tape h, Below.output h, Below.size h, fun k hk _ _ => Below.block h k hk⟩
/-- the box bo holds v, a slice of the call's own from block B on, that holds l -/
structure OutIs (bo B : Nat) (w : World) (v : Value) (l : List Item) : Prop where
  c : w.cell? ⟨bo, 0, none⟩ = some v
  f : w.frozen? ⟨bo, 0, none⟩ = false
  own : ItemsOwn w B v l
theorem OutIs.lt {bo B : Nat} {w : World} {v : Value} {l : List Item} (h : OutIs bo B w v l) : bo < w.heap.size := World.block_lt_of_cell? _ _ h.c
theorem OutIs.ext {bo B : Nat} {w w' : World} {v : Value} {l : List Item} (h : OutIs bo B w v l) (he : Ext w w') : OutIs bo B w' v l := ⟨he.cell h.c, he.free bo 0 h.lt h.f, h.own.ext he⟩
theorem OutIs.own_lt {bo B : Nat} {w : World} {v : Value} {l : List Item} (h : OutIs bo B w v l) (k : Nat) (hk : v.ownBlock = some k) : B ≤ k ∧ k < w.heap.size := h.own.lt k hk
theorem OutIs.slice {bo B : Nat} {w : World} {v : Value} {l : List Item} (h : OutIs bo B w v l) : ∃ io ic, v = .slice io l.length ic := by
  obtain ⟨io, ic, e, -⟩ := h.own.items; exact ⟨io, ic, e⟩
theorem OutIs.kept {bo B : Nat} {w w' : World} {v : Value} {l : List Item} (h : OutIs bo B w v l) {row : Option Nat} (hg : w.grownBy w' row) (hr : ∀ r, row = some r → ∃ o : Obj, w.heap[r]? = some o ∧ o.isCells = false) : OutIs bo B w' v l := by
  refine ⟨cell_kept h.c hg hr, (frozen_kept h.c hg hr).trans h.f, ?_⟩
  refine World.ownsRow.kept h.own hg ?_
  rcases hv : v.ownBlock with _ | k
  · exact .inl rfl
  · refine .inr fun e => ?_
    obtain ⟨o, ho, hc⟩ := hr k e.symm
    obtain ⟨-, ⟨rfl, -⟩ | ⟨g, cap, cur, rfl, -, hh, -⟩⟩ := h.own
    · simp [Value.ownBlock] at hv
    · simp only [Value.ownBlock, Option.some.injEq] at hv
      subst hv
      rw [hh] at ho
      cases ho
      cases hc
/-- how a call leaves the box -/
def Out1 (bo B : Nat) (w : World) (v : Value) (l' : List Item) (w' : World) : Prop := ∃ v', OutIs bo B w' v' l' ∧ GrownX bo v w w' ∧ NewOwn v v' w
theorem Out1.pre {bo B : Nat} {w w1 w' : World} {v : Value} {l' : List Item} (he : Ext w w1) (h : Out1 bo B w1 v l' w') : Out1 bo B w v l' w' := by
  obtain ⟨v', h1, h2, h3⟩ := h
  exact ⟨v', h1, (he.grownX bo v).trans h2 (.refl v w), h3.imp id fun h k hk => Nat.le_trans he.size (h k hk)⟩
theorem Out1.post {bo B : Nat} {w w1 w' : World} {v : Value} {l' : List Item} (h : Out1 bo B w v l' w1) (he : Ext w1 w') : Out1 bo B w v l' w' := by
  obtain ⟨v', h1, h2, h3⟩ := h
  exact ⟨v', h1.ext he, h2.trans (he.grownX bo v') h3, h3⟩
theorem OutIs.out1 {bo B : Nat} {w : World} {v : Value} {l : List Item} (h : OutIs bo B w v l) : Out1 bo B w v l w := ⟨v, h, GrownX.refl _ _ _, .refl _ _⟩
theorem run_append_items (w : World) (ty : TypeId) (B : Nat) (v : Value) (l : List Item) (hown : ItemsOwn w B v l) (y : Value) (m : List Item) (hy : ItemsAt w y m) (hlen : l.length + m.length ≤ 100000000000) (hB : B ≤ w.heap.size) :
    ∃ v' w', (Builtin.append_ #[22, 22] ty #[v, y]).run Try.prog w = .ok v' w' ∧ ItemsOwn w' B v' (l ++ m) ∧ w.grownBy w' v.ownBlock ∧ NewOwn v v' w := by
  obtain ⟨i, hi, hz0, hz1, hz2⟩ := info_parts infoItem
  obtain ⟨ao, c, rfl, hmc, hcc, hnil, hget⟩ := hy
  cases ao with
  | none =>
    obtain rfl := hnil rfl
    have : m = [] := List.eq_nil_of_length_eq_zero (by omega)
    subst this
    exact ⟨v, w, run_append_owned_none w B 22 ty 42 i 2 Try.underlying22 hi v l.length (itemCells l) hown, by rw [List.append_nil]; exact hown, World.grownBy.refl _ _, .refl _ _⟩
  | some ad =>
    obtain ⟨v', w', h1, h2, h3, -, h5⟩ := run_append_own_at (P := Try.prog) w B 22 ty 42 i _ 2 24 Try.underlying22 hi hz0 hz1 hz2 rfl (by decide) v l.length (itemCells l) hown ad m.length c (itemCells m) (itemCells_length m) (by
      intro j u hj
      have hlt : j < m.length * 2 := by
        rw [← itemCells_length]
        exact (List.getElem?_eq_some_iff.1 hj).1
      obtain ⟨q, hq⟩ : ∃ q, j = q * 2 ∨ j = q * 2 + 1 := ⟨j / 2, by omega⟩
      obtain ⟨b, o, e, c1, c2⟩ := hget q (by omega)
      obtain rfl := Option.some.inj e
      have hg := itemCells_get m q (by omega)
      rcases hq with rfl | rfl
      · rw [hg.1] at hj
        obtain rfl := Option.some.inj hj
        rw [addr_add, c1]
      · rw [hg.2] at hj
        obtain rfl := Option.some.inj hj
        rw [addr_add, ← Nat.add_assoc, c2]) (itemCells_one m) (by unfold maxLen; omega) (by omega) hB
    refine ⟨v', w', h1, ?_, h3, ?_⟩
    · unfold ItemsOwn
      rw [itemCells_append, List.length_append]
      exact h2
    · rcases h5 with h5 | h5
      · exact .inl h5
      · exact .inr fun k hk => by rw [h5] at hk; cases hk; exact Nat.le_refl _
theorem OutIs.stored {bo B : Nat} {w w1 : World} {v v1 : Value} {l l1 : List Item} (h : OutIs bo B w v l) (hb : bo < B) (hown : ItemsOwn w1 B v1 l1) (hg : w.grownBy w1 v.ownBlock) (hn : NewOwn v v1 w) : Out1 bo B w v l1 (w1.setCell ⟨bo, 0, none⟩ v1) := by
  have hne : v.ownBlock ≠ some bo := fun e => by have := (h.own_lt bo e).1; omega
  have hbl := hg.block bo h.lt (fun e => hne e.symm)
  have hc1 : w1.cell? ⟨bo, 0, none⟩ = some v := by rw [World.cell?_of_block (show w1.heap[(⟨bo, 0, none⟩ : Addr).block]? = w.heap[(⟨bo, 0, none⟩ : Addr).block]? from hbl)]; exact h.c
  refine ⟨v1, ⟨World.cell?_setCell_same' _ _ _ (by rw [hc1]; rfl), ?_, hown.setCell hb v1⟩, ⟨?_, ?_, ?_, ?_, ?_⟩, hn⟩
  · rw [World.frozen?_setCell, World.frozen?_of_block (show w1.heap[(⟨bo, 0, none⟩ : Addr).block]? = w.heap[(⟨bo, 0, none⟩ : Addr).block]? from hbl)]; exact h.f
  · exact hg.os
  · exact hg.tape
  · exact hg.output
  · simp only [World.size_setCell]; exact hg.size
  · intro k hk hko hkv
    have h1 := Below.block ((Below.refl (bo) w1).setCell (p := ⟨bo, 0, none⟩) (Nat.le_refl _) v1)
    have h2 : (w1.setCell ⟨bo, 0, none⟩ v1).heap[k]? = w1.heap[k]? := by
      show (w1.heap.modify bo _)[k]? = w1.heap[k]?
      rw [Array.getElem?_modify, if_neg (by omega)]
    rw [h2, hg.block k hk (fun e => hkv e.symm)]
theorem OutIs.after {bo B : Nat} {w w1 : World} {v : Value} {l : List Item} (h : OutIs bo B w v l) (hb : bo < B) (hg : w.grownBy w1 v.ownBlock) : w1.cell? ⟨bo, 0, none⟩ = some v ∧ w1.frozen? ⟨bo, 0, none⟩ = false := by
  have hne : v.ownBlock ≠ some bo := fun e => by have := (h.own_lt bo e).1; omega
  have hbl := hg.block bo h.lt (fun e => hne e.symm)
  rw [World.cell?_of_block (show w1.heap[(⟨bo, 0, none⟩ : Addr).block]? = w.heap[(⟨bo, 0, none⟩ : Addr).block]? from hbl), World.frozen?_of_block (show w1.heap[(⟨bo, 0, none⟩ : Addr).block]? = w.heap[(⟨bo, 0, none⟩ : Addr).block]? from hbl)]
  exact ⟨h.c, h.f⟩
theorem ItemsOwn.slice {w : World} {B : Nat} {v : Value} {l : List Item} (h : ItemsOwn w B v l) : ∃ io ic, v = .slice io l.length ic := by
  obtain ⟨io, ic, e, -⟩ := h.items; exact ⟨io, ic, e⟩
theorem wpIn_append_items {F : Fence} {n : Nat} {ops : Array Oper} {rest : List Oper} {dst : Option Tmp} {s x : Operand} {ty : TypeId} {pos : String} {after : Array Edge} {a : Act} {Q : Exit → Act → World → Prop} {w : World}
    (B : Nat) (v : Value) (l : List Item) (hs : a.eval s = v) (hown : ItemsOwn w B v l) (y : Value) (m : List Item) (hx : a.eval x = y) (hy : ItemsAt w y m) (hlen : l.length + m.length ≤ 100000000000) (hB : B ≤ w.heap.size)
    (h : ∀ v' w', ItemsOwn w' B v' (l ++ m) → w.grownBy w' v.ownBlock → NewOwn v v' w → wpListIn F n Try.prog ops Q rest (a.put dst v') w') :
    wpListIn F n Try.prog ops Q (⟨dst, .call { callee := .builtin .append, args := #[s, x], argTypes := #[22, 22] }, ty, pos, after, none⟩ :: rest) a w := by
  refine wpListIn_plain rfl fun K hK => ?_
  obtain ⟨v', w', hr, h2, h3, h4⟩ := run_append_items w ty B v l hown y m hy hlen hB
  unfold Oper.wpIn
  refine ⟨by simp [Oper.about, resolve, Target.leads, Sem.run_pure], ?_⟩
  rw [Oper.semAt_plain F _ _ (by intro c hc'; cases hc')]
  simp [execOp, resolve, invoke, builtin, hs, hx, hr, Result.andThen]
  exact hK _ _ (h v' w' h2 h3 h4)
/-- .. as a step of a region that draws its order -/
theorem step_append_items {ops : Array Oper} {o : Oper} {a : Act} {w : World} {K : Act → World → Prop} {Q : Exit → Act → World → Prop} {G : Prop} (hg : o.guard = none) (s x : Operand) (hop : o.op = .call { callee := .builtin .append, args := #[s, x], argTypes := #[22, 22] })
    (B : Nat) (v : Value) (l : List Item) (hs : a.eval s = v) (hown : ItemsOwn w B v l) (y : Value) (m : List Item) (hx : a.eval x = y) (hy : ItemsAt w y m) (hlen : l.length + m.length ≤ 100000000000) (hB : B ≤ w.heap.size)
    (hK : ∀ v' w', ItemsOwn w' B v' (l ++ m) → w.grownBy w' v.ownBlock → NewOwn v v' w → K (a.put o.dst v') w') :
    if Region.wanted o (yielded ops a.tmps) = true then Oper.wp Try.prog o a w K Q else G := by
  rw [if_pos (by simp [Region.wanted, hg])]
  obtain ⟨v', w', hr, h2, h3, h4⟩ := run_append_items w o.type B v l hown y m hy hlen hB
  unfold Oper.wp execOp
  simp [hop, resolve, invoke, builtin, hs, hx, hr, Result.andThen]
  exact hK _ _ h2 h3 h4
theorem Out1.size {bo B : Nat} {w W : World} {v : Value} {l' : List Item} (h : Out1 bo B w v l' W) : w.heap.size ≤ W.heap.size := by
  obtain ⟨v', -, h2, -⟩ := h
  exact h2.size
theorem Out1.kept {bo B : Nat} {w W W' : World} {v : Value} {l' : List Item} (h : Out1 bo B w v l' W) {row : Option Nat} (hg : W.grownBy W' row) (hr : ∀ r, row = some r → w.heap.size ≤ r ∧ ∃ o : Obj, W.heap[r]? = some o ∧ o.isCells = false) : Out1 bo B w v l' W' := by
  obtain ⟨v', h1, h2, h3⟩ := h
  refine ⟨v', h1.kept hg fun r e => (hr r e).2, ⟨hg.os.trans h2.os, hg.tape.trans h2.tape, hg.output.trans h2.output, Nat.le_trans h2.size hg.size, fun k hk ho hv => ?_⟩, h3⟩
  rw [hg.block k (Nat.lt_of_lt_of_le hk h2.size) (fun e => by have := (hr k e.symm).1; omega)]
  exact h2.block k hk ho hv
theorem OutIs.cells {bo B : Nat} {w : World} {v : Value} {l : List Item} (h : OutIs bo B w v l) (k : Nat) (hk : k = bo ∨ v.ownBlock = some k) : ∃ o : Obj, w.heap[k]? = some o ∧ o.isCells = true := by
  rcases hk with rfl | hk
  · exact cells_of_cell h.c
  · obtain ⟨-, ⟨rfl, -⟩ | ⟨g, cap, cur, rfl, -, hh, -⟩⟩ := h.own
    · simp [Value.ownBlock] at hk
    · simp only [Value.ownBlock, Option.some.injEq] at hk
      subst hk
      exact ⟨_, hh, rfl⟩
theorem GrownX.keeps {bo B : Nat} {w w' : World} {v : Value} {l : List Item} (h : GrownX bo v w w') (ho : OutIs bo B w v l) : KeepsOthers w w' :=
  ⟨h.size, fun k o hk hc => by
    have hlt := (Array.getElem?_eq_some_iff.1 hk).1
    rw [h.block k hlt ?_ ?_]
    · exact hk
    · intro e
      obtain ⟨o', h1, h2⟩ := ho.cells k (.inl e)
      rw [h1] at hk; cases hk; rw [h2] at hc; cases hc
    · intro e
      obtain ⟨o', h1, h2⟩ := ho.cells k (.inr e)
      rw [h1] at hk; cases hk; rw [h2] at hc; cases hc⟩
theorem GrownX.same {bo : Nat} {v : Value} {w w' : World} (h : GrownX bo v w w') {b o : Nat} {u : Value} (hc : w.cell? ⟨b, o, none⟩ = some u) (hb : b ≠ bo) (hv : v.ownBlock ≠ some b) : w'.cell? ⟨b, o, none⟩ = some u := by
  have hlt : b < w.heap.size := World.block_lt_of_cell? _ _ hc
  rw [World.cell?_of_block (show w'.heap[(⟨b, o, none⟩ : Addr).block]? = w.heap[(⟨b, o, none⟩ : Addr).block]? from h.block b hlt hb hv)]; exact hc
theorem GrownX.below {bo N : Nat} {v : Value} {w w' : World} (h : GrownX bo v w w') (hb : N ≤ bo) (hv : ∀ k, v.ownBlock = some k → N ≤ k) (hN : N ≤ w.heap.size) : Below N w w' :=
  ⟨h.os, h.tape, h.output, h.size, fun k hk => h.block k (by omega) (by omega) (fun e => by have := hv k e; omega)⟩
theorem OutIs.ne {bo B Bx : Nat} {w : World} {v : Value} {l : List Item} (h : OutIs bo B w v l) {c : Array Value} (hx : w.heap[Bx]? = some (.cells c 36)) : v.ownBlock ≠ some Bx := by
  intro e
  obtain ⟨-, ⟨rfl, -⟩ | ⟨g, cap, cur, rfl, -, hh, -⟩⟩ := h.own
  · simp [Value.ownBlock] at e
  · simp only [Value.ownBlock, Option.some.injEq] at e
    subst e
    rw [hh] at hx
    simp at hx
theorem Out1.trans {bo B : Nat} {w W w' : World} {v v' : Value} {l' : List Item} (h1 : GrownX bo v w W) (h2 : NewOwn v v' w) (h : Out1 bo B W v' l' w') : Out1 bo B w v l' w' := by
  obtain ⟨v'', k1, k2, k3⟩ := h
  exact ⟨v'', k1, h1.trans k2 h2, h2.trans k3 h1.size⟩
end Go.Proofs.Ythgnkbkfkcdhfaa
