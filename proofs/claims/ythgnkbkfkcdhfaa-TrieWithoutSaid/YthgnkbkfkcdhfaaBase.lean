/- How the data lie in memory, and what the walks share. -/
import Derived.Test.YthgnkbkfkcdhfaaRows
import Derived.Test.YthgnkbkfkcdhfaaPlain
import Derived.WalkSpells
import Derived.WalkLawsBesides
import Derived.Deep.QuietTactic
import Derived.BigQuiet
import Derived.Lib.Hide
import Derived.Deep.RegionHeld3
namespace Go.Proofs.Ythgnkbkfkcdhfaa
open Go.RowKit

theorem below_cells {W w1 : World} (hb : Below W.heap.size W w1) : (∀ b o, b < W.heap.size → w1.cell? ⟨b, o, none⟩ = W.cell? ⟨b, o, none⟩) ∧ (∀ b o, b < W.heap.size → w1.frozen? ⟨b, o, none⟩ = W.frozen? ⟨b, o, none⟩) :=
  ⟨fun b o h => hb.cell (p := ⟨b, o, none⟩) h, fun b o h => hb.frozen (p := ⟨b, o, none⟩) h⟩

/-- nothing that was there has turned -/
def Ext (w w' : World) : Prop := Below w.heap.size w w'
theorem Ext.refl (w : World) : Ext w w := Below.refl _ _
theorem Ext.trans {a b c : World} (h : Ext a b) (k : Ext b c) : Ext a c := Below.trans h (Below.mono k (Below.size h))
theorem Ext.size {a b : World} (h : Ext a b) : a.heap.size ≤ b.heap.size := Below.size h
theorem Ext.alloc {a b : World} (h : Ext a b) (o : Obj) : Ext a (b.alloc o) := Below.alloc h (Below.size h) o
theorem Ext.setCell {a b : World} (h : Ext a b) {p : Addr} (hp : a.heap.size ≤ p.block) (u : Value) : Ext a (b.setCell p u) := Below.setCell h hp u
theorem Ext.drew {a b : World} (h : Ext a b) : Ext a b.drew := Below.drew h
theorem Ext.drewN {a b : World} (h : Ext a b) (n : Nat) : Ext a (b.drewN n) := by
  have k : Below a.heap.size a b := h
  have k1 := k.os; have k2 := k.tape; have k3 := k.output; have k4 := k.size; have k5 := k.block
  exact ⟨k1, k2, k3, k4, k5⟩
theorem Ext.cell {w w' : World} (h : Ext w w') {a : Addr} {v : Value} (hc : w.cell? a = some v) : w'.cell? a = some v := by
  rw [Below.cell h (World.block_lt_of_cell? _ _ hc)]; exact hc

def Lbl.val (l : Lbl) : Value := .agg #[.int .i64 l.len, .int .u64 l.bits]
def Item.vl (x : Item) : Value := .agg #[.int .u64 x.key, .string x.val]


theorem Ext.at {w w' : World} (h : Ext w w') (b o : Nat) (v : Value) (hc : w.cell? ⟨b, o, none⟩ = some v) : w'.cell? ⟨b, o, none⟩ = some v := h.cell hc
theorem Ext.free {w w' : World} (h : Ext w w') (b o : Nat) (hb : b < w.heap.size) (hf : w.frozen? ⟨b, o, none⟩ = false) : w'.frozen? ⟨b, o, none⟩ = false := by
  rw [Below.frozen h (p := ⟨b, o, none⟩) hb]; exact hf
theorem Ext.size_lt {w w' : World} (h : Ext w w') {b : Nat} (hb : b < w.heap.size) : b < w'.heap.size := Nat.lt_of_lt_of_le hb h.size

/-- a world of which S holds -/
structure Held (S : World → Prop) where
  w : World
  h : S w
/-- a region that draws its order, whose operations do no more to the world than S bears: one walk, in the order of the text -/
theorem wp_region_held {P : Program} {id : Nat} {Q : Exit → Act → World → Prop} {a : Act} {w : World} {l : List Oper} (S : World → Prop) (hm : P.follows .mixedOrders = true) (hB : Region.lexB .any l.toArray = true) (h0 : S w.drew)
    (h : wpQuiet P l.toArray (fun w' => ∃ x : Held S, w' = x.w) (fun a' => ∀ w', (∃ x : Held S, w' = x.w) → Q .normal a' w') l a) : (Code.region id l.toArray true).wp P Q a w :=
  wp_region_quiet (C := fun w' => ∃ x : Held S, w' = x.w) hm hB ⟨⟨w.drew, h0⟩, rfl⟩ (by simpa using h)
theorem Calls.held {P : Program} {f : FuncId} {args : Array Value} {w : World} {S : World → Prop} {v : Value} (h : Calls P f args w fun e w' => e = .returned v ∧ S w') :
    Calls P f args w fun e w'' => e = .returned v ∧ ∃ x : Held S, w'' = x.w :=
  h.mono fun _ w' ⟨he, hs⟩ => ⟨he, ⟨w', hs⟩, rfl⟩

end Go.Proofs.Ythgnkbkfkcdhfaa
