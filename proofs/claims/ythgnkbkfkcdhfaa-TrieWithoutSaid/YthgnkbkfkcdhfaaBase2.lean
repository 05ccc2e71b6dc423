/- Slices of items in memory; equality of labels and of items. -/
import Derived.Test.YthgnkbkfkcdhfaaLabel
namespace Go.Proofs.Ythgnkbkfkcdhfaa
open Go.RowKit

theorem getD_lt {α : Type} [Inhabited α] {l : List α} {i : Nat} (h : i < l.length) : l.getD i default = l[i] := by simp [List.getD_eq_getElem?_getD, List.getElem?_eq_getElem h]
/-- slots that hold a slice of items -/
def ItemsAt (w : World) (v : Value) (l : List Item) : Prop :=
  ∃ (ao : Option Addr) (c : Nat), v = .slice ao l.length c ∧ l.length ≤ c ∧ c ≤ 9223372036854775807 ∧ (ao = none → c = 0) ∧
    ∀ i, i < l.length → ∃ b o, ao = some ⟨b, o, none⟩ ∧
      w.cell? ⟨b, o + i * 2, none⟩ = some (.int .u64 (l.getD i default).key) ∧ w.cell? ⟨b, o + i * 2 + 1, none⟩ = some (.string (l.getD i default).val)
theorem ItemsAt.ext {w w' : World} {v : Value} {l : List Item} (h : ItemsAt w v l) (he : Ext w w') : ItemsAt w' v l := by
  obtain ⟨ao, c, h1, h2, h3, h4, h5⟩ := h
  refine ⟨ao, c, h1, h2, h3, h4, fun i hi => ?_⟩
  obtain ⟨b, o, e, c1, c2⟩ := h5 i hi
  exact ⟨b, o, e, he.cell c1, he.cell c2⟩
theorem ItemsAt.get {w wr : World} {ao : Option Addr} {l : List Item}
    (h5 : ∀ i, i < l.length → ∃ b o, ao = some ⟨b, o, none⟩ ∧ w.cell? ⟨b, o + i * 2, none⟩ = some (.int .u64 (l.getD i default).key) ∧ w.cell? ⟨b, o + i * 2 + 1, none⟩ = some (.string (l.getD i default).val))
    (he : Ext w wr) (i : Nat) (hi : i < l.length) : ∃ b o, ao = some ⟨b, o, none⟩ ∧ b < wr.heap.size ∧ wr.cell? ⟨b, o + i * 2, none⟩ = some (.int .u64 (l.getD i default).key) ∧ wr.cell? ⟨b, o + i * 2 + 1, none⟩ = some (.string (l.getD i default).val) := by
  obtain ⟨b, o, e, c1, c2⟩ := h5 i hi
  exact ⟨b, o, e, Nat.lt_of_lt_of_le (World.block_lt_of_cell? _ _ c1) he.size, he.cell c1, he.cell c2⟩
theorem ItemsAt.nil (w : World) : ItemsAt w (.slice none 0 0) [] := ⟨none, 0, rfl, Nat.le_refl _, by decide, fun _ => rfl, fun i hi => absurd hi (Nat.not_lt_zero i)⟩

/-! ## '==' on labels and items -/
theorem bytes_inj {a b : ByteArray} : a.toList = b.toList ↔ a = b := by
  constructor
  · intro h
    rw [ByteArray.toList_eq, ByteArray.toList_eq] at h
    obtain ⟨⟨x⟩⟩ := a
    obtain ⟨⟨y⟩⟩ := b
    simpa using h
  · rintro rfl; rfl
/-- equality of labels and items, as one Bool that the walk does not open -/
def lblEq (a s b t : Int) : Bool := decide (Lbl.mk a s = Lbl.mk b t)
def itmEq (a : Int) (s : ByteArray) (b : Int) (t : ByteArray) : Bool := decide (Item.mk a s = Item.mk b t)
@[go_sem] theorem eqgItem : Try.prog.eqGuardType Try.prog.depth 42 = false := by kernel_rfl
theorem shiItem : Try.prog.stoodInHeld 42 = false := by kernel_rfl
theorem foItem : Try.prog.underlying 42 = some (.struct (Try.prog.fieldsOf 42)) := by kernel_rfl
@[go_sem] theorem eqgLabel : Try.prog.eqGuardType Try.prog.depth 36 = false := by kernel_rfl
theorem shiLabel : Try.prog.stoodInHeld 36 = false := by kernel_rfl
theorem foLabel : Try.prog.underlying 36 = some (.struct (Try.prog.fieldsOf 36)) := by kernel_rfl
theorem eqItem (d : Nat) (a b : Int) (s t : ByteArray) (w : World) :
    (Op.equalIn (d + 2) 42 (.agg #[.int .u64 a, .string s]) (.agg #[.int .u64 b, .string t])).run Try.prog w = .ok (decide (Item.mk a s = Item.mk b t)) w := by
  rw [run_equalIn_struct w (d + 1) 42 _ _ foItem shiItem]
  simp only [Program.fieldsOf, Try.underlying42, Op.eqFields]
  simp [go_sem, bytes_inj]
  by_cases h1 : a = b <;> by_cases h2 : s = t <;> simp [h1, h2]
theorem eqLabel (d : Nat) (a b s t : Int) (w : World) :
    (Op.equalIn (d + 2) 36 (.agg #[.int .i64 a, .int .u64 s]) (.agg #[.int .i64 b, .int .u64 t])).run Try.prog w = .ok (decide (Lbl.mk a s = Lbl.mk b t)) w := by
  rw [run_equalIn_struct w (d + 1) 36 _ _ foLabel shiLabel]
  simp only [Program.fieldsOf, Try.underlying36, Op.eqFields]
  simp [go_sem]
  by_cases h1 : a = b <;> by_cases h2 : s = t <;> simp [h1, h2]
@[go_sem ↓ high] theorem neqItem (a b : Int) (s t : ByteArray) (w : World) :
    (binOp .neq 42 (.agg #[.int .u64 a, .string s]) (.agg #[.int .u64 b, .string t])).run Try.prog w = .ok (.bool (!itmEq a s b t)) w := by
  simp only [binOp]
  simp [Op.equal, Op.maxDepth, eqItem 9998, itmEq]
@[go_sem ↓ high] theorem eqlItem (a b : Int) (s t : ByteArray) (w : World) :
    (binOp .eql 42 (.agg #[.int .u64 a, .string s]) (.agg #[.int .u64 b, .string t])).run Try.prog w = .ok (.bool (itmEq a s b t)) w := by
  simp only [binOp]
  simp [Op.equal, Op.maxDepth, eqItem 9998, itmEq]
@[go_sem ↓ high] theorem neqLabel (a b s t : Int) (w : World) :
    (binOp .neq 36 (.agg #[.int .i64 a, .int .u64 s]) (.agg #[.int .i64 b, .int .u64 t])).run Try.prog w = .ok (.bool (!lblEq a s b t)) w := by
  simp only [binOp]
  simp [Op.equal, Op.maxDepth, eqLabel 9998, lblEq]
@[go_sem ↓ high] theorem eqlLabel (a b s t : Int) (w : World) :
    (binOp .eql 36 (.agg #[.int .i64 a, .int .u64 s]) (.agg #[.int .i64 b, .int .u64 t])).run Try.prog w = .ok (.bool (lblEq a s b t)) w := by
  simp only [binOp]
  simp [Op.equal, Op.maxDepth, eqLabel 9998, lblEq]

/-! ## What is right -/
def itemFine (l : List Item) (i : Nat) : Bool := decide ((l.getD i default).val.size ≤ 64) && (decide (i = 0) || decide ((l.getD (i - 1) default).key < (l.getD i default).key))
def rowOk (l : List Item) : Bool := (List.range l.length).all (itemFine l) && decide (l.length ≤ 16)
def Rec.ok (r : Rec) : Bool :=
  (decide (r.next = noneLbl) || r.next.ok) &&
  (if r.kind = 2 ∨ r.kind = 4 then decide (r.items = []) && decide (r.next = noneLbl) && decide (r.mark = 0)
   else if r.kind = 1 ∨ r.kind = 3 then decide (r.mark = 0) && rowOk r.items
   else decide (r.kind = 5) && rowOk r.items)
end Go.Proofs.Ythgnkbkfkcdhfaa
