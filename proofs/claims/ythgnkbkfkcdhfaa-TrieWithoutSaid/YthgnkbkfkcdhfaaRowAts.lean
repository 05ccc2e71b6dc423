/- Rows in memory; trees of records; what a label covers. -/
import Derived.Test.YthgnkbkfkcdhfaaMaps
namespace Go.Proofs.Ythgnkbkfkcdhfaa
open Go.RowKit
set_option maxHeartbeats 400000

/-- a record as a value -/
def RecV (w : World) (v : Value) (r : Rec) : Prop := ∃ iv, v = .agg #[.int .i64 r.kind, iv, .int .i64 r.next.len, .int .u64 r.next.bits, .int .u64 r.mark] ∧ ItemsAt w iv r.items
theorem RecV.ext {w w' : World} {v : Value} {r : Rec} (h : RecV w v r) (he : Ext w w') : RecV w' v r := by
  obtain ⟨iv, h1, h2⟩ := h
  exact ⟨iv, h1, h2.ext he⟩
/-- what eight cells from an address on hold: a row; iv: its items' slice -/
structure RowCells (w : World) (b o : Nat) (iv : Value) (r : Row) : Prop where
  c0 : w.cell? ⟨b, o, none⟩ = some (.int .i64 r.lbl.len)
  c1 : w.cell? ⟨b, o + 1, none⟩ = some (.int .u64 r.lbl.bits)
  c2 : w.cell? ⟨b, o + 2, none⟩ = some (.int .u64 r.ver)
  c3 : w.cell? ⟨b, o + 3, none⟩ = some (.int .i64 r.rc.kind)
  c4 : w.cell? ⟨b, o + 4, none⟩ = some iv
  c5 : w.cell? ⟨b, o + 5, none⟩ = some (.int .i64 r.rc.next.len)
  c6 : w.cell? ⟨b, o + 6, none⟩ = some (.int .u64 r.rc.next.bits)
  c7 : w.cell? ⟨b, o + 7, none⟩ = some (.int .u64 r.rc.mark)
  it : ItemsAt w iv r.rc.items
theorem RowCells.ext {w w' : World} {b o : Nat} {iv : Value} {r : Row} (h : RowCells w b o iv r) (he : Ext w w') : RowCells w' b o iv r :=
  ⟨he.cell h.c0, he.cell h.c1, he.cell h.c2, he.cell h.c3, he.cell h.c4, he.cell h.c5, he.cell h.c6, he.cell h.c7, h.it.ext he⟩
def RowsAt (w : World) (v : Value) (l : List Row) : Prop :=
  ∃ (ao : Option Addr) (c : Nat), v = .slice ao l.length c ∧ l.length ≤ c ∧ c ≤ 9223372036854775807 ∧ (ao = none → c = 0) ∧
    ∀ i, i < l.length → ∃ b o iv, ao = some ⟨b, o, none⟩ ∧ RowCells w b (o + i * 8) iv (l.getD i default)
theorem RowsAt.ext {w w' : World} {v : Value} {l : List Row} (h : RowsAt w v l) (he : Ext w w') : RowsAt w' v l := by
  obtain ⟨ao, c, h1, h2, h3, h4, h5⟩ := h
  refine ⟨ao, c, h1, h2, h3, h4, fun i hi => ?_⟩
  obtain ⟨b, o, iv, e, h⟩ := h5 i hi
  exact ⟨b, o, iv, e, h.ext he⟩

/-! ## Trees: records by labels -/
def tget {β : Type} (l : Lbl) : List (Lbl × β) → Option β
  | [] => none
  | (k, u) :: m => if k = l then some u else tget l m
def tput {β : Type} (l : Lbl) (v : β) : List (Lbl × β) → List (Lbl × β)
  | [] => [(l, v)]
  | (k, u) :: m => if k = l then (l, v) :: m else (k, u) :: tput l v m
/-- values and records, entry for entry -/
inductive Pairs {β : Type} (R : Value → β → Prop) : List (Lbl × Value) → List (Lbl × β) → Prop
  | nil : Pairs R [] []
  | cons {l : Lbl} {v : Value} {r : β} {m t} : R v r → Pairs R m t → Pairs R ((l, v) :: m) ((l, r) :: t)
theorem Pairs.imp {β : Type} {R S : Value → β → Prop} (h : ∀ v r, R v r → S v r) {m t} : Pairs R m t → Pairs S m t
  | .nil => .nil
  | .cons a b => .cons (h _ _ a) (b.imp h)
theorem Pairs.put {β : Type} {R : Value → β → Prop} (l : Lbl) {v : Value} {r : β} (hr : R v r) {m t} : Pairs R m t → Pairs R (mput l v m) (tput l r t)
  | .nil => .cons hr .nil
  | .cons (l := k) a b => by
    simp only [mput, tput]
    split
    · exact .cons hr b
    · exact .cons a (b.put l hr)
theorem Pairs.get {β : Type} {R : Value → β → Prop} (l : Lbl) {m t} : Pairs R m t → (mget l m = none ∧ tget l t = none) ∨ ∃ v r, mget l m = some v ∧ tget l t = some r ∧ R v r
  | .nil => .inl ⟨rfl, rfl⟩
  | .cons (l := k) (v := v) (r := r) a b => by
    simp only [mget, tget]
    split
    · exact .inr ⟨v, r, rfl, rfl, a⟩
    · exact b.get l
theorem Pairs.length {β : Type} {R : Value → β → Prop} {m t} : Pairs R m t → m.length = t.length
  | .nil => rfl
  | .cons _ b => by simp [b.length]
theorem Pairs.keys {β : Type} {R : Value → β → Prop} {m t} : Pairs R m t → m.map (·.1) = t.map (·.1)
  | .nil => rfl
  | .cons _ b => by simp [b.keys]
/-- block r is a map that reads as the tree t -/
def TreeIs (w : World) (r : Nat) (t : List (Lbl × Rec)) : Prop := ∃ m, MapIs w r m ∧ Pairs (RecV w) m t
theorem TreeIs.ext {w w' : World} {r : Nat} {t : List (Lbl × Rec)} (h : TreeIs w r t) (he : Ext w w') : TreeIs w' r t := by
  obtain ⟨m, h1, h2⟩ := h
  exact ⟨m, h1.ext he, h2.imp fun _ _ h => h.ext he⟩
theorem TreeIs.lt {w : World} {r : Nat} {t : List (Lbl × Rec)} (h : TreeIs w r t) : r < w.heap.size := by
  obtain ⟨m, h1, h2⟩ := h
  exact h1.lt
theorem RecV.extM {r : Nat} {w w' : World} {m : List (Lbl × Value)} (h : ExtM r w w') (hm : MapIs w r m) {v : Value} {x : Rec} (hi : RecV w v x) : RecV w' v x := by
  obtain ⟨iv, h1, h2⟩ := hi
  exact ⟨iv, h1, h.items hm h2⟩
theorem ExtM.rows {r : Nat} {w w' : World} {m : List (Lbl × Value)} (h : ExtM r w w') (hm : MapIs w r m) {v : Value} {l : List Row} (hi : RowsAt w v l) : RowsAt w' v l := by
  obtain ⟨ao, c, h1, h2, h3, h4, h5⟩ := hi
  refine ⟨ao, c, h1, h2, h3, h4, fun i hi => ?_⟩
  obtain ⟨b, o, iv, e, k⟩ := h5 i hi
  exact ⟨b, o, iv, e, h.cell hm k.c0, h.cell hm k.c1, h.cell hm k.c2, h.cell hm k.c3, h.cell hm k.c4, h.cell hm k.c5, h.cell hm k.c6, h.cell hm k.c7, h.items hm k.it⟩

def zeroRec : Value := .agg #[.int .i64 0, .slice none 0 0, .int .i64 0, .int .u64 0, .int .u64 0]
theorem zeroRec_c (w : World) : (zeroValue 38).run Try.prog w = .ok zeroRec w := by unfold zeroRec; kernel_rfl
theorem zeroLabel_c (w : World) : (zeroValue 36).run Try.prog w = .ok (.agg #[.int .i64 0, .int .u64 0]) w := by kernel_rfl
theorem typeTree : Try.prog.underlying 79 = some (.map 36 38) := Try.underlying79

/-! ## trie.covered -/
def coveredOf (l : List Item) (at' : Lbl) : List Item := l.filter (fun x => covers at' x.key)
theorem coveredOf_snoc (l : List Item) (at' : Lbl) (k : Nat) (h : k < l.length) : coveredOf (l.take (k + 1)) at' = coveredOf (l.take k) at' ++ if covers at' (l.getD k default).key then [l.getD k default] else [] := by
  unfold coveredOf
  rw [List.take_succ_eq_append_getElem h, List.filter_append, getD_lt h]
  simp [List.filter_cons]
end Go.Proofs.Ythgnkbkfkcdhfaa
