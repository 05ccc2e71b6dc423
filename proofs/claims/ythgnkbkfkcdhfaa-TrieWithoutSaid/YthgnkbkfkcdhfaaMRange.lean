/- Ranging over a map whose keys are labels. -/
import Derived.Test.YthgnkbkfkcdhfaaNexts
import Derived.Maps.RangeWalk
namespace Go.Proofs.Ythgnkbkfkcdhfaa
open Go.RowKit
open Go.ChangeMaps (setBlock)
set_option maxHeartbeats 400000

def leftIn (es : List Ent) (seen : Array Nat) : List (Lbl × Value) := (es.filter fun x => !seen.contains x.born).map Ent.p
/-- block r ranges over the map at block b, that reads as m; left: what is still to come -/
def Ranging (w : World) (b r : Nat) (m left : List (Lbl × Value)) : Prop :=
  ∃ (es : List Ent) (clock since : Nat) (seen : Array Nat) (c0 : Nat), w.heap[b]? = some (.map (es.map Ent.e).toArray clock) ∧ es.map Ent.p = m ∧ (es.map (·.lbl)).Nodup ∧ (es.map (·.born)).Nodup ∧ (∀ x ∈ es, x.born < clock) ∧
    w.heap[r]? = some (.mapIter (some b) since seen c0) ∧ (∀ x ∈ es, x.born < since) ∧ since ≤ c0 ∧ since ≤ clock ∧ left = leftIn es seen
theorem Ranging.map {w : World} {b r : Nat} {m left : List (Lbl × Value)} (h : Ranging w b r m left) : MapIs w b m := by
  obtain ⟨es, clock, since, seen, c0, h1, h2, h3, h4, h5, -⟩ := h
  exact ⟨es, clock, h1, h2, h3, h4, h5⟩
theorem Ranging.lt {w : World} {b r : Nat} {m left : List (Lbl × Value)} (h : Ranging w b r m left) : r < w.heap.size := by
  obtain ⟨es, clock, since, seen, c0, -, -, -, -, -, hr, -⟩ := h
  exact (Array.getElem?_eq_some_iff.1 hr).1
theorem Ranging.ext {w w' : World} {b r : Nat} {m left : List (Lbl × Value)} (h : Ranging w b r m left) (he : Ext w w') : Ranging w' b r m left := by
  have h1 := h.map.lt
  have h2 := h.lt
  obtain ⟨es, clock, since, seen, c0, hb, r1, r2, r3, r4, hr, r5⟩ := h
  exact ⟨es, clock, since, seen, c0, by rw [he.block b h1]; exact hb, r1, r2, r3, r4, by rw [he.block r h2]; exact hr, r5⟩
/-- .. and while another block grows -/
theorem Ranging.grown {w w' : World} {b r : Nat} {m left : List (Lbl × Value)} (h : Ranging w b r m left) {row : Option Nat} (he : w.grownBy w' row) (hb : row ≠ some b) (hr : row ≠ some r) : Ranging w' b r m left := by
  have h1 := h.map.lt
  have h2 := h.lt
  obtain ⟨es, clock, since, seen, c0, hb', r1, r2, r3, r4, hr', r5⟩ := h
  exact ⟨es, clock, since, seen, c0, by rw [he.block b h1 (fun e => hb e.symm)]; exact hb', r1, r2, r3, r4, by rw [he.block r h2 (fun e => hr e.symm)]; exact hr', r5⟩
/-- how many are still to come, read off the world -/
def rangeLeft (b r : Nat) (w : World) : Nat :=
  match w.heap[b]?, w.heap[r]? with
  | some (.map es _), some (.mapIter _ _ seen _) => (es.toList.filter fun x => !seen.contains x.born).length
  | _, _ => 0
theorem leftIn_length (es : List Ent) (seen : Array Nat) : ((es.map Ent.e).filter fun x => !seen.contains x.born).length = (leftIn es seen).length := by
  unfold leftIn
  rw [List.length_map, List.filter_map, List.length_map]
  rfl
theorem Ranging.left_eq {w : World} {b r : Nat} {m left : List (Lbl × Value)} (h : Ranging w b r m left) : rangeLeft b r w = left.length := by
  obtain ⟨es, clock, since, seen, c0, hb, -, -, -, -, hr, -, -, -, rfl⟩ := h
  unfold rangeLeft
  rw [hb, hr]
  exact leftIn_length es seen
theorem leftIn_all (es : List Ent) : leftIn es #[] = es.map Ent.p := by
  unfold leftIn
  rw [List.filter_eq_self.2]
  intro x _; simp
theorem run_range_lbl {w : World} {b : Nat} {m : List (Lbl × Value)} (h : MapIs w b m) (T E : TypeId) (hT : Try.prog.underlying T = some (.map 36 E)) :
    ∃ w', (Instr.range T (.map (some b))).run Try.prog w = .ok (.pointer (some ⟨w.heap.size, 0, none⟩)) w' ∧ Ranging w' b w.heap.size m m ∧ Ext w w' ∧ w'.heap.size = w.heap.size + 1 := by
  have hlt := h.lt
  obtain ⟨es, clock, hb, rfl, r1, r2, r3⟩ := h
  refine ⟨_, run_range_map w T 36 E b _ clock hT hb, ⟨es, clock, clock, #[], clock, ?_, rfl, r1, r2, r3, heap_alloc_new _ _, r3, Nat.le_refl _, Nat.le_refl _, (leftIn_all es).symm⟩, (Ext.refl w).alloc _, by simp⟩
  rw [((Ext.refl w).alloc _).block b hlt]; exact hb
theorem run_next_lbl {w : World} {b r : Nat} {m left : List (Lbl × Value)} (h : Ranging w b r m left) (ty : TypeId) :
    (left = [] ∧ (Instr.next (.pointer (some ⟨r, 0, none⟩)) false ty).run Try.prog w = .ok (.tuple #[.bool false]) w) ∨
    ∃ p ∈ left, ∃ w', (Instr.next (.pointer (some ⟨r, 0, none⟩)) false ty).run Try.prog w = .ok (.tuple #[.bool true, .agg #[.int .i64 p.1.len, .int .u64 p.1.bits], p.2]) w' ∧
      Ranging w' b r m (left.filter fun q => decide (q.1 ≠ p.1)) ∧ ExtM r w w' ∧ w'.heap.size = w.heap.size ∧
      (Instr.entry (.pointer (some ⟨r, 0, none⟩))).run Try.prog w' = .ok (.tuple #[.agg #[.int .i64 p.1.len, .int .u64 p.1.bits], p.2]) w' := by
  have hblt := h.map.lt
  have hrlt := h.lt
  obtain ⟨es, clock, since, seen, c0, hb, rfl, r1, r2, r3, hr, hold, hsc, hsk, rfl⟩ := h
  have hbr : b ≠ r := by rintro rfl; rw [hb] at hr; cases hr
  have hl : (leftOf (es.map Ent.e).toArray seen).toList = (es.map Ent.e).filter fun x => !seen.contains x.born := by simp [leftOf]
  rcases run_next_at (P := Try.prog) w ty r b since c0 seen (es.map Ent.e).toArray clock hr hb (by
      intro x hx
      obtain ⟨y, hy, rfl⟩ := List.mem_map.1 (by simpa using hx : x ∈ es.map Ent.e)
      exact hold y hy) hsc with ⟨h0, hrun⟩ | ⟨e, he, w1, hw1, hrun⟩
  · left
    refine ⟨?_, hrun⟩
    apply List.eq_nil_of_length_eq_zero
    rw [← leftIn_length, ← hl, Array.length_toList]
    exact h0
  · right
    rw [hl] at he
    obtain ⟨he1, he2⟩ := List.mem_filter.1 he
    obtain ⟨x, hx, rfl⟩ := List.mem_map.1 he1
    have hsz : w1.heap = w.heap := by rcases hw1 with rfl | rfl <;> rfl
    have hE1 : ExtM r w (setBlock w1 r (.mapIter (some b) since (seen.push x.born) clock)) := by
      have hos : w1.os = w.os ∧ w1.tape = w.tape ∧ w1.output = w.output := by rcases hw1 with rfl | rfl <;> exact ⟨rfl, rfl, rfl⟩
      refine ⟨hos.1, hos.2.1, hos.2.2, by simp [setBlock, hsz], fun k hk hkr => ?_⟩
      simp only [setBlock, hsz]
      rw [Array.getElem?_setIfInBounds_ne (Ne.symm hkr)]
    have hb' : (setBlock w1 r (.mapIter (some b) since (seen.push x.born) clock)).heap[b]? = some (.map (es.map Ent.e).toArray clock) := by
      rw [hE1.block b hblt hbr]; exact hb
    have hr' : (setBlock w1 r (.mapIter (some b) since (seen.push x.born) clock)).heap[r]? = some (.mapIter (some b) since (seen.push x.born) clock) := by
      simp only [setBlock, hsz]
      rw [Array.getElem?_setIfInBounds_self_of_lt hrlt]
    refine ⟨x.p, List.mem_map.2 ⟨x, List.mem_filter.2 ⟨hx, he2⟩, rfl⟩, _, hrun, ⟨es, clock, since, seen.push x.born, clock, hb', rfl, r1, r2, r3, hr', hold, hsk, hsk, ?_⟩, hE1, by simp [setBlock, hsz], ?_⟩
    · unfold leftIn
      rw [List.filter_map, List.filter_filter]
      congr 1
      apply List.filter_congr
      intro y hy
      have hinj : y.born = x.born ↔ y.lbl = x.lbl := by
        constructor
        · intro e
          obtain ⟨i, hi, rfl⟩ := List.getElem_of_mem hx
          obtain ⟨j, hj, rfl⟩ := List.getElem_of_mem hy
          have := nodup_inj r2 (i := j) (j := i) (by simpa using hj) (by simpa using hi) (by simpa using e)
          subst this; rfl
        · intro e
          obtain ⟨i, hi, rfl⟩ := List.getElem_of_mem hx
          obtain ⟨j, hj, rfl⟩ := List.getElem_of_mem hy
          have := nodup_inj r1 (i := j) (j := i) (by simpa using hj) (by simpa using hi) (by simpa using e)
          subst this; rfl
      simp only [Function.comp, Ent.p, Array.contains_push]
      by_cases h1 : y.lbl = x.lbl
      · simp [h1, hinj.2 h1]
      · have h2 : ¬ y.born = x.born := fun e => h1 (hinj.1 e)
        simp [h1, h2]
    · have := run_entry_at (P := Try.prog) (setBlock w1 r (.mapIter (some b) since (seen.push x.born) clock)) r b since seen (es.map Ent.e).toArray clock x.e hr' hb' (by simpa using List.mem_map_of_mem hx) (by
        have : ((es.map Ent.e).toArray.toList.map (·.born)) = es.map (·.born) := by simp [Ent.e, Function.comp_def]
        rw [this]; exact r2)
      exact this
end Go.Proofs.Ythgnkbkfkcdhfaa
