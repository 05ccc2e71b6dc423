/- trie.children: the children of a label, by an iterator: what each loop over them may lean on. -/
import Derived.Test.YthgnkbkfkcdhfaaVec
import Derived.RangeFuncNested
import Derived.RangeFuncBound
import Derived.RangeFuncCalls
import Derived.RangeFuncLeaves
import Derived.Shelf.Abstract
import Derived.Shelf.RegionOpen
import Derived.OwnWalkIn
import Derived.TacticsInMore
import Derived.LoopNIn
import Derived.LoopIn
namespace Go.Proofs.Ythgnkbkfkcdhfaa
open Go.RowKit
attribute [local go_sem] Oper.semAt_some
set_option maxHeartbeats 400000

theorem Ext.grownBy {w w' : World} (h : Ext w w') : w.grownBy w' none := ⟨Below.os h, Below.tape h, Below.output h, Below.size h, fun k hk _ => Below.block h k hk⟩
theorem children_c (a : Lbl) (w : World) : Calls Try.prog 40 #[.agg #[.int .i64 a.len, .int .u64 a.bits]] w fun e w' => e = .returned (.func (.func 60) #[] #[.pointer (some ⟨w.heap.size, 0, none⟩)]) ∧ w' = w.alloc (.cells #[.int .i64 a.len, .int .u64 a.bits] 36) := by
  go_enter Try.func40, Try.ntmps40
  go_wp2
  go_ret
  exact ⟨rfl, rfl⟩
/-- the children of a label, in the order of the loop -/
def kids (a : Lbl) : List Lbl := if a.len < 64 then [childOf a 0, childOf a 1] else []
def Kid (a : Lbl) : Type := { x : Lbl // a.len < 64 ∧ (x = childOf a 0 ∨ x = childOf a 1) }
def kid0 (a : Lbl) (h : a.len < 64) : Kid a := ⟨childOf a 0, h, .inl rfl⟩
def kid1 (a : Lbl) (h : a.len < 64) : Kid a := ⟨childOf a 1, h, .inr rfl⟩
/-- all the children have come -/
def KidsAll (a : Lbl) (xs : List (Kid a)) : Prop := xs.map (·.1) = kids a
/-- some have come, and not none -/
def KidsSome (a : Lbl) (xs : List (Kid a)) : Prop := ∃ rest, kids a = xs.map (·.1) ++ rest
/-- the block b stays as it is -/
def KeepAt (b : Nat) (W W' : World) : Prop := W'.heap[b]? = W.heap[b]?
theorem KeepAt.t {b : Nat} {A B C : World} (h : KeepAt b A B) (k : KeepAt b B C) : KeepAt b A C := by unfold KeepAt at *; rw [k, h]
theorem KeepAt.cell {b : Nat} {A B : World} (h : KeepAt b A B) {i : Nat} {v : Value} (hc : A.cell? ⟨b, i, none⟩ = some v) : B.cell? ⟨b, i, none⟩ = some v := by
  rw [World.cell?_of_block (show B.heap[(⟨b, i, none⟩ : Addr).block]? = A.heap[(⟨b, i, none⟩ : Addr).block]? from h)]; exact hc
theorem KeepAt.b {b : Nat} {w : World} (hb : b < w.heap.size) (W : World) (l : Nat) (o o' : Obj) (hl : w.heap.size ≤ l) (_ : W.heap[l]? = some o) (_ : o.isCells = false) (_ : o.isWalk = false) : KeepAt b W (W.putObj l o') :=
  World.putObj_heap_other (by omega)
theorem Ext.keepAt {b : Nat} {w w' : World} (h : Ext w w') (hb : b < w.heap.size) : KeepAt b w w' := Below.block h b hb
def kidEnc (a : Lbl) (x : Kid a) : Array Value := #[.agg #[.int .i64 x.1.len, .int .u64 x.1.bits]]
theorem kids_stops (a : Lbl) (hu : a.u) (hok : a.ok = true) (b n : Nat) (hn : 1 ≤ n) (w : World) (h0 : w.cell? ⟨b, 0, none⟩ = some (.int .i64 a.len)) (h1 : w.cell? ⟨b, 1, none⟩ = some (.int .u64 a.bits)) :
    SeqStopsK Fence.wide n Try.prog 60 #[.pointer (some ⟨b, 0, none⟩)] (kidEnc a) (KeepAt b) (KidsAll a) (KidsSome a) 2 w := by
  intro l J Jx W hW hJ hJx hY hJ0
  have c0 : W.cell? ⟨b, 0, none⟩ = some (.int .i64 a.len) := Ext.at hW b 0 _ h0
  have c1 : W.cell? ⟨b, 1, none⟩ = some (.int .u64 a.bits) := Ext.at hW b 1 _ h1
  clear h0 h1
  refine callsIn_of_wp Try.func60 rfl trivial ?_ rfl
  simp only [Try.ntmps60, List.size_toArray, List.length_cons, List.length_nil, Nat.reduceAdd, Nat.reduceSub, Array.replicate_succ, Array.replicate_zero, List.push_toArray, List.append_toArray, List.nil_append, List.cons_append]
  gi_wp2
  gi_loopw [6] (fun i wr => ∃ (k : Nat) (pre : List (Kid a)), i = .int .i64 k ∧ k ≤ 2 ∧ (a.len < 64 ∨ k = 0) ∧ pre.length = k ∧ pre.map (·.1) = (kids a).take k ∧ J pre wr ∧ KeepAt b W wr) (fun i _ => 2 - (intOf i).toNat)
  case atStart => exact ⟨0, [], rfl, by omega, .inr rfl, rfl, rfl, hJ0, rfl⟩
  case round =>
    obtain ⟨k, pre, rfl, hk2, hk, hlen, hpre, hJs, hkeep⟩ := hrel
    have d0 := hkeep.cell c0
    have d1 := hkeep.cell c1
    by_cases hk22 : k = 2
    · subst hk22
      gi_wp2
      go_end0
      refine ⟨⟨_, rfl⟩, .inl ⟨pre, ?_, hJs⟩⟩
      unfold KidsAll
      rw [hpre]
      unfold kids
      split <;> rfl
    · by_cases h64 : a.len < 64
      · have hkd : k = 0 ∨ k = 1 := by omega
        have hkI : (k : Int) = 0 ∨ (k : Int) = 1 := by omega
        obtain ⟨x, hx⟩ : ∃ x : Kid a, x.1 = childOf a k := by
          rcases hkd with rfl | rfl
          · exact ⟨kid0 a h64, rfl⟩
          · exact ⟨kid1 a h64, rfl⟩
        have hpre' : (pre ++ [x]).map (·.1) = (kids a).take (k + 1) := by
          rw [List.map_append, hpre]
          simp only [List.map_cons, List.map_nil, hx]
          unfold kids
          rw [if_pos h64]
          rcases hkd with rfl | rfl <;> rfl
        have hblt : b < wr.heap.size := World.block_lt_of_cell? _ _ d0
        have hlt2 : (decide ((k : Int) < 2)) = true := by simp; omega
        have HP := Lib.hid hpre'; clear hpre'
        gi_wp2_with (refine ⟨trivial, ?_⟩; gi_at_call 61; refine (callsIn_wide.2 (child_c a k wr hu hok h64 hkI)).mono ?_; rintro e w2 ⟨rfl, hb2⟩; obtain ⟨fn, tmps, assign, body, hy, hR⟩ := hY pre x (w2.alloc (.cells #[.int .i64 (childOf a k).len, .int .u64 (childOf a k).bits] 36)) (hJ pre wr _ none hJs (hb2.alloc _).grownBy (fun r e => by cases e)) (by omega); unfold kidEnc at hy; rw [hx] at hy)
        refine hR.mono ?_
        rintro e w3 (⟨rfl, hJ3, hk3⟩ | ⟨rfl, hJx3⟩)
        · gi_wp2
          go_roundw
          case rel =>
            refine ⟨k + 1, pre ++ [x], by go_num, by omega, .inl h64, by simp [hlen], HP.out, hJ3, (hkeep.t ((hb2.alloc _).keepAt hblt)).t hk3⟩
          case measure => simp [intOf]; omega
        · gi_wp2
          refine bodyPost_ret (results_none rfl _ _ _) rfl ?_
          exact ⟨⟨_, rfl⟩, .inr ⟨pre ++ [x], ⟨(kids a).drop (k + 1), by rw [HP.out, List.take_append_drop]⟩, hJx3⟩⟩
      · have h64' : a.len = 64 := by have := ((ok_iff a).1 hok).2.1; omega
        have hk0 : k = 0 := by omega
        subst hk0
        obtain ⟨al, ab⟩ := a
        obtain rfl : al = 64 := h64'
        have hpre0 : pre = [] := List.eq_nil_of_length_eq_zero hlen
        subst hpre0
        gi_wp2_with (refine ⟨trivial, ?_⟩; gi_at_call 61; refine (callsIn_wide.2 (child_64 ab ((0 : Nat) : Int) wr hu (.inl rfl))).mono ?_; rintro e w2 ⟨rfl, hb2⟩)
        refine ⟨fun _ h => (by cases h), ?_⟩
        gi_wp2
        refine bodyPost_ret (results_none rfl _ _ _) rfl ?_
        exact ⟨⟨_, rfl⟩, .inl ⟨[], rfl, hJ [] wr _ none hJs (hb2.alloc _).grownBy (fun r e => by cases e)⟩⟩
end Go.Proofs.Ythgnkbkfkcdhfaa
