/- trie.Items, the whole. -/
import Derived.Test.YthgnkbkfkcdhfaaItems
namespace Go.Proofs.Ythgnkbkfkcdhfaa
open Go.RowKit
attribute [local go_sem] Oper.semAt_some
set_option maxHeartbeats 1000000
set_option linter.unusedSimpArgs false

/-- what Items answers -/
def ItemsRet (l : List Row) (w : World) (e : Ending) (w' : World) : Prop :=
  Ext w w' ∧ ((rowsRight l ∧ ∃ v', e = .returned (.tuple #[v', .int .i64 0]) ∧ ItemsAt w' v' (itemsOf (rowsMap l) 65 rootLbl)) ∨ (¬ rowsRight l ∧ e = .returned (.tuple #[.slice none 0 0, .int .i64 1])))
set_option maxRecDepth 100000 in
theorem items_c (Y : Nat) (w : World) (v : Value) (l : List Row) (hv : RowsAt w v l) (hu : rowsU l) (hU : treeU (rowsMap l)) (hY : (itemsOf (rowsMap l) 65 rootLbl).length ≤ Y) (hY2 : 66 * Y ≤ 100000000000) : Calls Try.prog 10 #[v] w (ItemsRet l w) := by
  obtain ⟨ao, c, rfl, -⟩ : ∃ ao c, v = .slice ao l.length c ∧ True := by obtain ⟨ao, c, e, -⟩ := hv; exact ⟨ao, c, e, trivial⟩
  go_enter Try.func10, Try.ntmps10
  go_wp2_with fail
  refine (trieIs_c w _ l hv hu).mono ?_
  rintro e w1 ⟨b, rfl, hb1, hbr⟩
  rcases b with _ | _
  · have hr : ¬ rowsRight l := fun h => by have := hbr.2 h; cases this
    clear hbr
    go_wp2
    go_ret2
    exact ⟨hb1, .inr ⟨hr, rfl⟩⟩
  · have hr : rowsRight l := hbr.1 rfl
    clear hbr
    go_wp2_with fail
    refine (of_c w1 _ l (hv.ext hb1)).mono ?_
    rintro e w2 ⟨r, rfl, hrz, hT, hb2⟩
    have hE2 := hb1.trans hb2
    clear hb1 hb2
    have hO0 : OutIs (w2.heap.size + 1) (w2.heap.size + 1 + 1 + 1) (((w2.alloc (.cells #[.map (some r)] 79)).alloc (.cells #[.slice none 0 0] 22)).alloc (.cells #[.func (.func 39) #[] #[.pointer (some ⟨w2.heap.size, 0, none⟩), .pointer (some ⟨w2.heap.size + 1, 0, none⟩), .pointer (some ⟨w2.heap.size + 1 + 1, 0, none⟩)]] 87)) (.slice none 0 0) [] := ⟨by go_simp, by go_simp, ItemsOwn.nil _ _⟩
    have HO := Lib.hid hO0; clear hO0
    have z0 : (((w2.alloc (.cells #[.map (some r)] 79)).alloc (.cells #[.slice none 0 0] 22)).alloc (.cells #[.nilFunc] 87)).cell? ⟨w2.heap.size + 1 + 1, 0, none⟩ = some .nilFunc := by go_simp
    have z1 : (((w2.alloc (.cells #[.map (some r)] 79)).alloc (.cells #[.slice none 0 0] 22)).alloc (.cells #[.nilFunc] 87)).frozen? ⟨w2.heap.size + 1 + 1, 0, none⟩ = false := by go_simp
    have HT := Lib.hid hT; clear hT
    have hsto := fun (W' : World) (a : Addr) (m : Mode) => run_store Try.prog W' a (.func (.func 39) #[] #[.pointer (some ⟨w2.heap.size, 0, none⟩), .pointer (some ⟨w2.heap.size + 1, 0, none⟩), .pointer (some ⟨w2.heap.size + 1 + 1, 0, none⟩)]) m rfl
    go_wp2_with fail
    clear hsto z0 z1
    have hB3 : Ext w2 (((w2.alloc (.cells #[.map (some r)] 79)).alloc (.cells #[.slice none 0 0] 22)).alloc (.cells #[.func (.func 39) #[] #[.pointer (some ⟨w2.heap.size, 0, none⟩), .pointer (some ⟨w2.heap.size + 1, 0, none⟩), .pointer (some ⟨w2.heap.size + 1 + 1, 0, none⟩)]] 87)) := (((Ext.refl w2).alloc _).alloc _).alloc _
    refine (items1_c w2 r w2.heap.size (w2.heap.size + 1) (w2.heap.size + 1 + 1) (w2.heap.size + 1 + 1 + 1) Y (rowsMap l) HT.out hU (by omega) (by omega) (by omega) (by omega) (by omega) (by omega) 65 _ rootLbl (.slice none 0 0) [] (by decide) (by unfold Lbl.u u64 rootLbl; decide) (by decide) hB3 (by simp) (by go_simp) (by go_simp) HO.out hY (by simpa using hY2)).mono ?_
    rintro e w3 ⟨⟨u, rfl⟩, v3, hO3, hG3, -⟩
    have hE3 : Ext w2 w3 := Below.trans hB3 (hG3.below (N := w2.heap.size) (by omega) (by intro k hk; simp [Value.ownBlock] at hk) (by simp; omega))
    have c3 := hO3.c
    have hit := hO3.own.items
    rw [List.nil_append] at hit
    obtain ⟨io3, ic3, rfl⟩ := hO3.slice
    have HI := Lib.hid hit
    clear hO3 hit
    go_wp2
    go_ret2
    exact ⟨hE2.trans hE3, .inl ⟨hr, _, rfl, HI.out⟩⟩
end Go.Proofs.Ythgnkbkfkcdhfaa
