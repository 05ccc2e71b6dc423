/- trie.covered; trie.of. -/
import Derived.Test.YthgnkbkfkcdhfaaRowAts
namespace Go.Proofs.Ythgnkbkfkcdhfaa
open Go.RowKit
set_option maxHeartbeats 400000

theorem ItemsOwn.mono {w : World} {B B' : Nat} {v : Value} {l : List Item} (h : ItemsOwn w B v l) (hB : B' ≤ B) : ItemsOwn w B' v l := by
  obtain ⟨h1, h | ⟨g, cap, cur, hv, hg, r⟩⟩ := h
  · exact ⟨h1, .inl h⟩
  · exact ⟨h1, .inr ⟨g, cap, cur, hv, Nat.le_trans hB hg, r⟩⟩
theorem ItemsAt.one {w : World} {g : Nat} {x : Item} (h0 : w.cell? ⟨g, 0, none⟩ = some (.int .u64 x.key)) (h1 : w.cell? ⟨g, 1, none⟩ = some (.string x.val)) : ItemsAt w (.slice (some ⟨g, 0, none⟩) 1 1) [x] := by
  refine ⟨some ⟨g, 0, none⟩, 1, rfl, Nat.le_refl _, by decide, (fun e => by cases e), fun i hi => ?_⟩
  obtain rfl : i = 0 := by simpa using hi
  exact ⟨g, 0, rfl, h0, h1⟩
theorem covered_c (w : World) (v : Value) (l : List Item) (at' : Lbl) (hv : ItemsAt w v l) (hl : l.length ≤ 100000) (hu : at'.u) (hk : ∀ x ∈ l, u64 x.key) :
    Calls Try.prog 41 #[v, .agg #[.int .i64 at'.len, .int .u64 at'.bits]] w fun e w' => ∃ v', e = .returned v' ∧ ItemsOwn w' w.heap.size v' (coveredOf l at') ∧ Ext w w' := by
  obtain ⟨W, hW⟩ : ∃ W : World, W = w.alloc (.cells #[.int .i64 at'.len, .int .u64 at'.bits] 36) := ⟨_, rfl⟩
  have hE0 : Ext w W := by rw [hW]; exact (Ext.refl w).alloc _
  have hc0 : W.cell? ⟨w.heap.size, 0, none⟩ = some (.int .i64 at'.len) := by rw [hW]; simp
  have hc1 : W.cell? ⟨w.heap.size, 1, none⟩ = some (.int .u64 at'.bits) := by rw [hW]; simp
  have hWs : w.heap.size < W.heap.size := by rw [hW]; simp
  have HW := Lib.hid hW.symm; clear hW
  obtain ⟨ao, c, rfl, hlc, hc, -, hget⟩ := hv.ext hE0
  go_enter Try.func41, Try.ntmps41
  go_wp2
  rw [HW.out]
  go_loopw [5, 10] (fun out i wr => ∃ k : Nat, k ≤ l.length ∧ i = .int .i64 k ∧ ItemsOwn wr W.heap.size out (coveredOf (l.take k) at') ∧ Ext W wr) (fun _ i _ => l.length - (intOf i).toNat)
  case atStart => exact ⟨0, by omega, rfl, ItemsOwn.nil _ _, Ext.refl _⟩
  case round =>
    obtain ⟨k, hk', rfl, hown, hE⟩ := hrel
    by_cases hlt : k < l.length
    · obtain ⟨b, o, rfl, hb, c1, c2⟩ := ItemsAt.get hget hE k hlt
      have hsn := coveredOf_snoc l at' k hlt
      have hkx : u64 (l.getD k default).key := hk _ (by rw [getD_lt hlt]; exact List.getElem_mem hlt)
      obtain ⟨x, hx⟩ : ∃ x, x = l.getD k default := ⟨_, rfl⟩
      rw [← hx] at c1 c2 hsn hkx
      clear hx
      have hltw : w.heap.size < wr.heap.size := Nat.lt_of_lt_of_le hWs hE.size
      have d0 := hE.cell hc0
      have d1 := hE.cell hc1
      have hlen : (coveredOf (l.take k) at').length ≤ l.length := Nat.le_trans (List.length_filter_le _ _) (by simp; omega)
      have HS := Lib.hid hsn; clear hsn
      by_cases hcv : covers at' x.key = true
      · go_wp2_with fail
        refine (covers_c at' x.key _ hu hkx).mono ?_; rintro e w1 ⟨rfl, hb1⟩
        rw [hcv]
        have q0 := hb1.at (wr.heap.size) 0 (.int .u64 x.key) (by go_simp); have q0f := hb1.free (wr.heap.size) 0 (by first | (simp; done) | (simp; omega)) (by go_simp); have q1 := hb1.at (wr.heap.size) 1 (.string x.val) (by go_simp); have q1f := hb1.free (wr.heap.size) 1 (by first | (simp; done) | (simp; omega)) (by go_simp)
        have hE1 : Ext wr w1 := Ext.trans ((Ext.refl wr).alloc _) hb1
        clear hb1
        go_wp2_with (at_builtin; refine wp_append_items W.heap.size _ _ rfl ((hown.ext hE1).ext ((Ext.refl w1).alloc _)) _ [x] rfl (ItemsAt.one (by simp) (by simp)) (by simp; omega) (by have := hE.size; have := hE1.size; simp; omega) ?_; intro v' w2 hown2 hB2 hg2)
        go_roundw
        case rel => exact ⟨k + 1, by omega, by go_num, by rw [HS.out, if_pos hcv]; exact hown2, Below.trans (Below.mono (Ext.trans hE (hE1.alloc _)) (Nat.le_refl _)) hB2⟩
        case measure => simp [intOf]; omega
      · have hcv : covers at' x.key = false := by simpa using hcv
        go_wp2_with fail
        refine (covers_c at' x.key _ hu hkx).mono ?_; rintro e w1 ⟨rfl, hb1⟩
        rw [hcv]
        have hE1 : Ext wr w1 := Ext.trans ((Ext.refl wr).alloc _) hb1
        clear hb1
        go_wp2
        go_roundw
        case rel => exact ⟨k + 1, by omega, by go_num, by rw [HS.out, if_neg (by rw [hcv]; exact Bool.false_ne_true), List.append_nil]; exact hown.ext hE1, Ext.trans hE hE1⟩
        case measure => simp [intOf]; omega
    · have hall : l.take k = l := List.take_of_length_le (by omega)
      rw [hall] at hown
      go_wp2
      go_ret
      exact ⟨_, rfl, hown.mono (Nat.le_of_lt hWs), Ext.trans hE0 hE⟩

/-! ## trie.of -/
def rowsMap (l : List Row) : List (Lbl × Rec) := l.foldl (fun t x => tput x.lbl x.rc t) []
theorem rowsMap_snoc (l : List Row) (k : Nat) (h : k < l.length) : rowsMap (l.take (k + 1)) = tput (l.getD k default).lbl (l.getD k default).rc (rowsMap (l.take k)) := by
  unfold rowsMap
  rw [List.take_succ_eq_append_getElem h, List.foldl_append, getD_lt h]
  rfl
theorem of_c (w : World) (v : Value) (l : List Row) (hv : RowsAt w v l) :
    Calls Try.prog 38 #[v] w fun e w' => ∃ r, e = .returned (.map (some r)) ∧ w.heap.size ≤ r ∧ TreeIs w' r (rowsMap l) ∧ Ext w w' := by
  obtain ⟨W, hW⟩ : ∃ W : World, W = w.alloc (.map #[] 0) := ⟨_, rfl⟩
  have hE0 : Ext w W := by rw [hW]; exact (Ext.refl w).alloc _
  have hM0 : MapIs W w.heap.size [] := by rw [hW]; exact MapIs.new w
  have hWs : w.heap.size < W.heap.size := by rw [hW]; simp
  have HW := Lib.hid hW.symm; clear hW
  have hmk := @run_makeMap Try.prog
  have HV := Lib.hid (hv.ext hE0)
  obtain ⟨ao, c, rfl, hlc, hc, -, -⟩ := hv
  go_enter Try.func38, Try.ntmps38
  go_wp2
  rw [HW.out]
  clear hmk
  go_loopw [9] (fun i wr => ∃ k : Nat, k ≤ l.length ∧ i = .int .i64 k ∧ TreeIs wr w.heap.size (rowsMap (l.take k)) ∧ ExtM w.heap.size W wr) (fun i _ => l.length - (intOf i).toNat)
  case atStart => exact ⟨0, by omega, rfl, ⟨[], hM0, .nil⟩, ExtM.refl _ _⟩
  case round =>
    obtain ⟨k, hk', rfl, hT, hX⟩ := hrel
    by_cases hlt : k < l.length
    · obtain ⟨ao', c', e1, -, -, -, hget⟩ := hX.rows hM0 HV.out
      obtain ⟨rfl, rfl⟩ : ao = ao' ∧ c = c' := by simpa using e1
      obtain ⟨b, o, iv, rfl, hrow⟩ := hget k hlt
      have hsn := rowsMap_snoc l k hlt
      obtain ⟨x, hx⟩ : ∃ x, x = l.getD k default := ⟨_, rfl⟩
      rw [← hx] at hrow hsn
      clear hx hget e1
      have HS := Lib.hid hsn; clear hsn
      obtain ⟨c0, c1, c2, c3, c4, c5, c6, c7, hit⟩ := hrow
      obtain ⟨io, ic, rfl⟩ : ∃ io ic, iv = .slice io x.rc.items.length ic := by obtain ⟨io, ic, e, -⟩ := hit; exact ⟨io, ic, e⟩
      obtain ⟨m, hM, hP⟩ := hT
      go_wp2_with ((with_reducible refine wp_mapUpdate w.heap.size m 38 x.lbl.len x.lbl.bits (.agg #[.int .i64 x.rc.kind, .slice io x.rc.items.length ic, .int .i64 x.rc.next.len, .int .u64 x.rc.next.bits, .int .u64 x.rc.mark]) ?_ ?_ ?_ Try.underlying79 (hM.ext ((Ext.refl wr).alloc _)) ?_); rfl; rfl; rfl; intro w2 hM2 hX2)
      go_roundw
      case rel =>
        refine ⟨k + 1, by omega, by go_num, ?_, hX.trans ((((Ext.refl wr).alloc _).m _).trans hX2)⟩
        rw [HS.out]
        refine ⟨_, hM2, Pairs.put x.lbl ⟨.slice io x.rc.items.length ic, rfl, hX2.items (hM.ext ((Ext.refl wr).alloc _)) (hit.ext ((Ext.refl wr).alloc _))⟩ (hP.imp fun _ _ h => ?_)⟩
        exact RecV.extM hX2 (hM.ext ((Ext.refl wr).alloc _)) (h.ext ((Ext.refl wr).alloc _))
      case measure => simp [intOf]; omega
    · have hall : l.take k = l := List.take_of_length_le (by omega)
      rw [hall] at hT
      go_wp2
      go_ret
      exact ⟨_, rfl, Nat.le_refl _, hT, Below.trans hE0 (hX.below (Nat.le_refl _) (Nat.le_of_lt hWs))⟩
end Go.Proofs.Ythgnkbkfkcdhfaa
