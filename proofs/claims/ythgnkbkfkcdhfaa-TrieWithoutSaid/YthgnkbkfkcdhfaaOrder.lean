/- trie.Is; trie.order and the comparisons of rows. -/
import Derived.Test.YthgnkbkfkcdhfaaShelf
import Derived.Shelf.SlSortCmp.NoneTotal
import Derived.Shelf.Lay
namespace Go.Proofs.Ythgnkbkfkcdhfaa
open Go.RowKit
set_option maxHeartbeats 400000

/-- what Is answers -/
def IsRet (l : List Row) (w : World) (e : Ending) (w' : World) : Prop := ∃ b : Bool, e = .returned (.bool b) ∧ Ext w w' ∧ (b = true ↔ rowsRight l)
theorem trieIs_c (w : World) (v : Value) (l : List Row) (hv : RowsAt w v l) (hu : rowsU l) : Calls Try.prog 37 #[v] w (IsRet l w) := by
  obtain ⟨ao, c, rfl, hrest⟩ : ∃ ao c, v = .slice ao l.length c ∧ True := by obtain ⟨ao, c, e, -⟩ := hv; exact ⟨ao, c, e, trivial⟩
  go_enter Try.func37, Try.ntmps37
  go_wp2_with fail
  refine (new_c w _ l hv hu).mono ?_
  rintro e w1 ⟨hb, (⟨hr, p, r, rfl, -⟩ | ⟨hr, rfl⟩)⟩
  · go_wp2
    go_ret
    exact ⟨true, rfl, hb, by simp [hr]⟩
  · go_wp2
    go_ret
    exact ⟨false, rfl, hb, by simp [hr]⟩

/-! ## Comparisons -/
theorem isNaNInt_c (x : Int) (w : World) : Calls Try.prog 69 #[.int .i64 x] w fun e w' => e = .returned (.bool false) ∧ w' = w := by
  have e : (x != x) = false := by simp
  go_enter Try.func69, Try.ntmps69
  go_wp2
  go_ret
  exact ⟨rfl, rfl⟩
theorem cmpInt_c (x y : Int) (w : World) : Calls Try.prog 54 #[.int .i64 x, .int .i64 y] w fun e w' => e = .returned (.int .i64 (cmpI x y)) ∧ w' = w := by
  unfold cmpI
  by_cases h : x < y
  · have e1 : decide (x < y) = true := by simp [h]
    go_enter Try.func54, Try.ntmps54
    go_wp2_with (go_at_call 69; refine (isNaNInt_c _ _).mono ?_; rintro e w' ⟨rfl, rfl⟩)
    go_ret
    exact ⟨ret_int rfl, rfl⟩
  · have e1 : decide (x < y) = false := by simp [h]
    by_cases h2 : y < x
    · have e2 : decide (y < x) = true := by simp [h2]
      go_enter Try.func54, Try.ntmps54
      go_wp2_with (go_at_call 69; refine (isNaNInt_c _ _).mono ?_; rintro e w' ⟨rfl, rfl⟩)
      go_ret
      exact ⟨ret_int rfl, rfl⟩
    · have e2 : decide (y < x) = false := by simp [h2]
      go_enter Try.func54, Try.ntmps54
      go_wp2_with (go_at_call 69; refine (isNaNInt_c _ _).mono ?_; rintro e w' ⟨rfl, rfl⟩)
      go_ret
      exact ⟨ret_int rfl, rfl⟩
def orI (x y : Int) : Int := if x = 0 then y else x
theorem or_c (b : Nat) (x y : Int) (w : World) (h0 : w.cell? ⟨b, 0, none⟩ = some (.int .i64 x)) (h1 : w.cell? ⟨b, 1, none⟩ = some (.int .i64 y)) :
    Calls Try.prog 53 #[.slice (some ⟨b, 0, none⟩) 2 2] w fun e w' => e = .returned (.int .i64 (orI x y)) ∧ w' = w := by
  go_enter Try.func53, Try.ntmps53
  go_wp2
  go_loopw [8] (fun i wr => ((i = .int .i64 0) ∨ (i = .int .i64 1 ∧ (x != 0) = false) ∨ (i = .int .i64 2 ∧ (x != 0) = false ∧ (y != 0) = false)) ∧ wr = w) (fun i _ => 2 - (intOf i).toNat)
  case atStart => exact ⟨.inl rfl, rfl⟩
  case round =>
    obtain ⟨(rfl | ⟨rfl, hx⟩ | ⟨rfl, hx, hy⟩), rfl⟩ := hrel
    · by_cases hx : (x != 0) = true
      · go_wp2
        go_ret
        exact ⟨ret_int (by simp at hx; simp [orI, hx]), rfl⟩
      · have hx : (x != 0) = false := by simpa using hx
        go_wp2
        go_roundw
        case rel => exact ⟨.inr (.inl ⟨by go_num, hx⟩), trivial⟩
        case measure => simp [intOf]
    · by_cases hy : (y != 0) = true
      · go_wp2
        go_ret
        exact ⟨ret_int (by simp at hx; simp [orI, hx]), rfl⟩
      · have hy : (y != 0) = false := by simpa using hy
        go_wp2
        go_roundw
        case rel => exact ⟨.inr (.inr ⟨by go_num, hx, hy⟩), trivial⟩
        case measure => simp [intOf]
    · go_wp2
      go_ret
      exact ⟨ret_int (by simp at hx hy; simp [orI, hx, hy]), rfl⟩
def orderI (a b : Lbl) : Int := orI (cmpI a.bits b.bits) (cmpI a.len b.len)
/-- old blocks as they were, and no fewer draws: the world has only grown -/
theorem Ext.grew {w w' : World} (h : Ext w w') (hd : w.drawn ≤ w'.drawn) : ∃ q os', w' = Sort.grow (w.drewN q) os' := by
  have k1 := Below.os h; have k2 := Below.tape h; have k3 := Below.output h; have k4 := Below.size h; have k5 := Below.block h
  refine ⟨w'.drawn - w.drawn, w'.heap.extract w.heap.size w'.heap.size, ?_⟩
  have hh : w.heap ++ w'.heap.extract w.heap.size w'.heap.size = w'.heap := by
    apply Array.ext_getElem?
    intro i
    by_cases hi : i < w.heap.size
    · rw [Array.getElem?_append_left hi, k5 i hi]
    · rw [Array.getElem?_append_right (by omega), Array.getElem?_extract]
      by_cases hj : i < w'.heap.size
      · rw [if_pos (by omega)]; congr 1; omega
      · rw [if_neg (by omega), Array.getElem?_eq_none (by omega)]
  obtain ⟨H, T, D, O, P⟩ := w'
  simp only [Sort.grow, World.drewN] at *
  subst k1 k2 k3
  rw [hh]
  congr 1
  omega
theorem order_c (a b : Lbl) (w : World) : Calls Try.prog 35 #[.agg #[.int .i64 a.len, .int .u64 a.bits], .agg #[.int .i64 b.len, .int .u64 b.bits]] w fun e w' => e = .returned (.int .i64 (orderI a b)) ∧ Ext w w' ∧ w.drawn ≤ w'.drawn := by
  obtain ⟨W, hW⟩ : ∃ W : World, W = (w.alloc (.cells #[.int .i64 a.len, .int .u64 a.bits] 36)).alloc (.cells #[.int .i64 b.len, .int .u64 b.bits] 36) := ⟨_, rfl⟩
  have hE : Ext w W := by rw [hW]; exact ((Ext.refl w).alloc _).alloc _
  have a0 : W.cell? ⟨w.heap.size, 0, none⟩ = some (.int .i64 a.len) := by rw [hW]; simp
  have a1 : W.cell? ⟨w.heap.size, 1, none⟩ = some (.int .u64 a.bits) := by rw [hW]; simp
  have b0 : W.cell? ⟨w.heap.size + 1, 0, none⟩ = some (.int .i64 b.len) := by rw [hW]; simp
  have b1 : W.cell? ⟨w.heap.size + 1, 1, none⟩ = some (.int .u64 b.bits) := by rw [hW]; simp
  have hdr : w.drawn ≤ W.drawn := by rw [hW]; exact Nat.le_refl _
  have HW := Lib.hid hW.symm; clear hW
  have HC := Lib.hid (fun (W' : World) (h : Ext W W') => And.intro (h.cell a0) (And.intro (h.cell a1) (And.intro (h.cell b0) (h.cell b1))))
  clear a0 a1 b0 b1
  go_enter Try.func35, Try.ntmps35
  go_wp2_with fail
  rw [HW.out]
  go_region_held3 (fun w' => w'.cell? ⟨w.heap.size, 0, none⟩ = some (.int .i64 a.len) ∧ w'.cell? ⟨w.heap.size, 1, none⟩ = some (.int .u64 a.bits) ∧ w'.cell? ⟨w.heap.size + 1, 0, none⟩ = some (.int .i64 b.len) ∧ w'.cell? ⟨w.heap.size + 1, 1, none⟩ = some (.int .u64 b.bits)) (exact HC.out _ (by repeat (first | exact Ext.refl _ | apply Ext.drew | apply Ext.alloc | refine Ext.setCell ?_ (by simp) _))) (first | (go_at_call 26; refine (cmp64_c _ _ _).mono ?_; rintro e w' ⟨rfl, rfl⟩) | (go_at_call 54; refine (cmpInt_c _ _ _).mono ?_; rintro e w' ⟨rfl, rfl⟩) | (go_at_call 53; refine (or_c W.heap.size (cmpI a.bits b.bits) (cmpI a.len b.len) _ (by simp) (by simp)).mono ?_; rintro e w' ⟨rfl, rfl⟩) | fail)
  all_goals
    go_wp2
    go_ret
    refine ⟨ret_int rfl, Ext.trans hE ?_, by show w.drawn ≤ W.drawn + 1; omega⟩
    repeat (first | exact Ext.refl _ | apply Ext.drew | apply Ext.alloc | refine Ext.setCell ?_ (by simp) _)
theorem build4_c (a b : Lbl) (av bv : Int × Int × Value × Int × Int × Int) (w : World) : Calls Try.prog 34 #[.agg #[.int .i64 a.len, .int .u64 a.bits, .int .u64 av.1, .int .i64 av.2.1, av.2.2.1, .int .i64 av.2.2.2.1, .int .u64 av.2.2.2.2.1, .int .u64 av.2.2.2.2.2],
      .agg #[.int .i64 b.len, .int .u64 b.bits, .int .u64 bv.1, .int .i64 bv.2.1, bv.2.2.1, .int .i64 bv.2.2.2.1, .int .u64 bv.2.2.2.2.1, .int .u64 bv.2.2.2.2.2]] w fun e w' => e = .returned (.int .i64 (orderI a b)) ∧ Ext w w' ∧ w.drawn ≤ w'.drawn := by
  go_enter Try.func34, Try.ntmps34
  go_wp2_with (go_at_call 35; refine (order_c a b _).mono ?_; rintro e w' ⟨rfl, hb, hd⟩)
  go_ret
  exact ⟨ret_int rfl, Ext.trans (((Ext.refl w).alloc _).alloc _) hb, hd⟩
theorem rows1_c (a b : Lbl) (av bv : Int × Int × Value × Int × Int × Int) (w : World) : Calls Try.prog 52 #[.agg #[.int .i64 a.len, .int .u64 a.bits, .int .u64 av.1, .int .i64 av.2.1, av.2.2.1, .int .i64 av.2.2.2.1, .int .u64 av.2.2.2.2.1, .int .u64 av.2.2.2.2.2],
      .agg #[.int .i64 b.len, .int .u64 b.bits, .int .u64 bv.1, .int .i64 bv.2.1, bv.2.2.1, .int .i64 bv.2.2.2.1, .int .u64 bv.2.2.2.2.1, .int .u64 bv.2.2.2.2.2]] w fun e w' => e = .returned (.int .i64 (orderI a b)) ∧ Ext w w' ∧ w.drawn ≤ w'.drawn := by
  obtain ⟨W, hW⟩ : ∃ W : World, W = (w.alloc (.cells #[.int .i64 a.len, .int .u64 a.bits, .int .u64 av.1, .int .i64 av.2.1, av.2.2.1, .int .i64 av.2.2.2.1, .int .u64 av.2.2.2.2.1, .int .u64 av.2.2.2.2.2] 40)).alloc (.cells #[.int .i64 b.len, .int .u64 b.bits, .int .u64 bv.1, .int .i64 bv.2.1, bv.2.2.1, .int .i64 bv.2.2.2.1, .int .u64 bv.2.2.2.2.1, .int .u64 bv.2.2.2.2.2] 40) := ⟨_, rfl⟩
  have hE : Ext w W := by rw [hW]; exact ((Ext.refl w).alloc _).alloc _
  have a0 : W.cell? ⟨w.heap.size, 0, none⟩ = some (.int .i64 a.len) := by rw [hW]; simp
  have a1 : W.cell? ⟨w.heap.size, 1, none⟩ = some (.int .u64 a.bits) := by rw [hW]; simp
  have b0 : W.cell? ⟨w.heap.size + 1, 0, none⟩ = some (.int .i64 b.len) := by rw [hW]; simp
  have b1 : W.cell? ⟨w.heap.size + 1, 1, none⟩ = some (.int .u64 b.bits) := by rw [hW]; simp
  have hdr : w.drawn ≤ W.drawn := by rw [hW]; exact Nat.le_refl _
  have HW := Lib.hid hW.symm; clear hW
  have HC := Lib.hid (fun (W' : World) (h : Ext W W') => And.intro (h.cell a0) (And.intro (h.cell a1) (And.intro (h.cell b0) (h.cell b1))))
  clear a0 a1 b0 b1
  go_enter Try.func52, Try.ntmps52
  go_wp2_with fail
  rw [HW.out]
  go_region_held3 (fun w' => w'.cell? ⟨w.heap.size, 0, none⟩ = some (.int .i64 a.len) ∧ w'.cell? ⟨w.heap.size, 1, none⟩ = some (.int .u64 a.bits) ∧ w'.cell? ⟨w.heap.size + 1, 0, none⟩ = some (.int .i64 b.len) ∧ w'.cell? ⟨w.heap.size + 1, 1, none⟩ = some (.int .u64 b.bits)) (exact HC.out _ (by repeat (first | exact Ext.refl _ | apply Ext.drew | apply Ext.alloc | refine Ext.setCell ?_ (by simp) _))) (first | (go_at_call 26; refine (cmp64_c _ _ _).mono ?_; rintro e w' ⟨rfl, rfl⟩) | (go_at_call 54; refine (cmpInt_c _ _ _).mono ?_; rintro e w' ⟨rfl, rfl⟩) | (go_at_call 53; refine (or_c W.heap.size (cmpI a.bits b.bits) (cmpI a.len b.len) _ (by simp) (by simp)).mono ?_; rintro e w' ⟨rfl, rfl⟩) | fail)
  all_goals
    go_wp2
    go_ret
    refine ⟨ret_int rfl, Ext.trans hE ?_, by show w.drawn ≤ W.drawn + 1; omega⟩
    repeat (first | exact Ext.refl _ | apply Ext.drew | apply Ext.alloc | refine Ext.setCell ?_ (by simp) _)
end Go.Proofs.Ythgnkbkfkcdhfaa
