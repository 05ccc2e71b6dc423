/- The record functions that tell what is right. -/
import Derived.Test.YthgnkbkfkcdhfaaBase2
namespace Go.Proofs.Ythgnkbkfkcdhfaa
open Go.RowKit
set_option maxHeartbeats 400000

theorem none_c (w : World) : Calls Try.prog 57 #[] w fun e w' => e = .returned (.agg #[.int .i64 (-1), .int .u64 0]) ∧ Ext w w' := by
  go_enter Try.func57, Try.ntmps57
  go_wp2
  refine bodyPost_ret (v := .agg #[.int .i64 (-1), .int .u64 0]) ?_ rfl ⟨rfl, ?_⟩
  · simp [results, Try.results57, go_sem]
  · exact (Ext.refl w).alloc _

theorem okUpto_snoc {l : List Item} {k : Nat} (h : ∀ j, j < k → itemFine l j = true) (hk : itemFine l k = true) : ∀ j, j < k + 1 → itemFine l j = true := by
  intro j hj
  by_cases e : j = k
  · rw [e]; exact hk
  · exact h j (by omega)
theorem row_bad {l : List Item} {k : Nat} (h : k < l.length) (hk : itemFine l k = false) : false = rowOk l := by
  symm
  unfold rowOk
  rw [Bool.and_eq_false_iff]; left
  rw [List.all_eq_false]
  exact ⟨k, by simpa using h, by simp [hk]⟩
theorem row_upto {l : List Item} {k : Nat} (h : ∀ j, j < k → itemFine l j = true) (hk : l.length ≤ k) : rowOk l = decide (l.length ≤ 16) := by
  unfold rowOk
  rw [show (List.range l.length).all (itemFine l) = true by rw [List.all_eq_true]; intro j hj; exact h j (by have := List.mem_range.1 hj; omega)]
  simp
theorem row_c (w : World) (v : Value) (l : List Item) (hv : ItemsAt w v l) :
    Calls Try.prog 67 #[v] w fun e w' => e = .returned (.bool (rowOk l)) ∧ Ext w w' := by
  obtain ⟨ao, c, rfl, hlc, hc, -, hget⟩ := hv
  go_enter Try.func67, Try.ntmps67
  go_wp2
  go_loopw [7] (fun i wr => ∃ k : Nat, k ≤ l.length ∧ i = .int .i64 k ∧ (∀ j, j < k → itemFine l j = true) ∧ Ext w wr) (fun i _ => l.length - (intOf i).toNat)
  case atStart => exact ⟨0, by omega, rfl, fun j hj => absurd hj (Nat.not_lt_zero j), Ext.refl _⟩
  case round =>
    obtain ⟨k, hk, rfl, hok, hE⟩ := hrel
    have HO := Lib.hid hok; clear hok
    by_cases hlt : k < l.length
    · obtain ⟨b, o, rfl, hb, c1, c2⟩ := ItemsAt.get hget hE k hlt
      obtain ⟨x, hx⟩ : ∃ x, x = l.getD k default := ⟨_, rfl⟩
      rw [← hx] at c1 c2
      have HX := Lib.hid hx; clear hx
      by_cases hs : x.val.size ≤ 64
      · have es : decide (64 < (x.val.size : Int)) = false := by simp; omega
        by_cases h0 : 0 < k
        · have ei : decide ((0 : Int) < (k : Int)) = true := by simp; omega
          have en : decide (0 < k) = true := by simp; omega
          obtain ⟨b', o', e', hb', d1, d2⟩ := ItemsAt.get hget hE (k - 1) (by omega)
          obtain ⟨rfl, rfl⟩ : b = b' ∧ o = o' := by simpa using e'
          obtain ⟨y, hy⟩ : ∃ y, y = l.getD (k - 1) default := ⟨_, rfl⟩
          rw [← hy] at d1 d2
          have HY := Lib.hid hy; clear hy e' hb'
          obtain ⟨m, rfl⟩ : ∃ m, k = m + 1 := ⟨k - 1, by omega⟩
          simp only [Nat.add_sub_cancel] at d1 d2
          go_wp2
          go_quiet (fail)
          by_cases hxy : y.key < x.key
          · have ek : decide (x.key ≤ y.key) = false := by simp; omega
            go_wp2
            all_goals
              go_roundw
              case rel => exact ⟨m + 1 + 1, by omega, by go_num, okUpto_snoc HO.out (by unfold itemFine; rw [← HX.out, ← HY.out]; simp [hs, hxy]), ((hE.alloc _).drewN _)⟩
              case measure => simp [intOf]; omega
          · have ek : decide (x.key ≤ y.key) = true := by simp; omega
            go_wp2
            go_ret
            exact ⟨ret_bool (row_bad hlt (by unfold itemFine; rw [← HX.out, ← HY.out]; simp [hxy])), ((hE.alloc _).drewN _)⟩
        · have ei : decide ((0 : Int) < (k : Int)) = false := by simp; omega
          have en : decide (0 < k) = false := by simp; omega
          go_wp2
          go_quiet (fail)
          go_wp2
          all_goals
            go_roundw
            case rel => exact ⟨k + 1, by omega, by go_num, okUpto_snoc HO.out (by unfold itemFine; rw [← HX.out]; simp [hs]; omega), ((hE.alloc _).drewN _)⟩
            case measure => simp [intOf]; omega
      · have es : decide (64 < (x.val.size : Int)) = true := by simp; omega
        go_wp2
        go_quiet (fail)
        go_wp2
        go_ret
        exact ⟨ret_bool (row_bad hlt (by unfold itemFine; rw [← HX.out]; simp [hs])), ((hE.alloc _).drewN _)⟩
    · by_cases h16 : l.length ≤ 16
      · have e16 : decide ((l.length : Int) ≤ 16) = true := by simp; omega
        go_wp2
        go_ret
        exact ⟨ret_bool (by rw [row_upto HO.out (by omega)]; simp [h16]), hE⟩
      · have e16 : decide ((l.length : Int) ≤ 16) = false := by simp; omega
        go_wp2
        go_ret
        exact ⟨ret_bool (by rw [row_upto HO.out (by omega)]; simp [h16]), hE⟩

/-- what is asked of a record, but for its next label's being one -/
def recBody (k : Int) (items : List Item) (isNone : Bool) (mk : Int) : Bool :=
  if (k == 2) = true then ((items.length : Int) == 0) && isNone && (mk == 0)
  else if (k == 4) = true then ((items.length : Int) == 0) && isNone && (mk == 0)
  else if (k == 1) = true then !(mk != 0) && rowOk items
  else if (k == 3) = true then !(mk != 0) && rowOk items
  else (k == 5) && rowOk items
theorem recOk_body (k : Int) (items : List Item) (nl nb mk : Int) : Rec.ok ⟨k, items, ⟨nl, nb⟩, mk⟩ = ((lblEq nl nb (-1) 0 || (Lbl.mk nl nb).ok) && recBody k items (lblEq nl nb (-1) 0) mk) := by
  unfold Rec.ok recBody lblEq noneLbl
  simp only [beq_iff_eq]
  congr 1
  by_cases k2 : k = 2
  · simp [k2]
    rw [Bool.eq_iff_iff]; simp
  · by_cases k4 : k = 4
    · simp [k4]
      rw [Bool.eq_iff_iff]; simp
    · by_cases k1 : k = 1
      · simp [k1]; rw [Bool.eq_iff_iff]; simp
      · by_cases k3 : k = 3
        · simp [k3]; rw [Bool.eq_iff_iff]; simp
        · simp [k1, k2, k3, k4]; rw [Bool.eq_iff_iff]; simp
set_option maxHeartbeats 1000000 in
theorem recIs_c (w : World) (k mk : Int) (iv : Value) (items : List Item) (nl nb : Int) (hv : ItemsAt w iv items) (hu : lblEq nl nb (-1) 0 = false → u64 nb) :
    Calls Try.prog 49 #[.agg #[.int .i64 k, iv, .int .i64 nl, .int .u64 nb, .int .u64 mk]] w fun e w' => e = .returned (.bool (Rec.ok ⟨k, items, ⟨nl, nb⟩, mk⟩)) ∧ Ext w w' := by
  obtain ⟨W, hW⟩ : ∃ W : World, W = w.alloc (.cells #[.int .i64 k, iv, .int .i64 nl, .int .u64 nb, .int .u64 mk] 38) := ⟨_, rfl⟩
  let S : World → Prop := fun w' => Ext W w'
  have hS0 : ∀ x : Held S, x.w.cell? ⟨w.heap.size, 0, none⟩ = some (.int .i64 k) := fun x => Ext.cell x.h (by rw [hW]; simp)
  have hS1 : ∀ x : Held S, x.w.cell? ⟨w.heap.size, 1, none⟩ = some iv := fun x => Ext.cell x.h (by rw [hW]; simp)
  have hS2 : ∀ x : Held S, x.w.cell? ⟨w.heap.size, 2, none⟩ = some (.int .i64 nl) := fun x => Ext.cell x.h (by rw [hW]; simp)
  have hS3 : ∀ x : Held S, x.w.cell? ⟨w.heap.size, 3, none⟩ = some (.int .u64 nb) := fun x => Ext.cell x.h (by rw [hW]; simp)
  have hS4 : ∀ x : Held S, x.w.cell? ⟨w.heap.size, 4, none⟩ = some (.int .u64 mk) := fun x => Ext.cell x.h (by rw [hW]; simp)
  haveI : Nonempty (Held S) := ⟨⟨W, Ext.refl W⟩⟩
  have hE : Ext w W := by rw [hW]; exact (Ext.refl w).alloc _
  have HV := Lib.hid (fun x : Held S => hv.ext (Ext.trans hE x.h))
  have HW := Lib.hid hW.symm; clear hW
  have HU := Lib.hid hu; clear hu
  obtain ⟨ao, c, rfl, hlc, hc, -, -⟩ := hv
  by_cases e0 : lblEq nl nb (-1) 0 = true
  · have HX := Lib.hid ((recOk_body k items nl nb mk).trans (by rw [e0]; rfl : _ = recBody k items true mk))
    go_enter Try.func49, Try.ntmps49
    go_wp2
    rw [HW.out]
    refine wp_region_held S (by kernel_rfl) (by kernel_rfl) (Ext.refl W).drew ?_
    repeat (go_big_quiet_step ((go_at_call 57; exact Calls.held ((none_c _).mono fun e w' ⟨he, hb⟩ => ⟨he, Ext.trans (Held.h _) hb⟩))))
    refine wpQuiet_nil ?_; rintro _ ⟨x, rfl⟩
    go_wp2_with (go_at_call 67; refine (row_c _ _ _ (HV.out x)).mono ?_; rintro e w2 ⟨rfl, hb⟩; have hb2 : Ext w w2 := Ext.trans (Ext.trans hE x.h) hb; clear hb)
    · by_cases hl : ((items.length : Int) == 0) = true
      · refine wp_region_held S (by kernel_rfl) (by kernel_rfl) (Ext.drew x.h) ?_
        repeat (go_big_quiet_step ((go_at_call 57; exact Calls.held ((none_c _).mono fun e w' ⟨he, hb⟩ => ⟨he, Ext.trans (Held.h _) hb⟩))))
        refine wpQuiet_nil ?_; rintro _ ⟨y, rfl⟩
        go_wp2
        go_ret
        refine ⟨ret_bool ?_, Ext.trans hE y.h⟩
        rw [HX.out]; clear HX hS0 hS1 hS2 hS3 hS4 HV HU HW
        simp_all [recBody]
      · have hl' : ((items.length : Int) == 0) = false := by simpa using hl
        clear hl
        refine wp_region_held S (by kernel_rfl) (by kernel_rfl) (Ext.drew x.h) ?_
        repeat (go_big_quiet_step ((go_at_call 57; exact Calls.held ((none_c _).mono fun e w' ⟨he, hb⟩ => ⟨he, Ext.trans (Held.h _) hb⟩))))
        refine wpQuiet_nil ?_; rintro _ ⟨y, rfl⟩
        go_wp2
        go_ret
        refine ⟨ret_bool ?_, Ext.trans hE y.h⟩
        rw [HX.out]; clear HX hS0 hS1 hS2 hS3 hS4 HV HU HW
        simp_all [recBody]
    · by_cases hl : ((items.length : Int) == 0) = true
      · refine wp_region_held S (by kernel_rfl) (by kernel_rfl) (Ext.drew x.h) ?_
        repeat (go_big_quiet_step ((go_at_call 57; exact Calls.held ((none_c _).mono fun e w' ⟨he, hb⟩ => ⟨he, Ext.trans (Held.h _) hb⟩))))
        refine wpQuiet_nil ?_; rintro _ ⟨y, rfl⟩
        go_wp2
        go_ret
        refine ⟨ret_bool ?_, Ext.trans hE y.h⟩
        rw [HX.out]; clear HX hS0 hS1 hS2 hS3 hS4 HV HU HW
        simp_all [recBody]
      · have hl' : ((items.length : Int) == 0) = false := by simpa using hl
        clear hl
        refine wp_region_held S (by kernel_rfl) (by kernel_rfl) (Ext.drew x.h) ?_
        repeat (go_big_quiet_step ((go_at_call 57; exact Calls.held ((none_c _).mono fun e w' ⟨he, hb⟩ => ⟨he, Ext.trans (Held.h _) hb⟩))))
        refine wpQuiet_nil ?_; rintro _ ⟨y, rfl⟩
        go_wp2
        go_ret
        refine ⟨ret_bool ?_, Ext.trans hE y.h⟩
        rw [HX.out]; clear HX hS0 hS1 hS2 hS3 hS4 HV HU HW
        simp_all [recBody]
    all_goals
      go_ret
      refine ⟨ret_bool ?_, by first | assumption | exact Ext.trans hE x.h⟩
      rw [HX.out]; clear HX hS0 hS1 hS2 hS3 hS4 HV HU HW
      simp_all [recBody]
  · have e0 : lblEq nl nb (-1) 0 = false := by simpa using e0
    by_cases hok : (Lbl.mk nl nb).ok = true
    · have HX := Lib.hid ((recOk_body k items nl nb mk).trans (by rw [e0, hok]; rfl : _ = recBody k items false mk))
      go_enter Try.func49, Try.ntmps49
      go_wp2
      rw [HW.out]
      refine wp_region_held S (by kernel_rfl) (by kernel_rfl) (Ext.refl W).drew ?_
      repeat (go_big_quiet_step ((first | (go_at_call 57; exact Calls.held ((none_c _).mono fun e w' ⟨he, hb⟩ => ⟨he, Ext.trans (Held.h _) hb⟩)) | (go_at_call 18; exact Calls.held ((is_c ⟨nl, nb⟩ _ (HU.out e0)).mono fun e w' ⟨he, hb⟩ => ⟨by rw [he, hok], Ext.trans (Held.h _) hb⟩)))))
      refine wpQuiet_nil ?_; rintro _ ⟨x, rfl⟩
      go_wp2_with (go_at_call 67; refine (row_c _ _ _ (HV.out x)).mono ?_; rintro e w2 ⟨rfl, hb⟩; have hb2 : Ext w w2 := Ext.trans (Ext.trans hE x.h) hb; clear hb)
      · by_cases hl : ((items.length : Int) == 0) = true
        · refine wp_region_held S (by kernel_rfl) (by kernel_rfl) (Ext.drew x.h) ?_
          repeat (go_big_quiet_step ((go_at_call 57; exact Calls.held ((none_c _).mono fun e w' ⟨he, hb⟩ => ⟨he, Ext.trans (Held.h _) hb⟩))))
          refine wpQuiet_nil ?_; rintro _ ⟨y, rfl⟩
          go_wp2
          go_ret
          refine ⟨ret_bool ?_, Ext.trans hE y.h⟩
          rw [HX.out]; clear HX hS0 hS1 hS2 hS3 hS4 HV HU HW
          simp_all [recBody]
        · have hl' : ((items.length : Int) == 0) = false := by simpa using hl
          clear hl
          refine wp_region_held S (by kernel_rfl) (by kernel_rfl) (Ext.drew x.h) ?_
          repeat (go_big_quiet_step ((go_at_call 57; exact Calls.held ((none_c _).mono fun e w' ⟨he, hb⟩ => ⟨he, Ext.trans (Held.h _) hb⟩))))
          refine wpQuiet_nil ?_; rintro _ ⟨y, rfl⟩
          go_wp2
          go_ret
          refine ⟨ret_bool ?_, Ext.trans hE y.h⟩
          rw [HX.out]; clear HX hS0 hS1 hS2 hS3 hS4 HV HU HW
          simp_all [recBody]
      · by_cases hl : ((items.length : Int) == 0) = true
        · refine wp_region_held S (by kernel_rfl) (by kernel_rfl) (Ext.drew x.h) ?_
          repeat (go_big_quiet_step ((go_at_call 57; exact Calls.held ((none_c _).mono fun e w' ⟨he, hb⟩ => ⟨he, Ext.trans (Held.h _) hb⟩))))
          refine wpQuiet_nil ?_; rintro _ ⟨y, rfl⟩
          go_wp2
          go_ret
          refine ⟨ret_bool ?_, Ext.trans hE y.h⟩
          rw [HX.out]; clear HX hS0 hS1 hS2 hS3 hS4 HV HU HW
          simp_all [recBody]
        · have hl' : ((items.length : Int) == 0) = false := by simpa using hl
          clear hl
          refine wp_region_held S (by kernel_rfl) (by kernel_rfl) (Ext.drew x.h) ?_
          repeat (go_big_quiet_step ((go_at_call 57; exact Calls.held ((none_c _).mono fun e w' ⟨he, hb⟩ => ⟨he, Ext.trans (Held.h _) hb⟩))))
          refine wpQuiet_nil ?_; rintro _ ⟨y, rfl⟩
          go_wp2
          go_ret
          refine ⟨ret_bool ?_, Ext.trans hE y.h⟩
          rw [HX.out]; clear HX hS0 hS1 hS2 hS3 hS4 HV HU HW
          simp_all [recBody]
      all_goals
        go_ret
        refine ⟨ret_bool ?_, by first | assumption | exact Ext.trans hE x.h⟩
        rw [HX.out]; clear HX hS0 hS1 hS2 hS3 hS4 HV HU HW
        simp_all [recBody]
    · have hok : (Lbl.mk nl nb).ok = false := by simpa using hok
      have HX := Lib.hid ((recOk_body k items nl nb mk).trans (by rw [e0, hok]; rfl : _ = false))
      go_enter Try.func49, Try.ntmps49
      go_wp2
      rw [HW.out]
      refine wp_region_held S (by kernel_rfl) (by kernel_rfl) (Ext.refl W).drew ?_
      repeat (go_big_quiet_step ((first | (go_at_call 57; exact Calls.held ((none_c _).mono fun e w' ⟨he, hb⟩ => ⟨he, Ext.trans (Held.h _) hb⟩)) | (go_at_call 18; exact Calls.held ((is_c ⟨nl, nb⟩ _ (HU.out e0)).mono fun e w' ⟨he, hb⟩ => ⟨by rw [he, hok], Ext.trans (Held.h _) hb⟩)))))
      refine wpQuiet_nil ?_; rintro _ ⟨x, rfl⟩
      go_wp2
      go_ret
      exact ⟨ret_bool (by rw [HX.out]), Ext.trans hE x.h⟩
end Go.Proofs.Ythgnkbkfkcdhfaa
