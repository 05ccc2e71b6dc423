/- Library functions on slices of items, and the closures that Build hands them. -/
import Derived.Test.YthgnkbkfkcdhfaaRecord
namespace Go.Proofs.Ythgnkbkfkcdhfaa
open Go.RowKit
set_option maxHeartbeats 400000

/-! ## cmp -/
def cmpI (a b : Int) : Int := if a < b then -1 else if b < a then 1 else 0
theorem isNaN_c (x : Int) (w : World) : Calls Try.prog 55 #[.int .u64 x] w fun e w' => e = .returned (.bool false) ∧ w' = w := by
  have e : (x != x) = false := by simp
  go_enter Try.func55, Try.ntmps55
  go_wp2
  go_ret
  exact ⟨rfl, rfl⟩
theorem cmp64_c (x y : Int) (w : World) : Calls Try.prog 26 #[.int .u64 x, .int .u64 y] w fun e w' => e = .returned (.int .i64 (cmpI x y)) ∧ w' = w := by
  unfold cmpI
  by_cases h : x < y
  · have e1 : decide (x < y) = true := by simp [h]
    go_enter Try.func26, Try.ntmps26
    go_wp2_with (go_at_call 55; refine (isNaN_c _ _).mono ?_; rintro e w' ⟨rfl, rfl⟩)
    go_ret
    exact ⟨ret_int rfl, rfl⟩
  · have e1 : decide (x < y) = false := by simp [h]
    by_cases h2 : y < x
    · have e2 : decide (y < x) = true := by simp [h2]
      go_enter Try.func26, Try.ntmps26
      go_wp2_with (go_at_call 55; refine (isNaN_c _ _).mono ?_; rintro e w' ⟨rfl, rfl⟩)
      go_ret
      exact ⟨ret_int rfl, rfl⟩
    · have e2 : decide (y < x) = false := by simp [h2]
      go_enter Try.func26, Try.ntmps26
      go_wp2_with (go_at_call 55; refine (isNaN_c _ _).mono ?_; rintro e w' ⟨rfl, rfl⟩)
      go_ret
      exact ⟨ret_int rfl, rfl⟩

/-! ## Build's closures -/
theorem build1_c (x : Item) (w : World) : Calls Try.prog 24 #[.agg #[.int .u64 x.key, .string x.val]] w fun e w' => e = .returned (.bool (decide (64 < x.val.size))) ∧ Ext w w' := by
  go_enter Try.func24, Try.ntmps24
  go_wp2
  go_ret
  exact ⟨ret_bool (by rw [Bool.eq_iff_iff]; simp; omega), (Ext.refl w).alloc _⟩
theorem build2_c (x y : Item) (w : World) : Calls Try.prog 25 #[.agg #[.int .u64 x.key, .string x.val], .agg #[.int .u64 y.key, .string y.val]] w fun e w' => e = .returned (.int .i64 (cmpI x.key y.key)) ∧ Ext w w' := by
  go_enter Try.func25, Try.ntmps25
  go_wp2_with (go_at_call 26; refine (cmp64_c _ _ _).mono ?_; rintro e w' ⟨rfl, rfl⟩)
  go_ret
  exact ⟨ret_int rfl, ((Ext.refl w).alloc _).alloc _⟩
theorem build3_c (x y : Item) (w : World) : Calls Try.prog 29 #[.agg #[.int .u64 x.key, .string x.val], .agg #[.int .u64 y.key, .string y.val]] w fun e w' => e = .returned (.bool (x.key == y.key)) ∧ Ext w w' := by
  go_enter Try.func29, Try.ntmps29
  go_wp2
  go_ret
  exact ⟨ret_bool rfl, ((Ext.refl w).alloc _).alloc _⟩

/-! ## slices.ContainsFunc, at 'has a value that is too long' -/
theorem index1_c (w : World) (v : Value) (l : List Item) (hv : ItemsAt w v l) :
    Calls Try.prog 56 #[v, .func (.func 24) #[] #[]] w fun e w' => (∃ k : Nat, e = .returned (.int .i64 k) ∧ l.any (fun x => decide (64 < x.val.size)) = true ∧ Ext w w') ∨ (e = .returned (.int .i64 (-1)) ∧ l.any (fun x => decide (64 < x.val.size)) = false ∧ Ext w w') := by
  obtain ⟨ao, c, rfl, hlc, hc, -, hget⟩ := hv
  go_enter Try.func56, Try.ntmps56
  go_wp2
  go_loopw [8] (fun i wr => ∃ k : Nat, k ≤ l.length ∧ i = .int .i64 k ∧ (∀ j, j < k → (l.getD j default).val.size ≤ 64) ∧ Ext w wr) (fun i _ => l.length - (intOf i).toNat)
  case atStart => exact ⟨0, by omega, rfl, fun j hj => absurd hj (Nat.not_lt_zero j), Ext.refl _⟩
  case round =>
    obtain ⟨k, hk, rfl, hok, hE⟩ := hrel
    have HO := Lib.hid hok; clear hok
    by_cases hlt : k < l.length
    · obtain ⟨b, o, rfl, hb, c1, c2⟩ := ItemsAt.get hget hE k hlt
      obtain ⟨x, hx⟩ : ∃ x, x = l.getD k default := ⟨_, rfl⟩
      rw [← hx] at c1 c2
      have HX := Lib.hid hx; clear hx
      by_cases hs : 64 < x.val.size
      · have es : decide (64 < x.val.size) = true := by simp [hs]
        go_wp2_with (go_at_call 24; refine (build1_c x _).mono ?_; rintro e w' ⟨rfl, hb⟩)
        go_ret
        refine .inl ⟨k, rfl, ?_, Ext.trans hE hb⟩
        rw [List.any_eq_true]
        exact ⟨x, by rw [HX.out, getD_lt hlt]; exact List.getElem_mem hlt, es⟩
      · have es : decide (64 < x.val.size) = false := by simp [hs]
        go_wp2_with (go_at_call 24; refine (build1_c x _).mono ?_; rintro e w' ⟨rfl, hb⟩)
        go_roundw
        case rel => exact ⟨k + 1, by omega, by go_num, fun j hj => by
          by_cases e : j = k
          · rw [e, ← HX.out]; omega
          · exact HO.out j (by omega), Ext.trans hE hb⟩
        case measure => simp [intOf]; omega
    · go_wp2
      go_ret
      refine .inr ⟨rfl, ?_, hE⟩
      rw [List.any_eq_false]
      intro y hy
      obtain ⟨j, hj, rfl⟩ := List.getElem_of_mem hy
      have := HO.out j (by omega)
      rw [getD_lt hj] at this
      simp; omega
theorem contains1_c (w : World) (v : Value) (l : List Item) (hv : ItemsAt w v l) :
    Calls Try.prog 30 #[v, .func (.func 24) #[] #[]] w fun e w' => e = .returned (.bool (l.any (fun x => decide (64 < x.val.size)))) ∧ Ext w w' := by
  go_enter Try.func30, Try.ntmps30
  go_wp2_with fail
  refine (index1_c w v l hv).mono ?_
  rintro e w1 (⟨k, rfl, ha, hb⟩ | ⟨rfl, ha, hb⟩)
  · have HA := Lib.hid ha; clear ha
    go_wp2
    go_ret
    exact ⟨by rw [HA.out]; rfl, hb⟩
  · have HA := Lib.hid ha; clear ha
    go_wp2
    go_ret
    exact ⟨by rw [HA.out]; rfl, hb⟩

/-! ## slices.IsSortedFunc, by keys -/
def notFall (l : List Item) (i : Nat) : Prop := (l.getD (i - 1) default).key ≤ (l.getD i default).key
def risesB (l : List Item) : Prop := ∀ i, 0 < i → i < l.length → notFall l i
noncomputable instance (l : List Item) : Decidable (risesB l) := Classical.propDecidable _
theorem sorted_c (w : World) (v : Value) (l : List Item) (hv : ItemsAt w v l) :
    Calls Try.prog 31 #[v, .func (.func 25) #[] #[]] w fun e w' => e = .returned (.bool (decide (risesB l))) ∧ Ext w w' := by
  obtain ⟨ao, c, rfl, hlc, hc, -, hget⟩ := hv
  go_enter Try.func31, Try.ntmps31
  go_wp2
  go_loopw [5] (fun i wr => ∃ k : Int, i = .int .i64 k ∧ -1 ≤ k ∧ k < l.length ∧ (∀ j : Nat, k < j → 0 < j → j < l.length → notFall l j) ∧ Ext w wr) (fun i _ => (intOf i).toNat)
  case atStart => exact ⟨_, rfl, by omega, by omega, fun j h1 h2 h3 => by omega, Ext.refl _⟩
  case round =>
    obtain ⟨k, rfl, hk0, hk, hok, hE⟩ := hrel
    have HO := Lib.hid hok; clear hok
    by_cases hlt : 0 < k
    · obtain ⟨m, rfl⟩ : ∃ m : Nat, k = (m : Int) + 1 := ⟨(k - 1).toNat, by omega⟩
      have hm : m + 1 < l.length := by omega
      obtain ⟨b, o, rfl, hb, c1, c2⟩ := ItemsAt.get hget hE (m + 1) hm
      obtain ⟨b', o', e', hb', d1, d2⟩ := ItemsAt.get hget hE m (by omega)
      obtain ⟨rfl, rfl⟩ : b = b' ∧ o = o' := by simpa using e'
      obtain ⟨x, hx⟩ : ∃ x, x = l.getD (m + 1) default := ⟨_, rfl⟩
      rw [← hx] at c1 c2
      obtain ⟨y, hy⟩ : ∃ y, y = l.getD m default := ⟨_, rfl⟩
      rw [← hy] at d1 d2
      have HX := Lib.hid hx; have HY := Lib.hid hy; clear hx hy e' hb'
      let S : World → Prop := fun w' => Ext wr w'
      have hS1 : ∀ z : Held S, z.w.cell? ⟨b, o + (m + 1) * 2, none⟩ = some (.int .u64 x.key) := fun z => Ext.cell z.h c1
      have hS2 : ∀ z : Held S, z.w.cell? ⟨b, o + (m + 1) * 2 + 1, none⟩ = some (.string x.val) := fun z => Ext.cell z.h c2
      have hS3 : ∀ z : Held S, z.w.cell? ⟨b, o + m * 2, none⟩ = some (.int .u64 y.key) := fun z => Ext.cell z.h d1
      have hS4 : ∀ z : Held S, z.w.cell? ⟨b, o + m * 2 + 1, none⟩ = some (.string y.val) := fun z => Ext.cell z.h d2
      haveI : Nonempty (Held S) := ⟨⟨wr, Ext.refl wr⟩⟩
      go_wp2
      refine wp_region_held S (by kernel_rfl) (by kernel_rfl) (Ext.refl wr).drew ?_
      repeat (go_big_quiet_step ((go_at_call 25; exact Calls.held ((build2_c x y _).mono fun e w' ⟨he, hb⟩ => ⟨he, Ext.trans (Held.h _) hb⟩))))
      refine wpQuiet_nil ?_; rintro _ ⟨z, rfl⟩
      clear hS1 hS2 hS3 hS4
      by_cases hc : cmpI x.key y.key < 0
      · go_wp2
        go_ret
        refine ⟨ret_bool ?_, Ext.trans hE z.h⟩
        symm
        rw [decide_eq_false_iff_not]
        intro hr
        have h1 := hr (m + 1) (by omega) hm
        unfold notFall at h1
        rw [← HX.out, Nat.add_sub_cancel, ← HY.out] at h1
        unfold cmpI at hc
        rw [if_neg (by omega)] at hc
        split at hc <;> omega
      · go_wp2
        go_roundw
        case rel =>
          refine ⟨_, rfl, by omega, by omega, fun j h1 h2 h3 => ?_, Ext.trans hE z.h⟩
          by_cases e : j = m + 1
          · rw [e]; unfold notFall
            rw [← HX.out, Nat.add_sub_cancel, ← HY.out]
            unfold cmpI at hc
            by_cases h : x.key < y.key
            · rw [if_pos h] at hc; omega
            · omega
          · exact HO.out j (by omega) h2 h3
        case measure => simp [intOf]
    · go_wp2
      go_ret
      refine ⟨ret_bool ?_, hE⟩
      symm
      rw [decide_eq_true_iff]
      intro j h1 h2
      exact HO.out j (by omega) h1 h2
end Go.Proofs.Ythgnkbkfkcdhfaa
