/- The label functions: what each call answers. -/
import Derived.Test.YthgnkbkfkcdhfaaBase
namespace Go.Proofs.Ythgnkbkfkcdhfaa
open Go.RowKit
set_option maxHeartbeats 400000

theorem ret_int {k : IntKind} {a b : Int} (h : a = b) : Ending.returned (.int k a) = .returned (.int k b) := by rw [h]
theorem ret_bool {a b : Bool} (h : a = b) : Ending.returned (.bool a) = .returned (.bool b) := by rw [h]

theorem head_c (v n : Int) (w : World) (hv : u64 v) (h0 : 0 ≤ n) (h1 : n ≤ 64) :
    Calls Try.prog 43 #[.int .u64 v, .int .i64 n] w fun e w' => e = .returned (.int .u64 (headOf v n)) ∧ w' = w := by
  have HB := Lib.hid (head_bits v n hv h0 h1)
  go_enter Try.func43, Try.ntmps43
  go_wp2
  go_ret
  exact ⟨ret_int HB.out, rfl⟩

theorem bit_c (n : Int) (w : World) (h0 : 0 ≤ n) (h1 : n < 64) :
    Calls Try.prog 80 #[.int .i64 n] w fun e w' => e = .returned (.int .u64 (pw (n + 1))) ∧ w' = w := by
  go_enter Try.func80, Try.ntmps80
  go_wp2
  go_ret
  exact ⟨ret_int (bit_eq n h0 h1), rfl⟩

theorem is_c (l : Lbl) (w : World) (hu : l.u) :
    Calls Try.prog 18 #[.agg #[.int .i64 l.len, .int .u64 l.bits]] w fun e w' => e = .returned (.bool l.ok) ∧ Ext w w' := by
  obtain ⟨n, b⟩ := l
  simp only [Lbl.ok]
  by_cases h0 : 0 ≤ n
  · have e0 : decide (0 ≤ n) = true := by simp [h0]
    by_cases h1 : n ≤ 64
    · have e1 : decide (n ≤ 64) = true := by simp [h1]
      go_enter Try.func18, Try.ntmps18
      go_wp2
      go_quiet ((go_at_call 43; exact Calls.quiet_of_same (head_c _ _ _ hu h0 h1)))
      go_wp2
      go_ret
      exact ⟨ret_bool (by show (headOf b n == b) = _; rw [Bool.eq_iff_iff]; simp [h0, h1]), ((Ext.refl w).alloc _).drewN _⟩
    · have e1 : decide (n ≤ 64) = false := by simp [h1]
      go_enter Try.func18, Try.ntmps18
      go_wp2
      go_quiet (fail)
      go_wp2
      go_ret
      exact ⟨ret_bool (by simp; intros; omega), ((Ext.refl w).alloc _).drewN _⟩
  · have e0 : decide (0 ≤ n) = false := by simp [h0]
    go_enter Try.func18, Try.ntmps18
    go_wp2
    go_quiet (fail)
    go_wp2
    go_ret
    exact ⟨ret_bool (by simp; intros; omega), ((Ext.refl w).alloc _).drewN _⟩

theorem parent1_c (l : Lbl) (w : World) (hu : l.u) (h : l.ok = true) (h0 : 0 < l.len) :
    Calls Try.prog 63 #[.agg #[.int .i64 l.len, .int .u64 l.bits], .int .u64 (pw l.len)] w fun e w' => e = .returned (.agg #[.int .i64 (parentOf l).len, .int .u64 (parentOf l).bits]) ∧ Ext w w' := by
  have HB := Lib.hid (drop_bit l h hu h0)
  obtain ⟨ha, hb, hc⟩ := (ok_iff l).1 h
  go_enter Try.func63, Try.ntmps63
  go_wp2
  refine bodyPost_ret (v := .agg #[.int .i64 (parentOf l).len, .int .u64 (parentOf l).bits]) ?_ rfl ⟨rfl, ?_⟩
  · simp [results, Try.results63, go_sem, parentOf, HB.out]
  · exact ((Ext.refl w).alloc _).alloc _

theorem covers_c (l : Lbl) (k : Int) (w : World) (hu : l.u) (hk : u64 k) :
    Calls Try.prog 13 #[.agg #[.int .i64 l.len, .int .u64 l.bits], .int .u64 k] w fun e w' => e = .returned (.bool (covers l k)) ∧ Ext w w' := by
  obtain ⟨W, hW⟩ : ∃ W : World, W = w.alloc (.cells #[.int .i64 l.len, .int .u64 l.bits] 36) := ⟨_, rfl⟩
  let S : World → Prop := fun w' => Ext W w'
  have hS0 : ∀ x : Held S, x.w.cell? ⟨w.heap.size, 0, none⟩ = some (.int .i64 l.len) := fun x => Ext.cell x.h (by rw [hW]; simp)
  have hS1 : ∀ x : Held S, x.w.cell? ⟨w.heap.size, 1, none⟩ = some (.int .u64 l.bits) := fun x => Ext.cell x.h (by rw [hW]; simp)
  haveI : Nonempty (Held S) := ⟨⟨W, Ext.refl W⟩⟩
  have hE : Ext w W := by rw [hW]; exact (Ext.refl w).alloc _
  have HW := Lib.hid hW.symm; clear hW
  by_cases h : l.ok = true
  · obtain ⟨h0, h1, hc⟩ := (ok_iff l).1 h
    go_enter Try.func13, Try.ntmps13
    go_wp2
    rw [HW.out]
    refine wp_region_held S (by kernel_rfl) (by kernel_rfl) (Ext.refl W).drew ?_
    repeat (go_big_quiet_step ((first | (go_at_call 18; exact Calls.held ((is_c l _ hu).mono fun e w' ⟨he, hb⟩ => ⟨by rw [he, h], Ext.trans (Held.h _) hb⟩)) | (go_at_call 43; exact Calls.held ((head_c _ _ _ hk h0 h1).mono fun e w' ⟨he, hb⟩ => ⟨he, by rw [hb]; exact Held.h _⟩)))))
    refine wpQuiet_nil ?_; rintro _ ⟨x, rfl⟩
    go_wp2
    go_ret
    exact ⟨ret_bool (by show (headOf k l.len == l.bits) = _; rw [Bool.eq_iff_iff]; simp [covers, h]), Ext.trans hE x.h⟩
  · have h : l.ok = false := by simpa using h
    go_enter Try.func13, Try.ntmps13
    go_wp2
    rw [HW.out]
    refine wp_region_held S (by kernel_rfl) (by kernel_rfl) (Ext.refl W).drew ?_
    repeat (go_big_quiet_step ((go_at_call 18; exact Calls.held ((is_c l _ hu).mono fun e w' ⟨he, hb⟩ => ⟨by rw [he, h], Ext.trans (Held.h _) hb⟩))))
    refine wpQuiet_nil ?_; rintro _ ⟨x, rfl⟩
    go_wp2
    go_ret
    exact ⟨ret_bool (by simp [covers, h]), Ext.trans hE x.h⟩

theorem child_c (l : Lbl) (b : Int) (w : World) (hu : l.u) (h : l.ok = true) (h64 : l.len < 64) (hb : b = 0 ∨ b = 1) :
    Calls Try.prog 61 #[.agg #[.int .i64 l.len, .int .u64 l.bits], .int .i64 b] w fun e w' => e = .returned (.tuple #[.agg #[.int .i64 (childOf l b).len, .int .u64 (childOf l b).bits], .int .i64 0]) ∧ Ext w w' := by
  have HO := Lib.hid (or_bit l h hu h64)
  obtain ⟨h0, h1, hc⟩ := (ok_iff l).1 h
  have e64 : (l.len == 64) = false := by simp; omega
  rcases hb with rfl | rfl
  all_goals
    go_enter Try.func61, Try.ntmps61
    go_wp2_with fail
    refine (is_c l _ hu).mono ?_; rintro e w1 ⟨rfl, hb⟩; have hz := hb.size; simp only [World.size_alloc] at hz; rw [h]
    have f0 := hb.at w.heap.size 0 (.int .i64 l.len) (by simp)
    have f1 := hb.at w.heap.size 1 (.int .u64 l.bits) (by simp)
    have f2 := hb.at (w.heap.size + 1) 0 (.int .i64 0) (by simp)
    have f3 := hb.at (w.heap.size + 1) 1 (.int .u64 0) (by simp)
    have g0 := hb.free w.heap.size 0 (by simp; omega) (by simp)
    have g1 := hb.free w.heap.size 1 (by simp; omega) (by simp)
    have g2 := hb.free (w.heap.size + 1) 0 (by simp) (by simp)
    have g3 := hb.free (w.heap.size + 1) 1 (by simp) (by simp)
    have hE : Ext w w1 := Ext.trans (((Ext.refl w).alloc _).alloc _) hb
    clear hb
    go_wp2
  · refine bodyPost_ret (v := .tuple #[.agg #[.int .i64 (childOf l 0).len, .int .u64 (childOf l 0).bits], .int .i64 0]) ?_ rfl ⟨rfl, ?_⟩
    · simp [results, Try.results61, go_sem, childOf, f2, f3]
    · exact ((hE.setCell (by simp) _).setCell (by simp) _).setCell (by simp) _
  · go_region_with (go_at_call 80; refine (bit_c _ _ h0 h64).mono ?_; rintro e w' ⟨rfl, rfl⟩)
    all_goals
      go_wp2
      refine bodyPost_ret (v := .tuple #[.agg #[.int .i64 (childOf l 1).len, .int .u64 (childOf l 1).bits], .int .i64 0]) ?_ rfl ⟨rfl, ?_⟩
      · simp [results, Try.results61, go_sem, childOf, f2, f3, HO.out]
      · exact ((((hE.setCell (by simp) _).setCell (by simp) _).setCell (by simp) _).setCell (by simp) _).drew

theorem child_64 (v b : Int) (w : World) (hu : u64 v) (hb : b = 0 ∨ b = 1) :
    Calls Try.prog 61 #[.agg #[.int .i64 64, .int .u64 v], .int .i64 b] w fun e w' => e = .returned (.tuple #[.agg #[.int .i64 0, .int .u64 0], .int .i64 5]) ∧ Ext w w' := by
  have e1 : ¬ b < 0 := by omega
  have e2 : ¬ 1 < b := by omega
  have h : (Lbl.mk 64 v).ok = true := (ok_iff _).2 ⟨by simp, by simp, by simp only [pw_64]; exact Int.one_dvd _⟩
  go_enter Try.func61, Try.ntmps61
  go_wp2_with fail
  refine (is_c ⟨64, v⟩ _ hu).mono ?_; rintro e w1 ⟨rfl, hb⟩; have hz := hb.size; simp only [World.size_alloc] at hz; rw [h]
  have f0 := hb.at w.heap.size 0 (.int .i64 64) (by simp)
  have f2 := hb.at (w.heap.size + 1) 0 (.int .i64 0) (by simp)
  have f3 := hb.at (w.heap.size + 1) 1 (.int .u64 0) (by simp)
  have g2 := hb.free (w.heap.size + 1) 0 (by simp) (by simp)
  have g3 := hb.free (w.heap.size + 1) 1 (by simp) (by simp)
  have hE : Ext w w1 := Ext.trans (((Ext.refl w).alloc _).alloc _) hb
  clear hb
  go_wp2
  refine bodyPost_ret (v := .tuple #[.agg #[.int .i64 0, .int .u64 0], .int .i64 5]) ?_ rfl ⟨rfl, ?_⟩
  · simp [results, Try.results61, go_sem, f2, f3]
  · exact (hE.setCell (by simp) _).setCell (by simp) _

/-- the parent's walk, by what is done with the last bit -/
theorem last_parent (l : Lbl) (w : World) (hu : l.u) (h : l.ok = true) (h0 : 0 < l.len) :
    Calls Try.prog 62 #[.agg #[.int .i64 l.len, .int .u64 l.bits], .func (.func 63) #[] #[]] w fun e w' => e = .returned (.tuple #[.agg #[.int .i64 (parentOf l).len, .int .u64 (parentOf l).bits], .int .i64 0]) ∧ Ext w w' := by
  obtain ⟨ha, hb', hc⟩ := (ok_iff l).1 h
  have e0 : (l.len == 0) = false := by simp; omega
  have hwr : IntKind.i64.wrap (l.len - 1) = l.len - 1 := by rw [IntKind.wrap_i64]; omega
  have HP := Lib.hid (show pw (l.len - 1 + 1) = pw l.len by rw [show l.len - 1 + 1 = l.len by omega])
  go_enter Try.func62, Try.ntmps62
  go_wp2_with fail
  refine (is_c l _ hu).mono ?_; rintro e w1 ⟨rfl, hb⟩; have hz := hb.size; simp only [World.size_alloc] at hz; rw [h]
  have f0 := hb.at w.heap.size 0 (.int .i64 l.len) (by simp)
  have f1 := hb.at w.heap.size 1 (.int .u64 l.bits) (by simp)
  have f2 := hb.at (w.heap.size + 1) 0 (.int .i64 0) (by simp)
  have f3 := hb.at (w.heap.size + 1) 1 (.int .u64 0) (by simp)
  have g2 := hb.free (w.heap.size + 1) 0 (by simp) (by simp)
  have g3 := hb.free (w.heap.size + 1) 1 (by simp) (by simp)
  have hE : Ext w w1 := Ext.trans (((Ext.refl w).alloc _).alloc _) hb
  clear hb
  go_wp2
  go_region_with (first | (go_at_call 80; refine (bit_c _ _ (by omega) (by omega)).mono ?_; rintro e w' ⟨rfl, rfl⟩; rw [HP.out]) | (go_at_call 63; refine (parent1_c l _ hu h h0).mono ?_; rintro e w2 ⟨rfl, hb2⟩; have k2 := hb2.at (w.heap.size + 1) 0 (.int .i64 0) (by go_simp); have k3 := hb2.at (w.heap.size + 1) 1 (.int .u64 0) (by go_simp); have j2 := hb2.free (w.heap.size + 1) 0 (by simp; omega) (by go_simp); have j3 := hb2.free (w.heap.size + 1) 1 (by simp; omega) (by go_simp); have hE2 : Ext w w2 := Ext.trans hE.drew hb2; clear hb2))
  all_goals
    go_wp2
    refine bodyPost_ret (v := .tuple #[.agg #[.int .i64 (parentOf l).len, .int .u64 (parentOf l).bits], .int .i64 0]) ?_ rfl ⟨rfl, ?_⟩
    · simp [results, Try.results62, go_sem, k2, k3]
    · repeat (first | exact hE2 | apply Ext.drew | refine Ext.setCell ?_ (by simp) _)

theorem parent_c (l : Lbl) (w : World) (hu : l.u) (h : l.ok = true) (h0 : 0 < l.len) :
    Calls Try.prog 42 #[.agg #[.int .i64 l.len, .int .u64 l.bits]] w fun e w' => e = .returned (.tuple #[.agg #[.int .i64 (parentOf l).len, .int .u64 (parentOf l).bits], .int .i64 0]) ∧ Ext w w' := by
  go_enter Try.func42, Try.ntmps42
  go_wp2_with fail
  refine (last_parent l _ hu h h0).mono ?_; rintro e w1 ⟨rfl, hb⟩; have hz := hb.size; simp only [World.size_alloc] at hz
  have q0 := hb.at (w.heap.size + 1) 0 (.int .i64 0) (by go_simp); have q0f := hb.free (w.heap.size + 1) 0 (by first | (simp; done) | (simp; omega)) (by go_simp); have q1 := hb.at (w.heap.size + 1) 1 (.int .u64 0) (by go_simp); have q1f := hb.free (w.heap.size + 1) 1 (by first | (simp; done) | (simp; omega)) (by go_simp)
  have hE : Ext w w1 := Ext.trans (((Ext.refl w).alloc _).alloc _) hb
  clear hb
  go_wp2
  refine bodyPost_ret (v := .tuple #[.agg #[.int .i64 (parentOf l).len, .int .u64 (parentOf l).bits], .int .i64 0]) ?_ rfl ⟨rfl, ?_⟩
  · simp [results, Try.results42, go_sem, q0, q1]
  · exact (hE.setCell (by simp) _).setCell (by simp) _

theorem last_root (F : Value) (w : World) :
    Calls Try.prog 62 #[.agg #[.int .i64 0, .int .u64 0], F] w fun e w' => e = .returned (.tuple #[.agg #[.int .i64 0, .int .u64 0], .int .i64 7]) ∧ Ext w w' := by
  go_enter Try.func62, Try.ntmps62
  go_wp2_with fail
  refine (is_c rootLbl _ ⟨by decide, by decide⟩).mono ?_; rintro e w1 ⟨rfl, hb⟩; have hz := hb.size; simp only [World.size_alloc] at hz; rw [show rootLbl.ok = true by decide]
  have f0 := hb.at (w.heap.size) 0 (.int .i64 0) (by go_simp); have f0f := hb.free (w.heap.size) 0 (by first | (simp; done) | (simp; omega)) (by go_simp); have f1 := hb.at (w.heap.size) 1 (.int .u64 0) (by go_simp); have f1f := hb.free (w.heap.size) 1 (by first | (simp; done) | (simp; omega)) (by go_simp)
  have q0 := hb.at (w.heap.size + 1) 0 (.int .i64 0) (by go_simp); have q0f := hb.free (w.heap.size + 1) 0 (by first | (simp; done) | (simp; omega)) (by go_simp); have q1 := hb.at (w.heap.size + 1) 1 (.int .u64 0) (by go_simp); have q1f := hb.free (w.heap.size + 1) 1 (by first | (simp; done) | (simp; omega)) (by go_simp)
  have hE : Ext w w1 := Ext.trans (((Ext.refl w).alloc _).alloc _) hb
  clear hb
  go_wp2
  refine bodyPost_ret (v := .tuple #[.agg #[.int .i64 0, .int .u64 0], .int .i64 7]) ?_ rfl ⟨rfl, ?_⟩
  · simp [results, Try.results62, go_sem, q0, q1]
  · exact (hE.setCell (by simp) _).setCell (by simp) _

theorem parent_root (w : World) :
    Calls Try.prog 42 #[.agg #[.int .i64 0, .int .u64 0]] w fun e w' => e = .returned (.tuple #[.agg #[.int .i64 0, .int .u64 0], .int .i64 7]) ∧ Ext w w' := by
  go_enter Try.func42, Try.ntmps42
  go_wp2_with fail
  refine (last_root _ _).mono ?_; rintro e w1 ⟨rfl, hb⟩; have hz := hb.size; simp only [World.size_alloc] at hz
  have q0 := hb.at (w.heap.size + 1) 0 (.int .i64 0) (by go_simp); have q0f := hb.free (w.heap.size + 1) 0 (by first | (simp; done) | (simp; omega)) (by go_simp); have q1 := hb.at (w.heap.size + 1) 1 (.int .u64 0) (by go_simp); have q1f := hb.free (w.heap.size + 1) 1 (by first | (simp; done) | (simp; omega)) (by go_simp)
  have hE : Ext w w1 := Ext.trans (((Ext.refl w).alloc _).alloc _) hb
  clear hb
  go_wp2
  refine bodyPost_ret (v := .tuple #[.agg #[.int .i64 0, .int .u64 0], .int .i64 7]) ?_ rfl ⟨rfl, ?_⟩
  · simp [results, Try.results42, go_sem, q0, q1]
  · exact (hE.setCell (by simp) _).setCell (by simp) _

theorem span_c (l : Lbl) (w : World) (hu : l.u) (h : l.ok = true) :
    Calls Try.prog 15 #[.agg #[.int .i64 l.len, .int .u64 l.bits]] w fun e w' => e = .returned (.tuple #[.int .u64 l.bits, .int .u64 (spanHi l), .int .i64 0]) ∧ Ext w w' := by
  have HS := Lib.hid (span_bits l h hu)
  obtain ⟨h0, h1, hc⟩ := (ok_iff l).1 h
  go_enter Try.func15, Try.ntmps15
  go_wp2_with fail
  refine (is_c l _ hu).mono ?_; rintro e w1 ⟨rfl, hb⟩; have hz := hb.size; simp only [World.size_alloc] at hz; rw [h]
  have f0 := hb.at (w.heap.size) 0 (.int .i64 l.len) (by go_simp); have f0f := hb.free (w.heap.size) 0 (by first | (simp; done) | (simp; omega)) (by go_simp); have f1 := hb.at (w.heap.size) 1 (.int .u64 l.bits) (by go_simp); have f1f := hb.free (w.heap.size) 1 (by first | (simp; done) | (simp; omega)) (by go_simp)
  have hE : Ext w w1 := Ext.trans ((Ext.refl w).alloc _) hb
  clear hb
  go_wp2
  go_quiet (fail)
  go_wp2
  go_ret3
  exact ⟨by show Ending.returned (.tuple #[.int .u64 l.bits, .int .u64 (bits BinOp.or IntKind.u64 l.bits (18446744073709551615 / 2 ^ l.len.toNat)), .int .i64 0]) = _; rw [HS.out], hE.drewN _⟩

def nextOf (l : Lbl) : Value := if spanHi l = 18446744073709551615 then .tuple #[.int .u64 0, .bool false] else .tuple #[.int .u64 (spanHi l + 1), .bool true]
theorem next_c (l : Lbl) (w : World) (hu : l.u) (h : l.ok = true) :
    Calls Try.prog 16 #[.agg #[.int .i64 l.len, .int .u64 l.bits]] w fun e w' => e = .returned (nextOf l) ∧ Ext w w' := by
  have hp := pw_le_of l h hu
  have hpos := pw_pos l.len
  have hb0 := hu.1
  have h2 : 0 ≤ spanHi l := by unfold spanHi; omega
  have h3 : spanHi l ≤ 18446744073709551615 := by unfold spanHi; omega
  go_enter Try.func16, Try.ntmps16
  go_wp2_with fail
  refine (span_c l _ hu h).mono ?_; rintro e w1 ⟨rfl, hb⟩; have hz := hb.size; simp only [World.size_alloc] at hz
  have hE : Ext w w1 := Ext.trans ((Ext.refl w).alloc _) hb
  clear hb
  clear hp hpos hb0
  by_cases hm : spanHi l = 18446744073709551615
  · have e1 : (spanHi l == 18446744073709551615) = true := by rw [hm]; rfl
    have HM := Lib.hid hm; clear hm
    go_wp2
    go_ret2
    exact ⟨by unfold nextOf; rw [if_pos HM.out]; rfl, hE⟩
  · have e1 : (spanHi l == 18446744073709551615) = false := by simpa using hm
    have HM := Lib.hid hm; clear hm
    have hlt : spanHi l < 18446744073709551615 := by have := HM.out; omega
    go_wp2
    go_ret2
    exact ⟨by unfold nextOf; rw [if_neg HM.out]; rfl, hE⟩
end Go.Proofs.Ythgnkbkfkcdhfaa
