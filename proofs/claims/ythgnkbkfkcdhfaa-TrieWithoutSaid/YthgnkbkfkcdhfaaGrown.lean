/- The document's row: it stands. -/
import Derived.Test.YthgnkbkfkcdhfaaLawP
import Derived.Test.YthgnkbkfkcdhfaaWell
namespace Go.Proofs.Ythgnkbkfkcdhfaa
open Go.RowKit
set_option maxHeartbeats 1000000
set_option linter.unusedSimpArgs false

theorem not_bad_of {l : List Item} {b : Int} (h : Fit l b) : ¬ badB l b := by
  have hlt : ∀ i, 0 < i → i < l.length → (l.getD (i - 1) default).key < (l.getD i default).key := fun i h0 hi => by
    rw [getD_lt (show i - 1 < l.length by omega), getD_lt hi]
    exact (List.pairwise_iff_getElem.1 h.r) (i - 1) i _ _ (by omega)
  have h1 := h.b1; have h2 := h.b16
  rintro (k | k | k | k | ⟨i, h0, hi, e⟩)
  · omega
  · omega
  · obtain ⟨x, hx, hs⟩ := List.any_eq_true.1 k
    have := h.val x hx
    simp at hs; omega
  · exact k fun i h0 hi => Int.le_of_lt (hlt i h0 hi)
  · have := hlt i h0 hi
    omega
def twoItems : List Item := [⟨1, ⟨#[]⟩⟩, ⟨1, ⟨#[]⟩⟩]
theorem two_bad : badB twoItems 2 := .inr (.inr (.inr (.inr ⟨1, by decide, by decide, rfl⟩)))
theorem gRight : rowsRight gRows := by
  have := (final_well gFit (shape_len gFit gGrow)).2.2.2.1
  rwa [gRows_eq] at this
theorem gU : rowsU gRows := by have := final_U gFit; rwa [gRows_eq] at this
theorem gTU : treeU (rowsMap gRows) := by have := final_treeU gFit (by decide); rwa [gRows_eq] at this
theorem gItemsOf : itemsOf (rowsMap gRows) 65 rootLbl = gItems := by have := final_items gFit; rwa [gRows_eq] at this
theorem final_lv {l : List Item} {b : Int} (h : Fit l b) {lv : List Lbl} (hp : lv.Perm (leavesOf (finalRows (shape b 65 l rootLbl)))) (hs : Sorted lv) : lv = leafLbls (shape b 65 l rootLbl) := by
  have : leavesOf (finalRows (shape b 65 l rootLbl)) = leafLbls (shape b 65 l rootLbl) := final_leaves h
  rw [this] at hp
  exact sorted_unique (leaf_sorted h) hp hs
theorem well_g2 (w : World) (v : Value) (hv : RowsAt w v gRows) : Calls Try.prog 11 #[v, .int .i64 2] w fun e w' => e = .returned (.bool true) ∧ Ext w w' := by
  refine (well_c w v gRows 2 hv gU gTU (by decide)).mono ?_
  rintro e w' ⟨lv, hp, hs, hE, q, rfl, hq⟩
  have hw := final_well gFit (shape_len gFit gGrow)
  rw [← gRows_eq] at hp hq
  rw [final_lv gFit hp hs] at hq
  rw [hq.2 hw]
  exact ⟨rfl, hE⟩
theorem well_g1 (w : World) (v : Value) (hv : RowsAt w v gRows) : Calls Try.prog 11 #[v, .int .i64 1] w fun e w' => e = .returned (.bool false) ∧ Ext w w' := by
  refine (well_c w v gRows 1 hv gU gTU (by decide)).mono ?_
  rintro e w' ⟨lv, hp, hs, hE, q, rfl, hq⟩
  have hn : ¬ wellP gRows lv 1 := by
    rintro ⟨-, -, -, -, h⟩
    have := h (⟨1, 0⟩, ⟨1, [⟨1, ⟨#[]⟩⟩, ⟨2, ⟨#[]⟩⟩], ⟨1, 9223372036854775808⟩, 0⟩) (by decide +kernel)
    rw [wellRow_iff] at this
    rcases this.2 with ⟨-, h2, -⟩ | ⟨h2, -⟩
    · exact absurd h2 (by decide)
    · exact absurd h2 (by decide)
  have : q = false := by
    cases q
    · rfl
    · exact absurd (hq.1 rfl) hn
  rw [this]
  exact ⟨rfl, hE⟩
set_option maxRecDepth 100000 in
theorem grown_c (w : World) : Calls Try.prog 9 #[] w fun e w' => e = .returned (.bool true) ∧ Ext w w' := by
  obtain ⟨W, hW⟩ : ∃ W : World, W = w.alloc (.cells #[.int .u64 1, .string ⟨#[]⟩, .int .u64 2, .string ⟨#[]⟩, .int .u64 9223372036854775808, .string ⟨#[]⟩] 42) := ⟨_, rfl⟩
  have hE : Ext w W := by rw [hW]; exact (Ext.refl w).alloc _
  have hI : ItemsAt W (.slice (some ⟨w.heap.size, 0, none⟩) 3 3) gItems := by
    rw [hW]
    refine ⟨some ⟨w.heap.size, 0, none⟩, 3, rfl, by decide, by decide, (fun e => by cases e), fun i hi => ⟨w.heap.size, 0, rfl, ?_⟩⟩
    have : i = 0 ∨ i = 1 ∨ i = 2 := by simp [gItems] at hi; omega
    rcases this with rfl | rfl | rfl
    · exact ⟨by simp [gItems], by simp [gItems]⟩
    · exact ⟨by simp [gItems], by simp [gItems]⟩
    · exact ⟨by simp [gItems], by simp [gItems]⟩
  have HW := Lib.hid hW.symm; clear hW
  go_enter Try.func9, Try.ntmps9
  go_wp2_with fail
  rw [HW.out]
  refine (build_c W _ gItems 2 hI (by decide) gFit.u).mono ?_
  rintro e w2 ⟨hE2, (⟨hbad, -⟩ | ⟨-, h, -⟩ | ⟨-, -, -, v2, rfl, hR2⟩)⟩
  · exact absurd hbad (not_bad_of gFit)
  · rcases h with h | h
    · exact absurd h (by decide)
    · rw [gGrow] at h; cases h
  rw [gRows_eq] at hR2
  have hR2' := hR2
  obtain ⟨ao, c, rfl, -, -, -, hrow⟩ := hR2'
  obtain ⟨b0, o0, iv0, e0, hr0⟩ := hrow 0 (by decide)
  obtain ⟨b1, o1, iv1, e1, hr1⟩ := hrow 1 (by decide)
  obtain ⟨b2, o2, iv2, e2, hr2⟩ := hrow 2 (by decide)
  subst e0
  simp only [Option.some.injEq, Addr.mk.injEq] at e1 e2
  obtain ⟨rfl, rfl, -⟩ := e1
  obtain ⟨rfl, rfl, -⟩ := e2
  have q0 : w2.cell? ⟨b0, o0 + 3, none⟩ = some (.int .i64 2) := hr0.c3
  have q1 : ∃ a1 k1, w2.cell? ⟨b0, o0 + 8 + 4, none⟩ = some (.slice a1 2 k1) := by
    obtain ⟨a1, k1, e, -⟩ := hr1.it
    refine ⟨a1, k1, ?_⟩
    have := hr1.c4
    rw [e] at this
    exact this
  obtain ⟨a1, k1, q1⟩ := q1
  have q2 : w2.cell? ⟨b0, o0 + 8 + 5, none⟩ = some (.int .i64 1) := hr1.c5
  have q3 : w2.cell? ⟨b0, o0 + 8 + 6, none⟩ = some (.int .u64 9223372036854775808) := hr1.c6
  have q4 : w2.cell? ⟨b0, o0 + 16, none⟩ = some (.int .i64 1) := hr2.c0
  have q5 : w2.cell? ⟨b0, o0 + 16 + 1, none⟩ = some (.int .u64 9223372036854775808) := hr2.c1
  have HC := Lib.hid (fun (W' : World) (h : Ext w2 W') => And.intro (h.cell q0) (And.intro (h.cell q1) (And.intro (h.cell q2) (And.intro (h.cell q3) (And.intro (h.cell q4) (h.cell q5))))))
  clear hrow hr0 hr1 hr2 q0 q1 q2 q3 q4 q5
  obtain ⟨W3, hW3⟩ : ∃ W3 : World, W3 = w2.alloc (.cells #[.int .u64 1, .string ⟨#[]⟩, .int .u64 1, .string ⟨#[]⟩] 42) := ⟨_, rfl⟩
  have hE3 : Ext w2 W3 := by rw [hW3]; exact (Ext.refl w2).alloc _
  have hI3 : ItemsAt W3 (.slice (some ⟨w2.heap.size, 0, none⟩) 2 2) twoItems := by
    rw [hW3]
    refine ⟨some ⟨w2.heap.size, 0, none⟩, 2, rfl, by decide, by decide, (fun e => by cases e), fun i hi => ⟨w2.heap.size, 0, rfl, ?_⟩⟩
    have : i = 0 ∨ i = 1 := by simp [twoItems] at hi; omega
    rcases this with rfl | rfl
    · exact ⟨by simp [twoItems], by simp [twoItems]⟩
    · exact ⟨by simp [twoItems], by simp [twoItems]⟩
  have HW3 := Lib.hid hW3.symm; clear hW3
  go_wp2_with fail
  rw [HW3.out]
  refine (build_c W3 _ twoItems 2 hI3 (by decide) (fun x hx => by simp [twoItems] at hx; rw [hx]; exact ⟨by decide, by decide⟩)).mono ?_
  rintro e w4 ⟨hE4, (⟨-, rfl⟩ | ⟨hbad, -⟩ | ⟨hbad, -⟩)⟩
  rotate_left
  · exact absurd two_bad hbad
  · exact absurd two_bad hbad
  have hE24 := hE3.trans hE4
  obtain ⟨q0, -⟩ := HC.out w4 hE24
  have q0' : w4.cell? ⟨b0, o0 + 0 * 8 + 3, none⟩ = some (.int .i64 2) := by simpa using q0
  have hR4 := hR2.ext hE24
  go_wp2_with fail
  refine (items_c 3 w4 _ gRows hR4 gU gTU (by rw [gItemsOf]; decide) (by decide)).mono ?_
  rintro e w5 ⟨hE5, (⟨-, v5, rfl, hI5⟩ | ⟨hn, -⟩)⟩
  rotate_left
  · exact absurd gRight hn
  rw [gItemsOf] at hI5
  have hE25 := hE24.trans hE5
  obtain ⟨i5, c5, rfl⟩ : ∃ i5 c5, v5 = .slice i5 3 c5 := by obtain ⟨i5, c5, e, -⟩ := hI5; exact ⟨i5, c5, e⟩
  have hI25 := (hI.ext hE2).ext hE25
  have hRx := hR4.ext hE5
  have HS := Lib.hid (fun (W' : World) (h : Ext w5 W') => HC.out W' (hE25.trans h))
  have HE := Lib.hid ((hE.trans hE2).trans hE25)
  clear q0 q0' hR2 hR4 hE hE2 hE3 hE4 hE5 hE24 hE25 hI hI3
  go_wp2_with fail
  go_region_held3 (fun w' => w'.cell? ⟨b0, o0 + 3, none⟩ = some (.int .i64 2) ∧ w'.cell? ⟨b0, o0 + 8 + 3 + 1, none⟩ = some (.slice a1 2 k1) ∧ w'.cell? ⟨b0, o0 + 8 + 3 + 2, none⟩ = some (.int .i64 1) ∧ w'.cell? ⟨b0, o0 + 8 + 3 + 2 + 1, none⟩ = some (.int .u64 9223372036854775808) ∧ w'.cell? ⟨b0, o0 + 16, none⟩ = some (.int .i64 1) ∧ w'.cell? ⟨b0, o0 + 16 + 1, none⟩ = some (.int .u64 9223372036854775808))
    (first | exact HS.out _ (Ext.refl _).drew | exact HS.out _ hb6 | exact HS.out _ hb7 | exact HS.out _ hb8 | exact HS.out _ hb9 | exact HS.out _ hb10)
    (first
      | (go_at_call 12; refine (same_c _ _ _ gItems gItems (hI5.ext (Ext.refl _).drew) (hI25.ext (Ext.refl _).drew)).mono ?_; rintro e w6 ⟨rfl, hb6'⟩; have hb6 : Ext w5 w6 := Ext.trans (Ext.refl _).drew hb6'; clear hb6'; rw [show decide (gItems = gItems) = true from by simp])
      | (go_at_call_of 11 (Value.int IntKind.i64 2); refine (well_g2 _ _ (hRx.ext hb6)).mono ?_; rintro e w7 ⟨rfl, hb7'⟩; have hb7 : Ext w5 w7 := Ext.trans hb6 hb7'; clear hb7')
      | (go_at_call_of 11 (Value.int IntKind.i64 1); refine (well_g1 _ _ (hRx.ext hb7)).mono ?_; rintro e w8 ⟨rfl, hb8'⟩; have hb8 : Ext w5 w8 := Ext.trans hb7 hb8'; clear hb8')
      | (go_at_call 37; refine (trieIs_c _ _ gRows (hRx.ext hb8) gU).mono ?_; rintro e w9 ⟨q9, rfl, hb9', hq9⟩; have hb9 : Ext w5 w9 := Ext.trans hb8 hb9'; have hq9t : q9 = true := hq9.2 gRight; subst hq9t; clear hb9' hq9)
      | (go_at_call 14; refine (leaves_c _ _ gRows (hRx.ext hb9) (by decide)).mono ?_; rintro e w10 ⟨v10, l10, rfl, hp10, -, hva10, hb10'⟩; have hb10 : Ext w5 w10 := Ext.trans hb9 hb10'; obtain ⟨a10, c10, rfl, -⟩ := hva10; have h10 : l10.length = 2 := hp10.length_eq; rw [h10]; clear hb10' hp10 h10))
  go_wp2
  go_ret
  exact ⟨ret_bool rfl, Ext.trans HE.out hb10⟩
end Go.Proofs.Ythgnkbkfkcdhfaa
