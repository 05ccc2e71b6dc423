/- The law TrieBuilt: the walk. -/
import Derived.Test.YthgnkbkfkcdhfaaGrown
namespace Go.Proofs.Ythgnkbkfkcdhfaa
open Go.RowKit
set_option maxHeartbeats 1000000
set_option linter.unusedSimpArgs false

theorem RowsAt.get {w : World} {ao : Option Addr} {c : Nat} {l : List Row} {n : Nat} (h : RowsAt w (.slice ao n c) l) : l.length = n ∧ n ≤ c ∧ c ≤ 9223372036854775807 ∧ ∀ i, i < l.length → ∃ b o iv, ao = some ⟨b, o, none⟩ ∧ RowCells w b (o + i * 8) iv (l.getD i default) := by
  obtain ⟨ao', c', e, h1, h2, h3, h4⟩ := h
  simp only [Value.slice.injEq] at e
  obtain ⟨rfl, rfl, rfl⟩ := e
  exact ⟨rfl, h1, h2, h4⟩
set_option maxRecDepth 100000 in
theorem built_c (w : World) (v : Value) (l : List Item) (b : Int) (hv : ItemsAt w v l) (hu : ∀ x ∈ l, u64 x.key) : Calls Try.prog 3 #[v, .int .i64 b] w fun e w' => e = .returned (.bool true) ∧ Ext w w' := by
  obtain ⟨io, ic, rfl⟩ : ∃ io ic, v = .slice io l.length ic := by obtain ⟨io, ic, e, -⟩ := hv; exact ⟨io, ic, e⟩
  go_enter Try.func3, Try.ntmps3
  go_wp2_with fail
  refine (few24_c w _ l hv).mono ?_
  rintro e w' ⟨q, rfl, hq, rfl⟩
  cases q
  · go_wp2
    go_ret
    exact ⟨rfl, Ext.refl _⟩
  · have h60 : l.length ≤ 60 := hq rfl
    clear hq
    go_wp2_with fail
    refine (build_c w' _ l b hv (by omega) hu).mono ?_
    rintro e w2 ⟨hE2, (⟨-, rfl⟩ | ⟨-, -, rfl⟩ | ⟨hgood, -, hgrow, v2, rfl, hR2⟩)⟩
    · go_wp2_with fail
      refine (grown_c w2).mono ?_
      rintro e w3 ⟨rfl, hE3⟩
      go_wp2
      go_ret
      exact ⟨rfl, hE2.trans hE3⟩
    · go_wp2_with fail
      refine (grown_c w2).mono ?_
      rintro e w3 ⟨rfl, hE3⟩
      go_wp2
      go_ret
      exact ⟨rfl, hE2.trans hE3⟩
    · have hfit := Fit.of hgood hu
      have hlenR := shape_len hfit hgrow
      have hwell := final_well hfit hlenR
      have hU := final_U hfit
      have hTU := final_treeU hfit (by omega)
      have hIt := final_items hfit
      have hK := final_kind hfit
      have hlv := @final_lv l b hfit
      rw [← final_len hfit] at hlenR
      obtain ⟨R, hR⟩ : ∃ R, R = finalRows (shape b 65 l rootLbl) := ⟨_, rfl⟩
      obtain ⟨ls, hls⟩ : ∃ ls, ls = leafLbls (shape b 65 l rootLbl) := ⟨_, rfl⟩
      rw [← hR] at hR2 hlenR hwell hU hTU hIt hK hlv
      rw [← hls] at hwell hlv
      have HG := Lib.hid hgood
      clear hR hls hfit hgrow hgood
      have HWELL := Lib.hid hwell; have HLV := Lib.hid (fun lv h1 h2 => @hlv lv h1 h2); have HIT := Lib.hid hIt; have HKI := Lib.hid hK
      clear hwell hlv hIt hK
      obtain ⟨ao, c, rfl⟩ : ∃ ao c, v2 = .slice ao R.length c := by obtain ⟨ao, c, e, -⟩ := hR2; exact ⟨ao, c, e⟩
      go_wp2_with fail
      refine (items_c 60 w2 _ R hR2 hU hTU (by rw [HIT.out]; exact h60) (by decide)).mono ?_
      rintro e w3 ⟨hE3, (⟨-, v3, rfl, hI3⟩ | ⟨hn, -⟩)⟩
      rotate_left
      · exact absurd HWELL.out.2.2.2.1 hn
      rw [HIT.out] at hI3
      obtain ⟨i3, c3, rfl⟩ : ∃ i3 c3, v3 = .slice i3 l.length c3 := by obtain ⟨i3, c3, e, -⟩ := hI3; exact ⟨i3, c3, e⟩
      go_wp2_with fail
      refine (well_c w3 _ R b (hR2.ext hE3) hU hTU (by omega)).mono ?_
      rintro e w4 ⟨lv, hp4, hs4, hE4, q4, rfl, hq4⟩
      have hqt : q4 = true := by
        rw [HLV.out lv hp4 hs4] at hq4
        exact hq4.2 HWELL.out
      subst hqt
      clear hq4 hp4 hs4
      go_wp2_with fail
      refine (same_c w4 _ _ l l (hI3.ext hE4) (((hv.ext hE2).ext hE3).ext hE4)).mono ?_
      rintro e w5 ⟨rfl, hE5⟩
      rw [show decide (l = l) = true by simp]
      have hE45 := (hE3.trans hE4).trans hE5
      have hE05 := hE2.trans hE45
      have hRg := hR2.ext hE45
      have hvg := hv.ext hE05
      have HRG := Lib.hid hRg; have HVG := Lib.hid hvg
      clear hI3 hE3 hE4 hE5 hE45 hRg hvg hR2
      go_wp2
      go_loopw [9] (fun i wr => ∃ k : Nat, k ≤ R.length ∧ i = .int .i64 k ∧ Ext w5 wr) (fun i _ => R.length - (intOf i).toNat)
      case atStart => exact ⟨0, by omega, rfl, Ext.refl _⟩
      case round =>
        obtain ⟨k, hk, rfl, hE⟩ := hrel
        by_cases hlt : k < R.length
        · obtain ⟨-, -, -, hget⟩ := (HRG.out.ext hE).get
          obtain ⟨bb, o, iv, rfl, hrow⟩ := hget k hlt
          have hki := HKI.out k hlt
          obtain ⟨x, hx⟩ : ∃ x, x = R.getD k default := ⟨_, rfl⟩
          have hxu : x.lbl.u := by rw [hx, getD_lt hlt]; exact (hU _ (List.getElem_mem hlt)).1
          rw [← hx] at hrow hki
          have HX := Lib.hid hx; have HKK := Lib.hid hki
          clear hget hx hki
          have HC := Lib.hid (fun (W' : World) (h : Ext wr W') => And.intro (h.cell hrow.c0) (And.intro (h.cell hrow.c1) (And.intro (h.cell hrow.c2) (h.cell hrow.c3))))
          clear hrow
          obtain ⟨wo, rfl⟩ : ∃ wo : World, wo = wr := ⟨_, rfl⟩
          go_wp2
          go_loopw [10, 11] (fun n j wr => ∃ q : Nat, q ≤ l.length ∧ j = .int .i64 q ∧ n = .int .i64 (coveredOf (l.take q) x.lbl).length ∧ Ext wo wr) (fun _ j _ => l.length - (intOf j).toNat)
          case atStart => exact ⟨0, by omega, rfl, by simp [coveredOf], Ext.refl _⟩
          case round =>
            obtain ⟨q, hq, rfl, rfl, hE6⟩ := hrel
            by_cases hlq : q < l.length
            · obtain ⟨bi, oi, hio, ci1, ci2⟩ : ∃ bi oi, io = some ⟨bi, oi, none⟩ ∧ wr.cell? ⟨bi, oi + q * 2, none⟩ = some (.int .u64 (l.getD q default).key) ∧ wr.cell? ⟨bi, oi + q * 2 + 1, none⟩ = some (.string (l.getD q default).val) := by
                obtain ⟨ao', c', e, -, -, -, hg⟩ := (HVG.out.ext hE).ext hE6
                simp only [Value.slice.injEq] at e
                obtain ⟨rfl, -, -⟩ := e
                exact hg q hlq
              subst hio
              have hsn := coveredOf_snoc l x.lbl q hlq
              have hyu : Go.Proofs.Ythgnkbkfkcdhfaa.u64 (l.getD q default).key := by rw [getD_lt hlq]; exact hu _ (List.getElem_mem hlq)
              obtain ⟨y, hy⟩ : ∃ y, y = l.getD q default := ⟨_, rfl⟩
              rw [← hy] at ci1 hsn hyu
              have hle : (coveredOf (l.take q) x.lbl).length ≤ q := Nat.le_trans (List.length_filter_le _ _) (by rw [List.length_take]; omega)
              have HSN := Lib.hid hsn
              have HCI := Lib.hid (fun (W' : World) (h : Ext wr W') => And.intro (HC.out W' (hE6.trans h)) (h.cell ci1))
              clear hy hsn ci1 ci2
              have i0 : (0 : Int) ≤ (k : Int) := by omega
              have i1 : (k : Int) < (R.length : Int) := by omega
              have i2 : (0 : Int) ≤ (q : Int) := by omega
              have i3 : (q : Int) < (l.length : Int) := by omega
              by_cases hcv : covers x.lbl y.key = true
              · go_wp2
                go_region_held3 (fun w' => w'.cell? ⟨bb, o + k * 8, none⟩ = some (.int .i64 x.lbl.len) ∧ w'.cell? ⟨bb, o + k * 8 + 1, none⟩ = some (.int .u64 x.lbl.bits) ∧ w'.cell? ⟨bi, oi + q * 2, none⟩ = some (.int .u64 y.key))
                  (first | (have h := HCI.out _ (Ext.refl _).drew; exact ⟨h.1.1, h.1.2.1, h.2⟩) | (have h := HCI.out _ hb8; exact ⟨h.1.1, h.1.2.1, h.2⟩))
                  (first | (go_at_call 13; refine (covers_c x.lbl y.key _ hxu hyu).mono ?_; rintro e w8 ⟨rfl, hb8'⟩; have hb8 : Ext wr w8 := Ext.trans (Ext.refl _).drew hb8'; clear hb8') | fail)
                go_wp2
                go_roundw
                case rel => exact ⟨q + 1, by omega, by go_num, by rw [HSN.out, if_pos hcv, List.length_append]; go_num, hE6.trans hb8⟩
                case measure => simp [intOf]; omega
              · have hcv : covers x.lbl y.key = false := by simpa using hcv
                go_wp2
                go_region_held3 (fun w' => w'.cell? ⟨bb, o + k * 8, none⟩ = some (.int .i64 x.lbl.len) ∧ w'.cell? ⟨bb, o + k * 8 + 1, none⟩ = some (.int .u64 x.lbl.bits) ∧ w'.cell? ⟨bi, oi + q * 2, none⟩ = some (.int .u64 y.key))
                  (first | (have h := HCI.out _ (Ext.refl _).drew; exact ⟨h.1.1, h.1.2.1, h.2⟩) | (have h := HCI.out _ hb8; exact ⟨h.1.1, h.1.2.1, h.2⟩))
                  (first | (go_at_call 13; refine (covers_c x.lbl y.key _ hxu hyu).mono ?_; rintro e w8 ⟨rfl, hb8'⟩; have hb8 : Ext wr w8 := Ext.trans (Ext.refl _).drew hb8'; clear hb8') | fail)
                go_wp2
                go_roundw
                case rel => exact ⟨q + 1, by omega, by go_num, by rw [HSN.out, if_neg (by rw [hcv]; exact Bool.false_ne_true), List.append_nil], hE6.trans hb8⟩
                case measure => simp [intOf]; omega
            · have hall : l.take q = l := List.take_of_length_le (by omega)
              rw [hall]
              obtain ⟨q0, q1, q2, q3⟩ := HC.out wr hE6
              obtain ⟨hk1, hk2⟩ := HKK.out
              rw [hk2] at q2
              have HK1 := Lib.hid hk1
              clear hk1 hk2 hall
              by_cases hkd : x.rc.kind = 2
              · have e1 : (x.rc.kind == 2) = true := by simp [hkd]
                have e2 : decide (b < ((coveredOf l x.lbl).length : Int)) = true := by simpa using HK1.out.1 hkd
                clear hkd
                go_wp2
                go_roundw
                case rel => exact ⟨k + 1, by omega, by go_num, hE.trans hE6⟩
                case measure => simp [intOf]; omega
              · have e1 : (x.rc.kind == 2) = false := by simp [hkd]
                have e2 : decide (b < ((coveredOf l x.lbl).length : Int)) = false := by rw [decide_eq_false_iff_not]; exact fun h => hkd (HK1.out.2 h)
                clear hkd
                go_wp2
                go_roundw
                case rel => exact ⟨k + 1, by omega, by go_num, hE.trans hE6⟩
                case measure => simp [intOf]; omega
        · go_wp2_with fail
          refine (grown_c wr).mono ?_
          rintro e w7 ⟨rfl, hE7⟩
          go_wp2
          go_ret
          exact ⟨rfl, (hE05.trans hE).trans hE7⟩
end Go.Proofs.Ythgnkbkfkcdhfaa
