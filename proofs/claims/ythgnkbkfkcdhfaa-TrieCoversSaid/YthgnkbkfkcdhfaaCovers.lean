/- The law TrieCovers: the walk. -/
import Derived.Test.YthgnkbkfkcdhfaaBuilt
namespace Go.Proofs.Ythgnkbkfkcdhfaa
open Go.RowKit
set_option maxHeartbeats 1000000
set_option linter.unusedSimpArgs false

/-! ## Plain -/
def cntCov (key : Int) (ls : List Lbl) : Nat := (ls.filter fun x => covers x key).length
theorem cntCov_snoc (key : Int) (ls : List Lbl) (k : Nat) (h : k < ls.length) : cntCov key (ls.take (k + 1)) = cntCov key (ls.take k) + if covers (ls.getD k default) key then 1 else 0 := by
  unfold cntCov
  rw [List.take_succ_eq_append_getElem h, List.filter_append, List.length_append, getD_lt h]
  congr 1
  simp only [List.filter_cons, List.filter_nil]
  split <;> rfl
theorem cntCov_low (key : Int) : ∀ (ls : List Lbl) (lo hi : Int), (∀ x ∈ ls, x.ok = true) → Tiles ls lo hi → key < lo → cntCov key ls = 0
  | [], _, _, _, _, _ => rfl
  | x :: r, lo, hi, hok, ⟨h1, h2⟩, hk => by
    have hp := pw_pos x.len
    have hx : covers x key = false := by
      rw [Bool.eq_false_iff]
      intro h
      have := ((covers_iff _ _).1 h).2.1
      omega
    have ih := cntCov_low key r _ hi (fun y hy => hok y (List.mem_cons_of_mem _ hy)) h2 (by omega)
    unfold cntCov at ih ⊢
    simp only [List.filter_cons, hx]
    simpa using ih
theorem cntCov_one (key : Int) : ∀ (ls : List Lbl) (lo hi : Int), (∀ x ∈ ls, x.ok = true) → Tiles ls lo hi → lo ≤ key → key < hi → cntCov key ls = 1
  | [], _, _, _, h, h1, h2 => by simp only [Tiles] at h; omega
  | x :: r, lo, hi, hok, ⟨h1, h2⟩, hlo, hhi => by
    by_cases hc : key < x.bits + pw x.len
    · have hx : covers x key = true := (covers_iff _ _).2 ⟨hok x List.mem_cons_self, by omega, hc⟩
      have hr := cntCov_low key r _ hi (fun y hy => hok y (List.mem_cons_of_mem _ hy)) h2 hc
      unfold cntCov at hr ⊢
      simp only [List.filter_cons, hx, if_true, List.length_cons, hr]
    · have hx : covers x key = false := by
        rw [Bool.eq_false_iff]
        intro h
        exact hc ((covers_iff _ _).1 h).2.2
      have ih := cntCov_one key r _ hi (fun y hy => hok y (List.mem_cons_of_mem _ hy)) h2 (by omega) hhi
      unfold cntCov at ih ⊢
      simp only [List.filter_cons, hx]
      simpa using ih
theorem tiles_next : ∀ (ls : List Lbl) (lo hi : Int), Tiles ls lo hi → ∀ k, (h : k + 1 < ls.length) → ls[k + 1].bits = ls[k].bits + pw ls[k].len
  | [], _, _, _, k, h => absurd h (Nat.not_lt_zero _)
  | [_], _, _, _, k, h => by simp at h
  | x :: y :: r, lo, hi, ⟨h1, h2⟩, k, h => by
    cases k with
    | zero => exact h2.1
    | succ k => exact tiles_next (y :: r) _ hi h2 k (by simpa using h)
section
variable {l : List Item} {b : Int} (h : Fit l b)
include h
theorem final_tiles : Tiles (leafLbls (shape b 65 l rootLbl)) 0 18446744073709551616 := by
  have := shape_tiles b 65 l rootLbl (root_place h)
  rw [show rootLbl.bits = 0 from rfl, show rootLbl.len = 0 from rfl, pw_0] at this
  exact this
theorem final_has (i k : Nat) (hi : i < (finalRows (shape b 65 l rootLbl)).length) (hk : k < l.length) :
    (decide (((finalRows (shape b 65 l rootLbl)).getD i default).rc.kind = 1) && covers ((finalRows (shape b 65 l rootLbl)).getD i default).lbl (l.getD k default).key) =
      ((finalRows (shape b 65 l rootLbl)).getD i default).rc.items.any (fun z => decide (z = l.getD k default)) := by
  rw [getD_lt hi, getD_lt hk]
  have hi' : i < (shape b 65 l rootLbl).length := by rwa [final_len h] at hi
  have e : (finalRows (shape b 65 l rootLbl))[i] = finalRow (leafLbls (shape b 65 l rootLbl)) (shape b 65 l rootLbl)[i] := by simp [finalRows]
  rw [e]
  obtain ⟨h1, -⟩ := shape_its b h.b1 65 l rootLbl (root_place h) (by decide) _ (List.getElem_mem hi')
  simp only [finalRow]
  by_cases hlf : (shape b 65 l rootLbl)[i].leaf = true
  · simp only [hlf, if_true] at h1 ⊢
    rw [h1, Bool.eq_iff_iff]
    simp only [decide_true, Bool.true_and, List.any_eq_true, decide_eq_true_eq]
    constructor
    · intro hc
      exact ⟨l[k], mem_covered.2 ⟨List.getElem_mem hk, hc⟩, rfl⟩
    · rintro ⟨z, hz, rfl⟩
      exact (mem_covered.1 hz).2
  · have hlf : (shape b 65 l rootLbl)[i].leaf = false := by simpa using hlf
    simp [hlf]
end
theorem any_take (m : List Item) (y : Item) (k : Nat) (h : k < m.length) : (m.take (k + 1)).any (fun z => decide (z = y)) = ((m.take k).any (fun z => decide (z = y)) || decide (m.getD k default = y)) := by
  rw [List.take_succ_eq_append_getElem h, List.any_append, getD_lt h]
  simp
theorem VecAt.lblN {w : World} {ao : Option Addr} {n c : Nat} {l : List Lbl} (h : VecAt encLbl w (.slice ao n c) l) : l.length = n ∧ n ≤ c ∧ c ≤ 9223372036854775807 ∧ ∀ i, i < l.length → ∃ b o, ao = some ⟨b, o, none⟩ ∧ w.cell? ⟨b, o + i * 2, none⟩ = some (.int .i64 (l.getD i default).len) ∧ w.cell? ⟨b, o + i * 2 + 1, none⟩ = some (.int .u64 (l.getD i default).bits) := by
  obtain ⟨ao', c', e, h1, h2, h3⟩ := h.lbl
  simp only [Value.slice.injEq] at e
  obtain ⟨rfl, rfl, rfl⟩ := e
  exact ⟨rfl, h1, h2, h3⟩
/-- what the leaves are like -/
structure LeafFit (ls : List Lbl) : Prop where
  ok : ∀ x ∈ ls, x.ok = true ∧ x.u
  t : Tiles ls 0 18446744073709551616
theorem final_leaf {l : List Item} {b : Int} (h : Fit l b) : LeafFit (leafLbls (shape b 65 l rootLbl)) :=
  ⟨fun _ hx => ⟨(leaf_under h hx).ok, (leaf_under h hx).u⟩, final_tiles h⟩
theorem LeafFit.next {ls : List Lbl} (h : LeafFit ls) (k : Nat) (hk : k + 1 < ls.length) : nextOf (ls.getD k default) = .tuple #[.int .u64 (ls.getD (k + 1) default).bits, .bool true] := by
  have h1 := tiles_next ls _ _ h.t k hk
  rw [getD_lt hk, getD_lt (show k < ls.length by omega)]
  have h2 := (h.ok _ (List.getElem_mem hk)).2
  have h3 := h2.2
  unfold nextOf spanHi
  rw [if_neg (by omega)]
  simp only [h1]
  rw [show ls[k].bits + pw ls[k].len - 1 + 1 = ls[k].bits + pw ls[k].len by omega]
def anyB (m : List Item) (y : Item) : Bool := m.any (fun z => decide (z = y))
def ownB (x : Row) (y : Item) : Bool := decide (x.rc.kind = 1) && covers x.lbl y.key
theorem anyB_succ (m : List Item) (y : Item) (k : Nat) (h : k < m.length) : anyB (m.take (k + 1)) y = (anyB (m.take k) y || decide (m.getD k default = y)) := any_take m y k h
set_option maxRecDepth 100000 in
theorem coversLaw_c (w : World) (v : Value) (l : List Item) (b key : Int) (hv : ItemsAt w v l) (hu : ∀ x ∈ l, u64 x.key) (hkey : u64 key) : Calls Try.prog 5 #[v, .int .i64 b, .int .u64 key] w fun e w' => e = .returned (.bool true) ∧ Ext w w' := by
  obtain ⟨io, ic, rfl⟩ : ∃ io ic, v = .slice io l.length ic := by obtain ⟨io, ic, e, -⟩ := hv; exact ⟨io, ic, e⟩
  go_enter Try.func5, Try.ntmps5
  go_wp2_with fail
  refine (few24_c w _ l hv).mono ?_
  rintro e w' ⟨q, rfl, hq, rfl⟩
  cases q
  · go_wp2
    go_ret
    exact ⟨rfl, Ext.refl _⟩
  · have h60 : l.length ≤ 60 := hq rfl
    clear hq
    go_wp2_with fail
    refine (build_c w' _ l b hv (by omega) hu).mono ?_
    rintro e w2 ⟨hE2, (⟨-, rfl⟩ | ⟨-, -, rfl⟩ | ⟨hgood, -, hgrow, v2, rfl, hR2⟩)⟩
    · go_wp2_with fail
      refine (grown_c w2).mono ?_
      rintro e w3 ⟨rfl, hE3⟩
      go_wp2
      go_ret
      exact ⟨rfl, hE2.trans hE3⟩
    · go_wp2_with fail
      refine (grown_c w2).mono ?_
      rintro e w3 ⟨rfl, hE3⟩
      go_wp2
      go_ret
      exact ⟨rfl, hE2.trans hE3⟩
    · have hfit := Fit.of hgood hu
      have hlenR := shape_len hfit hgrow
      have hU := final_U hfit
      have hLF := final_leaf hfit
      have hHas := final_has hfit
      have hlv := @final_lv l b hfit
      rw [← final_len hfit] at hlenR
      obtain ⟨R, hR⟩ : ∃ R, R = finalRows (shape b 65 l rootLbl) := ⟨_, rfl⟩
      obtain ⟨ls, hls⟩ : ∃ ls, ls = leafLbls (shape b 65 l rootLbl) := ⟨_, rfl⟩
      rw [← hR] at hR2 hlenR hU hlv hHas
      rw [← hls] at hlv hLF
      have hcnt : cntCov key ls = 1 := cntCov_one key ls _ _ (fun x hx => (hLF.ok x hx).1) hLF.t hkey.1 hkey.2
      have HCNT := Lib.hid hcnt
      have HLF := Lib.hid hLF
      clear hR hls hfit hgrow hgood hcnt hLF
      have HLV := Lib.hid (fun lv h1 h2 => @hlv lv h1 h2); have HHAS := Lib.hid hHas
      clear hlv hHas
      obtain ⟨ao, c, rfl⟩ : ∃ ao c, v2 = .slice ao R.length c := by obtain ⟨ao, c, e, -⟩ := hR2; exact ⟨ao, c, e⟩
      go_wp2_with fail
      refine (leaves_c w2 _ R hR2 (by omega)).mono ?_
      rintro e w3 ⟨v3, lv, rfl, hp3, hs3, hva3, hE3⟩
      obtain rfl := HLV.out lv hp3 hs3
      obtain ⟨a3, c3, rfl⟩ : ∃ a3 c3, v3 = .slice a3 lv.length c3 := by obtain ⟨a3, c3, e, -⟩ := hva3; exact ⟨a3, c3, e⟩
      have hE03 := hE2.trans hE3
      have HRG := Lib.hid (hR2.ext hE3); have HVG := Lib.hid (hv.ext hE03); have HVA := Lib.hid hva3
      have hcl : ∀ k, cntCov key (lv.take k) ≤ k := fun k => Nat.le_trans (List.length_filter_le _ _) (List.length_take_le _ _)
      have HCL := Lib.hid hcl; clear hcl
      have hlvl : lv.length ≤ 9223372036854775807 := by obtain ⟨h1, h2, h3, -⟩ := hva3.lblN; omega
      clear hR2 hp3 hs3 hva3 hE3
      go_wp2
      go_loopw [10, 11] (fun n i wr => ∃ k : Nat, k ≤ lv.length ∧ i = .int .i64 k ∧ n = .int .i64 (cntCov key (lv.take k)) ∧ Ext w3 wr) (fun _ i _ => lv.length - (intOf i).toNat)
      case atStart => exact ⟨0, by omega, rfl, rfl, Ext.refl _⟩
      case round =>
        obtain ⟨k, hk, rfl, rfl, hE⟩ := hrel
        have hck := HCL.out k
        by_cases hlt : k < lv.length
        · obtain ⟨-, -, -, hget⟩ := (HVA.out.ext hE).lblN
          obtain ⟨bb, o, rfl, x0, x1⟩ := hget k hlt
          have hsn := cntCov_snoc key lv k hlt
          obtain ⟨hxok, hxu⟩ := HLF.out.ok (lv.getD k default) (by rw [getD_lt hlt]; exact List.getElem_mem hlt)
          have hpre : k = 0 ∨ ∃ j : Nat, k = j + 1 ∧ nextOf (lv.getD j default) = .tuple #[.int .u64 (lv.getD k default).bits, .bool true] ∧ (lv.getD j default).ok = true ∧ (lv.getD j default).u ∧ wr.cell? ⟨bb, o + j * 2, none⟩ = some (.int .i64 (lv.getD j default).len) ∧ wr.cell? ⟨bb, o + j * 2 + 1, none⟩ = some (.int .u64 (lv.getD j default).bits) := by
            rcases k with _ | j
            · exact .inl rfl
            · right
              have hj : j < lv.length := by omega
              obtain ⟨b', o', e', y0, y1⟩ := hget j hj
              simp only [Option.some.injEq, Addr.mk.injEq] at e'
              obtain ⟨rfl, rfl, -⟩ := e'
              obtain ⟨h1, h2⟩ := HLF.out.ok (lv.getD j default) (by rw [getD_lt hj]; exact List.getElem_mem hj)
              exact ⟨j, rfl, HLF.out.next j hlt, h1, h2, y0, y1⟩
          obtain ⟨x, hx⟩ : ∃ x, x = lv.getD k default := ⟨_, rfl⟩
          rw [← hx] at x0 x1 hsn hxok hxu hpre
          have HSN := Lib.hid hsn
          clear hget hx hsn
          by_cases hcv : covers x key = true
          · have hnew : cntCov key (lv.take (k + 1)) = cntCov key (lv.take k) + 1 := by rw [HSN.out, if_pos hcv]
            have HNEW := Lib.hid hnew; clear hnew
            rcases hpre with hk0 | ⟨j, hkj, hnx, hyok, hyu, y0, y1⟩
            · have hk0' : (k : Int) ≤ 0 := by omega
              clear hk0
              go_wp2_with (go_at_call 13; refine (covers_c x key _ hxu hkey).mono ?_; rintro e w4 ⟨rfl, hb4⟩; rw [hcv])
              go_roundw
              case rel => exact ⟨k + 1, by omega, by go_num, by rw [HNEW.out]; go_num, hE.trans hb4⟩
              case measure => simp [intOf]; omega
            · obtain ⟨y, hy⟩ : ∃ y, y = lv.getD j default := ⟨_, rfl⟩
              rw [← hy] at hnx hyok hyu y0 y1
              have hk1 : (1 : Int) ≤ (k : Int) := by omega
              have hjk : (k : Int) - 1 = (j : Int) := by omega
              have hjl : (j : Int) < (lv.length : Int) := by omega
              have HNX := Lib.hid hnx
              clear hy hnx hkj
              go_wp2_with fail
              refine (covers_c x key _ hxu hkey).mono ?_
              rintro e w4 ⟨rfl, hb4⟩
              rw [hcv]
              have x0' := hb4.cell x0; have x1' := hb4.cell x1; have y0' := hb4.cell y0; have y1' := hb4.cell y1
              clear x0 x1 y0 y1
              go_wp2_with fail
              refine (span_c x _ hxu hxok).mono ?_
              rintro e w5 ⟨rfl, hb5⟩
              have y0 := hb5.cell y0'; have y1 := hb5.cell y1'
              clear x0' x1' y0' y1'
              go_wp2_with fail
              refine (next_c y _ hyu hyok).mono ?_
              rintro e w6 ⟨rfl, hb6⟩
              rw [HNX.out]
              have hE6 := ((hE.trans hb4).trans hb5).trans hb6
              clear hb4 hb5 hb6
              go_wp2
              go_roundw
              case rel => exact ⟨k + 1, by omega, by go_num, by rw [HNEW.out]; go_num, hE6⟩
              case measure => simp [intOf]; omega
          · have hcv : covers x key = false := by simpa using hcv
            have hnew : cntCov key (lv.take (k + 1)) = cntCov key (lv.take k) := by rw [HSN.out, if_neg (by rw [hcv]; exact Bool.false_ne_true), Nat.add_zero]
            have HNEW := Lib.hid hnew; clear hnew
            rcases hpre with hk0 | ⟨j, hkj, hnx, hyok, hyu, y0, y1⟩
            · have hk0' : (k : Int) ≤ 0 := by omega
              clear hk0
              go_wp2_with (go_at_call 13; refine (covers_c x key _ hxu hkey).mono ?_; rintro e w4 ⟨rfl, hb4⟩; rw [hcv])
              go_roundw
              case rel => exact ⟨k + 1, by omega, by go_num, by rw [HNEW.out], hE.trans hb4⟩
              case measure => simp [intOf]; omega
            · obtain ⟨y, hy⟩ : ∃ y, y = lv.getD j default := ⟨_, rfl⟩
              rw [← hy] at hnx hyok hyu y0 y1
              have hk1 : (1 : Int) ≤ (k : Int) := by omega
              have hjk : (k : Int) - 1 = (j : Int) := by omega
              have hjl : (j : Int) < (lv.length : Int) := by omega
              have HNX := Lib.hid hnx
              clear hy hnx hkj
              go_wp2_with fail
              refine (covers_c x key _ hxu hkey).mono ?_
              rintro e w4 ⟨rfl, hb4⟩
              rw [hcv]
              have x0' := hb4.cell x0; have x1' := hb4.cell x1; have y0' := hb4.cell y0; have y1' := hb4.cell y1
              clear x0 x1 y0 y1
              go_wp2_with fail
              refine (span_c x _ hxu hxok).mono ?_
              rintro e w5 ⟨rfl, hb5⟩
              have y0 := hb5.cell y0'; have y1 := hb5.cell y1'
              clear x0' x1' y0' y1'
              go_wp2_with fail
              refine (next_c y _ hyu hyok).mono ?_
              rintro e w6 ⟨rfl, hb6⟩
              rw [HNX.out]
              have hE6 := ((hE.trans hb4).trans hb5).trans hb6
              clear hb4 hb5 hb6
              go_wp2
              go_roundw
              case rel => exact ⟨k + 1, by omega, by go_num, by rw [HNEW.out], hE6⟩
              case measure => simp [intOf]; omega
        · have hall : lv.take k = lv := List.take_of_length_le (by omega)
          rw [hall, HCNT.out]
          clear hall hck
          obtain ⟨wa, rfl⟩ : ∃ wa : World, wa = wr := ⟨_, rfl⟩
          have HRG2 := Lib.hid (HRG.out.ext hE); have HVG2 := Lib.hid (HVG.out.ext hE)
          go_wp2
          go_loopw [17] (fun i wr => ∃ k : Nat, k ≤ R.length ∧ i = .int .i64 k ∧ Ext wa wr) (fun i _ => R.length - (intOf i).toNat)
          case atStart => exact ⟨0, by omega, rfl, Ext.refl _⟩
          case round =>
            obtain ⟨i, hi, rfl, hE1⟩ := hrel
            by_cases hli : i < R.length
            · obtain ⟨-, -, -, hget⟩ := (HRG2.out.ext hE1).get
              obtain ⟨bb, o, iv, rfl, hrow⟩ := hget i hli
              have hhas := HHAS.out i
              obtain ⟨x, hx⟩ : ∃ x, x = R.getD i default := ⟨_, rfl⟩
              have hxu : x.lbl.u := by rw [hx, getD_lt hli]; exact (hU _ (List.getElem_mem hli)).1
              have HHX := Lib.hid (show ∀ k, k < l.length → ownB x (l.getD k default) = anyB x.rc.items (l.getD k default) from fun k hk => by rw [hx]; exact hhas k hli hk)
              rw [← hx] at hrow
              clear hget hx hhas
              obtain ⟨c0, c1, c2, c3, c4, c5, c6, c7, hit⟩ := hrow
              obtain ⟨jo, jc, rfl⟩ : ∃ jo jc, iv = .slice jo x.rc.items.length jc := by obtain ⟨jo, jc, e, -⟩ := hit; exact ⟨jo, jc, e⟩
              have HC := Lib.hid (fun (W' : World) (h : Ext wr W') => And.intro (h.cell c0) (And.intro (h.cell c1) (And.intro (h.cell c3) (h.cell c4))))
              have HIT := Lib.hid hit
              have hitl : x.rc.items.length ≤ 9223372036854775807 := by obtain ⟨_, c', e, h1, h2, -⟩ := hit; simp only [Value.slice.injEq] at e; obtain ⟨-, -, rfl⟩ := e; omega
              clear c0 c1 c2 c3 c4 c5 c6 c7 hit
              obtain ⟨wo, rfl⟩ : ∃ wo : World, wo = wr := ⟨_, rfl⟩
              have i0 : (0 : Int) ≤ (i : Int) := by omega
              have i1 : (i : Int) < (R.length : Int) := by omega
              go_wp2
              go_loopw [18] (fun j wr => ∃ k : Nat, k ≤ l.length ∧ j = .int .i64 k ∧ Ext wo wr) (fun j _ => l.length - (intOf j).toNat)
              case atStart => exact ⟨0, by omega, rfl, Ext.refl _⟩
              case round =>
                obtain ⟨k, hk, rfl, hE2'⟩ := hrel
                by_cases hlk : k < l.length
                · obtain ⟨bi, oi, hio, ci1, ci2⟩ : ∃ bi oi, io = some ⟨bi, oi, none⟩ ∧ wr.cell? ⟨bi, oi + k * 2, none⟩ = some (.int .u64 (l.getD k default).key) ∧ wr.cell? ⟨bi, oi + k * 2 + 1, none⟩ = some (.string (l.getD k default).val) := by
                    obtain ⟨ao', c', e, -, -, -, hg⟩ := (HVG2.out.ext hE1).ext hE2'
                    simp only [Value.slice.injEq] at e
                    obtain ⟨rfl, -, -⟩ := e
                    exact hg k hlk
                  subst hio
                  have hyu : Go.Proofs.Ythgnkbkfkcdhfaa.u64 (l.getD k default).key := by rw [getD_lt hlk]; exact hu _ (List.getElem_mem hlk)
                  have hown := HHX.out k hlk
                  obtain ⟨y, hy⟩ : ∃ y, y = l.getD k default := ⟨_, rfl⟩
                  rw [← hy] at ci1 ci2 hyu hown
                  have HOWN := Lib.hid hown
                  have HCI := Lib.hid (fun (W' : World) (h : Ext wr W') => And.intro (HC.out W' (hE2'.trans h)) (And.intro (h.cell ci1) (h.cell ci2)))
                  have HIT2 := Lib.hid (HIT.out.ext hE2')
                  clear hy hown ci1 ci2
                  have k0 : (0 : Int) ≤ (k : Int) := by omega
                  have k1 : (k : Int) < (l.length : Int) := by omega
                  obtain ⟨wm, rfl⟩ : ∃ wm : World, wm = wr := ⟨_, rfl⟩
                  by_cases hkd : x.rc.kind = 1
                  · have e1 : (x.rc.kind == 1) = true := by simp [hkd]
                    by_cases hcv : covers x.lbl y.key = true
                    · have hob : ownB x y = true := by unfold ownB; rw [hcv]; simp [hkd]
                      have HKD := Lib.hid hkd; clear hkd
                      go_wp2
                      go_region_held3 (fun w' => w'.cell? ⟨bb, o + i * 8, none⟩ = some (.int .i64 x.lbl.len) ∧ w'.cell? ⟨bb, o + i * 8 + 1, none⟩ = some (.int .u64 x.lbl.bits) ∧ w'.cell? ⟨bb, o + i * 8 + 3, none⟩ = some (.int .i64 x.rc.kind) ∧ w'.cell? ⟨bi, oi + k * 2, none⟩ = some (.int .u64 y.key))
                        (first | (have h := HCI.out _ (Ext.refl _).drew; exact ⟨h.1.1, h.1.2.1, h.1.2.2.1, h.2.1⟩) | (have h := HCI.out _ hEp; exact ⟨h.1.1, h.1.2.1, h.1.2.2.1, h.2.1⟩))
                        (first | (go_at_call 13; refine (covers_c x.lbl y.key _ hxu hyu).mono ?_; rintro e wp ⟨rfl, hb8'⟩; have hEp : Ext wm wp := Ext.trans (Ext.refl _).drew hb8'; clear hb8') | fail)
                      have hany : anyB x.rc.items y = true := HOWN.out.symm.trans hob
                      have HANY := Lib.hid hany; clear hany hob
                      go_wp2
                      go_loopw [20, 21] (fun hb j wr => ∃ m : Nat, m ≤ x.rc.items.length ∧ j = .int .i64 m ∧ hb = .bool (anyB (x.rc.items.take m) y) ∧ Ext wp wr) (fun _ j _ => x.rc.items.length - (intOf j).toNat)
                      case atStart => exact ⟨0, by omega, rfl, rfl, Ext.refl _⟩
                      case round =>
                        obtain ⟨m, hm, rfl, rfl, hE3⟩ := hrel
                        obtain ⟨⟨-, -, -, d4⟩, d5, d6⟩ := HCI.out wr (hEp.trans hE3)
                        by_cases hlm : m < x.rc.items.length
                        · obtain ⟨bj, oj, hjo, cj1, cj2⟩ : ∃ bj oj, jo = some ⟨bj, oj, none⟩ ∧ wr.cell? ⟨bj, oj + m * 2, none⟩ = some (.int .u64 (x.rc.items.getD m default).key) ∧ wr.cell? ⟨bj, oj + m * 2 + 1, none⟩ = some (.string (x.rc.items.getD m default).val) := by
                            obtain ⟨ao', c', e, -, -, -, hg⟩ := (HIT2.out.ext hEp).ext hE3
                            simp only [Value.slice.injEq] at e
                            obtain ⟨rfl, -, -⟩ := e
                            exact hg m hlm
                          subst hjo
                          have hsn := anyB_succ x.rc.items y m hlm
                          obtain ⟨z, hz⟩ : ∃ z, z = x.rc.items.getD m default := ⟨_, rfl⟩
                          rw [← hz] at cj1 cj2 hsn
                          have HSN := Lib.hid hsn
                          clear hz hsn
                          have m0 : (0 : Int) ≤ (m : Int) := by omega
                          have m1 : (m : Int) < (x.rc.items.length : Int) := by omega
                          obtain ⟨q, hq⟩ : ∃ q, q = anyB (x.rc.items.take m) y := ⟨_, rfl⟩
                          rw [← hq] at HSN ⊢
                          clear hq
                          cases q
                          · by_cases hzy : z = y
                            · have e2 : itmEq z.key z.val y.key y.val = true := by unfold itmEq; exact decide_eq_true hzy
                              have HZ := Lib.hid hzy; clear hzy
                              go_wp2
                              go_quiet (fail)
                              go_wp2
                              go_roundw
                              case rel => exact ⟨m + 1, by omega, by go_num, by rw [HSN.out, decide_eq_true HZ.out]; rfl, hE3.trans ((Ext.refl _).drewN _)⟩
                              case measure => simp [intOf]; omega
                            · have e2 : itmEq z.key z.val y.key y.val = false := by unfold itmEq; exact decide_eq_false hzy
                              have HZ := Lib.hid hzy; clear hzy
                              go_wp2
                              go_quiet (fail)
                              go_wp2
                              go_roundw
                              case rel => exact ⟨m + 1, by omega, by go_num, by rw [HSN.out, decide_eq_false HZ.out]; rfl, hE3.trans ((Ext.refl _).drewN _)⟩
                              case measure => simp [intOf]; omega
                          · go_wp2
                            go_quiet (fail)
                            go_wp2
                            go_roundw
                            case rel => exact ⟨m + 1, by omega, by go_num, by rw [HSN.out]; rfl, hE3.trans ((Ext.refl _).drewN _)⟩
                            case measure => simp [intOf]; omega
                        · have hall : x.rc.items.take m = x.rc.items := List.take_of_length_le (by omega)
                          rw [hall, HANY.out]
                          clear hall
                          have hEe := (hE2'.trans hEp).trans hE3
                          go_wp2
                          go_roundw
                          case rel => first | exact ⟨k + 1, by omega, by go_num, hEe⟩ | ((repeat apply Exists.intro); exact ⟨⟨k + 1, by omega, by go_num, hEe⟩, rfl⟩)
                          case measure => simp [intOf]; omega
                    · have hcv : covers x.lbl y.key = false := by simpa using hcv
                      have hob : ownB x y = false := by unfold ownB; rw [hcv]; simp
                      have HKD := Lib.hid hkd; clear hkd
                      go_wp2
                      go_region_held3 (fun w' => w'.cell? ⟨bb, o + i * 8, none⟩ = some (.int .i64 x.lbl.len) ∧ w'.cell? ⟨bb, o + i * 8 + 1, none⟩ = some (.int .u64 x.lbl.bits) ∧ w'.cell? ⟨bb, o + i * 8 + 3, none⟩ = some (.int .i64 x.rc.kind) ∧ w'.cell? ⟨bi, oi + k * 2, none⟩ = some (.int .u64 y.key))
                        (first | (have h := HCI.out _ (Ext.refl _).drew; exact ⟨h.1.1, h.1.2.1, h.1.2.2.1, h.2.1⟩) | (have h := HCI.out _ hEp; exact ⟨h.1.1, h.1.2.1, h.1.2.2.1, h.2.1⟩))
                        (first | (go_at_call 13; refine (covers_c x.lbl y.key _ hxu hyu).mono ?_; rintro e wp ⟨rfl, hb8'⟩; have hEp : Ext wm wp := Ext.trans (Ext.refl _).drew hb8'; clear hb8') | fail)
                      have hany : anyB x.rc.items y = false := HOWN.out.symm.trans hob
                      have HANY := Lib.hid hany; clear hany hob
                      go_wp2
                      go_loopw [20, 21] (fun hb j wr => ∃ m : Nat, m ≤ x.rc.items.length ∧ j = .int .i64 m ∧ hb = .bool (anyB (x.rc.items.take m) y) ∧ Ext wp wr) (fun _ j _ => x.rc.items.length - (intOf j).toNat)
                      case atStart => exact ⟨0, by omega, rfl, rfl, Ext.refl _⟩
                      case round =>
                        obtain ⟨m, hm, rfl, rfl, hE3⟩ := hrel
                        obtain ⟨⟨-, -, -, d4⟩, d5, d6⟩ := HCI.out wr (hEp.trans hE3)
                        by_cases hlm : m < x.rc.items.length
                        · obtain ⟨bj, oj, hjo, cj1, cj2⟩ : ∃ bj oj, jo = some ⟨bj, oj, none⟩ ∧ wr.cell? ⟨bj, oj + m * 2, none⟩ = some (.int .u64 (x.rc.items.getD m default).key) ∧ wr.cell? ⟨bj, oj + m * 2 + 1, none⟩ = some (.string (x.rc.items.getD m default).val) := by
                            obtain ⟨ao', c', e, -, -, -, hg⟩ := (HIT2.out.ext hEp).ext hE3
                            simp only [Value.slice.injEq] at e
                            obtain ⟨rfl, -, -⟩ := e
                            exact hg m hlm
                          subst hjo
                          have hsn := anyB_succ x.rc.items y m hlm
                          obtain ⟨z, hz⟩ : ∃ z, z = x.rc.items.getD m default := ⟨_, rfl⟩
                          rw [← hz] at cj1 cj2 hsn
                          have HSN := Lib.hid hsn
                          clear hz hsn
                          have m0 : (0 : Int) ≤ (m : Int) := by omega
                          have m1 : (m : Int) < (x.rc.items.length : Int) := by omega
                          obtain ⟨q, hq⟩ : ∃ q, q = anyB (x.rc.items.take m) y := ⟨_, rfl⟩
                          rw [← hq] at HSN ⊢
                          clear hq
                          cases q
                          · by_cases hzy : z = y
                            · have e2 : itmEq z.key z.val y.key y.val = true := by unfold itmEq; exact decide_eq_true hzy
                              have HZ := Lib.hid hzy; clear hzy
                              go_wp2
                              go_quiet (fail)
                              go_wp2
                              go_roundw
                              case rel => exact ⟨m + 1, by omega, by go_num, by rw [HSN.out, decide_eq_true HZ.out]; rfl, hE3.trans ((Ext.refl _).drewN _)⟩
                              case measure => simp [intOf]; omega
                            · have e2 : itmEq z.key z.val y.key y.val = false := by unfold itmEq; exact decide_eq_false hzy
                              have HZ := Lib.hid hzy; clear hzy
                              go_wp2
                              go_quiet (fail)
                              go_wp2
                              go_roundw
                              case rel => exact ⟨m + 1, by omega, by go_num, by rw [HSN.out, decide_eq_false HZ.out]; rfl, hE3.trans ((Ext.refl _).drewN _)⟩
                              case measure => simp [intOf]; omega
                          · go_wp2
                            go_quiet (fail)
                            go_wp2
                            go_roundw
                            case rel => exact ⟨m + 1, by omega, by go_num, by rw [HSN.out]; rfl, hE3.trans ((Ext.refl _).drewN _)⟩
                            case measure => simp [intOf]; omega
                        · have hall : x.rc.items.take m = x.rc.items := List.take_of_length_le (by omega)
                          rw [hall, HANY.out]
                          clear hall
                          have hEe := (hE2'.trans hEp).trans hE3
                          go_wp2
                          go_roundw
                          case rel => first | exact ⟨k + 1, by omega, by go_num, hEe⟩ | ((repeat apply Exists.intro); exact ⟨⟨k + 1, by omega, by go_num, hEe⟩, rfl⟩)
                          case measure => simp [intOf]; omega
                  · have e1 : (x.rc.kind == 1) = false := by simp [hkd]
                    have hob : ownB x y = false := by unfold ownB; simp [hkd]
                    have HKD := Lib.hid hkd; clear hkd
                    obtain ⟨⟨-, -, d3, -⟩, -, -⟩ := HCI.out wm (Ext.refl _)
                    go_wp2
                    go_quiet (fail)
                    have hEp : Ext wm (wm.drewN nq) := (Ext.refl wm).drewN nq
                    obtain ⟨wp, hwp⟩ : ∃ wp, wp = wm.drewN nq := ⟨_, rfl⟩
                    rw [← hwp] at hEp ⊢
                    clear hwp d3
                    have hany : anyB x.rc.items y = false := HOWN.out.symm.trans hob
                    have HANY := Lib.hid hany; clear hany hob
                    go_wp2
                    go_loopw [20, 21] (fun hb j wr => ∃ m : Nat, m ≤ x.rc.items.length ∧ j = .int .i64 m ∧ hb = .bool (anyB (x.rc.items.take m) y) ∧ Ext wp wr) (fun _ j _ => x.rc.items.length - (intOf j).toNat)
                    case atStart => exact ⟨0, by omega, rfl, rfl, Ext.refl _⟩
                    case round =>
                      obtain ⟨m, hm, rfl, rfl, hE3⟩ := hrel
                      obtain ⟨⟨-, -, -, d4⟩, d5, d6⟩ := HCI.out wr (hEp.trans hE3)
                      by_cases hlm : m < x.rc.items.length
                      · obtain ⟨bj, oj, hjo, cj1, cj2⟩ : ∃ bj oj, jo = some ⟨bj, oj, none⟩ ∧ wr.cell? ⟨bj, oj + m * 2, none⟩ = some (.int .u64 (x.rc.items.getD m default).key) ∧ wr.cell? ⟨bj, oj + m * 2 + 1, none⟩ = some (.string (x.rc.items.getD m default).val) := by
                          obtain ⟨ao', c', e, -, -, -, hg⟩ := (HIT2.out.ext hEp).ext hE3
                          simp only [Value.slice.injEq] at e
                          obtain ⟨rfl, -, -⟩ := e
                          exact hg m hlm
                        subst hjo
                        have hsn := anyB_succ x.rc.items y m hlm
                        obtain ⟨z, hz⟩ : ∃ z, z = x.rc.items.getD m default := ⟨_, rfl⟩
                        rw [← hz] at cj1 cj2 hsn
                        have HSN := Lib.hid hsn
                        clear hz hsn
                        have m0 : (0 : Int) ≤ (m : Int) := by omega
                        have m1 : (m : Int) < (x.rc.items.length : Int) := by omega
                        obtain ⟨q, hq⟩ : ∃ q, q = anyB (x.rc.items.take m) y := ⟨_, rfl⟩
                        rw [← hq] at HSN ⊢
                        clear hq
                        cases q
                        · by_cases hzy : z = y
                          · have e2 : itmEq z.key z.val y.key y.val = true := by unfold itmEq; exact decide_eq_true hzy
                            have HZ := Lib.hid hzy; clear hzy
                            go_wp2
                            go_quiet (fail)
                            go_wp2
                            go_roundw
                            case rel => exact ⟨m + 1, by omega, by go_num, by rw [HSN.out, decide_eq_true HZ.out]; rfl, hE3.trans ((Ext.refl _).drewN _)⟩
                            case measure => simp [intOf]; omega
                          · have e2 : itmEq z.key z.val y.key y.val = false := by unfold itmEq; exact decide_eq_false hzy
                            have HZ := Lib.hid hzy; clear hzy
                            go_wp2
                            go_quiet (fail)
                            go_wp2
                            go_roundw
                            case rel => exact ⟨m + 1, by omega, by go_num, by rw [HSN.out, decide_eq_false HZ.out]; rfl, hE3.trans ((Ext.refl _).drewN _)⟩
                            case measure => simp [intOf]; omega
                        · go_wp2
                          go_quiet (fail)
                          go_wp2
                          go_roundw
                          case rel => exact ⟨m + 1, by omega, by go_num, by rw [HSN.out]; rfl, hE3.trans ((Ext.refl _).drewN _)⟩
                          case measure => simp [intOf]; omega
                      · have hall : x.rc.items.take m = x.rc.items := List.take_of_length_le (by omega)
                        rw [hall, HANY.out]
                        clear hall
                        have hEe := (hE2'.trans hEp).trans hE3
                        go_wp2
                        go_roundw
                        case rel => first | exact ⟨k + 1, by omega, by go_num, hEe⟩ | ((repeat apply Exists.intro); exact ⟨⟨k + 1, by omega, by go_num, hEe⟩, rfl⟩)
                        case measure => simp [intOf]; omega
                · go_wp2
                  go_roundw
                  case rel => exact ⟨i + 1, by omega, by go_num, hE1.trans hE2'⟩
                  case measure => simp [intOf]; omega
            · go_wp2_with fail
              refine (grown_c wr).mono ?_
              rintro e w7 ⟨rfl, hE7⟩
              go_wp2
              go_ret
              exact ⟨rfl, ((hE03.trans hE).trans hE1).trans hE7⟩
end Go.Proofs.Ythgnkbkfkcdhfaa
