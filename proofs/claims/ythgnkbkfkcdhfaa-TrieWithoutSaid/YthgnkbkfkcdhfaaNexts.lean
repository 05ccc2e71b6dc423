/- trie.nexts: which leaf comes next. -/
import Derived.Test.YthgnkbkfkcdhfaaLeaves
import Derived.Test.YthgnkbkfkcdhfaaWellP
namespace Go.Proofs.Ythgnkbkfkcdhfaa
open Go.RowKit
set_option maxHeartbeats 1000000
set_option linter.unusedSimpArgs false

theorem mput_mput (k : Lbl) (u v : Value) (m : List (Lbl × Value)) : mput k v (mput k u m) = mput k v m := by
  induction m with
  | nil => simp [mput]
  | cons p m ih =>
    obtain ⟨k', x⟩ := p
    simp only [mput]
    split
    · rename_i h; subst h; simp [mput]
    · rename_i h; simp [mput, h, ih]
def LblV (v : Value) (x : Lbl) : Prop := v = .agg #[.int .i64 x.len, .int .u64 x.bits]
theorem VecAt.lbl {w : World} {v : Value} {l : List Lbl} (h : VecAt encLbl w v l) : ∃ ao c, v = .slice ao l.length c ∧ l.length ≤ c ∧ c ≤ 9223372036854775807 ∧ ∀ i, i < l.length → ∃ b o, ao = some ⟨b, o, none⟩ ∧ w.cell? ⟨b, o + i * 2, none⟩ = some (.int .i64 (l.getD i default).len) ∧ w.cell? ⟨b, o + i * 2 + 1, none⟩ = some (.int .u64 (l.getD i default).bits) := by
  obtain ⟨ao, c, rfl, h1, h2, h3, h4⟩ := h
  refine ⟨ao, c, rfl, h1, h2, fun i hi => ?_⟩
  obtain ⟨b, o, e, c0⟩ := h4 (i * 2 + 0) _ ((encLbl.flat_get l i 0 hi (by decide)).trans rfl)
  obtain ⟨b', o', e', c1⟩ := h4 (i * 2 + 1) _ ((encLbl.flat_get l i 1 hi (by decide)).trans rfl)
  rw [e] at e'
  cases e'
  exact ⟨b, o, e, c0, c1⟩
theorem ExtM.vec {r : Nat} {w w' : World} {m : List (Lbl × Value)} (h : ExtM r w w') (hm : MapIs w r m) {v : Value} {l : List Lbl} (hi : VecAt encLbl w v l) : VecAt encLbl w' v l := by
  obtain ⟨ao, c, rfl, h1, h2, h3, h4⟩ := hi
  refine ⟨ao, c, rfl, h1, h2, h3, fun j u hj => ?_⟩
  obtain ⟨b, o, e, c0⟩ := h4 j u hj
  exact ⟨b, o, e, h.cell hm c0⟩
set_option maxRecDepth 100000 in
theorem nexts_c (w : World) (v : Value) (l : List Lbl) (hv : VecAt encLbl w v l) (hl : l.length ≤ 1000000) :
    Calls Try.prog 36 #[v] w fun e w' => ∃ r m, e = .returned (.map (some r)) ∧ w.heap.size ≤ r ∧ MapIs w' r m ∧ Pairs LblV m (nextsTo l l.length) ∧ Ext w w' := by
  obtain ⟨W, hW⟩ : ∃ W : World, W = w.alloc (.map #[] 0) := ⟨_, rfl⟩
  have hE0 : Ext w W := by rw [hW]; exact (Ext.refl w).alloc _
  have hM0 : MapIs W w.heap.size [] := by rw [hW]; exact MapIs.new w
  have hWs : w.heap.size < W.heap.size := by rw [hW]; simp
  have HW := Lib.hid hW.symm; clear hW
  have hmk := @run_makeMap Try.prog
  have HV := Lib.hid (hv.ext hE0)
  obtain ⟨ao, c, rfl, hlc, hc, -⟩ := hv.lbl
  clear hv
  go_enter Try.func36, Try.ntmps36
  go_wp2
  rw [HW.out]
  clear hmk
  go_loopw [9] (fun i wr => ∃ k : Nat, k ≤ l.length ∧ i = .int .i64 k ∧ (∃ m, MapIs wr w.heap.size m ∧ Pairs LblV m (nextsTo l k)) ∧ ExtM w.heap.size W wr) (fun i _ => l.length - (intOf i).toNat)
  case atStart => exact ⟨0, by omega, rfl, ⟨[], hM0, .nil⟩, ExtM.refl _ _⟩
  case round =>
    obtain ⟨k, hk', rfl, ⟨m, hM, hP⟩, hX⟩ := hrel
    by_cases hlt : k < l.length
    · obtain ⟨ao', c', e1, -, -, hget⟩ := (hX.vec hM0 HV.out).lbl
      obtain ⟨rfl, rfl⟩ : ao = ao' ∧ c = c' := by simpa using e1
      obtain ⟨b, o, rfl, c0, c1⟩ := hget k hlt
      have hsn : nextsTo l (k + 1) = tput (l.getD k default) (nx l k) (nextsTo l k) := rfl
      obtain ⟨x, hx⟩ : ∃ x, x = l.getD k default := ⟨_, rfl⟩
      rw [← hx] at c0 c1 hsn
      have HX := Lib.hid hx; clear hx e1
      have HS := Lib.hid hsn; clear hsn
      obtain ⟨WA, hWA⟩ : ∃ WA : World, WA = wr.alloc (.cells #[.int .i64 x.len, .int .u64 x.bits] 36) := ⟨_, rfl⟩
      have hEA : Ext wr WA := by rw [hWA]; exact (Ext.refl wr).alloc _
      have a0 : WA.cell? ⟨wr.heap.size, 0, none⟩ = some (.int .i64 x.len) := by rw [hWA]; simp
      have a1 : WA.cell? ⟨wr.heap.size, 1, none⟩ = some (.int .u64 x.bits) := by rw [hWA]; simp
      have hMA := hM.ext hEA
      have HWA := Lib.hid hWA.symm; clear hWA
      have HCM := Lib.hid (fun (W' : World) (h : ExtM w.heap.size WA W') => And.intro (h.cell hMA a0) (h.cell hMA a1))
      clear a0 a1
      go_wp2
      rw [HWA.out]
      go_region_held3 (fun w' => w'.cell? ⟨wr.heap.size, 0, none⟩ = some (.int .i64 x.len) ∧ w'.cell? ⟨wr.heap.size, 1, none⟩ = some (.int .u64 x.bits)) (first | exact HCM.out _ (Ext.m _ (Ext.refl _).drew) | exact HCM.out _ (Ext.m _ (Ext.trans (Ext.refl _).drew hb4)) | exact HCM.out _ (ExtM.trans (Ext.m _ (Ext.trans (Ext.refl _).drew hb4)) hX5)) (first | (go_at_call 57; refine (none_c _).mono ?_; rintro e w4 ⟨rfl, hb4⟩; obtain ⟨w5, hru, hM5, hX5⟩ := run_update (hMA.ext (Ext.trans (Ext.refl _).drew hb4)) 84 36 Try.underlying84 x.len x.bits (.agg #[.int .i64 (-1), .int .u64 0])) | fail)
      have hXA : ExtM w.heap.size wr w5 := (Ext.m _ (hEA.trans (Ext.trans (Ext.refl _).drew hb4))).trans hX5
      clear hru
      obtain ⟨d0, d1⟩ := HCM.out _ (ExtM.trans (Ext.m _ (Ext.trans (Ext.refl _).drew hb4)) hX5)
      have hX05 := hX.trans hXA
      by_cases hk1 : k + 1 < l.length
      · have ek : decide ((k : Int) + 1 < l.length) = true := by simp; omega
        obtain ⟨ao', c', e1, -, -, hget'⟩ := (hX05.vec hM0 HV.out).lbl
        simp only [Value.slice.injEq] at e1
        obtain ⟨rfl, -, rfl⟩ := e1
        obtain ⟨b', o', e1, f0, f1⟩ := hget' (k + 1) hk1
        simp only [Option.some.injEq, Addr.mk.injEq] at e1
        obtain ⟨rfl, rfl, -⟩ := e1
        have hnx : nx l k = l.getD (k + 1) default := by unfold nx; rw [if_pos hk1]
        obtain ⟨y, hy⟩ : ∃ y, y = l.getD (k + 1) default := ⟨_, rfl⟩
        rw [← hy] at f0 f1 hnx
        have HN := Lib.hid hnx; clear hnx hy
        obtain ⟨w6, hru6, hM6, hX6⟩ := run_update (hM5.ext (Ext.refl w5).drew) 84 36 Try.underlying84 x.len x.bits (.agg #[.int .i64 y.len, .int .u64 y.bits])
        have HC6 := Lib.hid (fun (W' : World) (h : ExtM w.heap.size w5 W') => And.intro (h.cell hM5 d0) (And.intro (h.cell hM5 d1) (And.intro (h.cell hM5 f0) (h.cell hM5 f1))))
        go_wp2
        have hwr : IntKind.i64.wrap ((k : Int) + 1) = (k : Int) + 1 := by rw [IntKind.wrap_i64]; omega
        have hk0 : (0 : Int) ≤ (k : Int) + 1 := by omega
        have hk2 : (k : Int) + 1 < (l.length : Int) := by omega
        have hkt : ((k : Int) + 1).toNat = k + 1 := by omega
        clear ek hk1
        go_region_held3 (fun w' => w'.cell? ⟨wr.heap.size, 0, none⟩ = some (.int .i64 x.len) ∧ w'.cell? ⟨wr.heap.size, 1, none⟩ = some (.int .u64 x.bits) ∧ w'.cell? ⟨b, o + (k + 1) * 2, none⟩ = some (.int .i64 y.len) ∧ w'.cell? ⟨b, o + (k + 1) * 2 + 1, none⟩ = some (.int .u64 y.bits)) (first | exact HC6.out _ (Ext.m _ (Ext.refl _).drew) | exact HC6.out _ (ExtM.trans (Ext.m _ (Ext.refl _).drew) hX6)) (fail)
        go_wp2
        go_roundw
        case rel =>
          refine ⟨k + 1, by omega, by go_num, ⟨_, hM6, ?_⟩, hX05.trans ((Ext.m _ (Ext.refl _).drew).trans hX6)⟩
          rw [HS.out, HN.out, mput_mput]
          exact Pairs.put (R := LblV) (r := y) x rfl hP
        case measure => simp [intOf]; omega
      · have ek : decide ((k : Int) + 1 < l.length) = false := by simp; omega
        have hnx : nx l k = noneLbl := by unfold nx; rw [if_neg hk1]
        have HN := Lib.hid hnx; clear hnx
        go_wp2
        go_roundw
        case rel =>
          refine ⟨k + 1, by omega, by go_num, ⟨_, hM5, ?_⟩, hX05⟩
          rw [HS.out, HN.out]
          exact Pairs.put (R := LblV) (r := noneLbl) x rfl hP
        case measure => simp [intOf]; omega
    · have hkl : k = l.length := by omega
      subst hkl
      go_wp2
      go_ret
      exact ⟨_, m, rfl, Nat.le_refl _, hM, hP, Below.trans hE0 (hX.below (Nat.le_refl _) (Nat.le_of_lt hWs))⟩
end Go.Proofs.Ythgnkbkfkcdhfaa
