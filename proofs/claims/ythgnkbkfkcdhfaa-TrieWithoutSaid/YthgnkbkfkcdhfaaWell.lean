/- trie.Well: what it answers. -/
import Derived.Test.YthgnkbkfkcdhfaaBuildOk

namespace Go.Proofs.Ythgnkbkfkcdhfaa
open Go.RowKit
attribute [local go_sem] Oper.semAt_some
set_option maxHeartbeats 8000000
set_option linter.unusedSimpArgs false

theorem run_field_kind (k2 n2 bb2 mm2 : Int) (a2 : Option Addr) (b2 c2 : Nat) (w : World) : (Instr.field 38 (.agg #[.int .i64 k2, .slice a2 b2 c2, .int .i64 n2, .int .u64 bb2, .int .u64 mm2]) 0).run Try.prog w = .ok (.int .i64 k2) w := by kernel_rfl
attribute [local go_sem] run_field_kind
/-- deferred calls that hand over none: marks of loops over functions that have ended -/
inductive Marks (w : World) : List Deferred → Prop
  | nil : Marks w []
  | cons {D : Nat} {ds : List Deferred} : w.heap[D]? = some (.deferred (some [])) → (∀ d ∈ ds, d.target ≠ .collected D) → Marks w ds → Marks w ({ target := .collected D, args := #[] } :: ds)
theorem Marks.kept {w w' : World} {ds : List Deferred} (h : Marks w ds) (hk : ∀ D, w.heap[D]? = some (.deferred (some [])) → (∃ d ∈ ds, d.target = .collected D) → w'.heap[D]? = some (.deferred (some []))) : Marks w' ds := by
  induction h with
  | nil => exact .nil
  | cons h1 h2 h3 ih => exact .cons (hk _ h1 ⟨_, List.mem_cons_self, rfl⟩) h2 (ih (fun D hD ⟨d, hd, e⟩ => hk D hD ⟨d, List.mem_cons_of_mem _ hd, e⟩))
theorem Marks.lt {w : World} {ds : List Deferred} (h : Marks w ds) : ∀ d ∈ ds, ∃ D, d.target = .collected D ∧ w.heap[D]? = some (.deferred (some [])) := by
  induction h with
  | nil => intro d hd; cases hd
  | cons h1 h2 h3 ih =>
    intro d hd
    rcases List.mem_cons.1 hd with rfl | hd
    · exact ⟨_, rfl, h1⟩
    · exact ih d hd
theorem Marks.extM {w w' : World} {r : Nat} {ds : List Deferred} (h : Marks w ds) (he : ExtM r w w') {o : Obj} (hr : w.heap[r]? = some o) (ho : o ≠ .deferred (some [])) : Marks w' ds :=
  h.kept fun D hD _ => by
    rw [he.block D (Array.getElem?_eq_some_iff.1 hD).1 (by rintro rfl; rw [hr] at hD; exact ho (Option.some.inj hD))]
    exact hD
theorem Marks.ext {w w' : World} {ds : List Deferred} (h : Marks w ds) (he : Ext w w') : Marks w' ds :=
  h.kept fun D hD _ => by rw [he.block D (Array.getElem?_eq_some_iff.1 hD).1]; exact hD
/-- .. are a function's way out -/
theorem leaves_marks {fn : Func} {tmps : Array Value} {R : Ending → World → Prop} {v : Value} : ∀ (ds : List Deferred) (w : World), Marks w ds → (∀ w', (results fn tmps).run Try.prog w' = .ok v w') → (B : Nat) → (∀ d ∈ ds, ∀ D, d.target = .collected D → B ≤ D) →
    (∀ w', Below B w w' → R (.returned v) w') → LeavesInM Fence.wide 3 Try.prog fn tmps R ds .returning w := by
  intro ds
  induction ds with
  | nil => intro w _ hv B _ hR; exact ⟨v, hv w, hR w (Below.refl _ _)⟩
  | cons d ds ih =>
    intro w hM hv B hB hR
    cases hM with
    | cons h1 h2 h3 =>
      rename_i D
      refine ⟨by simp, .inl ⟨D, _, rfl, run_takeDeferred h1, ?_⟩⟩
      have hBD : B ≤ D := hB _ List.mem_cons_self D rfl
      have hb : Below B w (w.putObj D (.deferred none)) := ⟨rfl, rfl, rfl, by simp, fun k hk => World.putObj_heap_other (by omega)⟩
      refine ih _ (h3.kept fun E hE ⟨d, hd, e⟩ => ?_) hv B (fun d hd => hB d (List.mem_cons_of_mem _ hd)) (fun w' hw' => hR w' (hb.trans hw'))
      rw [World.putObj_heap_other]
      · exact hE
      · rintro rfl; exact h2 d hd e
/-- what Well answers -/
def WellRet (l : List Row) (b : Int) (w : World) (e : Ending) (w' : World) : Prop :=
  ∃ lv, lv.Perm (leavesOf l) ∧ Sorted lv ∧ Ext w w' ∧ ∃ q : Bool, e = .returned (.bool q) ∧ (q = true ↔ wellP l lv b)
theorem notP {P : Prop} (h : ¬ P) : (false = true ↔ P) := ⟨fun e => (by cases e), fun e => absurd e h⟩
/-- the map t's value at a label -/
theorem rec_at {w : World} {m : List (Lbl × Value)} {t : List (Lbl × Rec)} (h : Pairs (RecV w) m t) (a : Lbl) :
    ∃ (k2 : Int) (a2 : Option Addr) (b2 c2 : Nat) (n2 bb2 m2 : Int), (mget a m).getD zeroRec = .agg #[.int .i64 k2, .slice a2 b2 c2, .int .i64 n2, .int .u64 bb2, .int .u64 m2] ∧ (mget a m).isSome = (tget a t).isSome ∧ k2 = kindAt t a := by
  unfold kindAt
  rcases h.get a with ⟨h1, h2⟩ | ⟨v, rc, h1, h2, iv, rfl, hi⟩
  · exact ⟨0, none, 0, 0, 0, 0, 0, by rw [h1]; rfl, by rw [h1, h2]; rfl, by rw [h2]⟩
  · obtain ⟨a2, c2, rfl, -⟩ := hi
    exact ⟨rc.kind, a2, _, c2, rc.next.len, rc.next.bits, rc.mark, by rw [h1]; rfl, by rw [h1, h2]; rfl, by rw [h2]⟩
/-- marks whose blocks lie from B on -/
def MarksFrom (B : Nat) (w : World) (ds : List Deferred) : Prop := Marks w ds ∧ ∀ d ∈ ds, ∀ D, d.target = .collected D → B ≤ D
theorem rowsMap_mem {l : List Row} (h : rowsRight l) {q : Lbl × Rec} (hq : q ∈ rowsMap l) : ∃ x ∈ l, x.lbl = q.1 ∧ x.rc = q.2 := by
  rw [rowsMap_nodup l (rowsRight_nodup h)] at hq
  obtain ⟨x, hx, rfl⟩ := List.mem_map.1 hq
  exact ⟨x, hx, rfl, rfl⟩
theorem rowsRight_ok {l : List Row} (h : rowsRight l) {x : Row} (hx : x ∈ l) : x.lbl.ok = true ∧ x.rc.ok = true := by
  obtain ⟨k, hk, rfl⟩ := List.getElem_of_mem hx
  have := h.2 k hk
  unfold rowFine at this
  rw [getD_lt hk] at this
  exact ⟨this.2.1, this.2.2⟩
theorem root_of {a : Lbl} (h : a.ok = true) (hu : a.u) (h0 : a.len = 0) : a = ⟨0, 0⟩ := by
  obtain ⟨n, v⟩ := a
  simp only at h0
  subst h0
  obtain ⟨-, -, q, hq⟩ := (ok_iff _).1 h
  simp only [pw_0] at hq
  have h1 := hu.1; have h2 := hu.2
  simp only at h1 h2
  have : q = 0 := by omega
  subst this
  simp at hq
  rw [hq]
theorem parent_root_c (a : Lbl) (ha : a = ⟨0, 0⟩) (w : World) : Calls Try.prog 42 #[.agg #[.int .i64 a.len, .int .u64 a.bits]] w fun e w' => e = .returned (.tuple #[.agg #[.int .i64 0, .int .u64 0], .int .i64 7]) ∧ Ext w w' := by
  subst ha
  exact parent_root w
/-- how many of some labels are there -/
def cntOf (t : List (Lbl × Rec)) (pre : List Lbl) : Nat := (pre.filter fun x => (tget x t).isSome).length
theorem cntOf_snoc (t : List (Lbl × Rec)) (pre : List Lbl) (x : Lbl) : cntOf t (pre ++ [x]) = cntOf t pre + if (tget x t).isSome then 1 else 0 := by
  unfold cntOf
  rw [List.filter_append, List.length_append]
  congr 1
  simp only [List.filter_cons, List.filter_nil]
  split <;> rfl
/-- the counter of children, on its way: it lies in block n -/
def CountRel (t : List (Lbl × Rec)) (n : Nat) (W3 : World) (pre : List Lbl) (W : World) : Prop :=
  W.cell? ⟨n, 0, none⟩ = some (.int .i64 (cntOf t pre)) ∧ W.frozen? ⟨n, 0, none⟩ = false ∧ ExtM n W3 W
theorem CountRel.ext {t : List (Lbl × Rec)} {n : Nat} {W3 W W' : World} {pre : List Lbl} (h : CountRel t n W3 pre W) (he : Ext W W') : CountRel t n W3 pre W' :=
  ⟨he.cell h.1, he.free n 0 (World.block_lt_of_cell? _ _ h.1) h.2.1, h.2.2.trans (Ext.m n he)⟩
theorem CountRel.kept {t : List (Lbl × Rec)} {n : Nat} {W3 W W' : World} {pre : List Lbl} (h : CountRel t n W3 pre W) {row : Option Nat} (hg : W.grownBy W' row) (hr : ∀ r, row = some r → n ≠ r ∧ W3.heap.size ≤ r ∧ ∃ o : Obj, W.heap[r]? = some o ∧ o.isCells = false) : CountRel t n W3 pre W' := by
  obtain ⟨h1, h2, h3⟩ := h
  refine ⟨cell_kept h1 hg (fun r e => (hr r e).2.2), (frozen_kept h1 hg (fun r e => (hr r e).2.2)).trans h2, ⟨hg.os.trans h3.os, hg.tape.trans h3.tape, hg.output.trans h3.output, Nat.le_trans h3.size hg.size, fun k hk hkr => ?_⟩⟩
  rw [hg.block k (Nat.lt_of_lt_of_le hk h3.size) (fun e => by have := (hr k e.symm).2.1; omega)]
  exact h3.block k hk hkr
theorem CountRel.bump {t : List (Lbl × Rec)} {n : Nat} {W3 W : World} {pre : List Lbl} {x : Lbl} (h : CountRel t n W3 pre W) (hs : (tget x t).isSome = true) : CountRel t n W3 (pre ++ [x]) (W.setCell ⟨n, 0, none⟩ (.int .i64 ((cntOf t pre : Int) + 1))) := by
  obtain ⟨h1, h2, h3⟩ := h
  refine ⟨?_, by rw [World.frozen?_setCell]; exact h2, h3.trans ⟨rfl, rfl, rfl, by rw [World.size_setCell]; exact Nat.le_refl _, fun k hk hkr => ?_⟩⟩
  · rw [cntOf_snoc, hs, World.cell?_setCell_same' _ _ _ (by rw [h1]; rfl)]
    simp
  · show (W.heap.modify n _)[k]? = _
    rw [Array.getElem?_modify, if_neg (Ne.symm hkr)]
theorem CountRel.skip {t : List (Lbl × Rec)} {n : Nat} {W3 W : World} {pre : List Lbl} {x : Lbl} (h : CountRel t n W3 pre W) (hs : (tget x t).isSome = false) : CountRel t n W3 (pre ++ [x]) W := by
  obtain ⟨h1, h2, h3⟩ := h
  refine ⟨?_, h2, h3⟩
  rw [cntOf_snoc, hs]
  simpa using h1
theorem ExtM.cell_ne {r : Nat} {w w' : World} (h : ExtM r w w') {a : Addr} (hne : a.block ≠ r) {v : Value} (hc : w.cell? a = some v) : w'.cell? a = some v := by
  rw [World.cell?_of_block (h.block a.block (World.block_lt_of_cell? _ _ hc) hne)]; exact hc
theorem MapIs.extM_ne {r n : Nat} {w w' : World} {m : List (Lbl × Value)} (h : MapIs w r m) (he : ExtM n w w') (hne : r ≠ n) : MapIs w' r m := by
  have hl := h.lt
  obtain ⟨es, c, hh, hr⟩ := h
  exact ⟨es, c, by rw [he.block r hl hne]; exact hh, hr⟩
/-- how far Well has come -/
def WellRel (w6 : World) (rb rr : Nat) (m : List (Lbl × Value)) (t : List (Lbl × Rec)) (ns : List (Lbl × Lbl)) (b : Int) (wr : World) : Prop :=
  ∃ left lt, Ranging wr rb rr m left ∧ Pairs (RecV w6) left lt ∧ (∀ q ∈ lt, q ∈ t) ∧ (∀ q ∈ t, q ∈ lt ∨ wellRow t ns b q = true) ∧ ExtM rr w6 wr
def WellInv (B b5 r2 rr : Nat) (b : Int) (Rel : World → Prop) (a : Act) (wr : World) : Prop :=
  ∃ (u : Nat → Value) (ds : List Deferred), MarksFrom B wr ds ∧ Rel wr ∧ a = { tmps := #[u 0, .int .i64 b, u 2, u 3, .bool false, .pointer (some ⟨b5, 0, none⟩), .map (some r2), u 7, u 8, u 9, u 10, u 11, u 12, u 13, u 14, u 15, u 16, u 17, u 18, u 19, u 20, u 21, u 22, u 23, u 24, u 25, u 26, u 27, u 28, u 29, u 30, u 31, u 32, u 33, u 34, u 35, u 36, u 37, u 38, u 39, u 40, u 41, u 42, u 43, .pointer (some ⟨rr, 0, none⟩), u 45, u 46, u 47, u 48, u 49, u 50, u 51, u 52, u 53, u 54, u 55, u 56, u 57, u 58, u 59, u 60, u 61, u 62, u 63, u 64, u 65, u 66, u 67, u 68, u 69, u 70, u 71, u 72, u 73, u 74, u 75, u 76, u 77, u 78, u 79, u 80, u 81, u 82, u 83, u 84, u 85, u 86, u 87, u 88, u 89, u 90, u 91, u 92, u 93, u 94, u 95, u 96, u 97, u 98, u 99, u 100, u 101, u 102, u 103, u 104, u 105, u 106, u 107], defers := ds }
theorem WellInv.of {B b5 r2 rr : Nat} {b : Int} {Rel : World → Prop} {wr : World} {u0 u2 u3 u7 u8 u9 u10 u11 u12 u13 u14 u15 u16 u17 u18 u19 u20 u21 u22 u23 u24 u25 u26 u27 u28 u29 u30 u31 u32 u33 u34 u35 u36 u37 u38 u39 u40 u41 u42 u43 u45 u46 u47 u48 u49 u50 u51 u52 u53 u54 u55 u56 u57 u58 u59 u60 u61 u62 u63 u64 u65 u66 u67 u68 u69 u70 u71 u72 u73 u74 u75 u76 u77 u78 u79 u80 u81 u82 u83 u84 u85 u86 u87 u88 u89 u90 u91 u92 u93 u94 u95 u96 u97 u98 u99 u100 u101 u102 u103 u104 u105 u106 u107 : Value} {ds : List Deferred} (h1 : MarksFrom B wr ds) (h2 : Rel wr) : WellInv B b5 r2 rr b Rel { tmps := #[u0, .int .i64 b, u2, u3, .bool false, .pointer (some ⟨b5, 0, none⟩), .map (some r2), u7, u8, u9, u10, u11, u12, u13, u14, u15, u16, u17, u18, u19, u20, u21, u22, u23, u24, u25, u26, u27, u28, u29, u30, u31, u32, u33, u34, u35, u36, u37, u38, u39, u40, u41, u42, u43, .pointer (some ⟨rr, 0, none⟩), u45, u46, u47, u48, u49, u50, u51, u52, u53, u54, u55, u56, u57, u58, u59, u60, u61, u62, u63, u64, u65, u66, u67, u68, u69, u70, u71, u72, u73, u74, u75, u76, u77, u78, u79, u80, u81, u82, u83, u84, u85, u86, u87, u88, u89, u90, u91, u92, u93, u94, u95, u96, u97, u98, u99, u100, u101, u102, u103, u104, u105, u106, u107], defers := ds } wr :=
  ⟨fun k => #[u0, undef, u2, u3, undef, undef, undef, u7, u8, u9, u10, u11, u12, u13, u14, u15, u16, u17, u18, u19, u20, u21, u22, u23, u24, u25, u26, u27, u28, u29, u30, u31, u32, u33, u34, u35, u36, u37, u38, u39, u40, u41, u42, u43, undef, u45, u46, u47, u48, u49, u50, u51, u52, u53, u54, u55, u56, u57, u58, u59, u60, u61, u62, u63, u64, u65, u66, u67, u68, u69, u70, u71, u72, u73, u74, u75, u76, u77, u78, u79, u80, u81, u82, u83, u84, u85, u86, u87, u88, u89, u90, u91, u92, u93, u94, u95, u96, u97, u98, u99, u100, u101, u102, u103, u104, u105, u106, u107].getD k undef, ds, h1, h2, rfl⟩
theorem wp_loop_well {P : Program} {c : Code} {Q : Exit → Act → World → Prop} {a : Act} {w : World} (B b5 r2 rr : Nat) (b : Int) (Rel : World → Prop) (μ : World → Nat) (h0 : WellInv B b5 r2 rr b Rel a w)
    (round : ∀ (u : Nat → Value) (ds : List Deferred) (wr : World), MarksFrom B wr ds → Rel wr → c.wp P (Exit.then (fun a' w' => WellInv B b5 r2 rr b Rel a' w' ∧ μ w' < μ wr) Q) { tmps := #[u 0, .int .i64 b, u 2, u 3, .bool false, .pointer (some ⟨b5, 0, none⟩), .map (some r2), u 7, u 8, u 9, u 10, u 11, u 12, u 13, u 14, u 15, u 16, u 17, u 18, u 19, u 20, u 21, u 22, u 23, u 24, u 25, u 26, u 27, u 28, u 29, u 30, u 31, u 32, u 33, u 34, u 35, u 36, u 37, u 38, u 39, u 40, u 41, u 42, u 43, .pointer (some ⟨rr, 0, none⟩), u 45, u 46, u 47, u 48, u 49, u 50, u 51, u 52, u 53, u 54, u 55, u 56, u 57, u 58, u 59, u 60, u 61, u 62, u 63, u 64, u 65, u 66, u 67, u 68, u 69, u 70, u 71, u 72, u 73, u 74, u 75, u 76, u 77, u 78, u 79, u 80, u 81, u 82, u 83, u 84, u 85, u 86, u 87, u 88, u 89, u 90, u 91, u 92, u 93, u 94, u 95, u 96, u 97, u 98, u 99, u 100, u 101, u 102, u 103, u 104, u 105, u 106, u 107], defers := ds } wr) :
    (Code.loop c).wp P Q a w := by
  refine wp_loop (WellInv B b5 r2 rr b Rel) (fun _ w => μ w) h0 ?_
  rintro a w ⟨u, ds, h1, h2, rfl⟩
  exact round u ds w h1 h2
set_option maxRecDepth 100000 in
theorem well_c (w : World) (v : Value) (l : List Row) (b : Int) (hv : RowsAt w v l) (hu : rowsU l) (hU : treeU (rowsMap l)) (hl : l.length ≤ 100000) : Calls Try.prog 11 #[v, .int .i64 b] w (WellRet l b w) := by
  obtain ⟨ao, c, rfl, -⟩ : ∃ ao c, v = .slice ao l.length c ∧ True := by obtain ⟨ao, c, e, -⟩ := hv; exact ⟨ao, c, e, trivial⟩
  refine (callsIn_wide (n := 3)).1 ?_
  refine callsIn_of_wp_marks Try.func11 rfl trivial ?_ rfl
  simp only [Try.ntmps11, List.size_toArray, List.length_cons, List.length_nil, Nat.reduceAdd, Nat.reduceSub, Array.replicate_succ, Array.replicate_zero, List.push_toArray, List.append_toArray, List.nil_append, List.cons_append]
  refine wpIn_wide.2 ?_
  go_wp2_with fail
  refine (of_c w _ l hv).mono ?_
  rintro e w1 ⟨rb, rfl, hrb, hT, hE1⟩
  go_wp2_with fail
  refine (leaves_c w1 _ l (hv.ext hE1) hl).mono ?_
  rintro e w2 ⟨v2, lv, rfl, hplv, hso, hva, hE2⟩
  have hlvl : lv.length ≤ 1000000 := by
    rw [hplv.length_eq]
    have := leavesOf_le l
    omega
  go_wp2_with fail
  refine (nexts_c w2 v2 lv hva hlvl).mono ?_
  rintro e w3 ⟨r2, m2, rfl, hr2lt, hM2, hP2, hE3⟩
  have hE := (hE1.trans hE2).trans hE3
  have hT3 := (hT.ext hE2).ext hE3
  have hv3 := hv.ext hE
  have HPL := Lib.hid hplv
  clear hva hlvl hplv hE1 hE2 hE3 hT
  obtain ⟨m, hM, hP⟩ := hT3
  obtain ⟨k0, a0, b0, c0, n0, bb0, mk0, hz1, hz2, hz3⟩ := rec_at hP rootLbl
  have hlk := run_lookup2 (hM.ext ((Ext.refl w3).alloc (.cells #[.map (some rb)] 79))) 79 38 zeroRec typeTree zeroRec_c 0 0
  rw [show (Lbl.mk 0 0) = rootLbl from rfl, hz1, hz2] at hlk
  clear hz1 hz2 hz3
  have HP := Lib.hid hP; have HP2 := Lib.hid hP2
  clear hP hP2
  by_cases hroot : (tget rootLbl (rowsMap l)).isSome = true
  · rw [hroot] at hlk
    have HR := Lib.hid hroot; clear hroot
    by_cases hb1 : b < 1
    · have e1 : decide (b < 1) = true := by simp [hb1]
      go_wp2
      refine ⟨.bool false, by simp [results, Try.results11], lv, HPL.out, hso, (hE.alloc _).alloc _, false, rfl, notP fun h => by have h1 := h.2.1; have h2 := h.2.2.1; omega⟩
    · have e1 : decide (b < 1) = false := by simp [hb1]
      by_cases hb2 : 16 < b
      · have e2 : decide (16 < b) = true := by simp [hb2]
        go_wp2
        refine ⟨.bool false, by simp [results, Try.results11], lv, HPL.out, hso, (hE.alloc _).alloc _, false, rfl, notP fun h => by have h1 := h.2.1; have h2 := h.2.2.1; omega⟩
      · have e2 : decide (16 < b) = false := by simp [hb2]
        go_wp2_with fail
        refine (trieIs_c _ _ l ((hv3.ext ((Ext.refl w3).alloc _)).ext ((Ext.refl _).alloc _)) hu).mono ?_
        rintro e w5 ⟨q, rfl, hb5, hq⟩
        have c5 := hb5.at w3.heap.size 0 (.map (some rb)) (by go_simp)
        have hE35 : Ext w3 w5 := Ext.trans (((Ext.refl w3).alloc _).alloc _) hb5
        have hz5 : w3.heap.size + 1 + 1 ≤ w5.heap.size := by have := hb5.size; simp only [World.size_alloc] at this; exact this
        clear hb5 hlk
        cases q
        · have hnr : ¬ rowsRight l := fun h => by have := hq.2 h; cases this
          clear hq
          go_wp2
          exact ⟨.bool false, by simp [results, Try.results11], lv, HPL.out, hso, hE.trans hE35, false, rfl, notP fun h => hnr h.2.2.2.1⟩
        · have hright : rowsRight l := hq.1 rfl
          clear hq
          obtain ⟨w6, hrange, hrg, hE6, hz6⟩ := run_range_lbl (hM.ext hE35) 79 38 typeTree
          have hP6 : Pairs (RecV w6) m (rowsMap l) := HP.out.imp fun _ _ h => (h.ext hE35).ext hE6
          have HP6 := Lib.hid hP6; have HZ6 := Lib.hid hz6
          have hE06 := (hE.trans hE35).trans hE6
          have c56 := hE6.cell c5
          have hM26 := (hM2.ext hE35).ext hE6
          have hr25 : r2 < w5.heap.size := (hM2.ext hE35).lt
          have hrb5 : rb < w5.heap.size := (hM.ext hE35).lt
          have h56 : w5.heap.size < w6.heap.size := by omega
          have HRIGHT := Lib.hid hright
          obtain ⟨oi, hoi, hoc⟩ : ∃ oi : Obj, w6.heap[w5.heap.size]? = some oi ∧ oi.isCells = false := by
            obtain ⟨es, clock, since, seen, c0, -, -, -, -, -, hrr, -⟩ := hrg
            exact ⟨_, hrr, rfl⟩
          have HOI := Lib.hid hoi; have HOC := Lib.hid hoc
          clear hP6 hz6 hright hoi hoc
          go_wp2
          clear hrange
          refine wp_loop_well w6.heap.size w3.heap.size r2 w5.heap.size b (WellRel w6 rb w5.heap.size m (rowsMap l) (nextsTo lv lv.length) b) (fun wr => rangeLeft rb w5.heap.size wr) ?h0 ?round
          case h0 => exact WellInv.of ⟨.nil, fun d hd => by (cases hd)⟩ ⟨m, rowsMap l, hrg, HP6.out, fun q hq => hq, fun q hq => .inl hq, ExtM.refl _ _⟩
          case round =>
            intro u ds wr hmk hrel
            obtain ⟨left, lt, hr1, hr2, hr3, hr4, hr7⟩ := hrel
            rcases run_next_lbl hr1 0 with ⟨rfl, hrun⟩ | ⟨p, hp, w7, hrun, hr8, hX7, hz7, hen⟩
            · have hlt0 := hr2.nil_right
              subst hlt0
              have hall : ∀ q ∈ rowsMap l, wellRow (rowsMap l) (nextsTo lv lv.length) b q = true := fun q hq => (hr4 q hq).elim (fun h => by cases h) id
              have hwell : wellP l lv b := ⟨HR.out, by omega, by omega, HRIGHT.out, hall⟩
              have HW := Lib.hid hwell
              clear hr4 hall hwell
              go_wp2
              refine leaves_marks (v := .bool true) _ _ hmk.1 (fun w' => by simp [results, Try.results11]) w6.heap.size hmk.2 (fun w' hw' => ⟨lv, HPL.out, hso, ?_, true, rfl, fun _ => HW.out, fun _ => rfl⟩)
              exact Below.trans hE06 ((hr7.below_trans hw').below (by have := hE.size; have := hE35.size; omega) hE06.size)
            · obtain ⟨rc, hrc, iv, hiv, hit⟩ := hr2.mem hp
              obtain ⟨jo, jc, rfl⟩ : ∃ jo jc, iv = .slice jo rc.items.length jc := by obtain ⟨jo, jc, e, -⟩ := hit; exact ⟨jo, jc, e⟩
              rw [hiv] at hrun hen
              have HIV := Lib.hid hiv; clear hiv
              obtain ⟨x0, hx0, hxl, hxr⟩ := rowsMap_mem HRIGHT.out (hr3 _ hrc)
              obtain ⟨hok1, hok2⟩ := rowsRight_ok HRIGHT.out hx0
              obtain ⟨hu1, hu2⟩ := hu x0 hx0
              simp only at hxl hxr
              rw [hxl] at hok1 hu1
              rw [hxr] at hok2 hu2
              obtain ⟨hU1, hU2⟩ := hU p.1 rc (tget_mem (t := rowsMap l) (p := (p.1, rc)) (by rw [rowsMap_nodup l (rowsRight_nodup HRIGHT.out), List.map_map]; exact rowsRight_nodup HRIGHT.out) (hr3 _ hrc))
              obtain ⟨a, ha⟩ : ∃ a, a = p.1 := ⟨_, rfl⟩
              rw [← ha] at hok1 hu1 hrun hen hrc hr8
              have hmt := hr3 _ hrc
              have htn : ((rowsMap l).map (·.1)).Nodup := by rw [rowsMap_nodup l (rowsRight_nodup HRIGHT.out), List.map_map]; exact rowsRight_nodup HRIGHT.out
              have HTN := Lib.hid htn; clear htn
              have HA := Lib.hid ha; clear ha
              have hX67 := hr7.trans hX7
              have HC := Lib.hid (fun (W' : World) (h : ExtM w5.heap.size w6 W') => h.cellN HOI.out HOC.out c56)
              have hlen0 : 0 ≤ a.len := ((ok_iff a).1 hok1).1
              have hnotwell : wellRow (rowsMap l) (nextsTo lv lv.length) b (a, rc) = false → ¬ wellP l lv b := fun h hw => by
                have := hw.2.2.2.2 _ hmt
                rw [h] at this; cases this
              have HNW := Lib.hid hnotwell; clear hnotwell
              have HU2 := Lib.hid hU2
              have HZ7 := Lib.hid hz7
              have HR4 := Lib.hid hr4; have HR3 := Lib.hid hr3
              clear hxl hxr hx0 hz7 hr4 hr3 hU2
              have c57 := HC.out w7 hX67
              have hlt37 : w3.heap.size < w7.heap.size := by have := hX67.size; have := hE6.size; omega
              have hmk7 : Marks w7 ds := by
                obtain ⟨es, clock, since, seen, c0, -, -, -, -, -, hrr, -⟩ := hr1
                exact hmk.1.extM hX7 hrr (by intro e; cases e)
              have hfalse : ∀ w8 : World, Ext w7 w8 → wellRow (rowsMap l) (nextsTo lv lv.length) b (a, rc) = false → ∀ w', Below w6.heap.size w8 w' → WellRet l b w (.returned (.bool false)) w' := fun w8 h8 hw w' hw' =>
                ⟨lv, HPL.out, hso, Below.trans hE06 (((hX67.trans (Ext.m w5.heap.size h8)).below_trans hw').below (by have := hE.size; have := hE35.size; omega) hE06.size), false, rfl, notP (HNW.out hw)⟩
              have HFALSE := Lib.hid hfalse; clear hfalse
              have hrel : ∀ w8 : World, Ext w7 w8 → wellRow (rowsMap l) (nextsTo lv lv.length) b (a, rc) = true → WellRel w6 rb w5.heap.size m (rowsMap l) (nextsTo lv lv.length) b w8 := fun w8 h8 hw => by
                refine ⟨_, _, hr8.ext h8, hr2.filter a, fun q hq => HR3.out q (List.mem_filter.1 hq).1, fun q hq => ?_, hX67.trans (Ext.m w5.heap.size h8)⟩
                rcases HR4.out q hq with h | h
                · by_cases e : q.1 = a
                  · right
                    have e1 := tget_mem HTN.out hq
                    have e2 := tget_mem HTN.out hmt
                    rw [e] at e1
                    rw [show (a, rc).1 = a from rfl, e1] at e2
                    have : q = (a, rc) := Prod.ext e (Option.some.inj e2)
                    rw [this]; exact hw
                  · left
                    exact List.mem_filter.2 ⟨h, by simp [e]⟩
                · exact .inr h
              have hmeas : ∀ w8 : World, Ext w7 w8 → rangeLeft rb w5.heap.size w8 < rangeLeft rb w5.heap.size wr := fun w8 h8 => by
                rw [(hr8.ext h8).left_eq, hr1.left_eq, HA.out]
                exact filter_lt hp
              have HREL := Lib.hid hrel; have HMEAS := Lib.hid hmeas; clear hrel hmeas
              have hpar : a = ⟨0, 0⟩ ∨ (0 < a.len ∧ ∃ (k2 : Int) (a2 : Option Addr) (b2 c2 : Nat) (n2 bb2 mm2 : Int), (mget (parentOf a) m).getD zeroRec = .agg #[.int .i64 k2, .slice a2 b2 c2, .int .i64 n2, .int .u64 bb2, .int .u64 mm2] ∧ k2 = 2 ∧ k2 = kindAt (rowsMap l) (parentOf a)) ∨ (0 < a.len ∧ ∃ (k2 : Int) (a2 : Option Addr) (b2 c2 : Nat) (n2 bb2 mm2 : Int), (mget (parentOf a) m).getD zeroRec = .agg #[.int .i64 k2, .slice a2 b2 c2, .int .i64 n2, .int .u64 bb2, .int .u64 mm2] ∧ k2 ≠ 2 ∧ k2 = kindAt (rowsMap l) (parentOf a)) := by
                by_cases hl0 : a.len = 0
                · exact .inl (root_of hok1 hu1 hl0)
                · obtain ⟨k2, a2, b2, c2, n2, bb2, mm2, hz1, hz2, hz3⟩ := rec_at HP6.out (parentOf a)
                  by_cases hk2 : k2 = 2
                  · exact .inr (.inl ⟨by omega, k2, a2, b2, c2, n2, bb2, mm2, hz1, hk2, hz3⟩)
                  · exact .inr (.inr ⟨by omega, k2, a2, b2, c2, n2, bb2, mm2, hz1, hk2, hz3⟩)
              have hpar3 : (a = ⟨0, 0⟩ ∨ (0 < a.len ∧ ∃ (k2 : Int) (a2 : Option Addr) (b2 c2 : Nat) (n2 bb2 mm2 : Int), (mget (parentOf a) m).getD zeroRec = .agg #[.int .i64 k2, .slice a2 b2 c2, .int .i64 n2, .int .u64 bb2, .int .u64 mm2] ∧ k2 = 2 ∧ k2 = kindAt (rowsMap l) (parentOf a))) ∨ (0 < a.len ∧ ∃ (k2 : Int) (a2 : Option Addr) (b2 c2 : Nat) (n2 bb2 mm2 : Int), (mget (parentOf a) m).getD zeroRec = .agg #[.int .i64 k2, .slice a2 b2 c2, .int .i64 n2, .int .u64 bb2, .int .u64 mm2] ∧ k2 ≠ 2 ∧ k2 = kindAt (rowsMap l) (parentOf a)) := hpar.elim (fun h => .inl (.inl h)) (fun h => h.elim (fun h => .inl (.inr h)) .inr)
              clear hpar
              rcases hpar3 with hpar | ⟨hlp, k2, a2, b2, c2, n2, bb2, mm2, hz1, hk2, hz3⟩
              rotate_left
              · have tok := trivial
                go_wp2_with fail
                refine (parent_c a _ hu1 hok1 hlp).mono ?_
                rintro e w8 ⟨rfl, hb8⟩
                have x0 := hb8.at (w7.heap.size) 0 (.int .i64 a.len) (by go_simp); have x0f := hb8.free (w7.heap.size) 0 (by first | (simp; done) | (simp; omega)) (by go_simp); have x1 := hb8.at (w7.heap.size) 1 (.int .u64 a.bits) (by go_simp); have x1f := hb8.free (w7.heap.size) 1 (by first | (simp; done) | (simp; omega)) (by go_simp)
                have y0 := hb8.at (w7.heap.size + 1) 0 (.int .i64 rc.kind) (by go_simp); have y0f := hb8.free (w7.heap.size + 1) 0 (by first | (simp; done) | (simp; omega)) (by go_simp); have y1 := hb8.at (w7.heap.size + 1) 1 (.slice jo rc.items.length jc) (by go_simp); have y1f := hb8.free (w7.heap.size + 1) 1 (by first | (simp; done) | (simp; omega)) (by go_simp); have y2 := hb8.at (w7.heap.size + 1) 2 (.int .i64 rc.next.len) (by go_simp); have y2f := hb8.free (w7.heap.size + 1) 2 (by first | (simp; done) | (simp; omega)) (by go_simp); have y3 := hb8.at (w7.heap.size + 1) 3 (.int .u64 rc.next.bits) (by go_simp); have y3f := hb8.free (w7.heap.size + 1) 3 (by first | (simp; done) | (simp; omega)) (by go_simp); have y4 := hb8.at (w7.heap.size + 1) 4 (.int .u64 rc.mark) (by go_simp); have y4f := hb8.free (w7.heap.size + 1) 4 (by first | (simp; done) | (simp; omega)) (by go_simp)
                have c58 := hb8.at w3.heap.size 0 (.map (some rb)) (by go_simp)
                have hlt38 : w3.heap.size < w8.heap.size := by have := hb8.size; simp only [World.size_alloc] at this; omega
                have hE78 : Ext w7 w8 := Ext.trans (((Ext.refl w7).alloc _).alloc _) hb8
                have hz8 : w7.heap.size + 1 < w8.heap.size := by have := hb8.size; simp only [World.size_alloc] at this; omega
                have hz8' : w7.heap.size < w8.heap.size := by omega
                clear hb8
                have hlk := run_lookup1 (((hr8.ext hE78).map).ext ((Ext.refl w8).alloc (.cells #[.int .i64 (parentOf a).len, .int .u64 (parentOf a).bits] 36))) 79 38 zeroRec typeTree zeroRec_c (parentOf a).len (parentOf a).bits
                rw [hz1] at hlk
                obtain ⟨Wp, hWp⟩ : ∃ Wp : World, Wp = w8.alloc (.cells #[.int .i64 (parentOf a).len, .int .u64 (parentOf a).bits] 36) := ⟨_, rfl⟩
                have hEp : Ext w7 Wp := by rw [hWp]; exact hE78.alloc _
                have hE8p : Ext w8 Wp := by rw [hWp]; exact (Ext.refl _).alloc _
                have HZP := Lib.hid (show Wp.heap.size = w8.heap.size + 1 by rw [hWp]; simp)
                have HW := Lib.hid hWp.symm; clear hWp
                have e3 : (k2 != 2) = true := by simp [hk2]
                have HZ3 := Lib.hid hz3; have HK2 := Lib.hid hk2
                clear hz1 hz3 hk2
                go_wp2
                rw [HW.out]
                refine leaves_marks (v := .bool false) _ _ (hmk7.ext hEp) (fun w' => by simp [results, Try.results11]) w6.heap.size hmk.2 (HFALSE.out _ hEp ?_)
                unfold wellRow
                have h1 : ¬ a.len = 0 := by omega
                have h2 : ¬ kindAt (rowsMap l) (parentOf a) = 2 := by rw [← HZ3.out]; exact HK2.out
                simp [h1, h2]
              have hpar2 : a.len = 0 ∨ kindAt (rowsMap l) (parentOf a) = 2 := by
                rcases hpar with rfl | ⟨-, k2, a2, b2, c2, n2, bb2, mm2, -, h2, h3⟩
                · exact .inl rfl
                · exact .inr (h3.symm.trans h2)
              have HPAR := Lib.hid hpar2; clear hpar2
              by_cases hk1 : rc.kind = 1
              · have ek1 : (rc.kind == 1) = true := by simp [hk1]
                have HK := Lib.hid hk1; clear hk1
                rcases hpar with ha | ⟨hlp, k2, a2, b2, c2, n2, bb2, mm2, hz1, rfl, hz3⟩
                focus
                  have HA0 := Lib.hid ha; clear ha
                  go_wp2_with fail
                  refine (parent_root_c a HA0.out _).mono ?_
                  rintro e w8 ⟨rfl, hb8⟩
                  have x0 := hb8.at (w7.heap.size) 0 (.int .i64 a.len) (by go_simp); have x0f := hb8.free (w7.heap.size) 0 (by first | (simp; done) | (simp; omega)) (by go_simp); have x1 := hb8.at (w7.heap.size) 1 (.int .u64 a.bits) (by go_simp); have x1f := hb8.free (w7.heap.size) 1 (by first | (simp; done) | (simp; omega)) (by go_simp)
                  have y0 := hb8.at (w7.heap.size + 1) 0 (.int .i64 rc.kind) (by go_simp); have y0f := hb8.free (w7.heap.size + 1) 0 (by first | (simp; done) | (simp; omega)) (by go_simp); have y1 := hb8.at (w7.heap.size + 1) 1 (.slice jo rc.items.length jc) (by go_simp); have y1f := hb8.free (w7.heap.size + 1) 1 (by first | (simp; done) | (simp; omega)) (by go_simp); have y2 := hb8.at (w7.heap.size + 1) 2 (.int .i64 rc.next.len) (by go_simp); have y2f := hb8.free (w7.heap.size + 1) 2 (by first | (simp; done) | (simp; omega)) (by go_simp); have y3 := hb8.at (w7.heap.size + 1) 3 (.int .u64 rc.next.bits) (by go_simp); have y3f := hb8.free (w7.heap.size + 1) 3 (by first | (simp; done) | (simp; omega)) (by go_simp); have y4 := hb8.at (w7.heap.size + 1) 4 (.int .u64 rc.mark) (by go_simp); have y4f := hb8.free (w7.heap.size + 1) 4 (by first | (simp; done) | (simp; omega)) (by go_simp)
                  have c58 := hb8.at w3.heap.size 0 (.map (some rb)) (by go_simp)
                  have hlt38 : w3.heap.size < w8.heap.size := by have := hb8.size; simp only [World.size_alloc] at this; omega
                  have hE78 : Ext w7 w8 := Ext.trans (((Ext.refl w7).alloc _).alloc _) hb8
                  have hz8 : w7.heap.size + 1 < w8.heap.size := by have := hb8.size; simp only [World.size_alloc] at this; omega
                  have hz8' : w7.heap.size < w8.heap.size := by omega
                  clear hb8
                  obtain ⟨Wp, hWp⟩ : ∃ Wp : World, Wp = w8.alloc (.cells #[.int .i64 0, .int .u64 0] 36) := ⟨_, rfl⟩
                  have hEp : Ext w7 Wp := by rw [hWp]; exact hE78.alloc _
                  have hE8p : Ext w8 Wp := by rw [hWp]; exact (Ext.refl _).alloc _
                  have HZP := Lib.hid (show Wp.heap.size = w8.heap.size + 1 by rw [hWp]; simp)
                  have HW := Lib.hid hWp.symm; clear hWp
                  go_wp2
                  rw [HW.out]
                rotate_left
                focus
                  go_wp2_with fail
                  refine (parent_c a _ hu1 hok1 hlp).mono ?_
                  rintro e w8 ⟨rfl, hb8⟩
                  have x0 := hb8.at (w7.heap.size) 0 (.int .i64 a.len) (by go_simp); have x0f := hb8.free (w7.heap.size) 0 (by first | (simp; done) | (simp; omega)) (by go_simp); have x1 := hb8.at (w7.heap.size) 1 (.int .u64 a.bits) (by go_simp); have x1f := hb8.free (w7.heap.size) 1 (by first | (simp; done) | (simp; omega)) (by go_simp)
                  have y0 := hb8.at (w7.heap.size + 1) 0 (.int .i64 rc.kind) (by go_simp); have y0f := hb8.free (w7.heap.size + 1) 0 (by first | (simp; done) | (simp; omega)) (by go_simp); have y1 := hb8.at (w7.heap.size + 1) 1 (.slice jo rc.items.length jc) (by go_simp); have y1f := hb8.free (w7.heap.size + 1) 1 (by first | (simp; done) | (simp; omega)) (by go_simp); have y2 := hb8.at (w7.heap.size + 1) 2 (.int .i64 rc.next.len) (by go_simp); have y2f := hb8.free (w7.heap.size + 1) 2 (by first | (simp; done) | (simp; omega)) (by go_simp); have y3 := hb8.at (w7.heap.size + 1) 3 (.int .u64 rc.next.bits) (by go_simp); have y3f := hb8.free (w7.heap.size + 1) 3 (by first | (simp; done) | (simp; omega)) (by go_simp); have y4 := hb8.at (w7.heap.size + 1) 4 (.int .u64 rc.mark) (by go_simp); have y4f := hb8.free (w7.heap.size + 1) 4 (by first | (simp; done) | (simp; omega)) (by go_simp)
                  have c58 := hb8.at w3.heap.size 0 (.map (some rb)) (by go_simp)
                  have hlt38 : w3.heap.size < w8.heap.size := by have := hb8.size; simp only [World.size_alloc] at this; omega
                  have hE78 : Ext w7 w8 := Ext.trans (((Ext.refl w7).alloc _).alloc _) hb8
                  have hz8 : w7.heap.size + 1 < w8.heap.size := by have := hb8.size; simp only [World.size_alloc] at this; omega
                  have hz8' : w7.heap.size < w8.heap.size := by omega
                  clear hb8
                  have hlk := run_lookup1 (((hr8.ext hE78).map).ext ((Ext.refl w8).alloc (.cells #[.int .i64 (parentOf a).len, .int .u64 (parentOf a).bits] 36))) 79 38 zeroRec typeTree zeroRec_c (parentOf a).len (parentOf a).bits
                  rw [hz1] at hlk
                  obtain ⟨Wp, hWp⟩ : ∃ Wp : World, Wp = w8.alloc (.cells #[.int .i64 (parentOf a).len, .int .u64 (parentOf a).bits] 36) := ⟨_, rfl⟩
                  have hEp : Ext w7 Wp := by rw [hWp]; exact hE78.alloc _
                  have hE8p : Ext w8 Wp := by rw [hWp]; exact (Ext.refl _).alloc _
                  have HZP := Lib.hid (show Wp.heap.size = w8.heap.size + 1 by rw [hWp]; simp)
                  have HW := Lib.hid hWp.symm; clear hWp
                  go_wp2
                  rw [HW.out]
                all_goals
                  have hX6p := hX67.trans (Ext.m w5.heap.size hEp)
                  have hitp : ItemsAt Wp (.slice jo rc.items.length jc) rc.items := hit.cells (fun a v hc => hX6p.cellN HOI.out HOC.out hc)
                  have hMp : MapIs Wp r2 m2 := by
                    obtain ⟨es, cl, hh, hrr⟩ := hM26
                    exact ⟨es, cl, by rw [hX6p.block r2 (by omega) (by omega)]; exact hh, hrr⟩
                  have HQ := Lib.hid (fun (W' : World) (h : Ext Wp W') => And.intro (h.cell (hE8p.cell x0)) (And.intro (h.cell (hE8p.cell x1)) (And.intro (h.cell (hE8p.cell y1)) (And.intro (h.cell (hE8p.cell y2)) (h.cell (hE8p.cell y3))))))
                  have hcr := fun (W' : World) (h : Ext Wp W') => covered_c W' (.slice jo rc.items.length jc) rc.items a (hitp.ext h) hU1 hu1 HU2.out
                  have HCR := Lib.hid hcr; clear hcr
                  have hlkp := fun (W' : World) (h : Ext Wp W') => run_lookup1 (hMp.ext h) 84 36 (.agg #[.int .i64 0, .int .u64 0]) Try.underlying84 zeroLabel_c a.len a.bits
                  simp only [next_val HP2.out] at hlkp
                  have HLK := Lib.hid hlkp; clear hlkp
                  obtain ⟨nl, hnl⟩ : ∃ nl, nl = nextIn lv a := ⟨_, rfl⟩
                  rw [show (Lbl.mk a.len a.bits) = a from rfl, ← hnl] at HLK
                  have HNL := Lib.hid hnl; clear hnl
                  clear x0 x0f x1 x1f y0 y0f y1 y1f y2 y2f y3 y3f y4 y4f c58
                  by_cases hA : b < (rc.items.length : Int)
                  · have ea : decide (b < (rc.items.length : Int)) = true := by simp [hA]
                    refine wp_region_noPanic ?_
                    refine wp_region_held_drew (S := fun w' => w'.cell? ⟨w7.heap.size, 0, none⟩ = some (.int .i64 a.len) ∧ w'.cell? ⟨w7.heap.size, 1, none⟩ = some (.int .u64 a.bits) ∧ w'.cell? ⟨w7.heap.size + 1, 1, none⟩ = some (.slice jo rc.items.length jc) ∧ w'.cell? ⟨w7.heap.size + 1, 2, none⟩ = some (.int .i64 rc.next.len) ∧ w'.cell? ⟨w7.heap.size + 1, 3, none⟩ = some (.int .u64 rc.next.bits)) (by kernel_rfl) (HQ.out _ (Ext.refl _).drew) (fun hHeld => ?_)
                    (refine wpAnyH_take (i := 0) (v := ?_) rfl (by kernel_rfl) (by kernel_rfl) (by kernel_rfl) (fun _ _ _ h => h) (Or.inl ⟨by kernel_rfl, ?_⟩) hHeld ?_; rotate_left; (· intro w' hSw; (try dsimp only at hSw); go_simp; with_reducible rfl); try simp only [List.getElem_toArray, List.getElem_cons_succ, List.getElem_cons_zero, Act.put, List.setIfInBounds_toArray, List.set_cons_zero, List.set_cons_succ]; refine wpAnyH_take (i := 1) (v := ?_) rfl (by kernel_rfl) (by kernel_rfl) (by kernel_rfl) (fun _ _ _ h => h) (Or.inl ⟨by kernel_rfl, ?_⟩) hHeld ?_; rotate_left; (· intro w' hSw; (try dsimp only at hSw); go_simp; with_reducible rfl); try simp only [List.getElem_toArray, List.getElem_cons_succ, List.getElem_cons_zero, Act.put, List.setIfInBounds_toArray, List.set_cons_zero, List.set_cons_succ]; refine wpAnyH_take (i := 2) (v := ?_) rfl (by kernel_rfl) (by kernel_rfl) (by kernel_rfl) (fun _ _ _ h => h) (Or.inl ⟨by kernel_rfl, ?_⟩) hHeld ?_; rotate_left; (· intro w' hSw; (try dsimp only at hSw); go_simp; with_reducible rfl); try simp only [List.getElem_toArray, List.getElem_cons_succ, List.getElem_cons_zero, Act.put, List.setIfInBounds_toArray, List.set_cons_zero, List.set_cons_succ]; refine wpAnyH_take (i := 3) (v := ?_) rfl (by kernel_rfl) (by kernel_rfl) (by kernel_rfl) (fun _ _ _ h => h) (Or.inl ⟨by kernel_rfl, ?_⟩) hHeld ?_; rotate_left; (· intro w' hSw; (try dsimp only at hSw); go_simp; with_reducible rfl); try simp only [List.getElem_toArray, List.getElem_cons_succ, List.getElem_cons_zero, Act.put, List.setIfInBounds_toArray, List.set_cons_zero, List.set_cons_succ]; refine wpAnyH_take (i := 4) (v := ?_) rfl (by kernel_rfl) (by kernel_rfl) (by kernel_rfl) (fun _ _ _ h => h) (Or.inl ⟨by kernel_rfl, ?_⟩) hHeld ?_; rotate_left; (· intro w' hSw; (try dsimp only at hSw); go_simp; with_reducible rfl); try simp only [List.getElem_toArray, List.getElem_cons_succ, List.getElem_cons_zero, Act.put, List.setIfInBounds_toArray, List.set_cons_zero, List.set_cons_succ]; refine wpAnyH_take (i := 5) (v := ?_) rfl (by kernel_rfl) (by kernel_rfl) (by kernel_rfl) (fun _ _ _ h => h) (Or.inl ⟨by kernel_rfl, ?_⟩) hHeld ?_; rotate_left; (· intro w' hSw; (try dsimp only at hSw); go_simp; with_reducible rfl); try simp only [List.getElem_toArray, List.getElem_cons_succ, List.getElem_cons_zero, Act.put, List.setIfInBounds_toArray, List.set_cons_zero, List.set_cons_succ])
                    (refine wpAnyH_take (i := 6) (v := undef) rfl (by kernel_rfl) (by kernel_rfl) (by kernel_rfl) (fun _ _ _ h => h) (Or.inr ⟨by kernel_rfl, rfl⟩) hHeld ?_; try simp only [List.getElem_toArray, List.getElem_cons_succ, List.getElem_cons_zero, Act.put, List.setIfInBounds_toArray, List.set_cons_zero, List.set_cons_succ]; refine wpAnyH_take (i := 7) (v := undef) rfl (by kernel_rfl) (by kernel_rfl) (by kernel_rfl) (fun _ _ _ h => h) (Or.inr ⟨by kernel_rfl, rfl⟩) hHeld ?_; try simp only [List.getElem_toArray, List.getElem_cons_succ, List.getElem_cons_zero, Act.put, List.setIfInBounds_toArray, List.set_cons_zero, List.set_cons_succ]; refine wpAnyH_take (i := 8) (v := undef) rfl (by kernel_rfl) (by kernel_rfl) (by kernel_rfl) (fun _ _ _ h => h) (Or.inr ⟨by kernel_rfl, rfl⟩) hHeld ?_; try simp only [List.getElem_toArray, List.getElem_cons_succ, List.getElem_cons_zero, Act.put, List.setIfInBounds_toArray, List.set_cons_zero, List.set_cons_succ]; refine wpAnyH_take (i := 9) (v := undef) rfl (by kernel_rfl) (by kernel_rfl) (by kernel_rfl) (fun _ _ _ h => h) (Or.inr ⟨by kernel_rfl, rfl⟩) hHeld ?_; try simp only [List.getElem_toArray, List.getElem_cons_succ, List.getElem_cons_zero, Act.put, List.setIfInBounds_toArray, List.set_cons_zero, List.set_cons_succ]; refine wpAnyH_take (i := 10) (v := undef) rfl (by kernel_rfl) (by kernel_rfl) (by kernel_rfl) (fun _ _ _ h => h) (Or.inr ⟨by kernel_rfl, rfl⟩) hHeld ?_; try simp only [List.getElem_toArray, List.getElem_cons_succ, List.getElem_cons_zero, Act.put, List.setIfInBounds_toArray, List.set_cons_zero, List.set_cons_succ]; refine wpAnyH_take (i := 11) (v := undef) rfl (by kernel_rfl) (by kernel_rfl) (by kernel_rfl) (fun _ _ _ h => h) (Or.inr ⟨by kernel_rfl, rfl⟩) hHeld ?_; try simp only [List.getElem_toArray, List.getElem_cons_succ, List.getElem_cons_zero, Act.put, List.setIfInBounds_toArray, List.set_cons_zero, List.set_cons_succ]; refine wpAnyH_take (i := 12) (v := undef) rfl (by kernel_rfl) (by kernel_rfl) (by kernel_rfl) (fun _ _ _ h => h) (Or.inr ⟨by kernel_rfl, rfl⟩) hHeld ?_; try simp only [List.getElem_toArray, List.getElem_cons_succ, List.getElem_cons_zero, Act.put, List.setIfInBounds_toArray, List.set_cons_zero, List.set_cons_succ]; refine wpAnyH_take (i := 13) (v := undef) rfl (by kernel_rfl) (by kernel_rfl) (by kernel_rfl) (fun _ _ _ h => h) (Or.inr ⟨by kernel_rfl, rfl⟩) hHeld ?_; try simp only [List.getElem_toArray, List.getElem_cons_succ, List.getElem_cons_zero, Act.put, List.setIfInBounds_toArray, List.set_cons_zero, List.set_cons_succ]; refine wpAnyH_take (i := 14) (v := undef) rfl (by kernel_rfl) (by kernel_rfl) (by kernel_rfl) (fun _ _ _ h => h) (Or.inr ⟨by kernel_rfl, rfl⟩) hHeld ?_; try simp only [List.getElem_toArray, List.getElem_cons_succ, List.getElem_cons_zero, Act.put, List.setIfInBounds_toArray, List.set_cons_zero, List.set_cons_succ])
                    (refine wpAnyH_take (i := 15) (v := ?_) rfl (by kernel_rfl) (by kernel_rfl) (by kernel_rfl) (fun _ _ _ h => h) (Or.inl ⟨by kernel_rfl, ?_⟩) hHeld ?_; rotate_left; (· intro w' hSw; (try dsimp only at hSw); go_simp; with_reducible rfl); try simp only [List.getElem_toArray, List.getElem_cons_succ, List.getElem_cons_zero, Act.put, List.setIfInBounds_toArray, List.set_cons_zero, List.set_cons_succ]; refine wpAnyH_take (i := 16) (v := ?_) rfl (by kernel_rfl) (by kernel_rfl) (by kernel_rfl) (fun _ _ _ h => h) (Or.inl ⟨by kernel_rfl, ?_⟩) hHeld ?_; rotate_left; (· intro w' hSw; (try dsimp only at hSw); go_simp; with_reducible rfl); try simp only [List.getElem_toArray, List.getElem_cons_succ, List.getElem_cons_zero, Act.put, List.setIfInBounds_toArray, List.set_cons_zero, List.set_cons_succ])
                    (refine wpAnyH_take (i := 17) (v := undef) rfl (by kernel_rfl) (by kernel_rfl) (by kernel_rfl) (fun _ _ _ h => h) (Or.inr ⟨by kernel_rfl, rfl⟩) hHeld ?_; try simp only [List.getElem_toArray, List.getElem_cons_succ, List.getElem_cons_zero, Act.put, List.setIfInBounds_toArray, List.set_cons_zero, List.set_cons_succ]; refine wpAnyH_take (i := 18) (v := undef) rfl (by kernel_rfl) (by kernel_rfl) (by kernel_rfl) (fun _ _ _ h => h) (Or.inr ⟨by kernel_rfl, rfl⟩) hHeld ?_; try simp only [List.getElem_toArray, List.getElem_cons_succ, List.getElem_cons_zero, Act.put, List.setIfInBounds_toArray, List.set_cons_zero, List.set_cons_succ]; refine wpAnyH_take (i := 19) (v := undef) rfl (by kernel_rfl) (by kernel_rfl) (by kernel_rfl) (fun _ _ _ h => h) (Or.inr ⟨by kernel_rfl, rfl⟩) hHeld ?_; try simp only [List.getElem_toArray, List.getElem_cons_succ, List.getElem_cons_zero, Act.put, List.setIfInBounds_toArray, List.set_cons_zero, List.set_cons_succ]; refine wpAnyH_take (i := 20) (v := undef) rfl (by kernel_rfl) (by kernel_rfl) (by kernel_rfl) (fun _ _ _ h => h) (Or.inr ⟨by kernel_rfl, rfl⟩) hHeld ?_; try simp only [List.getElem_toArray, List.getElem_cons_succ, List.getElem_cons_zero, Act.put, List.setIfInBounds_toArray, List.set_cons_zero, List.set_cons_succ]; refine wpAnyH_take (i := 21) (v := undef) rfl (by kernel_rfl) (by kernel_rfl) (by kernel_rfl) (fun _ _ _ h => h) (Or.inr ⟨by kernel_rfl, rfl⟩) hHeld ?_; try simp only [List.getElem_toArray, List.getElem_cons_succ, List.getElem_cons_zero, Act.put, List.setIfInBounds_toArray, List.set_cons_zero, List.set_cons_succ]; refine wpAnyH_take (i := 22) (v := undef) rfl (by kernel_rfl) (by kernel_rfl) (by kernel_rfl) (fun _ _ _ h => h) (Or.inr ⟨by kernel_rfl, rfl⟩) hHeld ?_; try simp only [List.getElem_toArray, List.getElem_cons_succ, List.getElem_cons_zero, Act.put, List.setIfInBounds_toArray, List.set_cons_zero, List.set_cons_succ])
                    (refine wpAnyH_take (i := 23) (v := ?_) rfl (by kernel_rfl) (by kernel_rfl) (by kernel_rfl) (fun _ _ _ h => h) (Or.inl ⟨by kernel_rfl, ?_⟩) hHeld ?_; rotate_left; (· intro w' hSw; (try dsimp only at hSw); go_simp; with_reducible rfl); try simp only [List.getElem_toArray, List.getElem_cons_succ, List.getElem_cons_zero, Act.put, List.setIfInBounds_toArray, List.set_cons_zero, List.set_cons_succ])
                    refine wpAnyH_done (by kernel_rfl) (NoPanic.normal ?_) _
                    go_wp2
                    refine leaves_marks (v := .bool false) _ _ (hmk7.ext (hEp.trans (Ext.refl _).drew)) (fun w' => by simp [results, Try.results11]) w6.heap.size hmk.2 (HFALSE.out _ (hEp.trans (Ext.refl _).drew) ?_)
                    rw [← Bool.not_eq_true, wellRow_iff]
                    rintro ⟨-, ⟨-, q1, q2, q3⟩ | ⟨q1, -⟩⟩
                    · omega
                    · rw [HK.out] at q1; cases q1
                  · have ea : decide (b < (rc.items.length : Int)) = false := by simp; omega
                    by_cases hB : (coveredOf rc.items a).length < rc.items.length
                    · have eb : decide ((coveredOf rc.items a).length < rc.items.length) = true := by simp [hB]
                      have HB := Lib.hid hB; clear hB
                      refine wp_region_noPanic ?_
                      refine wp_region_held_drew (S := fun w' => w'.cell? ⟨w7.heap.size, 0, none⟩ = some (.int .i64 a.len) ∧ w'.cell? ⟨w7.heap.size, 1, none⟩ = some (.int .u64 a.bits) ∧ w'.cell? ⟨w7.heap.size + 1, 1, none⟩ = some (.slice jo rc.items.length jc) ∧ w'.cell? ⟨w7.heap.size + 1, 2, none⟩ = some (.int .i64 rc.next.len) ∧ w'.cell? ⟨w7.heap.size + 1, 3, none⟩ = some (.int .u64 rc.next.bits)) (by kernel_rfl) (HQ.out _ (Ext.refl _).drew) (fun hHeld => ?_)
                      (refine wpAnyH_take (i := 0) (v := ?_) rfl (by kernel_rfl) (by kernel_rfl) (by kernel_rfl) (fun _ _ _ h => h) (Or.inl ⟨by kernel_rfl, ?_⟩) hHeld ?_; rotate_left; (· intro w' hSw; (try dsimp only at hSw); go_simp; with_reducible rfl); try simp only [List.getElem_toArray, List.getElem_cons_succ, List.getElem_cons_zero, Act.put, List.setIfInBounds_toArray, List.set_cons_zero, List.set_cons_succ]; refine wpAnyH_take (i := 1) (v := ?_) rfl (by kernel_rfl) (by kernel_rfl) (by kernel_rfl) (fun _ _ _ h => h) (Or.inl ⟨by kernel_rfl, ?_⟩) hHeld ?_; rotate_left; (· intro w' hSw; (try dsimp only at hSw); go_simp; with_reducible rfl); try simp only [List.getElem_toArray, List.getElem_cons_succ, List.getElem_cons_zero, Act.put, List.setIfInBounds_toArray, List.set_cons_zero, List.set_cons_succ]; refine wpAnyH_take (i := 2) (v := ?_) rfl (by kernel_rfl) (by kernel_rfl) (by kernel_rfl) (fun _ _ _ h => h) (Or.inl ⟨by kernel_rfl, ?_⟩) hHeld ?_; rotate_left; (· intro w' hSw; (try dsimp only at hSw); go_simp; with_reducible rfl); try simp only [List.getElem_toArray, List.getElem_cons_succ, List.getElem_cons_zero, Act.put, List.setIfInBounds_toArray, List.set_cons_zero, List.set_cons_succ]; refine wpAnyH_take (i := 3) (v := ?_) rfl (by kernel_rfl) (by kernel_rfl) (by kernel_rfl) (fun _ _ _ h => h) (Or.inl ⟨by kernel_rfl, ?_⟩) hHeld ?_; rotate_left; (· intro w' hSw; (try dsimp only at hSw); go_simp; with_reducible rfl); try simp only [List.getElem_toArray, List.getElem_cons_succ, List.getElem_cons_zero, Act.put, List.setIfInBounds_toArray, List.set_cons_zero, List.set_cons_succ]; refine wpAnyH_take (i := 4) (v := ?_) rfl (by kernel_rfl) (by kernel_rfl) (by kernel_rfl) (fun _ _ _ h => h) (Or.inl ⟨by kernel_rfl, ?_⟩) hHeld ?_; rotate_left; (· intro w' hSw; (try dsimp only at hSw); go_simp; with_reducible rfl); try simp only [List.getElem_toArray, List.getElem_cons_succ, List.getElem_cons_zero, Act.put, List.setIfInBounds_toArray, List.set_cons_zero, List.set_cons_succ]; refine wpAnyH_take (i := 5) (v := ?_) rfl (by kernel_rfl) (by kernel_rfl) (by kernel_rfl) (fun _ _ _ h => h) (Or.inl ⟨by kernel_rfl, ?_⟩) hHeld ?_; rotate_left; (· intro w' hSw; (try dsimp only at hSw); go_simp; with_reducible rfl); try simp only [List.getElem_toArray, List.getElem_cons_succ, List.getElem_cons_zero, Act.put, List.setIfInBounds_toArray, List.set_cons_zero, List.set_cons_succ])
                      (refine wpAnyH_take (i := 6) (v := ?_) rfl (by kernel_rfl) (by kernel_rfl) (by kernel_rfl) (fun _ _ _ h => h) (Or.inl ⟨by kernel_rfl, ?_⟩) hHeld ?_; rotate_left; (· intro w' hSw; (try dsimp only at hSw); go_simp; with_reducible rfl); try simp only [List.getElem_toArray, List.getElem_cons_succ, List.getElem_cons_zero, Act.put, List.setIfInBounds_toArray, List.set_cons_zero, List.set_cons_succ]; refine wpAnyH_take (i := 7) (v := ?_) rfl (by kernel_rfl) (by kernel_rfl) (by kernel_rfl) (fun _ _ _ h => h) (Or.inl ⟨by kernel_rfl, ?_⟩) hHeld ?_; rotate_left; (· intro w' hSw; (try dsimp only at hSw); go_simp; with_reducible rfl); try simp only [List.getElem_toArray, List.getElem_cons_succ, List.getElem_cons_zero, Act.put, List.setIfInBounds_toArray, List.set_cons_zero, List.set_cons_succ]; refine wpAnyH_take (i := 8) (v := ?_) rfl (by kernel_rfl) (by kernel_rfl) (by kernel_rfl) (fun _ _ _ h => h) (Or.inl ⟨by kernel_rfl, ?_⟩) hHeld ?_; rotate_left; (· intro w' hSw; (try dsimp only at hSw); go_simp; with_reducible rfl); try simp only [List.getElem_toArray, List.getElem_cons_succ, List.getElem_cons_zero, Act.put, List.setIfInBounds_toArray, List.set_cons_zero, List.set_cons_succ]; refine wpAnyH_take (i := 11) (v := ?_) rfl (by kernel_rfl) (by kernel_rfl) (by kernel_rfl) (fun _ _ _ h => h) (Or.inl ⟨by kernel_rfl, ?_⟩) hHeld ?_; rotate_left; (· intro w' hSw; (try dsimp only at hSw); go_simp; with_reducible rfl); try simp only [List.getElem_toArray, List.getElem_cons_succ, List.getElem_cons_zero, Act.put, List.setIfInBounds_toArray, List.set_cons_zero, List.set_cons_succ]; refine wpAnyH_take (i := 12) (v := ?_) rfl (by kernel_rfl) (by kernel_rfl) (by kernel_rfl) (fun _ _ _ h => h) (Or.inl ⟨by kernel_rfl, ?_⟩) hHeld ?_; rotate_left; (· intro w' hSw; (try dsimp only at hSw); go_simp; with_reducible rfl); try simp only [List.getElem_toArray, List.getElem_cons_succ, List.getElem_cons_zero, Act.put, List.setIfInBounds_toArray, List.set_cons_zero, List.set_cons_succ]; refine wpAnyH_take (i := 13) (v := ?_) rfl (by kernel_rfl) (by kernel_rfl) (by kernel_rfl) (fun _ _ _ h => h) (Or.inl ⟨by kernel_rfl, ?_⟩) hHeld ?_; rotate_left; (· intro w' hSw; (try dsimp only at hSw); go_simp; with_reducible rfl); try simp only [List.getElem_toArray, List.getElem_cons_succ, List.getElem_cons_zero, Act.put, List.setIfInBounds_toArray, List.set_cons_zero, List.set_cons_succ])
                      (refine wpAnyH_ready (rs := [9]) (by kernel_rfl) (by simp) ?_; refine AllReadyH.cons rfl (fun K hK => ?_) AllReadyH.nil; go_simp)
                      go_wp2_with (go_at_call 41; refine (HCR.out _ (Ext.refl _).drew).mono ?_; rintro e w9 ⟨v9, rfl, hown9, hb9⟩)
                      have hE9 : Ext Wp w9 := Ext.trans ((Ext.refl _).drew) hb9
                      obtain ⟨o9, k9, rfl⟩ := hown9.slice
                      clear hown9 hb9
                      (refine hK.out _ _ (HQ.out _ hE9) (fun hHeld2 => ?_); clear hK K; try simp only [List.getElem_toArray, List.getElem_cons_succ, List.getElem_cons_zero, Act.put, List.setIfInBounds_toArray, List.set_cons_zero, List.set_cons_succ])
                      (refine wpAnyH_take (i := 10) (v := ?_) rfl (by kernel_rfl) (by kernel_rfl) (by kernel_rfl) (fun _ _ _ h => h) (Or.inl ⟨by kernel_rfl, ?_⟩) hHeld2 ?_; rotate_left; (· intro w' hSw; (try dsimp only at hSw); go_simp; with_reducible rfl); try simp only [List.getElem_toArray, List.getElem_cons_succ, List.getElem_cons_zero, Act.put, List.setIfInBounds_toArray, List.set_cons_zero, List.set_cons_succ]; refine wpAnyH_take (i := 14) (v := ?_) rfl (by kernel_rfl) (by kernel_rfl) (by kernel_rfl) (fun _ _ _ h => h) (Or.inl ⟨by kernel_rfl, ?_⟩) hHeld2 ?_; rotate_left; (· intro w' hSw; (try dsimp only at hSw); go_simp; with_reducible rfl); try simp only [List.getElem_toArray, List.getElem_cons_succ, List.getElem_cons_zero, Act.put, List.setIfInBounds_toArray, List.set_cons_zero, List.set_cons_succ]; refine wpAnyH_take (i := 15) (v := ?_) rfl (by kernel_rfl) (by kernel_rfl) (by kernel_rfl) (fun _ _ _ h => h) (Or.inl ⟨by kernel_rfl, ?_⟩) hHeld2 ?_; rotate_left; (· intro w' hSw; (try dsimp only at hSw); go_simp; with_reducible rfl); try simp only [List.getElem_toArray, List.getElem_cons_succ, List.getElem_cons_zero, Act.put, List.setIfInBounds_toArray, List.set_cons_zero, List.set_cons_succ]; refine wpAnyH_take (i := 16) (v := ?_) rfl (by kernel_rfl) (by kernel_rfl) (by kernel_rfl) (fun _ _ _ h => h) (Or.inl ⟨by kernel_rfl, ?_⟩) hHeld2 ?_; rotate_left; (· intro w' hSw; (try dsimp only at hSw); go_simp; with_reducible rfl); try simp only [List.getElem_toArray, List.getElem_cons_succ, List.getElem_cons_zero, Act.put, List.setIfInBounds_toArray, List.set_cons_zero, List.set_cons_succ])
                      (refine wpAnyH_take (i := 17) (v := undef) rfl (by kernel_rfl) (by kernel_rfl) (by kernel_rfl) (fun _ _ _ h => h) (Or.inr ⟨by kernel_rfl, rfl⟩) hHeld2 ?_; try simp only [List.getElem_toArray, List.getElem_cons_succ, List.getElem_cons_zero, Act.put, List.setIfInBounds_toArray, List.set_cons_zero, List.set_cons_succ]; refine wpAnyH_take (i := 18) (v := undef) rfl (by kernel_rfl) (by kernel_rfl) (by kernel_rfl) (fun _ _ _ h => h) (Or.inr ⟨by kernel_rfl, rfl⟩) hHeld2 ?_; try simp only [List.getElem_toArray, List.getElem_cons_succ, List.getElem_cons_zero, Act.put, List.setIfInBounds_toArray, List.set_cons_zero, List.set_cons_succ]; refine wpAnyH_take (i := 19) (v := undef) rfl (by kernel_rfl) (by kernel_rfl) (by kernel_rfl) (fun _ _ _ h => h) (Or.inr ⟨by kernel_rfl, rfl⟩) hHeld2 ?_; try simp only [List.getElem_toArray, List.getElem_cons_succ, List.getElem_cons_zero, Act.put, List.setIfInBounds_toArray, List.set_cons_zero, List.set_cons_succ]; refine wpAnyH_take (i := 20) (v := undef) rfl (by kernel_rfl) (by kernel_rfl) (by kernel_rfl) (fun _ _ _ h => h) (Or.inr ⟨by kernel_rfl, rfl⟩) hHeld2 ?_; try simp only [List.getElem_toArray, List.getElem_cons_succ, List.getElem_cons_zero, Act.put, List.setIfInBounds_toArray, List.set_cons_zero, List.set_cons_succ]; refine wpAnyH_take (i := 21) (v := undef) rfl (by kernel_rfl) (by kernel_rfl) (by kernel_rfl) (fun _ _ _ h => h) (Or.inr ⟨by kernel_rfl, rfl⟩) hHeld2 ?_; try simp only [List.getElem_toArray, List.getElem_cons_succ, List.getElem_cons_zero, Act.put, List.setIfInBounds_toArray, List.set_cons_zero, List.set_cons_succ]; refine wpAnyH_take (i := 22) (v := undef) rfl (by kernel_rfl) (by kernel_rfl) (by kernel_rfl) (fun _ _ _ h => h) (Or.inr ⟨by kernel_rfl, rfl⟩) hHeld2 ?_; try simp only [List.getElem_toArray, List.getElem_cons_succ, List.getElem_cons_zero, Act.put, List.setIfInBounds_toArray, List.set_cons_zero, List.set_cons_succ])
                      (refine wpAnyH_take (i := 23) (v := ?_) rfl (by kernel_rfl) (by kernel_rfl) (by kernel_rfl) (fun _ _ _ h => h) (Or.inl ⟨by kernel_rfl, ?_⟩) hHeld2 ?_; rotate_left; (· intro w' hSw; (try dsimp only at hSw); go_simp; with_reducible rfl); try simp only [List.getElem_toArray, List.getElem_cons_succ, List.getElem_cons_zero, Act.put, List.setIfInBounds_toArray, List.set_cons_zero, List.set_cons_succ])
                      refine wpAnyH_done (by kernel_rfl) (NoPanic.normal ?_) _
                      go_wp2
                      refine leaves_marks (v := .bool false) _ _ (hmk7.ext (hEp.trans hE9)) (fun w' => by simp [results, Try.results11]) w6.heap.size hmk.2 (HFALSE.out _ (hEp.trans hE9) ?_)
                      rw [← Bool.not_eq_true, wellRow_iff]
                      rintro ⟨-, ⟨-, q1, q2, q3⟩ | ⟨q1, -⟩⟩
                      · exact absurd q2 (by have := HB.out; omega)
                      · rw [HK.out] at q1; cases q1
                    · have eb : decide ((coveredOf rc.items a).length < rc.items.length) = false := by simp; omega
                      have HB := Lib.hid hB; clear hB
                      by_cases hN : rc.next = nl
                      · have en : lblEq rc.next.len rc.next.bits nl.len nl.bits = true := by unfold lblEq; exact decide_eq_true hN
                        have HN := Lib.hid hN; clear hN
                        refine wp_region_noPanic ?_
                        refine wp_region_held_drew (S := fun w' => w'.cell? ⟨w7.heap.size, 0, none⟩ = some (.int .i64 a.len) ∧ w'.cell? ⟨w7.heap.size, 1, none⟩ = some (.int .u64 a.bits) ∧ w'.cell? ⟨w7.heap.size + 1, 1, none⟩ = some (.slice jo rc.items.length jc) ∧ w'.cell? ⟨w7.heap.size + 1, 2, none⟩ = some (.int .i64 rc.next.len) ∧ w'.cell? ⟨w7.heap.size + 1, 3, none⟩ = some (.int .u64 rc.next.bits)) (by kernel_rfl) (HQ.out _ (Ext.refl _).drew) (fun hHeld => ?_)
                        (refine wpAnyH_take (i := 0) (v := ?_) rfl (by kernel_rfl) (by kernel_rfl) (by kernel_rfl) (fun _ _ _ h => h) (Or.inl ⟨by kernel_rfl, ?_⟩) hHeld ?_; rotate_left; (· intro w' hSw; (try dsimp only at hSw); go_simp; with_reducible rfl); try simp only [List.getElem_toArray, List.getElem_cons_succ, List.getElem_cons_zero, Act.put, List.setIfInBounds_toArray, List.set_cons_zero, List.set_cons_succ]; refine wpAnyH_take (i := 1) (v := ?_) rfl (by kernel_rfl) (by kernel_rfl) (by kernel_rfl) (fun _ _ _ h => h) (Or.inl ⟨by kernel_rfl, ?_⟩) hHeld ?_; rotate_left; (· intro w' hSw; (try dsimp only at hSw); go_simp; with_reducible rfl); try simp only [List.getElem_toArray, List.getElem_cons_succ, List.getElem_cons_zero, Act.put, List.setIfInBounds_toArray, List.set_cons_zero, List.set_cons_succ]; refine wpAnyH_take (i := 2) (v := ?_) rfl (by kernel_rfl) (by kernel_rfl) (by kernel_rfl) (fun _ _ _ h => h) (Or.inl ⟨by kernel_rfl, ?_⟩) hHeld ?_; rotate_left; (· intro w' hSw; (try dsimp only at hSw); go_simp; with_reducible rfl); try simp only [List.getElem_toArray, List.getElem_cons_succ, List.getElem_cons_zero, Act.put, List.setIfInBounds_toArray, List.set_cons_zero, List.set_cons_succ]; refine wpAnyH_take (i := 3) (v := ?_) rfl (by kernel_rfl) (by kernel_rfl) (by kernel_rfl) (fun _ _ _ h => h) (Or.inl ⟨by kernel_rfl, ?_⟩) hHeld ?_; rotate_left; (· intro w' hSw; (try dsimp only at hSw); go_simp; with_reducible rfl); try simp only [List.getElem_toArray, List.getElem_cons_succ, List.getElem_cons_zero, Act.put, List.setIfInBounds_toArray, List.set_cons_zero, List.set_cons_succ]; refine wpAnyH_take (i := 4) (v := ?_) rfl (by kernel_rfl) (by kernel_rfl) (by kernel_rfl) (fun _ _ _ h => h) (Or.inl ⟨by kernel_rfl, ?_⟩) hHeld ?_; rotate_left; (· intro w' hSw; (try dsimp only at hSw); go_simp; with_reducible rfl); try simp only [List.getElem_toArray, List.getElem_cons_succ, List.getElem_cons_zero, Act.put, List.setIfInBounds_toArray, List.set_cons_zero, List.set_cons_succ]; refine wpAnyH_take (i := 5) (v := ?_) rfl (by kernel_rfl) (by kernel_rfl) (by kernel_rfl) (fun _ _ _ h => h) (Or.inl ⟨by kernel_rfl, ?_⟩) hHeld ?_; rotate_left; (· intro w' hSw; (try dsimp only at hSw); go_simp; with_reducible rfl); try simp only [List.getElem_toArray, List.getElem_cons_succ, List.getElem_cons_zero, Act.put, List.setIfInBounds_toArray, List.set_cons_zero, List.set_cons_succ])
                        (refine wpAnyH_take (i := 6) (v := ?_) rfl (by kernel_rfl) (by kernel_rfl) (by kernel_rfl) (fun _ _ _ h => h) (Or.inl ⟨by kernel_rfl, ?_⟩) hHeld ?_; rotate_left; (· intro w' hSw; (try dsimp only at hSw); go_simp; with_reducible rfl); try simp only [List.getElem_toArray, List.getElem_cons_succ, List.getElem_cons_zero, Act.put, List.setIfInBounds_toArray, List.set_cons_zero, List.set_cons_succ]; refine wpAnyH_take (i := 7) (v := ?_) rfl (by kernel_rfl) (by kernel_rfl) (by kernel_rfl) (fun _ _ _ h => h) (Or.inl ⟨by kernel_rfl, ?_⟩) hHeld ?_; rotate_left; (· intro w' hSw; (try dsimp only at hSw); go_simp; with_reducible rfl); try simp only [List.getElem_toArray, List.getElem_cons_succ, List.getElem_cons_zero, Act.put, List.setIfInBounds_toArray, List.set_cons_zero, List.set_cons_succ]; refine wpAnyH_take (i := 8) (v := ?_) rfl (by kernel_rfl) (by kernel_rfl) (by kernel_rfl) (fun _ _ _ h => h) (Or.inl ⟨by kernel_rfl, ?_⟩) hHeld ?_; rotate_left; (· intro w' hSw; (try dsimp only at hSw); go_simp; with_reducible rfl); try simp only [List.getElem_toArray, List.getElem_cons_succ, List.getElem_cons_zero, Act.put, List.setIfInBounds_toArray, List.set_cons_zero, List.set_cons_succ]; refine wpAnyH_take (i := 11) (v := ?_) rfl (by kernel_rfl) (by kernel_rfl) (by kernel_rfl) (fun _ _ _ h => h) (Or.inl ⟨by kernel_rfl, ?_⟩) hHeld ?_; rotate_left; (· intro w' hSw; (try dsimp only at hSw); go_simp; with_reducible rfl); try simp only [List.getElem_toArray, List.getElem_cons_succ, List.getElem_cons_zero, Act.put, List.setIfInBounds_toArray, List.set_cons_zero, List.set_cons_succ]; refine wpAnyH_take (i := 12) (v := ?_) rfl (by kernel_rfl) (by kernel_rfl) (by kernel_rfl) (fun _ _ _ h => h) (Or.inl ⟨by kernel_rfl, ?_⟩) hHeld ?_; rotate_left; (· intro w' hSw; (try dsimp only at hSw); go_simp; with_reducible rfl); try simp only [List.getElem_toArray, List.getElem_cons_succ, List.getElem_cons_zero, Act.put, List.setIfInBounds_toArray, List.set_cons_zero, List.set_cons_succ]; refine wpAnyH_take (i := 13) (v := ?_) rfl (by kernel_rfl) (by kernel_rfl) (by kernel_rfl) (fun _ _ _ h => h) (Or.inl ⟨by kernel_rfl, ?_⟩) hHeld ?_; rotate_left; (· intro w' hSw; (try dsimp only at hSw); go_simp; with_reducible rfl); try simp only [List.getElem_toArray, List.getElem_cons_succ, List.getElem_cons_zero, Act.put, List.setIfInBounds_toArray, List.set_cons_zero, List.set_cons_succ])
                        (refine wpAnyH_ready (rs := [9]) (by kernel_rfl) (by simp) ?_; refine AllReadyH.cons rfl (fun K hK => ?_) AllReadyH.nil; go_simp)
                        go_wp2_with (go_at_call 41; refine (HCR.out _ (Ext.refl _).drew).mono ?_; rintro e w9 ⟨v9, rfl, hown9, hb9⟩)
                        have hE9 : Ext Wp w9 := Ext.trans ((Ext.refl _).drew) hb9
                        obtain ⟨o9, k9, rfl⟩ := hown9.slice
                        clear hown9 hb9
                        (refine hK.out _ _ (HQ.out _ hE9) (fun hHeld2 => ?_); clear hK K; try simp only [List.getElem_toArray, List.getElem_cons_succ, List.getElem_cons_zero, Act.put, List.setIfInBounds_toArray, List.set_cons_zero, List.set_cons_succ])
                        (refine wpAnyH_take (i := 10) (v := ?_) rfl (by kernel_rfl) (by kernel_rfl) (by kernel_rfl) (fun _ _ _ h => h) (Or.inl ⟨by kernel_rfl, ?_⟩) hHeld2 ?_; rotate_left; (· intro w' hSw; (try dsimp only at hSw); go_simp; with_reducible rfl); try simp only [List.getElem_toArray, List.getElem_cons_succ, List.getElem_cons_zero, Act.put, List.setIfInBounds_toArray, List.set_cons_zero, List.set_cons_succ]; refine wpAnyH_take (i := 14) (v := ?_) rfl (by kernel_rfl) (by kernel_rfl) (by kernel_rfl) (fun _ _ _ h => h) (Or.inl ⟨by kernel_rfl, ?_⟩) hHeld2 ?_; rotate_left; (· intro w' hSw; (try dsimp only at hSw); go_simp; with_reducible rfl); try simp only [List.getElem_toArray, List.getElem_cons_succ, List.getElem_cons_zero, Act.put, List.setIfInBounds_toArray, List.set_cons_zero, List.set_cons_succ]; refine wpAnyH_take (i := 15) (v := ?_) rfl (by kernel_rfl) (by kernel_rfl) (by kernel_rfl) (fun _ _ _ h => h) (Or.inl ⟨by kernel_rfl, ?_⟩) hHeld2 ?_; rotate_left; (· intro w' hSw; (try dsimp only at hSw); go_simp; with_reducible rfl); try simp only [List.getElem_toArray, List.getElem_cons_succ, List.getElem_cons_zero, Act.put, List.setIfInBounds_toArray, List.set_cons_zero, List.set_cons_succ]; refine wpAnyH_take (i := 16) (v := ?_) rfl (by kernel_rfl) (by kernel_rfl) (by kernel_rfl) (fun _ _ _ h => h) (Or.inl ⟨by kernel_rfl, ?_⟩) hHeld2 ?_; rotate_left; (· intro w' hSw; (try dsimp only at hSw); go_simp; with_reducible rfl); try simp only [List.getElem_toArray, List.getElem_cons_succ, List.getElem_cons_zero, Act.put, List.setIfInBounds_toArray, List.set_cons_zero, List.set_cons_succ])
                        (refine wpAnyH_take (i := 17) (v := ?_) rfl (by kernel_rfl) (by kernel_rfl) (by kernel_rfl) (fun _ _ _ h => h) (Or.inl ⟨by kernel_rfl, ?_⟩) hHeld2 ?_; rotate_left; (· intro w' hSw; (try dsimp only at hSw); go_simp; with_reducible rfl); try simp only [List.getElem_toArray, List.getElem_cons_succ, List.getElem_cons_zero, Act.put, List.setIfInBounds_toArray, List.set_cons_zero, List.set_cons_succ]; refine wpAnyH_take (i := 18) (v := ?_) rfl (by kernel_rfl) (by kernel_rfl) (by kernel_rfl) (fun _ _ _ h => h) (Or.inl ⟨by kernel_rfl, ?_⟩) hHeld2 ?_; rotate_left; (· intro w' hSw; (try dsimp only at hSw); go_simp; with_reducible rfl); try simp only [List.getElem_toArray, List.getElem_cons_succ, List.getElem_cons_zero, Act.put, List.setIfInBounds_toArray, List.set_cons_zero, List.set_cons_succ]; refine wpAnyH_take (i := 19) (v := ?_) rfl (by kernel_rfl) (by kernel_rfl) (by kernel_rfl) (fun _ _ _ h => h) (Or.inl ⟨by kernel_rfl, ?_⟩) hHeld2 ?_; rotate_left; (· intro w' hSw; (try dsimp only at hSw); go_simp; with_reducible rfl); try simp only [List.getElem_toArray, List.getElem_cons_succ, List.getElem_cons_zero, Act.put, List.setIfInBounds_toArray, List.set_cons_zero, List.set_cons_succ]; refine wpAnyH_take (i := 20) (v := ?_) rfl (by kernel_rfl) (by kernel_rfl) (by kernel_rfl) (fun _ _ _ h => h) (Or.inl ⟨by kernel_rfl, ?_⟩) hHeld2 ?_; rotate_left; (· intro w' hSw; (try dsimp only at hSw); go_simp; with_reducible rfl); try simp only [List.getElem_toArray, List.getElem_cons_succ, List.getElem_cons_zero, Act.put, List.setIfInBounds_toArray, List.set_cons_zero, List.set_cons_succ])
                        have hlk9 := HLK.out w9 hE9
                        (refine wpAnyH_ready (rs := [21]) (by kernel_rfl) (by simp) ?_; refine AllReadyH.cons rfl (fun K hK => ?_) AllReadyH.nil; go_simp)
                        (refine hK.out _ _ (HQ.out _ hE9) (fun hHeld3 => ?_); clear hK K; try simp only [List.getElem_toArray, List.getElem_cons_succ, List.getElem_cons_zero, Act.put, List.setIfInBounds_toArray, List.set_cons_zero, List.set_cons_succ])
                        clear hlk9
                        (refine wpAnyH_take (i := 22) (v := ?_) rfl (by kernel_rfl) (by kernel_rfl) (by kernel_rfl) (fun _ _ _ h => h) (Or.inl ⟨by kernel_rfl, ?_⟩) hHeld3 ?_; rotate_left; (· intro w' hSw; (try dsimp only at hSw); go_simp; with_reducible rfl); try simp only [List.getElem_toArray, List.getElem_cons_succ, List.getElem_cons_zero, Act.put, List.setIfInBounds_toArray, List.set_cons_zero, List.set_cons_succ]; refine wpAnyH_take (i := 23) (v := ?_) rfl (by kernel_rfl) (by kernel_rfl) (by kernel_rfl) (fun _ _ _ h => h) (Or.inl ⟨by kernel_rfl, ?_⟩) hHeld3 ?_; rotate_left; (· intro w' hSw; (try dsimp only at hSw); go_simp; with_reducible rfl); try simp only [List.getElem_toArray, List.getElem_cons_succ, List.getElem_cons_zero, Act.put, List.setIfInBounds_toArray, List.set_cons_zero, List.set_cons_succ])
                        refine wpAnyH_done (by kernel_rfl) (NoPanic.normal ?_) _
                        go_wp2
                        exact ⟨WellInv.of ⟨hmk7.ext (hEp.trans hE9), hmk.2⟩ (HREL.out _ (hEp.trans hE9) (wellRow_iff.2 ⟨HPAR.out, .inl ⟨HK.out, by omega, by have := HB.out; omega, by rw [← nextIn, ← HNL.out]; exact HN.out⟩⟩)), HMEAS.out _ (hEp.trans hE9)⟩
                      · have en : lblEq rc.next.len rc.next.bits nl.len nl.bits = false := by unfold lblEq; exact decide_eq_false hN
                        have HN := Lib.hid hN; clear hN
                        refine wp_region_noPanic ?_
                        refine wp_region_held_drew (S := fun w' => w'.cell? ⟨w7.heap.size, 0, none⟩ = some (.int .i64 a.len) ∧ w'.cell? ⟨w7.heap.size, 1, none⟩ = some (.int .u64 a.bits) ∧ w'.cell? ⟨w7.heap.size + 1, 1, none⟩ = some (.slice jo rc.items.length jc) ∧ w'.cell? ⟨w7.heap.size + 1, 2, none⟩ = some (.int .i64 rc.next.len) ∧ w'.cell? ⟨w7.heap.size + 1, 3, none⟩ = some (.int .u64 rc.next.bits)) (by kernel_rfl) (HQ.out _ (Ext.refl _).drew) (fun hHeld => ?_)
                        (refine wpAnyH_take (i := 0) (v := ?_) rfl (by kernel_rfl) (by kernel_rfl) (by kernel_rfl) (fun _ _ _ h => h) (Or.inl ⟨by kernel_rfl, ?_⟩) hHeld ?_; rotate_left; (· intro w' hSw; (try dsimp only at hSw); go_simp; with_reducible rfl); try simp only [List.getElem_toArray, List.getElem_cons_succ, List.getElem_cons_zero, Act.put, List.setIfInBounds_toArray, List.set_cons_zero, List.set_cons_succ]; refine wpAnyH_take (i := 1) (v := ?_) rfl (by kernel_rfl) (by kernel_rfl) (by kernel_rfl) (fun _ _ _ h => h) (Or.inl ⟨by kernel_rfl, ?_⟩) hHeld ?_; rotate_left; (· intro w' hSw; (try dsimp only at hSw); go_simp; with_reducible rfl); try simp only [List.getElem_toArray, List.getElem_cons_succ, List.getElem_cons_zero, Act.put, List.setIfInBounds_toArray, List.set_cons_zero, List.set_cons_succ]; refine wpAnyH_take (i := 2) (v := ?_) rfl (by kernel_rfl) (by kernel_rfl) (by kernel_rfl) (fun _ _ _ h => h) (Or.inl ⟨by kernel_rfl, ?_⟩) hHeld ?_; rotate_left; (· intro w' hSw; (try dsimp only at hSw); go_simp; with_reducible rfl); try simp only [List.getElem_toArray, List.getElem_cons_succ, List.getElem_cons_zero, Act.put, List.setIfInBounds_toArray, List.set_cons_zero, List.set_cons_succ]; refine wpAnyH_take (i := 3) (v := ?_) rfl (by kernel_rfl) (by kernel_rfl) (by kernel_rfl) (fun _ _ _ h => h) (Or.inl ⟨by kernel_rfl, ?_⟩) hHeld ?_; rotate_left; (· intro w' hSw; (try dsimp only at hSw); go_simp; with_reducible rfl); try simp only [List.getElem_toArray, List.getElem_cons_succ, List.getElem_cons_zero, Act.put, List.setIfInBounds_toArray, List.set_cons_zero, List.set_cons_succ]; refine wpAnyH_take (i := 4) (v := ?_) rfl (by kernel_rfl) (by kernel_rfl) (by kernel_rfl) (fun _ _ _ h => h) (Or.inl ⟨by kernel_rfl, ?_⟩) hHeld ?_; rotate_left; (· intro w' hSw; (try dsimp only at hSw); go_simp; with_reducible rfl); try simp only [List.getElem_toArray, List.getElem_cons_succ, List.getElem_cons_zero, Act.put, List.setIfInBounds_toArray, List.set_cons_zero, List.set_cons_succ]; refine wpAnyH_take (i := 5) (v := ?_) rfl (by kernel_rfl) (by kernel_rfl) (by kernel_rfl) (fun _ _ _ h => h) (Or.inl ⟨by kernel_rfl, ?_⟩) hHeld ?_; rotate_left; (· intro w' hSw; (try dsimp only at hSw); go_simp; with_reducible rfl); try simp only [List.getElem_toArray, List.getElem_cons_succ, List.getElem_cons_zero, Act.put, List.setIfInBounds_toArray, List.set_cons_zero, List.set_cons_succ])
                        (refine wpAnyH_take (i := 6) (v := ?_) rfl (by kernel_rfl) (by kernel_rfl) (by kernel_rfl) (fun _ _ _ h => h) (Or.inl ⟨by kernel_rfl, ?_⟩) hHeld ?_; rotate_left; (· intro w' hSw; (try dsimp only at hSw); go_simp; with_reducible rfl); try simp only [List.getElem_toArray, List.getElem_cons_succ, List.getElem_cons_zero, Act.put, List.setIfInBounds_toArray, List.set_cons_zero, List.set_cons_succ]; refine wpAnyH_take (i := 7) (v := ?_) rfl (by kernel_rfl) (by kernel_rfl) (by kernel_rfl) (fun _ _ _ h => h) (Or.inl ⟨by kernel_rfl, ?_⟩) hHeld ?_; rotate_left; (· intro w' hSw; (try dsimp only at hSw); go_simp; with_reducible rfl); try simp only [List.getElem_toArray, List.getElem_cons_succ, List.getElem_cons_zero, Act.put, List.setIfInBounds_toArray, List.set_cons_zero, List.set_cons_succ]; refine wpAnyH_take (i := 8) (v := ?_) rfl (by kernel_rfl) (by kernel_rfl) (by kernel_rfl) (fun _ _ _ h => h) (Or.inl ⟨by kernel_rfl, ?_⟩) hHeld ?_; rotate_left; (· intro w' hSw; (try dsimp only at hSw); go_simp; with_reducible rfl); try simp only [List.getElem_toArray, List.getElem_cons_succ, List.getElem_cons_zero, Act.put, List.setIfInBounds_toArray, List.set_cons_zero, List.set_cons_succ]; refine wpAnyH_take (i := 11) (v := ?_) rfl (by kernel_rfl) (by kernel_rfl) (by kernel_rfl) (fun _ _ _ h => h) (Or.inl ⟨by kernel_rfl, ?_⟩) hHeld ?_; rotate_left; (· intro w' hSw; (try dsimp only at hSw); go_simp; with_reducible rfl); try simp only [List.getElem_toArray, List.getElem_cons_succ, List.getElem_cons_zero, Act.put, List.setIfInBounds_toArray, List.set_cons_zero, List.set_cons_succ]; refine wpAnyH_take (i := 12) (v := ?_) rfl (by kernel_rfl) (by kernel_rfl) (by kernel_rfl) (fun _ _ _ h => h) (Or.inl ⟨by kernel_rfl, ?_⟩) hHeld ?_; rotate_left; (· intro w' hSw; (try dsimp only at hSw); go_simp; with_reducible rfl); try simp only [List.getElem_toArray, List.getElem_cons_succ, List.getElem_cons_zero, Act.put, List.setIfInBounds_toArray, List.set_cons_zero, List.set_cons_succ]; refine wpAnyH_take (i := 13) (v := ?_) rfl (by kernel_rfl) (by kernel_rfl) (by kernel_rfl) (fun _ _ _ h => h) (Or.inl ⟨by kernel_rfl, ?_⟩) hHeld ?_; rotate_left; (· intro w' hSw; (try dsimp only at hSw); go_simp; with_reducible rfl); try simp only [List.getElem_toArray, List.getElem_cons_succ, List.getElem_cons_zero, Act.put, List.setIfInBounds_toArray, List.set_cons_zero, List.set_cons_succ])
                        (refine wpAnyH_ready (rs := [9]) (by kernel_rfl) (by simp) ?_; refine AllReadyH.cons rfl (fun K hK => ?_) AllReadyH.nil; go_simp)
                        go_wp2_with (go_at_call 41; refine (HCR.out _ (Ext.refl _).drew).mono ?_; rintro e w9 ⟨v9, rfl, hown9, hb9⟩)
                        have hE9 : Ext Wp w9 := Ext.trans ((Ext.refl _).drew) hb9
                        obtain ⟨o9, k9, rfl⟩ := hown9.slice
                        clear hown9 hb9
                        (refine hK.out _ _ (HQ.out _ hE9) (fun hHeld2 => ?_); clear hK K; try simp only [List.getElem_toArray, List.getElem_cons_succ, List.getElem_cons_zero, Act.put, List.setIfInBounds_toArray, List.set_cons_zero, List.set_cons_succ])
                        (refine wpAnyH_take (i := 10) (v := ?_) rfl (by kernel_rfl) (by kernel_rfl) (by kernel_rfl) (fun _ _ _ h => h) (Or.inl ⟨by kernel_rfl, ?_⟩) hHeld2 ?_; rotate_left; (· intro w' hSw; (try dsimp only at hSw); go_simp; with_reducible rfl); try simp only [List.getElem_toArray, List.getElem_cons_succ, List.getElem_cons_zero, Act.put, List.setIfInBounds_toArray, List.set_cons_zero, List.set_cons_succ]; refine wpAnyH_take (i := 14) (v := ?_) rfl (by kernel_rfl) (by kernel_rfl) (by kernel_rfl) (fun _ _ _ h => h) (Or.inl ⟨by kernel_rfl, ?_⟩) hHeld2 ?_; rotate_left; (· intro w' hSw; (try dsimp only at hSw); go_simp; with_reducible rfl); try simp only [List.getElem_toArray, List.getElem_cons_succ, List.getElem_cons_zero, Act.put, List.setIfInBounds_toArray, List.set_cons_zero, List.set_cons_succ]; refine wpAnyH_take (i := 15) (v := ?_) rfl (by kernel_rfl) (by kernel_rfl) (by kernel_rfl) (fun _ _ _ h => h) (Or.inl ⟨by kernel_rfl, ?_⟩) hHeld2 ?_; rotate_left; (· intro w' hSw; (try dsimp only at hSw); go_simp; with_reducible rfl); try simp only [List.getElem_toArray, List.getElem_cons_succ, List.getElem_cons_zero, Act.put, List.setIfInBounds_toArray, List.set_cons_zero, List.set_cons_succ]; refine wpAnyH_take (i := 16) (v := ?_) rfl (by kernel_rfl) (by kernel_rfl) (by kernel_rfl) (fun _ _ _ h => h) (Or.inl ⟨by kernel_rfl, ?_⟩) hHeld2 ?_; rotate_left; (· intro w' hSw; (try dsimp only at hSw); go_simp; with_reducible rfl); try simp only [List.getElem_toArray, List.getElem_cons_succ, List.getElem_cons_zero, Act.put, List.setIfInBounds_toArray, List.set_cons_zero, List.set_cons_succ])
                        (refine wpAnyH_take (i := 17) (v := ?_) rfl (by kernel_rfl) (by kernel_rfl) (by kernel_rfl) (fun _ _ _ h => h) (Or.inl ⟨by kernel_rfl, ?_⟩) hHeld2 ?_; rotate_left; (· intro w' hSw; (try dsimp only at hSw); go_simp; with_reducible rfl); try simp only [List.getElem_toArray, List.getElem_cons_succ, List.getElem_cons_zero, Act.put, List.setIfInBounds_toArray, List.set_cons_zero, List.set_cons_succ]; refine wpAnyH_take (i := 18) (v := ?_) rfl (by kernel_rfl) (by kernel_rfl) (by kernel_rfl) (fun _ _ _ h => h) (Or.inl ⟨by kernel_rfl, ?_⟩) hHeld2 ?_; rotate_left; (· intro w' hSw; (try dsimp only at hSw); go_simp; with_reducible rfl); try simp only [List.getElem_toArray, List.getElem_cons_succ, List.getElem_cons_zero, Act.put, List.setIfInBounds_toArray, List.set_cons_zero, List.set_cons_succ]; refine wpAnyH_take (i := 19) (v := ?_) rfl (by kernel_rfl) (by kernel_rfl) (by kernel_rfl) (fun _ _ _ h => h) (Or.inl ⟨by kernel_rfl, ?_⟩) hHeld2 ?_; rotate_left; (· intro w' hSw; (try dsimp only at hSw); go_simp; with_reducible rfl); try simp only [List.getElem_toArray, List.getElem_cons_succ, List.getElem_cons_zero, Act.put, List.setIfInBounds_toArray, List.set_cons_zero, List.set_cons_succ]; refine wpAnyH_take (i := 20) (v := ?_) rfl (by kernel_rfl) (by kernel_rfl) (by kernel_rfl) (fun _ _ _ h => h) (Or.inl ⟨by kernel_rfl, ?_⟩) hHeld2 ?_; rotate_left; (· intro w' hSw; (try dsimp only at hSw); go_simp; with_reducible rfl); try simp only [List.getElem_toArray, List.getElem_cons_succ, List.getElem_cons_zero, Act.put, List.setIfInBounds_toArray, List.set_cons_zero, List.set_cons_succ])
                        have hlk9 := HLK.out w9 hE9
                        (refine wpAnyH_ready (rs := [21]) (by kernel_rfl) (by simp) ?_; refine AllReadyH.cons rfl (fun K hK => ?_) AllReadyH.nil; go_simp)
                        (refine hK.out _ _ (HQ.out _ hE9) (fun hHeld3 => ?_); clear hK K; try simp only [List.getElem_toArray, List.getElem_cons_succ, List.getElem_cons_zero, Act.put, List.setIfInBounds_toArray, List.set_cons_zero, List.set_cons_succ])
                        clear hlk9
                        (refine wpAnyH_take (i := 22) (v := ?_) rfl (by kernel_rfl) (by kernel_rfl) (by kernel_rfl) (fun _ _ _ h => h) (Or.inl ⟨by kernel_rfl, ?_⟩) hHeld3 ?_; rotate_left; (· intro w' hSw; (try dsimp only at hSw); go_simp; with_reducible rfl); try simp only [List.getElem_toArray, List.getElem_cons_succ, List.getElem_cons_zero, Act.put, List.setIfInBounds_toArray, List.set_cons_zero, List.set_cons_succ]; refine wpAnyH_take (i := 23) (v := ?_) rfl (by kernel_rfl) (by kernel_rfl) (by kernel_rfl) (fun _ _ _ h => h) (Or.inl ⟨by kernel_rfl, ?_⟩) hHeld3 ?_; rotate_left; (· intro w' hSw; (try dsimp only at hSw); go_simp; with_reducible rfl); try simp only [List.getElem_toArray, List.getElem_cons_succ, List.getElem_cons_zero, Act.put, List.setIfInBounds_toArray, List.set_cons_zero, List.set_cons_succ])
                        refine wpAnyH_done (by kernel_rfl) (NoPanic.normal ?_) _
                        go_wp2
                        refine leaves_marks (v := .bool false) _ _ (hmk7.ext (hEp.trans hE9)) (fun w' => by simp [results, Try.results11]) w6.heap.size hmk.2 (HFALSE.out _ (hEp.trans hE9) ?_)
                        rw [← Bool.not_eq_true, wellRow_iff]
                        rintro ⟨-, ⟨-, q1, q2, q3⟩ | ⟨q1, -⟩⟩
                        · exact HN.out (by rw [HNL.out]; exact q3)
                        · rw [HK.out] at q1; cases q1

              · have ek1 : (rc.kind == 1) = false := by simp [hk1]
                by_cases hk2 : rc.kind = 2
                · have ek2 : (rc.kind == 2) = true := by simp [hk2]
                  have HK := Lib.hid (And.intro hk1 hk2); clear hk1 hk2
                  rcases hpar with ha | ⟨hlp, k2, a2, b2, c2, n2, bb2, mm2, hz1, rfl, hz3⟩
                  focus
                    have HA0 := Lib.hid ha; clear ha
                    go_wp2_with fail
                    refine (parent_root_c a HA0.out _).mono ?_
                    rintro e w8 ⟨rfl, hb8⟩
                    have x0 := hb8.at (w7.heap.size) 0 (.int .i64 a.len) (by go_simp); have x0f := hb8.free (w7.heap.size) 0 (by first | (simp; done) | (simp; omega)) (by go_simp); have x1 := hb8.at (w7.heap.size) 1 (.int .u64 a.bits) (by go_simp); have x1f := hb8.free (w7.heap.size) 1 (by first | (simp; done) | (simp; omega)) (by go_simp)
                    have y0 := hb8.at (w7.heap.size + 1) 0 (.int .i64 rc.kind) (by go_simp); have y0f := hb8.free (w7.heap.size + 1) 0 (by first | (simp; done) | (simp; omega)) (by go_simp); have y1 := hb8.at (w7.heap.size + 1) 1 (.slice jo rc.items.length jc) (by go_simp); have y1f := hb8.free (w7.heap.size + 1) 1 (by first | (simp; done) | (simp; omega)) (by go_simp); have y2 := hb8.at (w7.heap.size + 1) 2 (.int .i64 rc.next.len) (by go_simp); have y2f := hb8.free (w7.heap.size + 1) 2 (by first | (simp; done) | (simp; omega)) (by go_simp); have y3 := hb8.at (w7.heap.size + 1) 3 (.int .u64 rc.next.bits) (by go_simp); have y3f := hb8.free (w7.heap.size + 1) 3 (by first | (simp; done) | (simp; omega)) (by go_simp); have y4 := hb8.at (w7.heap.size + 1) 4 (.int .u64 rc.mark) (by go_simp); have y4f := hb8.free (w7.heap.size + 1) 4 (by first | (simp; done) | (simp; omega)) (by go_simp)
                    have c58 := hb8.at w3.heap.size 0 (.map (some rb)) (by go_simp)
                    have hlt38 : w3.heap.size < w8.heap.size := by have := hb8.size; simp only [World.size_alloc] at this; omega
                    have hE78 : Ext w7 w8 := Ext.trans (((Ext.refl w7).alloc _).alloc _) hb8
                    have hz8 : w7.heap.size + 1 < w8.heap.size := by have := hb8.size; simp only [World.size_alloc] at this; omega
                    have hz8' : w7.heap.size < w8.heap.size := by omega
                    clear hb8
                    obtain ⟨Wp, hWp⟩ : ∃ Wp : World, Wp = w8.alloc (.cells #[.int .i64 0, .int .u64 0] 36) := ⟨_, rfl⟩
                    have hEp : Ext w7 Wp := by rw [hWp]; exact hE78.alloc _
                    have hE8p : Ext w8 Wp := by rw [hWp]; exact (Ext.refl _).alloc _
                    have HZP := Lib.hid (show Wp.heap.size = w8.heap.size + 1 by rw [hWp]; simp)
                    have HW := Lib.hid hWp.symm; clear hWp
                    go_wp2_with (go_at_call 40; refine (children_c a _).mono ?_; rintro e w' ⟨rfl, rfl⟩)
                    rw [HW.out]
                  rotate_left
                  focus
                    go_wp2_with fail
                    refine (parent_c a _ hu1 hok1 hlp).mono ?_
                    rintro e w8 ⟨rfl, hb8⟩
                    have x0 := hb8.at (w7.heap.size) 0 (.int .i64 a.len) (by go_simp); have x0f := hb8.free (w7.heap.size) 0 (by first | (simp; done) | (simp; omega)) (by go_simp); have x1 := hb8.at (w7.heap.size) 1 (.int .u64 a.bits) (by go_simp); have x1f := hb8.free (w7.heap.size) 1 (by first | (simp; done) | (simp; omega)) (by go_simp)
                    have y0 := hb8.at (w7.heap.size + 1) 0 (.int .i64 rc.kind) (by go_simp); have y0f := hb8.free (w7.heap.size + 1) 0 (by first | (simp; done) | (simp; omega)) (by go_simp); have y1 := hb8.at (w7.heap.size + 1) 1 (.slice jo rc.items.length jc) (by go_simp); have y1f := hb8.free (w7.heap.size + 1) 1 (by first | (simp; done) | (simp; omega)) (by go_simp); have y2 := hb8.at (w7.heap.size + 1) 2 (.int .i64 rc.next.len) (by go_simp); have y2f := hb8.free (w7.heap.size + 1) 2 (by first | (simp; done) | (simp; omega)) (by go_simp); have y3 := hb8.at (w7.heap.size + 1) 3 (.int .u64 rc.next.bits) (by go_simp); have y3f := hb8.free (w7.heap.size + 1) 3 (by first | (simp; done) | (simp; omega)) (by go_simp); have y4 := hb8.at (w7.heap.size + 1) 4 (.int .u64 rc.mark) (by go_simp); have y4f := hb8.free (w7.heap.size + 1) 4 (by first | (simp; done) | (simp; omega)) (by go_simp)
                    have c58 := hb8.at w3.heap.size 0 (.map (some rb)) (by go_simp)
                    have hlt38 : w3.heap.size < w8.heap.size := by have := hb8.size; simp only [World.size_alloc] at this; omega
                    have hE78 : Ext w7 w8 := Ext.trans (((Ext.refl w7).alloc _).alloc _) hb8
                    have hz8 : w7.heap.size + 1 < w8.heap.size := by have := hb8.size; simp only [World.size_alloc] at this; omega
                    have hz8' : w7.heap.size < w8.heap.size := by omega
                    clear hb8
                    have hlk := run_lookup1 (((hr8.ext hE78).map).ext ((Ext.refl w8).alloc (.cells #[.int .i64 (parentOf a).len, .int .u64 (parentOf a).bits] 36))) 79 38 zeroRec typeTree zeroRec_c (parentOf a).len (parentOf a).bits
                    rw [hz1] at hlk
                    obtain ⟨Wp, hWp⟩ : ∃ Wp : World, Wp = w8.alloc (.cells #[.int .i64 (parentOf a).len, .int .u64 (parentOf a).bits] 36) := ⟨_, rfl⟩
                    have hEp : Ext w7 Wp := by rw [hWp]; exact hE78.alloc _
                    have hE8p : Ext w8 Wp := by rw [hWp]; exact (Ext.refl _).alloc _
                    have HZP := Lib.hid (show Wp.heap.size = w8.heap.size + 1 by rw [hWp]; simp)
                    have HW := Lib.hid hWp.symm; clear hWp
                    go_wp2_with (go_at_call 40; refine (children_c a _).mono ?_; rintro e w' ⟨rfl, rfl⟩)
                    rw [HW.out]
                  all_goals
                    obtain ⟨W3, hW3⟩ : ∃ W3 : World, W3 = (Wp.alloc (.cells #[.int .i64 0] 3)).alloc (.cells #[.int .i64 a.len, .int .u64 a.bits] 36) := ⟨_, rfl⟩
                    have hE3 : Ext Wp W3 := by rw [hW3]; exact ((Ext.refl Wp).alloc _).alloc _
                    have hz3 : W3.heap.size = w8.heap.size + 1 + 1 + 1 := by rw [hW3]; simp only [World.size_alloc]; rw [HZP.out]
                    have n0 : W3.cell? ⟨w8.heap.size + 1, 0, none⟩ = some (.int .i64 0) := by rw [hW3, ← HZP.out]; go_simp
                    have n0f : W3.frozen? ⟨w8.heap.size + 1, 0, none⟩ = false := by rw [hW3, ← HZP.out]; go_simp
                    have k0 : W3.cell? ⟨w8.heap.size + 1 + 1, 0, none⟩ = some (.int .i64 a.len) := by rw [hW3, ← HZP.out]; go_simp
                    have k1 : W3.cell? ⟨w8.heap.size + 1 + 1, 1, none⟩ = some (.int .u64 a.bits) := by rw [hW3, ← HZP.out]; go_simp
                    have HW3 := Lib.hid hW3.symm; clear hW3
                    have hE73 := hEp.trans hE3
                    have c53 := hE73.cell c57
                    have hM3 := (hr8.ext hE73).map
                    rw [HW3.out]
                    refine (wpIn_wide (n := 3)).1 ?_
                    have hlt7p : w7.heap.size ≤ w8.heap.size + 1 := by have := hEp.size; have := HZP.out; omega
                    refine wpIn_range_kids a hu1 hok1 (w8.heap.size + 1 + 1) rfl k0 k1 (by simp) (by simp) (by decide) (fun pre W => CountRel (rowsMap l) (w8.heap.size + 1) W3 pre W) (fun _ _ _ => False) ?hI ?hIx ?hh0 ?hIe ?hIw ?body ?done ?stop
                    case hI => exact fun s W W' row h hg hr => h.kept hg (fun r e => ⟨by have := (hr r e).1; omega, (hr r e).1, (hr r e).2⟩)
                    case hIx => exact fun _ _ _ _ _ h _ _ => h
                    case hh0 => exact ⟨n0, n0f, ExtM.refl _ _⟩
                    case hIe => exact fun pre W W' h he => h.ext he
                    case hIw => exact fun pre W h => h.2.2.size
                    case stop =>
                      rintro D c pre W hD hpre h hK
                      exact h.elim
                    case done =>
                      rintro D W hD ⟨cn, fn, hX⟩ hK
                      have h7W : Ext w7 W := Below.trans hE73 (hX.below (by omega) hE73.size)
                      have hmkW : MarksFrom w6.heap.size W ({ target := .collected D, args := #[] } :: ds) := by
                        refine ⟨.cons hK ?_ ?_, ?_⟩
                        · intro d hd e
                          obtain ⟨D', e', hh⟩ := hmk7.lt d hd
                          rw [e] at e'
                          cases e'
                          have h1 := (Array.getElem?_eq_some_iff.1 hh).1
                          have h2 := hE73.size
                          omega
                        · exact hmk7.ext h7W
                        · intro d hd E e
                          rcases List.mem_cons.1 hd with rfl | hd
                          · cases e
                            have h2 := hE73.size
                            have := hX67.size
                            omega
                          · exact hmk.2 d hd E e
                      have HMW := Lib.hid hmkW; clear hmkW
                      have hnW : w8.heap.size + 1 < W.heap.size := by have := hX.size; omega
                      by_cases hcnt : cntOf (rowsMap l) (kids a) < 2
                      · have ec : ((cntOf (rowsMap l) (kids a) : Int)) < 2 := by omega
                        go_wp2
                        refine leaves_marks (v := .bool false) _ _ HMW.out.1 (fun w' => by simp [results, Try.results11]) w6.heap.size HMW.out.2 (HFALSE.out _ h7W ?_)
                        rw [← Bool.not_eq_true, wellRow_iff]
                        rintro ⟨-, ⟨q1, -⟩ | ⟨-, q1, q2, q3⟩⟩
                        · exact HK.out.1 q1
                        · unfold cntOf kids at hcnt
                          rw [if_pos q1] at hcnt
                          simp [q2, q3] at hcnt
                      · have ec : ¬ ((cntOf (rowsMap l) (kids a) : Int)) < 2 := by omega
                        have hgood : wellRow (rowsMap l) (nextsTo lv lv.length) b (a, rc) = true := by
                          refine wellRow_iff.2 ⟨HPAR.out, .inr ⟨HK.out.2, ?_⟩⟩
                          unfold cntOf kids at hcnt
                          by_cases q1 : a.len < 64
                          · rw [if_pos q1] at hcnt
                            refine ⟨q1, ?_⟩
                            by_cases q2 : (tget (childOf a 0) (rowsMap l)).isSome = true
                            · by_cases q3 : (tget (childOf a 1) (rowsMap l)).isSome = true
                              · exact ⟨q2, q3⟩
                              · simp [q2, q3] at hcnt
                            · exfalso
                              apply hcnt
                              have := List.length_filter_le (fun x => (tget x (rowsMap l)).isSome) [childOf a 1]
                              simp [List.filter_cons, q2] at this ⊢
                              split <;> simp
                          · rw [if_neg q1] at hcnt
                            simp at hcnt
                        have HGOOD := Lib.hid hgood; clear hgood
                        go_wp2
                        exact ⟨WellInv.of HMW.out (HREL.out _ h7W HGOOD.out), HMEAS.out _ h7W⟩
                    case body =>
                      rintro l2 pre x Bx W1 hBx xx ⟨cn, fn, hX⟩ h64' hx hpre hall
                      have hxx0 : W1.cell? ⟨Bx, 0, none⟩ = some (.int .i64 x.len) := by simp [World.cell?, xx]
                      have hxx1 : W1.cell? ⟨Bx, 1, none⟩ = some (.int .u64 x.bits) := by simp [World.cell?, xx]
                      have hBxlt : Bx < W1.heap.size := World.block_lt_of_cell? _ _ hxx0
                      have hnlt : w8.heap.size + 1 < W1.heap.size := by have := hX.size; omega
                      have c51 := hX.cell_ne (a := ⟨w3.heap.size, 0, none⟩) (by show w3.heap.size ≠ w8.heap.size + 1; omega) c53
                      have hM1 := hM3.extM_ne hX (by have := hX67.size; have := hE78.size; omega)
                      obtain ⟨k2', a2', b2', c2', n2', bb2', mm2', hz1', hz2', -⟩ := rec_at HP6.out x
                      have hlk2 := run_lookup2 hM1 79 38 zeroRec typeTree zeroRec_c x.len x.bits
                      rw [show Lbl.mk x.len x.bits = x from rfl, hz1', hz2'] at hlk2
                      have hcle : cntOf (rowsMap l) pre ≤ 2 := by unfold cntOf; exact Nat.le_trans (List.length_filter_le _ _) (by omega)
                      have hlt31 : w3.heap.size < W1.heap.size := by omega
                      clear hz1' hz2' hx hall hpre
                      simp only [kidFrame, List.setIfInBounds_toArray, List.set_cons_zero, List.set_cons_succ]
                      by_cases hsome : (tget x (rowsMap l)).isSome = true
                      · rw [hsome] at hlk2
                        have HS := Lib.hid hsome; clear hsome
                        have hnext : ∀ W', W' = (W1.setCell ⟨w8.heap.size + 1, 0, none⟩ (.int .i64 ((cntOf (rowsMap l) pre : Int) + 1))).alloc (.cells #[.int .i64 k2', .slice a2' b2' c2', .int .i64 n2', .int .u64 bb2', .int .u64 mm2'] 38) → KeepsFrom W3.heap.size W1 W' ∧ KeepAt (w8.heap.size + 1 + 1) W1 W' ∧ CountRel (rowsMap l) (w8.heap.size + 1) W3 (pre ++ [x]) W'  := by
                          rintro W' rfl
                          have hc := CountRel.bump (x := x) ⟨cn, fn, hX⟩ HS.out
                          refine ⟨((KeepsOthers.setCell W1 _ _).trans (KeepsOthers.alloc _ _)).from _, ?_, hc.ext ((Ext.refl _).alloc _)⟩
                          have h1 : KeepAt (w8.heap.size + 1 + 1) W1 (W1.setCell ⟨w8.heap.size + 1, 0, none⟩ (.int .i64 ((cntOf (rowsMap l) pre : Int) + 1))) := by
                            show (W1.heap.modify (w8.heap.size + 1) _)[w8.heap.size + 1 + 1]? = _
                            rw [Array.getElem?_modify, if_neg (by omega)]
                          exact h1.t (((Ext.refl _).alloc _).keepAt (by rw [World.size_setCell]; have := hX.size; omega))
                        have HN := Lib.hid hnext; clear hnext
                        gi_wp2
                        exact HN.out _ rfl
                      · have hsome : (tget x (rowsMap l)).isSome = false := by simpa using hsome
                        rw [hsome] at hlk2
                        have HS := Lib.hid hsome; clear hsome
                        have hnext : ∀ W', W' = W1.alloc (.cells #[.int .i64 k2', .slice a2' b2' c2', .int .i64 n2', .int .u64 bb2', .int .u64 mm2'] 38) → KeepsFrom W3.heap.size W1 W' ∧ KeepAt (w8.heap.size + 1 + 1) W1 W' ∧ CountRel (rowsMap l) (w8.heap.size + 1) W3 (pre ++ [x]) W'  := by
                          rintro W' rfl
                          have hc := CountRel.skip (x := x) ⟨cn, fn, hX⟩ HS.out
                          exact ⟨(KeepsOthers.alloc _ _).from _, ((Ext.refl _).alloc _).keepAt (by have := hX.size; omega), hc.ext ((Ext.refl _).alloc _)⟩
                        have HN := Lib.hid hnext; clear hnext
                        gi_wp2
                        exact HN.out _ rfl

                · have ek2 : (rc.kind == 2) = false := by simp [hk2]
                  have HK := Lib.hid (And.intro hk1 hk2); clear hk1 hk2
                  rcases hpar with ha | ⟨hlp, k2, a2, b2, c2, n2, bb2, mm2, hz1, rfl, hz3⟩
                  focus
                    have HA0 := Lib.hid ha; clear ha
                    go_wp2_with fail
                    refine (parent_root_c a HA0.out _).mono ?_
                    rintro e w8 ⟨rfl, hb8⟩
                    have x0 := hb8.at (w7.heap.size) 0 (.int .i64 a.len) (by go_simp); have x0f := hb8.free (w7.heap.size) 0 (by first | (simp; done) | (simp; omega)) (by go_simp); have x1 := hb8.at (w7.heap.size) 1 (.int .u64 a.bits) (by go_simp); have x1f := hb8.free (w7.heap.size) 1 (by first | (simp; done) | (simp; omega)) (by go_simp)
                    have y0 := hb8.at (w7.heap.size + 1) 0 (.int .i64 rc.kind) (by go_simp); have y0f := hb8.free (w7.heap.size + 1) 0 (by first | (simp; done) | (simp; omega)) (by go_simp); have y1 := hb8.at (w7.heap.size + 1) 1 (.slice jo rc.items.length jc) (by go_simp); have y1f := hb8.free (w7.heap.size + 1) 1 (by first | (simp; done) | (simp; omega)) (by go_simp); have y2 := hb8.at (w7.heap.size + 1) 2 (.int .i64 rc.next.len) (by go_simp); have y2f := hb8.free (w7.heap.size + 1) 2 (by first | (simp; done) | (simp; omega)) (by go_simp); have y3 := hb8.at (w7.heap.size + 1) 3 (.int .u64 rc.next.bits) (by go_simp); have y3f := hb8.free (w7.heap.size + 1) 3 (by first | (simp; done) | (simp; omega)) (by go_simp); have y4 := hb8.at (w7.heap.size + 1) 4 (.int .u64 rc.mark) (by go_simp); have y4f := hb8.free (w7.heap.size + 1) 4 (by first | (simp; done) | (simp; omega)) (by go_simp)
                    have c58 := hb8.at w3.heap.size 0 (.map (some rb)) (by go_simp)
                    have hlt38 : w3.heap.size < w8.heap.size := by have := hb8.size; simp only [World.size_alloc] at this; omega
                    have hE78 : Ext w7 w8 := Ext.trans (((Ext.refl w7).alloc _).alloc _) hb8
                    have hz8 : w7.heap.size + 1 < w8.heap.size := by have := hb8.size; simp only [World.size_alloc] at this; omega
                    have hz8' : w7.heap.size < w8.heap.size := by omega
                    clear hb8
                    obtain ⟨Wp, hWp⟩ : ∃ Wp : World, Wp = w8.alloc (.cells #[.int .i64 0, .int .u64 0] 36) := ⟨_, rfl⟩
                    have hEp : Ext w7 Wp := by rw [hWp]; exact hE78.alloc _
                    have hE8p : Ext w8 Wp := by rw [hWp]; exact (Ext.refl _).alloc _
                    have HZP := Lib.hid (show Wp.heap.size = w8.heap.size + 1 by rw [hWp]; simp)
                    have HW := Lib.hid hWp.symm; clear hWp
                    go_wp2
                    rw [HW.out]
                  rotate_left
                  focus
                    go_wp2_with fail
                    refine (parent_c a _ hu1 hok1 hlp).mono ?_
                    rintro e w8 ⟨rfl, hb8⟩
                    have x0 := hb8.at (w7.heap.size) 0 (.int .i64 a.len) (by go_simp); have x0f := hb8.free (w7.heap.size) 0 (by first | (simp; done) | (simp; omega)) (by go_simp); have x1 := hb8.at (w7.heap.size) 1 (.int .u64 a.bits) (by go_simp); have x1f := hb8.free (w7.heap.size) 1 (by first | (simp; done) | (simp; omega)) (by go_simp)
                    have y0 := hb8.at (w7.heap.size + 1) 0 (.int .i64 rc.kind) (by go_simp); have y0f := hb8.free (w7.heap.size + 1) 0 (by first | (simp; done) | (simp; omega)) (by go_simp); have y1 := hb8.at (w7.heap.size + 1) 1 (.slice jo rc.items.length jc) (by go_simp); have y1f := hb8.free (w7.heap.size + 1) 1 (by first | (simp; done) | (simp; omega)) (by go_simp); have y2 := hb8.at (w7.heap.size + 1) 2 (.int .i64 rc.next.len) (by go_simp); have y2f := hb8.free (w7.heap.size + 1) 2 (by first | (simp; done) | (simp; omega)) (by go_simp); have y3 := hb8.at (w7.heap.size + 1) 3 (.int .u64 rc.next.bits) (by go_simp); have y3f := hb8.free (w7.heap.size + 1) 3 (by first | (simp; done) | (simp; omega)) (by go_simp); have y4 := hb8.at (w7.heap.size + 1) 4 (.int .u64 rc.mark) (by go_simp); have y4f := hb8.free (w7.heap.size + 1) 4 (by first | (simp; done) | (simp; omega)) (by go_simp)
                    have c58 := hb8.at w3.heap.size 0 (.map (some rb)) (by go_simp)
                    have hlt38 : w3.heap.size < w8.heap.size := by have := hb8.size; simp only [World.size_alloc] at this; omega
                    have hE78 : Ext w7 w8 := Ext.trans (((Ext.refl w7).alloc _).alloc _) hb8
                    have hz8 : w7.heap.size + 1 < w8.heap.size := by have := hb8.size; simp only [World.size_alloc] at this; omega
                    have hz8' : w7.heap.size < w8.heap.size := by omega
                    clear hb8
                    have hlk := run_lookup1 (((hr8.ext hE78).map).ext ((Ext.refl w8).alloc (.cells #[.int .i64 (parentOf a).len, .int .u64 (parentOf a).bits] 36))) 79 38 zeroRec typeTree zeroRec_c (parentOf a).len (parentOf a).bits
                    rw [hz1] at hlk
                    obtain ⟨Wp, hWp⟩ : ∃ Wp : World, Wp = w8.alloc (.cells #[.int .i64 (parentOf a).len, .int .u64 (parentOf a).bits] 36) := ⟨_, rfl⟩
                    have hEp : Ext w7 Wp := by rw [hWp]; exact hE78.alloc _
                    have hE8p : Ext w8 Wp := by rw [hWp]; exact (Ext.refl _).alloc _
                    have HZP := Lib.hid (show Wp.heap.size = w8.heap.size + 1 by rw [hWp]; simp)
                    have HW := Lib.hid hWp.symm; clear hWp
                    go_wp2
                    rw [HW.out]
                  all_goals
                    refine leaves_marks (v := .bool false) _ _ (hmk7.ext hEp) (fun w' => by simp [results, Try.results11]) w6.heap.size hmk.2 (HFALSE.out _ hEp ?_)
                    obtain ⟨h1, h2⟩ := HK.out
                    unfold wellRow
                    simp [h1, h2]
  · have hroot' : (tget rootLbl (rowsMap l)).isSome = false := by simpa using hroot
    rw [hroot'] at hlk
    have HR := Lib.hid hroot'; clear hroot hroot'
    go_wp2
    refine ⟨.bool false, by simp [results, Try.results11], lv, HPL.out, hso, ?_, false, rfl, by simp [wellP, HR.out]⟩
    exact (hE.alloc _).alloc _
end Go.Proofs.Ythgnkbkfkcdhfaa
