/- (tree).grow: what it makes of a map. -/
import Derived.Test.YthgnkbkfkcdhfaaMRange

namespace Go.Proofs.Ythgnkbkfkcdhfaa
open Go.RowKit
attribute [local go_sem] Oper.semAt_some
set_option maxHeartbeats 1000000
set_option linter.unusedSimpArgs false

theorem cell_setBool {w : World} {b : Nat} {q : Bool} {u : Value} (hc : w.cell? ⟨b, 0, none⟩ = some (.bool q)) {a : Addr} {v : Value} (ha : w.cell? a = some v) (hv : ∀ q, v ≠ .bool q) : (w.setCell ⟨b, 0, none⟩ u).cell? a = some v := by
  rw [World.cell?_setCell_other]
  · exact ha
  · rintro rfl
    rw [hc] at ha
    exact hv q (Option.some.inj ha).symm
theorem ItemsAt.setBool {w : World} {b : Nat} {q : Bool} {u : Value} (hc : w.cell? ⟨b, 0, none⟩ = some (.bool q)) {v : Value} {l : List Item} (h : ItemsAt w v l) : ItemsAt (w.setCell ⟨b, 0, none⟩ u) v l := by
  obtain ⟨ao, c, h1, h2, h3, h4, h5⟩ := h
  refine ⟨ao, c, h1, h2, h3, h4, fun i hi => ?_⟩
  obtain ⟨b', o, e, c1, c2⟩ := h5 i hi
  exact ⟨b', o, e, cell_setBool hc c1 (by intro q e; cases e), cell_setBool hc c2 (by intro q e; cases e)⟩
theorem MapIs.setCell {w : World} {r : Nat} {m : List (Lbl × Value)} (h : MapIs w r m) {b : Nat} {x v : Value} (hc : w.cell? ⟨b, 0, none⟩ = some x) : MapIs (w.setCell ⟨b, 0, none⟩ v) r m := by
  have hlt := h.lt
  obtain ⟨es, c, hh, hr⟩ := h
  have hne : b ≠ r := by
    rintro rfl
    simp [World.cell?, hh] at hc
  refine ⟨es, c, ?_, hr⟩
  show (w.heap.modify b _)[r]? = _
  rw [Array.getElem?_modify, if_neg hne]; exact hh
theorem TreeIs.setBool {w : World} {r : Nat} {t : List (Lbl × Rec)} (h : TreeIs w r t) {b : Nat} {q : Bool} {u : Value} (hc : w.cell? ⟨b, 0, none⟩ = some (.bool q)) : TreeIs (w.setCell ⟨b, 0, none⟩ u) r t := by
  obtain ⟨m, h1, h2⟩ := h
  refine ⟨m, h1.setCell hc, h2.imp fun v x hx => ?_⟩
  obtain ⟨iv, e, hi⟩ := hx
  exact ⟨iv, e, hi.setBool hc⟩
theorem TreeIs.kept {w w' : World} {r : Nat} {t : List (Lbl × Rec)} (h : TreeIs w r t) {row : Option Nat} (hg : w.grownBy w' row) (hr : ∀ k, row = some k → r ≠ k ∧ ∃ o : Obj, w.heap[k]? = some o ∧ o.isCells = false) : TreeIs w' r t := by
  obtain ⟨m, h1, h2⟩ := h
  have hlt := h1.lt
  refine ⟨m, ?_, h2.imp fun v x hx => ?_⟩
  · obtain ⟨es, c, hh, hrr⟩ := h1
    exact ⟨es, c, by rw [hg.block r hlt (fun e => (hr r e.symm).1 rfl)]; exact hh, hrr⟩
  · obtain ⟨iv, e, hi⟩ := hx
    refine ⟨iv, e, ?_⟩
    obtain ⟨ao, c, h1, h2, h3, h4, h5⟩ := hi
    refine ⟨ao, c, h1, h2, h3, h4, fun i hi => ?_⟩
    obtain ⟨b', o, e, c1, c2⟩ := h5 i hi
    exact ⟨b', o, e, cell_kept c1 hg (fun k e => (hr k e).2), cell_kept c2 hg (fun k e => (hr k e).2)⟩
theorem ExtM.keeps {r B : Nat} {w w' : World} (h : ExtM r w w') (hr : r < B) : KeepsFrom B w w' :=
  ⟨h.size, fun k o hB hk _ => by rw [h.block k (Array.getElem?_eq_some_iff.1 hk).1 (by omega)]; exact hk⟩
theorem ExtM.tree {r : Nat} {w w' : World} (h : ExtM r w w') {t : List (Lbl × Rec)} (ht : TreeIs w r t) {v : Value} {l : List Item} (hi : ItemsAt w v l) : ItemsAt w' v l := by
  obtain ⟨m, h1, -⟩ := ht
  exact h.items h1 hi
theorem ExtM.treeCell {r : Nat} {w w' : World} (h : ExtM r w w') {t : List (Lbl × Rec)} (ht : TreeIs w r t) {a : Addr} {v : Value} (hc : w.cell? a = some v) : w'.cell? a = some v := by
  obtain ⟨m, h1, -⟩ := ht
  exact h.cell h1 hc
/-- all that was there is as it was, but block r -/
structure ExtN (r B : Nat) (w w' : World) : Prop where
  os : w'.os = w.os
  tape : w'.tape = w.tape
  output : w'.output = w.output
  size : w.heap.size ≤ w'.heap.size
  block : ∀ k, k < B → k ≠ r → w'.heap[k]? = w.heap[k]?
theorem ExtN.extM {r : Nat} {w w' : World} (h : ExtN r w.heap.size w w') : ExtM r w w' := ⟨h.os, h.tape, h.output, h.size, h.block⟩
theorem ExtM.extN {r B : Nat} {w a b : World} (hw : Ext w a) (hB : B ≤ w.heap.size) (h : ExtM r a b) : ExtN r B w b :=
  ⟨h.os.trans (Below.os hw), h.tape.trans (Below.tape hw), h.output.trans (Below.output hw), Nat.le_trans hw.size h.size, fun k hk hr => (h.block k (by have := hw.size; omega) hr).trans (Below.block hw k (by omega))⟩
theorem ExtN.setCell {r B b : Nat} {w w' : World} (h : ExtN r B w w') (hb : B ≤ b) (o : Nat) (v : Value) : ExtN r B w (w'.setCell ⟨b, o, none⟩ v) :=
  ⟨h.os, h.tape, h.output, by rw [World.size_setCell]; exact h.size, fun k hk hr => by
    show (w'.heap.modify b _)[k]? = _
    rw [Array.getElem?_modify, if_neg (by omega)]; exact h.block k hk hr⟩
/-- the rounds of grow -/
def growL (b : Int) (n : Nat) (l : List Item) : List Lbl → List (Lbl × Rec) → List (Lbl × Rec) × Bool
  | [], t => (t, true)
  | c :: cs, t => match growT b n (coveredOf l c) c t with
    | (t1, false) => (t1, false)
    | (t1, true) => growL b n l cs t1
theorem growL_append (b : Int) (n : Nat) (l : List Item) : ∀ (p q : List Lbl) (t : List (Lbl × Rec)), growL b n l (p ++ q) t = (match growL b n l p t with | (t1, false) => (t1, false) | (t1, true) => growL b n l q t1)
  | [], q, t => rfl
  | c :: cs, q, t => by
    simp only [List.cons_append, growL]
    generalize growT b n (coveredOf l c) c t = g
    obtain ⟨t1, k⟩ := g
    cases k
    · rfl
    · exact growL_append b n l cs q t1
theorem growT_kids (b : Int) (n : Nat) (l : List Item) (a : Lbl) (t : List (Lbl × Rec)) (h1 : t.length < 2000) (h2 : ¬ ((l.length : Int) ≤ b ∨ a.len = 64)) (h64 : a.len < 64) : growT b (n + 1) l a t = growL b n l (kids a) (tput a ⟨2, [], noneLbl, 0⟩ t) := by
  simp only [growT]
  rw [if_neg (by omega), if_neg h2]
  unfold kids
  rw [if_pos h64]
  simp only [growL]
  generalize growT b n (coveredOf l (childOf a 0)) (childOf a 0) _ = g0
  obtain ⟨t0, k0⟩ := g0
  cases k0
  · rfl
  · simp only []
    generalize growT b n (coveredOf l (childOf a 1)) (childOf a 1) t0 = g
    obtain ⟨t1, k⟩ := g
    cases k <;> rfl
theorem setCell_self {w : World} {b o : Nat} {u : Value} (h : w.cell? ⟨b, o, none⟩ = some u) : w.setCell ⟨b, o, none⟩ u = w := by
  have hlt := World.block_lt_of_cell? _ _ h
  have e : w.heap.modify b (fun | .cells c elem frozen => .cells (if (⟨b, o, none⟩ : Addr).spot.isSome then c else c.setIfInBounds o u) elem frozen | o => o) = w.heap := by
    apply Array.ext_getElem?
    intro i
    rw [Array.getElem?_modify]
    split
    · rename_i e; subst e
      simp only [World.cell?] at h
      cases hb : w.heap[b]? with
      | none => rfl
      | some x =>
        rw [hb] at h
        cases x with
        | cells c t f =>
          simp at h
          simp only [Option.map_some, Option.some.injEq, Obj.cells.injEq, and_true]
          simp only [Option.isSome_none, Bool.false_eq_true, if_false]
          apply Array.ext_getElem?
          intro j
          rw [Array.getElem?_setIfInBounds]
          split
          · rename_i e; subst e
            split
            · exact h.symm
            · rename_i hh; rw [Array.getElem?_eq_none (by omega)] at h; cases h
          · rfl
        | _ => simp at h
    · rfl
  exact congrArg (fun H => ({ w with heap := H } : World)) e
theorem ExtN.grown {r B : Nat} {w w' w'' : World} (h : ExtN r B w w') (hB : B ≤ w'.heap.size) {row : Option Nat} (hg : w'.grownBy w'' row) (hr : ∀ k, row = some k → B ≤ k) : ExtN r B w w'' :=
  ⟨hg.os.trans h.os, hg.tape.trans h.tape, hg.output.trans h.output, Nat.le_trans h.size hg.size, fun k hk hkr => by
    rw [hg.block k (by omega) (fun e => by have := hr k e.symm; omega)]; exact h.block k hk hkr⟩
theorem putObj_setCell_heap {w : World} {b o D : Nat} {v : Value} {x : Obj} (h : w.heap[D]? = some x) (hx : x.isCells = false) : (w.setCell ⟨b, o, none⟩ v).heap[D]? = some x := by
  show (w.heap.modify b _)[D]? = _
  rw [Array.getElem?_modify]
  split
  · rw [h]
    cases x with
    | cells c t f => cases hx
    | _ => rfl
  · exact h
/-- what grow answers -/
def GrowRet (r : Nat) (g : List (Lbl × Rec) × Bool) (w : World) (e : Ending) (w' : World) : Prop := e = .returned (.bool g.2) ∧ TreeIs w' r g.1 ∧ ExtM r w w'
theorem run_len_tree {w : World} {r : Nat} {t : List (Lbl × Rec)} (h : TreeIs w r t) : (Builtin.len_ #[79] 3 #[.map (some r)]).run Try.prog w = .ok (.int .i64 t.length) w := by
  obtain ⟨m, ⟨es, clock, hh, rfl, -⟩, hP⟩ := h
  have := run_len_map (P := Try.prog) (w := w) 79 3 r _ clock (by kernel_rfl) hh
  rw [this]
  have := hP.length
  simp only [List.length_map] at this
  simp [goInt, this]
set_option maxRecDepth 100000 in
theorem grow_c (b : Int) (r : Nat) :
    ∀ (n : Nat) (w : World) (at' : Lbl) (v : Value) (l : List Item) (t : List (Lbl × Rec)), at'.ok = true → at'.u → 65 - at'.len ≤ n → TreeIs w r t → ItemsAt w v l → l.length ≤ 100000 → (∀ x ∈ l, u64 x.key) →
      Calls Try.prog 32 #[.map (some r), v, .agg #[.int .i64 at'.len, .int .u64 at'.bits], .int .i64 b] w (GrowRet r (growT b n l at' t) w) := by
  intro n
  induction n with
  | zero =>
    intro w at' v l t hok hu hn
    have := ((ok_iff at').1 hok).2.1
    omega
  | succ n ih =>
    intro w at' v l t hok hu hn hT hI hl hk
    obtain ⟨io, ic, rfl⟩ : ∃ io ic, v = .slice io l.length ic := by obtain ⟨io, ic, e, -⟩ := hI; exact ⟨io, ic, e⟩
    have hr := hT.lt
    obtain ⟨W, hW⟩ : ∃ W : World, W = ((((w.alloc (.cells #[.map (some r)] 79)).alloc (.cells #[.slice io l.length ic] 22)).alloc (.cells #[.int .i64 at'.len, .int .u64 at'.bits] 36)).alloc (.cells #[.int .i64 b] 3)).alloc (.cells #[.bool false] 4) := ⟨_, rfl⟩
    have hE : Ext w W := by rw [hW]; exact (((((Ext.refl w).alloc _).alloc _).alloc _).alloc _).alloc _
    have hz : W.heap.size = w.heap.size + 1 + 1 + 1 + 1 + 1 := by rw [hW]; simp
    have hTW := hT.ext hE
    have hIW := hI.ext hE
    have c4 : W.cell? ⟨w.heap.size, 0, none⟩ = some (.map (some r)) := by rw [hW]; go_simp
    have c5 : W.cell? ⟨w.heap.size + 1, 0, none⟩ = some (.slice io l.length ic) := by rw [hW]; go_simp
    have c6 : W.cell? ⟨w.heap.size + 1 + 1, 0, none⟩ = some (.int .i64 at'.len) := by rw [hW]; go_simp
    have c6' : W.cell? ⟨w.heap.size + 1 + 1, 1, none⟩ = some (.int .u64 at'.bits) := by rw [hW]; go_simp
    have c7 : W.cell? ⟨w.heap.size + 1 + 1 + 1, 0, none⟩ = some (.int .i64 b) := by rw [hW]; go_simp
    have c8 : W.cell? ⟨w.heap.size + 1 + 1 + 1 + 1, 0, none⟩ = some (.bool false) := by rw [hW]; go_simp
    have f8 : W.frozen? ⟨w.heap.size + 1 + 1 + 1 + 1, 0, none⟩ = false := by rw [hW]; go_simp
    have hlen := run_len_tree hTW
    rw [hW] at hlen
    have HC := Lib.hid (And.intro c4 (And.intro c5 (And.intro c6 (And.intro c6' (And.intro c7 (And.intro c8 f8))))))
    clear c4 c5 c6 c6' c7 c8 f8
    have HW := Lib.hid hW.symm; clear hW
    have HZ := Lib.hid hz; clear hz
    refine (callsIn_wide (n := 3)).1 ?_
    refine callsIn_of_wp_marks Try.func32 rfl trivial ?_ rfl
    simp only [Try.ntmps32, List.size_toArray, List.length_cons, List.length_nil, Nat.reduceAdd, Nat.reduceSub, Array.replicate_succ, Array.replicate_zero, List.push_toArray, List.append_toArray, List.nil_append, List.cons_append]
    by_cases h2000 : 2000 ≤ t.length
    · have e1 : decide ((2000 : Int) ≤ (t.length : Int)) = true := by simp; omega
      have hg : growT b (n + 1) l at' t = (t, false) := by simp only [growT]; rw [if_pos h2000]
      rw [hg]
      clear hg
      gi_wp2
      refine ⟨.bool false, by simp [results, Try.results32, go_sem], rfl, ?_, ?_⟩
      · exact hT.ext ((((((Ext.refl w).alloc _).alloc _).alloc _).alloc _).alloc _)
      · exact Ext.m _ ((((((Ext.refl w).alloc _).alloc _).alloc _).alloc _).alloc _)
    · have e2000 : (t.length : Int) < 2000 := by omega
      by_cases hc : (l.length : Int) ≤ b ∨ at'.len = 64
      · have hg : growT b (n + 1) l at' t = (tput at' ⟨1, l, ⟨0, 0⟩, 0⟩ t, true) := by simp only [growT]; rw [if_neg h2000, if_pos hc]
        rw [hg]
        clear hg
        have hc' : ((l.length : Int) ≤ b) ∨ (¬ ((l.length : Int) ≤ b) ∧ at'.len = 64) := by omega
        clear hc h2000
        have hmk : ∀ (W' : World) (h : Ext W W') (x y z : Value), True := fun _ _ _ _ _ => trivial
        clear hmk
        rcases hc' with hc | ⟨hc, h64⟩
        · have e1 : decide ((l.length : Int) ≤ b) = true := by simp [hc]
          gi_wp2
          rw [HW.out]
          refine wpIn_wide.2 ?_
          obtain ⟨m, hM, hP⟩ := hTW
          obtain ⟨c4, c5, c6, c6', c7, c8, f8⟩ := HC.out
          have HS := Lib.hid (fun (W' : World) (h : ExtM r W W') => And.intro (h.cell hM c4) (And.intro (h.cell hM c5) (And.intro (h.cell hM c6) (And.intro (h.cell hM c6') (And.intro (h.cell hM c8) (h.free hM c8 f8))))))
          have HM := Lib.hid hM; have HP := Lib.hid hP
          clear c4 c5 c6 c6' c7 c8 f8 hM hP hlen
          go_region_held3 (fun w' => w'.cell? ⟨w.heap.size, 0, none⟩ = some (.map (some r)) ∧ w'.cell? ⟨w.heap.size + 1, 0, none⟩ = some (.slice io l.length ic) ∧ w'.cell? ⟨w.heap.size + 1 + 1, 0, none⟩ = some (.int .i64 at'.len) ∧ w'.cell? ⟨w.heap.size + 1 + 1, 1, none⟩ = some (.int .u64 at'.bits) ∧ w'.cell? ⟨w.heap.size + 1 + 1 + 1 + 1, 0, none⟩ = some (.bool false) ∧ w'.frozen? ⟨w.heap.size + 1 + 1 + 1 + 1, 0, none⟩ = false) (first | exact HS.out _ (Ext.m _ (Ext.refl _).drew) | exact HS.out _ (Ext.m _ (Ext.trans (Ext.refl _).drew hb4)) | exact HS.out _ (ExtM.trans (Ext.m _ (Ext.trans (Ext.refl _).drew hb4)) hX5)) (first | (go_at_call 28; refine (clone_c _ _ l (hIW.ext (Ext.refl _).drew) (by omega)).mono ?_; rintro e w4 ⟨v4, rfl, hown4, hb4⟩; obtain ⟨o4, k4, rfl⟩ := hown4.slice; obtain ⟨w5, hru, hM5, hX5⟩ := run_update (HM.out.ext (Ext.trans (Ext.refl _).drew hb4)) 79 38 typeTree at'.len at'.bits (.agg #[.int .i64 1, .slice o4 l.length k4, .int .i64 0, .int .u64 0, .int .u64 0])) | fail)
          clear hru
          have hX := (Ext.m r (Ext.trans (Ext.refl W).drew hb4)).trans hX5
          obtain ⟨-, -, -, -, c8, f8⟩ := HS.out _ hX
          have hP5 := Pairs.put (R := RecV w5) (r := ⟨1, l, ⟨0, 0⟩, 0⟩) at' ⟨_, rfl, hX5.items (HM.out.ext (Ext.trans (Ext.refl _).drew hb4)) hown4.items⟩ (HP.out.imp fun v x hx => hx.extM hX HM.out)
          have hT5 : TreeIs w5 r (tput at' ⟨1, l, ⟨0, 0⟩, 0⟩ t) := ⟨_, hM5, hP5⟩
          have HT5 := Lib.hid hT5; have HX := Lib.hid hX
          clear hown4 hb4 hX5 hM5 hP5 hT5 hX
          gi_wp2
          refine ⟨.bool true, by simp [results, Try.results32, go_sem, c8], rfl, HT5.out.setBool c8, ?_⟩
          exact ((HX.out.extN hE (Nat.le_refl _)).setCell (by omega) _ _).extM
        · have e1 : decide ((l.length : Int) ≤ b) = false := by simp; omega
          have e2 : (at'.len == 64) = true := by simp [h64]
          have H64 := Lib.hid h64; clear h64
          gi_wp2
          rw [HW.out]
          refine wpIn_wide.2 ?_
          obtain ⟨m, hM, hP⟩ := hTW
          obtain ⟨c4, c5, c6, c6', c7, c8, f8⟩ := HC.out
          have HS := Lib.hid (fun (W' : World) (h : ExtM r W W') => And.intro (h.cell hM c4) (And.intro (h.cell hM c5) (And.intro (h.cell hM c6) (And.intro (h.cell hM c6') (And.intro (h.cell hM c8) (h.free hM c8 f8))))))
          have HM := Lib.hid hM; have HP := Lib.hid hP
          clear c4 c5 c6 c6' c7 c8 f8 hM hP hlen
          go_region_held3 (fun w' => w'.cell? ⟨w.heap.size, 0, none⟩ = some (.map (some r)) ∧ w'.cell? ⟨w.heap.size + 1, 0, none⟩ = some (.slice io l.length ic) ∧ w'.cell? ⟨w.heap.size + 1 + 1, 0, none⟩ = some (.int .i64 at'.len) ∧ w'.cell? ⟨w.heap.size + 1 + 1, 1, none⟩ = some (.int .u64 at'.bits) ∧ w'.cell? ⟨w.heap.size + 1 + 1 + 1 + 1, 0, none⟩ = some (.bool false) ∧ w'.frozen? ⟨w.heap.size + 1 + 1 + 1 + 1, 0, none⟩ = false) (first | exact HS.out _ (Ext.m _ (Ext.refl _).drew) | exact HS.out _ (Ext.m _ (Ext.trans (Ext.refl _).drew hb4)) | exact HS.out _ (ExtM.trans (Ext.m _ (Ext.trans (Ext.refl _).drew hb4)) hX5)) (first | (go_at_call 28; refine (clone_c _ _ l (hIW.ext (Ext.refl _).drew) (by omega)).mono ?_; rintro e w4 ⟨v4, rfl, hown4, hb4⟩; obtain ⟨o4, k4, rfl⟩ := hown4.slice; obtain ⟨w5, hru, hM5, hX5⟩ := run_update (HM.out.ext (Ext.trans (Ext.refl _).drew hb4)) 79 38 typeTree at'.len at'.bits (.agg #[.int .i64 1, .slice o4 l.length k4, .int .i64 0, .int .u64 0, .int .u64 0])) | fail)
          clear hru
          have hX := (Ext.m r (Ext.trans (Ext.refl W).drew hb4)).trans hX5
          obtain ⟨-, -, -, -, c8, f8⟩ := HS.out _ hX
          have hP5 := Pairs.put (R := RecV w5) (r := ⟨1, l, ⟨0, 0⟩, 0⟩) at' ⟨_, rfl, hX5.items (HM.out.ext (Ext.trans (Ext.refl _).drew hb4)) hown4.items⟩ (HP.out.imp fun v x hx => hx.extM hX HM.out)
          have hT5 : TreeIs w5 r (tput at' ⟨1, l, ⟨0, 0⟩, 0⟩ t) := ⟨_, hM5, hP5⟩
          have HT5 := Lib.hid hT5; have HX := Lib.hid hX
          clear hown4 hb4 hX5 hM5 hP5 hT5 hX
          gi_wp2
          refine ⟨.bool true, by simp [results, Try.results32, go_sem, c8], rfl, HT5.out.setBool c8, ?_⟩
          exact ((HX.out.extN hE (Nat.le_refl _)).setCell (by omega) _ _).extM
      · have h64 : at'.len < 64 := by have := ((ok_iff at').1 hok).2.1; omega
        have hg := growT_kids b n l at' t (by omega) hc h64
        have e1 : decide ((l.length : Int) ≤ b) = false := by simp; omega
        have e2 : (at'.len == 64) = false := by simp; omega
        rw [hg]
        have HG := Lib.hid hg; clear hg
        have HC2 := Lib.hid hc; clear hc
        gi_wp2
        rw [HW.out]
        refine wpIn_wide.2 ?_
        obtain ⟨m, hM, hP⟩ := hTW
        obtain ⟨c4, c5, c6, c6', c7, c8, f8⟩ := HC.out
        have HS := Lib.hid (fun (W' : World) (h : ExtM r W W') => And.intro (h.cell hM c4) (And.intro (h.cell hM c5) (And.intro (h.cell hM c6) (And.intro (h.cell hM c6') (And.intro (h.cell hM c7) (And.intro (h.cell hM c8) (h.free hM c8 f8)))))))
        have HM := Lib.hid hM; have HP := Lib.hid hP
        clear c4 c5 c6 c6' c7 c8 f8 hM hP hlen
        go_region_held3 (fun w' => w'.cell? ⟨w.heap.size, 0, none⟩ = some (.map (some r)) ∧ w'.cell? ⟨w.heap.size + 1, 0, none⟩ = some (.slice io l.length ic) ∧ w'.cell? ⟨w.heap.size + 1 + 1, 0, none⟩ = some (.int .i64 at'.len) ∧ w'.cell? ⟨w.heap.size + 1 + 1, 1, none⟩ = some (.int .u64 at'.bits) ∧ w'.cell? ⟨w.heap.size + 1 + 1 + 1, 0, none⟩ = some (.int .i64 b) ∧ w'.cell? ⟨w.heap.size + 1 + 1 + 1 + 1, 0, none⟩ = some (.bool false) ∧ w'.frozen? ⟨w.heap.size + 1 + 1 + 1 + 1, 0, none⟩ = false) (first | exact HS.out _ (Ext.m _ (Ext.refl _).drew) | exact HS.out _ (Ext.m _ (Ext.trans (Ext.refl _).drew hb4)) | exact HS.out _ (ExtM.trans (Ext.m _ (Ext.trans (Ext.refl _).drew hb4)) hX5)) (first | (go_at_call 57; refine (none_c _).mono ?_; rintro e w4 ⟨rfl, hb4⟩; obtain ⟨w5, hru, hM5, hX5⟩ := run_update (HM.out.ext (Ext.trans (Ext.refl _).drew hb4)) 79 38 typeTree at'.len at'.bits (.agg #[.int .i64 2, .slice none 0 0, .int .i64 (-1), .int .u64 0, .int .u64 0])) | fail)
        clear hru
        have hX := (Ext.m r (Ext.trans (Ext.refl W).drew hb4)).trans hX5
        obtain ⟨-, -, c6, c6', -, -, -⟩ := HS.out _ hX
        have hP5 := Pairs.put (R := RecV w5) (r := ⟨2, [], noneLbl, 0⟩) at' ⟨_, rfl, ItemsAt.nil _⟩ (HP.out.imp fun v x hx => hx.extM hX HM.out)
        have hT5 : TreeIs w5 r (tput at' ⟨2, [], noneLbl, 0⟩ t) := ⟨_, hM5, hP5⟩
        have HT5 := Lib.hid hT5; have HX := Lib.hid hX
        clear hb4 hX5 hM5 hP5 hT5 hX
        obtain ⟨W3, hW3⟩ : ∃ W3 : World, W3 = w5.alloc (.cells #[.int .i64 at'.len, .int .u64 at'.bits] 36) := ⟨_, rfl⟩
        have hE3 : Ext w5 W3 := by rw [hW3]; exact (Ext.refl w5).alloc _
        have hz3 : W3.heap.size = w5.heap.size + 1 := by rw [hW3]; simp
        have k0 : W3.cell? ⟨w5.heap.size, 0, none⟩ = some (.int .i64 at'.len) := by rw [hW3]; go_simp
        have k1 : W3.cell? ⟨w5.heap.size, 1, none⟩ = some (.int .u64 at'.bits) := by rw [hW3]; go_simp
        have HW3 := Lib.hid hW3.symm; clear hW3
        have HK := Lib.hid (And.intro k0 k1); clear k0 k1
        have HZ3 := Lib.hid hz3; clear hz3
        gi_wp2_with (refine ⟨trivial, ?_⟩; gi_at_call 40; refine (callsIn_wide.2 (children_c at' _)).mono ?_; rintro e w' ⟨rfl, rfl⟩)
        rw [HW3.out]
        obtain ⟨k0, k1⟩ := HK.out
        have hz3 := HZ3.out
        have hX3 : ExtM r W W3 := HX.out.trans (Ext.m r hE3)
        have hr5 : r < w5.heap.size := HT5.out.lt
        have hT3 := HT5.out.ext hE3
        obtain ⟨tA, htA⟩ : ∃ tA, tA = tput at' ⟨2, [], noneLbl, 0⟩ t := ⟨_, rfl⟩
        rw [← htA] at hT3
        have HA := Lib.hid htA; clear htA
        refine wpIn_range_kids at' hu hok w5.heap.size rfl k0 k1 (by simp) (by simp) (by decide) (fun pre W' => ∃ t', growL b n l pre tA = (t', true) ∧ TreeIs W' r t' ∧ ExtM r W3 W') (fun c pre W' => c = .ret ∧ ∃ t', growL b n l pre tA = (t', false) ∧ TreeIs W' r t' ∧ ExtM r W3 W') ?hI ?hIx ?h0 ?hIe ?hIw ?body ?done ?stop
        case hI =>
          rintro pre W1 W2 row ⟨t', h1, h2, h3⟩ hg hr
          refine ⟨t', h1, h2.kept hg (fun k e => ⟨by have := (hr k e).1; omega, (hr k e).2⟩), ⟨hg.os.trans h3.os, hg.tape.trans h3.tape, hg.output.trans h3.output, Nat.le_trans h3.size hg.size, fun k hk hkr => ?_⟩⟩
          rw [hg.block k (Nat.lt_of_lt_of_le hk h3.size) (fun e => by have := (hr k e.symm).1; omega)]
          exact h3.block k hk hkr
        case hIx =>
          rintro c pre W1 W2 row ⟨hc, t', h1, h2, h3⟩ hg hr
          refine ⟨hc, t', h1, h2.kept hg (fun k e => ⟨by have := (hr k e).1; omega, (hr k e).2⟩), ⟨hg.os.trans h3.os, hg.tape.trans h3.tape, hg.output.trans h3.output, Nat.le_trans h3.size hg.size, fun k hk hkr => ?_⟩⟩
          rw [hg.block k (Nat.lt_of_lt_of_le hk h3.size) (fun e => by have := (hr k e.symm).1; omega)]
          exact h3.block k hk hkr
        case h0 => exact ⟨tA, rfl, hT3, ExtM.refl _ _⟩
        case hIe =>
          rintro pre W1 W2 ⟨t', h1, h2, h3⟩ he
          exact ⟨t', h1, h2.ext he, h3.trans (Ext.m r he)⟩
        case hIw =>
          rintro pre W1 ⟨t', h1, h2, h3⟩
          exact h3.size
        case stop =>
          rintro D c pre W1 hD ⟨rest, hrest⟩ ⟨rfl, t', h1, h2, h3⟩ hK
          have h1' : growL b n l (kids at') tA = (t', false) := by rw [hrest, growL_append, h1]
          have hXW := hX3.trans h3
          obtain ⟨-, -, -, -, -, c8, -⟩ := HS.out _ hXW
          have hgr := grownBy_putObj' W1 D (.deferred none)
          have c8f := cell_kept c8 hgr (fun k e => by cases e; exact ⟨_, hK, rfl⟩)
          gi_wp2
          refine ⟨by simp, .inl ⟨_, _, rfl, run_takeDeferred hK, ?_⟩⟩
          refine ⟨.bool false, by simp [results, Try.results32, go_sem, c8f], ?_⟩
          rw [← HA.out, h1']
          refine ⟨rfl, h2.kept hgr (fun k e => by cases e; exact ⟨by omega, _, hK, rfl⟩), ?_⟩
          exact ((hXW.extN hE (Nat.le_refl _)).grown (by have := hXW.size; have := hE.size; omega) hgr (fun k e => by cases e; have := hX3.size; have := hE.size; omega)).extM
        case done =>
          rintro D W1 hD ⟨t', h1, h2, h3⟩ hK
          have hXW := hX3.trans h3
          obtain ⟨-, -, -, -, -, c8, f8⟩ := HS.out _ hXW
          have hK' := putObj_setCell_heap (b := w.heap.size + 1 + 1 + 1 + 1) (o := 0) (v := .bool true) hK rfl
          have hgr := grownBy_putObj' (W1.setCell ⟨w.heap.size + 1 + 1 + 1 + 1, 0, none⟩ (.bool true)) D (.deferred none)
          have c8f := cell_kept (World.cell?_setCell_same' W1 ⟨w.heap.size + 1 + 1 + 1 + 1, 0, none⟩ (.bool true) (by rw [c8]; rfl)) hgr (fun k e => by cases e; exact ⟨_, hK', rfl⟩)
          have h2' := h2.setBool (u := .bool true) c8
          have HK' := Lib.hid hK'; have HGR := Lib.hid hgr; have HF := Lib.hid c8f; have H2 := Lib.hid h2'
          clear hK' hgr c8f h2'
          gi_wp2
          refine ⟨by simp, .inl ⟨_, _, rfl, run_takeDeferred HK'.out, ?_⟩⟩
          refine ⟨.bool true, by simp [results, Try.results32, go_sem, HF.out], ?_⟩
          rw [← HA.out, h1]
          refine ⟨rfl, H2.out.kept HGR.out (fun k e => by cases e; exact ⟨by omega, _, HK'.out, rfl⟩), ?_⟩
          exact (((hXW.extN hE (Nat.le_refl _)).setCell (by omega) _ _).grown (by have := hXW.size; have := hE.size; simp; omega) HGR.out (fun k e => by cases e; have := hX3.size; have := hE.size; omega)).extM
        case body =>
          rintro l2 pre x Bx W1 hBx x0 ⟨t', h1, h2, h3⟩ h64' hx hpre hall
          have hXW := hX3.trans h3
          obtain ⟨c4, c5, -, -, c7, c8, f8⟩ := HS.out _ hXW
          have hxok : x.ok = true := by rcases hx with rfl | rfl <;> exact child_ok _ _ hok h64
          have hxu : x.u := by rcases hx with rfl | rfl <;> exact child_u _ _ hok hu h64
          have hxl : 65 - x.len ≤ n := by rcases hx with rfl | rfl <;> (simp only [childOf]; omega)
          have hx0 : W1.cell? ⟨Bx, 0, none⟩ = some (.int .i64 x.len) := by simp [World.cell?, x0]
          have hx1 : W1.cell? ⟨Bx, 1, none⟩ = some (.int .u64 x.bits) := by simp [World.cell?, x0]
          have hI1 := hXW.tree (hT.ext hE) hIW
          have HSB := Lib.hid (fun (W' : World) (h : ExtM r W1 W') => And.intro (h.treeCell h2 c4) (And.intro (h.treeCell h2 c5) (And.intro (h.treeCell h2 hx0) (And.intro (h.treeCell h2 hx1) (h.treeCell h2 c7)))))
          have HC8 := Lib.hid (fun (W' : World) (h : ExtM r W1 W') => And.intro (h.treeCell h2 c8) (show W'.frozen? ⟨w.heap.size + 1 + 1 + 1 + 1, 0, none⟩ = false by obtain ⟨m1, k1, -⟩ := h2; exact h.free k1 c8 f8))
          have HC8' := HC8
          clear c4 c5 c7 c8 f8 hx0 hx1
          obtain ⟨g, hgg⟩ : ∃ g, g = growT b n (coveredOf l x) x t' := ⟨_, rfl⟩
          have HGG := Lib.hid hgg; clear hgg
          have hgl : growL b n l (pre ++ [x]) tA = (g.1, g.2) := by
            rw [growL_append, h1, HGG.out]
            simp only [growL]
            generalize growT b n (coveredOf l x) x t' = g'
            obtain ⟨t1, k⟩ := g'
            cases k <;> rfl
          have HGL := Lib.hid hgl; clear hgl
          have H1 := Lib.hid h1; clear h1
          have hcl : (coveredOf l x).length ≤ 100000 := Nat.le_trans (List.length_filter_le _ _) hl
          have hck : ∀ y ∈ coveredOf l x, u64 y.key := fun y hy => hk y (mem_covered.1 hy).1
          have hih := fun (W' : World) (v' : Value) (hT' : TreeIs W' r t') (hI' : ItemsAt W' v' (coveredOf l x)) => ih W' x v' (coveredOf l x) t' hxok hxu hxl hT' hI' hcl hck
          have HIH := Lib.hid hih; clear hih ih
          have HK' := Lib.hid hk; have HCK := Lib.hid hck; clear hk hck
          clear hxl hx hall hpre
          simp only [kidFrame, List.setIfInBounds_toArray, List.set_cons_zero, List.set_cons_succ]
          gi_wp2_with fail
          refine wpIn_region_held l2 1 (by kernel_rfl) (by kernel_rfl) ?hno (S := fun w' => w'.cell? ⟨w.heap.size, 0, none⟩ = some (.map (some r)) ∧ w'.cell? ⟨w.heap.size + 1, 0, none⟩ = some (.slice io l.length ic) ∧ w'.cell? ⟨Bx, 0, none⟩ = some (.int .i64 x.len) ∧ w'.cell? ⟨Bx, 1, none⟩ = some (.int .u64 x.bits) ∧ w'.cell? ⟨w.heap.size + 1 + 1 + 1, 0, none⟩ = some (.int .i64 b)) (HSB.out _ (Ext.m _ (Ext.refl _).drew)) (fun hHeld => ?_)
          case hno =>
            rintro ⟨a0, w0, h0⟩
            simp only [Exit.then, Exit.inBlock] at h0
            exact h0
          refine wpAnyH_take (i := 0) (v := ?_) rfl (by kernel_rfl) (by kernel_rfl) (by kernel_rfl) (fun _ _ _ h => h) (Or.inl ⟨by rfl, ?_⟩) (by assumption) ?_
          rotate_left
          · intro w' hSw; (try dsimp only at hSw); go_simp; with_reducible rfl
          try simp only [Act.put, List.setIfInBounds_toArray, List.set_cons_zero, List.set_cons_succ]
          refine wpAnyH_take (i := 1) (v := ?_) rfl (by kernel_rfl) (by kernel_rfl) (by kernel_rfl) (fun _ _ _ h => h) (Or.inl ⟨by rfl, ?_⟩) (by assumption) ?_
          rotate_left
          · intro w' hSw; (try dsimp only at hSw); go_simp; with_reducible rfl
          try simp only [Act.put, List.setIfInBounds_toArray, List.set_cons_zero, List.set_cons_succ]
          refine wpAnyH_take (i := 2) (v := ?_) rfl (by kernel_rfl) (by kernel_rfl) (by kernel_rfl) (fun _ _ _ h => h) (Or.inl ⟨by rfl, ?_⟩) (by assumption) ?_
          rotate_left
          · intro w' hSw; (try dsimp only at hSw); go_simp; with_reducible rfl
          try simp only [Act.put, List.setIfInBounds_toArray, List.set_cons_zero, List.set_cons_succ]
          refine wpAnyH_take (i := 4) (v := ?_) rfl (by kernel_rfl) (by kernel_rfl) (by kernel_rfl) (fun _ _ _ h => h) (Or.inl ⟨by rfl, ?_⟩) (by assumption) ?_
          rotate_left
          · intro w' hSw; (try dsimp only at hSw); go_simp; with_reducible rfl
          try simp only [Act.put, List.setIfInBounds_toArray, List.set_cons_zero, List.set_cons_succ]
          refine wpAnyH_take (i := 5) (v := ?_) rfl (by kernel_rfl) (by kernel_rfl) (by kernel_rfl) (fun _ _ _ h => h) (Or.inl ⟨by rfl, ?_⟩) (by assumption) ?_
          rotate_left
          · intro w' hSw; (try dsimp only at hSw); go_simp; with_reducible rfl
          try simp only [Act.put, List.setIfInBounds_toArray, List.set_cons_zero, List.set_cons_succ]
          refine wpAnyH_ready (rs := [3]) (by kernel_rfl) (by simp) ?_
          refine AllReadyH.cons rfl (fun K hK => ?_) AllReadyH.nil
          go_simp
          go_wp2_with (go_at_call 41; refine (covered_c W1.drew (.slice io l.length ic) l x (hI1.ext (Ext.refl _).drew) hl hxu HK'.out).mono ?_; rintro e w6 ⟨v6, rfl, hown6, hb6⟩)
          have hE6 : Ext W1 w6 := Ext.trans ((Ext.refl _).drew) hb6
          refine hK.out _ _ (HSB.out _ (Ext.m _ hE6)) (fun hHeld2 => ?_); clear hK K
          try simp only [Act.put, List.setIfInBounds_toArray, List.set_cons_zero, List.set_cons_succ]
          refine wpAnyH_ready (rs := [6]) (by kernel_rfl) (by simp) ?_
          refine AllReadyH.cons rfl (fun K hK => ?_) AllReadyH.nil
          go_simp
          go_wp2_with (go_at_call 32; refine (HIH.out w6 v6 (h2.ext hE6) hown6.items).mono ?_; rintro e w7 ⟨rfl, hT7, hX7⟩)
          have hX17 : ExtM r W1 w7 := (Ext.m r hE6).trans hX7
          rw [← HGG.out] at hT7
          refine hK.out _ _ (HSB.out _ hX17) (fun hHeld3 => ?_); clear hK K
          try simp only [Act.put, List.setIfInBounds_toArray, List.set_cons_zero, List.set_cons_succ]
          refine wpAnyH_ready (rs := [7]) (by kernel_rfl) (by simp) ?_
          refine AllReadyH.cons rfl (fun K hK => ?_) AllReadyH.nil
          go_simp
          refine hK.out _ _ (HSB.out _ hX17) (fun hHeld4 => ?_); clear hK K
          refine wpAnyH_done (by kernel_rfl) ?_ _
          rw [← HGG.out]
          have hlt1 : w5.heap.size < W1.heap.size := by have := h3.size; omega
          have hgl := HGL.out
          obtain ⟨c8, f8⟩ := HC8.out _ hX17
          have hself := setCell_self c8
          have hkeep : KeepsFrom W3.heap.size W1 w7 := hX17.keeps (by omega)
          have hkat : KeepAt w5.heap.size W1 w7 := hX17.block _ hlt1 (by omega)
          have hX37 := h3.trans hX17
          have HGL2 := Lib.hid hgl; clear hgl
          obtain ⟨t2, k⟩ := g
          cases k
          · gi_wp2
            exact ⟨by rw [← hz3]; exact hkeep, rfl, t2, HGL2.out, hT7, hX37⟩
          · gi_wp2
            exact ⟨by rw [← hz3]; exact hkeep, hkat, t2, HGL2.out, hT7, hX37⟩
end Go.Proofs.Ythgnkbkfkcdhfaa
