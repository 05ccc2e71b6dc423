/- trie.Items: what it gathers. -/
import Derived.Test.YthgnkbkfkcdhfaaKidsLoop
namespace Go.Proofs.Ythgnkbkfkcdhfaa
open Go.RowKit
attribute [local go_sem] Oper.semAt_some
set_option maxHeartbeats 1000000
set_option linter.unusedSimpArgs false

/-- the items of the tree t below at', to so deep a level -/
def isLeaf (r : Rec) : Bool := decide (r.kind = 1) || decide (r.kind = 5)
/-- is the record r to be read for the child c? -/
def stepsOn (t : List (Lbl × Rec)) (r : Rec) (c : Lbl) : Bool :=
  decide (r.kind = 3) && (match tget c t with | none => true | some x => decide (x.kind = 5))
def itemsOf (t : List (Lbl × Rec)) : Nat → Lbl → List Item
  | 0, _ => []
  | n + 1, at' => match tget at' t with
    | none => []
    | some r => if isLeaf r then r.items else (kids at').flatMap fun c => if stepsOn t r c then coveredOf r.items c else itemsOf t n c
/-- what one child brings -/
def partOf (t : List (Lbl × Rec)) (n : Nat) (r : Rec) (c : Lbl) : List Item := if stepsOn t r c then coveredOf r.items c else itemsOf t n c
/-- the records of a tree are of a modest size, their numbers of their kinds -/
def treeU (t : List (Lbl × Rec)) : Prop := ∀ l r, tget l t = some r → r.items.length ≤ 100000 ∧ ∀ x ∈ r.items, u64 x.key

theorem flat_le {α β : Type} (f : α → List β) (x : α) (l : List α) (h : x ∈ l) : (f x).length ≤ (l.flatMap f).length := by
  induction l with
  | nil => cases h
  | cons y l ih =>
    rw [List.flatMap_cons, List.length_append]
    rcases List.mem_cons.1 h with rfl | h
    · omega
    · have := ih h; omega
theorem pre_le {β : Type} (f : Lbl → List β) (a : Lbl) (h64 : a.len < 64) (pre : List Lbl) (h2 : pre.length < 2) (h : ∀ y ∈ pre, y = childOf a 0 ∨ y = childOf a 1) : (pre.flatMap f).length ≤ ((kids a).flatMap f).length := by
  have hk : ∀ y, (y = childOf a 0 ∨ y = childOf a 1) → y ∈ kids a := fun y hy => by unfold kids; rw [if_pos h64]; rcases hy with rfl | rfl <;> simp
  match pre, h2, h with
  | [], _, _ => simp
  | [y], _, h => rw [show [y].flatMap f = f y by simp]; exact flat_le f y _ (hk y (h y (by simp)))
theorem flat_one {α β : Type} (f : α → List β) (x : α) : [x].flatMap f = f x := by simp
def RetOut (bo B : Nat) (w : World) (v : Value) (l' : List Item) (e : Ending) (w' : World) : Prop := (∃ u, e = .returned u) ∧ Out1 bo B w v l' w'
set_option maxRecDepth 100000 in
theorem items1_c (w1 : World) (r bt bo bm B Y : Nat) (t : List (Lbl × Rec)) (hT : TreeIs w1 r t) (hU : treeU t) (hAo : w1.heap.size ≤ bo) (hbt : bt ≠ bo) (hbm : bm ≠ bo) (hbtB : bt < B) (hbmB : bm < B) (hboB : bo < B) :
    ∀ (n : Nat) (w : World) (at' : Lbl) (v : Value) (l : List Item), at'.ok = true → at'.u → 65 - at'.len ≤ n → Below w1.heap.size w1 w → B ≤ w.heap.size → w.cell? ⟨bt, 0, none⟩ = some (.map (some r)) →
      w.cell? ⟨bm, 0, none⟩ = some (.func (.func 39) #[] #[.pointer (some ⟨bt, 0, none⟩), .pointer (some ⟨bo, 0, none⟩), .pointer (some ⟨bm, 0, none⟩)]) → OutIs bo B w v l → (itemsOf t n at').length ≤ Y → l.length + (n + 1) * Y ≤ 100000000000 →
      Calls Try.prog 39 #[.agg #[.int .i64 at'.len, .int .u64 at'.bits], .pointer (some ⟨bt, 0, none⟩), .pointer (some ⟨bo, 0, none⟩), .pointer (some ⟨bm, 0, none⟩)] w (RetOut bo B w v (l ++ itemsOf t n at')) := by
  intro n
  induction n with
  | zero =>
    intro w at' v l hok hu hn
    have := ((ok_iff at').1 hok).2.1
    omega
  | succ n ih =>
    intro w at' v l hok hu hn hA hBw ct cm hO hY hlen
    have hT1 := hT
    obtain ⟨m, hM0, hP⟩ := hT1
    have hM := hM0.ext hA
    have hlk := fun (W' : World) (hE' : Ext w W') => run_lookup2 (hM.ext hE') 79 38 zeroRec typeTree zeroRec_c at'.len at'.bits
    have hvl := hO.own_lt
    obtain ⟨io, ic, rfl⟩ := hO.slice
    have hltt : bt < w.heap.size := by omega
    have hltm : bm < w.heap.size := by omega
    have hlto : bo < w.heap.size := by omega
    have co := hO.c
    have cf := hO.f
    have hmt := hP.get at'
    have hpart : itemsOf t (n + 1) at' = match tget at' t with | none => [] | some r => if isLeaf r then r.items else (kids at').flatMap (partOf t n r) := rfl
    refine (callsIn_wide (n := 3)).1 ?_
    refine callsIn_of_wp_marks Try.func39 rfl trivial ?_ rfl
    simp only [Try.ntmps39, List.size_toArray, List.length_cons, List.length_nil, Nat.reduceAdd, Nat.reduceSub, Array.replicate_succ, Array.replicate_zero, List.push_toArray, List.append_toArray, List.nil_append, List.cons_append]
    rcases hmt with ⟨hg1, hg2⟩ | ⟨rv, rc, hg1, hg2, iv, rfl, hiv⟩
    · simp only [hg1, Option.getD_none, Option.isSome_none] at hlk
      unfold zeroRec at hlk
      rw [hg2] at hpart
      rw [hpart]
      have hlk0 := hlk (w.alloc (.cells #[.int .i64 at'.len, .int .u64 at'.bits] 36)) ((Ext.refl w).alloc _)
      have HP := Lib.hid hP; clear hP hlk hg1 hg2 hpart
      gi_wp2
      refine ⟨_, results_none rfl _ _ _, ⟨_, rfl⟩, ?_⟩
      exact hO.out1.post (((Ext.refl w).alloc _).alloc _)
    · simp only [hg1, Option.getD_some, Option.isSome_some] at hlk
      rw [hg2] at hpart
      obtain ⟨jo, jc, rfl⟩ : ∃ jo jc, iv = .slice jo rc.items.length jc := by obtain ⟨jo, jc, e, -⟩ := hiv; exact ⟨jo, jc, e⟩
      have hlk0 := hlk (w.alloc (.cells #[.int .i64 at'.len, .int .u64 at'.bits] 36)) ((Ext.refl w).alloc _)
      clear hlk
      by_cases hlf : isLeaf rc = true
      · have hpart : itemsOf t (n + 1) at' = rc.items := by rw [hpart]; simp [hlf]
        rw [hpart] at hY ⊢
        have hst := fun (v1 : Value) (W' : World) (h1 : ItemsOwn W' B v1 (l ++ rc.items)) => OutIs.stored (hO.ext (((Ext.refl w).alloc (.cells #[.int .i64 at'.len, .int .u64 at'.bits] 36)).alloc (.cells #[.int .i64 rc.kind, .slice jo rc.items.length jc, .int .i64 rc.next.len, .int .u64 rc.next.bits, .int .u64 rc.mark] 38))) hboB h1
        have haf := fun (W' : World) => OutIs.after (w1 := W') (hO.ext (((Ext.refl w).alloc (.cells #[.int .i64 at'.len, .int .u64 at'.bits] 36)).alloc (.cells #[.int .i64 rc.kind, .slice jo rc.items.length jc, .int .i64 rc.next.len, .int .u64 rc.next.bits, .int .u64 rc.mark] 38))) hboB
        have e15 : ((rc.kind == 1) = true ∨ ((rc.kind == 1) = false ∧ (rc.kind == 5) = true)) := by
          unfold isLeaf at hlf
          by_cases hk1 : rc.kind = 1
          · simp [hk1]
          · right; simp [hk1] at hlf ⊢; exact hlf
        have HP := Lib.hid hP; have HG := Lib.hid hg1; have HG2 := Lib.hid hg2; have HPA := Lib.hid hpart; clear hP hg1 hg2 hpart hlf
        rcases e15 with e1 | ⟨e1, e5⟩
        all_goals
          gi_wp2_with (gi_at_builtin; refine wpIn_append_items B _ l rfl (hO.own.ext (((Ext.refl w).alloc _).alloc _)) _ rc.items rfl ((hiv.ext hA).ext (((Ext.refl w).alloc _).alloc _)) (by have := Nat.le_mul_of_pos_left Y (show 0 < n + 1 + 1 by omega); omega) (by simp; omega) ?_; intro v' w2 hown2 hgr2 hn2; obtain ⟨po, pc, rfl⟩ := hown2.slice; have hst2 := hst _ w2 hown2 hgr2 hn2; rw [List.length_append] at hst2; have HST := Lib.hid hst2; clear hst2; obtain ⟨cc2, cf2⟩ := haf w2 hgr2; clear hst haf)
          refine ⟨_, results_none rfl _ _ _, ⟨_, rfl⟩, ?_⟩
          exact HST.out.pre (((Ext.refl w).alloc _).alloc _)
      · have hlf : isLeaf rc = false := by simpa using hlf
        have hpart : itemsOf t (n + 1) at' = (kids at').flatMap (partOf t n rc) := by rw [hpart]; simp [hlf]
        rw [hpart] at hY ⊢
        have e1 : (rc.kind == 1) = false := by unfold isLeaf at hlf; simp at hlf ⊢; exact hlf.1
        have e5 : (rc.kind == 5) = false := by unfold isLeaf at hlf; simp at hlf ⊢; exact hlf.2
        obtain ⟨W3, hW3⟩ : ∃ W3 : World, W3 = ((w.alloc (.cells #[.int .i64 at'.len, .int .u64 at'.bits] 36)).alloc (.cells #[.int .i64 rc.kind, .slice jo rc.items.length jc, .int .i64 rc.next.len, .int .u64 rc.next.bits, .int .u64 rc.mark] 38)).alloc (.cells #[.int .i64 at'.len, .int .u64 at'.bits] 36) := ⟨_, rfl⟩
        have hE3 : Ext w W3 := by rw [hW3]; exact (((Ext.refl w).alloc _).alloc _).alloc _
        have hz3 : W3.heap.size = w.heap.size + 1 + 1 + 1 := by rw [hW3]; simp
        have q0 : W3.cell? ⟨w.heap.size + 1, 0, none⟩ = some (.int .i64 rc.kind) := by rw [hW3]; go_simp
        have q1 : W3.cell? ⟨w.heap.size + 1, 1, none⟩ = some (.slice jo rc.items.length jc) := by rw [hW3]; go_simp
        have k0 : W3.cell? ⟨w.heap.size + 1 + 1, 0, none⟩ = some (.int .i64 at'.len) := by rw [hW3]; go_simp
        have k1 : W3.cell? ⟨w.heap.size + 1 + 1, 1, none⟩ = some (.int .u64 at'.bits) := by rw [hW3]; go_simp
        have HW := Lib.hid hW3.symm; clear hW3
        have HP := Lib.hid hP; have HG := Lib.hid hg1; have HG2 := Lib.hid hg2; have HPA := Lib.hid hpart; have HM := Lib.hid hM; have HU := Lib.hid (hU at' rc hg2); clear hP hg1 hg2 hpart hlf hM
        have HQ := Lib.hid (And.intro q0 (And.intro q1 (And.intro k0 k1))); clear q0 q1 k0 k1
        have HZ := Lib.hid hz3; clear hz3
        gi_wp2_with (refine ⟨trivial, ?_⟩; gi_at_call 40; refine (callsIn_wide.2 (children_c at' _)).mono ?_; rintro e w' ⟨rfl, rfl⟩)
        rw [HW.out]
        obtain ⟨q0, q1, k0, k1⟩ := HQ.out
        have hz3 := HZ.out
        refine wpIn_range_kids at' hu hok (w.heap.size + 1 + 1) rfl k0 k1 (by simp) (by simp) (by decide) (fun pre W => Out1 bo B W3 (.slice io l.length ic) (l ++ pre.flatMap (partOf t n rc)) W) (fun _ _ _ => False) ?hI ?hIx ?h0 ?hIe ?hIw ?body ?done ?stop
        case hI => exact fun s W W' row h hg hr => h.kept hg hr
        case hIx => exact fun _ _ _ _ _ h _ _ => h
        case h0 => simpa using (hO.ext hE3).out1
        case hIe => exact fun pre W W' h he => h.post he
        case hIw => exact fun pre W h => h.size
        case stop =>
          rintro D c pre W hD hpre h hK
          exact h.elim
        case done =>
          rintro D W hD hi hK
          gi_wp2
          refine ⟨by simp, .inl ⟨_, _, rfl, run_takeDeferred hK, ?_⟩⟩
          refine ⟨_, results_none rfl _ _ _, ⟨_, rfl⟩, ?_⟩
          refine Out1.pre hE3 (hi.kept (grownBy_putObj' W D (.deferred none)) ?_)
          rintro r e
          cases e
          exact ⟨hD, _, hK, rfl⟩
        case body =>
          rintro l2 pre x Bx W hBx x0 hi h64 hx hpre hall
          simp only [kidFrame, List.setIfInBounds_toArray, List.set_cons_zero, List.set_cons_succ]
          obtain ⟨v', hO', hG', hN'⟩ := hi
          obtain ⟨io2, ic2, rfl⟩ := hO'.slice
          have hne : ∀ k, w.heap.size ≤ k → k < W3.heap.size → (Value.slice io l.length ic).ownBlock ≠ some k := fun k h1 _ e => by have := (hvl k e).2; omega
          have hne' : ∀ k, k < W3.heap.size → k ≠ bo → (Value.slice io l.length ic).ownBlock ≠ some k → (Value.slice io2 (l ++ pre.flatMap (partOf t n rc)).length ic2).ownBlock ≠ some k := by
            intro k h1 h2 h3 e
            rcases hN' with h | h
            · rw [h] at e; exact h3 e
            · have := h k e; omega
          have hvt : (Value.slice io l.length ic).ownBlock ≠ some bt := fun e => by have := (hvl _ e).1; omega
          have hvm : (Value.slice io l.length ic).ownBlock ≠ some bm := fun e => by have := (hvl _ e).1; omega
          have y0 := hG'.same q0 (by omega) (hne _ (by omega) (by omega))
          have y1 := hG'.same q1 (by omega) (hne _ (by omega) (by omega))
          have ct' := hG'.same (hE3.cell ct) hbt hvt
          have cm' := hG'.same (hE3.cell cm) hbm hvm
          have hBel : Below w1.heap.size w1 W := (Below.trans hA (Below.mono hE3 (Below.size hA))).trans (hG'.below hAo (fun k e => by have := (hvl k e).1; omega) (by have := Below.size hA; have := hE3.size; omega))
          obtain ⟨m', hM', hP'⟩ := hT.ext hBel
          have hxok : x.ok = true := by rcases hx with rfl | rfl <;> exact child_ok _ _ hok h64
          have hxu : x.u := by rcases hx with rfl | rfl <;> exact child_u _ _ hok hu h64
          have hxl : x.len = at'.len + 1 := by rcases hx with rfl | rfl <;> rfl
          have hxk : x ∈ kids at' := by unfold kids; rw [if_pos h64]; rcases hx with rfl | rfl <;> simp
          have hpx := Nat.le_trans (flat_le (partOf t n rc) x (kids at') hxk) hY
          have hpp := Nat.le_trans (pre_le (partOf t n rc) at' h64 pre hpre hall) hY
          have hnext : ∀ w', Out1 bo B W (.slice io2 (l ++ pre.flatMap (partOf t n rc)).length ic2) ((l ++ pre.flatMap (partOf t n rc)) ++ partOf t n rc x) w' → KeepsFrom W3.heap.size W w' ∧ KeepAt (w.heap.size + 1 + 1) W w' ∧ Out1 bo B W3 (.slice io l.length ic) (l ++ (pre ++ [x]).flatMap (partOf t n rc)) w' := by
            intro w' h
            refine ⟨?_, ?_, ?_⟩
            · obtain ⟨v2, k1, k2, k3⟩ := h
              exact (k2.keeps hO').from _
            · obtain ⟨v2, k1, k2, k3⟩ := h
              exact k2.block _ (by have := hG'.size; omega) (by omega) (hne' _ (by omega) (by omega) (hne _ (by omega) (by omega)))
            · rw [List.flatMap_append, flat_one, ← List.append_assoc]
              exact h.trans hG' hN'
          have hO1 := hne' (w.heap.size + 1) (by omega) (by omega) (hne _ (by omega) (by omega))
          obtain ⟨l', hl'⟩ : ∃ l', l' = l ++ pre.flatMap (partOf t n rc) := ⟨_, rfl⟩
          have hl'l : l'.length ≤ l.length + Y := by rw [hl', List.length_append]; omega
          have hx0 : W.cell? ⟨Bx, 0, none⟩ = some (.int .i64 x.len) := by simp [World.cell?, x0]
          have hx1 : W.cell? ⟨Bx, 1, none⟩ = some (.int .u64 x.bits) := by simp [World.cell?, x0]
          have hBxlt : Bx < W.heap.size := World.block_lt_of_cell? _ _ hx0
          have hlk2 := run_lookup2 hM' 79 38 zeroRec typeTree zeroRec_c x.len x.bits
          rw [← hl'] at hO' hnext hO1
          have hgen : ∃ (k2 : Int) (a2 : Option Addr) (b2 c2 : Nat) (n2 bb2 m2 : Int) (f2 : Bool), (Instr.lookup 79 (.map (some r)) (.agg #[.int .i64 x.len, .int .u64 x.bits]) true).run Try.prog W = .ok (.tuple #[.agg #[.int .i64 k2, .slice a2 b2 c2, .int .i64 n2, .int .u64 bb2, .int .u64 m2], .bool f2]) W ∧ stepsOn t rc x = (decide (rc.kind = 3) && (!f2 || decide (k2 = 5))) := by
            rcases hP'.get x with ⟨hg1, hg2⟩ | ⟨rv2, rc2, hg1, hg2, iv2, rfl, hiv2⟩
            · simp only [hg1, Option.getD_none, Option.isSome_none] at hlk2
              exact ⟨0, none, 0, 0, 0, 0, 0, false, hlk2, by simp [stepsOn, hg2]⟩
            · simp only [hg1, Option.getD_some, Option.isSome_some] at hlk2
              obtain ⟨a2, c2, rfl⟩ : ∃ a2 c2, iv2 = .slice a2 rc2.items.length c2 := by obtain ⟨a2, c2, e, -⟩ := hiv2; exact ⟨a2, c2, e⟩
              exact ⟨rc2.kind, a2, rc2.items.length, c2, rc2.next.len, rc2.next.bits, rc2.mark, true, hlk2, by simp [stepsOn, hg2]⟩
          clear hlk2
          obtain ⟨k2, a2, b2, c2, n2, bb2, m2, f2, hlk2, hst⟩ := hgen
          have co' := hO'.c
          have cf' := hO'.f
          have hltW : w.heap.size + 1 < W.heap.size := World.block_lt_of_cell? _ _ y0
          have hltt' : bt < W.heap.size := by omega
          have hltm' : bm < W.heap.size := by omega
          have hlto' : bo < W.heap.size := by omega
          have hBW : B ≤ W.heap.size := by omega
          have HN := Lib.hid hnext; clear hnext
          have hEW := ((Ext.refl W).alloc (.cells #[.int .i64 k2, .slice a2 b2 c2, .int .i64 n2, .int .u64 bb2, .int .u64 m2] 38))
          have HM' := Lib.hid hM'; have HP' := Lib.hid hP'; clear hM' hP'
          have hzW := World.size_alloc W (.cells #[.int .i64 k2, .slice a2 b2 c2, .int .i64 n2, .int .u64 bb2, .int .u64 m2] 38)
          by_cases hso : stepsOn t rc x = true
          · have hpt : partOf t n rc x = coveredOf rc.items x := by unfold partOf; rw [hso]; rfl
            rw [hpt] at hpx
            have HPT := Lib.hid hpt
            have e3 : (rc.kind == 3) = true ∧ (f2 = false ∨ (f2 = true ∧ (k2 == 5) = true)) := by
              rw [hst] at hso
              simp at hso
              refine ⟨by simp [hso.1], ?_⟩
              rcases hso.2 with h | h
              · exact .inl h
              · rcases f2 with _ | _
                · exact .inl rfl
                · exact .inr ⟨rfl, by simp [h]⟩
            obtain ⟨e3, e35⟩ := e3
            clear hpt hso hst hxl hx ih
            obtain ⟨W2, hW2⟩ : ∃ W2, W2 = W.alloc (.cells #[.int .i64 k2, .slice a2 b2 c2, .int .i64 n2, .int .u64 bb2, .int .u64 m2] 38) := ⟨_, rfl⟩
            rw [← hW2] at hEW
            have HW2 := Lib.hid hW2.symm; clear hW2
            have hO2 := hO'.ext hEW
            have hS0 : ∀ W', Ext W2 W' → W'.cell? ⟨w.heap.size + 1, 1, none⟩ = some (.slice jo rc.items.length jc) ∧ W'.cell? ⟨Bx, 0, none⟩ = some (.int .i64 x.len) ∧ W'.cell? ⟨Bx, 1, none⟩ = some (.int .u64 x.bits) := fun W' h => ⟨h.cell (hEW.cell y1), h.cell (hEW.cell hx0), h.cell (hEW.cell hx1)⟩
            have HS0 := Lib.hid hS0; clear hS0
            have HL := Lib.hid hl'; clear hl'
            have hn1 : (Value.slice io2 l'.length ic2).ownBlock ≠ some (w.heap.size + 1) := hO1
            have hn2 : (Value.slice io2 l'.length ic2).ownBlock ≠ some Bx := hO'.ne x0
            have hdr : W2.drew.cell? ⟨bo, 0, none⟩ = some (.slice io2 l'.length ic2) := hO2.c
            have hit2 := (hiv.ext hBel).ext hEW
            have hlp : l'.length + (coveredOf rc.items x).length ≤ 100000000000 := by rw [show (n + 1 + 1) * Y = (n + 1) * Y + Y by rw [Nat.add_mul (n + 1)]; omega, show (n + 1) * Y = n * Y + Y by rw [Nat.add_mul]; omega] at hlen; omega
            obtain ⟨hU1, hU2⟩ := HU.out
            have hle2 : B ≤ W2.heap.size := Nat.le_trans hBW hEW.size
            rcases e35 with rfl | ⟨rfl, e25⟩
            all_goals
              gi_wp2_with fail
              rw [HW2.out]
              refine wpIn_region_held l2 1 (by kernel_rfl) (by kernel_rfl) ?hno (S := fun w' => w'.cell? ⟨w.heap.size + 1, 1, none⟩ = some (.slice jo rc.items.length jc) ∧ w'.cell? ⟨Bx, 0, none⟩ = some (.int .i64 x.len) ∧ w'.cell? ⟨Bx, 1, none⟩ = some (.int .u64 x.bits)) (HS0.out _ ((Ext.refl _).drew)) (fun hHeld => ?_)
              case hno =>
                rintro ⟨a0, w0, h0⟩
                simp only [Exit.then, Exit.inBlock] at h0
                exact h0
              refine wpAnyH_take (i := 1) (v := ?_) rfl (by kernel_rfl) (by kernel_rfl) (by kernel_rfl) (fun _ _ _ h => h) (Or.inl ⟨by rfl, ?_⟩) (by assumption) ?_
              rotate_left
              · intro w' hSw; (try dsimp only at hSw); go_simp; with_reducible rfl
              try simp only [Act.put, List.setIfInBounds_toArray, List.set_cons_zero, List.set_cons_succ]
              refine wpAnyH_take (i := 2) (v := ?_) rfl (by kernel_rfl) (by kernel_rfl) (by kernel_rfl) (fun _ _ _ h => h) (Or.inl ⟨by rfl, ?_⟩) (by assumption) ?_
              rotate_left
              · intro w' hSw; (try dsimp only at hSw); go_simp; with_reducible rfl
              try simp only [Act.put, List.setIfInBounds_toArray, List.set_cons_zero, List.set_cons_succ]
              refine wpAnyH_take (i := 3) (v := ?_) rfl (by kernel_rfl) (by kernel_rfl) (by kernel_rfl) (fun _ _ _ h => h) (Or.inl ⟨by rfl, ?_⟩) (by assumption) ?_
              rotate_left
              · intro w' hSw; (try dsimp only at hSw); go_simp; with_reducible rfl
              try simp only [Act.put, List.setIfInBounds_toArray, List.set_cons_zero, List.set_cons_succ]
              refine wpAnyH_ready (rs := [0, 4]) (by kernel_rfl) (by simp) ?_
              refine AllReadyH.cons rfl (fun K hK => ?_) (AllReadyH.cons rfl (fun K hK => ?_) AllReadyH.nil)
              · go_simp
                refine hK.out _ _ hHeld (fun _ => ?_); clear hK K
                try simp only [Act.put, List.setIfInBounds_toArray, List.set_cons_zero, List.set_cons_succ]
                refine wpAnyH_ready (rs := [4]) (by kernel_rfl) (by simp) ?_
                refine AllReadyH.cons rfl (fun K hK => ?_) AllReadyH.nil
                go_simp
                go_wp2_with (go_at_call 41; refine (covered_c W2.drew (.slice jo rc.items.length jc) rc.items x (hit2.ext (Ext.refl _).drew) hU1 hxu hU2).mono ?_; rintro e w5 ⟨v5, rfl, hown5, hb5⟩)
                have hE5 : Ext W2 w5 := Ext.trans ((Ext.refl _).drew) hb5
                refine hK.out _ _ (HS0.out _ hE5) (fun hHeld2 => ?_); clear hK K
                try simp only [Act.put, List.setIfInBounds_toArray, List.set_cons_zero, List.set_cons_succ]
                refine wpAnyH_ready (rs := [5]) (by kernel_rfl) (by simp) ?_
                refine AllReadyH.cons rfl (fun K hK => ?_) AllReadyH.nil
                refine step_append_items rfl (.tmp 51) (.tmp 55) rfl B _ l' rfl (hO2.ext hE5).own v5 (coveredOf rc.items x) rfl hown5.items hlp (Nat.le_trans hle2 hE5.size) ?_
                intro v6 w6 hown6 hgr6 hn6
                have hS6 : ∀ b o u, w5.cell? ⟨b, o, none⟩ = some u → (Value.slice io2 l'.length ic2).ownBlock ≠ some b → w6.cell? ⟨b, o, none⟩ = some u := fun b o u hc hne => by
                  rw [World.cell?_of_block (show w6.heap[(⟨b, o, none⟩ : Addr).block]? = w5.heap[(⟨b, o, none⟩ : Addr).block]? from hgr6.block b (World.block_lt_of_cell? _ _ hc) (fun e => hne e.symm))]; exact hc
                refine hK.out _ _ ⟨hS6 _ _ _ hHeld2.1 hn1, hS6 _ _ _ hHeld2.2.1 hn2, hS6 _ _ _ hHeld2.2.2 hn2⟩ (fun hHeld3 => ?_); clear hK K
                have hst6 := OutIs.stored (hO2.ext hE5) hboB hown6 hgr6 hn6
                obtain ⟨cc6, cf6⟩ := OutIs.after (hO2.ext hE5) hboB hgr6
                obtain ⟨po, pc, rfl⟩ := hown6.slice
                rw [List.length_append] at hst6
                have HST := Lib.hid hst6; clear hst6 hown6
                try simp only [Act.put, List.setIfInBounds_toArray, List.set_cons_zero, List.set_cons_succ]
                refine wpAnyH_ready (rs := [6]) (by kernel_rfl) (by simp) ?_
                refine AllReadyH.cons rfl (fun K hK => ?_) AllReadyH.nil
                go_simp
                refine hK.out _ _ ⟨(World.cell?_setCell_far _ _ _ _ (by simp; omega)).trans hHeld3.1, (World.cell?_setCell_far _ _ _ _ (by simp; omega)).trans hHeld3.2.1, (World.cell?_setCell_far _ _ _ _ (by simp; omega)).trans hHeld3.2.2⟩ (fun _ => ?_); clear hK K
                refine wpAnyH_done (by kernel_rfl) ?_ _
                gi_wp2
                rw [HPT.out] at HN
                exact HN.out _ (Out1.pre (hEW.trans hE5) HST.out)
              · go_simp
                go_wp2_with (go_at_call 41; refine (covered_c W2.drew (.slice jo rc.items.length jc) rc.items x (hit2.ext (Ext.refl _).drew) hU1 hxu hU2).mono ?_; rintro e w5 ⟨v5, rfl, hown5, hb5⟩)
                have hE5 : Ext W2 w5 := Ext.trans ((Ext.refl _).drew) hb5
                refine hK.out _ _ (HS0.out _ hE5) (fun hHeld2 => ?_); clear hK K
                try simp only [Act.put, List.setIfInBounds_toArray, List.set_cons_zero, List.set_cons_succ]
                refine wpAnyH_ready (rs := [0]) (by kernel_rfl) (by simp) ?_
                refine AllReadyH.cons rfl (fun K hK => ?_) AllReadyH.nil
                have co5 := (hO2.ext hE5).c
                go_simp
                refine hK.out _ _ hHeld2 (fun _ => ?_); clear hK K
                try simp only [Act.put, List.setIfInBounds_toArray, List.set_cons_zero, List.set_cons_succ]
                refine wpAnyH_ready (rs := [5]) (by kernel_rfl) (by simp) ?_
                refine AllReadyH.cons rfl (fun K hK => ?_) AllReadyH.nil
                refine step_append_items rfl (.tmp 51) (.tmp 55) rfl B _ l' rfl (hO2.ext hE5).own v5 (coveredOf rc.items x) rfl hown5.items hlp (Nat.le_trans hle2 hE5.size) ?_
                intro v6 w6 hown6 hgr6 hn6
                have hS6 : ∀ b o u, w5.cell? ⟨b, o, none⟩ = some u → (Value.slice io2 l'.length ic2).ownBlock ≠ some b → w6.cell? ⟨b, o, none⟩ = some u := fun b o u hc hne => by
                  rw [World.cell?_of_block (show w6.heap[(⟨b, o, none⟩ : Addr).block]? = w5.heap[(⟨b, o, none⟩ : Addr).block]? from hgr6.block b (World.block_lt_of_cell? _ _ hc) (fun e => hne e.symm))]; exact hc
                refine hK.out _ _ ⟨hS6 _ _ _ hHeld2.1 hn1, hS6 _ _ _ hHeld2.2.1 hn2, hS6 _ _ _ hHeld2.2.2 hn2⟩ (fun hHeld3 => ?_); clear hK K
                have hst6 := OutIs.stored (hO2.ext hE5) hboB hown6 hgr6 hn6
                obtain ⟨cc6, cf6⟩ := OutIs.after (hO2.ext hE5) hboB hgr6
                obtain ⟨po, pc, rfl⟩ := hown6.slice
                rw [List.length_append] at hst6
                have HST := Lib.hid hst6; clear hst6 hown6
                try simp only [Act.put, List.setIfInBounds_toArray, List.set_cons_zero, List.set_cons_succ]
                refine wpAnyH_ready (rs := [6]) (by kernel_rfl) (by simp) ?_
                refine AllReadyH.cons rfl (fun K hK => ?_) AllReadyH.nil
                go_simp
                refine hK.out _ _ ⟨(World.cell?_setCell_far _ _ _ _ (by simp; omega)).trans hHeld3.1, (World.cell?_setCell_far _ _ _ _ (by simp; omega)).trans hHeld3.2.1, (World.cell?_setCell_far _ _ _ _ (by simp; omega)).trans hHeld3.2.2⟩ (fun _ => ?_); clear hK K
                refine wpAnyH_done (by kernel_rfl) ?_ _
                gi_wp2
                rw [HPT.out] at HN
                exact HN.out _ (Out1.pre (hEW.trans hE5) HST.out)
          · have hso : stepsOn t rc x = false := by simpa using hso
            have hpt : partOf t n rc x = itemsOf t n x := by unfold partOf; rw [hso]; rfl
            rw [hpt] at hpx
            have HPT := Lib.hid hpt
            have e3 : (rc.kind == 3) = false ∨ ((rc.kind == 3) = true ∧ f2 = true ∧ (k2 == 5) = false) := by
              rw [hst] at hso
              by_cases h3 : rc.kind = 3
              · right; simp [h3] at hso ⊢; exact hso
              · left; simp [h3]
            have hih := ih (W.alloc (.cells #[.int .i64 k2, .slice a2 b2 c2, .int .i64 n2, .int .u64 bb2, .int .u64 m2] 38)) x _ l' hxok hxu (by omega) (hBel.trans (Below.mono hEW (Below.size hBel))) (by omega) (hEW.cell ct') (hEW.cell cm') (hO'.ext hEW) hpx (by rw [show (n + 1 + 1) * Y = (n + 1) * Y + Y by rw [Nat.add_mul (n + 1)]; omega] at hlen; omega)
            clear hpt hso hst hxl hx
            rcases e3 with e3 | ⟨e3, rfl, e25⟩
            · gi_wp2_with (refine ⟨trivial, ?_⟩; gi_at_call 39; refine (CallsIn.inRound l2 (callsIn_wide.2 hih)).mono ?_; clear hih; rintro e w5 ⟨⟨u, rfl⟩, hout⟩)
              rw [HPT.out] at HN; exact HN.out _ (Out1.pre hEW hout)
            · gi_wp2_with (refine ⟨trivial, ?_⟩; gi_at_call 39; refine (CallsIn.inRound l2 (callsIn_wide.2 hih)).mono ?_; clear hih; rintro e w5 ⟨⟨u, rfl⟩, hout⟩)
              rw [HPT.out] at HN; exact HN.out _ (Out1.pre hEW hout)
end Go.Proofs.Ythgnkbkfkcdhfaa
