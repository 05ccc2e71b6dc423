/- trie.Build, of right items. -/
import Derived.Test.YthgnkbkfkcdhfaaBuild
namespace Go.Proofs.Ythgnkbkfkcdhfaa
open Go.RowKit
set_option maxHeartbeats 1000000
set_option linter.unusedSimpArgs false

theorem tput_len {β : Type} (k : Lbl) (v : β) : ∀ t : List (Lbl × β), (tput k v t).length ≤ t.length + 1
  | [] => by simp [tput]
  | (k', u) :: t => by
    simp only [tput]
    split
    · simp
    · have := tput_len k v t; simp; omega
theorem growT_len (b : Int) : ∀ (n : Nat) (l : List Item) (a : Lbl) (t : List (Lbl × Rec)), t.length ≤ 2000 → (growT b n l a t).1.length ≤ 2000 := by
  intro n
  induction n with
  | zero => intro l a t h; exact h
  | succ n ih =>
    intro l a t h
    simp only [growT]
    split
    · exact h
    · split
      · have := tput_len a (⟨1, l, ⟨0, 0⟩, 0⟩ : Rec) t; simp only; omega
      · have h1 := tput_len a (⟨2, [], noneLbl, 0⟩ : Rec) t
        have h2 := ih (coveredOf l (childOf a 0)) (childOf a 0) (tput a ⟨2, [], noneLbl, 0⟩ t) (by omega)
        generalize growT b n (coveredOf l (childOf a 0)) (childOf a 0) _ = g at h2 ⊢
        obtain ⟨t1, k⟩ := g
        cases k
        · exact h2
        · exact ih _ _ _ h2
theorem filter_lt {β : Type} {t : List (Lbl × β)} {p : Lbl × β} (h : p ∈ t) : (t.filter fun q => decide (q.1 ≠ p.1)).length < t.length := by
  have h1 := List.length_filter_le (fun q : Lbl × β => decide (q.1 ≠ p.1)) t
  rcases Nat.lt_or_ge (t.filter fun q => decide (q.1 ≠ p.1)).length t.length with k | k
  · exact k
  · have := List.length_filter_eq_length_iff.1 (Nat.le_antisymm h1 k) p h
    simp at this
/-- the rows that have come so far -/
def GatherRel (w6 : World) (rb rr : Nat) (m : List (Lbl × Value)) (t : List (Lbl × Rec)) (out : Value) (wr : World) : Prop :=
  ∃ left lt L Lr, Ranging wr rb rr m left ∧ Pairs (RecV w6) left lt ∧ VecOwn encRow 40 wr w6.heap.size out L ∧ All2 (RowOf w6) L Lr ∧ (Lr.map rowP ++ lt).Perm t ∧ (∀ x ∈ Lr, x.ver = 1) ∧ ExtM rr w6 wr
/-- the row at which a round is -/
def fixNext (lv : List Lbl) (x : RRow) : RRow := if x.kind = 1 then { x with nxt := nextIn lv x.lbl } else x
def fixRow (lv : List Lbl) (x : Row) : Row := if x.rc.kind = 1 then { x with rc := { x.rc with next := nextIn lv x.lbl } } else x
theorem fix_of {w : World} {lv : List Lbl} {x : RRow} {r : Row} (h : RowOf w x r) : RowOf w (fixNext lv x) (fixRow lv r) := by
  unfold fixNext fixRow
  by_cases hk : r.rc.kind = 1
  · rw [if_pos (h.kind.trans hk), if_pos hk]
    exact ⟨h.lbl, h.ver, h.kind, by show nextIn lv x.lbl = nextIn lv r.lbl; rw [h.lbl], h.mark, h.it⟩
  · rw [if_neg (fun e => hk (h.kind.symm.trans e)), if_neg hk]
    exact h
theorem fix_raw (s : List Node) : (rawRows s).map (fixRow (leafLbls s)) = finalRows s := by
  unfold rawRows finalRows
  rw [List.map_map]
  apply List.map_congr_left
  intro x _
  simp only [Function.comp, fixRow, finalRow, nodeRec]
  by_cases hl : x.leaf = true
  · simp [hl]
  · simp [hl]
theorem All2.map {α β : Type} {R S : α → β → Prop} {f : α → α} {g : β → β} (h : ∀ a b, R a b → S (f a) (g b)) {l m} : All2 R l m → All2 S (l.map f) (m.map g)
  | .nil => .nil
  | .cons a b => .cons (h _ _ a) (b.map h)
def doneTo (lv : List Lbl) (L : List RRow) (k : Nat) : List RRow := (L.take k).map (fixNext lv) ++ L.drop k
theorem doneTo_length (lv : List Lbl) (L : List RRow) (k : Nat) : (doneTo lv L k).length = L.length := by simp [doneTo]; omega
theorem doneTo_get (lv : List Lbl) (L : List RRow) (k : Nat) (h : k < L.length) : (doneTo lv L k).getD k default = L.getD k default := by
  unfold doneTo
  rw [getD_lt h, List.getD_eq_getElem?_getD, List.getElem?_append_right (by simp; omega)]
  simp [Nat.min_eq_left (Nat.le_of_lt h), h]
theorem doneTo_succ (lv : List Lbl) (L : List RRow) (k : Nat) (h : k < L.length) : (doneTo lv L k).set k (fixNext lv (L.getD k default)) = doneTo lv L (k + 1) := by
  unfold doneTo
  rw [List.set_append, if_neg (by simp; omega), List.take_succ_eq_append_getElem h, getD_lt h, List.map_append, List.append_assoc]
  congr 1
  have : k - (List.map (fixNext lv) (List.take k L)).length = 0 := by simp; omega
  rw [this, List.drop_eq_getElem_cons h]
  rfl
theorem doneTo_skip (lv : List Lbl) (L : List RRow) (k : Nat) (h : k < L.length) (hk : (L.getD k default).kind ≠ 1) : doneTo lv L k = doneTo lv L (k + 1) := by
  rw [← doneTo_succ lv L k h]
  have e : fixNext lv (L.getD k default) = (doneTo lv L k)[k]'(by rw [doneTo_length]; exact h) := by
    rw [← getD_lt (show k < (doneTo lv L k).length by rw [doneTo_length]; exact h), doneTo_get lv L k h]
    unfold fixNext
    rw [if_neg hk]
  rw [e, List.set_getElem_self]
theorem doneTo_all (lv : List Lbl) (L : List RRow) (k : Nat) (h : L.length ≤ k) : doneTo lv L k = L.map (fixNext lv) := by
  unfold doneTo
  rw [List.take_of_length_le h, List.drop_of_length_le h, List.append_nil]
theorem next_val {m : List (Lbl × Value)} {lv : List Lbl} (h : Pairs LblV m (nextsTo lv lv.length)) (a : Lbl) : (mget a m).getD (.agg #[.int .i64 0, .int .u64 0]) = .agg #[.int .i64 (nextIn lv a).len, .int .u64 (nextIn lv a).bits] := by
  unfold nextIn
  rcases h.get a with ⟨h1, h2⟩ | ⟨v, r, h1, h2, h3⟩
  · rw [h1, h2]; rfl
  · rw [h1, h2]; exact h3
theorem heap_new2 (w : World) (x y z : Obj) : (((w.alloc x).alloc y).alloc z).heap[w.heap.size + 1 + 1]? = some z := by
  have := heap_alloc_new ((w.alloc x).alloc y) z
  simpa using this
theorem All2.sorted {w : World} {L : List RRow} {l : List Row} (h : All2 (RowOf w) L l) (hs : L.Pairwise fun a b => ltOf orderR b a = false) : l.Pairwise fun a b => ltOf orderI b.lbl a.lbl = false := by
  have e : L.map (·.lbl) = l.map (·.lbl) := by
    induction h with
    | nil => rfl
    | cons a b ih => simp only [List.map_cons, a.lbl]; rw [ih (List.pairwise_cons.1 hs).2]
  have h1 : (L.map (·.lbl)).Pairwise fun a b => ltOf orderI b a = false := by rw [List.pairwise_map]; exact hs
  rw [e, List.pairwise_map] at h1
  exact h1
theorem MapIs.setAt {w : World} {r : Nat} {m : List (Lbl × Value)} (h : MapIs w r m) {b : Nat} (hne : b ≠ r) (o : Nat) (v : Value) : MapIs (w.setCell ⟨b, o, none⟩ v) r m := by
  obtain ⟨es, c, hh, hr⟩ := h
  refine ⟨es, c, ?_, hr⟩
  show (w.heap.modify b _)[r]? = _
  rw [Array.getElem?_modify, if_neg hne]; exact hh
theorem getD_set_self {α : Type} [Inhabited α] {l : List α} {k : Nat} (h : k < l.length) (y : α) : (l.set k y).getD k default = y := by
  rw [getD_lt (by simpa using h)]; simp
theorem VecOwn.fix {T : TypeId} {w : World} {B g n c k : Nat} (lv : List Lbl) {L : List RRow} (h : VecOwn encRow T w B (.slice (some ⟨g, 0, none⟩) n c) (doneTo lv L k)) (hk : k < (doneTo lv L k).length) (hkl : k < L.length) {x : RRow} (hx : L.getD k default = x) (hk1 : x.kind = 1) :
    VecOwn encRow T ((w.setCell ⟨g, k * 8 + 5, none⟩ (.int .i64 (nextIn lv x.lbl).len)).setCell ⟨g, k * 8 + 6, none⟩ (.int .u64 (nextIn lv x.lbl).bits)) B (.slice (some ⟨g, 0, none⟩) n c) (doneTo lv L (k + 1)) := by
  have hg := doneTo_get lv L k hkl
  rw [hx] at hg
  have h1 := h.set k 5 hk (by decide) { x with nxt := ⟨(nextIn lv x.lbl).len, x.nxt.bits⟩ } (.int .i64 (nextIn lv x.lbl).len) (by rw [hg]; rfl)
  have h2 := h1.set k 6 (by simpa using hk) (by decide) (fixNext lv x) (.int .u64 (nextIn lv x.lbl).bits) (by rw [getD_set_self hk]; unfold fixNext; rw [if_pos hk1]; rfl)
  rw [List.set_set, ← hx, doneTo_succ lv L k hkl] at h2
  rw [hx] at h2
  exact h2
set_option maxRecDepth 100000 in
theorem build_ok (w : World) (v : Value) (l : List Item) (b : Int) (hv : ItemsAt w v l) (hl : l.length ≤ 100000) (hu : ∀ x ∈ l, u64 x.key) (hgood : ¬ badB l b) : Calls Try.prog 8 #[v, .int .i64 b] w (BuildRet l b w) := by
  obtain ⟨io, ic, rfl⟩ : ∃ io ic, v = .slice io l.length ic := by obtain ⟨io, ic, e, -⟩ := hv; exact ⟨io, ic, e⟩
  have hfit := Fit.of hgood hu
  have hg2 := hgood
  unfold badB at hg2
  simp only [not_or, Classical.not_not] at hg2
  obtain ⟨h1, h2, h3, h4, h5⟩ := hg2
  have h3' : l.any (fun x => decide (64 < x.val.size)) = false := by simpa using h3
  have h4' : decide (risesB l) = true := by simpa using h4
  have HG := Lib.hid hgood; have H3 := Lib.hid h3'; have H4 := Lib.hid h4'; have H5 := Lib.hid h5; have HF := Lib.hid hfit
  clear hgood h3 h3' h4 h4' h5 hfit
  have hmk := @run_makeMap Try.prog
  go_enter Try.func8, Try.ntmps8
  go_wp2_with fail
  refine (clone_c w _ l hv (by omega)).mono ?_
  rintro e w1 ⟨v1, rfl, hown1, hb1⟩
  go_wp2_with fail
  refine (compact_c w1 w.heap.size v1 l hb1.size hown1).mono ?_
  rintro e w2 ⟨a, n, c, rfl, hn, hiff, hb2⟩
  have hE2 : Ext w w2 := Below.trans hb1 hb2
  have hv2 := hv.ext hE2
  have hlt : decide (n < l.length) = false := by
    rw [decide_eq_false_iff_not]
    exact fun hh => H5.out (hiff.1 hh)
  have hq1 : decide (b < 1) = false := by simpa using h1
  have hq2 : decide (16 < b) = false := by simpa using h2
  clear hown1 hb1 hb2 hiff
  go_wp2_with fail
  refine (contains1_c w2 _ l hv2).mono ?_
  rintro e w3 ⟨rfl, hb3⟩
  rw [H3.out]
  go_wp2_with fail
  refine (sorted_c w3 _ l (hv2.ext hb3)).mono ?_
  rintro e w4 ⟨rfl, hb4⟩
  rw [H4.out]
  have hv4 := (hv2.ext hb3).ext hb4
  have hE4 : Ext w w4 := (hE2.trans hb3).trans hb4
  clear hv2 hE2 hb3 hb4 hlt
  by_cases h500 : 500 < l.length
  · have e500 : (500 : Int) < (l.length : Int) := by omega
    go_wp2
    go_ret2
    exact ⟨hE4, .inr (.inl ⟨HG.out, .inl h500, rfl⟩)⟩
  · have e500 : ¬ (500 : Int) < (l.length : Int) := by omega
    have hM0 : MapIs (w4.alloc (.map #[] 0)) w4.heap.size [] := MapIs.new w4
    have hgr := grow_c b w4.heap.size 65 (w4.alloc (.map #[] 0)) rootLbl _ l [] (by decide) ⟨by decide, by decide⟩ (by decide) ⟨[], hM0, .nil⟩ (hv4.ext ((Ext.refl w4).alloc _)) hl hu
    have HGR := Lib.hid hgr; clear hgr hM0
    go_wp2_with fail
    refine HGR.out.mono ?_
    rintro e w5 ⟨rfl, hT, hX5⟩
    have hE5 : Ext w w5 := hE4.trans (Below.trans ((Ext.refl w4).alloc _) (hX5.below (Nat.le_refl _) (by simp)))
    obtain ⟨g, hg⟩ : ∃ g, g = growT b 65 l rootLbl [] := ⟨_, rfl⟩
    have hlen : g.1.length ≤ 2000 := by rw [hg]; exact growT_len b 65 l rootLbl [] (by simp)
    rw [← hg] at hT ⊢
    have HGE := Lib.hid hg; clear hg
    obtain ⟨t, k⟩ := g
    cases k
    · go_wp2
      go_ret2
      exact ⟨hE5, .inr (.inl ⟨HG.out, .inr (by rw [← HGE.out]), rfl⟩)⟩
    · have hts : t = (shape b 65 l rootLbl).map nodeP := by
        have := growT_shape b 65 l rootLbl [] t (root_place HF.out) (by decide) (fun p hp => by cases hp) HGE.out.symm
        rw [List.nil_append] at this
        exact this
      obtain ⟨m, hM, hP⟩ := hT
      obtain ⟨w6, hrange, hrg, hE6, hz6⟩ := run_range_lbl hM 79 38 typeTree
      have HTS := Lib.hid hts; clear hts
      have hP6 : Pairs (RecV w6) m t := hP.imp fun _ _ h => h.ext hE6
      have HP6 := Lib.hid hP6; have HZ6 := Lib.hid hz6
      have HLEN := Lib.hid hlen
      clear hP hP6 hz6 hmk hlen
      go_wp2
      have hnd : (t.map (·.1)).Nodup := by
        rw [HTS.out, List.map_map]
        exact shape_nodup HF.out
      have HND := Lib.hid hnd; clear hnd
      have hmn : (m.map (·.1)).Nodup := hM.nodup
      have HMN := Lib.hid hmn; clear hmn hrange
      go_loopw [10] (GatherRel w6 w4.heap.size w5.heap.size m t) (fun _ wr => rangeLeft w4.heap.size w5.heap.size wr)
      case atStart => exact ⟨m, t, [], [], hrg, HP6.out, VecOwn.nil _ _ _ _, .nil, by simp, fun x hx => by (cases hx), ExtM.refl _ _⟩
      case round =>
        obtain ⟨left, lt, L, Lr, hr1, hr2, hr3, hr4, hr5, hr6, hr7⟩ := hrel
        have hLlen : L.length + lt.length ≤ 2000 := by
          have e1 := hr5.length_eq
          have e2 := hr4.length
          have e3 := HLEN.out
          simp at e1 e3
          omega
        have hb4 : w4.heap.size < w6.heap.size := by have := hM.lt; have := HZ6.out; omega
        have hb5 : w5.heap.size < w6.heap.size := by have := HZ6.out; omega
        rcases run_next_lbl hr1 0 with ⟨rfl, hrun⟩ | ⟨p, hp, w7, hrun, hr8, hX7, hz7, hen⟩
        · have hlt0 := hr2.nil_right
          subst hlt0
          rw [List.append_nil, HTS.out] at hr5
          obtain ⟨s, hs⟩ : ∃ s, s = shape b 65 l rootLbl := ⟨_, rfl⟩
          have hsl : s.length = L.length := by
            have e1 := hr5.length_eq
            have e2 := hr4.length
            rw [← hs] at e1
            simp at e1
            omega
          have hs1 : 0 < s.length := by
            obtain ⟨x, r, e, -⟩ := shape_head b 65 l rootLbl
            rw [hs, e]; simp
          have hsort := shape_sorted b 65 l rootLbl (root_place HF.out)
          rw [← hs] at hr5 hsort
          rcases hr3.slice with ⟨-, rfl⟩ | ⟨g, oc, rfl, hoc1, hoc2⟩
          · simp only [List.length_nil] at hsl; omega
          · have HSL := Lib.hid hsl; have HS := Lib.hid hs
            clear hsl hs
            have hLle : L.length ≤ 2000 := by simpa using hLlen
            go_wp2_with fail
            refine (sortRow_c wr w6.heap.size _ L hr3 (by omega) hr7.size).mono ?_
            rintro e w9 ⟨rfl, L', hpL, hsL, hown9, hB9, -⟩
            obtain ⟨Lr', hpr, ha'⟩ := All2.perm hpL.symm hr4
            have hLr : Lr' = rawRows s := rows_unique hsort ((hpr.symm.map rowP).trans hr5) (fun x hx => hr6 x (hpr.mem_iff.2 hx)) (ha'.sorted hsL)
            subst hLr
            have hX9 : ExtM w5.heap.size w6 w9 := hr7.below_trans hB9
            have hL'l : L'.length = L.length := hpL.length_eq
            obtain ⟨oi, hoi, hoc⟩ : ∃ oi : Obj, w6.heap[w5.heap.size]? = some oi ∧ oi.isCells = false := by
              obtain ⟨es, clock, since, seen, c0, -, -, -, -, -, hrr, -⟩ := hrg
              exact ⟨_, hrr, rfl⟩
            have ha9 := ha'.imp fun x r h => RowOf.cells (w' := w9) (fun a v hc => hX9.cellN hoi hoc hc) h
            have hrows := VecAt.rows hown9.at' ha9
            have hrl : (rawRows s).length ≤ 100000 := by have := ha'.length; omega
            have HL' := Lib.hid hL'l; clear hL'l
            have HA := Lib.hid ha'; have HOI := Lib.hid hoi; have HOC := Lib.hid hoc
            clear hr1 hr2 hr3 hr4 hr5 hr6 hr7 hpL hsL hpr hsort hrun ha9 ha' hoi hoc
            go_wp2_with fail
            refine (leaves_c w9 _ (rawRows s) hrows hrl).mono ?_
            rintro e w10 ⟨v10, lv, rfl, hplv, hso, hva, hE10⟩
            have hlv : lv = leafLbls s := by
              rw [leavesOf_raw] at hplv
              refine sorted_unique ?_ hplv hso
              rw [HS.out]
              exact leaf_sorted HF.out
            have hlvl : lv.length ≤ 1000000 := by
              rw [hplv.length_eq]
              have := leavesOf_le (rawRows s)
              omega
            have HLV := Lib.hid hlv; clear hlv hplv hso
            go_wp2_with fail
            refine (nexts_c w10 v10 lv hva hlvl).mono ?_
            rintro e w11 ⟨r2, m2, rfl, hr2lt, hM2, hP2, hE11⟩
            have hB11 : Below w6.heap.size w9 w11 := Below.mono (hE10.trans hE11) (Nat.le_trans (by have := hX9.size; omega) (Nat.le_refl _))
            have hown11 := (hown9.ext hE10).ext hE11
            have hgB := (hown9.lt g rfl).1
            have hg9 := (hown9.lt g rfl).2
            have hgr2 : g < r2 := by have := hE10.size; omega
            have HP2 := Lib.hid hP2
            clear hva hE10 hE11 hown9 hP2
            go_wp2
            obtain ⟨wo, rfl⟩ : ∃ wo : World, wo = wr := ⟨_, rfl⟩
            go_loopw [75] (fun i wr => ∃ k : Nat, k ≤ L.length ∧ i = .int .i64 k ∧ VecOwn encRow 40 wr w6.heap.size (.slice (some ⟨g, 0, none⟩) L.length oc) (doneTo lv L' k) ∧ MapIs wr r2 m2 ∧ Below w6.heap.size w9 wr) (fun i _ => L.length - (intOf i).toNat)
            case atStart => exact ⟨0, by omega, rfl, by simpa [doneTo] using hown11, hM2, hB11⟩
            case round =>
              obtain ⟨k, hk', rfl, hown, hMr, hBr⟩ := hrel
              by_cases hlt : k < L.length
              · have hkl : k < L'.length := by rw [HL'.out]; exact hlt
                have hkd : k < (doneTo lv L' k).length := by rw [doneTo_length]; exact hkl
                have hcell := fun j u hj (hu : (encRow.f (L'.getD k default))[j]? = some u) => hown.cell k j hkd hj u (by rw [doneTo_get lv L' k hkl]; exact hu)
                obtain ⟨x, hx⟩ : ∃ x, x = L'.getD k default := ⟨_, rfl⟩
                rw [← hx] at hcell
                have HX := Lib.hid hx; clear hx
                have q0 : wr.cell? ⟨g, k * 8, none⟩ = some (.int .i64 x.lbl.len) := (hcell 0 _ (by decide) rfl).1
                have q1 : wr.cell? ⟨g, k * 8 + 1, none⟩ = some (.int .u64 x.lbl.bits) := (hcell 1 _ (by decide) rfl).1
                have q2 : wr.cell? ⟨g, k * 8 + 2, none⟩ = some (.int .u64 x.ver) := (hcell 2 _ (by decide) rfl).1
                have q3 : wr.cell? ⟨g, k * 8 + 3, none⟩ = some (.int .i64 x.kind) := (hcell 3 _ (by decide) rfl).1
                have q4 : wr.cell? ⟨g, k * 8 + 4, none⟩ = some (.slice x.ao x.n x.c) := (hcell 4 _ (by decide) rfl).1
                have q5 : wr.cell? ⟨g, k * 8 + 5, none⟩ = some (.int .i64 x.nxt.len) := (hcell 5 _ (by decide) rfl).1
                have q6 : wr.cell? ⟨g, k * 8 + 6, none⟩ = some (.int .u64 x.nxt.bits) := (hcell 6 _ (by decide) rfl).1
                have q7 : wr.cell? ⟨g, k * 8 + 7, none⟩ = some (.int .u64 x.mark) := (hcell 7 _ (by decide) rfl).1
                have f5 : wr.frozen? ⟨g, k * 8 + 5, none⟩ = false := (hcell 5 _ (by decide) rfl).2
                have f6 : wr.frozen? ⟨g, k * 8 + 6, none⟩ = false := (hcell 6 _ (by decide) rfl).2
                clear hcell
                have hgx : g < wr.heap.size := (hown.lt g rfl).2
                by_cases hk1 : x.kind = 1
                · have e1 : (x.kind == 1) = true := by simp [hk1]
                  have HK := Lib.hid hk1; clear hk1
                  have hlk := run_lookup1 (hMr.ext ((Ext.refl wr).alloc (.cells #[.int .i64 x.lbl.len, .int .u64 x.lbl.bits, .int .u64 x.ver, .int .i64 x.kind, .slice x.ao x.n x.c, .int .i64 x.nxt.len, .int .u64 x.nxt.bits, .int .u64 x.mark] 40))) 84 36 (.agg #[.int .i64 0, .int .u64 0]) Try.underlying84 zeroLabel_c x.lbl.len x.lbl.bits
                  rw [next_val HP2.out] at hlk
                  have hset := VecOwn.fix lv hown hkd hkl (by rw [HX.out]) HK.out
                  have HSET := Lib.hid hset; clear hset
                  go_wp2
                  go_roundw
                  case rel =>
                    exact ⟨k + 1, by omega, by go_num, HSET.out.ext ((Ext.refl _).alloc _), ((hMr.setAt (by omega) _ _).setAt (by omega) _ _).ext ((Ext.refl _).alloc _), Below.alloc ((hBr.setCell hgB _).setCell hgB _) (by simp only [World.size_setCell]; omega) _⟩
                  case measure => simp [intOf]; omega
                · have e1 : (x.kind == 1) = false := by simp [hk1]
                  have HK := Lib.hid hk1; clear hk1
                  go_wp2
                  go_roundw
                  case rel => exact ⟨k + 1, by omega, by go_num, by rw [← doneTo_skip lv L' k hkl (by rw [← HX.out]; exact HK.out)]; exact hown.ext ((Ext.refl wr).alloc _), hMr.ext ((Ext.refl wr).alloc _), Below.alloc hBr (by omega) _⟩
                  case measure => simp [intOf]; omega
              · have hall := doneTo_all lv L' k (by rw [HL'.out]; omega)
                rw [hall] at hown
                have hXr := hX9.below_trans hBr
                have hfin := VecAt.rows hown.at' ((All2.map (g := fixRow lv) (f := fixNext lv) (fun a b h => fix_of h) HA.out).imp fun x r h => RowOf.cells (w' := wr) (fun a v hc => hXr.cellN HOI.out HOC.out hc) h)
                have hEr : Ext w wr := Below.trans (hE5.trans hE6) (hXr.below hE5.size (by have := hE5.size; have := hE6.size; omega))
                rw [HLV.out, fix_raw, HS.out] at hfin
                have HFIN := Lib.hid hfin; have HER := Lib.hid hEr
                clear hfin hEr hXr hall hown
                go_wp2
                go_ret2
                exact ⟨HER.out, .inr (.inr ⟨HG.out, by omega, by rw [← HGE.out], _, rfl, HFIN.out⟩)⟩
        · obtain ⟨rc, hrc, iv, hiv, hit⟩ := hr2.mem hp
          obtain ⟨jo, jc, rfl⟩ : ∃ jo jc, iv = .slice jo rc.items.length jc := by obtain ⟨jo, jc, e, -⟩ := hit; exact ⟨jo, jc, e⟩
          rw [hiv] at hrun hen
          have HIV := Lib.hid hiv; clear hiv
          have hown7 := hr3.extM hX7 (by omega)
          have hle7 : w6.heap.size ≤ w7.heap.size := by have := hr7.size; omega
          have HZ7 := Lib.hid hz7; clear hz7
          go_wp2_with (at_builtin; refine wp_append_row w6.heap.size _ L rfl (((hown7.ext ((Ext.refl w7).alloc _)).ext ((Ext.refl _).alloc _)).ext ((Ext.refl _).alloc _)) (w7.heap.size + 1 + 1) ⟨p.1, 1, rc.kind, jo, rc.items.length, jc, rc.next, rc.mark⟩ rfl (heap_new2 _ _ _ _) (by omega) (by simp only [World.size_alloc]; omega) ?_; intro v' w8 hown8 hB8 hg8)
          have hlto := hr3.lt
          have hR8 := (((hr8.ext ((Ext.refl w7).alloc _)).ext ((Ext.refl _).alloc _)).ext ((Ext.refl _).alloc _)).grown hg8 (fun e => by have := (hlto _ e).1; omega) (fun e => by have := (hlto _ e).1; omega)
          have hX8 := ((hr7.trans hX7).trans (Ext.m w5.heap.size ((((Ext.refl w7).alloc _).alloc _).alloc _))).below_trans hB8
          have HXX := Lib.hid (And.intro hR8 hX8)
          clear hR8 hX8 hlto hB8 hg8 hX7 hr8 hrun hen
          go_roundw
          case rel =>
            obtain ⟨hR8, hX8⟩ := HXX.out
            have hndt : (lt.map (·.1)).Nodup := by
              have h0 := (hr5.map (·.1)).nodup_iff.2 HND.out
              rw [List.map_append, List.nodup_append] at h0
              exact h0.2.1
            refine ⟨left.filter (fun q => decide (q.1 ≠ p.1)), lt.filter (fun q => decide (q.1 ≠ p.1)), _, Lr ++ [⟨p.1, 1, rc⟩], hR8, hr2.filter p.1, hown8, hr4.snoc ⟨rfl, rfl, rfl, rfl, rfl, hit⟩, ?_, ?_, hX8⟩
            · rw [List.map_append, List.append_assoc]
              exact ((perm_filter hndt hrc).append_left _).trans hr5
            · intro x hx
              rcases List.mem_append.1 hx with hx | hx
              · exact hr6 x hx
              · simp only [List.mem_singleton] at hx
                rw [hx]
          case measure =>
            obtain ⟨hR8, -⟩ := HXX.out
            rw [hR8.left_eq, hr1.left_eq]
            exact filter_lt hp
theorem build_c (w : World) (v : Value) (l : List Item) (b : Int) (hv : ItemsAt w v l) (hl : l.length ≤ 100000) (hu : ∀ x ∈ l, u64 x.key) : Calls Try.prog 8 #[v, .int .i64 b] w (BuildRet l b w) := by
  by_cases h : badB l b
  · exact build_bad w v l b hv (by omega) h
  · exact build_ok w v l b hv hl hu h
end Go.Proofs.Ythgnkbkfkcdhfaa
