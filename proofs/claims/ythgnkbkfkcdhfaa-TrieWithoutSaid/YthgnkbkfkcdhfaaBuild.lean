/- trie.Build: what it answers. -/
import Derived.Test.YthgnkbkfkcdhfaaRowVec
namespace Go.Proofs.Ythgnkbkfkcdhfaa
open Go.RowKit
set_option maxHeartbeats 1000000
set_option linter.unusedSimpArgs false

/-! ## Plain -/
def badB (l : List Item) (b : Int) : Prop := b < 1 ∨ 16 < b ∨ l.any (fun x => decide (64 < x.val.size)) = true ∨ ¬ risesB l ∨ dupB l
theorem Fit.of {l : List Item} {b : Int} (h : ¬ badB l b) (hu : ∀ x ∈ l, u64 x.key) : Fit l b := by
  unfold badB at h
  simp only [not_or, Classical.not_not] at h
  obtain ⟨h1, h2, h3, h4, h5⟩ := h
  refine ⟨by omega, by omega, ?_, ?_, hu⟩
  · have key : ∀ i, (hi : i + 1 < l.length) → l[i].key < l[i + 1].key := fun i hi => by
      have k1 := h4 (i + 1) (by omega) hi
      unfold notFall at k1
      rw [Nat.add_sub_cancel, getD_lt (show i < l.length by omega), getD_lt hi] at k1
      have k2 : ¬ l[i + 1].key = l[i].key := fun e => h5 ⟨i + 1, by omega, hi, by rw [Nat.add_sub_cancel, getD_lt (show i < l.length by omega), getD_lt hi]; exact e⟩
      omega
    unfold Rising
    rw [List.pairwise_iff_getElem]
    intro i j hi hj hij
    obtain ⟨d, rfl⟩ : ∃ d, j = i + 1 + d := ⟨j - (i + 1), by omega⟩
    clear hij
    induction d with
    | zero => exact key i hj
    | succ d ih =>
      have k1 := ih (by omega)
      have k2 := key (i + 1 + d) hj
      exact Int.lt_trans k1 k2
  · intro x hx
    by_cases hh : 64 < x.val.size
    · exact absurd (List.any_eq_true.2 ⟨x, hx, by simpa using hh⟩) h3
    · omega
def rawRows (s : List Node) : List Row := s.map fun x => ⟨x.lbl, 1, nodeRec x⟩
theorem rawRows_lbl (s : List Node) : (rawRows s).map (·.lbl) = s.map (·.lbl) := by simp [rawRows, Function.comp_def]
theorem rawRows_p (s : List Node) : (rawRows s).map rowP = s.map nodeP := by simp [rawRows, rowP, nodeP, Function.comp_def]
theorem row_ext {x y : Row} (h1 : rowP x = rowP y) (h2 : x.ver = y.ver) : x = y := by
  obtain ⟨a, b, c⟩ := x
  obtain ⟨d, e, f⟩ := y
  simp only [rowP, Prod.mk.injEq] at h1 h2
  obtain ⟨rfl, rfl⟩ := h1
  subst h2; rfl
theorem map_inj_ver : ∀ {l m : List Row}, l.map rowP = m.map rowP → (∀ x ∈ l, x.ver = 1) → (∀ x ∈ m, x.ver = 1) → l = m
  | [], [], _, _, _ => rfl
  | [], _ :: _, h, _, _ => by simp at h
  | _ :: _, [], h, _, _ => by simp at h
  | x :: l, y :: m, h, h1, h2 => by
    simp only [List.map_cons, List.cons.injEq] at h
    rw [row_ext h.1 ((h1 x (by simp)).trans (h2 y (by simp)).symm), map_inj_ver h.2 (fun z hz => h1 z (List.mem_cons_of_mem _ hz)) (fun z hz => h2 z (List.mem_cons_of_mem _ hz))]
/-- rows that are those of the shape, in order: just these -/
theorem rows_unique {s : List Node} (hs : s.Pairwise fun x y => LtL x.lbl y.lbl) {m : List Row} (hp : (m.map rowP).Perm (s.map nodeP)) (hv : ∀ x ∈ m, x.ver = 1) (ho : m.Pairwise fun a b => ltOf orderI b.lbl a.lbl = false) : m = rawRows s := by
  have hlt : (s.map nodeP).Pairwise fun p q => LtL p.1 q.1 := by rw [List.pairwise_map]; exact hs
  have hle : (s.map nodeP).Pairwise fun p q => ltOf orderI q.1 p.1 = false := hlt.imp fun {p q} h => by
    simp only [ltOf, decide_eq_false_iff_not, orderI_lt]
    unfold LtL at h
    omega
  have hm : (m.map rowP).Pairwise fun p q => ltOf orderI q.1 p.1 = false := by rw [List.pairwise_map]; exact ho
  have hnd : ((s.map nodeP).map (·.1)).Nodup := by
    rw [List.Nodup, List.pairwise_map]
    exact hlt.imp fun h => h.ne
  have e := List.Perm.eq_of_pairwise (fun a b ha hb h1 h2 => by
    have e1 := orderI_total a.1 b.1 h2 h1
    have g1 := tget_mem hnd (hp.mem_iff.1 ha)
    have g2 := tget_mem hnd hb
    rw [e1, g2] at g1
    exact Prod.ext e1 (Option.some.inj g1).symm) hm hle hp
  exact map_inj_ver (e.trans (rawRows_p s).symm) hv (fun x hx => by
    obtain ⟨y, -, rfl⟩ := List.mem_map.1 hx; rfl)
theorem leavesOf_raw (s : List Node) : leavesOf (rawRows s) = leafLbls s := by
  unfold leavesOf rawRows leafLbls
  rw [List.filter_map, List.map_map]
  have : ((fun x : Row => decide (x.rc.kind = 1)) ∘ fun x : Node => (⟨x.lbl, 1, nodeRec x⟩ : Row)) = fun x : Node => x.leaf := by
    funext x
    simp only [Function.comp, nodeRec]
    by_cases hl : x.leaf = true
    · simp [hl]
    · simp [hl]
  rw [this]
  rfl
theorem sorted_unique {ls lv : List Lbl} (hs : ls.Pairwise LtL) (hp : lv.Perm ls) (ho : Sorted lv) : lv = ls := by
  have hle : ls.Pairwise fun p q => ltOf orderI q p = false := hs.imp fun {p q} h => by
    simp only [ltOf, decide_eq_false_iff_not, orderI_lt]
    unfold LtL at h
    omega
  exact List.Perm.eq_of_pairwise (fun a b _ _ h1 h2 => orderI_total a b h2 h1) ho hle hp
theorem perm_filter {β : Type} {t : List (Lbl × β)} (hn : (t.map (·.1)).Nodup) {p : Lbl × β} (h : p ∈ t) : (p :: t.filter fun q => decide (q.1 ≠ p.1)).Perm t := by
  induction t with
  | nil => cases h
  | cons q t ih =>
    simp only [List.map_cons, List.nodup_cons] at hn
    rcases List.mem_cons.1 h with rfl | h2
    · have : (p :: t).filter (fun q => decide (q.1 ≠ p.1)) = t := by
        simp only [List.filter_cons, ne_eq, not_true_eq_false, decide_false, Bool.false_eq_true, if_false]
        rw [List.filter_eq_self]
        intro y hy
        simp only [decide_eq_true_eq]
        intro e
        exact hn.1 (List.mem_map.2 ⟨y, hy, e⟩)
      rw [this]
    · have hne : q.1 ≠ p.1 := fun e => hn.1 (List.mem_map.2 ⟨p, h2, e.symm⟩)
      have : (q :: t).filter (fun q => decide (q.1 ≠ p.1)) = q :: t.filter (fun q => decide (q.1 ≠ p.1)) := by
        simp [List.filter_cons, hne]
      rw [this]
      exact (List.Perm.swap _ _ _).trans ((ih hn.2 h2).cons _)
theorem Pairs.mem {β : Type} {R : Value → β → Prop} {m t} (h : Pairs R m t) {p : Lbl × Value} (hp : p ∈ m) : ∃ r, (p.1, r) ∈ t ∧ R p.2 r := by
  induction h with
  | nil => cases hp
  | cons a b ih =>
    rcases List.mem_cons.1 hp with rfl | hp
    · exact ⟨_, by simp, a⟩
    · obtain ⟨r, h1, h2⟩ := ih hp
      exact ⟨r, List.mem_cons_of_mem _ h1, h2⟩
theorem Pairs.filter {β : Type} {R : Value → β → Prop} (k : Lbl) {m t} (h : Pairs R m t) : Pairs R (m.filter fun q => decide (q.1 ≠ k)) (t.filter fun q => decide (q.1 ≠ k)) := by
  induction h with
  | nil => exact .nil
  | cons a b ih =>
    rename_i l v r m t
    by_cases e : l = k
    · simp [List.filter_cons, e]; simpa using ih
    · simp only [List.filter_cons, ne_eq, e, not_false_eq_true, decide_true, if_true]
      exact .cons a (by simpa using ih)
theorem Pairs.nil_right {β : Type} {R : Value → β → Prop} {t : List (Lbl × β)} (h : Pairs R [] t) : t = [] := by cases h; rfl
/-- what Build answers -/
def BuildRet (l : List Item) (b : Int) (w : World) (e : Ending) (w' : World) : Prop :=
  Ext w w' ∧ ((badB l b ∧ e = .returned (.tuple #[.slice none 0 0, .int .i64 1])) ∨ (¬ badB l b ∧ (500 < l.length ∨ (growT b 65 l rootLbl []).2 = false) ∧ e = .returned (.tuple #[.slice none 0 0, .int .i64 2])) ∨
    (¬ badB l b ∧ l.length ≤ 500 ∧ (growT b 65 l rootLbl []).2 = true ∧ ∃ v, e = .returned (.tuple #[v, .int .i64 0]) ∧ RowsAt w' v (finalRows (shape b 65 l rootLbl))))
set_option maxRecDepth 100000 in
theorem build_bad (w : World) (v : Value) (l : List Item) (b : Int) (hv : ItemsAt w v l) (hl : l.length ≤ 1000000) (hbad : badB l b) : Calls Try.prog 8 #[v, .int .i64 b] w (BuildRet l b w) := by
  obtain ⟨io, ic, rfl⟩ : ∃ io ic, v = .slice io l.length ic := by obtain ⟨io, ic, e, -⟩ := hv; exact ⟨io, ic, e⟩
  have hc : b < 1 ∨ (¬ b < 1 ∧ 16 < b) ∨ (¬ b < 1 ∧ ¬ 16 < b ∧ l.any (fun x => decide (64 < x.val.size)) = true) ∨ (¬ b < 1 ∧ ¬ 16 < b ∧ l.any (fun x => decide (64 < x.val.size)) = false ∧ ¬ risesB l) ∨ (¬ b < 1 ∧ ¬ 16 < b ∧ l.any (fun x => decide (64 < x.val.size)) = false ∧ risesB l ∧ dupB l) := by
    unfold badB at hbad
    by_cases h1 : b < 1
    · exact .inl h1
    · by_cases h2 : 16 < b
      · exact .inr (.inl ⟨h1, h2⟩)
      · by_cases h3 : l.any (fun x => decide (64 < x.val.size)) = true
        · exact .inr (.inr (.inl ⟨h1, h2, h3⟩))
        · have h3' : l.any (fun x => decide (64 < x.val.size)) = false := by simpa using h3
          by_cases h4 : risesB l
          · refine .inr (.inr (.inr (.inr ⟨h1, h2, h3', h4, ?_⟩)))
            rcases hbad with h | h | h | h | h
            · exact absurd h h1
            · exact absurd h h2
            · exact absurd h h3
            · exact absurd h4 h
            · exact h
          · exact .inr (.inr (.inr (.inl ⟨h1, h2, h3', h4⟩)))
  have HB := Lib.hid hbad; clear hbad
  go_enter Try.func8, Try.ntmps8
  go_wp2_with fail
  refine (clone_c w _ l hv hl).mono ?_
  rintro e w1 ⟨v1, rfl, hown1, hb1⟩
  go_wp2_with fail
  refine (compact_c w1 w.heap.size v1 l hb1.size hown1).mono ?_
  rintro e w2 ⟨a, n, c, rfl, hn, hiff, hb2⟩
  have hE : Ext w w2 := Below.trans hb1 hb2
  have hv2 := hv.ext hE
  have HI := Lib.hid hiff
  clear hown1 hb1 hb2 hiff
  rcases hc with h1 | ⟨h1, h2⟩ | ⟨h1, h2, h3⟩ | ⟨h1, h2, h3, h4⟩ | ⟨h1, h2, h3, h4, h5⟩
  · by_cases hlt : (n : Int) < (l.length : Int)
    all_goals
      go_wp2
      go_ret2
      exact ⟨hE, .inl ⟨HB.out, rfl⟩⟩
  · by_cases hlt : (n : Int) < (l.length : Int)
    all_goals
      go_wp2
      go_ret2
      exact ⟨hE, .inl ⟨HB.out, rfl⟩⟩
  · have H3 := Lib.hid h3; clear h3
    by_cases hlt : (n : Int) < (l.length : Int)
    all_goals
      go_wp2_with fail
      refine (contains1_c w2 _ l hv2).mono ?_
      rintro e w3 ⟨rfl, hb3⟩
      rw [H3.out]
      go_wp2
      go_ret2
      exact ⟨hE.trans hb3, .inl ⟨HB.out, rfl⟩⟩
  · have H3 := Lib.hid h3; clear h3
    have h4' : decide (risesB l) = false := by simpa using h4
    have H4 := Lib.hid h4'; clear h4 h4'
    by_cases hlt : (n : Int) < (l.length : Int)
    all_goals
      go_wp2_with fail
      refine (contains1_c w2 _ l hv2).mono ?_
      rintro e w3 ⟨rfl, hb3⟩
      rw [H3.out]
      go_wp2_with fail
      refine (sorted_c w3 _ l (hv2.ext hb3)).mono ?_
      rintro e w4 ⟨rfl, hb4⟩
      rw [H4.out]
      go_wp2
      go_ret2
      exact ⟨(hE.trans hb3).trans hb4, .inl ⟨HB.out, rfl⟩⟩
  · have H3 := Lib.hid h3; clear h3
    have h4' : decide (risesB l) = true := by simpa using h4
    have H4 := Lib.hid h4'; clear h4 h4'
    have hlt : (n : Int) < (l.length : Int) := by have := HI.out.2 h5; omega
    clear h5
    go_wp2_with fail
    refine (contains1_c w2 _ l hv2).mono ?_
    rintro e w3 ⟨rfl, hb3⟩
    rw [H3.out]
    go_wp2_with fail
    refine (sorted_c w3 _ l (hv2.ext hb3)).mono ?_
    rintro e w4 ⟨rfl, hb4⟩
    rw [H4.out]
    go_wp2
    go_ret2
    exact ⟨(hE.trans hb3).trans hb4, .inl ⟨HB.out, rfl⟩⟩
end Go.Proofs.Ythgnkbkfkcdhfaa
