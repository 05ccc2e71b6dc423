/- What is well, and the rows that are built: plain. -/
import Derived.Test.YthgnkbkfkcdhfaaShape
import Derived.Test.YthgnkbkfkcdhfaaShelf
namespace Go.Proofs.Ythgnkbkfkcdhfaa
open Go.RowKit
set_option linter.unusedSectionVars false

theorem nodup_inj {α : Type} {l : List α} (h : l.Nodup) {i j : Nat} (hi : i < l.length) (hj : j < l.length) (e : l[i] = l[j]) : i = j := by
  have h' := List.pairwise_iff_getElem.1 h
  rcases Nat.lt_trichotomy i j with k | k | k
  · exact absurd e (h' i j hi hj k)
  · exact k
  · exact absurd e.symm (h' j i hj hi k)

/-! ## Next leaves -/
/-- what comes behind the k-th -/
def nx (l : List Lbl) (k : Nat) : Lbl := if k + 1 < l.length then l.getD (k + 1) default else noneLbl
def nextsTo (l : List Lbl) : Nat → List (Lbl × Lbl)
  | 0 => []
  | k + 1 => tput (l.getD k default) (nx l k) (nextsTo l k)
def nextIn (l : List Lbl) (x : Lbl) : Lbl := (tget x (nextsTo l l.length)).getD ⟨0, 0⟩
theorem tget_put {β : Type} (k x : Lbl) (v : β) : ∀ (t : List (Lbl × β)), tget x (tput k v t) = if k = x then some v else tget x t
  | [] => by simp [tput, tget]
  | (k', u) :: t => by
    simp only [tput]
    by_cases h : k' = k
    · subst h
      simp only [if_true, tget]
      split <;> rfl
    · simp only [if_neg h, tget, tget_put k x v t]
      by_cases h1 : k' = x
      · have : ¬ k = x := fun e => h (h1.trans e.symm)
        simp [h1, this]
      · simp [h1]
theorem nextsTo_at {l : List Lbl} (hn : l.Nodup) : ∀ (n k : Nat), k < n → n ≤ l.length → tget (l.getD k default) (nextsTo l n) = some (nx l k) := by
  intro n
  induction n with
  | zero => intro k h; omega
  | succ n ih =>
    intro k hk hl
    simp only [nextsTo, tget_put]
    by_cases h : k = n
    · subst h; simp
    · rw [if_neg ?_]
      · exact ih k (by omega) (by omega)
      · intro e
        rw [getD_lt (show n < l.length by omega), getD_lt (show k < l.length by omega)] at e
        have := nodup_inj hn (by omega) (by omega) e
        omega
theorem nextIn_at {l : List Lbl} (hn : l.Nodup) (k : Nat) (h : k < l.length) : nextIn l (l.getD k default) = nx l k := by
  unfold nextIn
  rw [nextsTo_at hn _ _ h (Nat.le_refl _)]
  rfl

/-- the labels of the rows that are leaves, in the rows' order -/
def leavesOf' (l : List Row) : List Lbl := (l.filter (fun x => decide (x.rc.kind = 1))).map (·.lbl)
/-! ## Well -/
def kindAt (t : List (Lbl × Rec)) (a : Lbl) : Int := match tget a t with | none => 0 | some r => r.kind
def wellRow (t : List (Lbl × Rec)) (ns : List (Lbl × Lbl)) (b : Int) (p : Lbl × Rec) : Bool :=
  (decide (p.1.len = 0) || decide (kindAt t (parentOf p.1) = 2)) &&
  (if p.2.kind = 1 then decide ((p.2.items.length : Int) ≤ b) && (decide (p.2.items.length ≤ (coveredOf p.2.items p.1).length) && decide (p.2.next = (tget p.1 ns).getD ⟨0, 0⟩))
   else decide (p.2.kind = 2) && (decide (p.1.len < 64) && ((tget (childOf p.1 0) t).isSome && (tget (childOf p.1 1) t).isSome)))
theorem wellRow_iff {t : List (Lbl × Rec)} {ns : List (Lbl × Lbl)} {b : Int} {a : Lbl} {r : Rec} : wellRow t ns b (a, r) = true ↔ (a.len = 0 ∨ kindAt t (parentOf a) = 2) ∧
    ((r.kind = 1 ∧ (r.items.length : Int) ≤ b ∧ r.items.length ≤ (coveredOf r.items a).length ∧ r.next = (tget a ns).getD ⟨0, 0⟩) ∨ (r.kind = 2 ∧ a.len < 64 ∧ (tget (childOf a 0) t).isSome = true ∧ (tget (childOf a 1) t).isSome = true)) := by
  unfold wellRow
  by_cases hk : r.kind = 1
  · simp [hk]
  · simp [hk]
/-- are rows well? lv: their leaves, in order -/
def wellP (l : List Row) (lv : List Lbl) (b : Int) : Prop :=
  (tget rootLbl (rowsMap l)).isSome = true ∧ 1 ≤ b ∧ b ≤ 16 ∧ rowsRight l ∧ ∀ p ∈ rowsMap l, wellRow (rowsMap l) (nextsTo lv lv.length) b p = true

/-! ## The rows that are built -/
def finalRow (ls : List Lbl) (x : Node) : Row := ⟨x.lbl, 1, if x.leaf then ⟨1, x.its, nextIn ls x.lbl, 0⟩ else ⟨2, [], noneLbl, 0⟩⟩
def finalRows (s : List Node) : List Row := s.map (finalRow (leafLbls s))
def rowP (x : Row) : Lbl × Rec := (x.lbl, x.rc)
theorem tget_mem {β : Type} {t : List (Lbl × β)} (hn : (t.map (·.1)).Nodup) {p : Lbl × β} (h : p ∈ t) : tget p.1 t = some p.2 := by
  induction t with
  | nil => cases h
  | cons q t ih =>
    obtain ⟨k, u⟩ := q
    simp only [List.map_cons, List.nodup_cons] at hn
    simp only [tget]
    rcases List.mem_cons.1 h with rfl | h2
    · simp
    · rw [if_neg ?_]
      · exact ih hn.2 h2
      · rintro rfl
        exact hn.1 (List.mem_map.2 ⟨_, h2, rfl⟩)
theorem tget_none {β : Type} {t : List (Lbl × β)} {k : Lbl} (h : ∀ p ∈ t, p.1 ≠ k) : tget k t = none := by
  induction t with
  | nil => rfl
  | cons q t ih =>
    obtain ⟨k', u⟩ := q
    simp only [tget]
    rw [if_neg (h (k', u) (by simp))]
    exact ih (fun p hp => h p (List.mem_cons_of_mem _ hp))
theorem tget_some {β : Type} {t : List (Lbl × β)} {k : Lbl} {u : β} (h : tget k t = some u) : (k, u) ∈ t := by
  induction t with
  | nil => cases h
  | cons q t ih =>
    obtain ⟨k', v⟩ := q
    simp only [tget] at h
    split at h
    · rename_i e; subst e; cases h; simp
    · exact List.mem_cons_of_mem _ (ih h)
theorem foldl_put {α β : Type} (f : α → Lbl × β) : ∀ (l : List α) (t : List (Lbl × β)), (l.map fun x => (f x).1).Nodup → (∀ p ∈ t, ∀ x ∈ l, p.1 ≠ (f x).1) → l.foldl (fun t x => tput (f x).1 (f x).2 t) t = t ++ l.map f
  | [], t, _, _ => by simp
  | x :: l, t, hn, hf => by
    simp only [List.map_cons, List.nodup_cons] at hn
    rw [List.foldl_cons, tput_new _ _ t (fun p hp => hf p hp x (by simp)), foldl_put f l _ hn.2 ?_]
    · simp
    · intro p hp y hy
      rcases List.mem_append.1 hp with hp | hp
      · exact hf p hp y (List.mem_cons_of_mem _ hy)
      · simp only [List.mem_singleton] at hp
        subst hp
        intro e
        exact hn.1 (List.mem_map.2 ⟨y, hy, e.symm⟩)
theorem rowsMap_nodup (l : List Row) (h : (l.map (·.lbl)).Nodup) : rowsMap l = l.map rowP := by
  have := foldl_put rowP l [] h (fun p hp => by cases hp)
  rw [List.nil_append] at this
  exact this
theorem spotsOf_nodup (l : List Row) (h : (l.map (·.lbl)).Nodup) : spotsOf l = l.map fun x => (x.lbl, ⟨x.ver, true, x.rc⟩) := by
  have := foldl_put (fun x : Row => (x.lbl, (⟨x.ver, true, x.rc⟩ : Spot))) l [] h (fun p hp => by cases hp)
  rw [List.nil_append] at this
  exact this
theorem rowsRight_of (l : List Row) (h : (l.map (·.lbl)).Nodup) (hl : l.length ≤ 2000) (hok : ∀ x ∈ l, x.lbl.ok = true ∧ x.rc.ok = true) : rowsRight l := by
  refine ⟨hl, fun k hk => ?_⟩
  have hm : l.getD k default ∈ l := by rw [getD_lt hk]; exact List.getElem_mem hk
  refine ⟨?_, (hok _ hm).1, (hok _ hm).2⟩
  have ht : ((l.take k).map (·.lbl)).Nodup := (List.Sublist.map _ (List.take_sublist k l)).nodup h
  rw [spotsOf_nodup _ ht, tget_none]
  · rfl
  · intro p hp
    obtain ⟨x, hx, rfl⟩ := List.mem_map.1 hp
    intro e
    have e' : x.lbl = l[k].lbl := by rw [← getD_lt hk]; exact e
    obtain ⟨j, hj, rfl⟩ := List.getElem_of_mem hx
    rw [List.getElem_take] at e'
    have hjk : j < k := by rw [List.length_take] at hj; omega
    have := nodup_inj (i := j) (j := k) h (by simp; omega) (by simpa using hk) (by simpa using e')
    omega
theorem rowsRight_nodup {l : List Row} (h : rowsRight l) : (l.map (·.lbl)).Nodup := by
  have key : ∀ k, k ≤ l.length → ((l.take k).map (·.lbl)).Nodup := by
    intro k
    induction k with
    | zero => simp
    | succ k ih =>
      intro hk
      have ihk := ih (by omega)
      rw [List.take_succ_eq_append_getElem (show k < l.length by omega), List.map_append, List.nodup_append]
      refine ⟨ihk, by simp, fun a ha b hb => ?_⟩
      have h1 := (h.2 k (by omega)).1
      rw [spotsOf_nodup _ ihk, getD_lt (show k < l.length by omega)] at h1
      simp only [List.map_cons, List.map_nil, List.mem_singleton] at hb
      subst hb
      rintro rfl
      obtain ⟨x, hx, e⟩ := List.mem_map.1 ha
      have h2 := tget_mem (t := (l.take k).map fun x => (x.lbl, (⟨x.ver, true, x.rc⟩ : Spot))) (p := (x.lbl, ⟨x.ver, true, x.rc⟩)) (by rw [List.map_map]; exact ihk) (List.mem_map_of_mem hx)
      simp only at h2
      rw [e] at h2
      rw [h2] at h1
      cases h1
  have := key l.length (Nat.le_refl _)
  rwa [List.take_length] at this

/-! ## The built rows are well -/
/-- the items that Build takes -/
structure Fit (l : List Item) (b : Int) : Prop where
  b1 : 1 ≤ b
  b16 : b ≤ 16
  r : Rising l
  val : ∀ x ∈ l, x.val.size ≤ 64
  u : ∀ x ∈ l, u64 x.key
theorem root_place {l : List Item} {b : Int} (h : Fit l b) : Place l rootLbl :=
  ⟨by decide, ⟨by decide, by decide⟩, h.r, fun x hx => (covers_iff _ _).2 ⟨by decide, (h.u x hx).1, by have := (h.u x hx).2; simp only [rootLbl, pw_0]; omega⟩⟩
section
variable {l : List Item} {b : Int} (h : Fit l b)
include h
theorem shape_nodup : ((shape b 65 l rootLbl).map (·.lbl)).Nodup := by
  have := shape_sorted b 65 l rootLbl (root_place h)
  rw [List.Nodup, List.pairwise_map]
  exact this.imp fun k => k.ne
theorem final_lbls : (finalRows (shape b 65 l rootLbl)).map (·.lbl) = (shape b 65 l rootLbl).map (·.lbl) := by
  unfold finalRows
  rw [List.map_map]
  rfl
theorem final_map : rowsMap (finalRows (shape b 65 l rootLbl)) = (finalRows (shape b 65 l rootLbl)).map rowP := rowsMap_nodup _ (by rw [final_lbls h]; exact shape_nodup h)
theorem leaf_sorted : (leafLbls (shape b 65 l rootLbl)).Pairwise LtL := by
  unfold leafLbls
  rw [List.pairwise_map]
  exact (shape_sorted b 65 l rootLbl (root_place h)).filter _
theorem leaf_nodup : (leafLbls (shape b 65 l rootLbl)).Nodup := (leaf_sorted h).imp fun k => k.ne
theorem next_ok {x : Lbl} (hx : x ∈ leafLbls (shape b 65 l rootLbl)) : nextIn (leafLbls (shape b 65 l rootLbl)) x = noneLbl ∨ (nextIn (leafLbls (shape b 65 l rootLbl)) x) ∈ leafLbls (shape b 65 l rootLbl) := by
  obtain ⟨k, hk, rfl⟩ := List.getElem_of_mem hx
  have := nextIn_at (leaf_nodup h) k hk
  rw [getD_lt hk] at this
  rw [this]
  unfold nx
  split
  · rename_i h1; right; rw [getD_lt h1]; exact List.getElem_mem h1
  · left; rfl
theorem mem_leaf {x : Node} (hx : x ∈ shape b 65 l rootLbl) (hl : x.leaf = true) : x.lbl ∈ leafLbls (shape b 65 l rootLbl) := List.mem_map.2 ⟨x, List.mem_filter.2 ⟨hx, hl⟩, rfl⟩
theorem leaf_under {y : Lbl} (hy : y ∈ leafLbls (shape b 65 l rootLbl)) : Under rootLbl y := by
  obtain ⟨x, hx, rfl⟩ := List.mem_map.1 hy
  exact shape_under b 65 l rootLbl (root_place h) x (List.mem_filter.1 hx).1
theorem rowOk_of {m : List Item} (hr : Rising m) (hv : ∀ x ∈ m, x.val.size ≤ 64) (hl : m.length ≤ 16) : rowOk m = true := by
  unfold rowOk
  rw [Bool.and_eq_true, List.all_eq_true]
  refine ⟨fun i hi => ?_, by simpa using hl⟩
  have hi : i < m.length := by simpa using hi
  unfold itemFine
  rw [getD_lt hi]
  simp only [Bool.and_eq_true, Bool.or_eq_true, decide_eq_true_eq]
  refine ⟨hv _ (List.getElem_mem hi), ?_⟩
  by_cases h0 : i = 0
  · left; exact h0
  · right
    rw [getD_lt (show i - 1 < m.length by omega)]
    exact (List.pairwise_iff_getElem.1 hr) (i - 1) i _ _ (by omega)
theorem final_ok : ∀ r ∈ finalRows (shape b 65 l rootLbl), r.lbl.ok = true ∧ r.rc.ok = true := by
  intro r hr
  obtain ⟨x, hx, rfl⟩ := List.mem_map.1 hr
  have hu := shape_under b 65 l rootLbl (root_place h) x hx
  refine ⟨hu.ok, ?_⟩
  obtain ⟨h1, h2⟩ := shape_its b h.b1 65 l rootLbl (root_place h) (by decide) x hx
  simp only [finalRow]
  by_cases hl : x.leaf = true
  · rw [if_pos hl] at h1 ⊢
    have hn := next_ok h (mem_leaf h hx hl)
    have hlen := h2.1 hl
    have h16 := h.b16
    unfold Rec.ok
    simp only [Bool.and_eq_true, Bool.or_eq_true, decide_eq_true_eq]
    refine ⟨?_, ?_⟩
    · rcases hn with hn | hn
      · left; exact hn
      · right; exact (leaf_under h hn).ok
    · rw [if_neg (by decide), if_pos (by decide), Bool.and_eq_true, h1]
      exact ⟨by decide, rowOk_of h (h.r.covered _) (fun y hy => h.val y (mem_covered.1 hy).1) (by omega)⟩
  · rw [if_neg hl]
    decide
theorem final_mem {x : Node} (hx : x ∈ shape b 65 l rootLbl) : (x.lbl, (finalRow (leafLbls (shape b 65 l rootLbl)) x).rc) ∈ rowsMap (finalRows (shape b 65 l rootLbl)) := by
  rw [final_map h]
  exact List.mem_map.2 ⟨_, List.mem_map.2 ⟨x, hx, rfl⟩, rfl⟩
theorem map_nodup : ((rowsMap (finalRows (shape b 65 l rootLbl))).map (·.1)).Nodup := by
  rw [final_map h, List.map_map]
  have := shape_nodup h
  rw [← final_lbls h] at this
  exact this
theorem final_get {x : Node} (hx : x ∈ shape b 65 l rootLbl) : tget x.lbl (rowsMap (finalRows (shape b 65 l rootLbl))) = some (finalRow (leafLbls (shape b 65 l rootLbl)) x).rc := tget_mem (map_nodup h) (final_mem h hx)
theorem final_leaves : leavesOf' (finalRows (shape b 65 l rootLbl)) = leafLbls (shape b 65 l rootLbl) := by
  unfold leavesOf' finalRows
  rw [List.filter_map, List.map_map]
  have : ((fun x : Row => decide (x.rc.kind = 1)) ∘ finalRow (leafLbls (shape b 65 l rootLbl))) = fun x : Node => x.leaf := by
    funext x
    simp only [Function.comp, finalRow]
    by_cases hl : x.leaf = true
    · simp [hl]
    · simp [hl]
  rw [this]
  rfl
theorem final_well (hlen : (shape b 65 l rootLbl).length ≤ 2000) : wellP (finalRows (shape b 65 l rootLbl)) (leafLbls (shape b 65 l rootLbl)) b := by
  have hp := root_place h
  refine ⟨?_, h.b1, h.b16, rowsRight_of _ (by rw [final_lbls h]; exact shape_nodup h) (by simpa [finalRows] using hlen) (final_ok h), ?_⟩
  · obtain ⟨x, r, e, hx⟩ := shape_head b 65 l rootLbl
    have := final_get h (x := x) (by rw [e]; simp)
    rw [hx] at this
    rw [this]; rfl
  · intro p hpm
    rw [final_map h] at hpm
    obtain ⟨r, hr, rfl⟩ := List.mem_map.1 hpm
    obtain ⟨x, hx, rfl⟩ := List.mem_map.1 hr
    show wellRow _ _ b (x.lbl, (finalRow (leafLbls (shape b 65 l rootLbl)) x).rc) = true
    rw [wellRow_iff]
    constructor
    · rcases shape_parent b 65 l rootLbl hp x hx with e | ⟨h0, y, hy, e1, e2⟩
      · left; rw [e]; rfl
      · have hy' := final_get h hy
        rw [e1] at hy'
        right
        unfold kindAt
        rw [hy']
        simp [finalRow, e2]
    · obtain ⟨h1, h2⟩ := shape_its b h.b1 65 l rootLbl hp (by decide) x hx
      by_cases hl : x.leaf = true
      · left
        rw [if_pos hl] at h1
        have hc : coveredOf x.its x.lbl = x.its := by
          rw [h1]
          exact covered_self (fun y hy => (mem_covered.1 hy).2)
        have := h2.1 hl
        rw [← h1] at this
        simp only [finalRow, hl, if_true, hc]
        exact ⟨trivial, this, Nat.le_refl _, rfl⟩
      · have hl : x.leaf = false := by simpa using hl
        right
        obtain ⟨h64, hk⟩ := shape_kids b 65 l rootLbl hp x hx hl
        obtain ⟨y0, hy0, e0⟩ := hk 0 (.inl rfl)
        obtain ⟨y1, hy1, e1⟩ := hk 1 (.inr rfl)
        have g0 := final_get h hy0
        have g1 := final_get h hy1
        rw [e0] at g0
        rw [e1] at g1
        simp [finalRow, hl, g0, g1, h64]
/-! ## Without a row, or with another next one -/
theorem child_parent {a : Lbl} (ha : a.ok = true) (h0 : 0 < a.len) : a = childOf (parentOf a) 0 ∨ a = childOf (parentOf a) 1 := by
  obtain ⟨n, v⟩ := a
  obtain ⟨h1, h2, q, hq⟩ := (ok_iff _).1 ha
  simp only at h0 h1 h2 hq
  have hh := pw_half (n - 1) (by omega) (by omega)
  rw [show n - 1 + 1 = n by omega] at hh
  have hp := pw_pos n
  have k1 := headOf_le v (n - 1)
  have k2 := headOf_lt v (n - 1)
  obtain ⟨r, hr⟩ := headOf_dvd v (n - 1)
  have e : v - headOf v (n - 1) = pw n * (q - 2 * r) := by
    rw [hr, hh, Int.mul_sub, ← hq, Int.mul_comm 2 r, ← Int.mul_assoc, Int.mul_comm 2 (pw n), Int.mul_assoc, Int.mul_assoc, Int.mul_comm 2 r]
  have b1 : 0 ≤ pw n * (q - 2 * r) := by omega
  have b2 : pw n * (q - 2 * r) < pw n * 2 := by omega
  have c1 : q - 2 * r < 2 := Int.lt_of_mul_lt_mul_left b2 (by omega)
  have c2 : 0 ≤ q - 2 * r := by
    by_cases hneg : q - 2 * r < 0
    · have := Int.mul_neg_of_pos_of_neg hp hneg; omega
    · omega
  have c3 : q - 2 * r = 0 ∨ q - 2 * r = 1 := by omega
  unfold childOf parentOf
  rcases c3 with c3 | c3
  · left
    rw [c3, Int.mul_zero] at e
    simp only [Lbl.mk.injEq, show n - 1 + 1 = n by omega, true_and]
    simp; omega
  · right
    rw [c3, Int.mul_one] at e
    simp only [Lbl.mk.injEq, show n - 1 + 1 = n by omega, true_and, if_true]
    omega
theorem without_not (i : Nat) (hi : i < (shape b 65 l rootLbl).length) (lv : List Lbl) : ¬ wellP ((finalRows (shape b 65 l rootLbl)).take i ++ (finalRows (shape b 65 l rootLbl)).drop (i + 1)) lv b := by
  have hp := root_place h
  obtain ⟨s, hs⟩ : ∃ s, s = shape b 65 l rootLbl := ⟨_, rfl⟩
  have hnd := shape_nodup h
  have hlb := final_lbls h
  have hpar := shape_parent b 65 l rootLbl hp
  have hund := shape_under b 65 l rootLbl hp
  rw [← hs] at hi hnd hlb hpar hund ⊢
  have hrl : (finalRows s).length = s.length := by simp [finalRows]
  have hrest : (finalRows s).take i ++ (finalRows s).drop (i + 1) = (finalRows s).eraseIdx i := by rw [List.eraseIdx_eq_take_drop_succ]
  rw [hrest]
  intro hw
  have hsub : ((finalRows s).eraseIdx i).Sublist (finalRows s) := List.eraseIdx_sublist _ _
  have hnd2 : (((finalRows s).eraseIdx i).map (·.lbl)).Nodup := (hsub.map _).nodup (by rw [hlb]; exact hnd)
  have hm := rowsMap_nodup _ hnd2
  have hndr : (finalRows s).Nodup := by
    have : ((finalRows s).map (·.lbl)).Nodup := by rw [hlb]; exact hnd
    rw [List.Nodup, List.pairwise_map] at this
    exact this.imp fun k e => k (by rw [e])
  have hnone : tget s[i].lbl (rowsMap ((finalRows s).eraseIdx i)) = none := by
    rw [hm]
    apply tget_none
    intro p hpm
    obtain ⟨r, hr, rfl⟩ := List.mem_map.1 hpm
    obtain ⟨j, hj, hji, rfl⟩ := List.mem_eraseIdx_iff_getElem.1 hr
    intro e
    apply hji
    have e2 : ((finalRows s).map (·.lbl))[j]'(by simpa using hj) = ((finalRows s).map (·.lbl))[i]'(by simp [hrl]; exact hi) := by
      simp only [List.getElem_map]
      simp only [rowP] at e
      rw [e]
      simp [finalRows, finalRow]
    exact nodup_inj (by rw [hlb]; exact hnd) _ _ e2
  obtain ⟨w1, w2, w3, w4, w5⟩ := hw
  rcases hpar s[i] (List.getElem_mem hi) with e | ⟨h0, y, hy, e1, e2⟩
  · rw [e] at hnone
    rw [hnone] at w1
    cases w1
  · obtain ⟨j, hj, rfl⟩ := List.getElem_of_mem hy
    have hji : j ≠ i := by
      rintro rfl
      have := congrArg Lbl.len e1
      simp only [parentOf] at this
      omega
    have hmem : rowP (finalRow (leafLbls s) s[j]) ∈ rowsMap ((finalRows s).eraseIdx i) := by
      rw [hm]
      refine List.mem_map.2 ⟨_, List.mem_eraseIdx_iff_getElem.2 ⟨j, by rw [hrl]; exact hj, hji, rfl⟩, ?_⟩
      simp [finalRows]
    have hwr := w5 _ hmem
    have hwr' : wellRow (rowsMap ((finalRows s).eraseIdx i)) (nextsTo lv lv.length) b (s[j].lbl, (finalRow (leafLbls s) s[j]).rc) = true := hwr
    rw [wellRow_iff] at hwr'
    obtain ⟨-, ⟨k1, -⟩ | ⟨-, -, k1, k2⟩⟩ := hwr'
    · simp [finalRow, e2] at k1
    · rw [e1] at k1 k2
      rcases child_parent h (hund s[i] (List.getElem_mem hi)).ok h0 with e | e
      · rw [← e, hnone] at k1; cases k1
      · rw [← e, hnone] at k2; cases k2
theorem other_not (i : Nat) (hi : i < (shape b 65 l rootLbl).length) (nxt : Lbl) (r : Row) (hr : (finalRows (shape b 65 l rootLbl))[i]? = some r) (hne : r.rc.next ≠ nxt) :
    ¬ wellP ((finalRows (shape b 65 l rootLbl)).take i ++ { r with rc := { r.rc with next := nxt } } :: (finalRows (shape b 65 l rootLbl)).drop (i + 1)) (leafLbls (shape b 65 l rootLbl)) b := by
  have hp := root_place h
  obtain ⟨s, hs⟩ : ∃ s, s = shape b 65 l rootLbl := ⟨_, rfl⟩
  have hnd := shape_nodup h
  have hlb := final_lbls h
  rw [← hs] at hi hnd hlb hr ⊢
  have hrl : (finalRows s).length = s.length := by simp [finalRows]
  have hset : (finalRows s).take i ++ { r with rc := { r.rc with next := nxt } } :: (finalRows s).drop (i + 1) = (finalRows s).set i { r with rc := { r.rc with next := nxt } } := by
    rw [List.set_eq_take_append_cons_drop, if_pos (by omega)]
  rw [hset]
  intro hw
  obtain ⟨w1, w2, w3, w4, w5⟩ := hw
  have hi' : i < (finalRows s).length := by omega
  have hgi : (finalRows s)[i] = r := by rw [List.getElem?_eq_getElem hi'] at hr; exact Option.some.inj hr
  have hnd2 : (((finalRows s).set i { r with rc := { r.rc with next := nxt } }).map (·.lbl)).Nodup := by
    have : ((finalRows s).set i { r with rc := { r.rc with next := nxt } }).map (·.lbl) = (finalRows s).map (·.lbl) := by
      rw [List.map_set]
      apply List.ext_getElem?
      intro k
      rw [List.getElem?_set]
      split
      · rename_i e; subst e
        simp [hi', hgi]
      · rfl
    rw [this, hlb]; exact hnd
  have hm := rowsMap_nodup _ hnd2
  have hrow : r = finalRow (leafLbls s) s[i] := by rw [← hgi]; simp [finalRows]
  have hmem : (r.lbl, ({ r.rc with next := nxt } : Rec)) ∈ rowsMap ((finalRows s).set i { r with rc := { r.rc with next := nxt } }) := by
    rw [hm]
    refine List.mem_map.2 ⟨_, List.mem_set hi' _, rfl⟩
  have hwr := w5 _ hmem
  rw [wellRow_iff] at hwr
  obtain ⟨-, ⟨k1, -, -, k2⟩ | ⟨k1, -⟩⟩ := hwr
  · simp only at k1 k2
    have hlf : s[i].leaf = true := by
      rw [hrow] at k1
      by_cases hl : s[i].leaf = true
      · exact hl
      · simp [finalRow, hl] at k1
    apply hne
    rw [k2, hrow]
    simp [finalRow, hlf, nextIn]
  · simp only at k1
    have hlf : s[i].leaf = false := by
      rw [hrow] at k1
      by_cases hl : s[i].leaf = true
      · simp [finalRow, hl] at k1
      · simpa using hl
    have hfine := w4.2 i (by simpa using hi')
    have hrec := hfine.2.2
    rw [getD_lt (by simpa using hi')] at hrec
    simp only [List.getElem_set_self] at hrec
    rw [hrow] at hrec hne
    simp only [finalRow, hlf, Bool.false_eq_true, if_false] at hrec hne
    unfold Rec.ok at hrec
    simp only [Bool.and_eq_true] at hrec
    rw [if_pos (by decide)] at hrec
    simp only [Bool.and_eq_true, decide_eq_true_eq] at hrec
    exact hne hrec.2.1.2.symm
end
end Go.Proofs.Ythgnkbkfkcdhfaa
