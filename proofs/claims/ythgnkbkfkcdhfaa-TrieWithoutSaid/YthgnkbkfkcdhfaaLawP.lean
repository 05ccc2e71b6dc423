/- What the laws of the trie need of the rows that are built: plain. -/
import Derived.Test.YthgnkbkfkcdhfaaBuildOk
namespace Go.Proofs.Ythgnkbkfkcdhfaa
open Go.RowKit
set_option linter.unusedSectionVars false

theorem items_shape (b : Int) (t : List (Lbl × Rec)) : ∀ (n : Nat) (l : List Item) (a : Lbl), Place l a → 65 - a.len ≤ n →
    (∀ x ∈ shape b n l a, ∃ rc, tget x.lbl t = some rc ∧ ((x.leaf = true ∧ rc.kind = 1 ∧ rc.items = x.its) ∨ (x.leaf = false ∧ rc.kind = 2))) → itemsOf t n a = l := by
  intro n
  induction n with
  | zero => intro l a h hn; have := h.len; omega
  | succ n ih =>
    intro l a h hn ht
    by_cases hc : (l.length : Int) ≤ b ∨ a.len = 64
    · rw [shape_leaf _ _ _ _ hc] at ht
      obtain ⟨rc, h1, h2⟩ := ht _ (List.mem_singleton.2 rfl)
      simp only [itemsOf]
      simp only at h1
      rw [h1]
      rcases h2 with ⟨-, h3, h4⟩ | ⟨h3, -⟩
      · simp [isLeaf, h3, h4]
      · cases h3
    · have h64 : a.len < 64 := by have := h.len; omega
      rw [shape_inner _ _ _ _ hc] at ht
      obtain ⟨rc, h1, h2⟩ := ht ⟨a, false, []⟩ List.mem_cons_self
      simp only at h1
      rcases h2 with ⟨h3, -⟩ | ⟨-, h3⟩
      · cases h3
      · have k0 := ih _ _ (h.child h64 0) (by simp only [childOf]; omega) (fun x hx => ht x (List.mem_cons_of_mem _ (List.mem_append_left _ hx)))
        have k1 := ih _ _ (h.child h64 1) (by simp only [childOf]; omega) (fun x hx => ht x (List.mem_cons_of_mem _ (List.mem_append_right _ hx)))
        simp only [itemsOf]
        rw [h1]
        have hl : isLeaf rc = false := by simp [isLeaf, h3]
        have hs : ∀ c, stepsOn t rc c = false := fun c => by simp [stepsOn, h3]
        simp only [hl, hs, Bool.false_eq_true, if_false]
        unfold kids
        rw [if_pos h64]
        simp only [List.flatMap_cons, List.flatMap_nil, List.append_nil]
        rw [k0, k1]
        exact covered_split h.ok h64 l h.r h.all
section
variable {l : List Item} {b : Int} (h : Fit l b)
include h
theorem final_items : itemsOf (rowsMap (finalRows (shape b 65 l rootLbl))) 65 rootLbl = l := by
  refine items_shape b _ 65 l rootLbl (root_place h) (by decide) (fun x hx => ?_)
  refine ⟨_, final_get h hx, ?_⟩
  by_cases hl : x.leaf = true
  · left; simp [finalRow, hl]
  · have hl : x.leaf = false := by simpa using hl
    right; simp [finalRow, hl]
theorem final_U : rowsU (finalRows (shape b 65 l rootLbl)) := by
  intro r hr
  obtain ⟨x, hx, rfl⟩ := List.mem_map.1 hr
  have hu := shape_under b 65 l rootLbl (root_place h) x hx
  refine ⟨hu.u, ?_⟩
  simp only [finalRow]
  by_cases hl : x.leaf = true
  · simp only [hl, if_true]
    rcases next_ok h (mem_leaf h hx hl) with e | e
    · rw [e]; exact ⟨by decide, by decide⟩
    · exact (leaf_under h e).u
  · have hl : x.leaf = false := by simpa using hl
    simp only [hl, Bool.false_eq_true, if_false]
    exact ⟨by decide, by decide⟩
theorem final_len : (finalRows (shape b 65 l rootLbl)).length = (shape b 65 l rootLbl).length := by simp [finalRows]
theorem final_rc {q : Lbl × Rec} (hq : q ∈ rowsMap (finalRows (shape b 65 l rootLbl))) : ∃ x ∈ shape b 65 l rootLbl, q = (x.lbl, (finalRow (leafLbls (shape b 65 l rootLbl)) x).rc) := by
  rw [final_map h] at hq
  obtain ⟨r, hr, rfl⟩ := List.mem_map.1 hq
  obtain ⟨x, hx, rfl⟩ := List.mem_map.1 hr
  exact ⟨x, hx, rfl⟩
theorem final_treeU (hl : l.length ≤ 100000) : treeU (rowsMap (finalRows (shape b 65 l rootLbl))) := by
  intro a rc hrc
  obtain ⟨x, hx, e⟩ := final_rc h (tget_some hrc)
  have e2 : rc = (finalRow (leafLbls (shape b 65 l rootLbl)) x).rc := congrArg Prod.snd e
  obtain ⟨h1, -⟩ := shape_its b h.b1 65 l rootLbl (root_place h) (by decide) x hx
  rw [e2]
  simp only [finalRow]
  by_cases hlf : x.leaf = true
  · simp only [hlf, if_true] at h1 ⊢
    rw [h1]
    exact ⟨Nat.le_trans (List.length_filter_le _ _) hl, fun y hy => h.u y (mem_covered.1 hy).1⟩
  · have hlf : x.leaf = false := by simpa using hlf
    simp only [hlf, Bool.false_eq_true, if_false]
    exact ⟨by simp, fun y hy => by cases hy⟩
/-- the kind of each row, by how many items are below -/
theorem final_kind (i : Nat) (hi : i < (finalRows (shape b 65 l rootLbl)).length) :
    (((finalRows (shape b 65 l rootLbl)).getD i default).rc.kind = 2 ↔ b < ((coveredOf l ((finalRows (shape b 65 l rootLbl)).getD i default).lbl).length : Int)) ∧ ((finalRows (shape b 65 l rootLbl)).getD i default).ver = 1 := by
  rw [getD_lt hi]
  have hi' : i < (shape b 65 l rootLbl).length := by rwa [final_len h] at hi
  have e : (finalRows (shape b 65 l rootLbl))[i] = finalRow (leafLbls (shape b 65 l rootLbl)) (shape b 65 l rootLbl)[i] := by simp [finalRows]
  rw [e]
  obtain ⟨h1, h2⟩ := shape_its b h.b1 65 l rootLbl (root_place h) (by decide) _ (List.getElem_mem hi')
  simp only [finalRow, and_true]
  by_cases hlf : (shape b 65 l rootLbl)[i].leaf = true
  · have := h2.1 hlf
    simp [hlf]; omega
  · have hn : ¬ ((coveredOf l (shape b 65 l rootLbl)[i].lbl).length : Int) ≤ b := fun k => hlf (h2.2 k)
    have hlf : (shape b 65 l rootLbl)[i].leaf = false := by simpa using hlf
    simp [hlf]; omega
theorem shape_len (hg : (growT b 65 l rootLbl []).2 = true) : (shape b 65 l rootLbl).length ≤ 2000 := by
  obtain ⟨g, hgt⟩ : ∃ g, growT b 65 l rootLbl [] = g := ⟨_, rfl⟩
  obtain ⟨t, k⟩ := g
  rw [hgt] at hg
  simp only at hg
  subst hg
  have h1 := growT_shape b 65 l rootLbl [] t (root_place h) (by decide) (fun p hp => by cases hp) hgt
  have h2 := growT_len b 65 l rootLbl [] (by simp)
  rw [hgt] at h2
  rw [h1] at h2
  simpa using h2
end
/-! ## The document's row -/
def gItems : List Item := [⟨1, ⟨#[]⟩⟩, ⟨2, ⟨#[]⟩⟩, ⟨9223372036854775808, ⟨#[]⟩⟩]
theorem gFit : Fit gItems 2 := by
  refine ⟨by decide, by decide, ?_, ?_, ?_⟩
  · unfold Rising gItems
    simp
  · intro x hx; simp [gItems] at hx; rcases hx with rfl | rfl | rfl <;> decide
  · intro x hx; simp [gItems] at hx; rcases hx with rfl | rfl | rfl <;> exact ⟨by decide, by decide⟩
def gRows : List Row := [⟨rootLbl, 1, ⟨2, [], noneLbl, 0⟩⟩, ⟨⟨1, 0⟩, 1, ⟨1, [⟨1, ⟨#[]⟩⟩, ⟨2, ⟨#[]⟩⟩], ⟨1, 9223372036854775808⟩, 0⟩⟩, ⟨⟨1, 9223372036854775808⟩, 1, ⟨1, [⟨9223372036854775808, ⟨#[]⟩⟩], noneLbl, 0⟩⟩]
theorem gRows_eq : finalRows (shape 2 65 gItems rootLbl) = gRows := by decide +kernel
theorem gGrow : (growT 2 65 gItems rootLbl []).2 = true := by decide +kernel
end Go.Proofs.Ythgnkbkfkcdhfaa
