/- trie.Leaves. -/
import Derived.Test.YthgnkbkfkcdhfaaItemsAll
namespace Go.Proofs.Ythgnkbkfkcdhfaa
open Go.RowKit
open Go.Sort (SWO)
set_option maxHeartbeats 1000000
set_option linter.unusedSimpArgs false

theorem orderI_lt (a b : Lbl) : orderI a b < 0 ↔ a.bits < b.bits ∨ (a.bits = b.bits ∧ a.len < b.len) := by
  unfold orderI orI cmpI
  by_cases h1 : a.bits < b.bits
  · rw [if_pos h1, if_neg (by decide)]; simp [h1]
  · rw [if_neg h1]
    by_cases h2 : b.bits < a.bits
    · rw [if_pos h2, if_neg (by decide)]; constructor
      · intro h; exact absurd h (by decide)
      · intro h; omega
    · rw [if_neg h2, if_pos rfl]
      by_cases h3 : a.len < b.len
      · rw [if_pos h3]; constructor
        · intro _; omega
        · intro _; decide
      · rw [if_neg h3]
        constructor
        · intro h; split at h <;> exact absurd h (by decide)
        · intro h; omega
theorem orderI_swo : SWO (ltOf orderI) := by
  refine ⟨fun x => ?_, fun x y z h1 h2 => ?_, fun x y z h1 h2 => ?_⟩
  · simp only [ltOf, decide_eq_false_iff_not, orderI_lt]; omega
  · simp only [ltOf, decide_eq_true_eq, orderI_lt] at *; omega
  · simp only [ltOf, decide_eq_false_iff_not, orderI_lt] at *; omega
theorem orderI_total (x y : Lbl) (h1 : ltOf orderI x y = false) (h2 : ltOf orderI y x = false) : x = y := by
  simp only [ltOf, decide_eq_false_iff_not, orderI_lt] at h1 h2
  obtain ⟨a, b⟩ := x
  obtain ⟨c, d⟩ := y
  simp only [Lbl.mk.injEq] at *
  omega
def encLbl : Enc Lbl := ⟨2, fun x => [.int .i64 x.len, .int .u64 x.bits], fun _ => rfl, by decide, fun x v hv => by simp at hv; rcases hv with rfl | rfl <;> rfl⟩
theorem infoLbl : (Try.prog.info? 36).map (fun i => (i.zero, i.size, i.bytes)) = some (some (.agg #[.int .i64 0, .int .u64 0]), encLbl.k, 16) := by kernel_rfl
theorem sortLbl_c (w : World) (B : Nat) (v : Value) (l : List Lbl) (h : VecOwn encLbl 36 w B v l) (hl : l.length ≤ 1000000) (hB : B ≤ w.heap.size) :
    Calls Try.prog 44 #[v, .func (.func 35) #[] #[]] w fun e w' => e = .returned (.tuple #[]) ∧ ∃ l', l'.Perm l ∧ l'.Pairwise (fun a b => ltOf orderI b a = false) ∧ VecOwn encLbl 36 w' B v l' ∧ Below B w w' ∧ (∀ k, k < w.heap.size → v.ownBlock ≠ some k → w'.heap[k]? = w.heap[k]?) :=
  sort_vec encLbl Try.sortLbl Try.isAgg36 Try.sizeOf36 orderI orderI_swo 35 (enters_of Try.func35 (by kernel_rfl) rfl) (fun x y W => order_c x y W) 36 w B v l h hl hB
/-- the labels of the rows that are leaves, in the rows' order -/
def leavesOf (l : List Row) : List Lbl := (l.filter (fun x => decide (x.rc.kind = 1))).map (·.lbl)
theorem leavesOf_snoc (l : List Row) (k : Nat) (h : k < l.length) : leavesOf (l.take (k + 1)) = leavesOf (l.take k) ++ if (l.getD k default).rc.kind = 1 then [(l.getD k default).lbl] else [] := by
  unfold leavesOf
  rw [List.take_succ_eq_append_getElem h, List.filter_append, List.map_append, getD_lt h]
  simp only [List.filter_cons, List.filter_nil]
  split <;> simp_all
theorem leavesOf_le (l : List Row) : (leavesOf l).length ≤ l.length := by unfold leavesOf; simp; exact List.length_filter_le _ _
theorem wp_append_lbl {ops : Array Oper} {rest : List Oper} {dst : Option Tmp} {s x : Operand} {ty : TypeId} {pos : String} {after : Array Edge} {a : Act} {Q : Exit → Act → World → Prop} {w : World}
    (B : Nat) (v : Value) (l : List Lbl) (hs : a.eval s = v) (hown : VecOwn encLbl 36 w B v l) (g : Nat) (y : Lbl) (hx : a.eval x = .slice (some ⟨g, 0, none⟩) 1 1) (h0 : w.cell? ⟨g, 0, none⟩ = some (.int .i64 y.len)) (h1 : w.cell? ⟨g, 1, none⟩ = some (.int .u64 y.bits))
    (hlen : l.length + 1 ≤ 1000000) (hB : B ≤ w.heap.size)
    (h : ∀ v' w', VecOwn encLbl 36 w' B v' (l ++ [y]) → Below B w w' → w.grownBy w' v.ownBlock → wpList Try.prog ops Q rest (a.put dst v') w') :
    wpList Try.prog ops Q (⟨dst, .call { callee := .builtin .append, args := #[s, x], argTypes := #[45, 45] }, ty, pos, after, none⟩ :: rest) a w :=
  wp_append_vec encLbl 36 45 (.agg #[.int .i64 0, .int .u64 0]) 16 Try.underlying45 infoLbl rfl (by decide) B v l hs hown _ [y] hx (VecAt.one encLbl (fun j u hj => by
    match j, hj with
    | 0, hj => cases hj; exact h0
    | 1, hj => cases hj; exact h1
    | j + 2, hj => cases hj)) hlen hB h
/-- sorted by 'order' -/
def Sorted (l : List Lbl) : Prop := l.Pairwise fun a b => ltOf orderI b a = false
set_option maxRecDepth 100000 in
theorem leaves_c (w : World) (v : Value) (l : List Row) (hv : RowsAt w v l) (hl : l.length ≤ 100000) :
    Calls Try.prog 14 #[v] w fun e w' => ∃ v' l', e = .returned v' ∧ l'.Perm (leavesOf l) ∧ Sorted l' ∧ VecAt encLbl w' v' l' ∧ Ext w w' := by
  have HV := Lib.hid hv
  obtain ⟨ao, c, rfl, hlc, hc, -, -⟩ := hv
  go_enter Try.func14, Try.ntmps14
  go_wp2
  go_loopw [3, 8] (fun out i wr => ∃ k : Nat, k ≤ l.length ∧ i = .int .i64 k ∧ VecOwn encLbl 36 wr w.heap.size out (leavesOf (l.take k)) ∧ Ext w wr) (fun _ i _ => l.length - (intOf i).toNat)
  case atStart => exact ⟨0, by omega, rfl, VecOwn.nil _ _ _ _, Ext.refl _⟩
  case round =>
    obtain ⟨k, hk', rfl, hown, hE⟩ := hrel
    by_cases hlt : k < l.length
    · obtain ⟨ao', c', e1, -, -, -, hget⟩ := HV.out.ext hE
      obtain ⟨rfl, rfl⟩ : ao = ao' ∧ c = c' := by simpa using e1
      obtain ⟨b, o, iv, rfl, hrow⟩ := hget k hlt
      have hsn := leavesOf_snoc l k hlt
      have hle := leavesOf_le (l.take k)
      rw [List.length_take] at hle
      obtain ⟨x, hx⟩ : ∃ x, x = l.getD k default := ⟨_, rfl⟩
      rw [← hx] at hrow hsn
      clear hx hget e1
      have HS := Lib.hid hsn; clear hsn
      obtain ⟨c0, c1, c2, c3, c4, c5, c6, c7, hit⟩ := hrow
      obtain ⟨io, ic, rfl⟩ : ∃ io ic, iv = .slice io x.rc.items.length ic := by obtain ⟨io, ic, e, -⟩ := hit; exact ⟨io, ic, e⟩
      by_cases hk1 : x.rc.kind = 1
      · have e1 : (x.rc.kind == 1) = true := by simp [hk1]
        have HK := Lib.hid hk1; clear hk1
        go_wp2_with (at_builtin; refine wp_append_lbl w.heap.size _ _ rfl ((hown.ext ((Ext.refl wr).alloc _)).ext ((Ext.refl _).alloc _)) (wr.heap.size + 1) x.lbl rfl (by simp) (by simp) (by omega) (by have := hE.size; simp; omega) ?_; intro v' w2 hown2 hB2 hg2)
        go_roundw
        case rel => exact ⟨k + 1, by omega, by go_num, by rw [HS.out, if_pos HK.out]; exact hown2, Below.trans (Ext.trans hE (((Ext.refl wr).alloc _).alloc _)) hB2⟩
        case measure => simp [intOf]; omega
      · have e1 : (x.rc.kind == 1) = false := by simp [hk1]
        have HK := Lib.hid hk1; clear hk1
        go_wp2
        go_roundw
        case rel => exact ⟨k + 1, by omega, by go_num, by rw [HS.out, if_neg HK.out, List.append_nil]; exact hown.ext ((Ext.refl wr).alloc _), Ext.trans hE ((Ext.refl wr).alloc _)⟩
        case measure => simp [intOf]; omega
    · have hall : l.take k = l := List.take_of_length_le (by omega)
      rw [hall] at hown
      have hle := leavesOf_le l
      go_wp2_with fail
      refine (sortLbl_c wr w.heap.size _ (leavesOf l) hown (by omega) hE.size).mono ?_
      rintro e w2 ⟨rfl, l', hp, hs, hown2, hB2, -⟩
      go_wp2
      go_ret
      exact ⟨_, l', rfl, hp, hs, hown2.at', Below.trans hE hB2⟩
end Go.Proofs.Ythgnkbkfkcdhfaa
