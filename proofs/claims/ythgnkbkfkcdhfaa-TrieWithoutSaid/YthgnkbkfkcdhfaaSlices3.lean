/- slices.Clone; espalierref07.Same; the laws' 'few'. -/
import Derived.Test.YthgnkbkfkcdhfaaSlices2
namespace Go.Proofs.Ythgnkbkfkcdhfaa
open Go.RowKit
set_option maxHeartbeats 400000

theorem heap_alloc_new (w : World) (o : Obj) : (w.alloc o).heap[w.heap.size]? = some o := by show (w.heap.push o)[w.heap.size]? = _; simp
/-- a call that answers some Bool, and of it P -/
def SomeBool (P : Bool → Prop) (w : World) (e : Ending) (w' : World) : Prop := ∃ b : Bool, e = .returned (.bool b) ∧ P b ∧ w' = w
theorem clone_c (w : World) (v : Value) (l : List Item) (hv : ItemsAt w v l) (hl : l.length ≤ 1000000) :
    Calls Try.prog 28 #[v] w fun e w' => ∃ v', e = .returned v' ∧ ItemsOwn w' w.heap.size v' l ∧ Ext w w' := by
  have hv0 := hv
  have hq : ∀ (W : World) (a : Option Addr) (n c : Nat), (binOp .eql 22 (.slice a n c) (.slice none 0 0)).run Try.prog W = .ok (.bool a.isNone) W := fun W a n c => Lib.run_eql_slice_nil W _ 42 a n c 0 0 Try.underlying22
  obtain ⟨ao, c, rfl, hlc, hc, hnil, hget⟩ := hv
  have HV := Lib.hid hv0; clear hv0
  have HL := Lib.hid hl; clear hl
  cases ao with
  | none =>
    have HN := Lib.hid (hnil rfl)
    clear hnil
    go_enter Try.func28, Try.ntmps28
    go_wp2
    go_ret
    have h0 : c = 0 := HN.out
    have hl0 : l = [] := List.eq_nil_of_length_eq_zero (by omega)
    subst hl0
    exact ⟨_, rfl, ItemsOwn.nil _ _, Ext.refl w⟩
  | some ad =>
    go_enter Try.func28, Try.ntmps28
    go_wp2_with (at_builtin; refine wp_append_items w.heap.size _ [] rfl ⟨rfl, .inr ⟨w.heap.size, 0, #[], rfl, Nat.le_refl _, heap_alloc_new _ _, Nat.le_refl _, by decide, rfl, rfl⟩⟩ _ l rfl (HV.out.ext ((Ext.refl w).alloc _)) (by have := HL.out; simp; omega) (by simp) ?_; intro v' w1 hown hB _)
    go_ret
    exact ⟨_, rfl, hown, Below.trans ((Ext.refl w).alloc _) hB⟩

theorem same_c (w : World) (a b : Value) (la lb : List Item) (ha : ItemsAt w a la) (hb : ItemsAt w b lb) :
    Calls Try.prog 12 #[a, b] w fun e w' => e = .returned (.bool (decide (la = lb))) ∧ Ext w w' := by
  obtain ⟨ao, ac, rfl, hac, ham, -, hai⟩ := ha
  obtain ⟨bo, bc, rfl, hbc, hbm, -, hbi⟩ := hb
  by_cases hl : la.length = lb.length
  · have hn : ((la.length : Int) != lb.length) = false := by simp [hl]
    have HL := Lib.hid hl; clear hl
    go_enter Try.func12, Try.ntmps12
    go_wp2
    go_loopw [5] (fun i wr => ∃ k : Nat, k ≤ la.length ∧ i = .int .i64 k ∧ (∀ j, j < k → la.getD j default = lb.getD j default) ∧ Ext w wr) (fun i _ => la.length - (intOf i).toNat)
    case atStart => exact ⟨0, by omega, rfl, fun j hj => absurd hj (Nat.not_lt_zero j), Ext.refl _⟩
    case round =>
      obtain ⟨k, hk, rfl, heq, hE⟩ := hrel
      have HE := Lib.hid heq; clear heq
      by_cases hlt : k < la.length
      · have hkb : k < lb.length := by have := HL.out; omega
        obtain ⟨g1, o1, rfl, hg1, c1, c2⟩ := ItemsAt.get hai hE k hlt
        obtain ⟨g2, o2, rfl, hg2, d1, d2⟩ := ItemsAt.get hbi hE k hkb
        obtain ⟨x, hx⟩ : ∃ x, x = la.getD k default := ⟨_, rfl⟩
        rw [← hx] at c1 c2
        obtain ⟨y, hy⟩ : ∃ y, y = lb.getD k default := ⟨_, rfl⟩
        rw [← hy] at d1 d2
        have HX := Lib.hid hx; have HY := Lib.hid hy; clear hx hy
        by_cases hxy : itmEq x.key x.val y.key y.val = true
        · go_wp2
          go_quiet (fail)
          go_wp2
          go_roundw
          case rel => exact ⟨k + 1, by omega, by go_num, fun j hj => by
            by_cases e : j = k
            · rw [e, ← HX.out, ← HY.out]; exact of_decide_eq_true hxy
            · exact HE.out j (by omega), hE.drewN _⟩
          case measure => simp [intOf]; omega
        · have hxy : itmEq x.key x.val y.key y.val = false := by simpa using hxy
          go_wp2
          go_quiet (fail)
          go_wp2
          go_ret
          refine ⟨ret_bool ?_, hE.drewN _⟩
          symm
          rw [decide_eq_false_iff_not]
          intro h
          exact of_decide_eq_false hxy (by show x = y; rw [HX.out, HY.out, h])
      · go_wp2
        go_ret
        refine ⟨ret_bool ?_, hE⟩
        symm
        rw [decide_eq_true_iff]
        apply List.ext_getElem HL.out
        intro i h1 h2
        have := HE.out i (by omega)
        rwa [getD_lt h1, getD_lt h2] at this
  · have hn : ((la.length : Int) != lb.length) = true := by simp; omega
    go_enter Try.func12, Try.ntmps12
    go_wp2
    go_ret
    exact ⟨ret_bool (by symm; rw [decide_eq_false_iff_not]; intro h; exact hl (by rw [h])), Ext.refl w⟩

def FewP (l : List Item) (n : Nat) (b : Bool) : Prop := b = true → l.length ≤ n
theorem few24_c (w : World) (v : Value) (l : List Item) (hv : ItemsAt w v l) :
    Calls Try.prog 7 #[v] w (SomeBool (FewP l 60) w) := by
  obtain ⟨ao, c, rfl, hlc, hc, -, hget⟩ := hv
  by_cases h60 : l.length ≤ 60
  · have e60 : decide ((l.length : Int) ≤ 60) = true := by simp; omega
    go_enter Try.func7, Try.ntmps7
    go_wp2
    go_loop [3, 4] (fun n i => ∃ (k : Nat) (m : Int), k ≤ l.length ∧ i = .int .i64 k ∧ n = .int .i64 m) (fun _ i => l.length - (intOf i).toNat)
    case atStart => exact ⟨0, 0, by omega, rfl, rfl⟩
    case round =>
      obtain ⟨k, m, hk, rfl, rfl⟩ := hrel
      by_cases hlt : k < l.length
      · obtain ⟨b, o, rfl, hb, c1, c2⟩ := ItemsAt.get hget (Ext.refl w) k hlt
        go_wp2
        go_round
        case rel => exact ⟨k + 1, _, by omega, by go_num, rfl⟩
        case measure => simp [intOf]; omega
      · go_wp2
        go_ret
        exact ⟨_, rfl, (show FewP l 60 _ from fun _ => h60), rfl⟩
  · have e60 : decide ((l.length : Int) ≤ 60) = false := by simp; omega
    have hlt : 0 < l.length := by omega
    go_enter Try.func7, Try.ntmps7
    go_wp2
    go_loop [3, 4] (fun n i => i = .int .i64 0) (fun _ i => 0)
    case atStart => rfl
    case round =>
      obtain rfl := hrel
      go_wp2
      go_ret
      exact ⟨false, rfl, (show FewP l 60 _ from fun h => Bool.noConfusion h), rfl⟩
end Go.Proofs.Ythgnkbkfkcdhfaa
