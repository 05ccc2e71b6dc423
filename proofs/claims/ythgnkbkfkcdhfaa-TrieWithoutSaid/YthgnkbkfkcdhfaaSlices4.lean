/- slices.CompactFunc, at equal keys: shorter just where two keys side by side are one. -/
import Derived.Test.YthgnkbkfkcdhfaaSlices3
namespace Go.Proofs.Ythgnkbkfkcdhfaa
open Go.RowKit
set_option maxHeartbeats 400000

/-- block g is a row of cap items, the first of which are l -/
def RowAt (w : World) (g cap : Nat) (l : List Item) : Prop :=
  ∃ cur, w.heap[g]? = some (.cells cur 42 (0, 0)) ∧ cur.size = cap * 2 ∧ l.length ≤ cap ∧ cur.toList.take (l.length * 2) = itemCells l
theorem RowAt.lt {w : World} {g cap : Nat} {l : List Item} (h : RowAt w g cap l) : g < w.heap.size := by
  obtain ⟨cur, hh, -⟩ := h
  rcases Nat.lt_or_ge g w.heap.size with h' | h'
  · exact h'
  · simp [Array.getElem?_eq_none h'] at hh
theorem RowAt.ext {w w' : World} {g cap : Nat} {l : List Item} (h : RowAt w g cap l) (he : Ext w w') : RowAt w' g cap l := by
  have hl := h.lt
  obtain ⟨cur, hh, r⟩ := h
  exact ⟨cur, by rw [he.block g hl]; exact hh, r⟩
theorem RowAt.get {w : World} {g cap : Nat} {l : List Item} (h : RowAt w g cap l) (i : Nat) (hi : i < l.length) :
    w.cell? ⟨g, i * 2, none⟩ = some (.int .u64 (l.getD i default).key) ∧ w.cell? ⟨g, i * 2 + 1, none⟩ = some (.string (l.getD i default).val) := by
  obtain ⟨cur, hh, hs, hc, ht⟩ := h
  have h1 := itemCells_get l i hi
  rw [← ht, List.getElem?_take_of_lt (by omega), List.getElem?_take_of_lt (by omega)] at h1
  simp only [World.cell?, hh, Option.isSome_none, Bool.false_eq_true, if_false]
  rw [← Array.getElem?_toList, ← Array.getElem?_toList]; exact h1
theorem RowAt.free {w : World} {g cap : Nat} {l : List Item} (h : RowAt w g cap l) (o : Nat) : w.frozen? ⟨g, o, none⟩ = false := by
  obtain ⟨cur, hh, -⟩ := h
  simp [World.frozen?, hh]
theorem RowAt.there {w : World} {g cap : Nat} {l : List Item} (h : RowAt w g cap l) (o : Nat) (ho : o < cap * 2) : (w.cell? ⟨g, o, none⟩).isSome = true := by
  obtain ⟨cur, hh, hs, -⟩ := h
  simp only [World.cell?, hh, Option.isSome_none, Bool.false_eq_true, if_false]
  rw [Array.getElem?_eq_getElem (by omega)]; rfl
theorem itemCells_set (l : List Item) (i : Nat) (x : Item) : ((itemCells l).set (i * 2) (.int .u64 x.key)).set (i * 2 + 1) (.string x.val) = itemCells (l.set i x) := by
  induction l generalizing i with
  | nil => rfl
  | cons y l ih =>
    cases i with
    | zero => rfl
    | succ i =>
      rw [show (i + 1) * 2 = i * 2 + 1 + 1 by omega]
      simp only [itemCells, List.set_cons_succ, ih]
theorem RowAt.set {w : World} {g cap : Nat} {l : List Item} (h : RowAt w g cap l) (i : Nat) (x : Item) :
    RowAt ((w.setCell ⟨g, i * 2, none⟩ (.int .u64 x.key)).setCell ⟨g, i * 2 + 1, none⟩ (.string x.val)) g cap (l.set i x) := by
  have hlt := h.lt
  obtain ⟨cur, hh, hs, hc, ht⟩ := h
  refine ⟨(cur.setIfInBounds (i * 2) (.int .u64 x.key)).setIfInBounds (i * 2 + 1) (.string x.val), ?_, by simpa using hs, by simpa using hc, ?_⟩
  · have hh' : w.heap[g] = .cells cur 42 (0, 0) := by rw [Array.getElem?_eq_getElem hlt] at hh; exact Option.some.inj hh
    simp [World.setCell, Array.getElem?_modify, hh]
  · rw [List.length_set, ← itemCells_set, ← ht]
    simp [List.take_set]

def dupB (l : List Item) : Prop := ∃ i, 0 < i ∧ i < l.length ∧ (l.getD i default).key = (l.getD (i - 1) default).key
/-- what CompactFunc answers: a slice that is shorter just where two keys side by side are one -/
def Compacted (l : List Item) (B : Nat) (w : World) (e : Ending) (w' : World) : Prop :=
  ∃ (a : Option Addr) (n c : Nat), e = .returned (.slice a n c) ∧ n ≤ l.length ∧ (n < l.length ↔ dupB l) ∧ Below B w w'

theorem below_setCells {B b : Nat} {a : World} (hB : B ≤ b) : ∀ (vs : List Value) (o : Nat) (W : World), Below B a W → Below B a (W.setCells b o vs)
  | [], _, _, h => h
  | v :: vs, o, _, h => below_setCells hB vs (o + 1) _ (h.setCell (p := ⟨b, o, none⟩) hB v)
theorem run_clear_items (w : World) (g cap : Nat) (l : List Item) (h : RowAt w g cap l) (o n c : Nat) (ty : TypeId) (hn : 0 < n) (ho : o * 2 + n * 2 ≤ cap * 2) :
    ∃ w', (Builtin.clear_ #[22] ty #[.slice (some ⟨g, o * 2, none⟩) n c]).run Try.prog w = .ok (.tuple #[]) w' ∧ ∀ B, B ≤ g → Below B w w' := by
  obtain ⟨i, hi, hz0, hz1, hz2⟩ := info_parts infoItem
  have hzv : ∀ w, (zeroValue 42).run Try.prog w = .ok (.agg #[.int .u64 0, .string ⟨#[]⟩]) w := fun w => by
    simp [zeroValue, typeInfo, hi, hz0, go_sem]
  obtain ⟨n, rfl⟩ : ∃ m, n = m + 1 := ⟨n - 1, by omega⟩
  refine ⟨w.setCells g (o * 2) (Builtin.zeroCells #[.int .u64 0, .string ⟨#[]⟩] (n + 1)).toList, ?_, fun B hB => below_setCells hB _ _ _ (Below.refl _ _)⟩
  have hlen : (Builtin.zeroCells #[Value.int .u64 0, .string ⟨#[]⟩] (n + 1)).toList.length = (n + 1) * 2 := by simp [Builtin.zeroCells]
  have hst := run_storeCells_cells (P := Try.prog) g (o * 2) (Builtin.zeroCells #[.int .u64 0, .string ⟨#[]⟩] (n + 1)).toList 0 w
    (fun j hj => by rw [hlen] at hj; exact h.there _ (by omega)) (fun j hj => h.free _) (by
      intro v hv
      simp only [Builtin.zeroCells, Array.toList_map, List.mem_map] at hv
      obtain ⟨k, -, rfl⟩ := hv
      rcases Nat.mod_two_eq_zero_or_one k with hk | hk <;> simp [hk, Value.oneCell'])
  rw [Nat.add_zero] at hst
  simp [Builtin.clear_, hzv, hst, go_sem, Value.cells]

theorem wp_clear_items {ops : Array Oper} {rest : List Oper} {dst : Option Tmp} {s : Operand} {ty : TypeId} {pos : String} {after : Array Edge} {a : Act} {Q : Exit → Act → World → Prop} {w : World}
    (g cap : Nat) (l : List Item) (v : Value) (hs : a.eval s = v) (h : RowAt w g cap l) (o n c : Nat) (hv : v = .slice (some ⟨g, o * 2, none⟩) n c) (hn : 0 < n) (ho : o * 2 + n * 2 ≤ cap * 2)
    (hk : ∀ w', (∀ B, B ≤ g → Below B w w') → wpList Try.prog ops Q rest (a.put dst (.tuple #[])) w') :
    wpList Try.prog ops Q (⟨dst, .call { callee := .builtin .clear, args := #[s], argTypes := #[22] }, ty, pos, after, none⟩ :: rest) a w := by
  subst hv
  obtain ⟨w', hrun, hb⟩ := run_clear_items w g cap l h o n c ty hn ho
  refine wpList_plain rfl fun K hK => ?_
  unfold Oper.wp
  simp [execOp, resolve, invoke, builtin, hs, hrun, Result.andThen]
  exact hK _ _ (hk w' hb)
set_option maxHeartbeats 1000000 in
theorem compact_c (w : World) (B : Nat) (v : Value) (l : List Item) (hB : B ≤ w.heap.size) (hv : ItemsOwn w B v l) :
    Calls Try.prog 27 #[v, .func (.func 29) #[] #[]] w (Compacted l B w) := by
  by_cases h2 : l.length < 2
  · have e2 : decide ((l.length : Int) < 2) = true := by simp; omega
    obtain ⟨ao, c, rfl, hlc, hc, -, hget⟩ := hv.items
    go_enter Try.func27, Try.ntmps27
    go_wp2
    go_ret
    exact ⟨ao, l.length, c, rfl, Nat.le_refl _, ⟨fun h => absurd h (Nat.lt_irrefl _), fun ⟨i, h1, h3, _⟩ => by omega⟩, Below.refl _ _⟩
  · obtain ⟨-, ⟨rfl, h0⟩ | ⟨g, cap, cur, rfl, hg, hh, hn, hcap, hs, ht⟩⟩ := hv
    · omega
    have hR : RowAt w g cap l := ⟨cur, hh, hs, hn, ht⟩
    have hgl := hR.lt
    clear hh hs ht cur
    unfold maxLen at hcap
    have e2 : decide ((l.length : Int) < 2) = false := by simp; omega
    have HR := Lib.hid hR; clear hR
    go_enter Try.func27, Try.ntmps27
    go_wp2
    go_loopw [5] (fun i wr => ∃ k : Nat, 1 ≤ k ∧ k ≤ l.length ∧ i = .int .i64 k ∧ (∀ j, 0 < j → j < k → (l.getD j default).key ≠ (l.getD (j - 1) default).key) ∧ Ext w wr) (fun i _ => l.length - (intOf i).toNat)
    case atStart => exact ⟨1, by omega, by omega, rfl, fun j h1 h2 => by omega, Ext.refl _⟩
    case round =>
      obtain ⟨k, hk1, hk, rfl, hok, hE⟩ := hrel
      have HO := Lib.hid hok; clear hok
      by_cases hlt : k < l.length
      · obtain ⟨m, rfl⟩ : ∃ m, k = m + 1 := ⟨k - 1, by omega⟩
        obtain ⟨c1, c2⟩ := (HR.out.ext hE).get (m + 1) hlt
        obtain ⟨d1, d2⟩ := (HR.out.ext hE).get m (by omega)
        obtain ⟨x, hx⟩ : ∃ x, x = l.getD (m + 1) default := ⟨_, rfl⟩
        rw [← hx] at c1 c2
        obtain ⟨y, hy⟩ : ∃ y, y = l.getD m default := ⟨_, rfl⟩
        rw [← hy] at d1 d2
        have HX := Lib.hid hx; have HY := Lib.hid hy; clear hx hy
        let S : World → Prop := fun w' => Ext wr w'
        have hS1 : ∀ z : Held S, z.w.cell? ⟨g, (m + 1) * 2, none⟩ = some (.int .u64 x.key) := fun z => Ext.cell z.h c1
        have hS2 : ∀ z : Held S, z.w.cell? ⟨g, (m + 1) * 2 + 1, none⟩ = some (.string x.val) := fun z => Ext.cell z.h c2
        have hS3 : ∀ z : Held S, z.w.cell? ⟨g, m * 2, none⟩ = some (.int .u64 y.key) := fun z => Ext.cell z.h d1
        have hS4 : ∀ z : Held S, z.w.cell? ⟨g, m * 2 + 1, none⟩ = some (.string y.val) := fun z => Ext.cell z.h d2
        haveI : Nonempty (Held S) := ⟨⟨wr, Ext.refl wr⟩⟩
        go_wp2
        refine wp_region_held S (by kernel_rfl) (by kernel_rfl) (Ext.refl wr).drew ?_
        repeat (go_big_quiet_step ((go_at_call 29; exact Calls.held ((build3_c x y _).mono fun e w' ⟨he, hb⟩ => ⟨he, Ext.trans (Held.h _) hb⟩))))
        refine wpQuiet_nil ?_; rintro _ ⟨z, rfl⟩
        clear hS1 hS2 hS3 hS4 c1 c2 d1 d2
        by_cases hxy : (x.key == y.key) = true
        · have hdup : dupB l := ⟨m + 1, by omega, hlt, by rw [← HX.out, Nat.add_sub_cancel, ← HY.out]; simpa using hxy⟩
          have HD := Lib.hid hdup; clear hdup
          have hne : ¬ cap = m + 1 := by omega
          have hRz := HR.out.ext (Ext.trans hE z.h)
          have hBz : Below B w z.w := Below.mono (Ext.trans hE z.h) hB
          obtain ⟨zw, hzw⟩ : ∃ zw, zw = z.w := ⟨_, rfl⟩
          rw [← hzw] at hRz hBz
          go_wp2
          rw [← hzw]
          clear hzw
          go_loopw [5, 7] (fun i q wq => ∃ (ki kk : Nat) (l' : List Item), i = .int .i64 ki ∧ q = .int .i64 ((kk : Int) + 1) ∧ m + 1 + (kk + 1) ≤ l.length ∧ m + 1 ≤ ki ∧ ki ≤ m + (kk + 1) ∧ l'.length = l.length ∧ RowAt wq g cap l' ∧ Below B w wq) (fun _ q _ => l.length - (intOf q).toNat)
          case atStart => exact ⟨m + 1, 0, l, by go_num, rfl, by omega, by omega, by omega, rfl, hRz, hBz⟩
          case round =>
            obtain ⟨ki, kk, l', rfl, rfl, hkk, hki, hki2, hl', hR', hB'⟩ := hrel
            by_cases hlt2 : m + 1 + (kk + 1) < l.length
            · obtain ⟨c1, c2⟩ := hR'.get (m + 1 + (kk + 1)) (by omega)
              obtain ⟨d1, d2⟩ := hR'.get (m + 1 + kk) (by omega)
              obtain ⟨x2, hx2⟩ : ∃ x2, x2 = l'.getD (m + 1 + (kk + 1)) default := ⟨_, rfl⟩
              rw [← hx2, Nat.add_mul (m + 1) (kk + 1)] at c1 c2
              obtain ⟨y2, hy2⟩ : ∃ y2, y2 = l'.getD (m + 1 + kk) default := ⟨_, rfl⟩
              rw [← hy2, Nat.add_mul (m + 1) kk] at d1 d2
              clear hx2 hy2
              have HR' := Lib.hid hR'; clear hR'
              let S : World → Prop := fun w' => Ext wr w'
              have hS1 : ∀ z : Held S, z.w.cell? ⟨g, (m + 1) * 2 + (kk + 1) * 2, none⟩ = some (.int .u64 x2.key) := fun z => Ext.cell z.h c1
              have hS2 : ∀ z : Held S, z.w.cell? ⟨g, (m + 1) * 2 + (kk + 1) * 2 + 1, none⟩ = some (.string x2.val) := fun z => Ext.cell z.h c2
              have hS3 : ∀ z : Held S, z.w.cell? ⟨g, (m + 1) * 2 + kk * 2, none⟩ = some (.int .u64 y2.key) := fun z => Ext.cell z.h d1
              have hS4 : ∀ z : Held S, z.w.cell? ⟨g, (m + 1) * 2 + kk * 2 + 1, none⟩ = some (.string y2.val) := fun z => Ext.cell z.h d2
              haveI : Nonempty (Held S) := ⟨⟨wr, Ext.refl wr⟩⟩
              by_cases hxy2 : (x2.key == y2.key) = true
              · have hn2 : (!(x2.key == y2.key)) = false := by rw [hxy2]; rfl
                clear hxy2
                go_wp2
                refine wp_region_held S (by kernel_rfl) (by kernel_rfl) (Ext.refl wr).drew ?_
                repeat (go_big_quiet_step ((go_at_call 29; exact Calls.held ((build3_c x2 y2 _).mono fun e w' ⟨he, hb⟩ => ⟨he, Ext.trans (Held.h _) hb⟩))))
                refine wpQuiet_nil ?_; rintro _ ⟨z2, rfl⟩
                have hBz2 : Below B w z2.w := hB'.trans (Below.mono z2.h (Nat.le_trans hB hB'.size))
                clear hS1 hS2 hS3 hS4 c1 c2 d1 d2
                go_wp2
                go_roundw
                case rel => exact ⟨ki, kk + 1, l', rfl, by go_num, by omega, by omega, by omega, hl', HR'.out.ext z2.h, hBz2⟩
                case measure => simp [intOf]; omega
              · have hn2 : (!(x2.key == y2.key)) = true := by simpa using hxy2
                clear hxy2
                go_wp2
                refine wp_region_held S (by kernel_rfl) (by kernel_rfl) (Ext.refl wr).drew ?_
                repeat (go_big_quiet_step ((go_at_call 29; exact Calls.held ((build3_c x2 y2 _).mono fun e w' ⟨he, hb⟩ => ⟨he, Ext.trans (Held.h _) hb⟩))))
                refine wpQuiet_nil ?_; rintro _ ⟨z2, rfl⟩
                have hBz2 : Below B w z2.w := hB'.trans (Below.mono z2.h (Nat.le_trans hB hB'.size))
                have hS5 := hS1 z2
                have hS6 := hS2 z2
                have hRz2 := HR'.out.ext z2.h
                have f1 := hRz2.free (ki * 2)
                have f2 := hRz2.free (ki * 2 + 1)
                obtain ⟨g1, g2⟩ := hRz2.get ki (by omega)
                have HRz2 := Lib.hid hRz2; clear hRz2
                clear hS1 hS2 hS3 hS4 c1 c2 d1 d2
                go_wp2
                go_roundw
                case rel => exact ⟨ki + 1, kk + 1, l'.set ki x2, by go_num, by go_num, by omega, by omega, by omega, by simpa using hl', HRz2.out.set ki x2, (hBz2.setCell (p := ⟨g, ki * 2, none⟩) hg _).setCell (p := ⟨g, ki * 2 + 1, none⟩) hg _⟩
                case measure => simp [intOf]; omega
            · have hne2 : ¬ cap = ki := by omega
              have HR' := Lib.hid hR'; clear hR'
              go_wp2_with ((with_reducible refine wp_clear_items g cap l' (.slice (some ⟨g, ki * 2, none⟩) (l.length - ki) (cap - ki)) ?_ HR'.out ki (l.length - ki) (cap - ki) rfl (by omega) (by omega) ?_); rfl; intro w9 hB9)
              go_ret
              exact ⟨some ⟨g, 0, none⟩, ki, cap, rfl, by omega, ⟨fun _ => HD.out, fun _ => by omega⟩, hB'.trans (hB9 B hg)⟩
        · have hxy : (x.key == y.key) = false := by simpa using hxy
          go_wp2
          go_roundw
          case rel =>
            refine ⟨m + 1 + 1, by omega, by omega, by go_num, fun j h1 h3 => ?_, Ext.trans hE z.h⟩
            by_cases e : j = m + 1
            · rw [e, ← HX.out, Nat.add_sub_cancel, ← HY.out]; simpa using hxy
            · exact HO.out j h1 (by omega)
          case measure => simp [intOf]; omega
      · go_wp2
        go_ret
        refine ⟨some ⟨g, 0, none⟩, l.length, cap, rfl, Nat.le_refl _, ⟨fun h => absurd h (Nat.lt_irrefl _), fun ⟨i, h1, h3, h4⟩ => absurd h4 (HO.out i h1 (by omega))⟩, Below.mono hE hB⟩
end Go.Proofs.Ythgnkbkfkcdhfaa
