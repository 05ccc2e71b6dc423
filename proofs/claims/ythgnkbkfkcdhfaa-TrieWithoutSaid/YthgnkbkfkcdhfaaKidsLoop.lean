/- The loop over a label's children, whose variable is boxed: one law. -/
import Derived.Test.YthgnkbkfkcdhfaaOutBox
namespace Go.Proofs.Ythgnkbkfkcdhfaa
open Go.RowKit
attribute [local go_sem] Oper.semAt_some
set_option maxHeartbeats 1000000

/-- the frame in which a round's body begins -/
def kidFrame (a : Act) (p c : Nat) (x : Lbl) (Bx : Nat) : Act := { tmps := (a.tmps.setIfInBounds p (.agg #[.int .i64 x.len, .int .u64 x.bits])).setIfInBounds c (.pointer (some ⟨Bx, 0, none⟩)), defers := [] }
set_option maxRecDepth 100000 in
theorem wpIn_range_kids (at' : Lbl) (hu : at'.u) (hok : at'.ok = true) {g : Operand} {p c : Nat} {id : Nat} {pos pos2 : String} {af1 af2 : Array Edge} {body : Code} {Q : Exit → Act → World → Prop} {a : Act} {w : World} (b : Nat)
    (hg : a.eval g = .func (.func 60) #[] #[.pointer (some ⟨b, 0, none⟩)]) (h0 : w.cell? ⟨b, 0, none⟩ = some (.int .i64 at'.len)) (h1 : w.cell? ⟨b, 1, none⟩ = some (.int .u64 at'.bits))
    (hp : p < a.tmps.size) (hc : c < a.tmps.size) (hpc : p ≠ c)
    (I : List Lbl → World → Prop) (Ix : Code → List Lbl → World → Prop) (hI : OwnFrom w.heap.size I) (hIx : ∀ c, OwnFrom w.heap.size (Ix c)) (hI0 : I [] w) (hIe : ∀ pre W W', I pre W → Ext W W' → I pre W') (hIw : ∀ pre W, I pre W → w.heap.size ≤ W.heap.size)
    (hbody : ∀ (l : Nat) (pre : List Lbl) (x : Lbl) (Bx : Nat) (W : World), w.heap.size ≤ Bx → W.heap[Bx]? = some (.cells #[.int .i64 x.len, .int .u64 x.bits] 36) → I pre W → at'.len < 64 → (x = childOf at' 0 ∨ x = childOf at' 1) → pre.length < 2 → (∀ y ∈ pre, y = childOf at' 0 ∨ y = childOf at' 1) →
      body.wpIn (Fence.wide.inRound l) 1 Try.prog (ownPostG w.heap.size (KeepAt b) I Ix (pre ++ [x]) W) (kidFrame a p c x Bx) W)
    (hdone : ∀ (D : Nat) (W : World), w.heap.size ≤ D → I (kids at') W → W.heap[D]? = some (.deferred (some [])) → Q .normal { a with defers := { target := .collected D, args := #[] } :: a.defers } W)
    (hstop : ∀ (D : Nat) (c : Code) (pre : List Lbl) (W : World), w.heap.size ≤ D → (∃ rest, kids at' = pre ++ rest) → Ix c pre W → W.heap[D]? = some (.deferred (some [])) → c.wpIn Fence.wide 3 Try.prog Q { a with defers := { target := .collected D, args := #[] } :: a.defers } W) :
    (Code.rangeFunc g #[p] (.region id #[⟨some c, .alloc 36, 0, pos, af1, none⟩, ⟨none, .store 36 (.tmp c) (.tmp p), 0, pos2, af2, none⟩] false) body).wpIn Fence.wide 3 Try.prog Q a w := by
  have hb : b < w.heap.size := World.block_lt_of_cell? _ _ h0
  refine wpIn_rangeFunc_ownH (α := Kid at') rfl (by omega) (gf := 60) (lb := #[.pointer (some ⟨b, 0, none⟩)]) hg trivial (enters_of Try.func60 (by kernel_rfl) rfl) (kids_stops at' hu hok b 2 (by omega) w h0 h1) KeepAt.t (KeepAt.b hb) (Below.refl _ _) (fun _ => rfl)
    (fun xs W => I (xs.map (·.1)) W) (fun c xs W => Ix c (xs.map (·.1)) W) ?hI ?hIx ?h0 (fun x a' W => ∃ Bx, w.heap.size ≤ Bx ∧ W.heap[Bx]? = some (.cells #[.int .i64 x.1.len, .int .u64 x.1.bits] 36) ∧ a' = kidFrame a p c x.1 Bx) ?hAx ?assign ?body ?done ?stop
  case hI => exact fun s W W' row h hg hr => hI _ W W' row h hg hr
  case hIx => exact fun c s W W' row h hg hr => hIx c _ W W' row h hg hr
  case h0 => exact hI0
  case hAx =>
    rintro x a' _ W W' row ⟨Bx, hB, c0, e⟩ hg hr
    exact ⟨Bx, hB, (grownBy_keeps_cells hg (fun r e => (hr r e).2) c0 rfl).trans c0, e⟩
  case assign =>
    rintro l pre x W K hi hK
    have hz := zeroLabel_c W
    have e1 : (#[p].zip (kidEnc at' x)).foldl (fun t (q, v) => t.setIfInBounds q v) a.tmps = a.tmps.setIfInBounds p (.agg #[.int .i64 x.1.len, .int .u64 x.1.bits]) := by simp [kidEnc]
    rw [e1]
    obtain ⟨T, hT⟩ : ∃ T, T = a.tmps.setIfInBounds p (.agg #[.int .i64 x.1.len, .int .u64 x.1.bits]) := ⟨_, rfl⟩
    have hTp : T[p]? = some (.agg #[.int .i64 x.1.len, .int .u64 x.1.bits]) := by rw [hT]; simp [hp]
    have hTc : c < T.size := by rw [hT]; simpa using hc
    have hKT : ∀ Bx W', W' = W.alloc (.cells #[.int .i64 x.1.len, .int .u64 x.1.bits] 36) → Bx = W.heap.size → K { tmps := T.setIfInBounds c (.pointer (some ⟨Bx, 0, none⟩)), defers := [] } W' := by
      rintro Bx W' rfl rfl
      have hbW : b < W.heap.size := Nat.lt_of_lt_of_le hb (hIw _ _ hi)
      refine hK _ _ ((KeepsOthers.alloc _ _).from _) (((Ext.refl W).alloc _).keepAt hbW) (hIe _ _ _ hi ((Ext.refl W).alloc _)) ⟨W.heap.size, hIw _ _ hi, heap_alloc_new W _, ?_⟩
      rw [hT]
      rfl
    rw [← hT]
    clear hT e1
    apply wpIn_region_lit
    refine wpListIn_plain rfl fun K1 hK1 => ?_
    unfold Oper.wpIn
    refine ⟨by simp [Oper.about], ?_⟩
    rw [Oper.semAt_plain _ _ _ (by intro c hc'; cases hc')]
    go_simp
    apply hK1
    have hc1 : (T.setIfInBounds c (.pointer (some ⟨W.heap.size, 0, none⟩)))[c]? = some (.pointer (some ⟨W.heap.size, 0, none⟩)) := by simp [hTc]
    have hp1 : (T.setIfInBounds c (.pointer (some ⟨W.heap.size, 0, none⟩)))[p]? = some (.agg #[.int .i64 x.1.len, .int .u64 x.1.bits]) := by rw [Array.getElem?_setIfInBounds_ne (Ne.symm hpc)]; exact hTp
    have hKT' := hKT W.heap.size _ rfl rfl
    obtain ⟨T', hT'⟩ : ∃ T', T' = T.setIfInBounds c (.pointer (some ⟨W.heap.size, 0, none⟩)) := ⟨_, rfl⟩
    rw [← hT'] at hc1 hp1 hKT' ⊢
    clear hT' hK1 hKT
    refine wpListIn_plain rfl fun K2 hK2 => ?_
    unfold Oper.wpIn
    refine ⟨by simp [Oper.about], ?_⟩
    rw [Oper.semAt_plain _ _ _ (by intro c hc'; cases hc')]
    have ec : Act.eval { tmps := T', defers := [] } (.tmp c) = .pointer (some ⟨W.heap.size, 0, none⟩) := by simp [Act.eval, hc1]
    have ep : Act.eval { tmps := T', defers := [] } (.tmp p) = .agg #[.int .i64 x.1.len, .int .u64 x.1.bits] := by simp [Act.eval, hp1]
    go_simp
    apply hK2
    apply wpListIn_nil
    exact hKT'
  case body =>
    rintro l pre x a' W - - hi ⟨Bx, hB, c0, rfl⟩ hlen
    refine wpIn_mono (hbody l (pre.map (·.1)) x.1 Bx W hB c0 hi x.2.1 x.2.2 (by simpa using hlen) (fun y hy => ?_)) ?_
    · obtain ⟨z, -, rfl⟩ := List.mem_map.1 hy
      exact z.2.2
    · intro e a1 W1 h
      have em : (pre ++ [x]).map (·.1) = pre.map (·.1) ++ [x.1] := by simp
      cases e <;> simp only [ownPostG, em] at h ⊢ <;> exact h
  case done =>
    rintro D xs W hD hall hi hK
    exact hdone D W hD (by rw [← hall]; exact hi) hK
  case stop =>
    rintro D c pre W hD ⟨rest, hr⟩ hi hK
    exact hstop D c _ W hD ⟨rest, hr⟩ hi hK
end Go.Proofs.Ythgnkbkfkcdhfaa
