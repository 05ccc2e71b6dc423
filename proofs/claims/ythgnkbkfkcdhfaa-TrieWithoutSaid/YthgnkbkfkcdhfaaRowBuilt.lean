/- What trie.Build builds is well, means its items, and has an inner row just where more items are below than fit a leaf: for every input; no condition. -/
import Derived.Test.YthgnkbkfkcdhfaaRows
import Derived.Test.YthgnkbkfkcdhfaaBuilt
import Derived.WalkKit
import Derived.ProofKit
import Derived.OpenShut
import Derived.ShutString
import Derived.ChangeOld
import Derived.Below
import Derived.SizedLaws
import Derived.Carry
import Derived.Deep.SlicePairs
namespace Go.Proofs.Ythgnkbkfkcdhfaa.trieBuilt
open Go.ChangeShapes Go.WideShapes Go.ChangeAt Go.RowKit Go.Deep
open Go.ChangeMaps (open_string shut_string)
theorem own : ownKnob Try.prog.godebug = none := by kernel_rfl
theorem laidOut : laidOutB Try.prog = true := by kernel_rfl
theorem cellsI : Try.prog.cellsOf 42 = 2 := by kernel_rfl
theorem cellsK : Try.prog.cellsOf 34 = 1 := by kernel_rfl
theorem cellsV : Try.prog.cellsOf 9 = 1 := by kernel_rfl
theorem lit_u64 {x : Int} (h : (Lit.int .u64 x).wf = true) : u64 x := by
  unfold u64
  simp [Lit.wf, IntKind.min, IntKind.max, IntKind.signed, IntKind.bits] at h
  omega
theorem cell_spot {w : World} {a : Addr} {v : Value} (h : w.cell? a = some v) : a.spot = none := by
  obtain ⟨b, o, s⟩ := a
  cases s with
  | none => rfl
  | some s =>
    simp only [World.cell?] at h
    split at h
    · simp at h
    · cases h
/-- an argument that is a slice of items -/
theorem open_items {H : Type} {enc : TypeId × Value → H} {w : World} {spare : Nat → Bool} {held : Bool} {fuel : Nat} {ao : Option Addr} {len cap : Nat} {x : DataW H × List MemPlace}
    (h : DataW.trod enc Try.prog w 0 spare held fuel 22 [.slice ao len cap] = some x) : ∃ l : List Item, ItemsAt w (.slice ao len cap) l ∧ ∀ x ∈ l, u64 x.key := by
  rcases open_slice_pairs Try.underlying22 Try.underlying42 cellsI rfl rfl cellsK cellsV h with ⟨hcs, -⟩ | ⟨a, len', cap', m, n, V0, V1, D0, D1, P0, P1, hcs, -, hl, hm, hmm, -, hi⟩
  · simp only [List.cons.injEq, Value.slice.injEq, and_true] at hcs
    obtain ⟨rfl, rfl, rfl⟩ := hcs
    exact ⟨[], ItemsAt.nil w, fun x hx => by cases hx⟩
  · simp only [List.cons.injEq, Value.slice.injEq, and_true] at hcs
    obtain ⟨rfl, rfl, rfl⟩ := hcs
    have hlm : len ≤ m := by rw [hmm]; split <;> omega
    have each : ∀ i, i < len → ∃ q : Item, w.cell? (a.add (i * 2)) = some (.int .u64 q.key) ∧ w.cell? (a.add (i * 2 + 1)) = some (.string q.val) ∧ u64 q.key := fun i hil => by
      obtain ⟨c0, c1, t0, t1⟩ := hi i (by omega)
      obtain ⟨k, e0, -, wk⟩ := DataW.trod_int Try.underlying34 t0
      obtain ⟨s, e1, -, -⟩ := DataW.trod_string Try.underlying9 t1
      simp only [List.cons.injEq, and_true] at e0 e1
      rw [e0] at c0
      rw [e1] at c1
      exact ⟨⟨k, s⟩, c0, c1, lit_u64 wk⟩
    obtain ⟨f, hf⟩ : ∃ f : Nat → Item, ∀ i, i < len → w.cell? (a.add (i * 2)) = some (.int .u64 (f i).key) ∧ w.cell? (a.add (i * 2 + 1)) = some (.string (f i).val) ∧ u64 (f i).key :=
      ⟨fun i => if h : i < len then Classical.choose (each i h) else default, fun i h => by simp only [h, dif_pos]; exact Classical.choose_spec (each i h)⟩
    refine ⟨(List.range len).map f, ⟨some a, cap, by simp, by simpa using hl, by unfold maxLen at hm; omega, (fun e => by cases e), fun i hi => ?_⟩, fun x hx => ?_⟩
    · have hil : i < len := by simpa using hi
      have hg : ((List.range len).map f).getD i default = f i := by rw [getD_lt hi]; simp
      obtain ⟨c0, c1, -⟩ := hf i hil
      have hs : a.spot = none := cell_spot (a := a.add (0 * 2)) (hf 0 (by omega)).1
      obtain ⟨b, o, s⟩ := a
      simp only at hs
      subst hs
      rw [hg]
      rw [addr_add] at c0 c1
      exact ⟨b, o, rfl, c0, by rw [Nat.add_assoc]; exact c1⟩
    · obtain ⟨i, hi, rfl⟩ := List.mem_map.1 hx
      exact (hf i (by simpa using hi)).2.2
set_option maxRecDepth 100000 in
theorem lifted (os : Os) (started : os.Started) (H : Type) (enc : TypeId × Value → H) :
    ReturnsInHanded {} Try.checked os 3 .any (Rows.trieBuiltSpec.pre6 enc Try.prog Try.f3 Rows.trieBuiltRow.domain false) (Rows.trieBuiltSpec.post enc Try.prog Try.f3 false true false false) := by
  refine returnsInHanded_of_change_sized (C := Try.checked) own started (by kernel_rfl) Try.func3
    (ChangeSpec.witness6 (enc := enc) (C := Try.checked) false ⟨#[], #[.slice none 0 0, .int .i64 0], []⟩ 8 (by kernel_rfl) (by kernel_rfl) (by kernel_rfl) (by kernel_rfl)) ?_
  intro W base args ds gs before hval0 hW _ _ _
  have hval : ∀ (j : Nat) t v, Try.f3.params[j]? = some t → args[j]? = some v → Value.okWide Try.prog W .any base t v := hval0
  have hW' := hW
  obtain ⟨p, q, hA0, hV, rfl, hfz, hnd⟩ := hW
  have hA : DataW.TrodAll enc Try.prog W 0 (fun _ => true) true Try.f3.params.toList args.toList ds p := hA0
  rw [Try.params3] at hA hval
  obtain ⟨v0, vs0, d0, ds0, p0, q0, hargs, rfl, rfl, h0, r0⟩ := trodAll_cons hA
  obtain ⟨v1, vs1, d1, ds1, p1, q1, rfl, rfl, rfl, h1, r1⟩ := trodAll_cons r0
  obtain ⟨rfl, rfl, rfl⟩ := trodAll_nil r1
  obtain rfl : args = #[v0, v1] := by cases args; simp_all
  obtain ⟨rfl, rfl⟩ := trodVars_none hV
  obtain ⟨a0, len0, cap0, rfl⟩ := okWide_slice Try.underlying22 (hval 0 22 v0 rfl rfl)
  have k0 := h0
  have lt0 : ∀ x ∈ p0, x.block < W.heap.size := by obtain ⟨m, hm⟩ := k0; exact DataW.trod_lt m _ _ _ hm
  obtain ⟨l, hl, hlu⟩ : ∃ l : List Item, ItemsAt W (.slice a0 len0 cap0) l ∧ ∀ x ∈ l, u64 x.key := by
    obtain ⟨fuel, hf⟩ := h0
    exact open_items (by simpa [Value.cells] using hf)
  obtain ⟨b, rfl, rfl, rfl, w1⟩ := open_int Try.underlying3 (hval 1 3 v1 rfl rfl) h1
  clear hA0 hval0
  refine (built_c W _ l b hl hlu).mono fun e W' ⟨he, bel⟩ => ?_
  subst he
  exact ⟨_, rfl, _, _, _, [], _, [], hW', trodAll_mk1 (shut_bool Try.underlying4 _), (trodAll_cons_mk (Below.trod laidOut (by kernel_rfl) (of_decide_eq_true (by kernel_rfl)) k0 bel lt0) (trodAll_cons_mk (shut_int Try.underlying3 w1) trodAll_mk0)), rfl, Below.frame bel _, fun h => by cases h⟩
theorem over : Rows.trieBuiltRow.holds Try.pinned (OpenSpec.ofChange Rows.trieBuiltSpec) :=
  OpenClaim.holds_of_wide 3 Try.f3 rfl rfl rfl rfl rfl rfl rfl ⟨rfl, rfl, rfl, rfl, rfl⟩ rfl rfl rfl rfl rfl (by kernel_rfl) Try.func3 (by kernel_rfl)
    (of_decide_eq_true (by kernel_rfl)) (by unfold Func.isWrapper; first | (rw [if_pos (by decide +kernel)]; kernel_rfl) | (rw [if_neg (by decide +kernel)]; exact ⟨rfl, rfl⟩))
    (fun os started H enc _ => lifted os started H enc)
theorem proved : Rows.TrieBuiltSaid := over
#print axioms proved
end Go.Proofs.Ythgnkbkfkcdhfaa.trieBuilt
namespace Go.Proofs.Ythgnkbkfkcdhfaa
/-- The row, under a short name, for the claim. -/
theorem trieBuilt_holds : Rows.TrieBuiltSaid := trieBuilt.proved
end Go.Proofs.Ythgnkbkfkcdhfaa
