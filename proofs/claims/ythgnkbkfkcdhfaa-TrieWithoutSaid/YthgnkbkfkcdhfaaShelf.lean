/- shelf.own, shelf.New; trie.Is. -/
import Derived.Test.YthgnkbkfkcdhfaaCovered
namespace Go.Proofs.Ythgnkbkfkcdhfaa
open Go.RowKit
set_option maxHeartbeats 400000

/-- a call that answers a record with items in new memory -/
def RetRec (k nl nb mk : Int) (items : List Item) (w : World) (e : Ending) (w' : World) : Prop := ∃ iv, e = .returned (.agg #[.int .i64 k, iv, .int .i64 nl, .int .u64 nb, .int .u64 mk]) ∧ ItemsAt w' iv items ∧ Ext w w'
theorem ItemsOwn.setCell {w : World} {B : Nat} {v : Value} {l : List Item} (h : ItemsOwn w B v l) {p : Addr} (hp : p.block < B) (u : Value) : ItemsOwn (w.setCell p u) B v l := ownsRow_setCell_below h hp u
theorem own_c (w : World) (k mk : Int) (io : Option Addr) (ic : Nat) (items : List Item) (nl nb : Int) (hv : ItemsAt w (.slice io items.length ic) items) (hl : items.length ≤ 1000000) :
    Calls Try.prog 50 #[.agg #[.int .i64 k, .slice io items.length ic, .int .i64 nl, .int .u64 nb, .int .u64 mk]] w (RetRec k nl nb mk items w) := by
  go_enter Try.func50, Try.ntmps50
  go_wp2_with fail
  refine (clone_c _ _ items (hv.ext (((Ext.refl w).alloc _).alloc _)) hl).mono ?_
  rintro e w1 ⟨v', rfl, hown, hb⟩
  have hit := hown.items
  have hz := hb.size
  simp only [World.size_alloc] at hz
  have f0 := hb.at (w.heap.size) 0 (.int .i64 k) (by go_simp); have f0f := hb.free (w.heap.size) 0 (by first | (simp; done) | (simp; omega)) (by go_simp); have f1 := hb.at (w.heap.size) 1 (.slice io items.length ic) (by go_simp); have f1f := hb.free (w.heap.size) 1 (by first | (simp; done) | (simp; omega)) (by go_simp); have f2 := hb.at (w.heap.size) 2 (.int .i64 nl) (by go_simp); have f2f := hb.free (w.heap.size) 2 (by first | (simp; done) | (simp; omega)) (by go_simp); have f3 := hb.at (w.heap.size) 3 (.int .u64 nb) (by go_simp); have f3f := hb.free (w.heap.size) 3 (by first | (simp; done) | (simp; omega)) (by go_simp); have f4 := hb.at (w.heap.size) 4 (.int .u64 mk) (by go_simp); have f4f := hb.free (w.heap.size) 4 (by first | (simp; done) | (simp; omega)) (by go_simp)
  have q0 := hb.at (w.heap.size + 1) 0 (.int .i64 0) (by go_simp); have q0f := hb.free (w.heap.size + 1) 0 (by first | (simp; done) | (simp; omega)) (by go_simp); have q1 := hb.at (w.heap.size + 1) 1 (.slice none 0 0) (by go_simp); have q1f := hb.free (w.heap.size + 1) 1 (by first | (simp; done) | (simp; omega)) (by go_simp); have q2 := hb.at (w.heap.size + 1) 2 (.int .i64 0) (by go_simp); have q2f := hb.free (w.heap.size + 1) 2 (by first | (simp; done) | (simp; omega)) (by go_simp); have q3 := hb.at (w.heap.size + 1) 3 (.int .u64 0) (by go_simp); have q3f := hb.free (w.heap.size + 1) 3 (by first | (simp; done) | (simp; omega)) (by go_simp); have q4 := hb.at (w.heap.size + 1) 4 (.int .u64 0) (by go_simp); have q4f := hb.free (w.heap.size + 1) 4 (by first | (simp; done) | (simp; omega)) (by go_simp)
  have hE : Ext w w1 := Ext.trans (((Ext.refl w).alloc _).alloc _) hb
  clear hb
  obtain ⟨jo, jc, rfl⟩ : ∃ jo jc, v' = .slice jo items.length jc := by obtain ⟨jo, jc, e, -⟩ := hit; exact ⟨jo, jc, e⟩
  have HI := Lib.hid hown; clear hit hown
  go_wp2
  refine bodyPost_ret (v := .agg #[.int .i64 k, .slice jo items.length jc, .int .i64 nl, .int .u64 nb, .int .u64 mk]) ?_ rfl ?_
  · simp [results, Try.results50, go_sem, q0, q1, q2, q3, q4]
  · refine ⟨.slice jo items.length jc, rfl, ?_, ?_⟩
    · refine ItemsOwn.items (B := w.heap.size + 1 + 1) ?_
      have h := HI.out
      simp only [World.size_alloc] at h
      repeat ((with_reducible refine ItemsOwn.setCell ?_ ?_ _); rotate_left; (focus (first | (simp; done) | (simp; omega))))
      exact h
    · repeat ((with_reducible refine Ext.setCell ?_ ?_ _); rotate_left; (focus (first | (simp; done) | (simp; omega))))
      exact hE

/-! ## The shelf in memory -/
structure Spot where
  ver : Int
  has : Bool
  rc : Rec
deriving Inhabited
def SpotV (w : World) (v : Value) (s : Spot) : Prop := ∃ iv, v = .agg #[.int .u64 s.ver, .bool s.has, .int .i64 s.rc.kind, iv, .int .i64 s.rc.next.len, .int .u64 s.rc.next.bits, .int .u64 s.rc.mark] ∧ ItemsAt w iv s.rc.items
theorem SpotV.ext {w w' : World} {v : Value} {s : Spot} (h : SpotV w v s) (he : Ext w w') : SpotV w' v s := by
  obtain ⟨iv, h1, h2⟩ := h
  exact ⟨iv, h1, h2.ext he⟩
theorem SpotV.extM {r : Nat} {w w' : World} {m : List (Lbl × Value)} (h : ExtM r w w') (hm : MapIs w r m) {v : Value} {x : Spot} (hi : SpotV w v x) : SpotV w' v x := by
  obtain ⟨iv, h1, h2⟩ := hi
  exact ⟨iv, h1, h.items hm h2⟩
def zeroSpot : Value := .agg #[.int .u64 0, .bool false, .int .i64 0, .slice none 0 0, .int .i64 0, .int .u64 0, .int .u64 0]
theorem zeroSpot_c (w : World) : (zeroValue 108).run Try.prog w = .ok zeroSpot w := by unfold zeroSpot; kernel_rfl
/-- block p is a shelf: its map is block r and reads as S, so often was it written -/
structure ShelfIs (w : World) (p r : Nat) (S : List (Lbl × Spot)) (n : Int) : Prop where
  c0 : w.cell? ⟨p, 0, none⟩ = some (.map (some r))
  c1 : w.cell? ⟨p, 1, none⟩ = some (.int .i64 n)
  f1 : w.frozen? ⟨p, 1, none⟩ = false
  m : ∃ m, MapIs w r m ∧ Pairs (SpotV w) m S
def spotsOf (l : List Row) : List (Lbl × Spot) := l.foldl (fun t x => tput x.lbl ⟨x.ver, true, x.rc⟩ t) []
theorem spotsOf_snoc (l : List Row) (k : Nat) (h : k < l.length) : spotsOf (l.take (k + 1)) = tput (l.getD k default).lbl ⟨(l.getD k default).ver, true, (l.getD k default).rc⟩ (spotsOf (l.take k)) := by
  unfold spotsOf
  rw [List.take_succ_eq_append_getElem h, List.foldl_append, getD_lt h]
  rfl
/-- may the row k stand there, behind those ahead? -/
def rowFine (l : List Row) (k : Nat) : Prop := (tget (l.getD k default).lbl (spotsOf (l.take k))).isNone = true ∧ (l.getD k default).lbl.ok = true ∧ (l.getD k default).rc.ok = true
def rowsRight (l : List Row) : Prop := l.length ≤ 2000 ∧ ∀ k, k < l.length → rowFine l k
/-- the numbers of rows are of their kinds -/
def rowsU (l : List Row) : Prop := ∀ x ∈ l, x.lbl.u ∧ u64 x.rc.next.bits
/-- what New answers -/
def NewShelf (l : List Row) (w : World) (e : Ending) (w' : World) : Prop :=
  Ext w w' ∧ ((rowsRight l ∧ ∃ p r, e = .returned (.tuple #[.pointer (some ⟨p, 0, none⟩), .int .i64 0]) ∧ w.heap.size ≤ p ∧ w.heap.size ≤ r ∧ ShelfIs w' p r (spotsOf l) 0) ∨
    (¬ rowsRight l ∧ e = .returned (.tuple #[.pointer none, .int .i64 1])))

theorem recOk_len {r : Rec} (h : r.ok = true) : r.items.length ≤ 1000000 := by
  unfold Rec.ok at h
  rw [Bool.and_eq_true] at h
  have h2 := h.2
  have h16 : ∀ l : List Item, rowOk l = true → l.length ≤ 1000000 := fun l hl => by
    unfold rowOk at hl
    rw [Bool.and_eq_true, decide_eq_true_eq] at hl
    omega
  split at h2
  · simp only [Bool.and_eq_true, decide_eq_true_eq] at h2
    rw [h2.1.1]; decide
  · split at h2 <;> (rw [Bool.and_eq_true] at h2; exact h16 _ h2.2)
set_option maxHeartbeats 1000000 in
set_option maxRecDepth 100000 in
theorem new_c (w : World) (v : Value) (l : List Row) (hv : RowsAt w v l) (hu : rowsU l) : Calls Try.prog 20 #[v] w (NewShelf l w) := by
  have hv0 := hv
  obtain ⟨ao, c, rfl, hlc, hc, -, -⟩ := hv0
  by_cases h2000 : 2000 < l.length
  · have e2 : decide (2000 < (l.length : Int)) = true := by simp; omega
    go_enter Try.func20, Try.ntmps20
    go_wp2
    go_ret2
    exact ⟨Ext.refl w, .inr ⟨fun h => by have := h.1; omega, rfl⟩⟩
  · have e2 : decide (2000 < (l.length : Int)) = false := by simp; omega
    obtain ⟨W, hW⟩ : ∃ W : World, W = (w.alloc (.map #[] 0)).alloc (.cells #[.map (some w.heap.size), .int .i64 0] 106) := ⟨_, rfl⟩
    have hE0 : Ext w W := by rw [hW]; exact ((Ext.refl w).alloc _).alloc _
    have hM0 : MapIs W w.heap.size [] := by rw [hW]; exact (MapIs.new w).ext ((Ext.refl _).alloc _)
    have hp0 : W.cell? ⟨w.heap.size + 1, 0, none⟩ = some (.map (some w.heap.size)) := by rw [hW]; simp
    have hp1 : W.cell? ⟨w.heap.size + 1, 1, none⟩ = some (.int .i64 0) := by rw [hW]; simp
    have hpf : W.frozen? ⟨w.heap.size + 1, 1, none⟩ = false := by rw [hW]; simp
    have hWs : W.heap.size = w.heap.size + 2 := by rw [hW]; simp
    have HW := Lib.hid hW.symm; clear hW
    have HS := Lib.hid hWs; clear hWs
    have hmk := @run_makeMap Try.prog
    have HV := Lib.hid (hv.ext hE0); clear hv
    go_enter Try.func20, Try.ntmps20
    go_wp2
    rw [HW.out]
    clear hmk
    go_loopw [17] (fun i wr => ∃ k : Nat, k ≤ l.length ∧ i = .int .i64 k ∧ (∀ j, j < k → rowFine l j) ∧ (∃ m, MapIs wr w.heap.size m ∧ Pairs (SpotV wr) m (spotsOf (l.take k))) ∧ ExtM w.heap.size W wr) (fun i _ => l.length - (intOf i).toNat)
    case atStart => exact ⟨0, by omega, rfl, fun j hj => absurd hj (Nat.not_lt_zero j), ⟨[], hM0, .nil⟩, ExtM.refl _ _⟩
    case round =>
      obtain ⟨k, hk', rfl, hfine, ⟨m, hM, hP⟩, hX⟩ := hrel
      have HF := Lib.hid hfine; clear hfine
      by_cases hlt : k < l.length
      · obtain ⟨ao', c', e1, -, -, -, hget⟩ := hX.rows hM0 HV.out
        obtain ⟨rfl, rfl⟩ : ao = ao' ∧ c = c' := by simpa using e1
        obtain ⟨b, o, iv, rfl, hrow⟩ := hget k hlt
        have hsn := spotsOf_snoc l k hlt
        obtain ⟨hux, hun⟩ := hu (l.getD k default) (by rw [getD_lt hlt]; exact List.getElem_mem hlt)
        obtain ⟨x, hx⟩ : ∃ x, x = l.getD k default := ⟨_, rfl⟩
        rw [← hx] at hrow hsn hux hun
        have HX := Lib.hid hx; clear hx hget e1
        have HSN := Lib.hid hsn; clear hsn
        obtain ⟨c0, c1, c2, c3, c4, c5, c6, c7, hit⟩ := hrow
        obtain ⟨io, ic, rfl⟩ : ∃ io ic, iv = .slice io x.rc.items.length ic := by obtain ⟨io, ic, e, -⟩ := hit; exact ⟨io, ic, e⟩
        have hltp : w.heap.size + 1 < wr.heap.size := by have := hX.size; have := HS.out; omega
        have hltr : w.heap.size < wr.heap.size := by omega
        have d0 := hX.cell hM0 hp0
        obtain ⟨WA, hWA⟩ : ∃ WA : World, WA = wr.alloc (.cells #[.int .i64 x.lbl.len, .int .u64 x.lbl.bits, .int .u64 x.ver, .int .i64 x.rc.kind, .slice io x.rc.items.length ic, .int .i64 x.rc.next.len, .int .u64 x.rc.next.bits, .int .u64 x.rc.mark] 40) := ⟨_, rfl⟩
        have hEA : Ext wr WA := by rw [hWA]; exact (Ext.refl wr).alloc _
        have hzA : WA.heap.size = wr.heap.size + 1 := by rw [hWA]; simp
        have a0 : WA.cell? ⟨wr.heap.size, 0, none⟩ = some (.int .i64 x.lbl.len) := by rw [hWA]; simp
        have a1 : WA.cell? ⟨wr.heap.size, 1, none⟩ = some (.int .u64 x.lbl.bits) := by rw [hWA]; simp
        have a2 : WA.cell? ⟨wr.heap.size, 2, none⟩ = some (.int .u64 x.ver) := by rw [hWA]; simp
        have a3 : WA.cell? ⟨wr.heap.size, 3, none⟩ = some (.int .i64 x.rc.kind) := by rw [hWA]; simp
        have a4 : WA.cell? ⟨wr.heap.size, 4, none⟩ = some (.slice io x.rc.items.length ic) := by rw [hWA]; simp
        have a5 : WA.cell? ⟨wr.heap.size, 5, none⟩ = some (.int .i64 x.rc.next.len) := by rw [hWA]; simp
        have a6 : WA.cell? ⟨wr.heap.size, 6, none⟩ = some (.int .u64 x.rc.next.bits) := by rw [hWA]; simp
        have a7 : WA.cell? ⟨wr.heap.size, 7, none⟩ = some (.int .u64 x.rc.mark) := by rw [hWA]; simp
        have hMA := hM.ext hEA
        have d0A := hEA.cell d0
        have HWA := Lib.hid hWA.symm; clear hWA
        have HCM := Lib.hid (fun (W' : World) (h : ExtM w.heap.size WA W') => And.intro (h.cell hMA d0A) (And.intro (h.cell hMA a0) (And.intro (h.cell hMA a1) (And.intro (h.cell hMA a2) (And.intro (h.cell hMA a3) (And.intro (h.cell hMA a4) (And.intro (h.cell hMA a5) (And.intro (h.cell hMA a6) (h.cell hMA a7)))))))))
        have HC := Lib.hid (fun (W' : World) (h : Ext WA W') => HCM.out W' (h.m _))
        clear a2 a3 a4 a5 a6 a7
        have HzA := Lib.hid hzA; clear hzA
        have hBA : Below w.heap.size w WA := Below.trans (Below.trans hE0 (hX.below (Nat.le_refl _) (by have := HS.out; omega))) (Below.mono hEA (Nat.le_of_lt hltr))
        have HIT := Lib.hid (hit.ext hEA); clear hit
        have hlk := fun (W' : World) (hE' : Ext WA W') => run_lookup2 (hMA.ext hE') 104 108 zeroSpot Try.underlying104 zeroSpot_c x.lbl.len x.lbl.bits
        rcases hP.get x.lbl with ⟨hg1, hg2⟩ | ⟨sv, sp, hg1, hg2, hgv⟩
        · simp only [hg1, Option.getD_none, Option.isSome_none] at hlk
          unfold zeroSpot at hlk
          have HG := Lib.hid hg2; clear hg1 hg2
          go_wp2
          rw [HWA.out]
          have hSE : ∀ W', Ext WA W' → W'.cell? ⟨w.heap.size + 1, 0, none⟩ = some (.map (some w.heap.size)) ∧ W'.cell? ⟨wr.heap.size, 0, none⟩ = some (.int .i64 x.lbl.len) ∧ W'.cell? ⟨wr.heap.size, 1, none⟩ = some (.int .u64 x.lbl.bits) ∧ (Instr.lookup 104 (.map (some w.heap.size)) (.agg #[.int .i64 x.lbl.len, .int .u64 x.lbl.bits]) true).run Try.prog W' = .ok (.tuple #[.agg #[.int .u64 0, .bool false, .int .i64 0, .slice none 0 0, .int .i64 0, .int .u64 0, .int .u64 0], .bool false]) W' := fun W' h => ⟨h.cell d0A, h.cell a0, h.cell a1, hlk W' h⟩
          have HSE := Lib.hid hSE; clear hSE hlk
          go_region_held3 (fun w' => w'.cell? ⟨w.heap.size + 1, 0, none⟩ = some (.map (some w.heap.size)) ∧ w'.cell? ⟨wr.heap.size, 0, none⟩ = some (.int .i64 x.lbl.len) ∧ w'.cell? ⟨wr.heap.size, 1, none⟩ = some (.int .u64 x.lbl.bits) ∧ (Instr.lookup 104 (.map (some w.heap.size)) (.agg #[.int .i64 x.lbl.len, .int .u64 x.lbl.bits]) true).run Try.prog w' = .ok (.tuple #[.agg #[.int .u64 0, .bool false, .int .i64 0, .slice none 0 0, .int .i64 0, .int .u64 0, .int .u64 0], .bool false]) w') (exact HSE.out _ (by repeat (first | exact Ext.refl _ | apply Ext.drew | apply Ext.alloc | refine Ext.setCell ?_ (by simp) _))) (fail)
          all_goals
            by_cases hlo : x.lbl.ok = true
            · go_wp2_with fail
              refine (is_c x.lbl _ hux).mono ?_; rintro e w2 ⟨rfl, hb2⟩
              have hE2 : Ext WA w2 := Ext.trans (by repeat (first | exact Ext.refl _ | apply Ext.drew | apply Ext.alloc | refine Ext.setCell ?_ (by simp) _)) hb2
              clear hb2
              rw [hlo]
              obtain ⟨b0, b1, b2, b3, b4, b5, b6, b7, b8⟩ := HC.out _ hE2
              by_cases hro : x.rc.ok = true
              · go_wp2_with fail
                refine (recIs_c _ x.rc.kind x.rc.mark _ x.rc.items x.rc.next.len x.rc.next.bits (HIT.out.ext hE2) (fun _ => hun)).mono ?_; rintro e w3 ⟨rfl, hb3⟩
                have hE3 : Ext WA w3 := Ext.trans hE2 hb3
                clear hb3 b0 b1 b2 b3 b4 b5 b6 b7 b8
                rw [show Rec.ok ⟨x.rc.kind, x.rc.items, ⟨x.rc.next.len, x.rc.next.bits⟩, x.rc.mark⟩ = true from hro]
                have hi16 : x.rc.items.length ≤ 1000000 := recOk_len hro
                go_wp2
                clear HSE
                go_region_held3 (fun w' => w'.cell? ⟨w.heap.size + 1, 0, none⟩ = some (.map (some w.heap.size)) ∧ w'.cell? ⟨wr.heap.size, 0, none⟩ = some (.int .i64 x.lbl.len) ∧ w'.cell? ⟨wr.heap.size, 1, none⟩ = some (.int .u64 x.lbl.bits) ∧ w'.cell? ⟨wr.heap.size, 2, none⟩ = some (.int .u64 x.ver) ∧ w'.cell? ⟨wr.heap.size, 3, none⟩ = some (.int .i64 x.rc.kind) ∧ w'.cell? ⟨wr.heap.size, 4, none⟩ = some (.slice io x.rc.items.length ic) ∧ w'.cell? ⟨wr.heap.size, 5, none⟩ = some (.int .i64 x.rc.next.len) ∧ w'.cell? ⟨wr.heap.size, 6, none⟩ = some (.int .u64 x.rc.next.bits) ∧ w'.cell? ⟨wr.heap.size, 7, none⟩ = some (.int .u64 x.rc.mark)) (first | exact HC.out _ hE3.drew | exact HC.out _ (Ext.trans hE3.drew (by assumption)) | exact HCM.out _ (ExtM.trans (Ext.m _ (Ext.trans hE3.drew hb4)) hX5)) (first | (go_at_call 50; refine (own_c _ x.rc.kind x.rc.mark io ic x.rc.items x.rc.next.len x.rc.next.bits (HIT.out.ext hE3.drew) hi16).mono ?_; rintro e w4 ⟨iv4, rfl, hit4, hb4⟩; obtain ⟨w5, hru, hM5, hX5⟩ := run_update (hM.ext (Ext.trans hEA (Ext.trans hE3.drew hb4))) 104 108 Try.underlying104 x.lbl.len x.lbl.bits (.agg #[.int .u64 x.ver, .bool true, .int .i64 x.rc.kind, iv4, .int .i64 x.rc.next.len, .int .u64 x.rc.next.bits, .int .u64 x.rc.mark])) | fail)
                have hE4 := Ext.trans hEA (Ext.trans hE3.drew hb4)
                go_wp2
                go_roundw
                case rel =>
                  refine ⟨k + 1, by omega, by go_num, fun j hj => ?_, ⟨mput x.lbl (.agg #[.int .u64 x.ver, .bool true, .int .i64 x.rc.kind, iv4, .int .i64 x.rc.next.len, .int .u64 x.rc.next.bits, .int .u64 x.rc.mark]) m, hM5, ?_⟩, hX.trans ((hE4.m _).trans hX5)⟩
                  · by_cases hjk : j = k
                    · subst hjk
                      refine ⟨?_, ?_, ?_⟩
                      · rw [← HX.out, HG.out]; rfl
                      · rw [← HX.out]; exact hlo
                      · rw [← HX.out]; exact hro
                    · exact HF.out j (by omega)
                  · rw [HSN.out]
                    refine Pairs.put x.lbl ⟨iv4, rfl, hX5.items (hM.ext hE4) hit4⟩ (hP.imp fun _ _ h => ?_)
                    exact SpotV.extM hX5 (hM.ext hE4) (h.ext hE4)
                case measure => simp [intOf]; omega
              · have hro : x.rc.ok = false := by simpa using hro
                go_wp2_with fail
                refine (recIs_c _ x.rc.kind x.rc.mark _ x.rc.items x.rc.next.len x.rc.next.bits (HIT.out.ext hE2) (fun _ => hun)).mono ?_; rintro e w3 ⟨rfl, hb3⟩
                have hE3 : Ext WA w3 := Ext.trans hE2 hb3
                clear hb3 b0 b1 b2 b3 b4 b5 b6 b7 b8
                rw [show Rec.ok ⟨x.rc.kind, x.rc.items, ⟨x.rc.next.len, x.rc.next.bits⟩, x.rc.mark⟩ = false from hro]
                go_wp2
                go_ret2
                exact ⟨Below.trans hBA (Below.mono hE3 (by have := HzA.out; omega)), .inr ⟨fun hr => (by have h1 := (hr.2 k hlt).2.2; rw [← HX.out, hro] at h1; cases h1), rfl⟩⟩
            · have hlo : x.lbl.ok = false := by simpa using hlo
              go_wp2_with fail
              refine (is_c x.lbl _ hux).mono ?_; rintro e w2 ⟨rfl, hb2⟩
              have hE2 : Ext WA w2 := Ext.trans (by repeat (first | exact Ext.refl _ | apply Ext.drew | apply Ext.alloc | refine Ext.setCell ?_ (by simp) _)) hb2
              rw [hlo]
              go_wp2
              go_ret2
              exact ⟨Below.trans hBA (Below.mono hE2 (by have := HzA.out; omega)), .inr ⟨fun hr => (by have h1 := (hr.2 k hlt).2.1; rw [← HX.out, hlo] at h1; cases h1), rfl⟩⟩
        · obtain ⟨jv, rfl, hjv⟩ := hgv
          obtain ⟨jo, jc, rfl⟩ : ∃ jo jc, jv = .slice jo sp.rc.items.length jc := by obtain ⟨jo, jc, e, -⟩ := hjv; exact ⟨jo, jc, e⟩
          clear hjv
          simp only [hg1, Option.getD_some, Option.isSome_some] at hlk
          have HG := Lib.hid hg2; clear hg1 hg2
          go_wp2
          rw [HWA.out]
          have hSE : ∀ W', Ext WA W' → W'.cell? ⟨w.heap.size + 1, 0, none⟩ = some (.map (some w.heap.size)) ∧ W'.cell? ⟨wr.heap.size, 0, none⟩ = some (.int .i64 x.lbl.len) ∧ W'.cell? ⟨wr.heap.size, 1, none⟩ = some (.int .u64 x.lbl.bits) ∧ (Instr.lookup 104 (.map (some w.heap.size)) (.agg #[.int .i64 x.lbl.len, .int .u64 x.lbl.bits]) true).run Try.prog W' = .ok (.tuple #[.agg #[.int .u64 sp.ver, .bool sp.has, .int .i64 sp.rc.kind, .slice jo sp.rc.items.length jc, .int .i64 sp.rc.next.len, .int .u64 sp.rc.next.bits, .int .u64 sp.rc.mark], .bool true]) W' := fun W' h => ⟨h.cell d0A, h.cell a0, h.cell a1, hlk W' h⟩
          have HSE := Lib.hid hSE; clear hSE hlk
          go_region_held3 (fun w' => w'.cell? ⟨w.heap.size + 1, 0, none⟩ = some (.map (some w.heap.size)) ∧ w'.cell? ⟨wr.heap.size, 0, none⟩ = some (.int .i64 x.lbl.len) ∧ w'.cell? ⟨wr.heap.size, 1, none⟩ = some (.int .u64 x.lbl.bits) ∧ (Instr.lookup 104 (.map (some w.heap.size)) (.agg #[.int .i64 x.lbl.len, .int .u64 x.lbl.bits]) true).run Try.prog w' = .ok (.tuple #[.agg #[.int .u64 sp.ver, .bool sp.has, .int .i64 sp.rc.kind, .slice jo sp.rc.items.length jc, .int .i64 sp.rc.next.len, .int .u64 sp.rc.next.bits, .int .u64 sp.rc.mark], .bool true]) w') (exact HSE.out _ (by repeat (first | exact Ext.refl _ | apply Ext.drew | apply Ext.alloc | refine Ext.setCell ?_ (by simp) _))) (fail)
          all_goals
            go_wp2
            go_ret2
            refine ⟨Below.trans hBA (Below.mono (show Ext WA _ from ?_) (by have := HzA.out; omega)), .inr ⟨fun hr => (by have h1 := (hr.2 k hlt).1; rw [← HX.out, HG.out] at h1; cases h1), rfl⟩⟩
            repeat (first | exact Ext.refl _ | apply Ext.drew | apply Ext.alloc | refine Ext.setCell ?_ (by simp) _)
      · have hall : l.take k = l := List.take_of_length_le (by omega)
        rw [hall] at hP
        have hkl : k = l.length := by omega
        subst hkl
        have e0 := hX.cell hM0 hp0
        have e1 := hX.cell hM0 hp1
        have e2 := hX.free hM0 hp1 hpf
        go_wp2
        go_ret2
        exact ⟨Below.trans hE0 (hX.below (Nat.le_refl _) (by have := HS.out; omega)), .inl ⟨⟨by omega, HF.out⟩, w.heap.size + 1, w.heap.size, rfl, by omega, Nat.le_refl _, e0, e1, e2, m, hM, hP⟩⟩
end Go.Proofs.Ythgnkbkfkcdhfaa
