/- The law TrieWithout: the walk. -/
import Derived.Test.YthgnkbkfkcdhfaaBuilt
namespace Go.Proofs.Ythgnkbkfkcdhfaa
open Go.RowKit
set_option maxHeartbeats 1000000
set_option linter.unusedSimpArgs false

/-! ## Parts of a slice of rows -/
theorem run_take_rows (w : World) (a : Option Addr) (len cap i : Nat) (h : i ≤ cap) : (Instr.slice 24 (.slice a len cap) none (some (.int .i64 (i : Int))) none).run Try.prog w = .ok (.slice a i cap) w := by
  have ha : a.map (fun x => x.add 0) = a := by cases a <;> simp [Addr.add]
  simp [Instr.slice, Instr.sliceBounds, Instr.sliceBound, run_underlying Try.underlying24, Try.sizeOf40, asIntOf, go_sem, Result.andThen]
  rw [if_pos h]
theorem run_drop_rows (w : World) (b o len cap k : Nat) (h : k ≤ len) : (Instr.slice 24 (.slice (some ⟨b, o, none⟩) len cap) (some (.int .i64 (k : Int))) none none).run Try.prog w = .ok (.slice (some ⟨b, if cap = k then o else o + k * 8, none⟩) (len - k) (cap - k)) w := by
  simp [Instr.slice, Instr.sliceBounds, Instr.sliceBound, run_underlying Try.underlying24, Try.sizeOf40, asIntOf, go_sem, Result.andThen]
  rw [if_pos h]
  simp only []
  by_cases e : cap = k
  · simp [e]
  · simp [e]
theorem VecAt.take {w : World} {a : Option Addr} {n c : Nat} {L : List RRow} (h : VecAt encRow w (.slice a n c) L) (i : Nat) (hi : i ≤ L.length) : VecAt encRow w (.slice a i c) (L.take i) := by
  obtain ⟨ao, c', e, h1, h2, h3, h4⟩ := h
  simp only [Value.slice.injEq] at e
  obtain ⟨rfl, rfl, rfl⟩ := e
  refine ⟨a, c, by simp [List.length_take, Nat.min_eq_left hi], by simp; omega, h2, h3, fun j u hj => ?_⟩
  refine h4 j u ?_
  have hj' : j < (encRow.flat (L.take i)).length := (List.getElem?_eq_some_iff.1 hj).1
  have e : encRow.flat L = encRow.flat (L.take i) ++ encRow.flat (L.drop i) := by rw [← encRow.flat_append, List.take_append_drop]
  rw [e, List.getElem?_append_left hj']
  exact hj
theorem VecAt.drop {w : World} {b o n c : Nat} {L : List RRow} (h : VecAt encRow w (.slice (some ⟨b, o, none⟩) n c) L) (k : Nat) (hk : k ≤ L.length) : VecAt encRow w (.slice (some ⟨b, if c = k then o else o + k * 8, none⟩) (n - k) (c - k)) (L.drop k) := by
  obtain ⟨ao, c', e, h1, h2, h3, h4⟩ := h
  simp only [Value.slice.injEq] at e
  obtain ⟨rfl, rfl, rfl⟩ := e
  refine ⟨some ⟨b, if c = k then o else o + k * 8, none⟩, c - k, by simp, by simp; omega, by omega, (fun e => by cases e), fun j u hj => ⟨b, _, rfl, ?_⟩⟩
  have hj' : j < (encRow.flat (L.drop k)).length := (List.getElem?_eq_some_iff.1 hj).1
  have e : encRow.flat L = encRow.flat (L.take k) ++ encRow.flat (L.drop k) := by rw [← encRow.flat_append, List.take_append_drop]
  have hlen : (encRow.flat (L.take k)).length = k * 8 := by rw [encRow.flat_length, List.length_take, Nat.min_eq_left hk]; rfl
  have hne : ¬ c = k := by
    rintro rfl
    rw [encRow.flat_length, List.length_drop] at hj'
    have : L.length - c = 0 := by omega
    rw [this] at hj'
    omega
  rw [if_neg hne]
  have h5 := h4 (k * 8 + j) u (by rw [e, List.getElem?_append_right (by omega), hlen, show k * 8 + j - k * 8 = j by omega]; exact hj)
  obtain ⟨b', o', e', h6⟩ := h5
  cases e'
  rw [Nat.add_assoc]
  exact h6
theorem RowsAt.vec {w : World} {v : Value} {l : List Row} (h : RowsAt w v l) : ∃ L : List RRow, VecAt encRow w v L ∧ All2 (RowOf w) L l := by
  obtain ⟨ao, c, rfl, h1, h2, h3, h4⟩ := h
  have each : ∀ i, i < l.length → ∃ x : RRow, RowOf w x (l.getD i default) ∧ ∃ b o, ao = some ⟨b, o, none⟩ ∧ ∀ j u, (encRow.f x)[j]? = some u → w.cell? ⟨b, o + i * 8 + j, none⟩ = some u := fun i hi => by
    obtain ⟨b, o, iv, e, hr⟩ := h4 i hi
    obtain ⟨jo, jc, rfl, -⟩ := hr.it
    refine ⟨⟨(l.getD i default).lbl, (l.getD i default).ver, (l.getD i default).rc.kind, jo, (l.getD i default).rc.items.length, jc, (l.getD i default).rc.next, (l.getD i default).rc.mark⟩, ⟨rfl, rfl, rfl, rfl, rfl, hr.it⟩, b, o, e, fun j u hu => ?_⟩
    match j, hu with
    | 0, hu => cases hu; exact hr.c0
    | 1, hu => cases hu; exact hr.c1
    | 2, hu => cases hu; exact hr.c2
    | 3, hu => cases hu; exact hr.c3
    | 4, hu => cases hu; exact hr.c4
    | 5, hu => cases hu; exact hr.c5
    | 6, hu => cases hu; exact hr.c6
    | 7, hu => cases hu; exact hr.c7
    | j + 8, hu => simp [encRow] at hu
  obtain ⟨f, hf⟩ : ∃ f : Nat → RRow, ∀ i, i < l.length → RowOf w (f i) (l.getD i default) ∧ ∃ b o, ao = some ⟨b, o, none⟩ ∧ ∀ j u, (encRow.f (f i))[j]? = some u → w.cell? ⟨b, o + i * 8 + j, none⟩ = some u :=
    ⟨fun i => if h : i < l.length then Classical.choose (each i h) else default, fun i h => by simp only [h, dif_pos]; exact Classical.choose_spec (each i h)⟩
  have hgd : ∀ i, i < l.length → ((List.range l.length).map f).getD i default = f i := fun i hi => by rw [getD_lt (by simpa using hi)]; simp
  refine ⟨(List.range l.length).map f, ⟨ao, c, by simp, by simpa using h1, h2, h3, fun j u hj => ?_⟩, ?_⟩
  · have hj' : j < l.length * 8 := by
      have := (List.getElem?_eq_some_iff.1 hj).1
      rw [encRow.flat_length] at this
      simpa [encRow] using this
    have hi : j / 8 < l.length := by omega
    obtain ⟨-, b, o, e, hc⟩ := hf (j / 8) hi
    refine ⟨b, o, e, ?_⟩
    have h5 := encRow.flat_get ((List.range l.length).map f) (j / 8) (j % 8) (by simpa using hi) (Nat.mod_lt _ (by decide))
    rw [hgd _ hi] at h5
    have h6 : j / 8 * encRow.k + j % 8 = j := by show j / 8 * 8 + j % 8 = j; omega
    rw [h6, hj] at h5
    have := hc (j % 8) u h5.symm
    rwa [Nat.add_assoc, show j / 8 * 8 + j % 8 = j by omega] at this
  · have key : ∀ (m : List Row) (g : Nat → RRow), (∀ i, i < m.length → RowOf w (g i) (m.getD i default)) → All2 (RowOf w) ((List.range m.length).map g) m := by
      intro m
      induction m with
      | nil => intro g _; exact .nil
      | cons x m ih =>
        intro g hg
        rw [List.length_cons, List.range_succ_eq_map, List.map_cons, List.map_map]
        exact .cons (hg 0 (by simp)) (ih (g ∘ Nat.succ) (fun i hi => hg (i + 1) (by simpa using hi)))
    exact key l f (fun i hi => (hf i hi).1)
theorem All2.append {α β : Type} {R : α → β → Prop} {l l' : List α} {m m' : List β} (h : All2 R l m) (k : All2 R l' m') : All2 R (l ++ l') (m ++ m') := by
  induction h with
  | nil => exact k
  | cons a b ih => exact .cons a ih
theorem All2.take {α β : Type} {R : α → β → Prop} {l : List α} {m : List β} (h : All2 R l m) (k : Nat) : All2 R (l.take k) (m.take k) := by
  induction h generalizing k with
  | nil => simp; exact .nil
  | cons a b ih =>
    cases k with
    | zero => exact .nil
    | succ k => exact .cons a (ih k)
theorem All2.drop {α β : Type} {R : α → β → Prop} {l : List α} {m : List β} (h : All2 R l m) (k : Nat) : All2 R (l.drop k) (m.drop k) := by
  induction h generalizing k with
  | nil => simp; exact .nil
  | cons a b ih =>
    cases k with
    | zero => exact .cons a b
    | succ k => exact ih k
theorem wp_append_rows {ops : Array Oper} {rest : List Oper} {dst : Option Tmp} {s x : Operand} {ty : TypeId} {pos : String} {after : Array Edge} {a : Act} {Q : Exit → Act → World → Prop} {w : World}
    (B : Nat) (v : Value) (l : List RRow) (hs : a.eval s = v) (hown : VecOwn encRow 40 w B v l) (y : Value) (m : List RRow) (hx : a.eval x = y) (hy : VecAt encRow w y m)
    (hlen : l.length + m.length ≤ 1000000) (hB : B ≤ w.heap.size)
    (h : ∀ v' w', VecOwn encRow 40 w' B v' (l ++ m) → Below B w w' → w.grownBy w' v.ownBlock → wpList Try.prog ops Q rest (a.put dst v') w') :
    wpList Try.prog ops Q (⟨dst, .call { callee := .builtin .append, args := #[s, x], argTypes := #[24, 24] }, ty, pos, after, none⟩ :: rest) a w :=
  wp_append_vec encRow 40 24 _ 80 Try.underlying24 infoRow rfl (by decide) B v l hs hown y m hx hy hlen hB h
/-! ## Plain -/
theorem rowsMap_rc {l : List Row} {a : Lbl} {rc : Rec} (h : tget a (rowsMap l) = some rc) : ∃ x ∈ l, x.rc = rc := by
  have key : ∀ (m : List Row) (t : List (Lbl × Rec)), (∀ q ∈ t, ∃ x ∈ l, x.rc = q.2) → (∀ x ∈ m, x ∈ l) → ∀ q ∈ m.foldl (fun t x => tput x.lbl x.rc t) t, ∃ x ∈ l, x.rc = q.2 := by
    intro m
    induction m with
    | nil => intro t ht _ q hq; exact ht q hq
    | cons y m ih =>
      intro t ht hm
      rw [List.foldl_cons]
      refine ih _ (fun q hq => ?_) (fun x hx => hm x (List.mem_cons_of_mem _ hx))
      have aux : ∀ (t : List (Lbl × Rec)), (∀ q ∈ t, ∃ x ∈ l, x.rc = q.2) → ∀ q ∈ tput y.lbl y.rc t, ∃ x ∈ l, x.rc = q.2 := by
        intro t
        induction t with
        | nil =>
          intro _ q hq
          simp only [tput, List.mem_singleton] at hq
          subst hq
          exact ⟨y, hm y List.mem_cons_self, rfl⟩
        | cons p t ih2 =>
          obtain ⟨k, u⟩ := p
          intro ht q hq
          simp only [tput] at hq
          split at hq
          · rcases List.mem_cons.1 hq with rfl | hq
            · exact ⟨y, hm y List.mem_cons_self, rfl⟩
            · exact ht q (List.mem_cons_of_mem _ hq)
          · rcases List.mem_cons.1 hq with rfl | hq
            · exact ht _ List.mem_cons_self
            · exact ih2 (fun q hq => ht q (List.mem_cons_of_mem _ hq)) q hq
      exact aux t ht q hq
  exact key l [] (fun q hq => by cases hq) (fun x hx => hx) _ (tget_some h)
/-- the rows' items are few, their keys numbers -/
def itemsU (l : List Row) : Prop := ∀ x ∈ l, x.rc.items.length ≤ 100000 ∧ ∀ y ∈ x.rc.items, u64 y.key
theorem itemsU.tree {l : List Row} (h : itemsU l) : treeU (rowsMap l) := by
  intro a rc hrc
  obtain ⟨x, hx, rfl⟩ := rowsMap_rc hrc
  exact h x hx
theorem final_itemsU {l : List Item} {b : Int} (h : Fit l b) (hl : l.length ≤ 100000) : itemsU (finalRows (shape b 65 l rootLbl)) := by
  intro x hx
  have hm : (x.lbl, x.rc) ∈ rowsMap (finalRows (shape b 65 l rootLbl)) := by rw [final_map h]; exact List.mem_map.2 ⟨x, hx, rfl⟩
  exact final_treeU h hl x.lbl x.rc (tget_mem (map_nodup h) hm)
theorem leavesOf_set {l : List Row} {i : Nat} (hi : i < l.length) (nxt : Lbl) : leavesOf (l.take i ++ { l[i] with rc := { l[i].rc with next := nxt } } :: l.drop (i + 1)) = leavesOf l := by
  unfold leavesOf
  conv => rhs; rw [← List.take_append_drop i l, List.drop_eq_getElem_cons hi]
  simp only [List.filter_append, List.map_append]
  congr 1
  simp only [List.filter_cons]
  split <;> simp
theorem heap_new1 (w : World) (x y : Obj) : ((w.alloc x).alloc y).heap[w.heap.size + 1]? = some y := by
  have := heap_alloc_new (w.alloc x) y
  simpa using this
theorem rowsU_sub {l m : List Row} (h : rowsU l) (hm : ∀ x ∈ m, x ∈ l) : rowsU m := fun x hx => h x (hm x hx)
theorem itemsU_sub {l m : List Row} (h : itemsU l) (hm : ∀ x ∈ m, x ∈ l) : itemsU m := fun x hx => h x (hm x hx)
theorem mem_rest {l : List Row} {n : Nat} {x : Row} (h : x ∈ l.take n ++ l.drop (n + 1)) : x ∈ l := by
  rcases List.mem_append.1 h with h | h
  · exact List.mem_of_mem_take h
  · exact List.mem_of_mem_drop h
set_option maxRecDepth 100000 in
theorem withoutLaw_c (w : World) (v : Value) (l : List Item) (b i : Int) (nxt : Lbl) (hv : ItemsAt w v l) (hu : ∀ x ∈ l, u64 x.key) (hnu : nxt.u) (hi64 : -9223372036854775808 ≤ i ∧ i ≤ 9223372036854775807) :
    Calls Try.prog 4 #[v, .int .i64 b, .int .i64 i, .agg #[.int .i64 nxt.len, .int .u64 nxt.bits]] w fun e w' => e = .returned (.bool true) ∧ Ext w w' := by
  obtain ⟨io, ic, rfl⟩ : ∃ io ic, v = .slice io l.length ic := by obtain ⟨io, ic, e, -⟩ := hv; exact ⟨io, ic, e⟩
  obtain ⟨W0, hW0⟩ : ∃ W0 : World, W0 = w.alloc (.cells #[.int .i64 nxt.len, .int .u64 nxt.bits] 36) := ⟨_, rfl⟩
  have hE0 : Ext w W0 := by rw [hW0]; exact (Ext.refl w).alloc _
  have n0 : W0.cell? ⟨w.heap.size, 0, none⟩ = some (.int .i64 nxt.len) := by rw [hW0]; go_simp
  have n1 : W0.cell? ⟨w.heap.size, 1, none⟩ = some (.int .u64 nxt.bits) := by rw [hW0]; go_simp
  have HW0 := Lib.hid hW0.symm; clear hW0
  have HN := Lib.hid (And.intro n0 n1); clear n0 n1
  have hvW := hv.ext hE0
  go_enter Try.func4, Try.ntmps4
  go_wp2_with fail
  rw [HW0.out]
  refine (few24_c W0 _ l hvW).mono ?_
  rintro e w' ⟨q, rfl, hq, rfl⟩
  cases q
  · go_wp2
    go_ret
    exact ⟨rfl, hE0⟩
  · have h60 : l.length ≤ 60 := hq rfl
    clear hq
    go_wp2_with fail
    refine (build_c w' _ l b hvW (by omega) hu).mono ?_
    rintro e w2 ⟨hE2, (⟨-, rfl⟩ | ⟨-, -, rfl⟩ | ⟨hgood, -, hgrow, v2, rfl, hR2⟩)⟩
    · go_wp2_with fail
      refine (grown_c w2).mono ?_
      rintro e w3 ⟨rfl, hE3⟩
      go_wp2
      go_ret
      exact ⟨rfl, (hE0.trans hE2).trans hE3⟩
    · go_wp2_with fail
      refine (grown_c w2).mono ?_
      rintro e w3 ⟨rfl, hE3⟩
      go_wp2
      go_ret
      exact ⟨rfl, (hE0.trans hE2).trans hE3⟩
    · have hfit := Fit.of hgood hu
      have hlenR := shape_len hfit hgrow
      have hU := final_U hfit
      have hIU := final_itemsU hfit (by omega)
      have hwo := without_not hfit
      have hot := other_not hfit
      have hlv := @final_lv l b hfit
      have hfl := final_len hfit
      rw [← hfl] at hlenR hwo hot
      obtain ⟨R, hR⟩ : ∃ R, R = finalRows (shape b 65 l rootLbl) := ⟨_, rfl⟩
      obtain ⟨ls, hls⟩ : ∃ ls, ls = leafLbls (shape b 65 l rootLbl) := ⟨_, rfl⟩
      rw [← hR] at hR2 hlenR hU hIU hlv hwo hot
      rw [← hls] at hlv hot
      clear hR hls hfit hgrow hgood hfl
      have HLV := Lib.hid (fun lv h1 h2 => @hlv lv h1 h2); have HWO := Lib.hid hwo; have HOT := Lib.hid hot
      clear hlv hwo hot
      have hE02 := hE0.trans hE2
      obtain ⟨ao, c, rfl, hRc, hc9, -, hrow⟩ := id hR2
      by_cases hneg : i < 0
      · go_wp2_with fail
        refine (grown_c w2).mono ?_
        rintro e w3 ⟨rfl, hE3⟩
        go_wp2
        go_ret
        exact ⟨rfl, hE02.trans hE3⟩
      · by_cases hge : (R.length : Int) ≤ i
        · go_wp2_with fail
          refine (grown_c w2).mono ?_
          rintro e w3 ⟨rfl, hE3⟩
          go_wp2
          go_ret
          exact ⟨rfl, hE02.trans hE3⟩
        · obtain ⟨n, rfl⟩ := Int.eq_ofNat_of_zero_le (show 0 ≤ i by omega)
          have hn : n < R.length := by omega
          obtain ⟨L, hVA, hAA⟩ := hR2.vec
          have hLl := hAA.length
          obtain ⟨b0, o0, iv, rfl, hr⟩ := hrow n hn
          obtain ⟨jo, jc, rfl⟩ : ∃ jo jc, iv = .slice jo (R.getD n default).rc.items.length jc := by obtain ⟨jo, jc, e, -⟩ := hr.it; exact ⟨jo, jc, e⟩
          have hxm : R.getD n default ∈ R := by rw [getD_lt hn]; exact List.getElem_mem hn
          obtain ⟨r, hr0⟩ : ∃ r, r = R.getD n default := ⟨_, rfl⟩
          rw [← hr0] at hr hxm
          have hsl1 := fun (W : World) => run_take_rows W (some ⟨b0, o0, none⟩) R.length c n (by omega)
          have hsl2 := fun (W : World) => run_drop_rows W b0 o0 R.length c (n + 1) (by omega)
          simp only [Int.natCast_add, Int.cast_ofNat_Int] at hsl2
          have hdr := fun (W' : World) (h : Ext w2 W') => (hVA.ext h).drop (n + 1) (by omega)
          obtain ⟨od, hod⟩ : ∃ od : Nat, od = if c = n + 1 then o0 else o0 + (n + 1) * 8 := ⟨_, rfl⟩
          obtain ⟨dl, hdl⟩ : ∃ dl : Nat, dl = R.length - (n + 1) := ⟨_, rfl⟩
          obtain ⟨dc, hdc⟩ : ∃ dc : Nat, dc = c - (n + 1) := ⟨_, rfl⟩
          rw [← hod, ← hdl, ← hdc] at hdr
          simp only [← hod, ← hdl, ← hdc] at hsl2
          have HDR := Lib.hid hdr
          clear hod hdl hdc hdr
          have HR0 := Lib.hid hr0; have HLL := Lib.hid hLl
          have HVA := Lib.hid hVA; have HAA := Lib.hid hAA; have HR := Lib.hid hr; have HROW := Lib.hid hrow
          clear hr0 hLl hVA hAA hr hrow hR2 hneg hge
          have hnI : (n : Int) < (R.length : Int) := by omega
          obtain ⟨sm, hsm⟩ : ∃ sm, lblEq r.rc.next.len r.rc.next.bits nxt.len nxt.bits = sm := ⟨_, rfl⟩
          go_wp2_with (first
            | (at_builtin; refine wp_append_rows w2.heap.size _ [] rfl (VecOwn.nil encRow 40 w2 w2.heap.size) _ (L.take n) rfl (HVA.out.take n (by have := HLL.out; omega)) (by have := HLL.out; simp only [List.length_take, List.length_nil]; omega) (Nat.le_refl _) ?_; intro vA wA hownA hBA hgA; rw [List.nil_append] at hownA; have hszA := hBA.size)
            | (at_builtin; refine wp_append_rows w2.heap.size vA (L.take n) rfl hownA _ (L.drop (n + 1)) rfl (HDR.out _ hBA) (by have := HLL.out; simp only [List.length_take, List.length_drop]; omega) hszA ?_; intro vB wB hownB hBB hgB; have hAB : Ext w2 wB := Below.trans hBA hBB; have hszB := hAB.size; clear hownA hBA hBB hgA hgB)
            | (at_builtin; refine wp_append_rows wB.heap.size _ [] rfl (VecOwn.nil encRow 40 wB wB.heap.size) _ (L.take n) rfl ((HVA.out.ext hAB).take n (by have := HLL.out; omega)) (by have := HLL.out; simp only [List.length_take, List.length_nil]; omega) (Nat.le_refl _) ?_; intro vC wC hownC hBC hgC; rw [List.nil_append] at hownC; have hBC' : Ext wB wC := hBC; have hAC := hAB.trans hBC'; obtain ⟨q0, q1, q2, q3, q4, q5, q6, q7, hit⟩ := HR.out.ext hAC; have hEC : Ext w' wC := hE2.trans hAC; have m0 := hEC.cell HN.out.1; have m1 := hEC.cell HN.out.2; have hltw : w.heap.size < wC.heap.size := World.block_lt_of_cell? _ _ m0; have hltb : b0 < wC.heap.size := World.block_lt_of_cell? _ _ q0; have hszC := hBC'.size; clear hit hBC hgC)
            | (at_builtin; refine wp_append_row wB.heap.size vC (L.take n) rfl ((hownC.ext ((Ext.refl wC).alloc _)).ext ((Ext.refl _).alloc _)) (wC.heap.size + 1) ⟨r.lbl, r.ver, r.rc.kind, jo, r.rc.items.length, jc, nxt, r.rc.mark⟩ rfl (heap_new1 _ _ _) (by have := HLL.out; simp only [List.length_take]; omega) (by simp only [World.size_alloc]; omega) ?_; intro vE wE hownE hBE hgE; have hCE : Below wB.heap.size wC wE := Below.trans (((Below.refl _ wC).alloc (by omega) _).alloc (by simp only [World.size_alloc]; omega) _) hBE; have hBE' : Ext wB wE := Below.trans hBC' hCE; have hAE := hAB.trans hBE'; have hszE := hBE'.size; clear hownC hBE hgE hCE)
            | (at_builtin; refine wp_append_rows wB.heap.size vE (L.take n ++ [⟨r.lbl, r.ver, r.rc.kind, jo, r.rc.items.length, jc, nxt, r.rc.mark⟩]) rfl hownE _ (L.drop (n + 1)) rfl (HDR.out _ hAE) (by have := HLL.out; simp only [List.length_append, List.length_take, List.length_drop, List.length_cons, List.length_nil]; omega) hszE ?_; intro vF wF hownF hBF hgF)
            | (go_at_call 9; fail))
          have hBF' : Ext wB wF := Below.trans hBE' hBF
          have hAF := hAB.trans hBF'
          have haa := HAA.out.imp fun x r h => RowOf.ext h hAF
          have hrest : RowsAt wF vB (R.take n ++ R.drop (n + 1)) := VecAt.rows (hownB.ext hBF').at' (All2.append (haa.take n) (haa.drop (n + 1)))
          have hother : RowsAt wF vF (R.take n ++ { r with rc := { r.rc with next := nxt } } :: R.drop (n + 1)) := by
            have hone : All2 (RowOf wF) [(⟨r.lbl, r.ver, r.rc.kind, jo, r.rc.items.length, jc, nxt, r.rc.mark⟩ : RRow)] [({ r with rc := { r.rc with next := nxt } } : Row)] := .cons ⟨rfl, rfl, rfl, rfl, rfl, (HR.out.ext hAF).it⟩ .nil
            have h1 := VecAt.rows hownF.at' (All2.append (All2.append (haa.take n) hone) (haa.drop (n + 1)))
            rw [List.append_assoc] at h1
            exact h1
          have hUr := rowsU_sub hU (fun x hx => mem_rest (n := n) hx)
          have hIr := itemsU_sub hIU (fun x hx => mem_rest (n := n) hx)
          have hmo : ∀ x ∈ R.take n ++ { r with rc := { r.rc with next := nxt } } :: R.drop (n + 1), x ∈ R ∨ x = { r with rc := { r.rc with next := nxt } } := fun x hx => by
            rcases List.mem_append.1 hx with hx | hx
            · exact .inl (List.mem_of_mem_take hx)
            · rcases List.mem_cons.1 hx with rfl | hx
              · exact .inr rfl
              · exact .inl (List.mem_of_mem_drop hx)
          have hUo : rowsU (R.take n ++ { r with rc := { r.rc with next := nxt } } :: R.drop (n + 1)) := fun x hx => by
            rcases hmo x hx with h | rfl
            · exact hU x h
            · exact ⟨(hU r hxm).1, hnu⟩
          have hIo : itemsU (R.take n ++ { r with rc := { r.rc with next := nxt } } :: R.drop (n + 1)) := fun x hx => by
            rcases hmo x hx with h | rfl
            · exact hIU x h
            · exact hIU r hxm
          have hEF := hE02.trans hAF
          have hll : (R.take n ++ { r with rc := { r.rc with next := nxt } } :: R.drop (n + 1)).length ≤ 100000 := by simp only [List.length_append, List.length_take, List.length_cons, List.length_drop]; omega
          have hlr : (R.take n ++ R.drop (n + 1)).length ≤ 100000 := by simp only [List.length_append, List.length_take, List.length_drop]; omega
          have HUI := Lib.hid (And.intro hUr (And.intro hIr (And.intro hUo hIo)))
          have HLN := Lib.hid (And.intro hll hlr)
          clear hUr hIr hUo hIo hmo haa hownB hownE hownF hBF hgF hll hlr q0 q1 q2 q3 q4 q5 q6 q7 m0 m1
          go_wp2_with fail
          refine (grown_c wF).mono ?_
          rintro e w7 ⟨rfl, hE7⟩
          go_wp2_with fail
          refine (well_c w7 vB _ b (hrest.ext hE7) HUI.out.1 HUI.out.2.1.tree HLN.out.2).mono ?_
          rintro e w8 ⟨lv, -, -, hE8, q, rfl, hq⟩
          have hqf : q = false := by
            cases q
            · rfl
            · exact absurd (hq.1 rfl) (HWO.out n hn lv)
          subst hqf
          clear hq
          cases sm
          · go_wp2_with fail
            refine (well_c w8 vF _ b ((hother.ext hE7).ext hE8) HUI.out.2.2.1 HUI.out.2.2.2.tree HLN.out.1).mono ?_
            rintro e w9 ⟨lv, hp9, hs9, hE9, q, rfl, hq⟩
            have hrn : r = R[n] := by rw [HR0.out, getD_lt hn]
            have hlvo : lv = ls := by
              refine HLV.out lv ?_ hs9
              rw [hrn, leavesOf_set hn] at hp9
              exact hp9
            have hne : r.rc.next ≠ nxt := by
              intro e
              unfold lblEq at hsm
              rw [decide_eq_false_iff_not] at hsm
              exact hsm e
            have hqf : q = false := by
              cases q
              · rfl
              · exfalso
                have := hq.1 rfl
                rw [hlvo] at this
                exact HOT.out n hn nxt r (by rw [hrn]; exact List.getElem?_eq_getElem hn) hne this
            subst hqf
            clear hq hne hlvo hrn hp9 hs9
            go_wp2
            go_ret
            exact ⟨rfl, ((hEF.trans hE7).trans hE8).trans hE9⟩
          · go_wp2
            go_ret
            exact ⟨rfl, (hEF.trans hE7).trans hE8⟩
end Go.Proofs.Ythgnkbkfkcdhfaa
