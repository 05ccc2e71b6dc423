/- Maps whose keys are labels. -/
import Derived.Test.YthgnkbkfkcdhfaaSlices4
namespace Go.Proofs.Ythgnkbkfkcdhfaa
open Go.RowKit
set_option maxHeartbeats 400000

def Lbl.v (l : Lbl) : Value := .agg #[.int .i64 l.len, .int .u64 l.bits]
/-- an entry: its label, its value, its stamp -/
structure Ent where
  lbl : Lbl
  val : Value
  born : Nat
def Ent.e (x : Ent) : MapEntry := { key := x.lbl.v, val := x.val, born := x.born }
def entFind (l : Lbl) : List Ent → Nat → Option (Nat × Value)
  | [], _ => none
  | e :: es, i => if e.lbl = l then some (i, e.val) else entFind l es (i + 1)
theorem checkKey_c (e : Bool) (l : Lbl) (w : World) : (Instr.checkKey e 10000 36 l.v).run Try.prog w = .ok () w := by
  unfold Lbl.v
  kernel_rfl
theorem findAsking_c (l : Lbl) (w : World) : ∀ (es : List Ent) (i : Nat), (Instr.findAsking 36 l.v (es.map Ent.e) i).run Try.prog w = .ok (entFind l es i) w
  | [], i => by simp [Instr.findAsking, entFind]
  | x :: es, i => by
    have he := eqLabel 9998 l.len x.lbl.len l.bits x.lbl.bits w
    have ih := findAsking_c l w es (i + 1)
    simp only [List.map_cons, Instr.findAsking, Sem.run_bind, Op.equal, Op.maxDepth]
    rw [show (Op.equalIn 10000 36 l.v x.e.key).run Try.prog w = .ok (decide (l = x.lbl)) w from he]
    simp only [Result.andThen_ok, entFind]
    by_cases h : l = x.lbl
    · simp [h, Ent.e]
    · have h' : ¬ x.lbl = l := fun e => h e.symm
      simp [h, h', ih]
theorem findKey_c (l : Lbl) (es : List Ent) (w : World) : (Instr.findKey 36 l.v (es.map Ent.e)).run Try.prog w = .ok (entFind l es 0) w := by
  unfold Instr.findKey
  simp only [Sem.run_bind, run_underlying Try.underlying36, Result.andThen_ok]
  cases es with
  | nil => simp [Instr.findNow, entFind]
  | cons x es => 
    have : ∀ d, Instr.findNow (.struct d) l.v ((x :: es).map Ent.e) 0 = none := fun d => rfl
    rw [this]
    exact findAsking_c l w (x :: es) 0

/-! ## As an association list -/
def mget (l : Lbl) : List (Lbl × Value) → Option Value
  | [] => none
  | (k, u) :: m => if k = l then some u else mget l m
def mput (l : Lbl) (v : Value) : List (Lbl × Value) → List (Lbl × Value)
  | [] => [(l, v)]
  | (k, u) :: m => if k = l then (l, v) :: m else (k, u) :: mput l v m
def Ent.p (x : Ent) : Lbl × Value := (x.lbl, x.val)
theorem entFind_get (l : Lbl) : ∀ (es : List Ent) (i : Nat), (entFind l es i).map (·.2) = mget l (es.map Ent.p)
  | [], _ => rfl
  | x :: es, i => by
    simp only [entFind, List.map_cons, mget, Ent.p]
    split
    · rfl
    · exact entFind_get l es (i + 1)
theorem entFind_some (l : Lbl) (v u : Value) : ∀ (es : List Ent) (i j : Nat), entFind l es i = some (j, u) → i ≤ j ∧ j - i < es.length ∧
    ((es.modify (j - i) fun e => { e with val := v }).map Ent.p = mput l v (es.map Ent.p)) ∧ (es[j - i]?).map (·.lbl) = some l
  | [], _, _, h => by cases h
  | x :: es, i, j, h => by
    simp only [entFind] at h
    split at h
    · rename_i hx
      obtain ⟨rfl, rfl⟩ : i = j ∧ x.val = u := by simpa using h
      simp [mput, Ent.p, hx]
    · rename_i hx
      obtain ⟨h1, h2, h3, h4⟩ := entFind_some l v u es (i + 1) j h
      obtain ⟨d, rfl⟩ : ∃ d, j = i + 1 + d := ⟨j - (i + 1), by omega⟩
      simp only [show i + 1 + d - (i + 1) = d by omega] at h2 h3 h4
      refine ⟨by omega, by simp; omega, ?_, ?_⟩
      · rw [show i + 1 + d - i = d + 1 by omega]
        simp only [List.modify_succ_cons, List.map_cons, mput, Ent.p, hx, if_false]
        congr 1
      · rw [show i + 1 + d - i = d + 1 by omega]
        simpa using h4
theorem entFind_none (l : Lbl) (v : Value) : ∀ (es : List Ent) (i : Nat), entFind l es i = none → mput l v (es.map Ent.p) = es.map Ent.p ++ [(l, v)] ∧ ∀ x ∈ es, x.lbl ≠ l
  | [], _, _ => ⟨rfl, fun _ h => by cases h⟩
  | x :: es, i, h => by
    simp only [entFind] at h
    split at h
    · cases h
    · rename_i hx
      obtain ⟨h1, h2⟩ := entFind_none l v es (i + 1) h
      refine ⟨?_, fun y hy => ?_⟩
      · simp only [List.map_cons, mput, Ent.p, hx, if_false, List.cons_append]
        congr 1
      · rcases List.mem_cons.1 hy with rfl | hy
        · exact hx
        · exact h2 y hy

theorem map_modify_same {α β : Type} (f : α → β) (g : α → α) (l : List α) (h : ∀ x, f (g x) = f x) {j : Nat} : (l.modify j g).map f = l.map f := by
  apply List.ext_getElem?
  intro i
  simp only [List.getElem?_map, List.getElem?_modify]
  split
  · cases l[i]? <;> simp [h]
  · cases l[i]? <;> simp
/-- block r is a map that reads as m, in the order of its stamps -/
def MapIs (w : World) (r : Nat) (m : List (Lbl × Value)) : Prop :=
  ∃ (es : List Ent) (clock : Nat), w.heap[r]? = some (.map (es.map Ent.e).toArray clock) ∧ es.map Ent.p = m ∧ (es.map (·.lbl)).Nodup ∧ (es.map (·.born)).Nodup ∧ ∀ x ∈ es, x.born < clock
theorem MapIs.lt {w : World} {r : Nat} {m : List (Lbl × Value)} (h : MapIs w r m) : r < w.heap.size := by
  obtain ⟨es, c, hh, -⟩ := h
  rcases Nat.lt_or_ge r w.heap.size with h' | h'
  · exact h'
  · simp [Array.getElem?_eq_none h'] at hh
theorem MapIs.ext {w w' : World} {r : Nat} {m : List (Lbl × Value)} (h : MapIs w r m) (he : Ext w w') : MapIs w' r m := by
  have hl := h.lt
  obtain ⟨es, c, hh, hr⟩ := h
  exact ⟨es, c, by rw [he.block r hl]; exact hh, hr⟩
theorem MapIs.new (w : World) : MapIs (w.alloc (.map #[] 0)) w.heap.size [] := ⟨[], 0, heap_alloc_new _ _, rfl, List.nodup_nil, List.nodup_nil, fun _ h => by cases h⟩
theorem MapIs.nodup {w : World} {r : Nat} {m : List (Lbl × Value)} (h : MapIs w r m) : (m.map (·.1)).Nodup := by
  obtain ⟨es, c, hh, rfl, hn, -⟩ := h
  rw [List.map_map]; exact hn

/-- only block r may have turned -/
structure ExtM (r : Nat) (w w' : World) : Prop where
  os : w'.os = w.os
  tape : w'.tape = w.tape
  output : w'.output = w.output
  size : w.heap.size ≤ w'.heap.size
  block : ∀ k, k < w.heap.size → k ≠ r → w'.heap[k]? = w.heap[k]?
theorem ExtM.refl (r : Nat) (w : World) : ExtM r w w := ⟨rfl, rfl, rfl, Nat.le_refl _, fun _ _ _ => rfl⟩
theorem ExtM.trans {r : Nat} {a b c : World} (h : ExtM r a b) (k : ExtM r b c) : ExtM r a c :=
  ⟨k.os.trans h.os, k.tape.trans h.tape, k.output.trans h.output, Nat.le_trans h.size k.size, fun i hi hr => (k.block i (Nat.lt_of_lt_of_le hi h.size) hr).trans (h.block i hi hr)⟩
theorem Ext.m {w w' : World} (r : Nat) (h : Ext w w') : ExtM r w w' := by
  have k1 := Below.os h; have k2 := Below.tape h; have k3 := Below.output h; have k4 := Below.size h; have k5 := Below.block h
  exact ⟨k1, k2, k3, k4, fun i hi _ => k5 i hi⟩
theorem ExtM.below {r B : Nat} {a b : World} (h : ExtM r a b) (hr : B ≤ r) (hB : B ≤ a.heap.size) : Below B a b := ⟨h.os, h.tape, h.output, h.size, fun k hk => h.block k (by omega) (by omega)⟩
theorem ExtM.cell {r : Nat} {w w' : World} {m : List (Lbl × Value)} (h : ExtM r w w') (hm : MapIs w r m) {a : Addr} {v : Value} (hc : w.cell? a = some v) : w'.cell? a = some v := by
  have hne : a.block ≠ r := by
    intro e
    obtain ⟨es, c, hh, -⟩ := hm
    rw [← e] at hh
    simp [World.cell?, hh] at hc
  rw [World.cell?_of_block (h.block a.block (World.block_lt_of_cell? _ _ hc) hne)]; exact hc
theorem ExtM.free {r : Nat} {w w' : World} {m : List (Lbl × Value)} (h : ExtM r w w') (hm : MapIs w r m) {a : Addr} {v : Value} (hc : w.cell? a = some v) (hf : w.frozen? a = false) : w'.frozen? a = false := by
  have hne : a.block ≠ r := by
    intro e
    obtain ⟨es, c, hh, -⟩ := hm
    rw [← e] at hh
    simp [World.cell?, hh] at hc
  have hlt := World.block_lt_of_cell? _ _ hc
  simp only [World.frozen?, h.block _ hlt hne] at hf ⊢
  exact hf
theorem ExtM.items {r : Nat} {w w' : World} {m : List (Lbl × Value)} (h : ExtM r w w') (hm : MapIs w r m) {v : Value} {l : List Item} (hi : ItemsAt w v l) : ItemsAt w' v l := by
  obtain ⟨ao, c, h1, h2, h3, h4, h5⟩ := hi
  refine ⟨ao, c, h1, h2, h3, h4, fun i hi => ?_⟩
  obtain ⟨b, o, e, c1, c2⟩ := h5 i hi
  exact ⟨b, o, e, h.cell hm c1, h.cell hm c2⟩

theorem run_getObj_map {w : World} {r : Nat} {es : Array MapEntry} {c : Nat} (h : w.heap[r]? = some (.map es c)) : (getObj r).run Try.prog w = .ok (.map es c) w := by
  simp [getObj, Sem.run, h]
theorem run_lookup2 {w : World} {r : Nat} {m : List (Lbl × Value)} (h : MapIs w r m) (T E : TypeId) (z : Value) (hT : Try.prog.underlying T = some (.map 36 E)) (hz : ∀ w, (zeroValue E).run Try.prog w = .ok z w) (a b : Int) :
    (Instr.lookup T (.map (some r)) (.agg #[.int .i64 a, .int .u64 b]) true).run Try.prog w = .ok (.tuple #[(mget ⟨a, b⟩ m).getD z, .bool (mget ⟨a, b⟩ m).isSome]) w := by
  obtain ⟨es, c, hh, rfl, -⟩ := h
  have h1 : ∀ e, (Instr.checkKey e 10000 36 (.agg #[.int .i64 a, .int .u64 b])).run Try.prog w = .ok () w := fun e => checkKey_c e ⟨a, b⟩ w
  have h2 : (Instr.findKey 36 (.agg #[.int .i64 a, .int .u64 b]) (es.map Ent.e)).run Try.prog w = .ok (entFind ⟨a, b⟩ es 0) w := findKey_c ⟨a, b⟩ es w
  have h3 := entFind_get ⟨a, b⟩ es 0
  rw [← h3]
  simp only [Instr.lookup, Sem.run_bind, run_underlying hT, Result.andThen_ok, run_getObj_map hh]
  simp only [Sem.run_pure, Result.andThen_ok, h1, h2]
  cases entFind ⟨a, b⟩ es 0 with
  | none => simp [hz]
  | some p => simp
theorem run_lookup1 {w : World} {r : Nat} {m : List (Lbl × Value)} (h : MapIs w r m) (T E : TypeId) (z : Value) (hT : Try.prog.underlying T = some (.map 36 E)) (hz : ∀ w, (zeroValue E).run Try.prog w = .ok z w) (a b : Int) :
    (Instr.lookup T (.map (some r)) (.agg #[.int .i64 a, .int .u64 b]) false).run Try.prog w = .ok ((mget ⟨a, b⟩ m).getD z) w := by
  obtain ⟨es, c, hh, rfl, -⟩ := h
  have h1 : ∀ e, (Instr.checkKey e 10000 36 (.agg #[.int .i64 a, .int .u64 b])).run Try.prog w = .ok () w := fun e => checkKey_c e ⟨a, b⟩ w
  have h2 : (Instr.findKey 36 (.agg #[.int .i64 a, .int .u64 b]) (es.map Ent.e)).run Try.prog w = .ok (entFind ⟨a, b⟩ es 0) w := findKey_c ⟨a, b⟩ es w
  have h3 := entFind_get ⟨a, b⟩ es 0
  rw [← h3]
  simp only [Instr.lookup, Sem.run_bind, run_underlying hT, Result.andThen_ok, run_getObj_map hh]
  simp only [Sem.run_pure, Result.andThen_ok, h1, h2]
  cases entFind ⟨a, b⟩ es 0 with
  | none => simp [hz]
  | some p => simp
theorem run_update {w : World} {r : Nat} {m : List (Lbl × Value)} (h : MapIs w r m) (T E : TypeId) (hT : Try.prog.underlying T = some (.map 36 E)) (a b : Int) (v : Value) :
    ∃ w', (Instr.mapUpdate T (.map (some r)) (.agg #[.int .i64 a, .int .u64 b]) v).run Try.prog w = .ok () w' ∧ MapIs w' r (mput ⟨a, b⟩ v m) ∧ ExtM r w w' := by
  have hlt := h.lt
  obtain ⟨es, c, hh, rfl, hn1, hn2, hb⟩ := h
  have h1 : ∀ e, (Instr.checkKey e 10000 36 (.agg #[.int .i64 a, .int .u64 b])).run Try.prog w = .ok () w := fun e => checkKey_c e ⟨a, b⟩ w
  have h2 : (Instr.findKey 36 (.agg #[.int .i64 a, .int .u64 b]) (es.map Ent.e)).run Try.prog w = .ok (entFind ⟨a, b⟩ es 0) w := findKey_c ⟨a, b⟩ es w
  have hset : ∀ o : Obj, (setObj r o).run Try.prog w = .ok () { w with heap := w.heap.setIfInBounds r o } := fun o => by simp [setObj, Sem.run, hh]
  have hX : ∀ o : Obj, ExtM r w { w with heap := w.heap.setIfInBounds r o } := fun o => ⟨rfl, rfl, rfl, by simp, fun k hk hr => by
    show (w.heap.setIfInBounds r o)[k]? = _
    rw [Array.getElem?_setIfInBounds_ne (fun e => hr e.symm)]⟩
  have hG : ∀ o : Obj, ({ w with heap := w.heap.setIfInBounds r o } : World).heap[r]? = some o := fun o => by
    show (w.heap.setIfInBounds r o)[r]? = _
    rw [Array.getElem?_setIfInBounds_self_of_lt hlt]
  cases hf : entFind ⟨a, b⟩ es 0 with
  | none =>
    obtain ⟨e1, e2⟩ := entFind_none ⟨a, b⟩ v es 0 hf
    have hp : (es.map Ent.e).toArray.push { key := .agg #[.int .i64 a, .int .u64 b], val := v, born := c } = ((es ++ [(⟨⟨a, b⟩, v, c⟩ : Ent)]).map Ent.e).toArray := by simp [Ent.e, Lbl.v]
    refine ⟨{ w with heap := w.heap.setIfInBounds r (.map ((es ++ [(⟨⟨a, b⟩, v, c⟩ : Ent)]).map Ent.e).toArray (c + 1)) }, ?_, ⟨es ++ [(⟨⟨a, b⟩, v, c⟩ : Ent)], c + 1, hG _, ?_, ?_, ?_, ?_⟩, hX _⟩
    · simp only [Instr.mapUpdate, Sem.run_bind, run_underlying hT, Result.andThen_ok, run_getObj_map hh, h1, h2, hf]
      rw [hset, hp]
    · rw [e1]; simp [Ent.p]
    · rw [List.map_append, List.nodup_append]
      refine ⟨hn1, by simp, fun x hx y hy => ?_⟩
      obtain ⟨z, hz, rfl⟩ := List.mem_map.1 hx
      simp only [List.map_cons, List.map_nil, List.mem_singleton] at hy
      subst hy
      exact e2 z hz
    · rw [List.map_append, List.nodup_append]
      refine ⟨hn2, by simp, fun x hx y hy => ?_⟩
      obtain ⟨z, hz, rfl⟩ := List.mem_map.1 hx
      simp only [List.map_cons, List.map_nil, List.mem_singleton] at hy
      subst hy
      exact Nat.ne_of_lt (hb z hz)
    · intro x hx
      rcases List.mem_append.1 hx with hx | hx
      · exact Nat.lt_succ_of_lt (hb x hx)
      · simp only [List.mem_singleton] at hx; subst hx; exact Nat.lt_succ_self _
  | some p =>
    obtain ⟨j, u⟩ := p
    obtain ⟨-, e2, e3, e4⟩ := entFind_some ⟨a, b⟩ v u es 0 j hf
    simp only [Nat.sub_zero] at e2 e3 e4
    obtain ⟨x, hx, hxl⟩ := Option.map_eq_some_iff.1 e4
    have hk : ((((es.map Ent.e).toArray[j]?).map (·.key)).getD (.agg #[.int .i64 a, .int .u64 b])) = .agg #[.int .i64 a, .int .u64 b] := by
      simp [hx, Ent.e, Lbl.v, hxl]
    have hs : (Instr.keyThatStays (.agg #[.int .i64 a, .int .u64 b]) (.agg #[.int .i64 a, .int .u64 b])).run Try.prog w = .ok (.agg #[.int .i64 a, .int .u64 b]) w := by
      unfold Instr.keyThatStays
      rw [if_pos (by simp [Instr.sameBits])]
      simp
    have hm : ((es.map Ent.e).toArray.modify j fun e => { e with key := .agg #[.int .i64 a, .int .u64 b], val := v }) = ((es.modify j fun e => { e with val := v }).map Ent.e).toArray := by
      apply Array.ext_getElem?
      intro i
      simp only [Array.getElem?_modify, List.getElem?_toArray, List.getElem?_map, List.getElem?_modify]
      by_cases h : j = i
      · subst h
        simp [hx, Ent.e, Lbl.v, hxl]
      · simp [h]
    refine ⟨_, ?_, ⟨es.modify j fun e => { e with val := v }, c, hG _, e3, ?_, ?_, ?_⟩, hX _⟩
    · simp only [Instr.mapUpdate, Sem.run_bind, run_underlying hT, Result.andThen_ok, run_getObj_map hh, h1, h2, hf, hk, hs]
      rw [hset, hm]
    · rw [map_modify_same (fun x : Ent => x.lbl) (fun e : Ent => { e with val := v }) es (fun _ => rfl)]; exact hn1
    · rw [map_modify_same (fun x : Ent => x.born) (fun e : Ent => { e with val := v }) es (fun _ => rfl)]; exact hn2
    · intro y hy
      have : y.born ∈ (es.modify j fun e => { e with val := v }).map (·.born) := List.mem_map_of_mem hy
      rw [map_modify_same (fun x : Ent => x.born) (fun e : Ent => { e with val := v }) es (fun _ => rfl)] at this
      obtain ⟨z, hz, hzy⟩ := List.mem_map.1 this
      rw [← hzy]; exact hb z hz
theorem wp_mapUpdate {ops : Array Oper} {rest : List Oper} {dst : Option Tmp} {mp k x : Operand} {T ty : TypeId} {pos : String} {after : Array Edge} {a : Act} {Q : Exit → Act → World → Prop} {w : World}
    (r : Nat) (m : List (Lbl × Value)) (E : TypeId) (l1 l2 : Int) (v : Value) (hm : a.eval mp = .map (some r)) (hk : a.eval k = .agg #[.int .i64 l1, .int .u64 l2]) (hv : a.eval x = v) (hT : Try.prog.underlying T = some (.map 36 E)) (h : MapIs w r m)
    (hK : ∀ w', MapIs w' r (mput ⟨l1, l2⟩ v m) → ExtM r w w' → wpList Try.prog ops Q rest (a.put dst undef) w') :
    wpList Try.prog ops Q (⟨dst, .mapUpdate T mp k x, ty, pos, after, none⟩ :: rest) a w := by
  obtain ⟨w', hrun, h1, h2⟩ := run_update h T E hT l1 l2 v
  refine wpList_plain rfl fun K hK' => ?_
  unfold Oper.wp
  simp [execOp, hm, hk, hv, hrun, Result.andThen]
  exact hK' _ _ (hK w' h1 h2)
/-- .. as the last step of a region that draws its order -/
theorem step_mapUpdate {ops : Array Oper} {o : Oper} {a : Act} {w : World} {K : Act → World → Prop} {Q : Exit → Act → World → Prop} {G : Prop} (hg : o.guard = none) (T : TypeId) (mp k x : Operand) (hop : o.op = .mapUpdate T mp k x)
    (r : Nat) (m : List (Lbl × Value)) (E : TypeId) (l1 l2 : Int) (v : Value) (hm : a.eval mp = .map (some r)) (hk : a.eval k = .agg #[.int .i64 l1, .int .u64 l2]) (hv : a.eval x = v) (hT : Try.prog.underlying T = some (.map 36 E)) (h : MapIs w r m)
    (hK : ∀ w', MapIs w' r (mput ⟨l1, l2⟩ v m) → ExtM r w w' → K (a.put o.dst undef) w') :
    if Region.wanted o (yielded ops a.tmps) = true then Oper.wp Try.prog o a w K Q else G := by
  obtain ⟨w', hrun, h1, h2⟩ := run_update h T E hT l1 l2 v
  rw [if_pos (by simp [Region.wanted, hg])]
  unfold Oper.wp
  simp [execOp, hop, hm, hk, hv, hrun, Result.andThen]
  exact hK w' h1 h2
end Go.Proofs.Ythgnkbkfkcdhfaa
