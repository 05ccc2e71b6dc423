/- The shape of a trie that is built: plain. -/
import Derived.Test.YthgnkbkfkcdhfaaCovered
namespace Go.Proofs.Ythgnkbkfkcdhfaa
open Go.RowKit

structure Node where
  lbl : Lbl
  leaf : Bool
  its : List Item
deriving Inhabited
def shape (b : Int) : Nat → List Item → Lbl → List Node
  | 0, l, a => [⟨a, true, l⟩]
  | n + 1, l, a => if (l.length : Int) ≤ b ∨ a.len = 64 then [⟨a, true, l⟩]
    else ⟨a, false, []⟩ :: (shape b n (coveredOf l (childOf a 0)) (childOf a 0) ++ shape b n (coveredOf l (childOf a 1)) (childOf a 1))
theorem shape_leaf (b : Int) (n : Nat) (l : List Item) (a : Lbl) (h : (l.length : Int) ≤ b ∨ a.len = 64) : shape b n l a = [⟨a, true, l⟩] := by
  cases n with
  | zero => rfl
  | succ n => simp only [shape]; rw [if_pos h]
theorem shape_inner (b : Int) (n : Nat) (l : List Item) (a : Lbl) (h : ¬ ((l.length : Int) ≤ b ∨ a.len = 64)) : shape b (n + 1) l a =
    ⟨a, false, []⟩ :: (shape b n (coveredOf l (childOf a 0)) (childOf a 0) ++ shape b n (coveredOf l (childOf a 1)) (childOf a 1)) := by
  simp only [shape]; rw [if_neg h]
def nodeRec (x : Node) : Rec := if x.leaf then ⟨1, x.its, ⟨0, 0⟩, 0⟩ else ⟨2, [], noneLbl, 0⟩
def growT (b : Int) : Nat → List Item → Lbl → List (Lbl × Rec) → List (Lbl × Rec) × Bool
  | 0, _, _, t => (t, false)
  | n + 1, l, a, t => if 2000 ≤ t.length then (t, false) else if (l.length : Int) ≤ b ∨ a.len = 64 then (tput a ⟨1, l, ⟨0, 0⟩, 0⟩ t, true) else
    match growT b n (coveredOf l (childOf a 0)) (childOf a 0) (tput a ⟨2, [], noneLbl, 0⟩ t) with
    | (t1, false) => (t1, false)
    | (t1, true) => growT b n (coveredOf l (childOf a 1)) (childOf a 1) t1

/-! ## Below a label -/
/-- x lies below a, or is a -/
structure Under (a x : Lbl) : Prop where
  ok : x.ok = true
  u : x.u
  len : a.len ≤ x.len
  lo : a.bits ≤ x.bits
  hi : x.bits + pw x.len ≤ a.bits + pw a.len
theorem Under.refl {a : Lbl} (h : a.ok = true) (hu : a.u) : Under a a := ⟨h, hu, Int.le_refl _, Int.le_refl _, Int.le_refl _⟩
theorem Under.trans {a b c : Lbl} (h : Under a b) (k : Under b c) : Under a c := ⟨k.ok, k.u, by have := h.len; have := k.len; omega, by have := h.lo; have := k.lo; omega, by have := h.hi; have := k.hi; omega⟩
theorem Under.child {a : Lbl} (h : a.ok = true) (hu : a.u) (h64 : a.len < 64) (b : Int) : Under a (childOf a b) := by
  obtain ⟨h0, h1, hd⟩ := (ok_iff a).1 h
  have hh := pw_half a.len h0 h64
  have hp := pw_pos (a.len + 1)
  refine ⟨child_ok a b h h64, child_u a b h hu h64, by simp only [childOf]; omega, ?_, ?_⟩
  · simp only [childOf]; split <;> omega
  · simp only [childOf]; split <;> omega
theorem Under.covers {a x : Lbl} (h : Under a x) (ha : a.ok = true) {k : Int} (hk : covers x k = true) : covers a k = true := by
  rw [covers_iff] at hk ⊢
  have := h.lo; have := h.hi
  exact ⟨ha, by omega, by omega⟩
theorem covered_covered {a x : Lbl} (h : Under a x) (ha : a.ok = true) (l : List Item) : coveredOf (coveredOf l a) x = coveredOf l x := by
  unfold coveredOf
  rw [List.filter_filter]
  apply List.filter_congr
  intro y _
  by_cases hc : covers x y.key = true
  · simp [hc, h.covers ha hc]
  · have hc : covers x y.key = false := by simpa using hc
    simp [hc]
/-- strictly rising keys -/
def Rising (l : List Item) : Prop := l.Pairwise fun x y => x.key < y.key
theorem Rising.covered {l : List Item} (h : Rising l) (a : Lbl) : Rising (coveredOf l a) := List.Pairwise.filter _ h
theorem split_rising (p : Int → Bool) (m : Int) (l : List Item) (h : Rising l) (hp : ∀ x ∈ l, p x.key = decide (x.key < m)) : l.filter (fun x => p x.key) ++ l.filter (fun x => !p x.key) = l := by
  induction l with
  | nil => rfl
  | cons x l ih =>
    obtain ⟨h1, h2⟩ := List.pairwise_cons.1 h
    have ih' := ih h2 (fun y hy => hp y (List.mem_cons_of_mem _ hy))
    have hx := hp x (by simp)
    by_cases hc : x.key < m
    · have hxt : p x.key = true := by rw [hx]; simp [hc]
      simp only [List.filter_cons, hxt]
      simp [ih']
    · have hxf : p x.key = false := by rw [hx]; simp [hc]
      have hall : ∀ y ∈ l, p y.key = false := fun y hy => by
        rw [hp y (List.mem_cons_of_mem _ hy)]
        have := h1 y hy
        simp; omega
      simp only [List.filter_cons, hxf]
      have e1 : l.filter (fun x => p x.key) = [] := List.filter_eq_nil_iff.2 (fun y hy => by simp [hall y hy])
      have e2 : l.filter (fun x => !p x.key) = l := List.filter_eq_self.2 (fun y hy => by simp [hall y hy])
      rw [e1, e2]
      simp
theorem covered_split {a : Lbl} (h : a.ok = true) (h64 : a.len < 64) (l : List Item) (hr : Rising l) (hall : ∀ x ∈ l, covers a x.key = true) :
    coveredOf l (childOf a 0) ++ coveredOf l (childOf a 1) = l := by
  obtain ⟨h0, h1, hd⟩ := (ok_iff a).1 h
  have hh := pw_half a.len h0 h64
  have hp := pw_pos (a.len + 1)
  have hc0 : ∀ x ∈ l, covers (childOf a 0) x.key = decide (x.key < a.bits + pw (a.len + 1)) := fun x hx => by
    have hk := (covers_iff _ _).1 (hall x hx)
    rw [Bool.eq_iff_iff, covers_iff]
    simp only [child_ok a 0 h h64, decide_eq_true_eq, true_and]
    simp only [childOf, show ((0 : Int) = 1) = False by simp, if_false]
    omega
  have hc1 : ∀ x ∈ l, covers (childOf a 1) x.key = !covers (childOf a 0) x.key := fun x hx => by
    rw [hc0 x hx]
    have hk := (covers_iff _ _).1 (hall x hx)
    rw [Bool.eq_iff_iff, covers_iff]
    simp only [child_ok a 1 h h64, true_and, Bool.not_eq_true', decide_eq_false_iff_not]
    simp only [childOf, if_true]
    omega
  have := split_rising (fun k => covers (childOf a 0) k) (a.bits + pw (a.len + 1)) l hr hc0
  unfold coveredOf
  rw [show l.filter (fun x => covers (childOf a 1) x.key) = l.filter (fun x => !covers (childOf a 0) x.key) from List.filter_congr hc1]
  exact this
theorem covered_self {a : Lbl} {l : List Item} (hall : ∀ x ∈ l, covers a x.key = true) : coveredOf l a = l := List.filter_eq_self.2 hall
theorem mem_covered {l : List Item} {a : Lbl} {x : Item} : x ∈ coveredOf l a ↔ x ∈ l ∧ covers a x.key = true := by simp [coveredOf]
/-- below a label of full length there is no more than one key -/
theorem one_at_64 {a : Lbl} (h64 : a.len = 64) (l : List Item) (hr : Rising l) (hall : ∀ x ∈ l, covers a x.key = true) : l.length ≤ 1 := by
  match l, hr, hall with
  | [], _, _ => simp
  | [_], _, _ => simp
  | x :: y :: r, hr, hall =>
    have h1 := (covers_iff _ _).1 (hall x (by simp))
    have h2 := (covers_iff _ _).1 (hall y (by simp))
    rw [h64, pw_64] at h1 h2
    have := (List.pairwise_cons.1 hr).1 y (by simp)
    omega

/-! ## The shape -/
/-- what one needs of a place -/
structure Place (l : List Item) (a : Lbl) : Prop where
  ok : a.ok = true
  u : a.u
  r : Rising l
  all : ∀ x ∈ l, covers a x.key = true
theorem Place.child {l : List Item} {a : Lbl} (h : Place l a) (h64 : a.len < 64) (b : Int) : Place (coveredOf l (childOf a b)) (childOf a b) :=
  ⟨child_ok _ _ h.ok h64, child_u _ _ h.ok h.u h64, h.r.covered _, fun _ hx => (mem_covered.1 hx).2⟩
theorem Place.len {l : List Item} {a : Lbl} (h : Place l a) : 0 ≤ a.len ∧ a.len ≤ 64 := ⟨((ok_iff a).1 h.ok).1, ((ok_iff a).1 h.ok).2.1⟩
theorem shape_under (b : Int) : ∀ (n : Nat) (l : List Item) (a : Lbl), Place l a → ∀ x ∈ shape b n l a, Under a x.lbl := by
  intro n
  induction n with
  | zero =>
    intro l a h x hx
    simp only [shape, List.mem_singleton] at hx
    subst hx
    exact Under.refl h.ok h.u
  | succ n ih =>
    intro l a h x hx
    by_cases hc : (l.length : Int) ≤ b ∨ a.len = 64
    · rw [shape_leaf _ _ _ _ hc, List.mem_singleton] at hx
      subst hx
      exact Under.refl h.ok h.u
    · rw [shape_inner _ _ _ _ hc] at hx
      have h64 : a.len < 64 := by have := h.len; omega
      rcases List.mem_cons.1 hx with rfl | hx
      · exact Under.refl h.ok h.u
      · rcases List.mem_append.1 hx with hx | hx
        · exact (Under.child h.ok h.u h64 0).trans (ih _ _ (h.child h64 0) x hx)
        · exact (Under.child h.ok h.u h64 1).trans (ih _ _ (h.child h64 1) x hx)
/-- ahead in the order -/
def LtL (a b : Lbl) : Prop := a.bits < b.bits ∨ (a.bits = b.bits ∧ a.len < b.len)
theorem LtL.ne {a b : Lbl} (h : LtL a b) : a ≠ b := by rintro rfl; unfold LtL at h; omega
theorem shape_sorted (b : Int) : ∀ (n : Nat) (l : List Item) (a : Lbl), Place l a → (shape b n l a).Pairwise fun x y => LtL x.lbl y.lbl := by
  intro n
  induction n with
  | zero => intro l a h; simp [shape]
  | succ n ih =>
    intro l a h
    by_cases hc : (l.length : Int) ≤ b ∨ a.len = 64
    · rw [shape_leaf _ _ _ _ hc]; simp
    · rw [shape_inner _ _ _ _ hc]
      have h64 : a.len < 64 := by have := h.len; omega
      have hu0 := shape_under b n _ _ (h.child h64 0)
      have hu1 := shape_under b n _ _ (h.child h64 1)
      have hp := pw_pos (a.len + 1)
      refine List.pairwise_cons.2 ⟨fun x hx => ?_, List.pairwise_append.2 ⟨ih _ _ (h.child h64 0), ih _ _ (h.child h64 1), fun x hx y hy => ?_⟩⟩
      · rcases List.mem_append.1 hx with hx | hx
        · have k := hu0 x hx
          have k1 := k.len; have k2 := k.lo
          simp only [childOf] at k1 k2
          simp at k2
          show a.bits < x.lbl.bits ∨ (a.bits = x.lbl.bits ∧ a.len < x.lbl.len)
          omega
        · have k := hu1 x hx
          have k1 := k.len; have k2 := k.lo
          simp only [childOf, if_true] at k1 k2
          show a.bits < x.lbl.bits ∨ (a.bits = x.lbl.bits ∧ a.len < x.lbl.len)
          omega
      · have k := hu0 x hx
        have k' := hu1 y hy
        have k1 := k.hi; have k2 := k'.lo
        have hpx := pw_pos x.lbl.len
        simp only [childOf, if_true] at k1 k2
        simp at k1
        unfold LtL
        omega
theorem shape_its (b : Int) (hb : 1 ≤ b) : ∀ (n : Nat) (l : List Item) (a : Lbl), Place l a → 65 - a.len ≤ n →
    ∀ x ∈ shape b n l a, x.its = (if x.leaf then coveredOf l x.lbl else []) ∧ (x.leaf = true ↔ ((coveredOf l x.lbl).length : Int) ≤ b) := by
  intro n
  induction n with
  | zero => intro l a h hn; have := h.len; omega
  | succ n ih =>
    intro l a h hn x hx
    by_cases hc : (l.length : Int) ≤ b ∨ a.len = 64
    · rw [shape_leaf _ _ _ _ hc, List.mem_singleton] at hx
      subst hx
      simp only [if_true, covered_self h.all, true_and]
      rcases hc with hc | hc
      · simpa using hc
      · have := one_at_64 hc l h.r h.all
        simp; omega
    · have h64 : a.len < 64 := by have := h.len; omega
      rw [shape_inner _ _ _ _ hc] at hx
      rcases List.mem_cons.1 hx with rfl | hx
      · simp [covered_self h.all]; omega
      · have key : ∀ c, x ∈ shape b n (coveredOf l (childOf a c)) (childOf a c) → x.its = (if x.leaf then coveredOf l x.lbl else []) ∧ (x.leaf = true ↔ ((coveredOf l x.lbl).length : Int) ≤ b) := by
          intro c hx
          have hu := shape_under b n _ _ (h.child h64 c) x hx
          have := ih _ _ (h.child h64 c) (by simp only [childOf]; omega) x hx
          rw [covered_covered hu (child_ok _ _ h.ok h64)] at this
          exact this
        rcases List.mem_append.1 hx with hx | hx
        · exact key 0 hx
        · exact key 1 hx
theorem shape_head (b : Int) (n : Nat) (l : List Item) (a : Lbl) : ∃ x r, shape b n l a = x :: r ∧ x.lbl = a := by
  cases n with
  | zero => exact ⟨_, _, rfl, rfl⟩
  | succ n =>
    simp only [shape]
    split
    · exact ⟨_, _, rfl, rfl⟩
    · exact ⟨_, _, rfl, rfl⟩
/-- an inner node's children are there -/
theorem shape_kids (b : Int) : ∀ (n : Nat) (l : List Item) (a : Lbl), Place l a → ∀ x ∈ shape b n l a, x.leaf = false → x.lbl.len < 64 ∧ ∀ c, c = 0 ∨ c = 1 → ∃ y ∈ shape b n l a, y.lbl = childOf x.lbl c := by
  intro n
  induction n with
  | zero => intro l a h x hx hl; simp only [shape, List.mem_singleton] at hx; subst hx; simp at hl
  | succ n ih =>
    intro l a h x hx hl
    by_cases hc : (l.length : Int) ≤ b ∨ a.len = 64
    · rw [shape_leaf _ _ _ _ hc, List.mem_singleton] at hx; subst hx; simp at hl
    · have h64 : a.len < 64 := by have := h.len; omega
      rw [shape_inner _ _ _ _ hc] at hx ⊢
      rcases List.mem_cons.1 hx with rfl | hx
      · refine ⟨h64, fun c hcc => ?_⟩
        obtain ⟨y, r, e, hy⟩ := shape_head b n (coveredOf l (childOf a c)) (childOf a c)
        refine ⟨y, List.mem_cons_of_mem _ (List.mem_append.2 ?_), hy⟩
        rcases hcc with rfl | rfl
        · left; rw [e]; simp
        · right; rw [e]; simp
      · rcases List.mem_append.1 hx with hx | hx
        · obtain ⟨h1, h2⟩ := ih _ _ (h.child h64 0) x hx hl
          refine ⟨h1, fun c hcc => ?_⟩
          obtain ⟨y, hy, e⟩ := h2 c hcc
          exact ⟨y, List.mem_cons_of_mem _ (List.mem_append_left _ hy), e⟩
        · obtain ⟨h1, h2⟩ := ih _ _ (h.child h64 1) x hx hl
          refine ⟨h1, fun c hcc => ?_⟩
          obtain ⟨y, hy, e⟩ := h2 c hcc
          exact ⟨y, List.mem_cons_of_mem _ (List.mem_append_right _ hy), e⟩
/-- a node's parent is an inner node -/
theorem shape_parent (b : Int) : ∀ (n : Nat) (l : List Item) (a : Lbl), Place l a → ∀ x ∈ shape b n l a, x.lbl = a ∨ (0 < x.lbl.len ∧ ∃ y ∈ shape b n l a, y.lbl = parentOf x.lbl ∧ y.leaf = false) := by
  intro n
  induction n with
  | zero => intro l a h x hx; simp only [shape, List.mem_singleton] at hx; subst hx; exact .inl rfl
  | succ n ih =>
    intro l a h x hx
    by_cases hc : (l.length : Int) ≤ b ∨ a.len = 64
    · rw [shape_leaf _ _ _ _ hc, List.mem_singleton] at hx; subst hx; exact .inl rfl
    · have h64 : a.len < 64 := by have := h.len; omega
      rw [shape_inner _ _ _ _ hc] at hx ⊢
      rcases List.mem_cons.1 hx with rfl | hx
      · exact .inl rfl
      · right
        have key : ∀ c, x ∈ shape b n (coveredOf l (childOf a c)) (childOf a c) → (∀ y ∈ shape b n (coveredOf l (childOf a c)) (childOf a c), y ∈ (⟨a, false, []⟩ : Node) :: (shape b n (coveredOf l (childOf a 0)) (childOf a 0) ++ shape b n (coveredOf l (childOf a 1)) (childOf a 1))) →
            0 < x.lbl.len ∧ ∃ y ∈ (⟨a, false, []⟩ : Node) :: (shape b n (coveredOf l (childOf a 0)) (childOf a 0) ++ shape b n (coveredOf l (childOf a 1)) (childOf a 1)), y.lbl = parentOf x.lbl ∧ y.leaf = false := by
          intro c hx hin
          rcases ih _ _ (h.child h64 c) x hx with e | ⟨h0, y, hy, e1, e2⟩
          · rw [e, parent_child a c h.ok h64]
            exact ⟨by have := h.len; simp only [childOf]; omega, ⟨a, false, []⟩, by simp, rfl, rfl⟩
          · exact ⟨h0, y, hin y hy, e1, e2⟩
        rcases List.mem_append.1 hx with hx | hx
        · exact key 0 hx (fun y hy => List.mem_cons_of_mem _ (List.mem_append_left _ hy))
        · exact key 1 hx (fun y hy => List.mem_cons_of_mem _ (List.mem_append_right _ hy))
/-- labels that tile the keys from lo to hi -/
def Tiles : List Lbl → Int → Int → Prop
  | [], lo, hi => lo = hi
  | x :: r, lo, hi => x.bits = lo ∧ Tiles r (x.bits + pw x.len) hi
theorem Tiles.append : ∀ {l r : List Lbl} {a b c : Int}, Tiles l a b → Tiles r b c → Tiles (l ++ r) a c
  | [], _, _, _, _, h, k => by simp only [Tiles] at h; subst h; exact k
  | _ :: _, _, _, _, _, ⟨h1, h2⟩, k => ⟨h1, h2.append k⟩
def leafLbls (s : List Node) : List Lbl := (s.filter (·.leaf)).map (·.lbl)
theorem leafLbls_append (a b : List Node) : leafLbls (a ++ b) = leafLbls a ++ leafLbls b := by simp [leafLbls]
theorem shape_tiles (b : Int) : ∀ (n : Nat) (l : List Item) (a : Lbl), Place l a → Tiles (leafLbls (shape b n l a)) a.bits (a.bits + pw a.len) := by
  intro n
  induction n with
  | zero => intro l a h; simp [shape, leafLbls, Tiles]
  | succ n ih =>
    intro l a h
    by_cases hc : (l.length : Int) ≤ b ∨ a.len = 64
    · rw [shape_leaf _ _ _ _ hc]; simp [leafLbls, Tiles]
    · have h64 : a.len < 64 := by have := h.len; omega
      rw [shape_inner _ _ _ _ hc, show ∀ r : List Node, (⟨a, false, []⟩ : Node) :: r = [⟨a, false, []⟩] ++ r from fun _ => rfl, leafLbls_append, leafLbls_append]
      have k0 := ih _ _ (h.child h64 0)
      have k1 := ih _ _ (h.child h64 1)
      have hh := pw_half a.len h.len.1 h64
      have e0 : (childOf a 0).bits = a.bits := by simp [childOf]
      have e1 : (childOf a 1).bits = a.bits + pw (a.len + 1) := by simp [childOf]
      have f0 : (childOf a 0).len = a.len + 1 := rfl
      have f1 : (childOf a 1).len = a.len + 1 := rfl
      rw [e0, f0] at k0
      rw [e1, f1, show a.bits + pw (a.len + 1) + pw (a.len + 1) = a.bits + pw a.len by omega] at k1
      have : leafLbls [(⟨a, false, []⟩ : Node)] = [] := rfl
      rw [this, List.nil_append]
      exact k0.append k1

/-! ## What grow makes -/
theorem tput_new {β : Type} (k : Lbl) (v : β) : ∀ (t : List (Lbl × β)), (∀ p ∈ t, p.1 ≠ k) → tput k v t = t ++ [(k, v)]
  | [], _ => rfl
  | p :: t, h => by
    obtain ⟨k', u⟩ := p
    simp only [tput]
    rw [if_neg (h (k', u) (by simp)), tput_new k v t (fun p hp => h p (List.mem_cons_of_mem _ hp))]
    rfl
def nodeP (x : Node) : Lbl × Rec := (x.lbl, nodeRec x)
theorem growT_shape (b : Int) : ∀ (n : Nat) (l : List Item) (a : Lbl) (t t' : List (Lbl × Rec)), Place l a → 65 - a.len ≤ n → (∀ p ∈ t, ∀ x ∈ shape b n l a, p.1 ≠ x.lbl) → growT b n l a t = (t', true) → t' = t ++ (shape b n l a).map nodeP := by
  intro n
  induction n with
  | zero => intro l a t t' h hn; have := h.len; omega
  | succ n ih =>
    intro l a t t' h hn hf hg
    simp only [growT] at hg
    split at hg
    · simp at hg
    · by_cases hc : (l.length : Int) ≤ b ∨ a.len = 64
      · rw [if_pos hc] at hg
        rw [shape_leaf _ _ _ _ hc] at hf ⊢
        rw [tput_new a _ t (fun p hp => hf p hp ⟨a, true, l⟩ (by simp))] at hg
        simp only [Prod.mk.injEq, and_true] at hg
        rw [← hg]
        rfl
      · have h64 : a.len < 64 := by have := h.len; omega
        have hs := shape_sorted b (n + 1) l a h
        rw [if_neg hc] at hg
        rw [shape_inner _ _ _ _ hc] at hf hs ⊢
        rw [tput_new a _ t (fun p hp => hf p hp ⟨a, false, []⟩ (by simp))] at hg
        obtain ⟨hs1, hs2⟩ := List.pairwise_cons.1 hs
        obtain ⟨-, -, hs3⟩ := List.pairwise_append.1 hs2
        split at hg
        · simp at hg
        · rename_i t1 e1
          have k1 := ih _ _ _ _ (h.child h64 0) (by simp only [childOf]; omega) (fun p hp x hx => by
            rcases List.mem_append.1 hp with hp | hp
            · exact hf p hp x (List.mem_cons_of_mem _ (List.mem_append_left _ hx))
            · simp only [List.mem_singleton] at hp
              subst hp
              exact (hs1 x (List.mem_append_left _ hx)).ne) e1
          have k2 := ih _ _ _ _ (h.child h64 1) (by simp only [childOf]; omega) (fun p hp x hx => by
            rw [k1] at hp
            rcases List.mem_append.1 hp with hp | hp
            · rcases List.mem_append.1 hp with hp | hp
              · exact hf p hp x (List.mem_cons_of_mem _ (List.mem_append_right _ hx))
              · simp only [List.mem_singleton] at hp
                subst hp
                exact (hs1 x (List.mem_append_right _ hx)).ne
            · obtain ⟨y, hy, rfl⟩ := List.mem_map.1 hp
              exact (hs3 y hy x hx).ne) hg
          rw [k2, k1]
          simp [nodeP, nodeRec]
end Go.Proofs.Ythgnkbkfkcdhfaa
