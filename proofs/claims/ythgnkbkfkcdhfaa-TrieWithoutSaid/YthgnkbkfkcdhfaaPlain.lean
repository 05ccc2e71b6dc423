/- Plain words about labels, items, records and rows, and plain facts on them: no program in sight. -/
import Derived.WalkKit
namespace Go.Proofs.Ythgnkbkfkcdhfaa
open Go.RowKit

/-! ## The data -/
structure Lbl where
  len : Int
  bits : Int
deriving DecidableEq, Inhabited
structure Item where
  key : Int
  val : ByteArray
deriving DecidableEq, Inhabited
structure Rec where
  kind : Int
  items : List Item
  next : Lbl
  mark : Int
deriving DecidableEq, Inhabited
structure Row where
  lbl : Lbl
  ver : Int
  rc : Rec
deriving DecidableEq, Inhabited

def noneLbl : Lbl := ⟨-1, 0⟩
def rootLbl : Lbl := ⟨0, 0⟩

/-- a number of 64 bits without a sign -/
def u64 (x : Int) : Prop := 0 ≤ x ∧ x < 18446744073709551616
def i64 (x : Int) : Prop := -9223372036854775808 ≤ x ∧ x < 9223372036854775808

/-! ## Labels -/
/-- 2 to the number of bits below the n highest ones -/
def pw (n : Int) : Int := ((2 ^ (64 - n).toNat : Nat) : Int)
/-- the n highest bits -/
def headOf (v n : Int) : Int := v / pw n * pw n
def Lbl.ok (l : Lbl) : Bool := decide (0 ≤ l.len) && decide (l.len ≤ 64) && decide (headOf l.bits l.len = l.bits)
def covers (l : Lbl) (k : Int) : Bool := l.ok && decide (headOf k l.len = l.bits)
def childOf (l : Lbl) (b : Int) : Lbl := ⟨l.len + 1, if b = 1 then l.bits + pw (l.len + 1) else l.bits⟩
def parentOf (l : Lbl) : Lbl := ⟨l.len - 1, headOf l.bits (l.len - 1)⟩
def spanHi (l : Lbl) : Int := l.bits + pw l.len - 1
def Lbl.u (l : Lbl) : Prop := u64 l.bits

theorem pw_pos (n : Int) : 0 < pw n := by
  unfold pw; have := Nat.two_pow_pos (64 - n).toNat; omega
theorem pw_64 : pw 64 = 1 := rfl
theorem pw_0 : pw 0 = 18446744073709551616 := by unfold pw; decide
theorem pw_half (n : Int) (h0 : 0 ≤ n) (h : n < 64) : pw n = 2 * pw (n + 1) := by
  unfold pw
  have : (64 - n).toNat = (64 - (n + 1)).toNat + 1 := by omega
  rw [this, Nat.pow_succ]; omega
theorem pw_dvd (a b : Int) (h0 : 0 ≤ a) (h : a ≤ b) (_hb : b ≤ 64) : pw b ∣ pw a := by
  unfold pw
  exact Int.natCast_dvd_natCast.2 (Nat.pow_dvd_pow 2 (by omega))

theorem headOf_le (v n : Int) : headOf v n ≤ v := by
  unfold headOf
  have := Int.emod_nonneg v (by have := pw_pos n; omega : pw n ≠ 0)
  have := Int.mul_ediv_add_emod v (pw n)
  rw [Int.mul_comm] at this; omega
theorem headOf_lt (v n : Int) : v < headOf v n + pw n := by
  unfold headOf
  have := Int.emod_lt_of_pos v (pw_pos n)
  have := Int.mul_ediv_add_emod v (pw n)
  rw [Int.mul_comm] at this; omega
theorem headOf_nonneg (v n : Int) (h : 0 ≤ v) : 0 ≤ headOf v n := by
  unfold headOf
  exact Int.mul_nonneg (Int.ediv_nonneg h (by have := pw_pos n; omega)) (by have := pw_pos n; omega)
theorem headOf_dvd (v n : Int) : pw n ∣ headOf v n := ⟨v / pw n, by unfold headOf; rw [Int.mul_comm]⟩
/-- what the head of a number is: the one multiple in reach -/
theorem headOf_eq (v n x : Int) (hd : pw n ∣ x) (h1 : x ≤ v) (h2 : v < x + pw n) : headOf v n = x := by
  obtain ⟨q, rfl⟩ := hd
  unfold headOf
  have hp := pw_pos n
  have : v / pw n = q := by
    apply Int.le_antisymm
    · have : v / pw n < q + 1 := by
        apply Int.ediv_lt_of_lt_mul hp
        rw [Int.add_mul, Int.mul_comm q]; omega
      omega
    · apply (Int.le_ediv_iff_mul_le hp).2
      rw [Int.mul_comm]; exact h1
  rw [this, Int.mul_comm]
theorem headOf_fix {v n : Int} (hd : pw n ∣ v) : headOf v n = v := headOf_eq v n v hd (by omega) (by have := pw_pos n; omega)
theorem headOf_headOf (v a b : Int) (h0 : 0 ≤ a) (h : a ≤ b) (hb : b ≤ 64) : headOf (headOf v b) a = headOf v a := by
  apply headOf_eq _ _ _ (headOf_dvd _ _)
  · have h1 := headOf_le v a
    have h2 := headOf_lt v b
    obtain ⟨q, hq⟩ := headOf_dvd v b
    obtain ⟨r, hr⟩ := Int.dvd_trans (pw_dvd a b h0 h hb) (headOf_dvd v a)
    have hp := pw_pos b
    rw [hq, hr]
    have h3 : pw b * r < pw b * (q + 1) := by rw [Int.mul_add, Int.mul_one, ← hr, ← hq]; omega
    have := Int.lt_of_mul_lt_mul_left h3 (by omega)
    exact Int.mul_le_mul_of_nonneg_left (by omega) (by omega)
  · have h1 := headOf_lt v a
    have h2 := headOf_le v b
    omega
theorem headOf_0 (v : Int) (h : u64 v) : headOf v 0 = 0 := by
  have := h.1; have := h.2
  exact headOf_eq v 0 0 ⟨0, by simp⟩ h.1 (by rw [pw_0]; omega)
theorem headOf_64 (v : Int) : headOf v 64 = v := headOf_fix (by rw [pw_64]; exact Int.one_dvd v)
theorem headOf_u64 (v n : Int) (h : u64 v) : u64 (headOf v n) := ⟨headOf_nonneg v n h.1, by have := headOf_le v n; have := h.2; omega⟩

theorem ok_iff (l : Lbl) : l.ok = true ↔ 0 ≤ l.len ∧ l.len ≤ 64 ∧ pw l.len ∣ l.bits := by
  unfold Lbl.ok
  simp only [Bool.and_eq_true, decide_eq_true_eq]
  constructor
  · rintro ⟨⟨a, b⟩, c⟩; exact ⟨a, b, c ▸ headOf_dvd _ _⟩
  · rintro ⟨a, b, c⟩; exact ⟨⟨a, b⟩, headOf_fix c⟩
/-- a label covers the keys of its span -/
theorem covers_iff (l : Lbl) (k : Int) : covers l k = true ↔ l.ok = true ∧ l.bits ≤ k ∧ k < l.bits + pw l.len := by
  unfold covers
  rw [Bool.and_eq_true, decide_eq_true_eq]
  constructor
  · rintro ⟨a, b⟩; exact ⟨a, b ▸ headOf_le _ _, b ▸ headOf_lt _ _⟩
  · rintro ⟨a, b, c⟩; exact ⟨a, headOf_eq _ _ _ ((ok_iff l).1 a).2.2 b c⟩
theorem pw_le_of (l : Lbl) (h : l.ok = true) (hu : l.u) : l.bits + pw l.len ≤ 18446744073709551616 := by
  obtain ⟨a, b, q, hq⟩ := (ok_iff l).1 h
  obtain ⟨r, hr⟩ := pw_dvd 0 l.len (by omega) a b
  have h2 := hu.2
  rw [← pw_0, hq, hr]
  rw [hq, ← pw_0, hr] at h2
  have hp := pw_pos l.len
  have := Int.lt_of_mul_lt_mul_left h2 (by omega)
  have h3 := Int.mul_le_mul_of_nonneg_left (show q + 1 ≤ r by omega) (show 0 ≤ pw l.len by omega)
  rw [Int.mul_add] at h3; omega

theorem child_ok (l : Lbl) (b : Int) (h : l.ok = true) (h64 : l.len < 64) : (childOf l b).ok = true := by
  obtain ⟨a, c, q, hq⟩ := (ok_iff l).1 h
  refine (ok_iff _).2 ⟨?_, ?_, ?_⟩
  · simp only [childOf]; omega
  · simp only [childOf]; omega
  · simp only [childOf]
    have h1 : pw (l.len + 1) ∣ l.bits := Int.dvd_trans (pw_dvd _ _ a (by omega) (by omega)) ⟨q, hq⟩
    split
    · exact Int.dvd_add h1 (Int.dvd_refl _)
    · exact h1
theorem child_u (l : Lbl) (b : Int) (h : l.ok = true) (hu : l.u) (h64 : l.len < 64) : (childOf l b).u := by
  obtain ⟨a, c, _⟩ := (ok_iff l).1 h
  have := pw_le_of l h hu
  have hh := pw_half l.len a h64
  have hp := pw_pos (l.len + 1)
  have h1 := hu.1; have h2 := hu.2
  constructor
  · simp only [childOf]; split <;> omega
  · simp only [childOf]; split <;> omega
/-- each key below a label is below just one of its children -/
theorem covers_child (l : Lbl) (k : Int) (h : l.ok = true) (h64 : l.len < 64) :
    covers l k = (covers (childOf l 0) k || covers (childOf l 1) k) ∧ (covers (childOf l 0) k && covers (childOf l 1) k) = false := by
  obtain ⟨a, c, _⟩ := (ok_iff l).1 h
  have hh := pw_half l.len a h64
  have hp := pw_pos (l.len + 1)
  have e (l : Lbl) (h : l.ok = true) : covers l k = (decide (l.bits ≤ k) && decide (k < l.bits + pw l.len)) := by
    rw [Bool.eq_iff_iff, covers_iff]; simp [h]
  rw [e _ h, e _ (child_ok l 0 h h64), e _ (child_ok l 1 h h64)]
  simp only [childOf, if_true, show ((0 : Int) = 1) = False by simp, if_false, hh]
  constructor
  · rw [Bool.eq_iff_iff]; simp; omega
  · rw [Bool.eq_false_iff]; simp; omega
theorem parent_child (l : Lbl) (b : Int) (h : l.ok = true) (h64 : l.len < 64) : parentOf (childOf l b) = l := by
  obtain ⟨a, c, d⟩ := (ok_iff l).1 h
  have hh := pw_half l.len a h64
  have hp := pw_pos (l.len + 1)
  unfold parentOf childOf
  simp only [show l.len + 1 - 1 = l.len by omega]
  congr 1
  apply headOf_eq _ _ _ d
  · split <;> omega
  · split <;> omega
theorem parent_ok (l : Lbl) (h : l.ok = true) (h0 : 0 < l.len) : (parentOf l).ok = true := by
  obtain ⟨a, b, c⟩ := (ok_iff l).1 h
  exact (ok_iff _).2 ⟨by simp only [parentOf]; omega, by simp only [parentOf]; omega, headOf_dvd _ _⟩
theorem parent_u (l : Lbl) (h : l.u) : (parentOf l).u := headOf_u64 _ _ h

/-! ## head as the program reckons it -/
theorem nat_mask (N k m : Nat) (hN : N < 2 ^ 64) (hk : k + m = 64) : N &&& (18446744073709551615 - (2 ^ k - 1)) = N / 2 ^ k * 2 ^ k := by
  have e : 18446744073709551615 - (2 ^ k - 1) = (2 ^ m - 1) <<< k := by
    rw [Nat.shiftLeft_eq, Nat.sub_mul, ← Nat.pow_add, Nat.add_comm m k, hk]
    have := Nat.two_pow_pos k
    omega
  rw [e]
  have e2 : N / 2 ^ k * 2 ^ k = (N >>> k) <<< k := by rw [Nat.shiftLeft_eq, Nat.shiftRight_eq_div_pow]
  rw [e2]
  apply Nat.eq_of_testBit_eq
  intro i
  simp only [Nat.testBit_and, Nat.testBit_shiftLeft, Nat.testBit_two_pow_sub_one, Nat.testBit_shiftRight]
  by_cases hi : k ≤ i
  · simp only [hi, decide_true, Bool.true_and, show k + (i - k) = i by omega]
    by_cases h2 : i - k < m
    · simp [h2]
    · have : N.testBit i = false := Nat.testBit_lt_two_pow (Nat.lt_of_lt_of_le hN (Nat.pow_le_pow_right (by omega) (by omega)))
      simp [this]
  · simp [hi]
theorem mask_eq (m : Nat) (hm : m ≤ 64) : (18446744073709551615 : Int) / 2 ^ (m : Int).toNat = ((2 ^ (64 - m) - 1 : Nat) : Int) := by
  have : (18446744073709551615 : Nat) / 2 ^ m = 2 ^ (64 - m) - 1 := by
    have e : 2 ^ (64 - m) * 2 ^ m = 18446744073709551616 := by rw [← Nat.pow_add, show 64 - m + m = 64 by omega]
    have hp := Nat.two_pow_pos m
    have hp2 := Nat.two_pow_pos (64 - m)
    apply Nat.div_eq_of_lt_le
    · rw [Nat.sub_mul, e]; omega
    · rw [Nat.sub_add_cancel hp2, e]; omega
  rw [Int.toNat_natCast, ← this, Int.natCast_ediv, Int.natCast_pow]
  rfl
theorem head_bits (v n : Int) (hv : u64 v) (h0 : 0 ≤ n) (h1 : n ≤ 64) : bits BinOp.andNot IntKind.u64 v (18446744073709551615 / 2 ^ n.toNat) = headOf v n := by
  obtain ⟨N, rfl⟩ := Int.eq_ofNat_of_zero_le hv.1
  obtain ⟨m, rfl⟩ := Int.eq_ofNat_of_zero_le h0
  have hN : N < 2 ^ 64 := by have := hv.2; omega
  have hm : m ≤ 64 := by omega
  rw [mask_eq m hm]
  have hlt : 2 ^ (64 - m) - 1 < 18446744073709551616 := by
    have : 2 ^ (64 - m) ≤ 2 ^ 64 := Nat.pow_le_pow_right (by omega) (by omega)
    have := Nat.two_pow_pos (64 - m)
    omega
  rw [u64_andNot _ _ (by omega) (by omega) (by omega) (by omega)]
  rw [Int.toNat_natCast, Int.toNat_natCast, nat_mask N (64 - m) m hN (by omega)]
  unfold headOf pw
  rw [show (64 - (m : Int)).toNat = 64 - m by omega, Int.natCast_mul, Int.natCast_ediv]

theorem bit_eq (n : Int) (h0 : 0 ≤ n) (h1 : n < 64) : IntKind.u64.wrap (2 ^ (63 - n).toNat) = pw (n + 1) := by
  have e : (2 : Int) ^ (63 - n).toNat = pw (n + 1) := by
    unfold pw
    rw [show (64 - (n + 1)).toNat = (63 - n).toNat by omega, Int.natCast_pow]; rfl
  rw [e]
  refine IntWalk.u64_in _ ⟨by have := pw_pos (n + 1); omega, ?_⟩
  unfold pw
  have : 2 ^ (64 - (n + 1)).toNat ≤ 2 ^ 63 := Nat.pow_le_pow_right (by omega) (by omega)
  omega
/-- what the last bit of a label is turned by -/
theorem nat_drop_bit (N k : Nat) (h : 2 ^ k ∣ N) (hN : N < 2 ^ 64) (hk : k < 64) : N &&& (18446744073709551615 - 2 ^ k) = N / 2 ^ (k + 1) * 2 ^ (k + 1) := by
  obtain ⟨q, rfl⟩ := h
  apply Nat.eq_of_testBit_eq
  intro i
  have e2 : (2 ^ k * q) / 2 ^ (k + 1) * 2 ^ (k + 1) = ((2 ^ k * q) >>> (k + 1)) <<< (k + 1) := by rw [Nat.shiftLeft_eq, Nat.shiftRight_eq_div_pow]
  rw [e2]
  have e3 : 18446744073709551615 - 2 ^ k = (2 ^ 64 - (2 ^ k + 1)) := by have := Nat.two_pow_pos k; omega
  rw [e3, Nat.testBit_and, Nat.testBit_two_pow_sub_succ (Nat.pow_lt_pow_right (by omega) hk), Nat.testBit_shiftLeft, Nat.testBit_shiftRight, Nat.testBit_two_pow]
  by_cases h1 : i < 64
  · by_cases h2 : k + 1 ≤ i
    · simp [h1, h2, show k + 1 + (i - (k + 1)) = i by omega, show ¬ k = i by omega]
    · by_cases h3 : k = i
      · subst h3; simp; intro h; omega
      · have : (2 ^ k * q).testBit i = false := by rw [Nat.testBit_two_pow_mul]; simp; omega
        simp [this, h2]
  · have : (2 ^ k * q).testBit i = false := Nat.testBit_lt_two_pow (Nat.lt_of_lt_of_le hN (Nat.pow_le_pow_right (by omega) (by omega)))
    simp [this]
    intro h2
    rw [show k + 1 + (i - (k + 1)) = i by omega, this]
theorem drop_bit (l : Lbl) (h : l.ok = true) (hu : l.u) (h0 : 0 < l.len) : bits BinOp.andNot IntKind.u64 l.bits (pw l.len) = headOf l.bits (l.len - 1) := by
  obtain ⟨a, b, c⟩ := (ok_iff l).1 h
  obtain ⟨n, v⟩ := l
  simp only at *
  obtain ⟨N, rfl⟩ := Int.eq_ofNat_of_zero_le hu.1
  have hN : N < 2 ^ 64 := by have := hu.2; simp only at this; omega
  have hp : pw n = ((2 ^ (64 - n).toNat : Nat) : Int) := rfl
  have hlt : 2 ^ (64 - n).toNat ≤ 2 ^ 63 := Nat.pow_le_pow_right (by omega) (by omega)
  have hd : 2 ^ (64 - n).toNat ∣ N := by rw [hp] at c; exact Int.natCast_dvd_natCast.1 c
  rw [hp, u64_andNot _ _ (by omega) (by omega) (by omega) (by omega), Int.toNat_natCast, Int.toNat_natCast, nat_drop_bit _ _ hd hN (by omega)]
  unfold headOf pw
  rw [show (64 - (n - 1)).toNat = (64 - n).toNat + 1 by omega, Int.natCast_mul, Int.natCast_ediv]
theorem or_bit (l : Lbl) (h : l.ok = true) (hu : l.u) (h64 : l.len < 64) : bits BinOp.or IntKind.u64 l.bits (pw (l.len + 1)) = l.bits + pw (l.len + 1) := by
  obtain ⟨a, b, c⟩ := (ok_iff l).1 h
  obtain ⟨n, v⟩ := l
  simp only at *
  obtain ⟨N, rfl⟩ := Int.eq_ofNat_of_zero_le hu.1
  have hN : N < 2 ^ 64 := by have := hu.2; simp only at this; omega
  have hlt : 2 ^ (64 - (n + 1)).toNat ≤ 2 ^ 63 := Nat.pow_le_pow_right (by omega) (by omega)
  have hd : 2 ^ (64 - n).toNat ∣ N := by unfold pw at c; exact Int.natCast_dvd_natCast.1 c
  obtain ⟨q, rfl⟩ := hd
  have hq : 2 ^ (64 - n).toNat * q = 2 ^ ((64 - (n + 1)).toNat + 1) * q := by rw [show (64 - n).toNat = (64 - (n + 1)).toNat + 1 by omega]
  rw [show pw (n + 1) = ((2 ^ (64 - (n + 1)).toNat : Nat) : Int) from rfl, bits_or_u64_nat _ _ hN (by omega), ← Int.natCast_add]
  congr 1
  rw [hq, Nat.two_pow_add_eq_or_of_lt (Nat.pow_lt_pow_right (by omega) (by omega))]
theorem span_bits (l : Lbl) (h : l.ok = true) (hu : l.u) : bits BinOp.or IntKind.u64 l.bits (18446744073709551615 / 2 ^ l.len.toNat) = spanHi l := by
  obtain ⟨a, b, c⟩ := (ok_iff l).1 h
  obtain ⟨n, v⟩ := l
  simp only at *
  obtain ⟨N, rfl⟩ := Int.eq_ofNat_of_zero_le hu.1
  obtain ⟨m, rfl⟩ := Int.eq_ofNat_of_zero_le a
  have hN : N < 2 ^ 64 := by have := hu.2; simp only at this; omega
  have hm : m ≤ 64 := by omega
  rw [mask_eq m hm]
  have hlt : 2 ^ (64 - m) ≤ 2 ^ 64 := Nat.pow_le_pow_right (by omega) (by omega)
  have hpos := Nat.two_pow_pos (64 - m)
  have hd : 2 ^ (64 - m) ∣ N := by
    have e : pw (m : Int) = ((2 ^ (64 - m) : Nat) : Int) := by unfold pw; rw [show (64 - (m : Int)).toNat = 64 - m by omega]
    rw [e] at c; exact Int.natCast_dvd_natCast.1 c
  rw [bits_or_u64_nat _ _ hN (by omega)]
  obtain ⟨q, rfl⟩ := hd
  rw [← Nat.two_pow_add_eq_or_of_lt (by omega)]
  unfold spanHi pw
  simp only [show (64 - (m : Int)).toNat = 64 - m by omega]
  omega
end Go.Proofs.Ythgnkbkfkcdhfaa
