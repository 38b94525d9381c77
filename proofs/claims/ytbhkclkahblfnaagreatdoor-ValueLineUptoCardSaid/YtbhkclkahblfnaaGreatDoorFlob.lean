/- Which words are numbers of the language; dividing, turning round and cutting such words. No program in sight. -/
import Derived.Test.YtbhkclkahblfnaaGreatDoorFlo
import Derived.Laws.BitsAllLaws
namespace Go.Proofs.YtbhkclkahblfnaaGreatDoor
namespace Flo
open Ieee

theorem cutz (s : Bool) (m d : Nat) : Toward.zero.cut s m d = m / 2 ^ d := by
  unfold Toward.cut
  simp only [Nat.one_shiftLeft, Bool.toNat_false, Nat.add_zero]
  by_cases h : d ≤ m.log2 + 2
  · rw [Nat.min_eq_left h]
  · rw [Nat.min_eq_right (by omega)]
    have h2 := @Nat.lt_log2_self m
    have h3 : 2 ^ (m.log2 + 1) ≤ 2 ^ (m.log2 + 2) := Nat.pow_le_pow_right (by omega) (by omega)
    have h4 : 2 ^ (m.log2 + 2) ≤ 2 ^ d := Nat.pow_le_pow_right (by omega) (by omega)
    rw [Nat.div_eq_of_lt (by omega), Nat.div_eq_of_lt (by omega)]

theorem signed0 (s : Bool) (m : Nat) : signed s m 0 = sg s m := by unfold signed sg; cases s <;> simp

theorem toInt_num (s : Bool) (m j : Nat) : (Datum.number s m (-(j : Int))).toInt .zero = some (sg s (m / 2 ^ j)) := by
  unfold Datum.toInt Datum.integral
  simp only [show (-(j : Int)).toNat = 0 from by omega, Nat.shiftLeft_zero, cutz, signed0, show (-(-(j : Int))).toNat = j from by omega]

theorem toInt_is {d : Datum} {n : Int} (h : Is d n) : d.toInt .zero = some n := by
  obtain ⟨s, j, rfl, hs⟩ := h
  rw [toInt_num, Nat.mul_div_cancel _ (Nat.two_pow_pos j)]
  by_cases h0 : n = 0
  · subst h0; cases s <;> simp [sg]
  · rw [hs h0]; by_cases hn : n < 0 <;> simp [sg, hn] <;> omega

/-- the number of the language that a word is -/
def numOf (b : Nat) : Option Int :=
  match (double.read b).toInt .zero with
  | some n => if (-16777216 ≤ n ∧ n ≤ 16777216) ∧ W n = b then some n else none
  | none => none

theorem numOf_some {b : Nat} {n : Int} : numOf b = some n ↔ (-16777216 ≤ n ∧ n ≤ 16777216) ∧ b = W n := by
  unfold numOf
  constructor
  · intro h
    split at h
    · split at h
      · rename_i hc; cases h; exact ⟨hc.1, hc.2.symm⟩
      · cases h
    · cases h
  · rintro ⟨hn, rfl⟩
    rw [toInt_is (isW_read (by omega) (W_isW n))]
    simp [hn]
theorem numOf_W {n : Int} (h : -16777216 ≤ n ∧ n ≤ 16777216) : numOf (W n) = some n := numOf_some.2 ⟨h, rfl⟩
theorem numOf_rng {b : Nat} {n : Int} (h : numOf b = some n) : -16777216 ≤ n ∧ n ≤ 16777216 := (numOf_some.1 h).1
theorem numOf_eq {b : Nat} {n : Int} (h : numOf b = some n) : b = W n := (numOf_some.1 h).2

theorem W_inj {a b : Int} (ha : a.natAbs < 9007199254740992) (hb : b.natAbs < 9007199254740992) (h : W a = W b) : a = b := by
  have h1 := toInt_is (isW_read ha (W_isW a))
  rw [h, toInt_is (isW_read hb (W_isW b))] at h1
  exact (Option.some.inj h1).symm
/-- what a finite word reads as -/
theorem read_number {b : Nat} {s : Bool} {m : Nat} {p : Int} (h : double.read b = .number s m p) :
    (m < 4503599627370496 ∧ p = -1074 ∧ b % 9223372036854775808 = m) ∨
    (4503599627370496 ≤ m ∧ m < 9007199254740992 ∧ -1074 ≤ p ∧ b % 9223372036854775808 = (p + 1074).toNat * 4503599627370496 + m ∧ b % 9223372036854775808 < 2047 * 4503599627370496) := by
  unfold Format.read at h
  rw [sw_eq, binade_eq, inf_eq, lp_eq] at h
  dsimp only at h
  split at h
  · rename_i hl; cases h; exact .inl ⟨hl, rfl, rfl⟩
  · split at h
    · rename_i h1 h2; cases h
      refine .inr ⟨by omega, by omega, by omega, ?_, h2⟩
      omega
    · split at h <;> cases h

theorem read_neg {b : Nat} {s : Bool} {m : Nat} {p : Int} (h : double.read b = .number s m p) : s = (b / 9223372036854775808 % 2 == 1) := by
  unfold Format.read at h
  rw [sw_eq] at h
  dsimp only at h
  split at h
  · cases h; rfl
  · split at h
    · cases h; rfl
    · split at h <;> cases h

/-- a finite word is what its datum is written as -/
theorem write_read {b : Nat} {s : Bool} {m : Nat} {p : Int} (hb : b < 18446744073709551616) (h : double.read b = .number s m p) : double.nearest s m p = b := by
  have hs := read_neg h
  have hw : ∀ r, b % 9223372036854775808 = r → double.word s r = b := by
    intro r hr
    rw [word_eq]; subst hr
    have : b / 9223372036854775808 = 0 ∨ b / 9223372036854775808 = 1 := by omega
    rcases this with h1 | h1
    · have e : s = false := by rw [hs, h1]; rfl
      rw [e]; simp only [Bool.false_eq_true, if_false]; omega
    · have e : s = true := by rw [hs, h1]; rfl
      rw [e]; simp only [if_true]; unfold NZ; omega
  unfold Format.nearest
  rcases read_number h with ⟨h1, rfl, h2⟩ | ⟨h1, h2, h3, h4, h5⟩
  · by_cases h0 : m = 0
    · subst h0; simp; exact hw 0 h2
    · rw [if_neg h0]
      have hl : m.log2 < 52 := by
        have := (Nat.log2_lt h0 (k := 52)).2 (by omega); omega
      have e1 : max (-1074 + (m.log2 : Int) - (double.fractionBits : Int)) (-1074) = -1074 := by
        simp only [double]; omega
      simp only [lp_eq, binade_eq, inf_eq, e1]
      rw [show ((-1074 : Int) - -1074).toNat = 0 from by omega, Nat.shiftLeft_zero, cut_zero, Nat.min_eq_left (by omega)]
      exact hw _ (by omega)
  · have h0 : m ≠ 0 := by omega
    rw [if_neg h0]
    have hl : m.log2 = 52 := by
      rw [Nat.log2_eq_iff h0]; omega
    have e1 : max (p + (m.log2 : Int) - (double.fractionBits : Int)) (-1074) = p := by
      rw [hl]; simp only [double]; omega
    simp only [lp_eq, binade_eq, inf_eq, e1]
    have hq : (p - -1074).toNat = (p + 1074).toNat := by omega
    rw [show (p - p).toNat = 0 from by omega, Nat.shiftLeft_zero, cut_zero, hq, ← h4, Nat.min_eq_left (by omega)]
    exact hw _ rfl

/-- the word of a number cut towards nought -/
def truncB (b : Nat) : Nat := double.write ((double.read b).integral .zero)

theorem order_big {e : Datum} {b : Int} (s : Bool) (m : Nat) (p : Int) (hp : 0 ≤ p) (he : Is e b) : (Datum.number s m p).order e = some (compare (sg s (m * 2 ^ p.toNat)) b) := by
  have h := order_num s (m * 2 ^ p.toNat) 0 he
  rw [Int.pow_zero, Int.mul_one] at h
  rw [← h]
  obtain ⟨t, i, rfl, ht⟩ := he
  have hb : min p (-(i : Int)) = -(i : Int) := by omega
  have hb2 : min (-((0 : Nat) : Int)) (-(i : Int)) = -(i : Int) := by omega
  simp only [Datum.order]
  rw [hb, hb2]
  congr 2
  unfold signed
  rw [Nat.shiftLeft_eq, Nat.shiftLeft_eq, Nat.mul_assoc, ← Nat.pow_add, show p.toNat + (-((0 : Nat) : Int) - -(i : Int)).toNat = (p - -(i : Int)).toNat from by omega]

theorem cmp_eq (a b : Int) : (some (compare a b) == some Ordering.eq) = decide (a = b) := by
  rcases Int.lt_trichotomy a b with h | h | h
  · rw [Int.compare_eq_lt.2 h]; simp; omega
  · rw [Int.compare_eq_eq.2 h]; simp [h]
  · rw [Int.compare_eq_gt.2 h]; simp; omega
theorem cmp_gt (a b : Int) : (some (compare a b) == some Ordering.gt) = decide (b < a) := by
  rcases Int.lt_trichotomy a b with h | h | h
  · rw [Int.compare_eq_lt.2 h]; simp; omega
  · rw [Int.compare_eq_eq.2 h]; simp [h]
  · rw [Int.compare_eq_gt.2 h]; simp; omega
theorem cmp_lt (a b : Int) : (some (compare a b) == some Ordering.lt) = decide (a < b) := by
  rcases Int.lt_trichotomy a b with h | h | h
  · rw [Int.compare_eq_lt.2 h]; simp; omega
  · rw [Int.compare_eq_eq.2 h]; simp [h]
  · rw [Int.compare_eq_gt.2 h]; simp; omega
theorem cmp_ge (a b : Int) : (some (compare a b) == some Ordering.gt || some (compare a b) == some Ordering.eq) = decide (b ≤ a) := by
  rw [cmp_gt, cmp_eq, Bool.eq_iff_iff]; simp; omega
theorem cmp_le (a b : Int) : (some (compare a b) == some Ordering.lt || some (compare a b) == some Ordering.eq) = decide (a ≤ b) := by
  rw [cmp_lt, cmp_eq, Bool.eq_iff_iff]; simp; omega

def NM : Nat := 13938640846711685120
def PM : Nat := 4715268809856909312
theorem is_NM : Is (double.read NM) (-16777216) := isW_read (by decide) (.inl (by decide +kernel))
theorem is_PM : Is (double.read PM) 16777216 := isW_read (by decide) (.inl (by decide +kernel))
theorem is_0 : Is (double.read 0) 0 := isW_read (by decide) (.inl (by decide +kernel))
abbrev ord (a b : Nat) : Option Ordering := FloatKind.f64.format.order a b
def geB (b : Nat) : Bool := ord b NM == some .gt || ord b NM == some .eq
def leB (b : Nat) : Bool := ord b PM == some .lt || ord b PM == some .eq
def wholeB (b : Nat) : Bool := ord b (truncB b) == some .eq
def zeroB (b : Nat) : Bool := ord b 0 == some .eq

theorem ord_eq (a b : Nat) : ord a b = (double.read a).order (double.read b) := rfl

theorem sg_abs (s : Bool) (m : Nat) : (sg s m).natAbs = m := by cases s <;> simp [sg]
theorem sg_inj (s : Bool) (a b : Nat) : sg s a = sg s b ↔ a = b := by cases s <;> simp only [sg, Bool.false_eq_true, if_false, if_true] <;> omega
theorem sg_rng (s : Bool) (k : Nat) (h : k ≤ 16777216) : -16777216 ≤ sg s k ∧ sg s k ≤ 16777216 := by cases s <;> simp only [sg, Bool.false_eq_true, if_false, if_true] <;> omega
theorem sg_mul (s : Bool) (a j : Nat) : sg s a * 2 ^ j = sg s (a * 2 ^ j) := by cases s <;> simp [sg, Int.neg_mul]
theorem R_sg (s : Bool) (k : Nat) (h0 : k ≠ 0) (h : k < 9007199254740992) : R s k = W (sg s k) := by
  rw [W_eq _ (by rw [sg_abs]; exact h), sg_abs]
  congr 1; cases s <;> simp [sg]; omega

theorem R_isW_sg (s : Bool) (k : Nat) (h : k < 9007199254740992) : IsW (R s k) (sg s k) := by
  by_cases h0 : k = 0
  · subst h0; cases s
    · exact .inl (by decide +kernel)
    · exact .inr ⟨rfl, by decide +kernel⟩
  · exact .inl (R_sg s k h0 h)

/-- what the tests tell of a finite word within the bounds -/
theorem near_num {b : Nat} (h1 : geB b = true) (h2 : leB b = true) : ∃ (s : Bool) (m j : Nat), double.read b = .number s m (-(j : Int)) ∧ m / 2 ^ j ≤ 16777216 := by
  unfold geB at h1; unfold leB at h2
  rw [ord_eq] at h1 h2
  cases hr : double.read b with
  | nan s t => rw [hr] at h1; simp [Datum.order] at h1
  | infinity s =>
    rw [hr] at h1 h2
    obtain ⟨_, _, e1, _⟩ := is_NM; rw [e1] at h1
    obtain ⟨_, _, e2, _⟩ := is_PM; rw [e2] at h2
    cases s <;> simp [Datum.order] at h1 h2
  | number s m p =>
    rw [hr] at h1 h2
    by_cases hp : 0 ≤ p
    · rw [order_big s m p hp is_NM, cmp_ge] at h1
      rw [order_big s m p hp is_PM, cmp_le] at h2
      rcases read_number hr with ⟨_, h, _⟩ | ⟨h, _⟩
      · omega
      · have : 1 ≤ 2 ^ p.toNat := Nat.two_pow_pos _
        have : m ≤ m * 2 ^ p.toNat := Nat.le_mul_of_pos_right _ (by omega)
        simp only [decide_eq_true_eq] at h1 h2
        cases s <;> simp only [sg, Bool.false_eq_true, if_false, if_true] at h1 h2 <;> omega
    · obtain ⟨j, rfl⟩ : ∃ j : Nat, p = -(j : Int) := ⟨(-p).toNat, by omega⟩
      refine ⟨s, m, j, rfl, ?_⟩
      rw [order_num s m j is_NM, cmp_ge] at h1
      rw [order_num s m j is_PM, cmp_le] at h2
      simp only [decide_eq_true_eq] at h1 h2
      have hm : m ≤ 16777216 * 2 ^ j := by
        have e : ((16777216 * 2 ^ j : Nat) : Int) = 16777216 * 2 ^ j := by simp
        cases s <;> simp only [sg, Bool.false_eq_true, if_false, if_true] at h1 h2 <;> omega
      exact Nat.div_le_of_le_mul (by rw [Nat.mul_comm]; exact hm)

theorem trunc_num {b : Nat} {s : Bool} {m j : Nat} (h : double.read b = .number s m (-(j : Int))) (hk : m / 2 ^ j ≤ 16777216) : truncB b = R s (m / 2 ^ j) := by
  unfold truncB
  rw [h]
  unfold Datum.integral
  simp only [show (-(j : Int)).toNat = 0 from by omega, Nat.shiftLeft_zero, cutz, show (-(-(j : Int))).toNat = j from by omega]
  have := nearest_val s (m / 2 ^ j) 0 (by omega)
  simpa [Format.write] using this

theorem num_whole {b : Nat} {s : Bool} {m j : Nat} (hb : b < 18446744073709551616) (h : double.read b = .number s m (-(j : Int))) (hk : m / 2 ^ j ≤ 16777216) (e : m = m / 2 ^ j * 2 ^ j) : b = R s (m / 2 ^ j) := by
  have := write_read hb h
  rw [e, nearest_val s _ j (by omega)] at this
  rw [← this]

theorem W_geB {n : Int} (h : -16777216 ≤ n ∧ n ≤ 16777216) : geB (W n) = true ∧ leB (W n) = true ∧ wholeB (W n) = true ∧ (zeroB (W n) = true → W n = 0) := by
  have hi := isW_read (n := n) (by omega) (W_isW n)
  refine ⟨?_, ?_, ?_, ?_⟩
  · unfold geB; rw [ord_eq, order_is hi is_NM, cmp_ge]; simp; omega
  · unfold leB; rw [ord_eq, order_is hi is_PM, cmp_le]; simp; omega
  · unfold wholeB
    have : truncB (W n) = W n := by
      obtain ⟨s, j, hr, hs⟩ := hi
      have e : n.natAbs * 2 ^ j / 2 ^ j = n.natAbs := Nat.mul_div_cancel _ (Nat.two_pow_pos j)
      rw [trunc_num hr (by rw [e]; omega)]
      exact (num_whole (W_lt n (by omega)) hr (by rw [e]; omega) (by rw [e])).symm
    rw [this, ord_eq, order_is hi hi, cmp_eq]; simp
  · intro h0
    unfold zeroB at h0
    rw [ord_eq, order_is hi is_0, cmp_eq] at h0
    obtain rfl : n = 0 := by simpa using h0
    decide +kernel

theorem zero_cases {b : Nat} (hb : b < 18446744073709551616) (h : zeroB b = true) : b = 0 ∨ b = NZ := by
  unfold zeroB at h
  rw [ord_eq] at h
  cases hr : double.read b with
  | nan s t => rw [hr] at h; simp [Datum.order] at h
  | infinity s =>
    rw [hr] at h
    obtain ⟨_, _, e1, _⟩ := is_0; rw [e1] at h
    cases s <;> simp [Datum.order] at h
  | number s m p =>
    rw [hr] at h
    have hm : m = 0 := by
      by_cases hp : 0 ≤ p
      · rw [order_big s m p hp is_0, cmp_eq] at h
        have : 1 ≤ 2 ^ p.toNat := Nat.two_pow_pos _
        have : m ≤ m * 2 ^ p.toNat := Nat.le_mul_of_pos_right _ (by omega)
        simp only [decide_eq_true_eq] at h
        cases s <;> simp only [sg, Bool.false_eq_true, if_false, if_true] at h <;> omega
      · obtain ⟨j, rfl⟩ : ∃ j : Nat, p = -(j : Int) := ⟨(-p).toNat, by omega⟩
        rw [order_num s m j is_0, cmp_eq] at h
        simp only [decide_eq_true_eq, Int.zero_mul] at h
        cases s <;> simp only [sg, Bool.false_eq_true, if_false, if_true] at h <;> omega
    subst hm
    unfold NZ
    rcases read_number hr with ⟨_, _, h⟩ | ⟨h, _⟩
    · omega
    · omega

theorem plain_eq (b : Nat) (hb : b < 18446744073709551616) :
    (numOf b).isSome = (geB b && leB b && wholeB b && (!zeroB b || !decide (9223372036854775808 ≤ b))) := by
  cases hn : numOf b with
  | some n =>
    obtain ⟨hr, rfl⟩ := numOf_some.1 hn
    obtain ⟨h1, h2, h3, h4⟩ := W_geB hr
    rw [h1, h2, h3]
    cases hz : zeroB (W n) with
    | false => rfl
    | true => rw [h4 hz]; rfl
  | none =>
    symm
    by_cases h1 : geB b = true
    · by_cases h2 : leB b = true
      · obtain ⟨s, m, j, hr, hk⟩ := near_num h1 h2
        cases h3 : wholeB b with
        | false => simp
        | true =>
          unfold wholeB at h3
          rw [trunc_num hr hk, ord_eq, hr, order_num s m j (is_R s _ (by omega)), cmp_eq, sg_mul] at h3
          simp only [decide_eq_true_eq, sg_inj] at h3
          have hbR := num_whole hb hr hk h3
          by_cases h0 : m / 2 ^ j = 0
          · rw [h0] at hbR
            cases s with
            | false =>
              have : numOf b = some 0 := numOf_some.2 ⟨by omega, by rw [hbR]; decide +kernel⟩
              rw [this] at hn; cases hn
            | true =>
              rw [hbR]; simp [R]; intro _; decide +kernel
          · rw [R_sg s _ h0 (by omega)] at hbR
            have : numOf b = some (sg s (m / 2 ^ j)) := numOf_some.2 ⟨sg_rng s _ hk, hbR⟩
            rw [this] at hn; cases hn
      · simp [h2]
    · simp [h1]

theorem trunc_ok {b : Nat} (h1 : geB b = true) : (double.read b).isNaN = false := by
  unfold geB at h1
  rw [ord_eq] at h1
  cases hr : double.read b with
  | nan s t => rw [hr] at h1; simp [Datum.order] at h1
  | infinity s => rfl
  | number s m p => rfl

/-- what 'int(f)' gives within the bounds, and that turning it back is f just where f is a number (or -0) -/
theorem part_eq {b : Nat} (hb : b < 18446744073709551616) (h1 : geB b = true) (h2 : leB b = true) (h0 : zeroB b = true → b = 0) :
    ∃ n : Int, floatToIntVal .f64 b .i64 = some n ∧ -16777216 ≤ n ∧ n ≤ 16777216 ∧ ((ord (floatOfInt .f64 n) b == some .eq) = (numOf b).isSome) ∧ (numOf b = some n ∨ numOf b = none) := by
  obtain ⟨s, m, j, hr, hk⟩ := near_num h1 h2
  have hr' : FloatKind.f64.decode b = .number s m (-(j : Int)) := hr
  refine ⟨sg s (m / 2 ^ j), ?_, ?_, ?_, ?_, ?_⟩
  · unfold floatToIntVal
    rw [hr', toInt_num]
    have hlo : IntKind.i64.min = -9223372036854775808 := by decide
    have hhi : IntKind.i64.max = 9223372036854775807 := by decide
    simp only [hlo, hhi]
    rw [if_pos (by have := sg_rng s _ hk; omega)]
  · exact (sg_rng s _ hk).1
  · exact (sg_rng s _ hk).2
  · have hi := isW_read (x := floatOfInt .f64 (sg s (m / 2 ^ j))) (n := sg s (m / 2 ^ j)) (by rw [sg_abs]; omega) (W_isW _)
    cases hn : numOf b with
    | some n =>
      obtain ⟨hrn, rfl⟩ := numOf_some.1 hn
      have hi2 := isW_read (n := n) (by omega) (W_isW n)
      have ht := toInt_is hi2
      rw [hr, toInt_num] at ht
      rw [Option.some.inj ht] at hi ⊢
      rw [ord_eq, order_is hi hi2, cmp_eq]; simp
    | none =>
      simp only [Option.isSome_none, beq_eq_false_iff_ne, ne_eq]
      intro he
      have hsym : (double.read b).order (double.read (floatOfInt .f64 (sg s (m / 2 ^ j)))) = some .eq := by
        rw [ord_eq, hr] at he
        rw [hr]
        obtain ⟨t, i, hd, _⟩ := hi
        rw [hd] at he ⊢
        simp only [Datum.order, Option.some.injEq] at he ⊢
        rw [Int.min_comm] at he
        rw [Int.compare_eq_eq] at he ⊢
        exact he.symm
      rw [hr, order_num s m j hi, Option.some.injEq, Int.compare_eq_eq, sg_mul, sg_inj] at hsym
      have hbR := num_whole hb hr hk hsym
      have : numOf b = some (sg s (m / 2 ^ j)) := by
        by_cases hz : m / 2 ^ j = 0
        · have hb0 : b = 0 := by
            apply h0; unfold zeroB; rw [ord_eq, hbR, order_is (is_R s _ (by omega)) is_0, hz]; cases s <;> simp [sg]
          rw [hz, hb0]
          exact numOf_some.2 ⟨by cases s <;> simp [sg], by cases s <;> decide +kernel⟩
        · rw [R_sg s _ hz (by omega)] at hbR
          exact numOf_some.2 ⟨sg_rng s _ hk, hbR⟩
      rw [this] at hn; cases hn
  · cases hn : numOf b with
    | none => exact .inr rfl
    | some n =>
      obtain ⟨hrn, rfl⟩ := numOf_some.1 hn
      have ht := toInt_is (isW_read (n := n) (by omega) (W_isW n))
      rw [hr, toInt_num] at ht
      exact .inl ht.symm
end Flo
end Go.Proofs.YtbhkclkahblfnaaGreatDoor
